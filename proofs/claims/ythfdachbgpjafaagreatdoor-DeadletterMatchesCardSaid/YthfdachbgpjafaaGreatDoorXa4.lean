/- Texts merged: AtO, AtP, PsRk, AtQ, AtR, AtS, AtT, AtU, AtV, AtW, PsRm, AtZ, AtY. -/
import Derived.Test.YthfdachbgpjafaaGreatDoorXa3
import Derived.Test.YthfdachbgpjafaaGreatDoorXa2
import Derived.Test.YthfdachbgpjafaaGreatDoorXa1
set_option linter.unusedSimpArgs false
set_option linter.unusedVariables false
set_option linter.unusedSectionVars false
namespace Go.Ps
variable[Inhabited Prd]
structure GS(S:AS)(ρ:List Int)(μ:List (Option Nat))(fr:List T)(H:Hp):Prop where
 sy:Sy ρ S.nx S.cs
 hp:GH S.hp S.nl ρ μ H
 fr:GmL ρ μ S.fr fr
structure FcA(F:Tmp→Bool)(ee:Nat→Nat→FuncId→List T→Hp→Option (T×Hp))(Fc:Nat→Nat→Fc):Prop where
 own:∀n d,(Fc n d).own=F
 ee:∀n d,(Fc n d).ee=ee n d
def AvOk(P:Program)(gl:Nat→Option T)(pe:Hp→FuncId→List T→Option T)(F:Tmp→Bool)(av:List Oper)(fr:List T)(H:Hp):Prop:=
 ∀o∈av,isKey o=true∧∃d,o.dst=some d∧evalP P ⟨gl,pe⟩ (ownO F o) H fr o=some (getT fr d)
theorem AvOk.nil{P:Program}{gl:Nat→Option T}{pe:Hp→FuncId→List T→Option T}{F:Tmp→Bool}{fr:List T}{H:Hp}:AvOk P gl pe F [] fr H:=fun o h=>by simp at h
theorem opKey_ok{P:Program}{E:Env}{H:Hp}{fr:List T}{f:Operand→Operand→Bool}(hf:∀x y,f x y=true→evalT E.gl fr x=evalT E.gl fr y){o1 o2:Oper}{b1 b2:Bool}(h:opKey f o1.op o2.op=true):
  evalP P E b1 H fr o1=evalP P E b2 H fr o2:=by
 obtain⟨d1,op1,ty1,p1,a1,g1⟩:=o1;obtain⟨d2,op2,ty2,p2,a2,g2⟩:=o2;unfold opKey at h;simp only at h;split at h
 ·simp only[Bool.and_eq_true]at h;rw[Nat.eq_of_beq_eq_true h.1];simp only[evalP,hf _ _ h.2]
 ·simp only[Bool.and_eq_true]at h;rw[Nat.eq_of_beq_eq_true h.1,Nat.eq_of_beq_eq_true h.2.1];simp only[evalP,hf _ _ h.2.2]
 ·simp only[Bool.and_eq_true]at h;rw[Nat.eq_of_beq_eq_true h.1];simp only[evalP,hf _ _ h.2.1,hf _ _ h.2.2]
 ·simp only[evalP,hf _ _ h]
 ·cases h
theorem dstIs_ok{o:Oper}{d:Tmp}(h:dstIs o d=true):o.dst=some d:=by
 unfold dstIs at h;split at h
 ·rename_i e he;rw[he,Nat.eq_of_beq_eq_true h]
 ·cases h
theorem eqO_ok{P:Program}{gl:Nat→Option T}{pe:Hp→FuncId→List T→Option T}{F:Tmp→Bool}{av:List Oper}{fr:List T}{H:Hp}(ha:AvOk P gl pe F av fr H):∀(n:Nat) (x y:Operand),eqO av n x y=true→evalT gl fr x=evalT gl fr y:=by
 intro n;have same:∀x y,sameTmp x y=true→evalT gl fr x=evalT gl fr y:=by
  intro x y h;unfold sameTmp at h;split at h
  ·rw[Nat.eq_of_beq_eq_true h]
  ·cases h
 induction n with
 |zero=>intro x y h;exact same x y h
 |succ n ih=>
  intro x y h;simp only[eqO,Bool.or_eq_true]at h;rcases h with h|h
  ·exact same x y h
  ·split at h
   ·rename_i a b;obtain⟨oa,m1,h1⟩:=List.any_eq_true.1 h;simp only[Bool.and_eq_true]at h1;obtain⟨h1,h2⟩:=h1;obtain⟨ob,m2,h3⟩:=List.any_eq_true.1 h2;simp only[Bool.and_eq_true]at h3;obtain⟨h3,h4⟩:=h3;obtain⟨_,d1,e1,e2⟩:=ha oa m1;obtain⟨_,d2,e3,e4⟩:=ha ob m2;rw[dstIs_ok h1]at e1;cases e1;rw[dstIs_ok h3]at e3;cases e3;have:=opKey_ok (P:=P) (E:=⟨gl,pe⟩) (H:=H) (fr:=fr) (b1:=ownO F oa) (b2:=ownO F ob) ih h4;rw[e2,e4]at this;simp only[evalT];exact this
   ·cases h
theorem cse_ok{P:Program}{gl:Nat→Option T}{pe:Hp→FuncId→List T→Option T}{F:Tmp→Bool}{av:List Oper}{fr:List T}{H:Hp}(ha:AvOk P gl pe F av fr H){o:Oper}{d:Tmp}(h:cse av o=some d):
  evalP P ⟨gl,pe⟩ (ownO F o) H fr o=some (getT fr d):=by
 unfold cse at h;split at h
 ·rename_i o1 hf;obtain⟨_,d1,e1,e2⟩:=ha o1 (List.mem_of_find?_eq_some hf);rw[h]at e1;cases e1;have hk:=List.find?_some (p:=fun o1:Oper=>opKey (eqO av 6) o1.op o.op) hf;rw[←e2];exact(opKey_ok (P:=P) (E:=⟨gl,pe⟩) (fun x y q=>eqO_ok ha 6 x y q) hk).symm
 ·cases h
theorem hitN_ok:∀{l:List Tmp} {d:Tmp},hitN d l=false→d∉l
 |[],d,_ =>by simp
 |x::xs,d,h=>by
  simp only[hitN,Bool.or_eq_false_iff]at h;simp only[List.mem_cons,not_or];exact⟨fun e=>by subst e;simp at h,hitN_ok h.2⟩
theorem evalT_set{gl:Nat→Option T}{fr:List T}{d:Tmp}{v:T}{x:Operand}(h:∀t,x= .tmp t→t≠d):evalT gl (fr.set d v) x=evalT gl fr x:=by
 cases x with
 |tmp t=>
  have:=h t rfl;simp only[evalT,getT_eq,List.getD_eq_getElem?_getD];rw[List.getElem?_set_ne (fun e=>this e.symm)]
 |_ =>rfl
theorem key_set{P:Program}{E:Env}{H:Hp}{fr:List T}{o:Oper}{b:Bool}(hk:isKey o=true){d:Tmp}{v:T}(h:d∉readsT o):evalP P E b H (fr.set d v) o=evalP P E b H fr o:=by
 obtain⟨dst,op,ty,pos,after,guard⟩:=o;have hx:∀x∈op.operands.toList,∀t,x= .tmp t→t≠d:=by
  intro x hx t he hd;subst he hd;exact h (List.mem_filterMap.2 ⟨_,hx,rfl⟩)
 have hx':∀x,x∈op.operands.toList→evalT E.gl (fr.set d v) x=evalT E.gl fr x:=fun x hm=>evalT_set (hx x hm);cases op<;>simp only[isKey]at hk<;>try(cases hk;done)
 case move x=>simp only[evalP,hx' x (by simp[Op.operands])]
 case load t a=>simp only[evalP,hx' a (by simp[Op.operands])]
 case fieldAddr s x f=>simp only[evalP,hx' x (by simp[Op.operands])]
 case indexAddr t x i=>simp only[evalP,hx' x (by simp[Op.operands]),hx' i (by simp[Op.operands])]
theorem keepAv_ok{P:Program}{gl:Nat→Option T}{pe:Hp→FuncId→List T→Option T}{F:Tmp→Bool}{fr:List T}{H:Hp}{d:Tmp}{v:T}:∀{av:List Oper},AvOk P gl pe F av fr H→AvOk P gl pe F (keepAv d av) (fr.set d v) H
 |[],_ => .nil
 |o::r,ha=>by
  have ih:=keepAv_ok (d:=d) (v:=v) (fun x hx=>ha x (List.mem_cons_of_mem _ hx):AvOk P gl pe F r fr H);simp only[keepAv];split
  ·exact ih
  ·rename_i hc;simp only[Bool.or_eq_true,not_or,Bool.not_eq_true]at hc;intro x hx;rcases List.mem_cons.1 hx with rfl|hx
   ·obtain⟨k1,e,k2,k3⟩:=ha x List.mem_cons_self;refine⟨k1,e,k2,?_⟩;rw[key_set k1 (hitN_ok hc.2),k3];have hne:e≠d:=by
     intro he;subst he;have:=hc.1;unfold dstIs at this;rw[k2]at this;simp at this
    simp only[getT_eq,List.getD_eq_getElem?_getD];rw[List.getElem?_set_ne (fun q=>hne q.symm)]
   ·exact ih x hx
theorem pushAv_ok{P:Program}{gl:Nat→Option T}{pe:Hp→FuncId→List T→Option T}{F:Tmp→Bool}{fa:List A}{fr:List T}{H:Hp}(hl:fa.length=fr.length){av:List Oper}(ha:AvOk P gl pe F av fr H){o:Oper}{v:T}(he:evalP P ⟨gl,pe⟩ (ownO F o) H fr o=some v):
  AvOk P gl pe F (pushAv fa o av) (putT fr o.dst v) H:=by
 unfold pushAv;split
 ·rename_i d hd;rw[hd];simp only[putT];split
  ·rename_i hc;simp only[Bool.and_eq_true,Bool.not_eq_true']at hc;intro x hx;rcases List.mem_cons.1 hx with rfl|hx
   ·refine⟨hc.1,d,hd,?_⟩;rw[key_set hc.1 (hitN_ok hc.2.2),he];have hlt:d<fr.length:=by rw[←hl];simpa [Nat.blt,Nat.lt_iff_add_one_le]using hc.2.1
    simp only[getT_eq,List.getD_eq_getElem?_getD];rw[List.getElem?_set_self hlt];rfl
   ·exact keepAv_ok ha x hx
  ·exact keepAv_ok ha
 ·rename_i hd;rw[hd];exact ha
theorem catM_mem{α β:Type}{f:α→Option (List β)}:∀{l:List α} {r:List β},catM f l=some r→∀x∈l,∃q,f x=some q∧∀y∈q,y∈r
 |a::a_s,r,h,x,hx=>by
  simp only[catM]at h;split at h
  ·rename_i q hq;split at h
   ·rename_i s hs;cases h;rcases List.mem_cons.1 hx with rfl|hx
    ·exact⟨q,hq,fun y hy=>List.mem_append_left _ hy⟩
    ·obtain⟨p,h1,h2⟩:=catM_mem hs x hx;exact⟨p,h1,fun y hy=>List.mem_append_right _ (h2 y hy)⟩
   ·cases h
  ·cases h
theorem GmL.setSame{ρ:List Int}{μ:List (Option Nat)}{a_s:List A}{ts:List T}(h:GmL ρ μ a_s ts){a:A}{d:Nat}(ha:Gm ρ μ a (getT ts d)):GmL ρ μ (setS a a_s d) ts:=by
 rw[setS_eq];refine⟨by simp[h.1],fun j b u hb hu=> ?_⟩;rw[List.getElem?_set]at hb;split at hb
 ·rename_i hd;subst hd;split at hb
  ·cases hb;rw[getT_eq,List.getD_eq_getElem?_getD,hu]at ha;exact ha
  ·cases hb
 ·exact h.2 j b u hb hu
theorem GmL.put{ρ:List Int}{μ:List (Option Nat)}{a_s:List A}{ts:List T}(h:GmL ρ μ a_s ts){a:A}{t:T}(ha:Gm ρ μ a t)(dst:Option Tmp):GmL ρ μ (putA a_s dst a) (putT ts dst t):=by
 cases dst with
 |none=>exact h
 |some d=>simp only[putA,putT];rw[setS_eq];exact h.set ha d
theorem GmL.setS{ρ:List Int}{μ:List (Option Nat)}{a_s:List A}{ts:List T}(h:GmL ρ μ a_s ts){a:A}{t:T}(ha:Gm ρ μ a t)(d:Nat):GmL ρ μ (Go.Ps.setS a a_s d) (ts.set d t):=by
 rw[setS_eq];exact h.set ha d
section
variable{ρ ρ':List Int}{μ μ':List (Option Nat)}{X:AX}{gl:Nat→Option T}{pe:Hp→FuncId→List T→Option T}{H:Hp}{S:AS}{P:Program}
variable{call:FuncId→List A→AS→Option (List AR)}{ee:Nat→Nat→FuncId→List T→Hp→Option (T×Hp)}{F:Tmp→Bool}{Fe:Nat→Nat→Fc}{fr:List T}
theorem GS.sym(h:GS S ρ μ fr H){n:Nat}{cs:List Con}(he:Ext ρ ρ')(hs:Sy ρ' n cs):GS {S with nx:=n,cs:=cs} ρ' μ fr H:=⟨hs,h.hp.ext he,h.fr.ext he (.refl _)⟩
theorem insertA_ok(hs:Sy ρ S.nx S.cs)(hh:GH S.hp S.nl ρ μ H){t:TypeId}{m k x:A}{y z u:T}(hm:Gm ρ μ m y)(hk:Gm ρ μ k z)(hx:Gm ρ μ x u){R:AR}(h:insertA P S t m k x=some R):
  ∃H',updT P H t y z u=some H'∧ROk ρ μ R undefT H':=by
 unfold insertA at h;split at h
 ·rename_i l ik s c;split at h
  ·rename_i hc;simp only[Bool.and_eq_true,beq_iff_eq]at hc;obtain⟨rfl,hc⟩:=hc;have hc:s=0:=Nat.eq_of_beq_eq_true hc;subst hc;cases hm with
   |mp _ l' hl'=>
   cases hk with
   |int _ _ _ v hv hin=>
   rw[hs.zero]at hv;cases hv;simp only[Int.zero_add]at*;split at h
   ·rename_i es hf;split at h
    ·rename_i kt et hu;split at h
     ·rename_i ik hik;split at h
      ·rename_i hno;cases h;obtain⟨o,o1,c0,ms,o2,o3,o4⟩:=hh.atN hf hl';have hkey:keyOk P kt (.int .i64 c)=true:=by simp[keyOk,keyOk1,hik]
       have hfm:=(findK_ok (ρ:=ρ) (μ:=μ) hik (k:=c) es ms 0 o3 o4).2 hno;have hseek:seekT P H t (.mp l') (.int .i64 c)=some (l',o,c0,ms,et,none):=by
        simp only[seekT,hu,o1,o2,hkey,if_true,hfm]
       refine⟨putM H l' o (c0+1) (ms++[(c0,.int .i64 c,u)]),by simp only[updT,hseek],ρ,μ,.refl _,.refl _,hs,?_,gm_undef⟩;refine hh.putL hf hl' (o':= .map (es++[(c,x)])) ⟨c0+1,ms++[(c0,.int .i64 c,u)],rfl,by simp[o3],fun j k a hj=> ?_⟩ rfl;by_cases hjl:j<es.length
       ·rw[List.getElem?_append_left hjl]at hj;obtain⟨c',v,q1,q2⟩:=o4 j k a hj;exact⟨c',v,by rw[List.getElem?_append_left (by omega)];exact q1,q2⟩
       ·rw[List.getElem?_append_right (by omega)]at hj;have:j-es.length=0:=by
         have:=(List.getElem?_eq_some_iff.1 hj).1;simp at this;exact this
        rw[this]at hj;simp only[List.getElem?_cons_zero,Option.some.injEq,Prod.mk.injEq]at hj;obtain⟨rfl,rfl⟩:=hj;exact⟨c0,u,by rw[List.getElem?_append_right (by omega),show j-ms.length=0 by omega];rfl,hx⟩
      ·cases h
     ·cases h
    ·cases h
   ·cases h
  ·cases h
 ·cases h
theorem newMap_ok(hs:Sy ρ S.nx S.cs)(hh:GH S.hp S.nl ρ μ H){t:TypeId}:ROk ρ μ ⟨.mp S.nl,(S.nl,.map [])::S.hp,S.nx,S.nl+1,S.cs⟩ (.mp H.next) (H.new {elem:=t,sz:=0,cells:=[],me:=some (.map 0 [])}):=
 ⟨ρ,μ++[some H.next],.refl _,.app _ _,hs,hh.newL ⟨0,[],rfl,rfl,fun j k a h=>by simp at h⟩ rfl,.mp _ _ (app_last hh.len _)⟩
theorem absE_ok(hc:Cn X gl pe)(hcall:CallA call ee)(hF:FcA F ee Fe)(hg:GS S ρ μ fr H){o:Oper}{rs:List AR}(h:absE P X (pureApp F o.dst) call S o=some rs):
  ∃t H',Ev (fun n d=>effT P ⟨gl,pe⟩ (Fe n d) H fr o=some (t,H'))∧∃R∈rs,ROk ρ μ R t H':=by
 have ev:∀{x:Operand} {a:A},evA X.gl S.fr x=some a→∃t,evalT gl fr x=some t∧Gm ρ μ a t:=fun h=>evA_ok hc.gl hg.sy.zero hg.fr h;obtain⟨dst,op,type,pos,after,guard⟩:=o;cases op<;>simp only[absE]at h<;>simp only[effT]<;>try(cases h;done)
 case alloc t=>
  split at h
  ·rename_i z hz;split at h
   ·rename_i hk;cases h;obtain⟨z',e1,e2⟩:=zeroA_ok (ρ:=ρ) (μ:=μ) hg.sy.zero hz;exact⟨.ptr H.next 0,H.new {elem:=t,sz:=0,cells:=z'.cells},.of fun n d=>by simp only[e1],_,List.mem_singleton_self _,newPtr_ok hg.sy hg.hp ⟨⟨rfl,rfl⟩,(known_gm e2 hk).2⟩⟩
   ·cases h
  ·cases h
 case box t x=>
  split at h
  ·rename_i y hy;split at h
   ·rename_i hk;cases h;obtain⟨z,e1,e2⟩:=ev hy;exact⟨.ptr H.next 0,H.new {elem:=t,sz:=0,cells:=z.cells},.of fun n d=>by simp only[e1],_,List.mem_singleton_self _,newPtr_ok hg.sy hg.hp ⟨⟨rfl,rfl⟩,(known_gm e2 hk).2⟩⟩
   ·cases h
  ·cases h
 case buildSlice t len parts=>
  split at h
  ·rename_i l hl;obtain⟨R,hR,rfl⟩:=Option.map_eq_some_iff.1 h;obtain⟨qs,e1,e2,e3⟩:=pairsA_ok hc.gl hg.sy.zero hg.fr hl;obtain⟨e,xs,s,q1,q2,q3,q4⟩:=buildSliceA_ok hg.sy hg.hp e2 e3 hR;exact⟨_,_,.of fun n d=>by simp only[e1,q1,q2,q3],R,List.mem_singleton_self _,q4⟩
  ·cases h
 case store t p x=>
  split at h
  ·rename_i q y hq hy;obtain⟨R,hR,rfl⟩:=Option.map_eq_some_iff.1 h;obtain⟨q',e1,e2⟩:=ev hq;obtain⟨y',e3,e4⟩:=ev hy;obtain⟨H',q1,q2⟩:=storeA_ok hg.sy hg.hp e2 e4 hR;exact⟨_,H',.of fun n d=>by simp only[e1,e3,q1],R,List.mem_singleton_self _,q2⟩
  ·cases h
 case makeMap t r=>
  split at h
  ·cases h;exact⟨_,_,.of fun n d=>by simp only[optT,hintOk,if_true];rfl,_,List.mem_singleton_self _,newMap_ok hg.sy hg.hp⟩
  ·cases h
 case mapUpdate t m k x=>
  split at h
  ·rename_i a b v ha hb hv;obtain⟨R,hR,rfl⟩:=Option.map_eq_some_iff.1 h;obtain⟨a',e1,e2⟩:=ev ha;obtain⟨b',e3,e4⟩:=ev hb;obtain⟨v',e5,e6⟩:=ev hv;obtain⟨H',q1,q2⟩:=insertA_ok hg.sy hg.hp e2 e4 e6 hR;exact⟨_,H',.of fun n d=>by simp only[e1,e3,e5,q1],R,List.mem_singleton_self _,q2⟩
  ·cases h
 case insert t m k x=>
  split at h
  ·rename_i a b v ha hb hv;obtain⟨R,hR,rfl⟩:=Option.map_eq_some_iff.1 h;obtain⟨a',e1,e2⟩:=ev ha;obtain⟨b',e3,e4⟩:=ev hb;obtain⟨v',e5,e6⟩:=ev hv;obtain⟨H',q1,q2⟩:=insertA_ok hg.sy hg.hp e2 e4 e6 hR;exact⟨_,H',.of fun n d=>by simp only[e1,e3,e5,q1],R,List.mem_singleton_self _,q2⟩
  ·cases h
 case makeSlice t l c=>
  split at h
  ·rename_i q y hq hy;obtain⟨R,hR,rfl⟩:=Option.map_eq_some_iff.1 h;obtain⟨q',e1,e2⟩:=ev hq;obtain⟨y',e3,e4⟩:=ev hy;obtain⟨r,H',q1,q2⟩:=makeSliceA_ok hg.sy hg.hp e2 e4 hR;exact⟨r,H',.of fun n d=>by simp only[e1,e3,q1],R,List.mem_singleton_self _,q2⟩
  ·cases h
 case call c=>
  split at h
  ·rename_i f hcal;rw[hcal];simp only;split at h
   ·rename_i g first cap hf
    split at h
    ·split at h
     ·rename_i ars har;obtain⟨t,e1,e2⟩:=ev hf;cases e2 with
      |fn _ _ _ f' c' h1 h2 h3 h4=>
      obtain⟨ts,e3,e4⟩:=evAll_ok hc.gl hg.sy.zero hg.fr har;obtain⟨r,H',q1,R,q2,q3⟩:=hcall _ _ _ _ h ρ μ H _ hg.sy hg.hp ((GmL.app ⟨h1,h2⟩ e4).app ⟨h3,h4⟩);refine⟨r,H',q1.mono fun n d q=> ?_,R,q2,q3⟩;simp only[e1,e3,hF.ee];exact q
     ·cases h
    ·cases h
   ·cases h
  ·rename_i hcal;rw[hcal];simp only;split at h
   ·rename_i s x t t' ha ht;split at h
    ·rename_i a b hsa hxb;obtain⟨R,hR,rfl⟩:=Option.map_eq_some_iff.1 h;obtain⟨q',e1,e2⟩:=ev hsa;obtain⟨y',e3,e4⟩:=ev hxb;split at hR
     ·rename_i hpa;obtain⟨r,H',q1,q2⟩:=appendNA_ok hg.sy hg.hp e2 e4 hR;exact⟨r,H',.of fun n d=>by simp only[ha,ht,e1,e3,hF.own,appT];rw[if_pos hpa];exact q1,R,List.mem_singleton_self _,q2⟩
     ·rename_i hpa;obtain⟨r,H',q1,q2⟩:=appendA_ok hg.sy hg.hp e2 e4 hR;exact⟨r,H',.of fun n d=>by simp only[ha,ht,e1,e3,hF.own,appT];rw[if_neg hpa];exact q1,R,List.mem_singleton_self _,q2⟩
    ·cases h
   ·cases h
  ·cases h
noncomputable def coreE(P:Program)(E:Env)(F:Fc)(s:Fx)(o:Oper):Option Fx:=
 match evalP P E (ownD F o) s.H s.fr o with
 |some v=>some {s with fr:=putT s.fr o.dst v}
 |none=>
  match allocOf F o with
  |some (d,t)=>if s.pend.isSome then none else match szT P t,zeroT P t with
   |some n,some z=>if z.cells.length=n∧d<s.fr.length then some {s with fr:=s.fr.set d undefT,pend:=some (d,t)}else none
   |_,_ =>none
  |none=>match effT P E F s.H s.fr o with
   |some (v,H')=>some {s with fr:=putT s.fr o.dst v,H:=H'}
   |none=>none
theorem plainE_eq{E:Env}{F:Fc}{ops:Array Oper}{s:Fx}{o:Oper}:plainE P E F ops s o=if wantedT ops s.fr o then coreE P E F s o else some {s with fr:=putT s.fr o.dst undefT}:=rfl
def AfOk(P:Program)(gl:Nat→Option T)(pe:Hp→FuncId→List T→Option T)(F:Tmp→Bool)(l:List Af)(ρ:List Int)(μ:List (Option Nat))(fr:List T)(H:Hp)(pd:Option (Tmp×TypeId)):Prop:=
 ∃s∈l,∃ρ' μ',Ext ρ ρ'∧Ext μ μ'∧s.pend=pd∧GS s.S ρ' μ' fr H∧AvOk P gl pe F s.av fr H
theorem isEff_none(hc:Cn X gl pe){ρ:List Int}{μ:List (Option Nat)}(h0:ρ[0]? =some 0){fa:List A}(hf:GmL ρ μ fa fr){own:Bool}{o:Oper}(h:isEff X own fa o=true)(hb:bsOwn own o=true):
  evalP P ⟨gl,pe⟩ own H fr o=none:=by
 obtain⟨dst,op,type,pos,after,guard⟩:=o;cases op<;>simp only[isEff]at h<;>try(cases h;done)
 case alloc=>rfl
 case box=>simp only[evalP];rw[if_pos h]
 case buildSlice=>simp only[evalP];rw[if_pos h]
 case store=>rfl
 case makeSlice=>rfl
 case makeMap=>rfl
 case mapUpdate=>rfl
 case insert=>rfl
 case call c=>
  split at h
  ·rename_i hcal;simp only[evalP,evalC,hcal]
  ·rename_i f hcal;simp only[evalP,evalC,hcal];split at h
   ·rename_i g a b hg;obtain⟨t,e1,e2⟩:=evA_ok hc.gl h0 hf hg;cases e2 with
    |fn _ _ _ f' c' h1 h2 h3 h4=>
    simp only[e1];split
    ·exact hc.inl g _ _ h
    ·rfl
   ·cases h
  ·cases h
theorem pendA_eq(hF:FcA F ee Fe)(o:Oper)(n d:Nat):allocOf (Fe n d) o=pendA F o:=by
 obtain⟨dst,op,type,pos,after,guard⟩:=o;cases op<;>simp only[allocOf,pendA,hF.own];cases dst<;>rfl
theorem ownO_eq(hF:FcA F ee Fe)(o:Oper)(n d:Nat):ownD (Fe n d) o=ownO F o:=by
 unfold ownD ownO;rw[hF.own];cases o.dst<;>rfl
theorem coreA_ok(hc:Cn X gl pe)(hcall:CallA call ee)(hF:FcA F ee Fe){s:Af}(hg:GS s.S ρ μ fr H)(hav:AvOk P gl pe F s.av fr H){o:Oper}{l:List Af}(h:coreA P X call F s o=some l):
  ∃fr' H' pd,Ev (fun n d=>coreE P ⟨gl,pe⟩ (Fe n d) ⟨fr,H,s.pend⟩ o=some ⟨fr',H',pd⟩)∧AfOk P gl pe F l ρ μ fr' H' pd:=by
 unfold coreA at h;split at h
 ·rename_i d t hpd;split at h
  ·cases h
  ·rename_i hpn;split at h
   ·rename_i n z hn hz;split at h
    ·rename_i hcc;cases h;simp only[Bool.and_eq_true]at hcc;obtain⟨⟨k1,k2⟩,k3⟩:=hcc;obtain⟨z',e1,e2⟩:=zeroA_ok (ρ:=ρ) (μ:=μ) hg.sy.zero hz;have hzl:z'.cells.length=n:=by rw[←(known_gm e2 k2).2.1];exact nat_beq k1
     have hal:∃e,o.op= .alloc e:=by
      obtain⟨dst,op,type,pos,after,guard⟩:=o;cases op<;>simp only[pendA]at hpd<;>first|exact⟨_,rfl⟩|cases hpd
     refine⟨fr.set d undefT,H,some (d,t),.of fun n' d'=> ?_,_,List.mem_singleton_self _,ρ,μ,.refl _,.refl _,rfl,⟨hg.sy,hg.hp,hg.fr.setS gm_undef d⟩,.nil⟩;have he:evalP P ⟨gl,pe⟩ (ownD (Fe n' d') o) H fr o=none:=by
      obtain⟨e,he⟩:=hal;simp only[evalP,he]
     unfold coreE;simp only[he,pendA_eq hF,hpd,hn,e1];rw[if_neg (by simpa using hpn),if_pos ⟨hzl,by rw[←hg.fr.1];exact nat_blt k3⟩]
    ·cases h
   ·cases h
 ·rename_i hpd;split at h
  ·rename_i heff;by_cases hbs:bsOwn (ownO F o) o=true
   ·rw[if_pos hbs]at h;split at h
    ·rename_i rs hrs;cases h;obtain⟨t,H',q1,R,q2,ρ',μ',q3,q4,q5,q6,q7⟩:=absE_ok hc hcall hF hg hrs;refine⟨putT fr o.dst t,H',s.pend,q1.mono fun n d q=> ?_,_,List.mem_map.2 ⟨R,q2,rfl⟩,ρ',μ',q3,q4,rfl,⟨q5,q6,(hg.fr.ext q3 q4).put q7 o.dst⟩,.nil⟩;unfold coreE;rw[ownO_eq hF];simp only[isEff_none (P:=P) (H:=H) hc hg.sy.zero hg.fr heff hbs,pendA_eq hF,hpd,q]
    ·cases h
   ·rw[if_neg hbs]at h;cases h
  ·split at h
   ·rename_i d1 hd1;cases h;have q1:=cse_ok hav hd1;refine⟨putT fr o.dst (getT fr d1),H,s.pend,.of fun n d=> ?_,_,List.mem_singleton_self _,ρ,μ,.refl _,.refl _,rfl,⟨hg.sy,hg.hp,hg.fr.put (hg.fr.get d1) o.dst⟩,pushAv_ok hg.fr.1 hav q1⟩;unfold coreE;rw[ownO_eq hF];simp only[q1]
   ·split at h
    ·rename_i v hv;cases h;obtain⟨t,q1,ρ',q2,q3,q4⟩:=absP_ok hc hg.sy hg.hp hg.fr hv;refine⟨putT fr o.dst t,H,s.pend,.of fun n d=> ?_,_,List.mem_singleton_self _,ρ',μ,q2,.refl _,rfl,⟨q3,hg.hp.ext q2,(hg.fr.ext q2 (.refl _)).put q4 o.dst⟩,pushAv_ok hg.fr.1 hav q1⟩;unfold coreE;rw[ownO_eq hF];simp only[q1]
    ·cases h
theorem guard1_ok(hg:GS S ρ μ fr H){d:Tmp}{want:Bool}{a:A}(ha:Gm ρ μ a (getT fr d)){l:List (Bool×AS)}(h:guard1 S d want a=some l):
  ∃q∈l,q.1=((match fr[d]? with|some (.bool b)=>some b|_ =>none)==some want)∧GS q.2 ρ μ fr H:=by
 unfold guard1 at h;have hgt:∀x,getT fr d=x→x≠undefT→fr[d]? =some x:=by
  intro x hx hne;rw[getT_eq,List.getD_eq_getElem?_getD]at hx;cases hf:fr[d]? with
  |none=>rw[hf]at hx;exact absurd hx.symm hne
  |some y=>rw[hf]at hx;rw[←hx];rfl
 split at h
 ·rename_i b;cases h;generalize hx:getT fr d=x at ha;cases ha with
  |bool _ b' hB=>
   obtain⟨cs',m1,m2⟩:=splitB_ok hg.sy.cs hB;have:=hgt _ hx (by simp);refine⟨_,List.mem_map.2 ⟨(b',cs'),m1,rfl⟩,?_,⟨hg.sy.len,hg.sy.zero,m2⟩,hg.hp,hg.fr.setSame (by rw[hx];exact .bool _ _ rfl)⟩;rw[this];cases b'<;>cases want<;>rfl
 ·cases h;refine⟨_,List.mem_singleton_self _,?_,hg.sy,hg.hp,hg.fr.setSame ha⟩;generalize hx:getT fr d=x at ha;cases ha with
  |tup _ ts hl _ =>
   have:ts=[]:=by cases ts with|nil=>rfl|cons=>simp at hl
   subst this;rw[getT_eq,List.getD_eq_getElem?_getD]at hx;cases hf:fr[d]? with
   |none=>cases want<;>rfl
   |some y=>rw[hf]at hx;simp only[Option.getD_some]at hx;subst hx;cases want<;>rfl
 ·cases h
theorem guardA_ok(hg:GS S ρ μ fr H){ops:Array Oper}{o:Oper}{l:List (Bool×AS)}(h:guardA ops S o=some l):∃q∈l,q.1=wantedT ops fr o∧GS q.2 ρ μ fr H:=by
 unfold guardA at h;unfold wantedT;split at h
 ·rename_i hgd;cases h;exact⟨_,List.mem_singleton_self _,by rw[hgd],hg⟩
 ·rename_i j want hgd;rw[hgd];simp only[yieldedT];split at h
  ·rename_i d hd;rw[hd];simp only[Option.bind_some];have hget:=hg.fr.get d;split at h
   ·rename_i a_s hb;rw[hb]at hget;cases hget with
    |or _ a _ hm ha=>
     obtain⟨r,r1,r2⟩:=catM_mem h a hm;obtain⟨q,q1,q2,q3⟩:=guard1_ok hg ha r1;exact⟨q,r2 q q1,q2,q3⟩
   ·obtain⟨q,q1,q2,q3⟩:=guard1_ok hg hget h;exact⟨q,q1,q2,q3⟩
  ·cases h
theorem splitI_ok(hg:GS S ρ μ fr H){i:Tmp}{k:IntKind}{s:Nat}{c w:Int}(hw:ρ[s]? =some w)(hx:getT fr i= .int k (w+c))(hk:InK k (w+c))(h0:0≤w+c):∀(n:Nat),w+c<n→∃S'∈splitI S i k s c n,GS S' ρ μ fr H
 |0,h=>by omega
 |v+1,h=>by
  simp only[splitI];by_cases hv:w+c=(v:Int)
  ·rw[if_neg]
   ·refine⟨_,List.mem_cons_self,⟨hg.sy.len,hg.sy.zero,.cons ⟨w,0,hw,hg.sy.zero,by omega⟩ (.cons ⟨0,w,hg.sy.zero,hw,by omega⟩ hg.sy.cs)⟩,hg.hp,hg.fr.setSame ?_⟩;rw[hx,hv];have:=Gm.int (ρ:=ρ) (μ:=μ) k 0 (v:Int) 0 hg.sy.zero (by rw[hv]at hk;simpa using hk);simpa using this
   ·simp only[Bool.or_eq_true,not_or,Bool.not_eq_true];refine⟨?_,?_⟩
    ·cases hq:leq S.cs s c 0 ((v:Int)-1)with
     |false=>rfl
     |true=>have:=leq_ok hg.sy.cs hq hw hg.sy.zero;omega
    ·cases hq:leq S.cs 0 ((v:Int)+1) s c with
     |false=>rfl
     |true=>have:=leq_ok hg.sy.cs hq hg.sy.zero hw;omega
  ·obtain⟨S',h1,h2⟩:=splitI_ok hg hw hx hk h0 v (by omega);split
   ·exact⟨S',h1,h2⟩
   ·exact⟨S',List.mem_cons_of_mem _ h1,h2⟩
theorem splitOp_ok(hg:GS S ρ μ fr H){o:Oper}{l:List AS}(h:splitOp X S o=some l):∃S'∈l,GS S' ρ μ fr H:=by
 unfold splitOp at h;split at h
 ·rename_i c _ _ _;split at h
  ·rename_i p n hb;cases h;have hget:=hg.fr.get c;rw[hb]at hget;generalize hx:getT fr c=x at hget;cases hget with
   |bool _ b' hB=>
    obtain⟨cs',m1,m2⟩:=splitB_ok hg.sy.cs hB;exact⟨_,List.mem_map.2 ⟨(b',cs'),m1,rfl⟩,⟨hg.sy.len,hg.sy.zero,m2⟩,hg.hp,hg.fr.setSame (by rw[hx];exact .bool _ _ rfl)⟩
  ·cases h
 ·split at h
  ·rename_i f _;split at h
   ·rename_i a_s ho;cases h;have hget:=hg.fr.get f;rw[ho]at hget;cases hget with
    |or _ a _ hm ha=>exact⟨_,List.mem_map.2 ⟨a,hm,rfl⟩,hg.sy,hg.hp,hg.fr.setSame ha⟩
   ·cases h
  ·cases h
 ·rename_i i _;split at h
  ·split at h
   ·rename_i k s c hi;split at h
    ·cases h
    ·split at h
     ·rename_i hcnd;cases h;simp only[Bool.and_eq_true]at hcnd;have hget:=hg.fr.get i;rw[hi]at hget;generalize hx:getT fr i=x at hget;cases hget with
      |int _ _ _ w hw hk=>
       have k1:=leq_ok hg.sy.cs hcnd.1 hg.sy.zero hw;have k2:=leq_ok hg.sy.cs hcnd.2 hw hg.sy.zero;exact splitI_ok hg hw hx hk (by omega) 16 (by omega)
     ·cases h
   ·cases h
  ·cases h
 ·cases h
theorem AfOk.lift{l l':List Af}{pd:Option (Tmp×TypeId)}(hl:∀y∈l,y∈l')(h:AfOk P gl pe F l ρ μ fr H pd):AfOk P gl pe F l' ρ μ fr H pd:=by
 obtain⟨s,h1,h2⟩:=h;exact⟨s,hl s h1,h2⟩
theorem AfOk.trans{l:List Af}{pd:Option (Tmp×TypeId)}(e1:Ext ρ ρ')(e2:Ext μ μ')(h:AfOk P gl pe F l ρ' μ' fr H pd):AfOk P gl pe F l ρ μ fr H pd:=by
 obtain⟨s,h1,a,b,h2,h3,h4⟩:=h;exact⟨s,h1,a,b,e1.trans h2,e2.trans h3,h4⟩
theorem plainA_ok(hc:Cn X gl pe)(hcall:CallA call ee)(hF:FcA F ee Fe){s:Af}(hg:GS s.S ρ μ fr H)(hav:AvOk P gl pe F s.av fr H){ops:Array Oper}{o:Oper}{l:List Af}(h:plainA P X call F ops s o=some l):
  ∃fr' H' pd,Ev (fun n d=>plainE P ⟨gl,pe⟩ (Fe n d) ops ⟨fr,H,s.pend⟩ o=some ⟨fr',H',pd⟩)∧AfOk P gl pe F l ρ μ fr' H' pd:=by
 unfold plainA at h;split at h
 ·rename_i gs hgs;obtain⟨q,m1,m2,m3⟩:=guardA_ok hg hgs;obtain⟨r,r1,r2⟩:=catM_mem h q m1;split at r1
  ·rename_i hq;rw[hq]at m2;split at r1
   ·rename_i ss hss;obtain⟨S',p1,p2⟩:=splitOp_ok m3 hss;obtain⟨u,u1,u2⟩:=catM_mem r1 S' p1;obtain⟨fr',H',pd,e1,e2⟩:=coreA_ok (s:={s with S:=S'}) hc hcall hF p2 hav u1;refine⟨fr',H',pd,e1.mono fun n d e=> ?_,e2.lift fun y hy=>r2 y (u2 y hy)⟩;rw[plainE_eq,if_pos m2.symm];exact e
   ·obtain⟨fr',H',pd,e1,e2⟩:=coreA_ok (s:={s with S:=q.2}) hc hcall hF m3 hav r1;refine⟨fr',H',pd,e1.mono fun n d e=> ?_,e2.lift r2⟩;rw[plainE_eq,if_pos m2.symm];exact e
  ·rename_i hq;cases r1;refine⟨putT fr o.dst undefT,H,s.pend,.of fun n d=> ?_,_,r2 _ (List.mem_singleton_self _),ρ,μ,.refl _,.refl _,rfl,⟨m3.sy,m3.hp,m3.fr.put gm_undef o.dst⟩,.nil⟩;rw[plainE_eq,if_neg (by rw[←m2];exact hq)]
 ·cases h
theorem stepE_other{E:Env}{G:Fc}{ops:Array Oper}{s:Fx}{o:Oper}{d:Tmp}{t:TypeId}(hp:s.pend=some (d,t))(hno:∀(t':TypeId) (d':Tmp) (x:Operand),o.op= .store t' (.tmp d') x→o.dst=none→o.guard=none→False):
  stepE P E G ops s o=if touchesT ops o d then none else plainE P E G ops s o:=by
 unfold stepE;rw[hp];simp only
 try(split<;>first|rfl|(rename_i h1 h2 h3;exact(hno _ _ _ h1 h2 h3).elim))
theorem stepA_ok(hc:Cn X gl pe)(hcall:CallA call ee)(hF:FcA F ee Fe){s:Af}(hg:GS s.S ρ μ fr H)(hav:AvOk P gl pe F s.av fr H){ops:Array Oper}{o:Oper}{l:List Af}(h:stepA P X call F ops s o=some l):
  ∃fr' H' pd,Ev (fun n d=>stepE P ⟨gl,pe⟩ (Fe n d) ops ⟨fr,H,s.pend⟩ o=some ⟨fr',H',pd⟩)∧AfOk P gl pe F l ρ μ fr' H' pd:=by
 unfold stepA at h;split at h
 ·rename_i hp;obtain⟨fr',H',pd,e1,e2⟩:=plainA_ok hc hcall hF hg hav h;refine⟨fr',H',pd,e1.mono fun n d e=> ?_,e2⟩;unfold stepE;simp only[hp]at e⊢;exact e
 ·rename_i d t hp;split at h
  ·rename_i t' d' x ho hdst hgd;split at h
   ·rename_i hdd;have hdd:=nat_beq hdd;split at h
    ·rename_i ht;split at h
     ·rename_i y n hy hn;split at h
      ·rename_i hk;cases h;simp only[Bool.and_eq_true]at hk;obtain⟨k1,k2,k3⟩:=hk;obtain⟨u,e1,e2⟩:=evA_ok hc.gl hg.sy.zero hg.fr hy;obtain⟨_,kc⟩:=known_gm e2 k1;have hul:u.cells.length=n:=by rw[←kc.1];exact nat_beq k2
       have hstep:∀n' d',stepE P ⟨gl,pe⟩ (Fe n' d') ops ⟨fr,H,s.pend⟩ o=some (pendS (Fe n' d') ⟨fr,H,s.pend⟩ d t u):=fun n' d2=>by
        unfold stepE;simp only[hp,ho,hdst,hgd,e1,hn];rw[if_pos hdd,if_pos ht,if_pos ⟨hul,allOneA_ok kc k3⟩]
       by_cases hFd:F (d+1000)=true
       ·refine⟨fr.set d (.ptr H.next 0),H.new {elem:=t,sz:=0,cells:=u.cells},none,.of fun n' d2=> ?_,_,List.mem_singleton_self _,?_⟩
        ·rw[hstep];unfold pendS;rw[hF.own,if_pos hFd]
        ·obtain⟨ρ',μ',q3,q4,q5,q6,q7⟩:=newPtr_ok (o:= .fix t y.cells) (b:={elem:=t,sz:=0,cells:=u.cells}) hg.sy hg.hp ⟨⟨rfl,rfl⟩,kc⟩;unfold pendSA;rw[if_pos hFd];exact⟨ρ',μ',q3,q4,rfl,⟨q5,q6,(hg.fr.ext q3 q4).setS q7 d⟩,.nil⟩
       ·refine⟨fr.set d (.ref u 0),H,none,.of fun n' d2=> ?_,_,List.mem_singleton_self _,?_⟩
        ·rw[hstep];unfold pendS;rw[hF.own,if_neg hFd]
        ·unfold pendSA;rw[if_neg hFd];exact⟨ρ,μ,.refl _,.refl _,rfl,⟨hg.sy,hg.hp,hg.fr.setS (.ref _ _ _ k1 e2) d⟩,.nil⟩
      ·cases h
     ·cases h
    ·cases h
   ·rename_i hdd;split at h
    ·cases h
    ·rename_i htc;obtain⟨fr',H',pd,e1,e2⟩:=plainA_ok hc hcall hF hg hav h;refine⟨fr',H',pd,e1.mono fun n d2 e=> ?_,e2⟩;unfold stepE;simp only[hp,ho,hdst,hgd]at e⊢;rw[if_neg (fun q=>hdd (by rw[q];simp)),if_neg htc];exact e
  ·rename_i hno;split at h
   ·cases h
   ·rename_i htc;obtain⟨fr',H',pd,e1,e2⟩:=plainA_ok hc hcall hF hg hav h;refine⟨fr',H',pd,e1.mono fun n d2 e=> ?_,e2⟩;rw[stepE_other hp hno,if_neg htc];exact e
theorem seqA_ok(hc:Cn X gl pe)(hcall:CallA call ee)(hF:FcA F ee Fe){ops:Array Oper}:∀(os:List Oper) (s:Af) (ρ:List Int) (μ:List (Option Nat)) (fr:List T) (H:Hp) (l:List Af),GS s.S ρ μ fr H→AvOk P gl pe F s.av fr H→seqA P X call F ops os s=some l→
  ∃fr' H' pd,Ev (fun n d=>evalSeq P ⟨gl,pe⟩ (Fe n d) ops os ⟨fr,H,s.pend⟩=some ⟨fr',H',pd⟩)∧AfOk P gl pe F l ρ μ fr' H' pd
 |[],s,ρ,μ,fr,H,l,hg,hav,h=>by
  simp only[seqA]at h;cases h;exact⟨fr,H,s.pend,.of fun n d=>rfl,_,List.mem_singleton_self _,ρ,μ,.refl _,.refl _,rfl,hg,hav⟩
 |o::rest,s,ρ,μ,fr,H,l,hg,hav,h=>by
  simp only[seqA]at h;split at h
  ·rename_i q hq;obtain⟨fr1,H1,pd1,e1,s1,m1,ρ1,μ1,x1,x2,x3,g1,av1⟩:=stepA_ok hc hcall hF hg hav hq;obtain⟨r,r1,r2⟩:=catM_mem h s1 m1;obtain⟨fr2,H2,pd2,e2,k2⟩:=seqA_ok hc hcall hF rest s1 ρ1 μ1 fr1 H1 r g1 av1 r1;rw[x3]at e2;refine⟨fr2,H2,pd2,(e1.and e2).mono fun n d ⟨a,b⟩=> ?_,(k2.lift r2).trans x1 x2⟩;simp only[evalSeq,a];exact b
  ·cases h
end
end Go.Ps
namespace Go.Ps
variable[Inhabited Prd]
section
variable{ρ ρ':List Int}{μ μ':List (Option Nat)}{X:AX}{gl:Nat→Option T}{pe:Hp→FuncId→List T→Option T}{H:Hp}{S:AS}{P:Program}
variable{call:FuncId→List A→AS→Option (List AR)}{ee:Nat→Nat→FuncId→List T→Hp→Option (T×Hp)}{F:Tmp→Bool}{Fe:Nat→Nat→Fc}{fr:List T}
theorem coreA_pure(hc:Cn X gl pe){s:Af}(hg:GS s.S ρ μ fr H)(hav:AvOk P gl pe F s.av fr H){o:Oper}{l:List Af}(h:coreA P X call F s o=some l)(hp:pendA F o=none)(he:isEff X (ownO F o) s.S.fr o=false):
  ∃t,evalP P ⟨gl,pe⟩ (ownO F o) H fr o=some t∧AfOk P gl pe F l ρ μ (putT fr o.dst t) H s.pend:=by
 unfold coreA at h;rw[hp]at h;simp only at h;rw[if_neg (by rw[he];simp)]at h;split at h
 ·rename_i d1 hd1;cases h;have q1:=cse_ok hav hd1;exact⟨_,q1,_,List.mem_singleton_self _,ρ,μ,.refl _,.refl _,rfl,⟨hg.sy,hg.hp,hg.fr.put (hg.fr.get d1) o.dst⟩,pushAv_ok hg.fr.1 hav q1⟩
 ·split at h
  ·rename_i v hv;cases h;obtain⟨t,q1,ρ',q2,q3,q4⟩:=absP_ok hc hg.sy hg.hp hg.fr hv;exact⟨t,q1,_,List.mem_singleton_self _,ρ',μ,q2,.refl _,rfl,⟨q3,hg.hp.ext q2,(hg.fr.ext q2 (.refl _)).put q4 o.dst⟩,pushAv_ok hg.fr.1 hav q1⟩
  ·cases h
theorem coreA_pend{s:Af}(hg:GS s.S ρ μ fr H){o:Oper}{l:List Af}(h:coreA P X call F s o=some l){d:Tmp}{t:TypeId}(hp:pendA F o=some (d,t)):
  s.pend.isSome=false∧evalP P ⟨gl,pe⟩ (ownO F o) H fr o=none∧(∃n z,szT P t=some n∧zeroT P t=some z∧z.cells.length=n)∧AfOk P gl pe F l ρ μ (fr.set d undefT) H (some (d,t)):=by
 unfold coreA at h;rw[hp]at h;simp only at h;split at h
 ·cases h
 ·rename_i hpn;split at h
  ·rename_i n z hn hz;split at h
   ·rename_i hcc;cases h;simp only[Bool.and_eq_true]at hcc;obtain⟨⟨k1,k2⟩,k3⟩:=hcc;obtain⟨z',e1,e2⟩:=zeroA_ok (ρ:=ρ) (μ:=μ) hg.sy.zero hz;have hzl:z'.cells.length=n:=by rw[←(known_gm e2 k2).2.1];exact nat_beq k1
    refine⟨by simpa using hpn,?_,⟨n,z',hn,e1,hzl⟩,_,List.mem_singleton_self _,ρ,μ,.refl _,.refl _,rfl,⟨hg.sy,hg.hp,hg.fr.setS gm_undef d⟩,.nil⟩;obtain⟨dst,op,type,pos,after,guard⟩:=o;cases op<;>simp only[pendA]at hp<;>first|rfl|cases hp
   ·cases h
  ·cases h
theorem drawA_ok(hc:Cn X gl pe)(hcall:CallA call ee)(hF:FcA F ee Fe){ops:Array Oper}:∀(os:List Oper) (m:Nat) (s:Af) (ρ:List Int) (μ:List (Option Nat)) (fr:List T) (H:Hp) (l:List Af),GS s.S ρ μ fr H→AvOk P gl pe F s.av fr H→drawA P X call F ops os m s=some l→
  ∃fr' H' pd,Ev (fun n d=>evalDraw P ⟨gl,pe⟩ (Fe n d) ops os m ⟨fr,H,s.pend⟩=some ⟨fr',H',pd⟩)∧AfOk P gl pe F l ρ μ fr' H' pd
 |[],m,s,ρ,μ,fr,H,l,hg,hav,h=>by
  simp only[drawA]at h;split at h
  ·rename_i hp;cases h;exact⟨fr,H,none,.of fun n d=>by simp only[evalDraw,hp],_,List.mem_singleton_self _,ρ,μ,.refl _,.refl _,hp,hg,hav⟩
  ·cases h
 |o::rest,m,s,ρ,μ,fr,H,l,hg,hav,h=>by
  have ih:=drawA_ok hc hcall hF (ops:=ops) rest;simp only[drawA]at h;have hph:∀fr H,pendHit ops ⟨fr,H,s.pend⟩ o=pendHitA ops s o:=fun fr H=>rfl;have seqs:∀{S':AS} {l':List Af},(∀y∈l',y∈l)→GS S' ρ μ fr H→chained (ancs ops.toList []) m ops.size=true→seqA P X call F ops (o::rest) {s with S:=S'}=some l'→
    ∃fr' H' pd,Ev (fun n d=>evalSeq P ⟨gl,pe⟩ (Fe n d) ops (o::rest) ⟨fr,H,s.pend⟩=some ⟨fr',H',pd⟩)∧AfOk P gl pe F l ρ μ fr' H' pd:=by
   intro S' l' hl hg' _ hs';obtain⟨fr',H',pd,e1,e2⟩:=seqA_ok hc hcall hF (o::rest) {s with S:=S'} ρ μ fr H l' hg' hav hs';exact⟨fr',H',pd,e1,e2.lift hl⟩
  split at h
  ·rename_i hpd;split at h
   ·rename_i hch;obtain⟨fr',H',pd,e1,e2⟩:=seqs (fun y h=>h) hg hch h;refine⟨fr',H',pd,e1.mono fun n d e=> ?_,e2⟩;simp only[evalDraw,hph];rw[if_pos hpd,if_pos hch];exact e
   ·cases h
  ·rename_i hpd;split at h
   ·cases h
   ·rename_i hdi;have hdi:¬dstIn ⟨fr,H,s.pend⟩ o=false:=by
     intro q;apply hdi;unfold dstIn at q;unfold dstInA;split at q
     ·rename_i d hd;rw[hd];simp only[decide_eq_false_iff_not]at q;simp only;rw[hg.fr.1];cases hb:Nat.blt d fr.length with
      |false=>rfl
      |true=>exact absurd (nat_blt hb) q
     ·cases q
    split at h
    ·rename_i gs hgs;obtain⟨q,m1,m2,m3⟩:=guardA_ok hg hgs;obtain⟨r,r1,r2⟩:=catM_mem h q m1;split at r1
     ·rename_i hq;rw[hq]at m2;have pureCase:∀{S':AS} {u:List Af},GS S' ρ μ fr H→pendA F o=none→isEff X (ownO F o) S'.fr o=false→coreA P X call F {s with S:=S'} o=some u→∀{v:List Af},catM (drawA P X call F ops rest (m+1)) u=some v→(∀y∈v,y∈l)→
        ∃fr' H' pd,Ev (fun n d=>evalDraw P ⟨gl,pe⟩ (Fe n d) ops (o::rest) m ⟨fr,H,s.pend⟩=some ⟨fr',H',pd⟩)∧AfOk P gl pe F l ρ μ fr' H' pd:=by
       intro S' u g' hp he hu v hv hl;obtain⟨t,e1,s1,k1,ρ1,μ1,x1,x2,x3,g1,av1⟩:=coreA_pure (s:={s with S:=S'}) hc g' hav hu hp he;obtain⟨w,w1,w2⟩:=catM_mem hv s1 k1;obtain⟨fr',H',pd,e2,e3⟩:=ih (m+1) s1 ρ1 μ1 _ _ w g1 av1 w1;refine⟨fr',H',pd,e2.mono fun n d e=> ?_,(e3.lift fun y hy=>hl y (w2 y hy)).trans x1 x2⟩;simp only[evalDraw,hph];rw[if_neg hpd,if_neg hdi,if_pos m2.symm,ownO_eq hF,e1];simp only;rw[x3]at e;exact e
      have effCase:∀{S':AS} {u:List Af},GS S' ρ μ fr H→pendA F o=none→isEff X (ownO F o) S'.fr o=true→(if(bsOwn (ownO F o) o&&chained (ancs ops.toList []) m ops.size)=true then seqA P X call F ops (o::rest) {s with S:=S'}else none)=some u→(∀y∈u,y∈l)→
        ∃fr' H' pd,Ev (fun n d=>evalDraw P ⟨gl,pe⟩ (Fe n d) ops (o::rest) m ⟨fr,H,s.pend⟩=some ⟨fr',H',pd⟩)∧AfOk P gl pe F l ρ μ fr' H' pd:=by
       intro S' u g' hp he hu hl;split at hu
       ·rename_i hch;simp only[Bool.and_eq_true]at hch;obtain⟨hbs,hch⟩:=hch;obtain⟨fr',H',pd,e1,e2⟩:=seqs hl g' hch hu;refine⟨fr',H',pd,e1.mono fun n d e=> ?_,e2⟩;simp only[evalDraw,hph];rw[if_neg hpd,if_neg hdi,if_pos m2.symm,ownO_eq hF,isEff_none (P:=P) (H:=H) hc g'.sy.zero g'.fr he hbs];simp only[pendA_eq hF,hp];rw[if_pos hch];exact e
       ·cases hu
      split at r1
      ·rename_i dt hdt;split at r1
       ·rename_i ss hss;obtain⟨d,t⟩:=dt;obtain⟨k1,k2,⟨n0,z,k3,k4,k5⟩,s1,k6,ρ1,μ1,x1,x2,x3,g1,av1⟩:=coreA_pend (gl:=gl) (pe:=pe) (s:={s with S:=q.2}) m3 hss hdt;obtain⟨w,w1,w2⟩:=catM_mem r1 s1 k6;obtain⟨fr',H',pd,e2,e3⟩:=ih (m+1) s1 ρ1 μ1 _ _ w g1 av1 w1;refine⟨fr',H',pd,e2.mono fun n d' e=> ?_,(e3.lift fun y hy=>r2 y (w2 y hy)).trans x1 x2⟩;simp only[evalDraw,hph];rw[if_neg hpd,if_neg hdi,if_pos m2.symm,ownO_eq hF,k2];simp only[pendA_eq hF,hdt,k3,k4];rw[if_neg (by simpa using k1),if_pos k5];rw[x3]at e;exact e
       ·cases r1
      ·rename_i hdt;split at r1
       ·rename_i ss hss;obtain⟨S',p1,p2⟩:=splitOp_ok m3 hss;obtain⟨u,u1,u2⟩:=catM_mem r1 S' p1;split at u1
        ·rename_i he;exact effCase p2 hdt he u1 (fun y hy=>r2 y (u2 y hy))
        ·rename_i he;split at u1
         ·rename_i w hw;exact pureCase p2 hdt (by simpa using he) hw u1 (fun y hy=>r2 y (u2 y hy))
         ·cases u1
       ·split at r1
        ·rename_i he;exact effCase m3 hdt he r1 r2
        ·rename_i he;split at r1
         ·rename_i w hw;exact pureCase m3 hdt (by simpa using he) hw r1 r2
         ·cases r1
     ·rename_i hq;obtain⟨fr',H',pd,e2,e3⟩:=ih (m+1) {S:={q.2 with fr:=putA q.2.fr o.dst (.tup [])},pend:=s.pend,av:=[]} ρ μ (putT fr o.dst undefT) H r ⟨m3.sy,m3.hp,m3.fr.put gm_undef o.dst⟩ .nil r1;refine⟨fr',H',pd,e2.mono fun n d e=> ?_,e3.lift r2⟩;simp only[evalDraw,hph];rw[if_neg hpd,if_neg hdi,if_neg (by rw[←m2];exact hq)];exact e
    ·cases h
theorem hOkA_ok(hc:Cn X gl pe)(hg:GS S ρ μ fr H){l lc:Nat}(hl:μ[l]? =some (some lc)){o:Oper}(h:hOkA X l S o=true):hOk gl lc fr o=true:=by
 unfold hOkA at h;unfold hOk;have ne:∀{l' x:Nat},μ[l']? =some (some x)→(!(Nat.beq l' l)&&((findA S.hp l).isSome&&(findA S.hp l').isSome))=true→x≠lc:=by
  intro l' x hx hh e;subst e;simp only[Bool.and_eq_true,Bool.not_eq_true']at hh;obtain⟨h1,h2,h3⟩:=hh;obtain⟨o1,q1⟩:=Option.isSome_iff_exists.1 h2;obtain⟨o2,q2⟩:=Option.isSome_iff_exists.1 h3;have:=hg.hp.inj l' l o2 o1 x q2 q1 hx hl;subst this;simp at h1
 split at h
 ·rename_i t a ho;rw[ho];simp only;split at h
  ·rename_i x off ha;obtain⟨u,u1,u2⟩:=evA_ok hc.gl hg.sy.zero hg.fr ha;cases u2;rw[u1]
  ·rename_i l' off ha;obtain⟨u,u1,u2⟩:=evA_ok hc.gl hg.sy.zero hg.fr ha;cases u2 with
   |ptr _ _ x hx=>rw[u1];simpa using ne hx h
  ·rename_i l' _ _ _ _ ha;obtain⟨u,u1,u2⟩:=evA_ok hc.gl hg.sy.zero hg.fr ha;cases u2 with
   |elp _ _ _ _ _ x w hx _ _ =>rw[u1];simpa using ne hx h
  ·cases h
 ·rename_i c ho;rw[ho];simp only;split at h
  ·rename_i hb;rw[hb];simp only;rw[List.all_eq_true]at h⊢;intro x hx;have hq:=h x hx;have no:∀(a:A) (u:T),evA X.gl S.fr x=some a→Gm ρ μ a u→evalT gl fr x=some u→(match a with| .str .. | .strc _ | .sl .. | .osl .. | .nils| .sx .. | .nilm=>true|_ =>false)=true→(match evalT gl fr x with|some (.mp _)=>false|_ =>true)=true:=by
    intro a u _ hg he ha;rw[he];cases u<;>first|rfl|(exfalso;cases a<;>first|(cases ha;done)|(cases hg<;>simp_all [IsSl]))
   cases ha:evA X.gl S.fr x with
   |none=>rw[ha]at hq;cases hq
   |some a=>
    obtain⟨u,u1,u2⟩:=evA_ok hc.gl hg.sy.zero hg.fr ha;refine no a u ha u2 u1 ?_;rw[ha]at hq;cases a<;>first|rfl|(cases hq;done)
  ·rename_i b hb hne;rw[hne];cases b<;>first|rfl|exact absurd rfl hb
  ·cases h
 ·cases h
 ·rename_i n1 n2 n3;split
  ·rename_i t a ho;exact absurd ho (n1 _ _)
  ·rename_i c ho;exact absurd ho (n2 _)
  ·rename_i ho;exact absurd ho (n3 _ _ _ _)
  ·rfl
theorem drawSA_ok(hc:Cn X gl pe)(hcall:CallA call ee)(hF:FcA F ee Fe){ops:Array Oper}{A:List Nat}{p l lc:Nat}:∀(os:List Oper) (m:Nat) (af:Bool) (s:Af) (ρ:List Int) (μ:List (Option Nat)) (fr:List T) (H:Hp) (l':List Af),GS s.S ρ μ fr H→AvOk P gl pe F s.av fr H→s.pend=none→μ[l]? =some (some lc)→drawSA P X call F ops A p l os m af s=some l'→
  ∃fr' H' pd,Ev (fun n d=>evalSt P ⟨gl,pe⟩ (Fe n d) ops A p lc os m af ⟨fr,H,none⟩=some ⟨fr',H',pd⟩)∧AfOk P gl pe F l' ρ μ fr' H' pd
 |[],m,af,s,ρ,μ,fr,H,l',hg,hav,hpn,hl,h=>by
  simp only[drawSA]at h;split at h
  ·rename_i ha;cases h;exact⟨fr,H,none,.of fun n d=>by simp only[evalSt,ha,if_true],_,List.mem_singleton_self _,ρ,μ,.refl _,.refl _,hpn,hg,hav⟩
  ·cases h
 |o::rest,m,af,s,ρ,μ,fr,H,l',hg,hav,hpn,hl,h=>by
  have ih:=drawSA_ok hc hcall hF (ops:=ops) (A:=A) (p:=p) (l:=l) (lc:=lc) rest;simp only[drawSA]at h;split at h
  ·rename_i hch;obtain⟨fr',H',pd,e1,e2⟩:=seqA_ok hc hcall hF (o::rest) s ρ μ fr H l' hg hav h;rw[hpn]at e1;refine⟨fr',H',pd,e1.mono fun n d e=> ?_,e2⟩;simp only[evalSt];rw[if_pos hch];exact e
  ·rename_i hch;split at h
   ·cases h
   ·rename_i hdi;have hdi:¬dstIn ⟨fr,H,none⟩ o=false:=by
     intro q;apply hdi;unfold dstIn at q;unfold dstInA;split at q
     ·rename_i d hd;rw[hd];simp only[decide_eq_false_iff_not]at q;simp only;rw[hg.fr.1];cases hb:Nat.blt d fr.length with
      |false=>rfl
      |true=>exact absurd (nat_blt hb) q
     ·cases q
    split at h
    ·rename_i hst;split at h
     ·cases h
     ·rename_i haf;split at h
      ·rename_i t x y hop;split at h
       ·rename_i l0 off v hx hy;split at h
        ·rename_i hll;have hll:=nat_beq hll;subst hll;split at h
         ·rename_i R hR;obtain⟨q,q1,q2⟩:=evA_ok hc.gl hg.sy.zero hg.fr hx;obtain⟨w,w1,w2⟩:=evA_ok hc.gl hg.sy.zero hg.fr hy;have q2':=q2;cases q2 with
          |ptr _ _ x0 hx0=>
          rw[hl]at hx0;cases hx0;obtain⟨H1,s1,ρ1,μ1,z1,z2,z3,z4,z5⟩:=storeA_ok hg.sy hg.hp q2' w2 hR;obtain⟨fr',H',pd,e1,e2⟩:=ih (m+1) true {S:={s.S with hp:=R.hp,nx:=R.nx,nl:=R.nl,cs:=R.cs},pend:=none,av:=[]} ρ1 μ1 fr H1 l' ⟨z3,z4,hg.fr.ext z1 z2⟩ .nil rfl (z2 _ _ hl) h;refine⟨fr',H',pd,e1.mono fun n d e=> ?_,e2.trans z1 z2⟩;simp only[evalSt];rw[if_neg hch,if_neg hdi,if_pos hst,if_neg haf];simp only[hop,q1,w1,if_true,s1];have:af=false:=by simpa using haf
          exact e
         ·cases h
        ·cases h
       ·cases h
      ·cases h
    ·rename_i hst;split at h
     ·rename_i gs hgs;obtain⟨q,m1,m2,m3⟩:=guardA_ok hg hgs;obtain⟨r,r1,r2⟩:=catM_mem h q m1;split at r1
      ·rename_i hq;rw[hq]at m2;by_cases hcc:(((if af=true then prec A m p else prec A p m)||hOkA X l q.2 o)&&((pendA F o).isNone&& !(isEff X (ownO F o) q.2.fr o)))=true
       ·rw[if_pos hcc]at r1;rw[Bool.and_eq_true,Bool.and_eq_true,Bool.not_eq_true',Option.isNone_iff_eq_none]at hcc;obtain⟨c1,c2,c3⟩:=hcc;split at r1
        ·rename_i ss hss;have hh:((if af=true then prec A m p else prec A p m)||hOk gl lc fr o)=true:=by
          rcases Bool.or_eq_true _ _ |>.mp c1 with q|q
          ·rw[q];rfl
          ·rw[hOkA_ok hc m3 hl q];simp
         obtain⟨t,e1,s1,k1,ρ1,μ1,x1,x2,x3,g1,av1⟩:=coreA_pure (s:={s with S:=q.2}) hc m3 hav hss c2 c3;obtain⟨w,w1,w2⟩:=catM_mem r1 s1 k1;obtain⟨fr',H',pd,e2,e3⟩:=ih (m+1) af s1 ρ1 μ1 _ _ w g1 av1 (by rw[x3];exact hpn) (x2 _ _ hl) w1;refine⟨fr',H',pd,e2.mono fun n d e=> ?_,(e3.lift fun y hy=>r2 y (w2 y hy)).trans x1 x2⟩;simp only[evalSt];rw[if_neg hch,if_neg hdi,if_neg hst,if_pos m2.symm,if_pos hh,ownO_eq hF,e1];exact e
        ·cases r1
       ·rw[if_neg hcc]at r1;cases r1
      ·rename_i hq;obtain⟨fr',H',pd,e2,e3⟩:=ih (m+1) af {S:={q.2 with fr:=putA q.2.fr o.dst (.tup [])},pend:=s.pend,av:=[]} ρ μ (putT fr o.dst undefT) H r ⟨m3.sy,m3.hp,m3.fr.put gm_undef o.dst⟩ .nil hpn hl r1;refine⟨fr',H',pd,e2.mono fun n d e=> ?_,e3.lift r2⟩;simp only[evalSt];rw[if_neg hch,if_neg hdi,if_neg hst,if_neg (by rw[←m2];exact hq)];exact e
     ·cases h
theorem hIndA_ok(hc:Cn X gl pe)(hg:GS S ρ μ fr H){o:Oper}(h:hIndA X S o=true):hInd gl fr o=true:=by
 unfold hIndA at h;unfold hInd;split at h
 ·rename_i t a ho;rw[ho];simp only;split at h
  ·rename_i x off ha;obtain⟨u,u1,u2⟩:=evA_ok hc.gl hg.sy.zero hg.fr ha;cases u2;rw[u1]
  ·cases h
 ·rename_i c ho;rw[ho];simp only;split at h
  ·rename_i hb;rw[hb];simp only;rw[List.all_eq_true]at h⊢;intro x hx;have hq:=h x hx;have no:∀(a:A) (u:T),Gm ρ μ a u→evalT gl fr x=some u→(match a with| .str .. | .strc _ | .sl .. | .osl .. | .nils| .sx .. | .nilm| .slk _ | .slp .. =>true|_ =>false)=true→(match evalT gl fr x with|some (.mp _)=>false|_ =>true)=true:=by
    intro a u hg he ha;rw[he];cases u<;>first|rfl|(exfalso;cases a<;>first|(cases ha;done)|(cases hg<;>simp_all [IsSl]))
   cases ha:evA X.gl S.fr x with
   |none=>rw[ha]at hq;cases hq
   |some a=>
    obtain⟨u,u1,u2⟩:=evA_ok hc.gl hg.sy.zero hg.fr ha;refine no a u u2 u1 ?_;rw[ha]at hq;cases a<;>first|rfl|(cases hq;done)
  ·rename_i b hb hne;rw[hne];cases b<;>first|rfl|exact absurd rfl hb
  ·cases h
 ·cases h
 ·rename_i n1 n2 n3;split
  ·rename_i t a ho;exact absurd ho (n1 _ _)
  ·rename_i c ho;exact absurd ho (n2 _)
  ·rename_i ho;exact absurd ho (n3 _ _ _ _)
  ·rfl
def EfOk(l:List (AS×List Nat×List Nat))(ρ:List Int)(μ:List (Option Nat))(f:List T)(H:Hp)(es ds:List Nat):Prop:=
 ∃q∈l,q.2.1=es∧(∀d∈ds,d∈q.2.2)∧∃ρ' μ',Ext ρ ρ'∧Ext μ μ'∧GS q.1 ρ' μ' f H
theorem bindA_ok{m:Nat}{e d:Bool}{l:Option (List (AS×List Nat×List Nat))}{r:List (AS×List Nat×List Nat)}(h:bindA m e d l=some r):∃l',l=some l'∧∀q∈l',(q.1,(if e then m::q.2.1 else q.2.1),(if d then m::q.2.2 else q.2.2))∈r:=by
 unfold bindA at h;split at h
 ·rename_i l';cases h;exact⟨l',rfl,fun q hq=>List.mem_map.2 ⟨q,hq,rfl⟩⟩
 ·cases h
theorem effsA_ok(hc:Cn X gl pe)(hcall:CallA call ee)(hF:FcA F ee Fe){ops:Array Oper}:∀(os:List Oper) (m:Nat) (S:AS) (ρ:List Int) (μ:List (Option Nat)) (fr:List T) (H:Hp) (l:List (AS×List Nat×List Nat)),GS S ρ μ fr H→effsA P X call F ops os m S=some l→
  ∃f H' es ds,Ev (fun n d=>effs P ⟨gl,pe⟩ (Fe n d) ops os m fr H=some (f,H',es,ds))∧EfOk l ρ μ f H' es ds
 |[],m,S,ρ,μ,fr,H,l,hg,h=>by
  simp only[effsA]at h;cases h;exact⟨fr,H,[],[],.of fun n d=>rfl,_,List.mem_singleton_self _,rfl,fun d hd=>by simp at hd,ρ,μ,.refl _,.refl _,hg⟩
 |o::rest,m,S,ρ,μ,fr,H,l,hg,h=>by
  have ih:=effsA_ok hc hcall hF (ops:=ops) rest;simp only[effsA]at h;split at h
  ·cases h
  ·rename_i hdi;have hdi:¬dstIn ⟨fr,H,none⟩ o=false:=by
    intro q;apply hdi;unfold dstIn at q;unfold dstInA;split at q
    ·rename_i d hd;rw[hd];simp only[decide_eq_false_iff_not]at q;simp only;rw[hg.fr.1];cases hb:Nat.blt d fr.length with
     |false=>rfl
     |true=>exact absurd (nat_blt hb) q
    ·cases q
   split at h
   ·rename_i gs hgs;obtain⟨q,m1,m2,m3⟩:=guardA_ok hg hgs;obtain⟨r,r1,r2⟩:=catM_mem h q m1;split at r1
    ·rename_i hq;rw[hq]at m2;have hsp:∃S'∈(match splitOp X q.2 o with|some ss=>ss|none=>[q.2]),GS S' ρ μ fr H:=by
      cases hs:splitOp X q.2 o with
      |none=>exact⟨q.2,List.mem_singleton_self _,m3⟩
      |some ss=>exact splitOp_ok m3 hs
     obtain⟨S',s1,g'⟩:=hsp;obtain⟨u,u1,u2⟩:=catM_mem r1 S' s1;have lift:∀y∈u,y∈l:=fun y hy=>r2 y (u2 y hy);split at u1
     ·rename_i heff;split at u1
      ·rename_i hbs;split at u1
       ·rename_i rs hrs;obtain⟨t,H1,e1,R,R1,ρ1,μ1,x1,x2,x3,x4,x5⟩:=absE_ok (Fe:=Fe) hc hcall hF g' hrs;obtain⟨w,w1,w2⟩:=catM_mem u1 R R1;obtain⟨l',rfl',z⟩:=bindA_ok w1;have g1:GS (S'.ofR o.dst R) ρ1 μ1 (putT fr o.dst t) H1:=⟨x3,x4,(g'.fr.ext x1 x2).put x5 o.dst⟩;obtain⟨f,H',es,ds,e2,q2,k1,k2,k3,ρ2,μ2,y1,y2,y3⟩:=ih (m+1) _ ρ1 μ1 _ _ l' g1 rfl';refine⟨f,H',m::es,ds,(e1.and e2).mono fun n d ⟨a,b⟩=> ?_,_,lift _ (w2 _ (z q2 k1)),by simp[k2],by simpa using k3,ρ2,μ2,x1.trans y1,x2.trans y2,y3⟩;simp only[effs];rw[if_neg hdi,if_pos m2.symm,ownO_eq hF,isEff_none (P:=P) (H:=H) hc g'.sy.zero g'.fr heff hbs];simp only[a,b]
       ·cases u1
      ·cases u1
     ·split at u1
      ·rename_i v hv;obtain⟨t,e1,ρ1,x1,x2,x3⟩:=absP_ok hc g'.sy g'.hp g'.fr hv;obtain⟨l',rfl',z⟩:=bindA_ok u1;have g1:GS {S' with fr:=putA S'.fr o.dst v.a,nx:=v.nx,cs:=v.cs} ρ1 μ (putT fr o.dst t) H:=⟨x2,g'.hp.ext x1,(g'.fr.ext x1 (.refl _)).put x3 o.dst⟩;obtain⟨f,H',es,ds,e2,q2,k1,k2,k3,ρ2,μ2,y1,y2,y3⟩:=ih (m+1) _ ρ1 μ _ _ l' g1 rfl';refine⟨f,H',es,if hInd gl fr o then ds else m::ds,e2.mono fun n d b=> ?_,_,lift _ (z q2 k1),by simp[k2],fun d hd=> ?_,ρ2,μ2,x1.trans y1,y2,y3⟩
       ·simp only[effs];rw[if_neg hdi,if_pos m2.symm,ownO_eq hF,e1];simp only[b]
       ·by_cases hh:hIndA X S' o=true
        ·rw[if_pos (hIndA_ok hc g' hh)]at hd;simp only[hh,Bool.not_true,Bool.false_eq_true,if_false];exact k3 d hd
        ·have hh:hIndA X S' o=false:=by simpa using hh
         simp only[hh,Bool.not_false,if_true];split at hd
         ·exact List.mem_cons_of_mem _ (k3 d hd)
         ·rcases List.mem_cons.1 hd with rfl|hd
          ·exact List.mem_cons_self
          ·exact List.mem_cons_of_mem _ (k3 d hd)
      ·cases u1
    ·rename_i hq;have hw:¬wantedT ops fr o=true:=fun e=>by rw[←m2]at e;exact hq e
     have g1:GS {q.2 with fr:=putA q.2.fr o.dst (.tup [])} ρ μ (putT fr o.dst undefT) H:=⟨m3.sy,m3.hp,m3.fr.put gm_undef o.dst⟩;obtain⟨f,H',es,ds,e2,q2,k1,k2,k3,z⟩:=ih (m+1) _ ρ μ _ _ r g1 r1;refine⟨f,H',es,ds,e2.mono fun n d b=> ?_,q2,r2 _ k1,k2,k3,z⟩;simp only[effs];rw[if_neg hdi,if_neg hw];exact b
   ·cases h
theorem okWin_sub{A es ds ds':List Nat}(h:okWin A es ds=true)(hd:∀d∈ds',d∈ds):okWin A es ds'=true:=by
 simp only[okWin,Bool.and_eq_true,List.all_eq_true]at h⊢;exact⟨h.1,fun d hdd=>h.2 d (hd d hdd)⟩
theorem draw2A_ok(hc:Cn X gl pe)(hcall:CallA call ee)(hF:FcA F ee Fe){ops:Array Oper}(hg:GS S ρ μ fr H){l':List Af}(h:draw2A P X call F ops S=some l'):
  ∃fr' H' pd,Ev (fun n d=>evalE2 P ⟨gl,pe⟩ (Fe n d) ops fr H=some ⟨fr',H',pd⟩)∧AfOk P gl pe F l' ρ μ fr' H' pd:=by
 unfold draw2A at h;split at h
 ·rename_i l hl;split at h
  ·rename_i hk;cases h;obtain⟨f,H',es,ds,e1,q,q1,q2,q3,ρ',μ',x1,x2,x3⟩:=effsA_ok (Fe:=Fe) hc hcall hF ops.toList 0 S ρ μ fr H l hg hl;have hw:=List.all_eq_true.1 hk q q1;rw[q2]at hw;refine⟨f,H',none,e1.mono fun n d e=> ?_,⟨q.1,none,[]⟩,List.mem_map.2 ⟨q,q1,rfl⟩,ρ',μ',x1,x2,rfl,x3,.nil⟩;simp only[evalE2,e];rw[if_pos (okWin_sub hw q3)]
  ·cases h
 ·cases h
theorem drawXA_ok(hc:Cn X gl pe)(hcall:CallA call ee)(hF:FcA F ee Fe){ops:Array Oper}{fl:Bool}(hg:GS S ρ μ fr H){l':List Af}(h:drawXA P X call F fl ops S=some l'):
  ∃fr' H' pd,Ev (fun n d=>evalD2 P ⟨gl,pe⟩ (Fe n d) ops fl fr H=some ⟨fr',H',pd⟩)∧AfOk P gl pe F l' ρ μ fr' H' pd:=by
 unfold drawXA at h;split at h
 ·rename_i hlk;obtain⟨fr',H',pd,e1,e2⟩:=draw2A_ok (Fe:=Fe) hc hcall hF hg h;exact⟨fr',H',pd,e1.mono fun n d e=>by unfold evalD2;rw[if_pos hlk];exact e,e2⟩
 rename_i hlk;split at h
 ·rename_i hlt;split at h
  ·rename_i b p hb hp;split at h
   ·rename_i l off hv;have hget:=hg.fr.get b;rw[hv]at hget;generalize hz:getT fr b=z at hget;cases hget with
    |ptr _ _ lc hlc=>
     obtain⟨fr',H',pd,e1,e2⟩:=drawSA_ok hc hcall hF ops.toList 0 false ⟨S,none,[]⟩ ρ μ fr H l' hg .nil rfl hlc h;refine⟨fr',H',pd,e1.mono fun n d e=> ?_,e2⟩;unfold evalD2;rw[if_neg hlk];unfold evalDrawX;rw[if_pos hlt,hb,hp];simp only[hz];exact e
   ·cases h
  ·cases h
 ·rename_i hlt;obtain⟨fr',H',pd,e1,e2⟩:=drawA_ok hc hcall hF ops.toList 0 ⟨S,none,[]⟩ ρ μ fr H l' hg .nil h;refine⟨fr',H',pd,e1.mono fun n d e=> ?_,e2⟩;unfold evalD2;rw[if_neg hlk];unfold evalDrawX;rw[if_neg hlt];exact e
end
end Go.Ps
namespace Go.Ps
noncomputable section
structure LKeep(r r':Lr):Prop where
 fr:r'.fr=r.fr
 n:r'.n=r.n
 ps:r'.ps=r.ps
 asg:r'.asg=r.asg
 bd:r'.bd=r.bd
 ow:r'.ow=r.ow
theorem LKeep.refl(r:Lr):LKeep r r:=⟨rfl,rfl,rfl,rfl,rfl,rfl⟩
theorem LKeep.trans{a b c:Lr}(h:LKeep a b)(k:LKeep b c):LKeep a c:=⟨k.fr.trans h.fr,k.n.trans h.n,k.ps.trans h.ps,k.asg.trans h.asg,k.bd.trans h.bd,k.ow.trans h.ow⟩
structure Keep(H H':Hp):Prop where
 nx:H.next≤H'.next
 lp:∀l,l<H.next→∀o' r',H'.any l=some o'→o'.me=some (.loop r')→∃o r,H.any l=some o∧o.me=some (.loop r)∧LKeep r r'
theorem Keep.refl(H:Hp):Keep H H:=⟨Nat.le_refl _,fun _ _ o' r' h1 h2=>⟨o',r',h1,h2,.refl _⟩⟩
theorem Keep.trans{A B C:Hp}(h:Keep A B)(k:Keep B C):Keep A C:=⟨Nat.le_trans h.nx k.nx,fun l hl o' r' h1 h2=>by
 obtain⟨o1,r1,q1,q2,q3⟩:=k.lp l (Nat.lt_of_lt_of_le hl h.nx) o' r' h1 h2;obtain⟨o0,r0,p1,p2,p3⟩:=h.lp l hl o1 r1 q1 q2
 exact⟨o0,r0,p1,p2,p3.trans q3⟩⟩
theorem Keep.new(H:Hp)(o:Ob):Keep H (H.new o):=⟨Nat.le_succ _,fun l hl o' r' h1 h2=>by
 rw[any_new,if_neg (by omega)]at h1
 exact⟨o',r',h1,h2,.refl _⟩⟩
theorem Keep.drop(H:Hp)(l:Nat):Keep H (H.drop l):=⟨Nat.le_refl _,fun m _ o' r' h1 h2=>by
 rw[any_drop]at h1;split at h1
 ·cases h1
 ·exact⟨o',r',h1,h2,.refl _⟩⟩
theorem Keep.put(H:Hp)(l:Nat)(o:Ob)(h:∀r,o.me≠some (.loop r)):Keep H (H.put l o):=⟨Nat.le_refl _,fun m _ o' r' h1 h2=>by
 rw[any_put]at h1;split at h1
 ·cases h1;exact absurd h2 (h r')
 ·exact⟨o',r',h1,h2,.refl _⟩⟩
theorem Keep.putL{H:Hp}{l:Nat}{o:Ob}{r:Lr}(ho:H.any l=some o)(hm:o.me=some (.loop r))(r1:Lr)(hr:LKeep r r1):Keep H (H.put l (lpOb r1)):=⟨Nat.le_refl _,fun m _ o' r' h1 h2=>by
 rw[any_put]at h1;split at h1
 ·rename_i e;subst e;cases h1;cases h2;exact⟨o,r,ho,hm,hr⟩
 ·exact⟨o',r',h1,h2,.refl _⟩⟩
theorem Keep.putM(H:Hp)(l:Nat)(o:Ob)(c:Nat)(es:List (Nat×T×T)):Keep H (Go.Ps.putM H l o c es):=Keep.put _ _ _ (fun r h=>by cases h)
section
variable{P:Program}{E:Env}{F:Fc}
theorem store_keep{H H':Hp}{t:TypeId}{p x:T}(h:storeT P H t p x=some H'):Keep H H':=by
 unfold storeT at h;split at h
 ·split at h
  ·rename_i o n ho hn;split at h
   ·cases h;exact Keep.put _ _ _ (fun r e=>by rw[show _ =o.me from rfl,(get_any ho).2]at e;cases e)
   ·cases h
  ·cases h
 ·cases h
theorem appendN_keep{H H':Hp}{t tx:TypeId}{s x r:T}(h:appendN P H t tx s x=some (r,H')):Keep H H':=by
 unfold appendN at h;split at h
 ·split at h
  ·split at h
   ·cases h
   ·cases h;exact Keep.refl _
  ·cases h
 ·cases h
theorem append_keep{H H':Hp}{t tx:TypeId}{s x r:T}(h:appendT P H t tx s x=some (r,H')):Keep H H':=by
 unfold appendT at h;split at h
 ·split at h
  ·split at h
   ·cases h
   ·split at h
    ·split at h
     ·cases h;exact .refl _
     ·split at h
      ·cases h;exact .new _ _
      ·cases h
    ·split at h
     ·cases h;exact .refl _
     ·split at h
      ·cases h;exact .new _ _
      ·cases h
    ·split at h
     ·cases h;exact .refl _
     ·split at h
      ·split at h
       ·cases h;exact(Keep.drop _ _).trans (.new _ _)
       ·cases h
      ·cases h
    ·cases h
  ·cases h
 ·cases h
theorem appT_keep{H H':Hp}{pa:Bool}{t tx:TypeId}{s x r:T}(h:appT P pa H t tx s x=some (r,H')):Keep H H':=by
 unfold appT at h;split at h
 ·exact appendN_keep h
 ·exact append_keep h
theorem make_keep{H H':Hp}{t:TypeId}{l c r:T}(h:makeSliceT P H t l c=some (r,H')):Keep H H':=by
 unfold makeSliceT at h;split at h
 ·split at h
  ·split at h
   ·cases h;exact .new _ _
   ·cases h
  ·cases h
 ·cases h
theorem upd_keep{H H':Hp}{t:TypeId}{m k x:T}(h:updT P H t m k x=some H'):Keep H H':=by
 unfold updT at h;split at h
 ·split at h
  ·cases h;exact .putM _ _ _ _ _
  ·cases h
 ·cases h;exact .putM _ _ _ _ _
 ·cases h
theorem entry_keep{H H':Hp}{t:TypeId}{m k r:T}(h:entryT P H t m k=some (r,H')):Keep H H':=by
 unfold entryT at h;split at h
 ·split at h
  ·cases h;exact .putM _ _ _ _ _
  ·cases h
 ·split at h
  ·cases h;exact .putM _ _ _ _ _
  ·cases h
 ·cases h
theorem estore_keep{H H':Hp}{m s x:T}(h:entryStoreT H m s x=some H'):Keep H H':=by
 unfold entryStoreT at h;split at h
 ·split at h
  ·split at h
   ·split at h
    ·cases h;exact .putM _ _ _ _ _
    ·cases h
   ·cases h
  ·cases h
 ·cases h
theorem del_keep{H H':Hp}{t:TypeId}{m k:T}(h:delT P H t m k=some H'):Keep H H':=by
 unfold delT at h;split at h
 ·cases h;exact .putM _ _ _ _ _
 ·cases h;exact .putM _ _ _ _ _
 ·cases h
theorem eff_keep(hF:∀f ts H r H',F.ee f ts H=some (r,H')→Keep H H'){H H':Hp}{fr:List T}{o:Oper}{v:T}(h:effT P E F H fr o=some (v,H')):Keep H H':=by
 obtain⟨dst,op,ty,pos,after,guard⟩:=o;cases op<;>simp only[effT]at h<;>try(cases h;done)
 case alloc t=>split at h<;>cases h;exact .new _ _
 case box t x=>split at h<;>cases h;exact .new _ _
 case buildSlice t len ps=>
  split at h
  ·split at h
   ·split at h
    ·cases h;exact .new _ _
    ·cases h
   ·cases h
  ·cases h
 case store t p x=>
  split at h
  ·split at h
   ·rename_i hs;cases h;exact store_keep hs
   ·cases h
  ·cases h
 case makeSlice t l c=>
  split at h
  ·exact make_keep h
  ·cases h
 case makeMap t r=>
  split at h
  ·split at h
   ·cases h;exact .new _ _
   ·cases h
  ·cases h
 case mapUpdate t m k x=>
  split at h
  ·split at h
   ·rename_i hs;cases h;exact upd_keep hs
   ·cases h
  ·cases h
 case insert t m k x=>
  split at h
  ·split at h
   ·rename_i hs;cases h;exact upd_keep hs
   ·cases h
  ·cases h
 case mapEntry t m k=>
  split at h
  ·exact entry_keep h
  ·cases h
 case entryStore t m s x=>
  split at h
  ·split at h
   ·rename_i hs;cases h;exact estore_keep hs
   ·cases h
  ·cases h
 case call c=>
  split at h
  ·split at h
   ·split at h
    ·exact hF _ _ _ _ _ h
    ·cases h
   ·cases h
  ·split at h
   ·split at h
    ·split at h
     ·rename_i hs;cases h;exact del_keep hs
     ·cases h
    ·cases h
   ·cases h
  ·split at h
   ·split at h
    ·exact appT_keep h
    ·cases h
   ·cases h
  ·cases h
theorem plain_keep(hF:∀f ts H r H',F.ee f ts H=some (r,H')→Keep H H'){ops:Array Oper}{s s':Fx}{o:Oper}(h:plainE P E F ops s o=some s'):Keep s.H s'.H:=by
 unfold plainE at h;split at h
 ·split at h
  ·cases h;exact .refl _
  ·split at h
   ·split at h
    ·cases h
    ·split at h
     ·split at h
      ·cases h;exact .refl _
      ·cases h
     ·cases h
   ·split at h
    ·rename_i he;cases h;exact eff_keep hF he
    ·cases h
 ·cases h;exact .refl _
theorem step_keep(hF:∀f ts H r H',F.ee f ts H=some (r,H')→Keep H H'){ops:Array Oper}{s s':Fx}{o:Oper}(h:stepE P E F ops s o=some s'):Keep s.H s'.H:=by
 unfold stepE at h;split at h
 ·exact plain_keep hF h
 ·split at h
  ·split at h
   ·split at h
    ·split at h
     ·split at h
      ·cases h;unfold pendS;split
       ·exact .new _ _
       ·exact .refl _
      ·cases h
     ·cases h
    ·cases h
   ·split at h
    ·cases h
    ·exact plain_keep hF h
  ·split at h
   ·cases h
   ·exact plain_keep hF h
theorem evalSeq_keep(hF:∀f ts H r H',F.ee f ts H=some (r,H')→Keep H H'){ops:Array Oper}:∀{l:List Oper} {s s':Fx},evalSeq P E F ops l s=some s'→Keep s.H s'.H
 |[],s,s',h=>by cases h;exact .refl _
 |o::l,s,s',h=>by
  simp only[evalSeq]at h;split at h
  ·rename_i s1 hs;exact(step_keep hF hs).trans (evalSeq_keep hF h)
  ·cases h
theorem draw_keep(hF:∀f ts H r H',F.ee f ts H=some (r,H')→Keep H H'){ops:Array Oper}:∀{l:List Oper} {m:Nat} {s s':Fx},evalDraw P E F ops l m s=some s'→Keep s.H s'.H
 |[],m,s,s',h=>by
  simp only[evalDraw]at h;split at h
  ·cases h;exact .refl _
  ·cases h
 |o::l,m,s,s',h=>by
  simp only[evalDraw]at h;split at h
  ·split at h
   ·exact evalSeq_keep hF h
   ·cases h
  ·split at h
   ·cases h
   ·split at h
    ·split at h
     ·have:=draw_keep hF h;exact this
     ·split at h
      ·split at h
       ·cases h
       ·split at h
        ·split at h
         ·have:=draw_keep hF h;exact this
         ·cases h
        ·cases h
      ·split at h
       ·exact evalSeq_keep hF h
       ·cases h
    ·have:=draw_keep hF h;exact this
theorem evalSt_keep(hF:∀f ts H r H',F.ee f ts H=some (r,H')→Keep H H'){ops:Array Oper}{A:List Nat}{p l:Nat}:∀{os:List Oper} {m:Nat} {af:Bool} {s s':Fx},evalSt P E F ops A p l os m af s=some s'→Keep s.H s'.H
 |[],m,af,s,s',h=>by
  simp only[evalSt]at h;split at h
  ·cases h;exact .refl _
  ·cases h
 |o::os,m,af,s,s',h=>by
  simp only[evalSt]at h;split at h
  ·exact evalSeq_keep hF h
  ·split at h
   ·cases h
   ·split at h
    ·split at h
     ·cases h
     ·split at h
      ·split at h
       ·split at h
        ·split at h
         ·rename_i hs;exact(store_keep hs).trans (evalSt_keep hF h)
         ·cases h
        ·cases h
       ·cases h
      ·cases h
    ·split at h
     ·split at h
      ·split at h
       ·split at h
        ·have:=evalSt_keep hF h;exact this
        ·cases h
       ·cases h
      ·split at h
       ·split at h
        ·have:=evalSt_keep hF h;exact this
        ·cases h
       ·cases h
     ·have:=evalSt_keep hF h;exact this
theorem drawX_keep(hF:∀f ts H r H',F.ee f ts H=some (r,H')→Keep H H'){ops:Array Oper}{fr:List T}{H:Hp}{s':Fx}(h:evalDrawX P E F ops fr H=some s'):Keep H s'.H:=by
 unfold evalDrawX at h;split at h
 ·split at h
  ·split at h
   ·have:=evalSt_keep hF h;exact this
   ·cases h
  ·cases h
 ·have:=draw_keep hF h;exact this
theorem effs_keep(hF:∀f ts H r H',F.ee f ts H=some (r,H')→Keep H H'){ops:Array Oper}:∀(os:List Oper) (m:Nat) (fr:List T) (H:Hp) (f:List T) (H':Hp) (es ds:List Nat),effs P E F ops os m fr H=some (f,H',es,ds)→Keep H H'
 |[],m,fr,H,f,H',es,ds,h=>by cases h;exact .refl _
 |o::os,m,fr,H,f,H',es,ds,h=>by
  simp only[effs]at h;split at h
  ·cases h
  ·split at h
   ·split at h
    ·split at h
     ·rename_i he;cases h;exact effs_keep hF os _ _ _ _ _ _ _ he
     ·cases h
    ·split at h
     ·rename_i hef;split at h
      ·rename_i he;cases h;exact(eff_keep hF hef).trans (effs_keep hF os _ _ _ _ _ _ _ he)
      ·cases h
     ·cases h
   ·exact effs_keep hF os _ _ _ _ _ _ _ h
theorem drawD2_keep(hF:∀f ts H r H',F.ee f ts H=some (r,H')→Keep H H'){ops:Array Oper}{fl:Bool}{fr:List T}{H:Hp}{s':Fx}(h:evalD2 P E F ops fl fr H=some s'):Keep H s'.H:=by
 unfold evalD2 at h;split at h
 ·unfold evalE2 at h;split at h
  ·rename_i he;split at h
   ·cases h;exact effs_keep hF _ _ _ _ _ _ _ _ he
   ·cases h
  ·cases h
 ·exact drawX_keep hF h
end
section
variable{P:Program}{E:Env}{ee:FuncId→List T→Hp→Option (T×Hp)}{yd:Nat→List T→Hp→Option (Bool×Hp)}{ow:Tmp→Bool}{n:Nat}
abbrev EeK(ee:FuncId→List T→Hp→Option (T×Hp)):Prop:=∀f ts H r H',ee f ts H=some (r,H')→Keep H H'
abbrev YdK(yd:Nat→List T→Hp→Option (Bool×Hp)):Prop:=∀l ts H b H',yd l ts H=some (b,H')→Keep H H'
theorem fc_keep(hF:EeK ee)(ow:Tmp→Bool):∀f ts H r H',(fcOf ow ee).ee f ts H=some (r,H')→Keep H H':=by rw[fcOf_ee];exact hF
theorem seq2_keep(hF:EeK ee)(hY:YdK yd){ops:Array Oper}:∀{l:List Oper} {s s':Fx},seq2 P E ee yd ow ops l s=some s'→Keep s.H s'.H
 |[],s,s',h=>by cases h;exact .refl _
 |o::l,s,s',h=>by
  simp only[seq2]at h;split at h
  ·split at h
   ·rename_i hy;exact(hY _ _ _ _ _ hy).trans (seq2_keep hF hY h)
   ·cases h
  ·split at h
   ·rename_i s1 hs;exact(step_keep (fc_keep hF ow) hs).trans (seq2_keep hF hY h)
   ·cases h
theorem endL2_keep{l:Nat}{fr fr':List T}{H H':Hp}{x:X}(h:endL2 l fr H=some (x,fr',H')):H'=H.drop l:=by
 obtain⟨o,rc,_,_,h⟩:=lpOf_inv h;split at h
 ·cases h
 ·split at h<;>cases h<;>rfl
theorem code2_keep(hF:EeK ee)(hY:YdK yd){ro:Option Nat}:∀(c:Code) (fr:List T) (H:Hp) (x:X) (fr':List T) (H':Hp),code2 P E ee yd ow n ro c fr H=some (x,fr',H')→Keep H H':=by
 intro c
 induction c with
 |skip=>intro fr H x fr' H' h;cases h;exact .refl _
 |label l=>intro fr H x fr' H' h;cases h;exact .refl _
 |exit id=>intro fr H x fr' H' h;cases h;exact .refl _
 |ret=>intro fr H x fr' H' h;cases h;exact .refl _
 |region id ops draw=>
  intro fr H x fr' H' h;simp only[code2]at h;split at h
  ·rename_i hr;cases h;split at hr
   ·exact drawD2_keep (fc_keep hF ow) hr
   ·exact seq2_keep hF hY hr
  ·cases h
 |seq a b iha ihb=>
  intro fr H x fr' H' h;simp only[code2]at h;split at h
  ·rename_i hr;exact(iha _ _ _ _ _ hr).trans (ihb _ _ _ _ _ h)
  ·exact iha _ _ _ _ _ h
 |cond c a b iha ihb=>
  intro fr H x fr' H' h;simp only[code2]at h;split at h
  ·split at h
   ·exact iha _ _ _ _ _ h
   ·exact ihb _ _ _ _ _ h
  ·cases h
 |block id c ih=>
  intro fr H x fr' H' h;simp only[code2]at h;split at h
  ·rename_i hr;split at h<;>cases h<;>exact ih _ _ _ _ _ hr
  ·exact ih _ _ _ _ _ h
 |loop c ih=>
  intro fr H x fr' H' h;simp only[code2]at h;have key:∀(k:Nat) (fr:List T) (H:Hp),evalCode.loopN (fun fr H=>code2 P E ee yd ow n ro c fr H) k fr H=some (x,fr',H')→Keep H H':=by
   intro k
   induction k with
   |zero=>intro fr H h;cases h
   |succ k ihk=>
    intro fr H h;simp only[evalCode.loopN]at h;split at h
    ·rename_i hr;exact(ih _ _ _ _ _ hr).trans (ihk _ _ h)
    ·exact ih _ _ _ _ _ h
  exact key n fr H h
 |rangeFunc g ps a b _ _ =>
  intro fr H x fr' H' h;simp only[code2]at h;split at h
  ·split at h
   ·split at h
    ·rename_i hc;rw[endL2_keep h];exact((Keep.new _ _).trans (hF _ _ _ _ _ hc)).trans (.drop _ _)
    ·cases h
   ·cases h
  ·cases h
 |_ =>intro fr H x fr' H' h;cases h
theorem roundB_keep{l:Nat}{H H':Hp}{x:X}{b:Bool}(h:roundB l H x=some (b,H')):Keep H H':=by
 obtain⟨o,rc,ho,hm,h⟩:=lpOf_inv h;cases x with
 |normal=>cases h;exact .putL ho hm _ ⟨rfl,rfl,rfl,rfl,rfl,rfl⟩
 |exit id=>cases h;exact .putL ho hm _ ⟨rfl,rfl,rfl,rfl,rfl,rfl⟩
 |ret=>cases h;exact .putL ho hm _ ⟨rfl,rfl,rfl,rfl,rfl,rfl⟩
theorem round2_keep(hF:EeK ee)(hY:YdK yd):YdK (fun l ts H=>round2 P E ee yd n l ts H):=by
 intro l ts H b H' h;obtain⟨o,rc,ho,hm,h⟩:=lpOf_inv h;split at h
 ·split at h
  ·rename_i fr1 H1 h1;refine(code2_keep hF hY _ _ _ _ _ _ h1).trans ?_;obtain⟨o1,r1,ho1,hm1,h⟩:=lpOf_inv h;split at h
   ·split at h
    ·rename_i h2;exact((Keep.putL ho1 hm1 {r1 with st:= .busy} ⟨rfl,rfl,rfl,rfl,rfl,rfl⟩).trans (code2_keep hF hY _ _ _ _ _ _ h2)).trans (roundB_keep h)
    ·cases h
   ·cases h
  ·cases h
 ·cases h
theorem fn2_keep(hF:EeK ee)(hY:YdK yd){f:FuncId}{ts:List T}{H H':Hp}{r:T}(h:fn2 P E ee yd ow n f ts H=some (r,H')):Keep H H':=by
 unfold fn2 at h;split at h
 ·split at h
  ·split at h
   ·rename_i hc;split at h<;>cases h<;>exact code2_keep hF hY _ _ _ _ _ _ hc
   ·rename_i hc;split at h<;>cases h<;>exact code2_keep hF hY _ _ _ _ _ _ hc
   ·cases h
  ·cases h
 ·cases h
theorem copyX_keep{tB:TypeId}{ts:List T}{H H':Hp}{r:T}(h:copyX tB ts H=some (r,H')):Keep H H':=by
 unfold copyX at h;split at h
 ·split at h
  ·rename_i o ho;split at h
   ·split at h
    ·cases h;exact Keep.put _ _ _ (fun r e=>by rw[show _ =o.me from rfl,(get_any ho).2]at e;cases e)
    ·cases h
   ·split at h
    ·cases h;exact .refl _
    ·cases h
   ·cases h
  ·cases h
 ·cases h
theorem strX_keep{tB tE:TypeId}{ts:List T}{H H':Hp}{r:T}(h:strX tB tE ts H=some (r,H')):Keep H H':=by
 unfold strX at h;split at h
 ·split at h
  ·split at h
   ·split at h
    ·cases h;exact .refl _
    ·split at h
     ·split at h
      ·split at h
       ·cases h;exact .drop _ _
       ·cases h
      ·cases h
     ·cases h
    ·cases h
   ·cases h
  ·cases h
 ·cases h
theorem xeG_keep:EeK xeG:=fun f ts H r H' h=>by
 unfold xeG at h;by_cases h1:f=123
 ·rw[if_pos h1]at h;exact copyX_keep h
 ·rw[if_neg h1]at h;by_cases h2:f=79
  ·rw[if_pos h2]at h;exact strX_keep h
  ·rw[if_neg h2]at h;cases h
theorem run2_keep{own:FuncId→Tmp→Bool}{ok:FuncId→Bool}:∀d,EeK (run2 P E own ok n d).ee∧YdK (run2 P E own ok n d).yd
 |0=>⟨fun _ _ _ _ _ h=>(by cases h),fun _ _ _ _ _ h=>(by cases h)⟩
 |d+1=>by
  obtain⟨h1,h2⟩:=run2_keep (own:=own) (ok:=ok) d;refine⟨fun f ts H r H' h=> ?_,round2_keep h1 h2⟩;simp only[run2]at h;split at h
  ·exact fn2_keep h1 h2 h
  ·exact xeG_keep _ _ _ _ _ h
end
end
end Go.Ps
namespace Go.Ps
variable[Inhabited Prd]
section
variable{ρ ρ' ρ0 ρ1:List Int}{μ μ' μ0 μ1:List (Option Nat)}{H H1:Hp}{S S1:AS}{fr fr1:List T}
theorem ext_take{α:Type}{a b:List α}{n:Nat}(h:Ext a b)(hn:a.length=n):b.take n=a:=by
 apply List.ext_getElem?;intro j;rw[List.getElem?_take];split
 ·rename_i hj;rw[←hn]at hj;rw[List.getElem?_eq_getElem hj];exact h j _ (List.getElem?_eq_getElem hj)
 ·rename_i hj;rw[List.getElem?_eq_none (by omega)]
theorem old_back(he:Ext ρ0 ρ1)(hm:Ext μ0 μ1){n l:Nat}(hn:ρ0.length=n)(hl:μ0.length=l){a:A}{t:T}(ho:oldA n l dep a=true)(h:Gm ρ1 μ1 a t):Gm ρ0 μ0 a t:=by
 have:=oldA_ok n l dep a t ho h
 rwa [ext_take he hn,ext_take hm hl]at this
theorem sameF_ok(he:Ext ρ0 ρ1)(hm:Ext μ0 μ1){n l:Nat}(hn:ρ0.length=n)(hl:μ0.length=l){w:List Tmp}:∀(a_s bs:List A) (j:Nat) (ts:List T),sameF n l w j a_s bs=true→GmL ρ1 μ1 bs ts→GmL ρ0 μ0 (topF n l w j a_s) ts
 |[],[],j,ts,_,h=>by rw[h.inv_nil];exact .nil
 |a::a_s,b::bs,j,ts,hs,h=>by
  simp only[sameF,Bool.and_eq_true]at hs;obtain⟨t,r,rfl,h1,h2⟩:=h.inv_cons;simp only[topF];refine GmL.cons ?_ (sameF_ok he hm hn hl a_s bs (j+1) r hs.2 h2);split
  ·exact .top _
  ·rename_i hc;simp only[Bool.or_eq_true,Bool.not_eq_true',not_or,Bool.not_eq_false]at hc;have h3:=hs.1;simp only[Bool.or_eq_true,Bool.not_eq_true']at h3;rcases h3 with(q|q)|q
   ·exact absurd q hc.1
   ·rw[hc.2]at q;cases q
   ·have:=beqA_ok _ _ _ q;subst this;exact old_back he hm hn hl hc.2 h1
 |[],_ ::_,_,_,h,_ =>by simp[sameF]at h
 |_ ::_,[],_,_,h,_ =>by simp[sameF]at h
theorem sameC_ok(he:Ext ρ0 ρ1)(hm:Ext μ0 μ1){n l:Nat}(hn:ρ0.length=n)(hl:μ0.length=l){oc:List (Nat×Nat×TA)}{m:Nat}:∀(a_s bs:List A) (j:Nat) (ts:List T),sameC n l oc m j a_s bs=true→GmL ρ1 μ1 bs ts→GmL ρ0 μ0 (anyCells oc m j a_s) ts
 |[],[],j,ts,_,h=>by rw[h.inv_nil];exact .nil
 |a::a_s,b::bs,j,ts,hs,h=>by
  simp only[sameC,Bool.and_eq_true]at hs;obtain⟨t,r,rfl,h1,h2⟩:=h.inv_cons;simp only[anyCells];refine GmL.cons ?_ (sameC_ok he hm hn hl a_s bs (j+1) r hs.2 h2);have h3:=hs.1;split
  ·rename_i hc;rw[if_pos hc]at h3;exact .any _ (one_gm h1 h3).1
  ·rename_i hc;rw[if_neg hc]at h3;simp only[Bool.and_eq_true]at h3;have:=beqA_ok _ _ _ h3.1;subst this;exact old_back he hm hn hl h3.2 h1
 |[],_ ::_,_,_,h,_ =>by simp[sameC]at h
 |_ ::_,[],_,_,h,_ =>by simp[sameC]at h
theorem findA_any{oc:List (Nat×Nat×TA)}:∀(hp:List (Nat×AO)) (m:Nat) (o:AO),findA (anyHp oc hp) m=some o→∃q,findA hp m=some q∧o=(match q with| .fix e xs=> .fix e (anyCells oc m 0 xs)|q=>q)
 |[],m,o,h=>by simp[anyHp,findA]at h
 |(k,.fix e xs)::r,m,o,h=>by
  simp only[anyHp,findA]at h⊢;split at h
  ·rename_i hk;cases h;rw[if_pos hk];have:=nat_beq hk;subst this;exact⟨_,rfl,rfl⟩
  ·rename_i hk;rw[if_neg hk];exact findA_any r m o h
 |(k,.row e sz a s c)::r,m,o,h=>by
  simp only[anyHp,findA]at h⊢;split at h
  ·rename_i hk;cases h;rw[if_pos hk];exact⟨_,rfl,rfl⟩
  ·rename_i hk;rw[if_neg hk];exact findA_any r m o h
 |(k,.map es)::r,m,o,h=>by
  simp only[anyHp,findA]at h⊢;split at h
  ·rename_i hk;cases h;rw[if_pos hk];exact⟨_,rfl,rfl⟩
  ·rename_i hk;rw[if_neg hk];exact findA_any r m o h
 |(k,.loop st pe fr ps asg bd ow aa ab)::r,m,o,h=>by
  simp only[anyHp,findA]at h⊢;split at h
  ·rename_i hk;cases h;rw[if_pos hk];exact⟨_,rfl,rfl⟩
  ·rename_i hk;rw[if_neg hk];exact findA_any r m o h
theorem sameSt_ok{a b:LoopState}(h:sameSt a b=true):a=b:=by cases a<;>cases b<;>first|rfl|cases h
theorem samePe_ok{a b:Option (Option Nat)}(h:samePe a b=true):a=b:=by
 unfold samePe at h;split at h
 ·rfl
 ·rfl
 ·rw[nat_beq h]
 ·cases h
def SameO(n l:Nat)(oc:List (Nat×Nat×TA))(m:Nat):AO→AO→Prop
 | .fix e xs,.fix e' ys=>e=e'∧sameC n l oc m 0 xs ys=true
 | .row e sz a s c,.row e' sz' b s' c'=>e=e'∧sz=sz'∧a=b∧oldA n l dep a=true∧s=s'∧c=c'∧s<n
 | .loop st pe ..,.loop st' pe' .. =>st=st'∧pe=pe'
 |_,_ =>False
theorem sameH_ok{n l:Nat}{oc:List (Nat×Nat×TA)}{hp1:List (Nat×AO)}:∀(hp:List (Nat×AO)) (m:Nat) (o:AO),sameH n l oc hp1 hp=true→findA hp m=some o→m<l∧∃o1,findA hp1 m=some o1∧SameO n l oc m o o1
 |(k,.fix e xs)::r,m,o,h,hf=>by
  simp only[sameH,Bool.and_eq_true]at h;simp only[findA]at hf;split at hf
  ·rename_i hk;cases hf;have:=nat_beq hk;subst this;refine⟨nat_blt h.1,?_⟩;have h2:=h.2.1;split at h2
   ·rename_i e' ys hy;simp only[Bool.and_eq_true]at h2;exact⟨_,hy,nat_beq h2.1,h2.2⟩
   ·cases h2
  ·exact sameH_ok r m o h.2.2 hf
 |(k,.row e sz a s c)::r,m,o,h,hf=>by
  simp only[sameH,Bool.and_eq_true]at h;simp only[findA]at hf;split at hf
  ·rename_i hk;cases hf;have:=nat_beq hk;subst this;refine⟨nat_blt h.1,?_⟩;have h2:=h.2.1;split at h2
   ·rename_i e' sz' b s' c' hy;simp only[Bool.and_eq_true,beq_iff_eq]at h2;obtain⟨a1,a2,a3,a4,a5,a6,a7⟩:=h2;exact⟨_,hy,nat_beq a1,nat_beq a2,beqA_ok _ _ _ a3,a4,nat_beq a5,a6,nat_blt a7⟩
   ·cases h2
  ·exact sameH_ok r m o h.2.2 hf
 |(k,.loop st pe fr ps asg bd ow aa ab)::r,m,o,h,hf=>by
  simp only[sameH,Bool.and_eq_true]at h;simp only[findA]at hf;split at hf
  ·rename_i hk;cases hf;have:=nat_beq hk;subst this;refine⟨nat_blt h.1,?_⟩;have h2:=h.2.1;split at h2
   ·rename_i hy;simp only[Bool.and_eq_true]at h2;exact⟨_,hy,sameSt_ok h2.1,samePe_ok h2.2⟩
   ·cases h2
  ·exact sameH_ok r m o h.2.2 hf
 |(k,.map es)::r,m,o,h,_ =>by simp[sameH]at h
 |[],m,o,_,hf=>by simp[findA]at hf
theorem drop_sub{hp:List (Nat×AO)}{l m:Nat}{o:AO}(h:findA (dropA hp l) m=some o):findA hp m=some o:=by
 rw[findA_drop]at h;split at h
 ·cases h
 ·exact h
theorem dropRows_sub0{fr:List A}:∀{sp:List (Tmp×TA)} {hp:List (Nat×AO)} {m:Nat} {o:AO},findA (dropRows fr sp hp) m=some o→findA hp m=some o
 |[],hp,m,o,h=>h
 |(d,.row ..)::r,hp,m,o,h=>by
  simp only[dropRows]at h;split at h
  ·exact drop_sub (dropRows_sub0 h)
  ·exact dropRows_sub0 h
 |(d,.a _)::r,hp,m,o,h=>by
  simp only[dropRows]at h;exact dropRows_sub0 h
theorem dropRowsC_sub0{hp0:List (Nat×AO)}:∀{oc:List (Nat×Nat×TA)} {hp:List (Nat×AO)} {m:Nat} {o:AO},findA (dropRowsC hp0 oc hp) m=some o→findA hp m=some o
 |[],hp,m,o,h=>h
 |(l,j,.row ..)::r,hp,m,o,h=>by
  simp only[dropRowsC]at h;split at h
  ·exact drop_sub (dropRowsC_sub0 h)
  ·exact dropRowsC_sub0 h
 |(l,j,.a _)::r,hp,m,o,h=>by
  simp only[dropRowsC]at h;exact dropRowsC_sub0 h
theorem dropMaps_sub0:∀{r hp:List (Nat×AO)} {m:Nat} {o:AO},findA (dropMaps r hp) m=some o→findA hp m=some o
 |[],hp,m,o,h=>h
 |(l,.map es)::r,hp,m,o,h=>by
  simp only[dropMaps]at h;exact drop_sub (dropMaps_sub0 h)
 |(l,.fix ..)::r,hp,m,o,h=>by
  simp only[dropMaps]at h;exact dropMaps_sub0 h
 |(l,.row ..)::r,hp,m,o,h=>by
  simp only[dropMaps]at h;exact dropMaps_sub0 h
 |(l,.loop ..)::r,hp,m,o,h=>by
  simp only[dropMaps]at h;exact dropMaps_sub0 h
theorem baseHp_sub{sp:List (Tmp×TA)}{oc:List (Nat×Nat×TA)}{m:Nat}{o:AO}(h:findA (baseHp S sp oc) m=some o):findA S.hp m=some o:=dropMaps_sub0 (dropRows_sub0 (dropRowsC_sub0 h))
theorem base_ok(hk:Keep H H1)(hs:GS S ρ0 μ0 fr H)(h1:GS S1 ρ1 μ1 fr1 H1)(he:Ext ρ0 ρ1)(hm:Ext μ0 μ1){w:List Tmp}{sp:List (Tmp×TA)}{oc:List (Nat×Nat×TA)}{m0 gv:Int}(hg:0≤gv)(hg':gv≤m0)
  (hF:sameF S.nx S.nl w 0 S.fr S1.fr=true) (hH:sameH S.nx S.nl oc S1.hp (baseHp S sp oc)=true):
  GS (baseS S w sp oc m0) (ρ0++[gv]) μ0 fr1 H1:=by
 have hn:=hs.sy.len;have hl:=hs.hp.len;have hb:=Ext.app ρ0 [gv];refine⟨?_,?_,(sameF_ok he hm hn hl _ _ _ _ hF h1.fr).ext hb (.refl _)⟩
 ·have:=hs.sy.fresh (v:=gv) (lo:=0) (hi:=m0) hg hg';exact this
 ·have key:∀(m:Nat) (o:AO),findA (baseS S w sp oc m0).hp m=some o→∃q o1,findA (baseHp S sp oc) m=some q∧m<S.nl∧findA S1.hp m=some o1∧SameO S.nx S.nl oc m q o1∧o=(match q with| .fix e xs=> .fix e (anyCells oc m 0 xs)|q=>q):=by
   intro m o h;obtain⟨q,h2,h3⟩:=findA_any _ _ _ h;obtain⟨h4,o1,h5,h6⟩:=sameH_ok _ _ _ hH h2;exact⟨q,o1,h2,h4,h5,h6,h3⟩
  have back:∀{m:Nat} {y:Option Nat},m<S.nl→μ1[m]? =some y→μ0[m]? =some y:=by
   intro m y hlt h;have:=take_get h hlt
   rwa [ext_take hm hl]at this
  refine⟨hl,fun m o h=> ?_,fun m m' o o' x h h' hx hx'=> ?_,fun m x hx=>h1.hp.lt m x (hm _ _ hx),fun m e xs h=> ?_,h1.hp.fin⟩
  ·obtain⟨q,o1,k0,k1,k2,k3,rfl⟩:=key m o h;obtain⟨y,k4,k5⟩:=h1.hp.obj m o1 k2;refine⟨y,back k1 k4,fun x hx=> ?_⟩;obtain⟨b,k6,k7⟩:=k5 x hx;cases q with
   |map es=>cases o1<;>exact k3.elim
   |fix e xs=>
    cases o1 with
    |row=>exact k3.elim
    |map=>exact k3.elim
    |loop=>exact k3.elim
    |fix e' ys=>
     obtain⟨rfl,k3⟩:=k3;exact⟨b,k6,k7.1,(sameC_ok he hm hn hl _ _ _ _ k3 k7.2).ext hb (.refl _)⟩
   |loop st pe fr ps asg bd ow aa ab=>
    cases o1 with
    |fix=>exact k3.elim
    |row=>exact k3.elim
    |map=>exact k3.elim
    |loop st' pe' fr' ps' asg' bd' ow' aa' ab'=>
     obtain⟨rfl,rfl⟩:=k3;obtain⟨r1,q1,q2,q3,_⟩:=k7;obtain⟨y0,p1,p2⟩:=hs.hp.obj m _ (baseHp_sub k0);have hy:y0=y:=by have:=back k1 k4;rw[p1]at this;exact Option.some.inj this
     subst hy;obtain⟨b0,p3,r0,w1,w2,w3,w4,w5,w6,w7,w8⟩:=p2 x hx;subst hx;obtain⟨b2,r2,z1,z2,z3⟩:=hk.lp x (hs.hp.lt m x p1) b r1 k6 q1;have hb2:some b2=some b0:=by rw[←z1];exact p3
     cases hb2;rw[w1]at z2;cases z2;exact⟨b,k6,r1,q1,q2,q3,z3.ps.trans w4,z3.asg.trans w5,z3.bd.trans w6,z3.ow.trans w7,by rw[z3.fr,z3.n];exact w8.ext hb (.refl _)⟩
   |row e sz a s c=>
    cases o1 with
    |fix=>exact k3.elim
    |loop=>exact k3.elim
    |map=>exact k3.elim
    |row e' sz' b' s' c'=>
     obtain⟨rfl,rfl,rfl,k8,rfl,rfl,k9⟩:=k3;obtain⟨q1,q2,ts,v,q3,q4,q5,q6⟩:=k7;refine⟨b,k6,q1,q2,ts,v,hb _ _ ?_,q4,q5,fun t ht=>⟨(old_back he hm hn hl k8 (q6 t ht).1).ext hb (.refl _),(q6 t ht).2⟩⟩;have:=take_get q3 k9
     rwa [ext_take he hn]at this
  ·obtain⟨_,o1,_,_,k2,_,_⟩:=key m o h;obtain⟨_,o2,_,_,k3,_,_⟩:=key m' o' h';exact h1.hp.inj m m' o1 o2 x k2 k3 (hm _ _ hx) (hm _ _ hx')
  ·obtain⟨q,o1,_,k1,k2,k3,k4⟩:=key m _ h;cases q with
   |row=>cases k4
   |loop=>cases k4
   |map=>cases k4
   |fix e' ys=>
    cases o1 with
    |row=>exact k3.elim
    |map=>exact k3.elim
    |loop=>exact k3.elim
    |fix e2 zs=>obtain⟨x,hx⟩:=h1.hp.fixp m _ _ k2;exact⟨x,back k1 hx⟩
structure Tr(S1:AS)(base:List (Nat×AO))(nl:Nat)(μ1:List (Option Nat))(Si:AS)(μi:List (Option Nat))(used:List Nat):Prop where
 row:∀(l:Nat) (q:AO) (x:Nat),findA Si.hp l=some q→μi[l]? =some (some x)→∃m o,μ1[m]? =some (some x)∧findA S1.hp m=some o∧(m∈used∨findsA base m=true)
 fix:∀(l:Nat) (e:TypeId) (xs:List A),findA Si.hp l=some (.fix e xs)→l<nl∧∃ys,findA S1.hp l=some (.fix e ys)
theorem memN_mem:∀{l:List Nat} {d:Nat},memN d l=true↔d∈l
 |[],d=>by simp[memN]
 |x::xs,d=>by
  have ih:=memN_mem (l:=xs) (d:=d);simp only[memN,Bool.or_eq_true,Nat.beq_eq,List.mem_cons,ih];constructor
  ·rintro(h|h)
   ·exact .inl h.symm
   ·exact .inr h
  ·rintro(h|h)
   ·exact .inl h.symm
   ·exact .inr h
theorem addSp_ok(h1:GS S1 ρ1 μ1 fr1 H1)(he:Ext ρ0 ρ1)(hm:Ext μ0 μ1){n l:Nat}(hn:ρ0.length=n)(hl:μ0.length=l){base:List (Nat×AO)}:
  ∀(sp:List (Tmp×TA)) (used:List Nat) (Si:AS) (ρi:List Int) (μi:List (Option Nat)),okSp n l base S1 sp used=true→GS Si ρi μi fr1 H1→Ext ρ0 ρi→Ext μ0 μi→Tr S1 base l μ1 Si μi used→
   ∃ρ2 μ2,Ext ρi ρ2∧Ext μi μ2∧GS (addSp sp Si) ρ2 μ2 fr1 H1∧Tr S1 base l μ1 (addSp sp Si) μ2 (usedSp S1 sp used)
 |[],used,Si,ρi,μi,_,hg,_,_,ht=>⟨ρi,μi,.refl _,.refl _,hg,ht⟩
 |(d,.a a)::r,used,Si,ρi,μi,hok,hg,e1,e2,ht=>by
  simp only[okSp,Bool.and_eq_true]at hok;have hv:=leT_ok h1.sy.cs h1.sy.zero n l dep _ _ _ hok.1 (h1.fr.get d);rw[ext_take he hn,ext_take hm hl]at hv;obtain⟨ρ',x1,x2,x3⟩:=matV_ok hg.sy (hv.ext e1 e2);have hg':GS {Si with fr:=setS (matV a Si.nx Si.cs).a Si.fr d,nx:=(matV a Si.nx Si.cs).nx,cs:=(matV a Si.nx Si.cs).cs} ρ' μi fr1 H1:=
   ⟨x2,hg.hp.ext x1,(hg.fr.ext x1 (.refl _)).setSame x3⟩
  obtain⟨ρ2,μ2,y1,y2,y3,y4⟩:=addSp_ok h1 he hm hn hl r used _ ρ' μi hok.2 hg' (e1.trans x1) e2 ⟨ht.row,ht.fix⟩;exact⟨ρ2,μ2,x1.trans y1,y2,y3,y4⟩
 |(d,.row e sz a lo hi)::r,used,Si,ρi,μi,hok,hg,e1,e2,ht=>by
  simp only[okSp]at hok;have hget:=h1.fr.get d;have main:∀(y:Option Nat) (len:Nat) (used1:List Nat),lo≤len→(len:Int)≤hi→(∀x,y=some x→x<H1.next∧(∀l q,findA Si.hp l=some q→μi[l]? ≠some (some x))∧∃(b:Ob) (ts:List T),H1.get x=some b∧b.elem=e∧(b.sz=sz∧(e=5→b.cells≠[]))∧b.cells=ts.flatMap T.cells∧ts.length=len∧∀t∈ts,Gm ρ0 μ0 a t∧t.cells.length=sz)→
    getT fr1 d=(match y with|some x=> .osl x sz 0 len|none=> .nils)→(y=none→len=0)→(∀x,y=some x→∃m o,μ1[m]? =some (some x)∧findA S1.hp m=some o∧m∈used1)→(∀m∈used,m∈used1)→okSp n l base S1 r used1=true→
    ∃ρ2 μ2,Ext ρi ρ2∧Ext μi μ2∧GS (addSp ((d,.row e sz a lo hi)::r) Si) ρ2 μ2 fr1 H1∧Tr S1 base l μ1 (addSp ((d,.row e sz a lo hi)::r) Si) μ2 (usedSp S1 r used1):=by
   intro y len used1 hlo hhi hy hval hnone hnew hsub hok';have hf:=hg.sy.fresh (v:=(len:Int)) hlo hhi;have hx1:=Ext.app ρi [(len:Int)];have hx2:=Ext.app μi [y];have hlen:=(hg.sy.new (len:Int)).2.1;have hgh:GH ((Si.nl,.row e sz a Si.nx 0)::Si.hp) (Si.nl+1) (ρi++[(len:Int)]) (μi++[y]) H1:=(hg.hp.ext hx1).alias (fun _ _ h=>by cases h) fun x hx=>by
    obtain⟨q1,q2,b,ts,q3,q4,q5,q6,q7,q8⟩:=hy x hx;exact⟨q1,q2,b,q3,q4,q5,ts,len,hlen,by omega,q6,fun t ht=>⟨(q8 t ht).1.ext (e1.trans hx1) (e2.trans hx2),(q8 t ht).2⟩⟩
   have hval':Gm (ρi++[(len:Int)]) (μi++[y]) (.osl Si.nl sz 0 0 Si.nx 0) (getT fr1 d):=by
    rw[hval];cases y with
    |none=>
     have:=hnone rfl;exact .osl0 _ _ _ _ _ _ 0 len (app_last hg.hp.len _) (hx1 _ _ hg.sy.zero) (by omega) hlen (by omega)
    |some x=>
     have:=Gm.osl (ρ:=ρi++[(len:Int)]) (μ:=μi++[some x]) Si.nl sz 0 0 Si.nx 0 x 0 len (app_last hg.hp.len _) (hx1 _ _ hg.sy.zero) (by omega) hlen (by omega);simpa using this
   have hg':GS {fr:=setS (.osl Si.nl sz 0 0 Si.nx 0) Si.fr d,hp:=(Si.nl,.row e sz a Si.nx 0)::Si.hp,nx:=Si.nx+1,nl:=Si.nl+1,cs:= .le 0 Si.nx (-lo):: .le Si.nx 0 hi::Si.cs} (ρi++[(len:Int)]) (μi++[y]) fr1 H1:=
    ⟨hf,hgh,(hg.fr.ext hx1 hx2).setSame hval'⟩
   have ht':Tr S1 base l μ1 {fr:=setS (.osl Si.nl sz 0 0 Si.nx 0) Si.fr d,hp:=(Si.nl,.row e sz a Si.nx 0)::Si.hp,nx:=Si.nx+1,nl:=Si.nl+1,cs:= .le 0 Si.nx (-lo):: .le Si.nx 0 hi::Si.cs} (μi++[y]) used1:=by
    refine⟨fun k q x hk hx=> ?_,fun k e' xs hk=> ?_⟩
    ·rcases app_inv hg.hp.len hx with⟨_,q2⟩|⟨q1,q2⟩
     ·obtain⟨m,o,r1,r2,r3⟩:=hnew x q2;exact⟨m,o,r1,r2,.inl r3⟩
     ·simp only[findA]at hk;rw[if_neg (by simp;omega)]at hk;obtain⟨m,o,r1,r2,r3⟩:=ht.row k q x hk q2;exact⟨m,o,r1,r2,r3.imp (hsub m) id⟩
    ·simp only[findA]at hk;split at hk
     ·cases hk
     ·exact ht.fix k e' xs hk
   obtain⟨ρ2,μ2,y1,y2,y3,y4⟩:=addSp_ok h1 he hm hn hl r used1 _ _ _ hok' hg' (e1.trans hx1) (e2.trans hx2) ht';exact⟨ρ2,μ2,hx1.trans y1,hx2.trans y2,y3,y4⟩
  split at hok
  ·rename_i hv;simp only[Bool.and_eq_true,ile,decide_eq_true_eq]at hok;rw[hv]at hget;have hnl:getT fr1 d= .nils:=by generalize getT fr1 d=z at hget;cases hget;rfl
   have hu:usedSp S1 ((d,.row e sz a lo hi)::r) used=usedSp S1 r used:=by simp only[usedSp,hv]
   rw[hu];exact main none 0 used (by simpa using hok.1) (by simpa using hok.2.1) (fun x hx=>by cases hx) hnl (fun _ =>rfl) (fun x hx=>by cases hx) (fun m h=>h) hok.2.2
  ·rename_i m sz' si ci s c hv;split at hok
   ·rename_i e' sz2 b s' c' hf;simp only[Bool.and_eq_true,beq_iff_eq]at hok;obtain⟨k1,k2,k3,k4,k5,k6,k7,k8,k9,k10,k11,k12,k13⟩:=hok;have k1:=nat_beq k1;have k2:=nat_beq k2;have k3:=nat_beq k3;have k4:=nat_beq k4;have k6:=nat_beq k6;have hu:usedSp S1 ((d,.row e sz a lo hi)::r) used=usedSp S1 r (m::used):=by simp only[usedSp,hv]
    rw[hu];subst k1 k2 k3 k4 k5 k6 k7;rw[hv]at hget;generalize hz:getT fr1 d=z at hget;cases hget with
    |osl0 _ _ _ _ _ _ vi v g1 g2 g3 g4 g5=>
     have b1:=leq_ok h1.sy.cs k9 h1.sy.zero g4;have b2:=leq_ok h1.sy.cs k10 g4 h1.sy.zero;exact main none 0 (m::used) (by omega) (by omega) (fun x hx=>by cases hx) hz (fun _ =>rfl) (fun x hx=>by cases hx) (fun q h=>List.mem_cons_of_mem _ h) k13
    |osl _ _ _ _ _ _ l' vi v g1 g2 g3 g4 g5=>
     have b1:=leq_ok h1.sy.cs k9 h1.sy.zero g4;have b2:=leq_ok h1.sy.cs k10 g4 h1.sy.zero;obtain⟨ob,o1,o2,o3,ts,v1,r1,r2,r3,r4⟩:=h1.hp.at hf g1;rw[g4]at r1;cases r1;rw[h1.sy.zero]at g2;cases g2;refine main (some l') ts.length (m::used) (by omega) (by omega) (fun x hx=> ?_) ?_ (fun h=>by cases h) (fun x hx=>⟨m,_,by cases hx;exact g1,hf,List.mem_cons_self⟩) (fun q h=>List.mem_cons_of_mem _ h) k13
     ·cases hx;refine⟨h1.hp.lt m l' g1,fun k q hk hkx=> ?_,ob,ts,o1,o2,o3,r3,rfl,fun t ht=>⟨?_,(r4 t ht).2⟩⟩
      ·obtain⟨m',o',p1,p2,p3⟩:=ht.row k q l' hk hkx;have:=h1.hp.inj m' m o' _ l' p2 hf p1 g1;subst this;rcases p3 with p3|p3
       ·have:=memN_mem.2 p3;rw[this]at k11;simp at k11
       ·rw[p3]at k12;simp at k12
      ·have:=leT_ok h1.sy.cs h1.sy.zero n l dep _ _ _ k8 (r4 t ht).1
       rwa [ext_take he hn,ext_take hm hl]at this
     ·rw[hz];have:(v+c).toNat=ts.length:=by omega
      simp[this]
   ·cases hok
  ·cases hok
end
end Go.Ps
namespace Go.Ps
variable[Inhabited Prd]
section
variable{ρ ρ' ρ0 ρ1:List Int}{μ μ' μ0 μ1:List (Option Nat)}{H H1:Hp}{S S1:AS}{fr fr1:List T}
theorem findA_cell{l j:Nat}{a:A}:∀(hp:List (Nat×AO)) (m:Nat),findA (setCell l j a hp) m=(findA hp m).map fun o=>if l=m then(match o with| .fix e xs=> .fix e (xs.set j a)|o=>o)else o
 |[],m=>rfl
 |(k,.fix e xs)::r,m=>by
  have ih:=findA_cell (l:=l) (j:=j) (a:=a) r m;by_cases hk:k=l
  ·subst hk;simp only[setCell,Nat.beq_refl,if_true,findA];by_cases hm:k=m
   ·subst hm;simp
   ·simp only[Nat.beq_eq,hm,if_false,ih]
  ·by_cases hm:k=m
   ·subst hm;have:¬l=k:=fun e=>hk e.symm;simp[setCell,findA,hk,this]
   ·simp[setCell,findA,hk,hm,ih]
 |(k,.row e sz b s c)::r,m=>by
  have ih:=findA_cell (l:=l) (j:=j) (a:=a) r m;simp only[setCell,findA];by_cases hm:k=m
  ·subst hm;simp
  ·simp only[Nat.beq_eq,hm,if_false,ih]
 |(k,.map es)::r,m=>by
  have ih:=findA_cell (l:=l) (j:=j) (a:=a) r m;simp only[setCell,findA];by_cases hm:k=m
  ·subst hm;simp
  ·simp only[Nat.beq_eq,hm,if_false,ih]
 |(k,.loop st pe fr ps asg bd ow aa ab)::r,m=>by
  have ih:=findA_cell (l:=l) (j:=j) (a:=a) r m;simp only[setCell,findA];by_cases hm:k=m
  ·subst hm;simp
  ·simp only[Nat.beq_eq,hm,if_false,ih]
theorem setCell_ok(h1:GS S1 ρ1 μ1 fr1 H1)(hm:Ext μ0 μ1){l:Nat}(hl:μ0.length=l){base:List (Nat×AO)}{used:List Nat}{Si:AS}{hp:List (Nat×AO)}{nl:Nat}{ρ':List Int}{μ':List (Option Nat)}(g0:GH hp nl ρ' μ' H1)(e2:Ext μ0 μ')
  {m j:Nat} {e:TypeId} {xs:List A} (hf:findA S1.hp m=some (.fix e xs)) {x:Nat} (hx:μ1[m]? =some (some x)) {b:Ob} (b1:H1.get x=some b) {c:T} (c1:b.cells[j]? =some c) {a:A} (x3:Gm ρ' μ' a c)
  (hfix:∀(k:Nat) (e:TypeId) (xs:List A),findA hp k=some (.fix e xs)→k<l∧∃ys,findA S1.hp k=some (.fix e ys)):GH (setCell m j a hp) nl ρ' μ' H1:=by
 refine⟨g0.len,fun k o hk=> ?_,fun k k' o o' y hk hk' hy hy'=> ?_,g0.lt,fun k e' ys hk=> ?_,g0.fin⟩
 ·rw[findA_cell]at hk;obtain⟨q,hq,rfl⟩:=Option.map_eq_some_iff.1 hk;obtain⟨y,q1,q2⟩:=g0.obj k q hq;refine⟨y,q1,fun z hz=> ?_⟩;obtain⟨b',q3,q4⟩:=q2 z hz;split
  ·rename_i hmk;subst hmk;cases q with
   |row=>exact⟨b',q3,q4⟩
   |loop=>exact⟨b',q3,q4⟩
   |map=>exact⟨b',q3,q4⟩
   |fix e' ys=>
    refine⟨b',q3,q4.1,?_⟩;obtain⟨hlt,_⟩:=hfix m e' ys hq;subst hz;have hy0:μ0[m]? =some (some x):=by
     have:=take_get hx hlt
     rwa [ext_take hm hl]at this
    have:=e2 _ _ hy0;rw[q1]at this;cases this;have q3:H1.get x=some b':=q3;rw[b1]at q3;cases q3;have hset:=q4.2.set x3 j;have:b.cells.set j c=b.cells:=by
     apply List.ext_getElem?;intro i;rw[List.getElem?_set];split
     ·rename_i hij;subst hij;split
      ·exact c1.symm
      ·rename_i hlt2;rw[List.getElem?_eq_none (by omega)]
     ·rfl
    rw[this]at hset;exact hset
  ·exact⟨b',q3,q4⟩
 ·rw[findA_cell]at hk hk';obtain⟨q,hq,_⟩:=Option.map_eq_some_iff.1 hk;obtain⟨q',hq',_⟩:=Option.map_eq_some_iff.1 hk';exact g0.inj k k' q q' y hq hq' hy hy'
 ·rw[findA_cell]at hk;obtain⟨q',hq',hqe⟩:=Option.map_eq_some_iff.1 hk;cases q' with
  |row=>split at hqe<;>cases hqe
  |loop=>split at hqe<;>cases hqe
  |map=>split at hqe<;>cases hqe
  |fix e2 zs=>exact g0.fixp k e2 zs hq'
theorem Tr.cell{base:List (Nat×AO)}{l:Nat}{Si:AS}{μi:List (Option Nat)}{used:List Nat}{m j:Nat}{a:A}{hp:List (Nat×AO)}{fr:List A}{nx nl:Nat}{cs:List Con}
  (hrow:∀(k:Nat) (q:AO) (x:Nat),findA hp k=some q→μi[k]? =some (some x)→∃m o,μ1[m]? =some (some x)∧findA S1.hp m=some o∧(m∈used∨findsA base m=true))
  (hfix:∀(k:Nat) (e:TypeId) (xs:List A),findA hp k=some (.fix e xs)→k<l∧∃ys,findA S1.hp k=some (.fix e ys)):
  Tr S1 base l μ1 ⟨fr,setCell m j a hp,nx,nl,cs⟩ μi used:=by
 refine⟨fun k q y hk hy=> ?_,fun k e' ys hk=> ?_⟩
 ·rw[findA_cell]at hk;obtain⟨q',hq',_⟩:=Option.map_eq_some_iff.1 hk;exact hrow k q' y hq' hy
 ·rw[findA_cell]at hk;obtain⟨q',hq',hqe⟩:=Option.map_eq_some_iff.1 hk;cases q' with
  |row=>split at hqe<;>cases hqe
  |loop=>split at hqe<;>cases hqe
  |map=>split at hqe<;>cases hqe
  |fix e2 zs=>
   obtain⟨p1,p2,p3⟩:=hfix k e2 zs hq';refine⟨p1,p2,?_⟩;split at hqe<;>cases hqe<;>exact p3
theorem addOc_ok(h1:GS S1 ρ1 μ1 fr1 H1)(he:Ext ρ0 ρ1)(hm:Ext μ0 μ1){n l:Nat}(hn:ρ0.length=n)(hl:μ0.length=l){base:List (Nat×AO)}:
  ∀(oc:List (Nat×Nat×TA)) (used:List Nat) (Si:AS) (ρi:List Int) (μi:List (Option Nat)),okOc n l base S1 oc used=true→GS Si ρi μi fr1 H1→Ext ρ0 ρi→Ext μ0 μi→Tr S1 base l μ1 Si μi used→
   ∃ρ2 μ2,Ext ρi ρ2∧Ext μi μ2∧GS (addOc oc Si) ρ2 μ2 fr1 H1
 |[],used,Si,ρi,μi,_,hg,_,_,_ =>⟨ρi,μi,.refl _,.refl _,hg⟩
 |(m,j,.a t)::r,used,Si,ρi,μi,hok,hg,e1,e2,ht=>by
  simp only[okOc,Bool.and_eq_true]at hok;obtain⟨hc,hr⟩:=hok;split at hc
  ·rename_i e xs hf;split at hc
   ·rename_i a ha;obtain⟨x,hx⟩:=h1.hp.fixp m _ _ hf;obtain⟨b,b1,b2⟩:=h1.hp.at hf hx;obtain⟨c,c1,c2⟩:=b2.2.at ha;have hv:=leT_ok h1.sy.cs h1.sy.zero n l dep _ _ _ hc c2;rw[ext_take he hn,ext_take hm hl]at hv;obtain⟨ρ',x1,x2,x3⟩:=matV_ok hg.sy (hv.ext e1 e2);have hgh:=setCell_ok (used:=used) (base:=base) (Si:=Si) h1 hm hl (hg.hp.ext x1) e2 hf hx b1 c1 x3 ht.fix;have hg':GS {Si with hp:=setCell m j (matV t Si.nx Si.cs).a Si.hp,nx:=(matV t Si.nx Si.cs).nx,cs:=(matV t Si.nx Si.cs).cs} ρ' μi fr1 H1:=⟨x2,hgh,hg.fr.ext x1 (.refl _)⟩;obtain⟨ρ2,μ2,y1,y1',y2⟩:=addOc_ok h1 he hm hn hl r used _ ρ' μi hr hg' (e1.trans x1) e2 (Tr.cell (Si:=Si) ht.row ht.fix);exact⟨ρ2,μ2,x1.trans y1,y1',y2⟩
   ·cases hc
  ·cases hc
 |(m,j,.row e sz a lo hi)::r,used,Si,ρi,μi,hok,hg,e1,e2,ht=>by
  simp only[okOc]at hok;split at hok
  ·rename_i e0 xs hf;obtain⟨x0,hx0⟩:=h1.hp.fixp m _ _ hf;obtain⟨ob0,ob1,ob2⟩:=h1.hp.at hf hx0;have main:∀(y:Option Nat) (len:Nat) (used1:List Nat) (c:T),ob0.cells[j]? =some c→lo≤len→(len:Int)≤hi→(∀x,y=some x→x<H1.next∧(∀l q,findA Si.hp l=some q→μi[l]? ≠some (some x))∧∃(b:Ob) (ts:List T),H1.get x=some b∧b.elem=e∧(b.sz=sz∧(e=5→b.cells≠[]))∧b.cells=ts.flatMap T.cells∧ts.length=len∧∀t∈ts,Gm ρ0 μ0 a t∧t.cells.length=sz)→
     c=(match y with|some x=> .osl x sz 0 len|none=> .nils)→(y=none→len=0)→(∀x,y=some x→∃m o,μ1[m]? =some (some x)∧findA S1.hp m=some o∧m∈used1)→(∀m∈used,m∈used1)→okOc n l base S1 r used1=true→
     ∃ρ2 μ2,Ext ρi ρ2∧Ext μi μ2∧GS (addOc ((m,j,.row e sz a lo hi)::r) Si) ρ2 μ2 fr1 H1:=by
    intro y len used1 c hcj hlo hhi hy hval hnone hnew hsub hok';have hf':=hg.sy.fresh (v:=(len:Int)) hlo hhi;have hx1:=Ext.app ρi [(len:Int)];have hx2:=Ext.app μi [y];have hlen:=(hg.sy.new (len:Int)).2.1;have hgh:GH ((Si.nl,.row e sz a Si.nx 0)::Si.hp) (Si.nl+1) (ρi++[(len:Int)]) (μi++[y]) H1:=(hg.hp.ext hx1).alias (fun _ _ h=>by cases h) fun x hx=>by
     obtain⟨q1,q2,b,ts,q3,q4,q5,q6,q7,q8⟩:=hy x hx;exact⟨q1,q2,b,q3,q4,q5,ts,len,hlen,by omega,q6,fun t ht=>⟨(q8 t ht).1.ext (e1.trans hx1) (e2.trans hx2),(q8 t ht).2⟩⟩
    have hval':Gm (ρi++[(len:Int)]) (μi++[y]) (.osl Si.nl sz 0 0 Si.nx 0) c:=by
     rw[hval];cases y with
     |none=>
      have:=hnone rfl;exact .osl0 _ _ _ _ _ _ 0 len (app_last hg.hp.len _) (hx1 _ _ hg.sy.zero) (by omega) hlen (by omega)
     |some x=>
      have:=Gm.osl (ρ:=ρi++[(len:Int)]) (μ:=μi++[some x]) Si.nl sz 0 0 Si.nx 0 x 0 len (app_last hg.hp.len _) (hx1 _ _ hg.sy.zero) (by omega) hlen (by omega);simpa using this
    have hrow':∀(k:Nat) (q:AO) (x:Nat),findA ((Si.nl,.row e sz a Si.nx 0)::Si.hp) k=some q→(μi++[y])[k]? =some (some x)→∃m o,μ1[m]? =some (some x)∧findA S1.hp m=some o∧(m∈used1∨findsA base m=true):=by
     intro k q x hk hx;rcases app_inv hg.hp.len hx with⟨_,q2⟩|⟨q1,q2⟩
     ·obtain⟨m,o,r1,r2,r3⟩:=hnew x q2;exact⟨m,o,r1,r2,.inl r3⟩
     ·simp only[findA]at hk;rw[if_neg (by simp;omega)]at hk;obtain⟨m,o,r1,r2,r3⟩:=ht.row k q x hk q2;exact⟨m,o,r1,r2,r3.imp (hsub m) id⟩
    have hfix':∀(k:Nat) (e':TypeId) (xs:List A),findA ((Si.nl,.row e sz a Si.nx 0)::Si.hp) k=some (.fix e' xs)→k<l∧∃ys,findA S1.hp k=some (.fix e' ys):=by
     intro k e' xs hk;simp only[findA]at hk;split at hk
     ·cases hk
     ·exact ht.fix k e' xs hk
    have hsc:=setCell_ok (used:=used) (base:=base) (Si:=Si) h1 hm hl hgh (e2.trans hx2) hf hx0 ob1 hcj hval' hfix';have hg':GS {Si with hp:=setCell m j (.osl Si.nl sz 0 0 Si.nx 0) ((Si.nl,.row e sz a Si.nx 0)::Si.hp),nx:=Si.nx+1,nl:=Si.nl+1,cs:= .le 0 Si.nx (-lo):: .le Si.nx 0 hi::Si.cs} (ρi++[(len:Int)]) (μi++[y]) fr1 H1:=
     ⟨hf',hsc,hg.fr.ext hx1 hx2⟩
    obtain⟨ρ2,μ2,y1,y2,y3⟩:=addOc_ok h1 he hm hn hl r used1 _ _ _ hok' hg' (e1.trans hx1) (e2.trans hx2) (Tr.cell (Si:=Si) hrow' hfix');exact⟨ρ2,μ2,hx1.trans y1,hx2.trans y2,y3⟩
   split at hok
   ·rename_i hv;simp only[Bool.and_eq_true,ile,decide_eq_true_eq]at hok;obtain⟨c,c1,c2⟩:=ob2.2.at hv;cases c2;exact main none 0 used _ c1 (by simpa using hok.1) (by simpa using hok.2.1) (fun x hx=>by cases hx) rfl (fun _ =>rfl) (fun x hx=>by cases hx) (fun m h=>h) hok.2.2
   ·rename_i q sz' si ci s c hv;split at hok
    ·rename_i e' sz2 b s' c' hfq;simp only[Bool.and_eq_true,beq_iff_eq]at hok;obtain⟨k1,k2,k3,k4,k5,k6,k7,k8,k9,k10,k11,k12,k13⟩:=hok;have k1:=nat_beq k1;have k2:=nat_beq k2;have k3:=nat_beq k3;have k4:=nat_beq k4;have k6:=nat_beq k6;subst k1 k2 k3 k4 k5 k6 k7;obtain⟨cc,cc1,cc2⟩:=ob2.2.at hv;cases cc2 with
     |osl0 _ _ _ _ _ _ vi v g1 g2 g3 g4 g5=>
      have b1:=leq_ok h1.sy.cs k9 h1.sy.zero g4;have b2:=leq_ok h1.sy.cs k10 g4 h1.sy.zero;exact main none 0 (q::used) _ cc1 (by omega) (by omega) (fun x hx=>by cases hx) rfl (fun _ =>rfl) (fun x hx=>by cases hx) (fun q h=>List.mem_cons_of_mem _ h) k13
     |osl _ _ _ _ _ _ l' vi v g1 g2 g3 g4 g5=>
      have b1:=leq_ok h1.sy.cs k9 h1.sy.zero g4;have b2:=leq_ok h1.sy.cs k10 g4 h1.sy.zero;obtain⟨ob,o1,o2,o3,ts,v1,r1,r2,r3,r4⟩:=h1.hp.at hfq g1;rw[g4]at r1;cases r1;rw[h1.sy.zero]at g2;cases g2;refine main (some l') ts.length (q::used) _ cc1 (by omega) (by omega) (fun x hx=> ?_) ?_ (fun h=>by cases h) (fun x hx=>⟨q,_,by cases hx;exact g1,hfq,List.mem_cons_self⟩) (fun q h=>List.mem_cons_of_mem _ h) k13
      ·cases hx;refine⟨h1.hp.lt q l' g1,fun k q' hk hkx=> ?_,ob,ts,o1,o2,o3,r3,rfl,fun t ht=>⟨?_,(r4 t ht).2⟩⟩
       ·obtain⟨m',o',p1,p2,p3⟩:=ht.row k q' l' hk hkx;have:=h1.hp.inj m' q o' _ l' p2 hfq p1 g1;subst this;rcases p3 with p3|p3
        ·have:=memN_mem.2 p3;rw[this]at k11;simp at k11
        ·rw[p3]at k12;simp at k12
       ·have:=leT_ok h1.sy.cs h1.sy.zero n l dep _ _ _ k8 (r4 t ht).1
        rwa [ext_take he hn,ext_take hm hl]at this
      ·have:(v+c).toNat=ts.length:=by omega
       simp[this]
    ·cases hok
   ·cases hok
  ·cases hok
end
end Go.Ps
namespace Go.Ps
variable[Inhabited Prd]
def numT:T→Option Int
 | .int _ n=>some n
 | .str l=>some l.length
 | .nils=>some 0
 | .sl _ xs=>some xs.length
 | .slf _ n _ =>some n
 | .osl _ _ _ len=>some len
 |_ =>none
noncomputable def ptrC:Nat→Hp→List T→Nat→Option Nat
 |0,_,_,_ =>none
 | k+1,H,fr,d=>if Nat.blt d 1000 then match getT fr d with
   | .ptr x _ =>some x
   |_ =>none
  else match getT fr (Nat.mod d 1000)with
   | .yl x=>match H.any x with
    |some o=>match o.me with
     |some (.loop r)=>ptrC k H (r.fr.view r.n) (Nat.div d 1000-1)
     |_ =>none
    |none=>none
   |_ =>none
noncomputable def refN(fr:List T)(H:Hp)(g:Int):Ref→Option Int
 | .slot d=>numT (getT fr d)
 | .cell d j=>match ptrC 5 H fr d with
  |some x=>match H.get x with
   |some o=>match o.cells[j]? with
    |some t=>numT t
    |none=>none
   |none=>none
  |none=>none
 | .ghost=>some g
 | .zero=>some 0
section
variable{ρ ρ' ρ0 ρ1:List Int}{μ μ' μ0 μ1:List (Option Nat)}{H H1:Hp}{S S1:AS}{fr fr1:List T}
theorem numA_ok(h0:ρ[0]? =some 0){a:A}{t:T}(hg:Gm ρ μ a t){s:Nat}{c:Int}(h:numA a=some (s,c)):∃v,ρ[s]? =some v∧numT t=some (v+c):=by
 cases hg with
 |int _ _ _ v h1 h2=>simp only[numA]at h;cases h;exact⟨v,h1,rfl⟩
 |strc l=>simp only[numA]at h;cases h;exact⟨0,h0,by simp[numT]⟩
 |str _ _ v l h1 h2=>simp only[numA]at h;cases h;exact⟨v,h1,by simp[numT,h2]⟩
 |nils=>simp only[numA]at h;cases h;exact⟨0,h0,by simp[numT]⟩
 |sl _ _ _ _ xs v h1 h2 h3 h4=>
  simp only[numA]at h;cases h;refine⟨v,h2,?_⟩;rcases h1 with⟨rfl,rfl⟩|⟨f,rfl⟩|⟨full,m,f,rfl,rfl⟩
  ·simp only[numT,←h3];rfl
  ·simp only[numT,←h3]
  ·simp only[List.length_map,List.length_range]at h3;simp only[numT,←h3]
 |slp _ _ _ _ _ xs v h0' h1 h2 h3 h4=>
  simp only[numA]at h;cases h;refine⟨v,h2,?_⟩;rcases h1 with⟨rfl,rfl⟩|⟨f,rfl⟩|⟨full,m,f,rfl,rfl⟩
  ·simp only[numT,←h3];rfl
  ·simp only[numT,←h3]
  ·simp only[List.length_map,List.length_range]at h3;simp only[numT,←h3]
 |sx _ _ full m f v h1 h2=>simp only[numA]at h;cases h;exact⟨v,h1,by simp only[numT,h2]⟩
 |osl _ _ _ _ _ _ l' vi v h1 h2 h3 h4 h5=>
  simp only[numA]at h;cases h;exact⟨v,h4,by simp only[numT];rw[Int.toNat_of_nonneg h5]⟩
 |osl0 _ _ _ _ _ _ vi v h1 h2 h3 h4 h5=>
  simp only[numA]at h;cases h;exact⟨v,h4,by simp only[numT,h5]⟩
 |_ =>simp only[numA]at h;cases h
theorem GH.atL{hp:List (Nat×AO)}{nl:Nat}{H:Hp}(hg:GH hp nl ρ μ H){l x:Nat}{st:LoopState}{pn:Option (Option Nat)}{fa:List A}{ps:Array Tmp}{asg bd:Code}{ow:Tmp→Bool}{aa ab:An}(h:findA hp l=some (.loop st pn fa ps asg bd ow aa ab))(hx:μ[l]? =some (some x)):
  ∃b r,H.any x=some b∧b.me=some (.loop r)∧r.st=st∧r.pe=peC pn∧r.ps=ps∧r.asg=asg∧r.bd=bd∧r.ow=ow∧GmL ρ μ fa (r.fr.view r.n):=by
 obtain⟨y,h1,h2⟩:=hg.obj l _ h;rw[hx]at h1;cases h1;obtain⟨b,h3,r,h4⟩:=h2 x rfl;exact⟨b,r,h3,h4⟩
theorem ocPtr_ok{hp:List (Nat×AO)}{nl:Nat}(hh:GH hp nl ρ μ H):∀(k:Nat) (fa:List A) (fr:List T) (d l:Nat),GmL ρ μ fa fr→ocPtr k hp fa d=some l→∃x,ptrC k H fr d=some x∧μ[l]? =some (some x)
 |0,fa,fr,d,l,_,h=>by simp[ocPtr]at h
 |k+1,fa,fr,d,l,hf,h=>by
  simp only[ocPtr]at h;simp only[ptrC];split at h
  ·rename_i hd;rw[if_pos hd];have hget:=hf.get d;split at h
   ·rename_i l' off hv;cases h;rw[hv]at hget;generalize getT fr d=z at hget;cases hget with
    |ptr _ _ x hx=>exact⟨x,rfl,hx⟩
   ·cases h
  ·rename_i hd;rw[if_neg hd];have hget:=hf.get (Nat.mod d 1000);split at h
   ·rename_i l' hv;rw[hv]at hget;generalize getT fr (Nat.mod d 1000)=z at hget;cases hget with
    |yl _ x hx=>
    split at h
    ·rename_i hfa;obtain⟨b,r,b1,b2,_,_,_,_,_,_,b3⟩:=hh.atL hfa hx;obtain⟨x',e1,e2⟩:=ocPtr_ok hh k _ _ _ _ b3 h;exact⟨x',by simp only[b1,b2];exact e1,e2⟩
    ·cases h
   ·cases h
theorem refA_ok(hg:GS S ρ μ fr H){gs:Nat}{gc g:Int}(hgh:∀v,ρ[gs]? =some v→v+gc=g)(hgx:∃v,ρ[gs]? =some v){r:Ref}{s:Nat}{c:Int}(h:refA S gs gc r=some (s,c)):
  ∃v,ρ[s]? =some v∧refN fr H g r=some (v+c):=by
 cases r with
 |slot d=>exact numA_ok hg.sy.zero (hg.fr.get d) h
 |cell d j=>
  simp only[refA]at h;split at h
  ·rename_i l hv;obtain⟨l',hz,hl'⟩:=ocPtr_ok hg.hp 5 _ _ _ _ hg.fr hv;split at h
   ·rename_i e xs hf;obtain⟨b,b1,b2⟩:=hg.hp.at hf hl';split at h
    ·rename_i a ha;obtain⟨t,t1,t2⟩:=b2.2.at ha;obtain⟨v,v1,v2⟩:=numA_ok hg.sy.zero t2 h;exact⟨v,v1,by simp only[refN,hz,b1,t1];exact v2⟩
    ·cases h
   ·cases h
  ·cases h
 |ghost=>
  simp only[refA]at h;cases h;obtain⟨v,hv⟩:=hgx;exact⟨v,hv,by simp only[refN,hgh v hv]⟩
 |zero=>simp only[refA]at h;cases h;exact⟨0,hg.sy.zero,rfl⟩
theorem okCons_ok(h1:GS S1 ρ1 μ1 fr1 H1){gs:Nat}{gc g:Int}(hgh:∀v,ρ1[gs]? =some v→v+gc=g)(hgx:∃v,ρ1[gs]? =some v):∀(cons:List (Ref×Ref×Int)),okCons gs gc S1 cons=true→
  ∀q∈cons,∃x y,refN fr1 H1 g q.1=some x∧refN fr1 H1 g q.2.1=some y∧x≤y+q.2.2
 |(p,q,c)::r,h,z,hz=>by
  simp only[okCons,Bool.and_eq_true]at h;rcases List.mem_cons.1 hz with rfl|hz
  ·have h2:=h.1;split at h2
   ·rename_i x a y b hp hq;obtain⟨v,v1,v2⟩:=refA_ok h1 hgh hgx hp;obtain⟨w,w1,w2⟩:=refA_ok h1 hgh hgx hq;have:=leq_ok h1.sy.cs h2 v1 w1;exact⟨_,_,v2,w2,by simp only;omega⟩
   ·cases h2
  ·exact okCons_ok h1 hgh hgx r h.2 z hz
theorem addCons_ok(hg:GS S ρ μ fr H){gs:Nat}{g:Int}(hgg:ρ[gs]? =some g):∀(cons:List (Ref×Ref×Int)) (cs:List Con),(∀q∈cons,∃x y,refN fr H g q.1=some x∧refN fr H g q.2.1=some y∧x≤y+q.2.2)→
  addCons gs cons S=some cs→HoldCs ρ cs
 |[],cs,_,h=>by simp only[addCons]at h;cases h;exact hg.sy.cs
 |(p,q,c)::r,cs,hc,h=>by
  simp only[addCons]at h;split at h
  ·rename_i x a y b hp hq;split at h
   ·rename_i cs' hcs;cases h;have ih:=addCons_ok hg hgg r cs' (fun z hz=>hc z (List.mem_cons_of_mem _ hz)) hcs;obtain⟨v,v1,v2⟩:=refA_ok hg (g:=g) (fun v h=>by rw[hgg]at h;cases h;omega) ⟨_,hgg⟩ hp;obtain⟨w,w1,w2⟩:=refA_ok hg (g:=g) (fun v h=>by rw[hgg]at h;cases h;omega) ⟨_,hgg⟩ hq;obtain⟨x',y',z1,z2,z3⟩:=hc _ List.mem_cons_self;simp only at z1 z2 z3;rw[v2]at z1;rw[w2]at z2;cases z1;cases z2;exact .cons ⟨v,w,v1,w1,by omega⟩ ih
   ·cases h
  ·cases h
theorem okS_ok(hk:Keep H H1)(hs:GS S ρ0 μ0 fr H)(h1:GS S1 ρ1 μ1 fr1 H1)(he:Ext ρ0 ρ1)(hm:Ext μ0 μ1){w:List Tmp}{sp:List (Tmp×TA)}{oc:List (Nat×Nat×TA)}{cons:List (Ref×Ref×Int)}{m0 g:Int}(hg:0≤g)(hg':g≤m0)
  {gs:Nat} {gc:Int} (hgh:∀v,ρ1[gs]? =some v→v+gc=g) (hgx:∃v,ρ1[gs]? =some v) (hok:okS S w sp oc cons S1 gs gc=true) {Sh:AS} (hi:invS S w sp oc cons m0=some Sh):
  ∃ρ2 μ2,Ext ρ0 ρ2∧Ext μ0 μ2∧ρ2[S.nx]? =some g∧GS Sh ρ2 μ2 fr1 H1:=by
 simp only[okS,Bool.and_eq_true]at hok;obtain⟨k1,k2,k3,k4,k5⟩:=hok;have hn:=hs.sy.len;have hl:=hs.hp.len;have hb:=base_ok (sp:=sp) hk hs h1 he hm hg hg' k1 k2;have e0:=Ext.app ρ0 [g];have hgn:=(hs.sy.new g).2.1;have htr:Tr S1 (baseHp S sp oc) S.nl μ1 (baseS S w sp oc m0) μ0 []:=by
  refine⟨fun l q x hf hx=> ?_,fun l e xs hf=> ?_⟩
  ·obtain⟨q',h2,_⟩:=findA_any _ _ _ hf;obtain⟨h4,o1,h5,_⟩:=sameH_ok _ _ _ k2 h2;exact⟨l,o1,hm _ _ hx,h5,.inr (by unfold findsA;rw[h2];rfl)⟩
  ·obtain⟨q',h2,h3⟩:=findA_any _ _ _ hf;obtain⟨h4,o1,h5,h6⟩:=sameH_ok _ _ _ k2 h2;refine⟨h4,?_⟩;cases q' with
   |row=>cases h3
   |loop=>cases h3
   |map=>cases h3
   |fix e' ys=>
    cases h3;cases o1 with
    |row=>exact h6.elim
    |loop=>exact h6.elim
    |map=>exact h6.elim
    |fix e2 zs=>obtain⟨rfl,_⟩:=h6;exact⟨zs,h5⟩
 obtain⟨ρa,μa,a1,a2,a3,a4⟩:=addSp_ok h1 he hm hn hl sp [] _ _ _ k3 hb e0 (.refl _) htr;obtain⟨ρb,μb,b1,b1',b2⟩:=addOc_ok h1 he hm hn hl oc _ _ ρa μa k4 a3 (e0.trans a1) a2 a4;unfold invS at hi;simp only at hi;split at hi
 ·rename_i cs hcs;cases hi;have hgb:ρb[S.nx]? =some g:=b1 _ _ (a1 _ _ hgn);have hcc:=addCons_ok b2 hgb cons cs (okCons_ok h1 hgh hgx cons k5) hcs;exact⟨ρb,μb,(e0.trans a1).trans b1,a2.trans b1',hgb,⟨b2.sy.len,b2.sy.zero,hcc⟩,b2.hp,b2.fr⟩
 ·cases hi
end
end Go.Ps
namespace Go.Ps
variable[Inhabited Prd]
section
variable{ρ ρ' ρ0 ρ1:List Int}{μ μ' μ0 μ1:List (Option Nat)}{X:AX}{gl:Nat→Option T}{pe:Hp→FuncId→List T→Option T}{H H1:Hp}{S S1:AS}{P:Program}
variable{call:FuncId→List A→AS→Option (List AR)}{ee:Nat→Nat→FuncId→List T→Hp→Option (T×Hp)}{F:Tmp→Bool}{fr fr1:List T}
variable{yld:Nat→List A→AS→Option (List AR)}{yd:Nat→Nat→Nat→List T→Hp→Option (Bool×Hp)}
def XOk(l:List (Go.Ps.X×AS))(ρ:List Int)(μ:List (Option Nat))(x:Go.Ps.X)(fr:List T)(H:Hp):Prop:=
 ∃S,(x,S)∈l∧∃ρ' μ',Ext ρ ρ'∧Ext μ μ'∧GS S ρ' μ' fr H
theorem XOk.lift{l l':List (Go.Ps.X×AS)}{x:Go.Ps.X}(h:XOk l ρ μ x fr H)(hl:∀y∈l,y∈l'):XOk l' ρ μ x fr H:=by
 obtain⟨S,h1,h2⟩:=h;exact⟨S,hl _ h1,h2⟩
theorem XOk.trans{l:List (Go.Ps.X×AS)}{x:Go.Ps.X}(e1:Ext ρ ρ')(e2:Ext μ μ')(h:XOk l ρ' μ' x fr H):XOk l ρ μ x fr H:=by
 obtain⟨S,h1,a,b,h2,h3,h4⟩:=h;exact⟨S,h1,a,b,e1.trans h2,e2.trans h3,h4⟩
theorem liftN_ok:∀(l:List Af) (q:List (Go.Ps.X×AS)),liftN l=some q→∀s∈l,s.pend=none∧(.normal,s.S)∈q
 |s::r,q,h,z,hz=>by
  simp only[liftN]at h;split at h
  ·rename_i hp;split at h
   ·rename_i q' hq;cases h;rcases List.mem_cons.1 hz with rfl|hz
    ·exact⟨hp,List.mem_cons_self⟩
    ·obtain⟨h1,h2⟩:=liftN_ok r q' hq z hz;exact⟨h1,List.mem_cons_of_mem _ h2⟩
   ·cases h
  ·cases h
theorem exitsB_mem{id:Nat}:∀{l:List (Go.Ps.X×AS)} {x:Go.Ps.X} {S:AS},(x,S)∈l→((match x with| .exit id'=>if id'=id then .normal else .exit id'|x=>x:Go.Ps.X),S)∈exitsB id l
 |(y,S')::r,x,S,h=>by
  rcases List.mem_cons.1 h with h|h
  ·cases h;cases y with
   |normal=>exact List.mem_cons_self
   |ret=>exact List.mem_cons_self
   |exit id'=>
    simp only[exitsB];by_cases hi:id'=id
    ·rw[if_pos hi,if_pos (by rw[hi];simp)];exact List.mem_cons_self
    ·rw[if_neg hi,if_neg (by simpa using hi)];exact List.mem_cons_self
  ·have ih:=exitsB_mem (id:=id) h;cases y with
   |normal=>exact List.mem_cons_of_mem _ ih
   |ret=>exact List.mem_cons_of_mem _ ih
   |exit id'=>exact List.mem_cons_of_mem _ ih
theorem loopOuts_ok{w:List Tmp}{la:LA}{oc:List (Nat×Nat×TA)}{Sh:AS}:∀(l q:List (Go.Ps.X×AS)),loopOuts S w la oc Sh l=some q→∀x S2,(x,S2)∈l→
  (x= .normal∧okS S w la.sp oc la.cons S2 S.nx (Int.ofNat la.gk)=true∧measOk S Sh S2 la.m0 la.ms=true)∨(x≠ .normal∧(x,S2)∈q)
 |(y,S')::r,q,h,x,S2,hm=>by
  cases y with
  |normal=>
   simp only[loopOuts]at h;split at h
   ·rename_i hc;simp only[Bool.and_eq_true]at hc;rcases List.mem_cons.1 hm with hm|hm
    ·cases hm;exact .inl ⟨rfl,hc⟩
    ·exact loopOuts_ok r q h x S2 hm
   ·cases h
  |ret=>
   simp only[loopOuts]at h;split at h
   ·rename_i q' hq;cases h;rcases List.mem_cons.1 hm with hm|hm
    ·cases hm;exact .inr ⟨by simp,List.mem_cons_self⟩
    ·exact(loopOuts_ok r q' hq x S2 hm).imp (fun z=>z) fun⟨a,b⟩=>⟨a,List.mem_cons_of_mem _ b⟩
   ·cases h
  |exit id=>
   simp only[loopOuts]at h;split at h
   ·rename_i q' hq;cases h;rcases List.mem_cons.1 hm with hm|hm
    ·cases hm;exact .inr ⟨by simp,List.mem_cons_self⟩
    ·exact(loopOuts_ok r q' hq x S2 hm).imp (fun z=>z) fun⟨a,b⟩=>⟨a,List.mem_cons_of_mem _ b⟩
   ·cases h
noncomputable def measN(fr:List T)(H:Hp):Meas→Option Int
 | .down p=>refN fr H 0 p
 | .up p q c=>match refN fr H 0 p,refN fr H 0 q with
  |some x,some y=>some (y+c-x)
  |_,_ =>none
theorem meas0_ok(hs:GS S ρ μ fr H){Sh S2:AS}{m0:Int}{ms:Meas}(h:measOk S Sh S2 m0 ms=true):∃M,measN fr H ms=some M∧M≤m0:=by
 have hz:∀v,ρ[0]? =some v→v+0=0:=fun v hv=>by rw[hs.sy.zero]at hv;cases hv;rfl
 cases ms with
 |down p=>
  simp only[measOk,Bool.and_eq_true]at h;have h1:=h.1;split at h1
  ·rename_i x a hp;obtain⟨v,v1,v2⟩:=refA_ok hs hz ⟨0,hs.sy.zero⟩ hp;have:=leq_ok hs.sy.cs h1 v1 hs.sy.zero;exact⟨_,v2,by omega⟩
  ·cases h1
 |up p q c=>
  simp only[measOk,Bool.and_eq_true]at h;have h1:=h.1;split at h1
  ·rename_i x a y b hp hq;obtain⟨v,v1,v2⟩:=refA_ok hs hz ⟨0,hs.sy.zero⟩ hp;obtain⟨w,w1,w2⟩:=refA_ok hs hz ⟨0,hs.sy.zero⟩ hq;have:=leq_ok hs.sy.cs h1 w1 v1;exact⟨w+b+c-(v+a),by simp only[measN,v2,w2],by omega⟩
  ·cases h1
theorem meas1_ok{Sh S2:AS}(hh:GS Sh ρ μ fr H)(h2:GS S2 ρ' μ' fr1 H1)(he:Ext ρ ρ'){m0:Int}{ms:Meas}(h:measOk S Sh S2 m0 ms=true):∃M M',measN fr H ms=some M∧measN fr1 H1 ms=some M'∧M'+1≤M∧0≤M':=by
 have hz:∀v,ρ[0]? =some v→v+0=0:=fun v hv=>by rw[hh.sy.zero]at hv;cases hv;rfl
 have hz2:∀v,ρ'[0]? =some v→v+0=0:=fun v hv=>by rw[h2.sy.zero]at hv;cases hv;rfl
 cases ms with
 |down p=>
  simp only[measOk,Bool.and_eq_true]at h;have h1:=h.2;split at h1
  ·rename_i x a y b hp hq;simp only[Bool.and_eq_true]at h1;obtain⟨v,v1,v2⟩:=refA_ok hh hz ⟨0,hh.sy.zero⟩ hp;obtain⟨w,w1,w2⟩:=refA_ok h2 hz2 ⟨0,h2.sy.zero⟩ hq;have q1:=leq_ok h2.sy.cs h1.1 w1 (he _ _ v1);have q2:=leq_ok h2.sy.cs h1.2 h2.sy.zero w1;exact⟨_,_,v2,w2,by omega,by omega⟩
  ·cases h1
 |up p q c=>
  simp only[measOk,Bool.and_eq_true]at h;have h1:=h.2;split at h1
  ·rename_i x a y b x' a' y' b' hp hq hp' hq';simp only[Bool.and_eq_true,beq_iff_eq]at h1;obtain⟨k1,k2,k3,k4⟩:=h1;have k1:=nat_beq k1;subst k1 k2;obtain⟨v,v1,v2⟩:=refA_ok hh hz ⟨0,hh.sy.zero⟩ hp;obtain⟨w,w1,w2⟩:=refA_ok hh hz ⟨0,hh.sy.zero⟩ hq;obtain⟨v',v3,v4⟩:=refA_ok h2 hz2 ⟨0,h2.sy.zero⟩ hp';obtain⟨w',w3,w4⟩:=refA_ok h2 hz2 ⟨0,h2.sy.zero⟩ hq';have:=he _ _ w1;rw[w3]at this;cases this;have q1:=leq_ok h2.sy.cs k3 (he _ _ v1) v3;have q2:=leq_ok h2.sy.cs k4 v3 w3;exact⟨w+b+c-(v+a),w+b+c-(v'+a'),by simp only[measN,v2,w2],by simp only[measN,v4,w4],by omega,by omega⟩
  ·cases h1
theorem loop_ok{H0:Hp}(hs:GS S ρ0 μ0 fr H0){w:List Tmp}{la:LA}{oc:List (Nat×Nat×TA)}{Sh:AS}(hi:invS S w la.sp oc la.cons (Int.ofNat la.gk*la.m0)=some Sh){l q:List (Go.Ps.X×AS)}(hq:loopOuts S w la oc Sh l=some q)
  {f:Nat→Nat→List T→Hp→Option (Go.Ps.X×List T×Hp)} (hbody:∀(ρ:List Int) (μ:List (Option Nat)) (fr:List T) (H:Hp),GS Sh ρ μ fr H→Ext μ0 μ→∃x fr' H',Ev (fun n d=>f n d fr H=some (x,fr',H'))∧Keep H H'∧XOk l ρ μ x fr' H'):
  ∀(N:Nat) (ρ:List Int) (μ:List (Option Nat)) (fr:List T) (H:Hp) (g:Int),GS Sh ρ μ fr H→Keep H0 H→Ext ρ0 ρ→Ext μ0 μ→ρ[S.nx]? =some (Int.ofNat la.gk*g)→0≤g→(∀M,measN fr H la.ms=some M→M≤N)→((∃x S2,(x,S2)∈l∧x= .normal)→∃M,measN fr H la.ms=some M∧M+g≤la.m0)→
   ∃x fr' H',x≠ .normal∧(∃m,∀n d k,m≤n→m≤d→m≤k→evalCode.loopN (f n d) k fr H=some (x,fr',H'))∧XOk q ρ0 μ0 x fr' H':=by
 intro N
 induction N with
 |zero=>
  intro ρ μ fr H g hg hkp e1 e2 hgg h0 hN hM;obtain⟨x,fr1,H1,⟨m,hm⟩,hk1,S2,s1,ρ',μ',x1,x2,g2⟩:=hbody ρ μ fr H hg e2;rcases loopOuts_ok l q hq x S2 s1 with⟨rfl,k1,k2⟩|⟨k1,k2⟩
  ·obtain⟨M,M',q1,q2,q3,q4⟩:=meas1_ok hg g2 x1 k2;have:=hN M q1;omega
  ·refine⟨x,fr1,H1,k1,⟨m+1,fun n d k hn hd hk=> ?_⟩,S2,k2,ρ',μ',e1.trans x1,e2.trans x2,g2⟩;obtain⟨k,rfl⟩:∃k',k=k'+1:=⟨k-1,by omega⟩;simp only[evalCode.loopN,hm n d (by omega) (by omega)];cases x<;>first|rfl|exact absurd rfl k1
 |succ N ih=>
  intro ρ μ fr H g hg hkp e1 e2 hgg h0 hN hM;obtain⟨x,fr1,H1,⟨m,hm⟩,hk1,S2,s1,ρ',μ',x1,x2,g2⟩:=hbody ρ μ fr H hg e2;rcases loopOuts_ok l q hq x S2 s1 with⟨rfl,k1,k2⟩|⟨k1,k2⟩
  ·obtain⟨M,M',q1,q2,q3,q4⟩:=meas1_ok hg g2 x1 k2;have hN':=hN M q1;obtain⟨M2,q5,q6⟩:=hM ⟨_,_,s1,rfl⟩;rw[q1]at q5;cases q5;obtain⟨ρ2,μ2,y1,y2,y3,y4⟩:=okS_ok (hkp.trans hk1) hs g2 (e1.trans x1) (e2.trans x2) (g:=Int.ofNat la.gk*(g+1)) (Int.mul_nonneg (Int.natCast_nonneg _) (by omega)) (Int.mul_le_mul_of_nonneg_left (by omega) (Int.natCast_nonneg _)) (gs:=S.nx) (gc:=Int.ofNat la.gk) (fun v hv=>by rw[x1 _ _ hgg]at hv;cases hv;rw[Int.mul_add,Int.mul_one]) ⟨_,x1 _ _ hgg⟩ k1 hi;obtain⟨x',fr',H',z1,⟨m',z2⟩,z3⟩:=ih ρ2 μ2 fr1 H1 (g+1) y4 (hkp.trans hk1) y1 y2 y3 (by omega) (fun M3 h3=>by rw[q2]at h3;cases h3;omega) (fun _ =>⟨M',q2,by omega⟩);refine⟨x',fr',H',z1,⟨max m m'+1,fun n d k hn hd hk=> ?_⟩,z3⟩;obtain⟨k,rfl⟩:∃k',k=k'+1:=⟨k-1,by omega⟩;simp only[evalCode.loopN,hm n d (by omega) (by omega)];exact z2 n d k (by omega) (by omega) (by omega)
  ·refine⟨x,fr1,H1,k1,⟨m+1,fun n d k hn hd hk=> ?_⟩,S2,k2,ρ',μ',e1.trans x1,e2.trans x2,g2⟩;obtain⟨k,rfl⟩:∃k',k=k'+1:=⟨k-1,by omega⟩;simp only[evalCode.loopN,hm n d (by omega) (by omega)];cases x<;>first|rfl|exact absurd rfl k1
theorem allIn_mem{w:List Tmp}{sp:List (Tmp×TA)}:∀(l:List Af),allIn S w sp l=true→∀s∈l,s.pend=none∧okS S w sp [] [] s.S 0 0=true
 |s::r,h,z,hz=>by
  simp only[allIn,Bool.and_eq_true]at h;rcases List.mem_cons.1 hz with rfl|hz
  ·exact⟨by simpa using h.1,h.2.1⟩
  ·exact allIn_mem r h.2.2 z hz
theorem joinAf_ok(hs:GS S ρ0 μ0 fr H){w:List Tmp}{l l':List Af}(h:joinAf S w l=some l'){fr1:List T}{H1:Hp}{pd:Option (Tmp×TypeId)}(hk:Keep H H1)(ho:AfOk P gl pe F l ρ0 μ0 fr1 H1 pd):AfOk P gl pe F l' ρ0 μ0 fr1 H1 pd:=by
 have gen:∀(s:Af) (r:List Af),(if allIn S w (spOf S.nx S.nl s r w) (s::r)then match invS S w (spOf S.nx S.nl s r w) [] [] 0 with|some S'=>some [⟨S',none,[]⟩]|none=>none else none)=some l'→AfOk P gl pe F (s::r) ρ0 μ0 fr1 H1 pd→AfOk P gl pe F l' ρ0 μ0 fr1 H1 pd:=by
  intro s r h ⟨z,z1,ρ1,μ1,e1,e2,e3,g1,_⟩;split at h
  ·rename_i ha;split at h
   ·rename_i S' hS';cases h;obtain⟨k1,k2⟩:=allIn_mem _ ha z z1;obtain⟨ρ2,μ2,y1,y2,_,y4⟩:=okS_ok hk hs g1 e1 e2 (g:=0) (m0:=0) (by omega) (by omega) (gs:=0) (gc:=0) (fun v hv=>by rw[g1.sy.zero]at hv;cases hv;rfl) ⟨0,g1.sy.zero⟩ k2 hS';exact⟨_,List.mem_singleton_self _,ρ2,μ2,y1,y2,by rw[←e3,k1],y4,.nil⟩
   ·cases h
  ·cases h
 match l,h,ho with
 |[],h,ho=>simp only[joinAf]at h;cases h;exact ho
 |[s],h,ho=>simp only[joinAf]at h;cases h;exact ho
 |s::t::r,h,ho=>exact gen s (t::r) h ho
theorem joinG_ok(hs:GS S ρ0 μ0 fr H){w:List Tmp}:∀(n:Nat) (l l':List Af),joinG S w n l=some l'→∀{fr1:List T} {H1:Hp} {pd:Option (Tmp×TypeId)},Keep H H1→AfOk P gl pe F l ρ0 μ0 fr1 H1 pd→AfOk P gl pe F l' ρ0 μ0 fr1 H1 pd
 |0,l,l',h,_,_,_,_,ho=>by simp only[joinG]at h;cases h;exact ho
 |n+1,[],l',h,_,_,_,_,ho=>by simp only[joinG]at h;cases h;exact ho
 |n+1,s::r,l',h,fr1,H1,pd,hk,⟨z,z1,hz⟩=>by
  simp only[joinG]at h;split at h
  ·rename_i a ha;split at h
   ·rename_i b hb;cases h;rcases List.mem_cons.1 z1 with rfl|z1
    ·exact(joinAf_ok hs ha hk ⟨z,List.mem_cons_self,hz⟩).lift fun y hy=>List.mem_append_left _ hy
    ·by_cases hq:sigEq s z w=true
     ·exact(joinAf_ok hs ha hk ⟨z,List.mem_cons_of_mem _ (List.mem_filter.2 ⟨z1,hq⟩),hz⟩).lift fun y hy=>List.mem_append_left _ hy
     ·exact(joinG_ok hs n _ b hb hk ⟨z,List.mem_filter.2 ⟨z1,by simpa using hq⟩,hz⟩).lift fun y hy=>List.mem_append_right _ hy
   ·cases h
  ·cases h
def YldA(yld:Nat→List A→AS→Option (List AR))(yd:Nat→Nat→Nat→List T→Hp→Option (Bool×Hp)):Prop:=
 ∀l args S rs,yld l args S=some rs→∀(ρ:List Int) (μ:List (Option Nat)) (H:Hp) (ts:List T) (x:Nat),Sy ρ S.nx S.cs→GH S.hp S.nl ρ μ H→GmL ρ μ args ts→μ[l]? =some (some x)→
  ∃b H',Ev (fun n d=>yd n d x ts H=some (b,H'))∧∃R∈rs,ROk ρ μ R (.bool b) H'
section
variable(P:Program)(E:Env)(e:FuncId→List T→Hp→Option (T×Hp))(y:Nat→List T→Hp→Option (Bool×Hp))(ow:Tmp→Bool)
noncomputable def step2(ops:Array Oper)(s:Fx)(o:Oper):Option Fx:=
 match(if s.pend.isNone&&wantedT ops s.fr o then yieldQ E.gl s.fr o else none)with
 |some (l,ars)=>match y l ars s.H with
  |some (b,H')=>some ⟨putT s.fr o.dst (.bool b),H',none⟩
  |none=>none
 |none=>stepE P E (fcOf ow e) ops s o
end
theorem seq2_cons{E:Env}{e:FuncId→List T→Hp→Option (T×Hp)}{y:Nat→List T→Hp→Option (Bool×Hp)}{ow:Tmp→Bool}{ops:Array Oper}{o:Oper}{r:List Oper}{s s1:Fx}(h:step2 P E e y ow ops s o=some s1):
  seq2 P E e y ow ops (o::r) s=seq2 P E e y ow ops r s1:=by
 simp only[seq2];unfold step2 at h;split at h
 ·rename_i hq;rw[hq];simp only;split at h
  ·rename_i hy;rw[hy];cases h;rfl
  ·cases h
 ·rename_i hq;rw[hq];simp only;rw[h]
theorem step2_keep{E:Env}{e:FuncId→List T→Hp→Option (T×Hp)}{y:Nat→List T→Hp→Option (Bool×Hp)}{ow:Tmp→Bool}(hF:EeK e)(hY:YdK y){ops:Array Oper}{o:Oper}{s s1:Fx}(h:step2 P E e y ow ops s o=some s1):Keep s.H s1.H:=by
 have h1:=seq2_cons (r:=[]) h;exact seq2_keep hF hY (s:=s) (s':=s1) (l:=[o]) (h1.trans rfl)
theorem stepE_noY{E:Env}{G:Fc}{ops:Array Oper}{s s':Fx}{o:Oper}(h:stepE P E G ops s o=some s')(hp:s.pend=none)(hw:wantedT ops s.fr o=true):yieldQ E.gl s.fr o=none:=by
 cases hq:yieldQ E.gl s.fr o with
 |none=>rfl
 |some q=>
  exfalso;unfold yieldQ at hq;unfold stepE at h;simp only[hp]at h;unfold plainE at h;rw[if_pos hw]at h;split at hq
  ·rename_i c ho;split at hq
   ·rename_i f hf;split at hq
    ·rename_i l hl;have e1:evalP P E (ownD G o) s.H s.fr o=none:=by simp only[evalP,ho,evalC,hf,hl]
     have e2:allocOf G o=none:=by simp only[allocOf,ho]
     have e3:effT P E G s.H s.fr o=none:=by simp only[effT,ho,hf,hl]
     simp only[e1,e2,e3]at h;cases h
    ·cases hq
   ·cases hq
  ·cases hq
theorem yOf_ok(hc:Cn X gl pe)(hg:GS S ρ μ fr H){o:Oper}{l:Nat}{xs:List Operand}(h:yOf X.gl S.fr o=some (l,xs)){ars:List A}(ha:evAll X.gl S.fr xs=some ars):∃x ts,μ[l]? =some (some x)∧yieldQ gl fr o=some (x,ts)∧GmL ρ μ ars ts:=by
 unfold yOf at h;split at h
 ·rename_i c ho;split at h
  ·rename_i f hf;split at h
   ·rename_i l' hl;cases h;obtain⟨t,t1,t2⟩:=evA_ok hc.gl hg.sy.zero hg.fr hl;cases t2 with
    |yl _ x hx=>
    obtain⟨ts,u1,u2⟩:=evAll_ok hc.gl hg.sy.zero hg.fr ha;exact⟨x,ts,hx,by simp only[yieldQ,ho,hf,t1,u1],u2⟩
   ·cases h
  ·cases h
 ·cases h
theorem fcA_of:FcA F ee (fun n d=>fcOf F (ee n d)):=⟨fun _ _ =>rfl,fun n d=>fcOf_ee _ _⟩
theorem stepY_ok(hc:Cn X gl pe)(hcall:CallA call ee)(hyl:YldA yld yd){s:Af}(hg:GS s.S ρ μ fr H)(hav:AvOk P gl pe F s.av fr H){ops:Array Oper}{o:Oper}{l:List Af}(h:stepY P X call yld F ops s o=some l):
  ∃fr' H' pd,Ev (fun n d=>step2 P ⟨gl,pe⟩ (ee n d) (yd n d) F ops ⟨fr,H,s.pend⟩ o=some ⟨fr',H',pd⟩)∧AfOk P gl pe F l ρ μ fr' H' pd:=by
 unfold stepY at h;split at h
 ·split at h
  ·cases h
  ·rename_i hpn;have hpn:s.pend=none:=by simpa using hpn
   split at h
   ·rename_i gs hgs;obtain⟨q,q1,q2,q3⟩:=guardA_ok hg hgs;obtain⟨u,u1,u2⟩:=catM_mem h q q1;split at u1
    ·rename_i hw;rw[q2]at hw;unfold oneY at u1;split at u1
     ·rename_i l' xs hy;split at u1
      ·rename_i ars ha;split at u1
       ·rename_i rs hrs;cases u1;obtain⟨x,ts,v1,v2,v3⟩:=yOf_ok hc q3 hy ha;obtain⟨b,H',e1,R,r1,ρ',μ',k1,k2,k3,k4,k5⟩:=hyl _ _ _ _ hrs ρ μ H ts x q3.sy q3.hp v3 v1;refine⟨putT fr o.dst (.bool b),H',none,e1.mono fun n d e=> ?_,_,u2 _ (List.mem_map.2 ⟨R,r1,rfl⟩),ρ',μ',k1,k2,rfl,⟨k3,k4,(q3.fr.ext k1 k2).put k5 o.dst⟩,.nil⟩;unfold step2;simp only[hpn,Option.isNone_none,Bool.true_and,hw,if_true,v2,e]
       ·cases u1
      ·cases u1
     ·cases u1
    ·rename_i hw;have hw:wantedT ops fr o=false:=by rw[←q2];simpa using hw
     cases u1;refine⟨putT fr o.dst undefT,H,none,.of fun n d=> ?_,_,u2 _ (List.mem_singleton_self _),ρ,μ,.refl _,.refl _,rfl,⟨q3.sy,q3.hp,q3.fr.put gm_undef o.dst⟩,.nil⟩;unfold step2;simp only[hpn,hw,Option.isNone_none,Bool.and_false,Bool.false_eq_true,if_false];unfold stepE;simp only[plainE,hw,Bool.false_eq_true,if_false]
   ·cases h
 ·obtain⟨fr',H',pd,e1,e2⟩:=stepA_ok (Fe:=fun n d=>fcOf F (ee n d)) hc hcall fcA_of hg hav h;refine⟨fr',H',pd,e1.mono fun n d e=> ?_,e2⟩;unfold step2;have:(if(s.pend.isNone&&wantedT ops fr o)=true then yieldQ gl fr o else none)=none:=by
   split
   ·rename_i hcnd;simp only[Bool.and_eq_true]at hcnd;exact stepE_noY e (by simpa using hcnd.1) hcnd.2
   ·rfl
  simp only[this];exact e
theorem seqY_ok(hc:Cn X gl pe)(hcall:CallA call ee)(hyl:YldA yld yd){ops:Array Oper}:∀(os:List Oper) (s:Af) (ρ:List Int) (μ:List (Option Nat)) (fr:List T) (H:Hp) (l:List Af),GS s.S ρ μ fr H→AvOk P gl pe F s.av fr H→seqY P X call yld F ops os s=some l→
  ∃fr' H' pd,Ev (fun n d=>seq2 P ⟨gl,pe⟩ (ee n d) (yd n d) F ops os ⟨fr,H,s.pend⟩=some ⟨fr',H',pd⟩)∧AfOk P gl pe F l ρ μ fr' H' pd
 |[],s,ρ,μ,fr,H,l,hg,hav,h=>by
  simp only[seqY]at h;cases h;exact⟨fr,H,s.pend,.of fun n d=>rfl,_,List.mem_singleton_self _,ρ,μ,.refl _,.refl _,rfl,hg,hav⟩
 |o::rest,s,ρ,μ,fr,H,l,hg,hav,h=>by
  simp only[seqY]at h;split at h
  ·rename_i q hq;obtain⟨fr1,H1,pd1,e1,s1,m1,ρ1,μ1,x1,x2,x3,g1,av1⟩:=stepY_ok hc hcall hyl hg hav hq;obtain⟨r,r1,r2⟩:=catM_mem h s1 m1;obtain⟨fr2,H2,pd2,e2,k2⟩:=seqY_ok hc hcall hyl rest s1 ρ1 μ1 fr1 H1 r g1 av1 r1;rw[x3]at e2;refine⟨fr2,H2,pd2,(e1.and e2).mono fun n d ⟨a,b⟩=> ?_,(k2.lift r2).trans x1 x2⟩;rw[seq2_cons a];exact b
  ·cases h
theorem Ev.ex{p:Nat→Nat→Prop}(h:Ev p):∃n d,p n d:=by obtain⟨m,hm⟩:=h;exact⟨m,m,hm m m (Nat.le_refl _) (Nat.le_refl _)⟩
theorem seqJ_ok(hc:Cn X gl pe)(hcall:CallA call ee)(hyl:YldA yld yd)(hK:∀n d,EeK (ee n d))(hKy:∀n d,YdK (yd n d))(hs:GS S ρ0 μ0 fr H){ops:Array Oper}:∀(os:List Oper) (w:List Tmp) (l l':List Af) (fr1:List T) (H1:Hp) (pd:Option (Tmp×TypeId)),seqJ P X call yld F S ops w os l=some l'→Keep H H1→AfOk P gl pe F l ρ0 μ0 fr1 H1 pd→
  ∃fr' H' pd',Ev (fun n d=>seq2 P ⟨gl,pe⟩ (ee n d) (yd n d) F ops os ⟨fr1,H1,pd⟩=some ⟨fr',H',pd'⟩)∧AfOk P gl pe F l' ρ0 μ0 fr' H' pd'
 |[],w,l,l',fr1,H1,pd,h,_,ho=>by simp only[seqJ]at h;cases h;exact⟨fr1,H1,pd,.of fun n d=>rfl,ho⟩
 |o::rest,w,l,l',fr1,H1,pd,h,hk,⟨s,s1,ρ1,μ1,e1,e2,e3,g1,av1⟩=>by
  simp only[seqJ]at h;split at h
  ·rename_i q hq;obtain⟨u,u1,u2⟩:=catM_mem hq s s1;obtain⟨fr2,H2,pd2,k1,k2⟩:=stepY_ok hc hcall hyl g1 av1 u1;have hk2:Keep H H2:=by
    obtain⟨n,d,e⟩:=k1.ex;have:=step2_keep (hK n d) (hKy n d) e;exact hk.trans this
   have k3:AfOk P gl pe F q ρ0 μ0 fr2 H2 pd2:=(k2.lift u2).trans e1 e2;split at h
   ·rename_i l2 hl2;have k4:AfOk P gl pe F l2 ρ0 μ0 fr2 H2 pd2:=by
     split at hl2
     ·exact joinG_ok hs _ _ _ hl2 hk2 k3
     ·cases hl2;exact k3
    obtain⟨fr',H',pd',k5,k6⟩:=seqJ_ok hc hcall hyl hK hKy hs rest _ l2 l' fr2 H2 pd2 h hk2 k4;rw[e3]at k1;refine⟨fr',H',pd',(k1.and k5).mono fun n d ⟨a,b⟩=> ?_,k6⟩;rw[seq2_cons a];exact b
   ·cases h
  ·cases h
def RoOk(μ:List (Option Nat)):Option Nat→Option Nat→Prop
 |none,none=>True
 |some l,some x=>μ[l]? =some (some x)
 |_,_ =>False
theorem RoOk.ext{μ μ':List (Option Nat)}(h:Ext μ μ'){a b:Option Nat}(hr:RoOk μ a b):RoOk μ' a b:=by
 cases a<;>cases b<;>first|trivial|exact hr.elim|exact h _ _ hr
theorem endR_ok{l:Nat}:∀(rs:List AR) (q:List (Go.Ps.X×AS)),endR S l rs=some q→∀R∈rs,∃st pn fa ps asg bd ow aa ab,findA R.hp l=some (.loop st pn fa ps asg bd ow aa ab)∧st≠ .busy∧(jmpA pn,{fr:=S.fr,hp:=dropA R.hp l,nx:=R.nx,nl:=R.nl,cs:=R.cs})∈q
 |R::rs,q,h,R',hm=>by
  simp only[endR]at h;split at h
  ·rename_i st pn fa ps asg bd ow aa ab hf;split at h
   ·cases h
   ·rename_i hst;split at h
    ·rename_i q' hq;cases h;rcases List.mem_cons.1 hm with rfl|hm
     ·exact⟨st,pn,fa,ps,asg,bd,ow,aa,ab,hf,fun e=>hst (by rw[e];rfl),List.mem_cons_self⟩
     ·obtain⟨st,pn,fa,ps,asg,bd,ow,aa,ab,a1,a2,a3⟩:=endR_ok rs q' hq R' hm;exact⟨st,pn,fa,ps,asg,bd,ow,aa,ab,a1,a2,List.mem_cons_of_mem _ a3⟩
    ·cases h
  ·cases h
theorem lpOf_eq{α:Type}{H:Hp}{l:Nat}{b:Ob}{r:Lr}(h1:H.any l=some b)(h2:b.me=some (.loop r))(k:Lr→Option α):lpOf H l k=k r:=by
 unfold lpOf;simp only[h1,okO];simp only[h2]
theorem roOk_of(hg:GS S ρ μ fr H){ro ro':Option Nat}(h:roA S ro=true)(hr:RoOk μ ro ro'):roOk H ro'=true:=by
 cases ro with
 |none=>cases ro' with
  |none=>rfl
  |some x=>exact hr.elim
 |some l=>cases ro' with
  |none=>exact hr.elim
  |some x=>
   simp only[roA]at h;split at h
   ·rename_i st pn fa ps asg bd ow aa ab hf;obtain⟨b,r,h1,h2,_⟩:=hg.hp.atL hf hr;simp only[roOk,isLp,h1,h2]
   ·cases h
theorem rangeA_ok(hcall:CallA call ee)(hc:Cn X gl pe){ro ro':Option Nat}{g:Operand}{ps:Array Tmp}{asg bd:Code}{an:An}(hg:GS S ρ μ fr H)(hro:RoOk μ ro ro'){l:List (Go.Ps.X×AS)}{J:Nat→Bool}(h:codeA P X call yld F J ro (.rangeFunc g ps asg bd) an S=some l):
  ∃x fr' H',Ev (fun n d=>code2 P ⟨gl,pe⟩ (ee n d) (yd n d) F n ro' (.rangeFunc g ps asg bd) fr H=some (x,fr',H'))∧XOk l ρ μ x fr' H':=by
 simp only[codeA]at h;split at h
 ·rename_i gf cap hgf;split at h
  ·rename_i hra;split at h
   ·rename_i rs hrs;obtain⟨t,t1,t2⟩:=evA_ok hc.gl hg.sy.zero hg.fr hgf;cases t2 with
    |fn _ _ _ f' cap' q1 q2 q3 q4=>
    have hf':f'=[]:=by cases f' with|nil=>rfl|cons=>simp at q1
    subst hf';obtain⟨v1,v2⟩:=of_view' (n:=fr.length) (fr:=fr) rfl;have hgm:GmO ρ (μ++[some H.next]) (.loop .ready none S.fr ps asg bd F an.l an.r) (lpOb ⟨.ready,none,FT.of fr 0 .nl,fr.length,ps,asg,bd,F⟩):=
     ⟨_,rfl,rfl,rfl,rfl,rfl,rfl,rfl,by rw[v1];exact hg.fr.ext (.refl _) (.app _ _)⟩
    have hnew:=hg.hp.newL hgm rfl;obtain⟨r,H2,e1,R,m1,ρ',μ',k1,k2,k3,k4,k5⟩:=hcall _ _ _ _ hrs ρ (μ++[some H.next]) _ (.yl H.next::cap') hg.sy hnew (GmL.cons (.yl _ _ (app_last hg.hp.len _)) (GmL.ext (.refl _) (.app _ _) ⟨q3,q4⟩));obtain⟨st,pn,fa,ps',asg',bd',ow',aa,ab,w1,w2,w3⟩:=endR_ok rs l h R m1;have hx:μ'[S.nl]? =some (some H.next):=k2 _ _ (app_last hg.hp.len _);obtain⟨b,rc,z1,z2,z3,z4,_⟩:=k4.atL w1 hx;refine⟨jmpA pn,fr,H2.drop H.next,e1.mono fun n d e=> ?_,_,w3,ρ',μ',k1,(Ext.app _ _).trans k2,k3,k4.dropR w1 hx,hg.fr.ext k1 ((Ext.app _ _).trans k2)⟩;simp only[code2,t1];rw[if_pos (roOk_of hg hra hro),e];simp only[endL2];rw[lpOf_eq z1 z2,z3,z4];cases st<;>first|exact absurd rfl w2|(rcases pn with _ |_ |id<;>rfl)
   ·cases h
  ·cases h
 ·cases h
theorem keepC_ok{m:Nat}:∀(cs:List Con),HoldCs ρ cs→HoldCs ρ (keepC m cs)
 |[],h=>h
 | .le x y c::r,h=>by
  have hr:=keepC_ok (m:=m) r (fun q hq=>h q (List.mem_cons_of_mem _ hq));simp only[keepC];split
  ·exact .cons (h _ List.mem_cons_self) hr
  ·exact hr
 | .ne x y c::r,h=>by
  have hr:=keepC_ok (m:=m) r (fun q hq=>h q (List.mem_cons_of_mem _ hq));simp only[keepC];split
  ·exact .cons (h _ List.mem_cons_self) hr
  ·exact hr
theorem gcS_ok(h:GS S ρ μ fr H):GS (gcS S) ρ μ fr H:=⟨⟨h.sy.len,h.sy.zero,keepC_ok _ h.sy.cs⟩,h.hp,h.fr⟩
theorem unr_ok{g:An→AS→Option (List (Go.Ps.X×AS))}{ro ro':Option Nat}{f:Nat→Nat→List T→Hp→Option (Go.Ps.X×List T×Hp)}
  (hb:∀(b:An) (S:AS) (ρ:List Int) (μ:List (Option Nat)) (fr:List T) (H:Hp) (l:List (Go.Ps.X×AS)),GS S ρ μ fr H→RoOk μ ro ro'→g b S=some l→∃x fr' H',Ev (fun n d=>f n d fr H=some (x,fr',H'))∧XOk l ρ μ x fr' H'):
  ∀(k:List An) (S:AS) (ρ:List Int) (μ:List (Option Nat)) (fr:List T) (H:Hp) (l:List (Go.Ps.X×AS)),GS S ρ μ fr H→RoOk μ ro ro'→unrA g k S=some l→
   ∃x fr' H',(∃m,∀n d k,m≤n→m≤d→m≤k→evalCode.loopN (f n d) k fr H=some (x,fr',H'))∧XOk l ρ μ x fr' H'
 |[],_,_,_,_,_,_,_,_,h=>by simp[unrA]at h
 |b0::k,S,ρ,μ,fr,H,l,hg,hro,h=>by
  simp only[unrA]at h;split at h
  ·rename_i r hr;obtain⟨x,fr1,H1,⟨m,e1⟩,S1,s1,ρ1,μ1,x1,x2,g1⟩:=hb b0 S ρ μ fr H r hg hro hr;obtain⟨u,u1,u2⟩:=catM_mem h _ s1;cases x with
   |normal=>
    obtain⟨y,fr2,H2,⟨m',e2⟩,k2⟩:=unr_ok hb k (gcS S1) ρ1 μ1 fr1 H1 u (gcS_ok g1) (hro.ext x2) u1;refine⟨y,fr2,H2,⟨max m m'+1,fun n d j hn hd hj=> ?_⟩,(k2.lift u2).trans x1 x2⟩;obtain⟨j,rfl⟩:∃j',j=j'+1:=⟨j-1,by omega⟩;simp only[evalCode.loopN,e1 n d (by omega) (by omega)];exact e2 n d j (by omega) (by omega) (by omega)
   |exit id=>
    cases u1;refine⟨.exit id,fr1,H1,⟨m+1,fun n d j hn hd hj=> ?_⟩,gcS S1,u2 _ (List.mem_singleton_self _),ρ1,μ1,x1,x2,gcS_ok g1⟩;obtain⟨j,rfl⟩:∃j',j=j'+1:=⟨j-1,by omega⟩;simp only[evalCode.loopN,e1 n d (by omega) (by omega)]
   |ret=>
    cases u1;refine⟨.ret,fr1,H1,⟨m+1,fun n d j hn hd hj=> ?_⟩,gcS S1,u2 _ (List.mem_singleton_self _),ρ1,μ1,x1,x2,gcS_ok g1⟩;obtain⟨j,rfl⟩:∃j',j=j'+1:=⟨j-1,by omega⟩;simp only[evalCode.loopN,e1 n d (by omega) (by omega)]
  ·cases h
theorem codeA_ok(hc:Cn X gl pe)(hcall:CallA call ee)(hyl:YldA yld yd)(hK:∀n d,EeK (ee n d))(hKy:∀n d,YdK (yd n d)){J:Nat→Bool}{ro ro':Option Nat}:∀(c:Code) (an:An) (S:AS) (ρ:List Int) (μ:List (Option Nat)) (fr:List T) (H:Hp) (l:List (Go.Ps.X×AS)),GS S ρ μ fr H→RoOk μ ro ro'→codeA P X call yld F J ro c an S=some l→
  ∃x fr' H',Ev (fun n d=>code2 P ⟨gl,pe⟩ (ee n d) (yd n d) F n ro' c fr H=some (x,fr',H'))∧XOk l ρ μ x fr' H':=by
 intro c
 induction c with
 |skip=>intro an S ρ μ fr H l hg hro h;simp only[codeA]at h;cases h;exact⟨.normal,fr,H,.of fun n d=>rfl,S,List.mem_singleton_self _,ρ,μ,.refl _,.refl _,hg⟩
 |label _ =>intro an S ρ μ fr H l hg hro h;simp only[codeA]at h;cases h;exact⟨.normal,fr,H,.of fun n d=>rfl,S,List.mem_singleton_self _,ρ,μ,.refl _,.refl _,hg⟩
 |exit id=>intro an S ρ μ fr H l hg hro h;simp only[codeA]at h;cases h;exact⟨.exit id,fr,H,.of fun n d=>rfl,S,List.mem_singleton_self _,ρ,μ,.refl _,.refl _,hg⟩
 |ret=>intro an S ρ μ fr H l hg hro h;simp only[codeA]at h;cases h;exact⟨.ret,fr,H,.of fun n d=>rfl,S,List.mem_singleton_self _,ρ,μ,.refl _,.refl _,hg⟩
 |region id ops draw=>
  intro an S ρ μ fr H l hg hro h;simp only[codeA]at h;split at h
  ·rename_i r hr;cases draw with
   |true=>
    simp only[if_true]at hr;obtain⟨fr',H',pd,e1,s,s1,ρ',μ',x1,x2,x3,g1,_⟩:=drawXA_ok (Fe:=fun n d=>fcOf F (ee n d)) hc hcall fcA_of hg hr;obtain⟨p1,p2⟩:=liftN_ok r l h s s1;refine⟨.normal,fr',H',e1.mono fun n d e=> ?_,s.S,p2,ρ',μ',x1,x2,g1⟩;simp only[code2,if_true];rw[e,←x3,p1]
   |false=>
    simp only[Bool.false_eq_true,if_false]at hr;have hseq:∃fr' H' pd,Ev (fun n d=>seq2 P ⟨gl,pe⟩ (ee n d) (yd n d) F ops ops.toList ⟨fr,H,none⟩=some ⟨fr',H',pd⟩)∧AfOk P gl pe F r ρ μ fr' H' pd:=by
     split at hr
     ·split at hr
      ·rename_i l0 hl0;obtain⟨fr',H',pd,e1,e2⟩:=seqJ_ok hc hcall hyl hK hKy hg ops.toList [] [⟨S,none,[]⟩] l0 fr H none hl0 (.refl _) ⟨_,List.mem_singleton_self _,ρ,μ,.refl _,.refl _,rfl,hg,.nil⟩;have hk:Keep H H':=by
        obtain⟨n,d,e⟩:=e1.ex;exact seq2_keep (hK n d) (hKy n d) e
       exact⟨fr',H',pd,e1,joinAf_ok hg hr hk e2⟩
      ·cases hr
     ·exact seqY_ok hc hcall hyl ops.toList ⟨S,none,[]⟩ ρ μ fr H r hg .nil hr
    obtain⟨fr',H',pd,e1,s,s1,ρ',μ',x1,x2,x3,g1,_⟩:=hseq;obtain⟨p1,p2⟩:=liftN_ok r l h s s1;refine⟨.normal,fr',H',e1.mono fun n d e=> ?_,s.S,p2,ρ',μ',x1,x2,g1⟩;simp only[code2,Bool.false_eq_true,if_false];rw[e,←x3,p1]
  ·cases h
 |seq a b iha ihb=>
  intro an S ρ μ fr H l hg hro h;simp only[codeA]at h;split at h
  ·rename_i r hr;obtain⟨x,fr1,H1,e1,S1,s1,ρ1,μ1,x1,x2,g1⟩:=iha _ S ρ μ fr H r hg hro hr;obtain⟨u,u1,u2⟩:=catM_mem h _ s1;cases x with
   |normal=>
    obtain⟨y,fr2,H2,e2,k2⟩:=ihb _ S1 ρ1 μ1 fr1 H1 u g1 (hro.ext x2) u1;refine⟨y,fr2,H2,(e1.and e2).mono fun n d ⟨p,q⟩=> ?_,(k2.lift u2).trans x1 x2⟩;simp only[code2,p];exact q
   |exit id=>
    cases u1;refine⟨.exit id,fr1,H1,e1.mono fun n d p=> ?_,S1,u2 _ (List.mem_singleton_self _),ρ1,μ1,x1,x2,g1⟩;simp only[code2,p]
   |ret=>
    cases u1;refine⟨.ret,fr1,H1,e1.mono fun n d p=> ?_,S1,u2 _ (List.mem_singleton_self _),ρ1,μ1,x1,x2,g1⟩;simp only[code2,p]
  ·cases h
 |cond c a b iha ihb=>
  intro an S ρ μ fr H l hg hro h;simp only[codeA]at h;split at h
  ·rename_i B hB;obtain⟨t,t1,t2⟩:=evA_ok hc.gl hg.sy.zero hg.fr hB;cases t2 with
   |bool _ b' hb=>
    obtain⟨cs',m1,m2⟩:=splitB_ok hg.sy.cs hb;obtain⟨u,u1,u2⟩:=catM_mem h _ m1;have hg':GS {S with cs:=cs'} ρ μ fr H:=⟨⟨hg.sy.len,hg.sy.zero,m2⟩,hg.hp,hg.fr⟩;cases b' with
    |true=>
     simp only[if_true]at u1;obtain⟨x,fr1,H1,e1,k1⟩:=iha _ _ ρ μ fr H u hg' hro u1;refine⟨x,fr1,H1,e1.mono fun n d p=> ?_,k1.lift u2⟩;simp only[code2,t1,if_true];exact p
    |false=>
     simp only[Bool.false_eq_true,if_false]at u1;obtain⟨x,fr1,H1,e1,k1⟩:=ihb _ _ ρ μ fr H u hg' hro u1;refine⟨x,fr1,H1,e1.mono fun n d p=> ?_,k1.lift u2⟩;simp only[code2,t1,Bool.false_eq_true,if_false];exact p
  ·cases h
 |block id c ih=>
  intro an S ρ μ fr H l hg hro h;simp only[codeA]at h;split at h
  ·rename_i r hr;cases h;obtain⟨x,fr1,H1,e1,S1,s1,k1⟩:=ih _ S ρ μ fr H r hg hro hr;have hm:=exitsB_mem (id:=id) s1;cases x with
   |normal=>exact⟨.normal,fr1,H1,e1.mono fun n d p=>by simp only[code2,p],S1,hm,k1⟩
   |ret=>exact⟨.ret,fr1,H1,e1.mono fun n d p=>by simp only[code2,p],S1,hm,k1⟩
   |exit id'=>
    by_cases hi:id'=id
    ·simp only[if_pos hi]at hm;exact⟨.normal,fr1,H1,e1.mono fun n d p=>by simp only[code2,p,if_pos hi],S1,hm,k1⟩
    ·simp only[if_neg hi]at hm;exact⟨.exit id',fr1,H1,e1.mono fun n d p=>by simp only[code2,p,if_neg hi],S1,hm,k1⟩
  ·cases h
 |loop c ih=>
  intro an S ρ μ fr H l hg hro h;simp only[codeA]at h;split at h
  ·rename_i k;obtain⟨x,fr',H',⟨m,e1⟩,e2⟩:=unr_ok (ro:=ro) (ro':=ro') (f:=fun n d fr H=>code2 P ⟨gl,pe⟩ (ee n d) (yd n d) F n ro' c fr H) (fun b S ρ μ fr H l hg hro h=>ih b S ρ μ fr H l hg hro h) k S ρ μ fr H l hg hro h;refine⟨x,fr',H',⟨m,fun n d hn hd=> ?_⟩,e2⟩;simp only[code2];exact e1 n d n hn hd hn
  ·rename_i la b;split at h
   ·rename_i oc hoc;split at h
    ·rename_i hcc;simp only[Bool.and_eq_true,ile,decide_eq_true_eq]at hcc;split at h
     ·rename_i Sh hSh;split at h
      ·rename_i r hr;have hbody:∀(ρ':List Int) (μ':List (Option Nat)) (fr:List T) (H:Hp),GS Sh ρ' μ' fr H→Ext μ μ'→∃x fr' H',Ev (fun n d=>code2 P ⟨gl,pe⟩ (ee n d) (yd n d) F n ro' c fr H=some (x,fr',H'))∧Keep H H'∧XOk r ρ' μ' x fr' H':=fun ρ' μ' fr H hg hμ=>by
        obtain⟨x,fr',H',e1,e2⟩:=ih _ Sh ρ' μ' fr H r hg (hro.ext hμ) hr;refine⟨x,fr',H',e1,?_,e2⟩;obtain⟨n,d,e⟩:=e1.ex;exact code2_keep (hK n d) (hKy n d) _ _ _ _ _ _ e
       obtain⟨ρ2,μ2,y1,y2,y3,y4⟩:=okS_ok (.refl _) hg hg (.refl _) (.refl _) (g:=0) (m0:=Int.ofNat la.gk*la.m0) (by omega) (Int.mul_nonneg (Int.natCast_nonneg _) hcc.1.1.1.1) (gs:=0) (gc:=0) (fun v hv=>by rw[hg.sy.zero]at hv;cases hv;rfl) ⟨0,hg.sy.zero⟩ hcc.2 hSh;have hM:(∃x S2,(x,S2)∈r∧x= .normal)→∃M,measN fr H la.ms=some M∧M≤la.m0:=by
        rintro⟨x,S2,h1,rfl⟩;rcases loopOuts_ok r l h _ S2 h1 with⟨_,_,k2⟩|⟨k1,_⟩
        ·exact meas0_ok hg k2
        ·exact absurd rfl k1
       obtain⟨x,fr',H',z1,⟨m,z2⟩,z3⟩:=loop_ok hg hSh h (f:=fun n d fr H=>code2 P ⟨gl,pe⟩ (ee n d) (yd n d) F n ro' c fr H) hbody ((measN fr H la.ms).getD 0).toNat ρ2 μ2 fr H 0 y4 (.refl _) y1 y2 (by rw[Int.mul_zero];exact y3) (by omega)
        (fun M h=>by rw[h];simp only[Option.getD_some];omega) (fun hx=>by obtain⟨M,q1,q2⟩:=hM hx;exact⟨M,q1,by omega⟩)
       refine⟨x,fr',H',⟨m,fun n d hn hd=> ?_⟩,z3⟩;simp only[code2];exact z2 n d n hn hd hn
      ·cases h
     ·cases h
    ·cases h
   ·cases h
  ·cases h
 |rangeFunc g ps asg bd _ _ =>
  intro an S ρ μ fr H l hg hro h;exact rangeA_ok hcall hc hg hro h
 |_ =>intro an S ρ μ fr H l hg hro h;simp only[codeA]at h;cases h
theorem updL_ok(hs:Sy ρ S.nx S.cs)(hh:GH S.hp S.nl ρ μ H){l x:Nat}(hx:μ[l]? =some (some x)){st:LoopState}{pn:Option (Option Nat)}{S':AS}(h:updL S l st pn=some S'):
  ∃b r,H.any x=some b∧b.me=some (.loop r)∧Sy ρ S'.nx S'.cs∧S'.fr=S.fr∧GH S'.hp S'.nl ρ μ (H.put x (lpOb {r with st:=st,pe:=peC pn})):=by
 unfold updL at h;split at h
 ·rename_i st' pn' fa ps asg bd ow aa ab hf;cases h;obtain⟨b,r,h1,h2,h3,h4,h5,h6,h7,h8,h9⟩:=hh.atL hf hx;exact⟨b,r,h1,h2,hs,rfl,hh.putL hf hx ⟨_,rfl,rfl,rfl,h5,h6,h7,h8,h9⟩ rfl⟩
 ·cases h
theorem rndEnds_ok{l:Nat}:∀(r:List (Go.Ps.X×AS)) (q:List AR),rndEnds l r=some q→∀x S,(x,S)∈r→∃S',updL S l (if normX x then .ready else .done) (peX x)=some S'∧(⟨.bool (.lit (normX x)),S'.hp,S'.nx,S'.nl,S'.cs⟩:AR)∈q
 |(y,S0)::r,q,h,x,S,hm=>by
  simp only[rndEnds]at h;split at h
  ·rename_i S' hS';split at h
   ·rename_i q' hq;cases h;rcases List.mem_cons.1 hm with hm|hm
    ·cases hm;exact⟨S',hS',List.mem_cons_self⟩
    ·obtain⟨S2,a1,a2⟩:=rndEnds_ok r q' hq x S hm;exact⟨S2,a1,List.mem_cons_of_mem _ a2⟩
   ·cases h
  ·cases h
theorem setPsA_ok:∀(ps:List Tmp) (a_s:List A) (ts:List T) (fa:List A) (fr:List T),GmL ρ μ a_s ts→GmL ρ μ fa fr→GmL ρ μ (setPsA ps a_s fa) (setPs ps ts fr)
 |[],a_s,ts,fa,fr,_,h=>by
  cases a_s<;>cases ts<;>exact h
 |p::ps,[],ts,fa,fr,h1,h=>by rw[h1.inv_nil];exact h
 |p::ps,a::a_s,ts,fa,fr,h1,h=>by
  obtain⟨t,r,rfl,h2,h3⟩:=h1.inv_cons;exact setPsA_ok ps a_s r (fa.set p a) (fr.set p t) h3 (h.set h2 p)
theorem sameX_ok{x y:Go.Ps.X}(h:sameX x y=true):x=y:=by
 cases x<;>cases y<;>first|rfl|(cases h;done)|(rw[nat_beq h])
theorem memX_bnd{S':AS}{x:Go.Ps.X}:∀(r:List (Go.Ps.X×AS)),(∃S,(x,S)∈r)→(x,S')∈bndEnds S' r
 |(y,S0)::r,⟨S,h⟩=>by
  simp only[bndEnds];rcases List.mem_cons.1 h with h|h
  ·cases h;split
   ·rename_i hm;have key:∀(l:List (Go.Ps.X×AS)),memX x l=true→∃S,(x,S)∈l:=by
     intro l
     induction l with
     |nil=>intro h;cases h
     |cons q l ih=>
      obtain⟨z,Sz⟩:=q;intro h;simp only[memX,Bool.or_eq_true]at h;rcases h with h|h
      ·exact⟨Sz,by rw[sameX_ok h];exact List.mem_cons_self⟩
      ·obtain⟨S2,h2⟩:=ih h;exact⟨S2,List.mem_cons_of_mem _ h2⟩
    exact memX_bnd r (key r hm)
   ·exact List.mem_cons_self
  ·have ih:=memX_bnd (S':=S') r ⟨S,h⟩;split
   ·exact ih
   ·exact List.mem_cons_of_mem _ ih
theorem okEnds_mem{oc:List (Nat×Nat×TA)}:∀(r:List (Go.Ps.X×AS)),okEnds S oc r=true→∀x S1,(x,S1)∈r→okS {S with fr:=[.top]} [0] [] oc [] {S1 with fr:=[.top]} 0 0=true
 |(y,S0)::r,h,x,S1,hm=>by
  simp only[okEnds,Bool.and_eq_true]at h;rcases List.mem_cons.1 hm with hm|hm
  ·cases hm;exact h.1
  ·exact okEnds_mem r h.2 x S1 hm
theorem boundRd_ok(hs:GS S ρ0 μ0 fr H){ab:An}{r r':List (Go.Ps.X×AS)}(h:boundRd S ab r=some r'){x:Go.Ps.X}{S1:AS}(hm:(x,S1)∈r){fr1:List T}{H1:Hp}(hk:Keep H H1)(h1:GS S1 ρ1 μ1 fr1 H1)(he:Ext ρ0 ρ1)(he':Ext μ0 μ1):
  ∃S2 ρ2 μ2 fr2,(x,S2)∈r'∧Ext ρ0 ρ2∧Ext μ0 μ2∧GS S2 ρ2 μ2 fr2 H1:=by
 unfold boundRd at h;split at h
 ·split at h
  ·rename_i oc hoc;split at h
   ·rename_i hcc;simp only[Bool.and_eq_true]at hcc;split at h
    ·rename_i S' hS';cases h;have g0:GS {S with fr:=[.top]} ρ0 μ0 [undefT] H:=⟨hs.sy,hs.hp,GmL.cons (.top _) .nil⟩;have g1:GS {S1 with fr:=[.top]} ρ1 μ1 [undefT] H1:=⟨h1.sy,h1.hp,GmL.cons (.top _) .nil⟩;obtain⟨ρ2,μ2,y1,y2,_,y4⟩:=okS_ok hk g0 g1 he he' (g:=0) (m0:=0) (by omega) (by omega) (gs:=0) (gc:=0) (fun v hv=>by rw[h1.sy.zero]at hv;cases hv;rfl) ⟨0,h1.sy.zero⟩ (okEnds_mem r hcc.2 x S1 hm) hS';exact⟨S',ρ2,μ2,_,memX_bnd r ⟨S1,hm⟩,y1,y2,y4⟩
    ·cases h
   ·cases h
  ·cases h
 ·cases h;exact⟨S1,ρ1,μ1,fr1,hm,he,he',h1⟩
theorem rndA_ok(hc:Cn X gl pe)(hcall:CallA call ee)(hyl:YldA yld yd)(hK:∀n d,EeK (ee n d))(hKy:∀n d,YdK (yd n d)):
  YldA (rndA P X call yld) (fun n d=>round2 P ⟨gl,pe⟩ (ee n d) (yd n d) n):=by
 intro l args S rs h ρ μ H ts x hs hh ha hx;unfold rndA at h;split at h
 ·rename_i st pn fa ps asg bd ow aa ab hf;obtain⟨b,rc,h1,h2,h3,h4,h5,h6,h7,h8,h9⟩:=hh.atL hf hx;split at h
  ·rename_i hcc;simp only[Bool.and_eq_true]at hcc;obtain⟨c1,c2,c3⟩:=hcc;have c1:=nat_beq c1;split at h
   ·rename_i r hr;have hg0:GS {S with fr:=setPsA ps.toList args fa} ρ μ (setPs ps.toList ts (rc.fr.view rc.n)) H:=⟨hs,hh,setPsA_ok _ _ _ _ _ ha h9⟩;obtain⟨x1,fr1,H1,e1,S1,s1,ρ1,μ1,k1,k2,g1⟩:=codeA_ok (F:=ow) (ro:=some l) (ro':=some x) hc hcall hyl hK hKy asg aa _ ρ μ _ H r hg0 hx hr;obtain⟨u,u1,u2⟩:=catM_mem h _ s1;unfold rndA1 at u1;split at u1
    ·rename_i hn;simp only[Bool.and_eq_true]at hn;have hx1:x1= .normal:=by cases x1<;>first|rfl|cases hn.1
     subst hx1;have hrd:=hn.2;unfold isReady at hrd;split at hrd
     ·rename_i st1 pn1 fa1 ps1 asg1 bd1 ow1 aa1 ab1 hf1;have hst1:st1= .ready:=sameSt_ok hrd;subst hst1;have hx':=k2 _ _ hx;split at u1
      ·rename_i S2 hS2;have hpe:peAt S1 l=pn1:=by simp only[peAt,hf1]
       rw[hpe]at hS2;obtain⟨b1,r1,p1,p2,p3,p4,p5,p6,p7,p8,p9⟩:=g1.hp.atL hf1 hx';obtain⟨b2,r2,q1,q2,q3,q4,q5⟩:=updL_ok g1.sy g1.hp hx' hS2;rw[p1]at q1;cases q1;rw[p2]at q2;cases q2;have hg2:GS S2 ρ1 μ1 fr1 (H1.put x (lpOb {r1 with st:= .busy})):=by
        refine⟨q3,?_,by rw[q4];exact g1.fr⟩;have:({r1 with st:= .busy,pe:=peC pn1}:Lr)={r1 with st:= .busy}:=by rw[←p4]
        rw[←this];exact q5
       split at u1
       ·rename_i rr0 hrr;obtain⟨x2,fr2',H2,e2,S3',s3',ρ2',μ2',y1',y2',g3'⟩:=codeA_ok (F:=ow) (ro:=some l) (ro':=some x) hc hcall hyl hK hKy bd ab.body S2 ρ1 μ1 fr1 _ rr0 hg2 hx' hrr;split at u1
        case h_2=>cases u1
        rename_i rr hbnd;have hkk:Keep (H1.put x (lpOb {r1 with st:= .busy})) H2:=by
         obtain⟨n,d,e⟩:=e2.ex;exact code2_keep (hK n d) (hKy n d) _ _ _ _ _ _ e
        obtain⟨S3,ρ2,μ2,fr2,s3,y1,y2,g3⟩:=boundRd_ok hg2 hbnd s3' hkk g3' y1' y2';obtain⟨S4,w1,w2⟩:=rndEnds_ok rr u u1 x2 S3 s3;have hx2:=y2 _ _ hx';obtain⟨b3,r3,v1,v2,v3,v4,v5⟩:=updL_ok g3.sy g3.hp hx2 w1;refine⟨normX x2,H2.put x (lpOb {r3 with st:=(if normX x2 then .ready else .done),pe:=peC (peX x2)}),(e1.and e2).mono fun n d ⟨a1,a2⟩=> ?_,_,u2 _ w2,ρ2,μ2,k1.trans y1,k2.trans y2,v3,v5,.bool _ _ rfl⟩;show round2 P ⟨gl,pe⟩ (ee n d) (yd n d) n x ts H=_;simp only[round2];rw[lpOf_eq h1 h2,if_pos ⟨by rw[←ha.1,c1,h5],by rw[h6];exact c2,by rw[h7];exact c3⟩,h5,h6,h8];rw[a1];simp only[roundA2];rw[lpOf_eq p1 p2,p3];simp only;rw[h8,h7,a2];simp only[roundB];rw[lpOf_eq v1 v2];cases x2<;>rfl
       ·cases u1
      ·cases u1
     ·cases hrd
    ·cases u1
   ·cases h
  ·cases h
 ·cases h
end
end Go.Ps
namespace Go.Ps
variable[Inhabited Prd]
section
variable{ρ ρ' ρ0 ρ1:List Int}{μ μ' μ0 μ1:List (Option Nat)}{X:AX}{gl:Nat→Option T}{pe:Hp→FuncId→List T→Option T}{H H1:Hp}{S S1:AS}{P:Program}{fr fr1:List T}
theorem resAllA_ok:∀(rs:List ResultVar) (S:AS) (ρ:List Int) (fa:List A) (l:List A) (S':AS),GS S ρ μ fr H→GmL ρ μ fa fr→resAllA P fa rs S=some (l,S')→
  ∃ts ρ',resAll P fr H rs=some ts∧Ext ρ ρ'∧Sy ρ' S'.nx S'.cs∧S'.hp=S.hp∧S'.nl=S.nl∧GmL ρ' μ l ts
 |[],S,ρ,fa,l,S',hg,hf,h=>by
  simp only[resAllA]at h;cases h;exact⟨[],ρ,rfl,.refl _,hg.sy,rfl,rfl,.nil⟩
 |r::rs,S,ρ,fa,l,S',hg,hf,h=>by
  simp only[resAllA]at h;split at h
  ·rename_i v hv;have one:∃t,resT P fr H r=some t∧VOk ρ μ v t:=by
    cases r with
    |tmp t=>simp only[resA]at hv;cases hv;exact⟨_,rfl,.here hg.sy (hf.get t)⟩
    |cell a t=>exact loadA_ok hg.sy hg.hp (hf.get a) hv
   obtain⟨t,t1,ρ1,e1,s1,g1⟩:=one;split at h
   ·rename_i l' S2 hr;cases h;obtain⟨ts,ρ2,q1,q2,q3,q4,q5,q6⟩:=resAllA_ok rs {S with nx:=v.nx,cs:=v.cs} ρ1 fa l' _ (hg.sym e1 s1) (hf.ext e1 (.refl _)) hr;exact⟨t::ts,ρ2,by simp only[resAll,t1,q1],e1.trans q2,q3,q4,q5,GmL.cons (g1.ext q2 (.refl _)) q6⟩
   ·cases h
  ·cases h
def tupT:List T→T
 |[t]=>t
 |ts=> .tup ts
theorem tup1_ok{a_s:List A}{ts:List T}(h:GmL ρ μ a_s ts):Gm ρ μ (tup1 a_s) (tupT ts):=by
 cases a_s with
 |nil=>rw[h.inv_nil];exact gm_undef
 |cons a a_s=>
  obtain⟨t,r,rfl,h1,h2⟩:=h.inv_cons;cases a_s with
  |nil=>rw[h2.inv_nil];exact h1
  |cons b bs=>
   obtain⟨u,r',rfl,h3,h4⟩:=h2.inv_cons;exact .tup _ _ h.1 h.2
theorem endsA_ok(rs:List ResultVar):∀(l:List (Go.Ps.X×AS)) (q:List AR),endsA P rs l=some q→∀(x:Go.Ps.X) (S:AS),(x,S)∈l→∀(ρ:List Int) (μ:List (Option Nat)) (fr:List T) (H:Hp),GS S ρ μ fr H→
  (x= .normal∨x= .ret)∧∃ts,resAll P fr H rs=some ts∧∃R∈q,ROk ρ μ R (tupT ts) H
 |(y,S')::r,q,h,x,S,hm,ρ,μ,fr,H,hg=>by
  simp only[endsA]at h;split at h
  ·cases h
  ·rename_i hne;split at h
   ·rename_i l' S2 hres;split at h
    ·rename_i q' hq;cases h;rcases List.mem_cons.1 hm with hm|hm
     ·cases hm;obtain⟨ts,ρ',q1,q2,q3,q4,q5,q6⟩:=resAllA_ok rs _ ρ _ l' S2 hg hg.fr hres;refine⟨?_,ts,q1,_,List.mem_cons_self,ρ',μ,q2,.refl _,q3,?_,tup1_ok q6⟩
      ·cases y with
       |normal=>exact .inl rfl
       |ret=>exact .inr rfl
       |exit id=>exact absurd rfl (hne id)
      ·rw[q4,q5];exact hg.hp.ext q2
     ·obtain⟨k1,ts,k2,R,k3,k4⟩:=endsA_ok rs r q' hq x S hm ρ μ fr H hg;exact⟨k1,ts,k2,R,List.mem_cons_of_mem _ k3,k4⟩
    ·cases h
   ·cases h
theorem postA_mem{oc:List (Nat×Nat×TA)}{res:A}:∀(l:List AR),postA S oc res l=true→∀r∈l,okS {S with fr:=[.top]} [0] [(0,.a res)] oc [] {fr:=[r.a],hp:=r.hp,nx:=r.nx,nl:=r.nl,cs:=r.cs} 0 0=true
 |r::rs,h,z,hz=>by
  simp only[postA,Bool.and_eq_true]at h;rcases List.mem_cons.1 hz with rfl|hz
  ·exact h.1
  ·exact postA_mem rs h.2 z hz
theorem boundR_ok(hk:Keep H H1)(hs:Sy ρ S.nx S.cs)(hh:GH S.hp S.nl ρ μ H){args:List A}{p:Post}{l rs:List AR}(h:boundR S args p l=some rs){R:AR}(hR:R∈l){t:T}(hr:ROk ρ μ R t H1):∃R'∈rs,ROk ρ μ R' t H1:=by
 unfold boundR at h;split at h
 ·rename_i oc hoc;split at h
  ·rename_i hcc;simp only[Bool.and_eq_true]at hcc;split at h
   ·rename_i S' hS';cases h;obtain⟨ρ1,μ1,e1,e2,s1,g1,v1⟩:=hr;have hS:GS {S with fr:=[.top]} ρ μ [t] H:=⟨hs,hh,GmL.cons (.top _) .nil⟩;have h1:GS {fr:=[R.a],hp:=R.hp,nx:=R.nx,nl:=R.nl,cs:=R.cs} ρ1 μ1 [t] H1:=⟨s1,g1,GmL.cons v1 .nil⟩;obtain⟨ρ2,μ2,y1,y2,_,y4⟩:=okS_ok hk hS h1 e1 e2 (g:=0) (m0:=0) (by omega) (by omega) (gs:=0) (gc:=0) (fun v hv=>by rw[s1.zero]at hv;cases hv;rfl) ⟨0,s1.zero⟩ (postA_mem l hcc.2 R hR) hS';exact⟨_,List.mem_singleton_self _,ρ2,μ2,y1,y2,y4.sy,y4.hp,y4.fr.get 0⟩
   ·cases h
  ·cases h
 ·cases h
theorem fnA1_ok(hc:Cn X gl pe){call:FuncId→List A→AS→Option (List AR)}{ee:Nat→Nat→FuncId→List T→Hp→Option (T×Hp)}{yld:Nat→List A→AS→Option (List AR)}{yd:Nat→Nat→Nat→List T→Hp→Option (Bool×Hp)}
  (hcall:CallA call ee) (hyl:YldA yld yd) (hK:∀n d,EeK (ee n d)) (hKy:∀n d,YdK (yd n d)) {f:FuncId} {args:List A} {rs:List AR} (h:fnA1 P X call yld f args S=some rs) (hs:Sy ρ S.nx S.cs) (hh:GH S.hp S.nl ρ μ H) {ts:List T} (ha:GmL ρ μ args ts):
  X.top f=true∧∃r H',Ev (fun n d=>fn2 P ⟨gl,pe⟩ (ee n d) (yd n d) (X.own f) n f ts H=some (r,H'))∧∃R∈rs,ROk ρ μ R r H':=by
 unfold fnA1 at h;split at h
 ·cases h
 rename_i hinl;refine⟨by simpa using hinl,?_⟩;split at h
 ·rename_i fn hfn;split at h
  ·rename_i c hbody;split at h
   ·rename_i l hl;have hg:GS {S with fr:=args++List.replicate (fn.ntmps-args.length) (.tup [])} ρ μ (ts++List.replicate (fn.ntmps-ts.length) undefT) H:=
     ⟨hs,hh,by rw[←ha.1];exact ha.app (GmL.replicate gm_undef _)⟩
    obtain⟨x,fr',H',e1,S',s1,ρ1,μ1,x1,x2,g1⟩:=codeA_ok (F:=X.own f) (ro:=none) (ro':=none) hc hcall hyl hK hKy c _ _ ρ μ _ H l hg trivial hl;have hk:Keep H H':=by
     obtain⟨n,d,e⟩:=e1.ex;exact code2_keep (hK n d) (hKy n d) _ _ _ _ _ _ e
    split at h
    ·rename_i rs' hrs;obtain⟨k1,us,k2,R,k3,k4⟩:=endsA_ok _ l rs' hrs x S' s1 ρ1 μ1 fr' H' g1;have k4':ROk ρ μ R (tupT us) H':=by
      obtain⟨a,b,h1,h2,h3⟩:=k4;exact⟨a,b,x1.trans h1,x2.trans h2,h3⟩
     have fin:∃R'∈rs,ROk ρ μ R' (tupT us) H':=by
      split at h
      ·exact boundR_ok hk hs hh h k3 k4'
      ·cases h;exact⟨R,k3,k4'⟩
     refine⟨_,H',e1.mono fun n d e=> ?_,fin⟩;simp only[fn2,hfn,hbody];rw[e];rcases k1 with rfl|rfl<;>simp only[k2]<;>(rcases us with _ |⟨t,_ |⟨u,r⟩⟩<;>rfl)
    ·cases h
   ·cases h
  ·cases h
 ·cases h
end
end Go.Ps
namespace Go.Ps
variable[Inhabited Prd]
section
variable{P:Program}{gl:Nat→Option T}
noncomputable def pureE(P:Program)(gl:Nat→Option T)(pe:FuncId→List T→Option T)(own:FuncId→Tmp→Bool)(ok:FuncId→Bool)(k n d:Nat)(f:FuncId)(ts:List T):Option T:=
 match(run2 P ⟨gl,lend k pe⟩ own ok n d).ee f ts ⟨0,.nl⟩with
 |some (q,H')=>frzT k H' q
 |none=>none
theorem pureE_ok(hm:P.follows .mixedOrders=true)(hz:GlFrz gl)(hx:EeOk P gl xeG){pe:FuncId→List T→Option T}(hp:PcOk P gl pe){own:FuncId→Tmp→Bool}{ok:FuncId→Bool}(hok:∀f,ok f=true→okFn P f=true∧fnOk2 P f=true)
  {k n d:Nat} {f:FuncId} {ts:List T} {r:T} (h:pureE P gl pe own ok k n d f ts=some r):
  okFn P f=true∧∀(g:G) (vs:List Value),Gok g→(∀l,¬g.al l)→GlOk gl g→RdL g vs ts→
   Calls P f vs.toArray g.w fun e w'=>∃v g',e= .returned v∧g'.w=w'∧PStep g g'∧Gok g'∧Rd g' v r:=by
 unfold pureE at h;split at h
 ·rename_i q H' he;obtain⟨h1,h2⟩:=(run2_ok hm (E:=⟨gl,lend k pe⟩) (lend_ok (k:=k) hz hp) hx hok (own:=own) (n:=n) d).1 f ts _ q H' he;refine⟨h1,fun g vs hg hal hgl hv=> ?_⟩;have hs:St g ⟨0,.nl⟩:=St.nl _ _ (fun l _ =>hal l);refine(h2 g vs hg hs hgl hv).mono fun e w' ⟨v,g',e1,e2,e3,e4,e5,e6⟩=> ?_;refine⟨v,g'.frz H' g,e1,e2,?_,?_,frz_ok e5 k q r v h e6⟩
  ·refine⟨e3.os,e3.tape,e3.output,e3.size,fun b hb=>e3.block b hb (fun l o ho=>(by rw[any_nl]at ho;cases ho)),fun b hb=> .inl (e3.sub b hb),fun b hb=> ?_,rfl,rfl,rfl⟩;rcases hb with hb|⟨l,o,ho,rfl⟩
   ·rcases e3.fresh b hb with q|q|⟨l,o,ho,_⟩
    ·exact .inl q
    ·exact .inr q
    ·rw[any_nl]at ho;cases ho
   ·rcases e3.live l o (get_any ho).1 with⟨l0,o0,q,_⟩|q
    ·rw[any_nl]at q;cases q
    ·exact .inr q
  ·intro b hb;rcases hb with hb|⟨l,o,ho,rfl⟩
   ·exact e4 b hb
   ·exact e5.lt (get_any ho).1
 ·cases h
def Ans(P:Program)(gl:Nat→Option T)(pe:FuncId→List T→Option T)(own:FuncId→Tmp→Bool)(ok:FuncId→Bool)(k:Nat)(f:FuncId)(ts:List T)(r:T):Prop:=
 ∃m,∀n d,m≤n→m≤d→pureE P gl pe own ok k n d f ts=some r
theorem Ans.unique{pe:FuncId→List T→Option T}{own:FuncId→Tmp→Bool}{ok:FuncId→Bool}{k:Nat}{f:FuncId}{ts:List T}{r r':T}(h:Ans P gl pe own ok k f ts r)(h':Ans P gl pe own ok k f ts r'):r=r':=by
 obtain⟨m,hm⟩:=h;obtain⟨m',hm'⟩:=h';have:=hm (max m m') (max m m') (by omega) (by omega);rw[hm' (max m m') (max m m') (by omega) (by omega)]at this;exact(Option.some.inj this).symm
open Classical in
noncomputable def extP(P:Program)(gl:Nat→Option T)(pe:FuncId→List T→Option T)(own:FuncId→Tmp→Bool)(ok:FuncId→Bool)(k:Nat)(tab:FuncId→Bool):FuncId→List T→Option T:=fun f ts=>
 if tab f=true then(if h:∃r,Ans P gl pe own ok k f ts r then some (Classical.choose h)else none)else pe f ts
theorem extP_ok(hm:P.follows .mixedOrders=true)(hz:GlFrz gl)(hx:EeOk P gl xeG){pe:FuncId→List T→Option T}(hp:PcOk P gl pe){own:FuncId→Tmp→Bool}{ok:FuncId→Bool}(hok:∀f,ok f=true→okFn P f=true∧fnOk2 P f=true){k:Nat}{tab:FuncId→Bool}:
  PcOk P gl (extP P gl pe own ok k tab):=by
 intro f ts r h;unfold extP at h;split at h
 ·split at h
  ·rename_i hex;cases h;obtain⟨m,hm'⟩:=Classical.choose_spec hex;exact pureE_ok hm hz hx hp hok (hm' m m (Nat.le_refl _) (Nat.le_refl _))
  ·cases h
 ·exact hp f ts r h
theorem extP_ans{pe:FuncId→List T→Option T}{own:FuncId→Tmp→Bool}{ok:FuncId→Bool}{k:Nat}{tab:FuncId→Bool}{f:FuncId}{ts:List T}{r:T}(ht:tab f=true)(h:Ans P gl pe own ok k f ts r):extP P gl pe own ok k tab f ts=some r:=by
 unfold extP;rw[if_pos ht,dif_pos ⟨r,h⟩];exact congrArg some ((Classical.choose_spec ⟨r,h⟩:Ans P gl pe own ok k f ts _).unique h)
structure Ctr where
 f:FuncId
 pre:List A
 res:A
theorem take0{α:Type}(l:List α):l.take 0=[]:=rfl
def peTab(l:List Ctr)(pe:FuncId→List A→Nat→List Con→Option AV):FuncId→List A→Nat→List Con→Option AV:=fun f a_s n cs=>
 if l.any fun c=>Nat.beq c.f f then match l.find? (fun c=>Nat.beq c.f f&&lAll (leT cs 0 0 dep) a_s c.pre)with
  |some c=>some (matV c.res n cs)
  |none=>none
 else pe f a_s n cs
end
end Go.Ps
namespace Go.Ps
variable[Inhabited Prd]
section
variable{P:Program}{gl:Nat→Option T}
structure Lay(P:Program)(gl:Nat→Option T)(k:Nat)(ga:Nat→Option A)(pa:FuncId→List A→Nat→List Con→Option AV)(pe:FuncId→List T→Option T)(dom:FuncId→Bool):Prop where
 gA:GlA gl ga
 pA:PeA (lend k pe) pa
 pc:PcOk P gl pe
 dm:∀f ts,dom f=false→pe f ts=none
 hx:EeOk P gl xeG
variable{k:Nat}{ga:Nat→Option A}{pa:FuncId→List A→Nat→List Con→Option AV}{pe:FuncId→List T→Option T}{dom:FuncId→Bool}
theorem memN_all{p:FuncId→Bool}:∀{l:List Nat},l.all p=true→∀f,memN f l=true→p f=true
 |x::xs,h,f,hf=>by
  simp only[List.all_cons,Bool.and_eq_true]at h;simp only[memN,Bool.or_eq_true]at hf;rcases hf with hf|hf
  ·rw[←nat_beq hf];exact h.1
  ·exact memN_all h.2 f hf
theorem mapO_le{f g:T→Option T}(h:∀t r,f t=some r→g t=some r):∀{ts rs:List T},mapO f ts=some rs→mapO g ts=some rs
 |[],_,e=>e
 |t::ts,rs,e=>by
  simp only[mapO]at e⊢;split at e
  ·rename_i u hu;split at e
   ·rename_i us hus;rw[h _ _ hu];simp only[mapO_le h hus];exact e
   ·cases e
  ·cases e
theorem lend_fz{k:Nat}{pe:FuncId→List T→Option T}{H:Hp}{g:FuncId}{ts bs:List T}{r:T}(h1:mapO (frzT k H) ts=some bs)(h2:mapO (frzT k ⟨0,.nl⟩) bs=some bs)(h3:lend k pe H g bs=some r)(h4:scal r=true):lend k pe H g ts=some r:=by
 unfold lend at h3⊢;rw[h2]at h3;simp only at h3;split
 ·rename_i us hus;have:=mapO_le (fun t r h=>frz_bare k 0 H t r h) hus;rw[h1]at this;cases this;exact h3
 ·simp only[h1,h3,h4,if_true]
theorem Lay.cn(h:Lay P gl k ga pa pe dom){X:AX}(h1:X.gl=ga)(h2:X.pe=pa){l:List Nat}(h3:X.inl=fun f=>memN f l)(h4:l.all (fun f=> !dom f)=true)(hk:dep≤k:=by first|assumption|decide):Cn X gl (lend k pe):=by
 refine⟨by rw[h1];exact h.gA,by rw[h2];exact h.pA,fun g H ts hg=> ?_,k,hk,fun H g ts bs r q1 q2 q3 q4=>lend_fz q1 q2 q3 q4⟩;rw[h3]at hg;have hd:=memN_all h4 g hg;have hn:∀ts,pe g ts=none:=fun ts=>h.dm g ts (by simpa using hd);unfold lend;split
 ·exact hn _
 ·split
  ·simp only[hn]
  ·rfl
theorem topOk{l:List Nat}(h:l.all (fun f=>okFn P f&&fnOk2 P f)=true):∀f,memN f l=true→okFn P f=true∧fnOk2 P f=true:=fun f hf=>by
 have:=memN_all h f hf;simpa using this
theorem Lay.pure(h:Lay P gl k ga pa pe dom)(hz:GlFrz gl){f:FuncId}{ts:List T}{r:T}(hr:pe f ts=some r)(hf:mapO (frzT k ⟨0,.nl⟩) ts=some ts):PureFn P gl f ts r:=by
 have hp:=lend_ok (k:=k) hz h.pc ⟨0,.nl⟩ f ts r (by unfold lend;rw[hf];exact hr);refine⟨hp.1,fun g vs hg ⟨N,hN⟩ hgl hv=> ?_⟩;obtain⟨h1,h2⟩:=lend_ok (k:=k) hz h.pc ⟨N,.nl⟩ f ts r (by unfold lend;rw[hf];exact hr);exact h2 g vs hg (St.nl _ _ (hN)) hgl hv
end
end Go.Ps
namespace Go.Ps
noncomputable section
def Ht.over(t:Ht):Ht→Ht:=Ht.rec (motive:=fun _ =>Ht→Ht) (fun R=>R) (fun v _ _ ihl ihr R=> .nd (v.or R.val) (ihl R.lf) (ihr R.rt)) t
theorem Ht.over_nd(v:Option Ob)(l r R:Ht):Ht.over (.nd v l r) R= .nd (v.or R.val) (Ht.over l R.lf) (Ht.over r R.rt):=rfl
theorem Ht.over_val(t R:Ht):(Ht.over t R).val=t.val.or R.val:=by cases t<;>rfl
theorem Ht.over_lf(t R:Ht):(Ht.over t R).lf=Ht.over t.lf R.lf:=by cases t<;>rfl
theorem Ht.over_rt(t R:Ht):(Ht.over t R).rt=Ht.over t.rt R.rt:=by cases t<;>rfl
theorem Ht.gtp_over:∀(p:List Bool) (t R:Ht),Ht.gtp p (Ht.over t R)=(Ht.gtp p t).or (Ht.gtp p R)
 |[],t,R=>Ht.over_val t R
 |false::p,t,R=>by
  show Ht.gtp p (Ht.over t R).lf=_;rw[Ht.over_lf,Ht.gtp_over p];rfl
 |true::p,t,R=>by
  show Ht.gtp p (Ht.over t R).rt=_;rw[Ht.over_rt,Ht.gtp_over p];rfl
theorem Ht.over_stp(v:Option Ob):∀(p:List Bool) (t R:Ht),(v=none→Ht.gtp p R=none)→Ht.over (Ht.stp v p t) R=Ht.stp v p (Ht.over t R)
 |[],t,R,h=>by
  show Ht.over (.nd v t.lf t.rt) R= .nd v (Ht.over t R).lf (Ht.over t R).rt;rw[Ht.over_nd,Ht.over_lf,Ht.over_rt];cases v with
  |some v=>rfl
  |none=>rw[show R.val=none from h rfl];rfl
 |false::p,t,R,h=>by
  show Ht.over (.nd t.val (Ht.stp v p t.lf) t.rt) R= .nd (Ht.over t R).val (Ht.stp v p (Ht.over t R).lf) (Ht.over t R).rt;rw[Ht.over_nd,Ht.over_val,Ht.over_lf,Ht.over_rt,Ht.over_stp v p _ _ h]
 |true::p,t,R,h=>by
  show Ht.over (.nd t.val t.lf (Ht.stp v p t.rt)) R= .nd (Ht.over t R).val (Ht.over t R).lf (Ht.stp v p (Ht.over t R).rt);rw[Ht.over_nd,Ht.over_val,Ht.over_lf,Ht.over_rt,Ht.over_stp v p _ _ h]
theorem Ht.get_over(t R:Ht)(l:Nat):(Ht.over t R).get l=(t.get l).or (R.get l):=Ht.gtp_over _ t R
theorem Ht.over_put(v:Option Ob)(t R:Ht)(l:Nat)(h:v=none→R.get l=none):Ht.over (Ht.put v t l) R=Ht.put v (Ht.over t R) l:=Ht.over_stp v _ t R h
theorem Ht.stp_stp(v w:Option Ob):∀(p:List Bool) (t:Ht),Ht.stp v p (Ht.stp w p t)=Ht.stp v p t
 |[],t=>rfl
 |false::p,t=>by
  show Ht.nd t.val (Ht.stp v p (Ht.stp w p t.lf)) t.rt= .nd t.val (Ht.stp v p t.lf) t.rt;rw[Ht.stp_stp v w p]
 |true::p,t=>by
  show Ht.nd t.val t.lf (Ht.stp v p (Ht.stp w p t.rt))= .nd t.val t.lf (Ht.stp v p t.rt);rw[Ht.stp_stp v w p]
theorem Ht.stp_same{v:Ob}:∀(p:List Bool) (t:Ht),Ht.gtp p t=some v→Ht.stp (some v) p t=t
 |[],.nl,h=>by cases h
 |[],.nd w l r,h=>by
  have e:w=some v:=h;rw[e];rfl
 |b::p,.nl,h=>by
  have:∀p,Ht.gtp p .nl=none:=by
   intro p
   induction p with
   |nil=>rfl
   |cons b p ih=>cases b<;>exact ih
  rw[this]at h;cases h
 |false::p,.nd w l r,h=>by
  show Ht.nd w (Ht.stp (some v) p l) r=_;rw[Ht.stp_same p l h]
 |true::p,.nd w l r,h=>by
  show Ht.nd w l (Ht.stp (some v) p r)=_;rw[Ht.stp_same p r h]
structure Cmp(R:Ht)(A B:Hp):Prop where
 eq:B=⟨A.next,Ht.over A.objs R⟩
 dis:∀l o,R.get l=some o→A.any l=none∧l<A.next
section
variable{R:Ht}{A B:Hp}
theorem Cmp.nx(c:Cmp R A B):B.next=A.next:=by rw[c.eq]
theorem Cmp.any(c:Cmp R A B)(l:Nat):B.any l=(A.any l).or (R.get l):=by rw[c.eq];exact Ht.get_over _ _ _
theorem Cmp.yes(c:Cmp R A B)(l:Nat)(o:Ob)(h:A.any l=some o):B.any l=some o:=by rw[c.any,h];rfl
theorem Cmp.get(c:Cmp R A B){l:Nat}{o:Ob}(h:A.get l=some o):B.get l=some o:=by
 obtain⟨h1,h2⟩:=get_any h;exact any_get (c.yes l o h1) h2
theorem Cmp.rno(c:Cmp R A B){l:Nat}{o:Ob}(h:A.any l=some o):R.get l=none:=by
 cases hr:R.get l with
 |none=>rfl
 |some q=>have:=(c.dis l q hr).1;rw[h]at this;cases this
theorem Cmp.new(c:Cmp R A B)(o:Ob):Cmp R (A.new o) (B.new o) where
 eq:=by
  rw[c.eq];show(⟨A.next+1,Ht.put (some o) (Ht.over A.objs R) A.next⟩:Hp)=⟨A.next+1,Ht.over (Ht.put (some o) A.objs A.next) R⟩;rw[Ht.over_put _ _ _ _ (fun h=>by cases h)]
 dis:=fun l q h=>by
  obtain⟨h1,h2⟩:=c.dis l q h;refine⟨?_,Nat.lt_succ_of_lt h2⟩;rw[any_new,if_neg (by omega)];exact h1
theorem Cmp.put(c:Cmp R A B){l:Nat}{q:Ob}(hl:A.any l=some q)(o:Ob):Cmp R (A.put l o) (B.put l o) where
 eq:=by
  rw[c.eq];show(⟨A.next,Ht.put (some o) (Ht.over A.objs R) l⟩:Hp)=⟨A.next,Ht.over (Ht.put (some o) A.objs l) R⟩;rw[Ht.over_put _ _ _ _ (fun h=>by cases h)]
 dis:=fun m p h=>by
  obtain⟨h1,h2⟩:=c.dis m p h;refine⟨?_,h2⟩;rw[any_put,if_neg (fun e=>by rw[e,hl]at h1;cases h1)];exact h1
theorem Cmp.putM(c:Cmp R A B){l:Nat}{q:Ob}(hl:A.any l=some q)(o:Ob)(k:Nat)(es:List (Nat×T×T)):Cmp R (Go.Ps.putM A l o k es) (Go.Ps.putM B l o k es):=c.put hl _
theorem Cmp.drop(c:Cmp R A B){l:Nat}{q:Ob}(hl:A.any l=some q):Cmp R (A.drop l) (B.drop l) where
 eq:=by
  rw[c.eq];show(⟨A.next,Ht.put none (Ht.over A.objs R) l⟩:Hp)=⟨A.next,Ht.over (Ht.put none A.objs l) R⟩;rw[Ht.over_put _ _ _ _ (fun _ =>c.rno hl)]
 dis:=fun m p h=>by
  obtain⟨h1,h2⟩:=c.dis m p h;refine⟨?_,h2⟩;rw[any_drop];split
  ·rfl
  ·exact h1
structure PeM(R:Ht)(E:Env)(e:FuncId→List T→Hp→Option (T×Hp)):Prop where
 mono:∀A B f ts r,Cmp R A B→E.pe A f ts=some r→E.pe B f ts=some r
 nope:∀f ts A v,e f ts A=some v→∀B,E.pe B f ts=none
variable{P:Program}{E:Env}{F:Fc}
theorem cellsAt_mono(c:Cmp R A B){p:T}{q:List T×Nat}(h:cellsAt A p=some q):cellsAt B p=some q:=by
 cases p<;>simp only[cellsAt]at h⊢<;>try(first|exact h|cases h)
 split at h
 ·rename_i o ho;rw[c.get ho];exact h
 ·cases h
theorem loadT_mono(c:Cmp R A B){t:TypeId}{p r:T}(h:loadT P A t p=some r):loadT P B t p=some r:=by
 unfold loadT at h⊢;split at h
 ·rename_i cs off hc;rw[cellsAt_mono c hc];exact h
 ·cases h
theorem entsT_mono(c:Cmp R A B){x:T}{es:List (Nat×T×T)}(h:entsT A x=some es):entsT B x=some es:=by
 cases x<;>simp only[entsT]at h⊢<;>try(first|exact h|cases h)
 split at h
 ·rename_i o ho;rw[c.yes _ _ ho];exact h
 ·cases h
theorem lookupT_mono(c:Cmp R A B){t:TypeId}{x k r:T}{ok:Bool}(h:lookupT P A t x k ok=some r):lookupT P B t x k ok=some r:=by
 unfold lookupT at h⊢;split at h
 ·rename_i kt et hm
  try simp only[hm]
  split at h
  ·rename_i hk;rw[if_pos hk];split at h
   ·rename_i es he;rw[entsT_mono c he];exact h
   ·cases h
  ·cases h
 ·cases h
theorem lenH_mono(c:Cmp R A B){t:TypeId}{x r:T}(h:lenH P A t x=some r):lenH P B t x=some r:=by
 unfold lenH at h⊢;split at h
 ·split at h
  ·rename_i l a b hm
   try simp only[hm]
   split at h
   ·rename_i es he;rw[entsT_mono c he];exact h
   ·cases h
  ·exact h
 ·exact h
theorem evalC_mono(hpe:PeM R E F.ee)(c:Cmp R A B){fr:List T}{k:Call}{r:T}(h:evalC P E A fr k=some r):evalC P E B fr k=some r:=by
 unfold evalC at h⊢;split at h
 ·rename_i f hf
  try simp only[hf]
  split at h
  ·rename_i g first cap he
   try simp only[he]
   split at h
   ·rename_i ars ha;exact hpe.mono A B _ _ _ c h
   ·cases h
  ·cases h
 ·cases h
 ·rename_i b hb
  try simp only[hb]
  cases b<;>simp only at h⊢<;>try(first|exact h|cases h)
  split at h
  ·rename_i x t ts h1 h2
   try simp only[h1,h2]
   split at h
   ·rename_i a ha;exact lenH_mono c h
   ·cases h
  ·cases h
theorem evalP_mono(hpe:PeM R E F.ee)(c:Cmp R A B){own:Bool}{fr:List T}{o:Oper}{r:T}(h:evalP P E own A fr o=some r):evalP P E own B fr o=some r:=by
 obtain⟨dst,op,ty,pos,after,guard⟩:=o;cases op<;>simp only[evalP]at h⊢<;>try(first|exact h|(cases h;done))
 case load t a=>
  split at h
  ·rename_i p hp;exact loadT_mono c h
  ·cases h
 case lookup t x i ok=>
  split at h
  ·exact lookupT_mono c h
  ·cases h
 case call k=>exact evalC_mono hpe c h
theorem evalP_none(hpe:PeM R E F.ee){own:Bool}{fr:List T}{o:Oper}{v:T}{A':Hp}(he:effT P E F A fr o=some (v,A'))(h:evalP P E own A fr o=none):evalP P E own B fr o=none:=by
 obtain⟨dst,op,ty,pos,after,guard⟩:=o;cases op<;>simp only[effT]at he<;>try(cases he;done)
 all_goals simp only[evalP]at h⊢<;>try exact h
 case call k=>
  unfold evalC at h⊢;split at he
  ·rename_i f hf;simp only[hf]at h⊢;split at he
   ·rename_i g first cap hv
    simp only[hv]at h⊢;split at he
    ·rename_i ars ha;(try simp only[ha]);exact hpe.nope _ _ _ _ he B
    ·cases he
   ·cases he
  ·rename_i hb;simp only[hb]
  ·rename_i hb;simp only[hb]
  ·cases he
theorem mapO_mono{f g:T→Option T}(h:∀t r,f t=some r→g t=some r):∀{l r:List T},mapO f l=some r→mapO g l=some r
 |[],r,e=>e
 |t::ts,r,e=>by
  simp only[mapO]at e⊢;split at e
  ·rename_i u hu;split at e
   ·rename_i us hus;rw[h _ _ hu];simp only[mapO_mono h hus];exact e
   ·cases e
  ·cases e
theorem frz_mono(c:Cmp R A B):∀(n:Nat) (t r:T),frzT n A t=some r→frzT n B t=some r
 |0,_,_,h=>by cases h
 |n+1,t,r,h=>by
  have ih:=frz_mono c n;have im:∀{l r:List T},mapO (frzT n A) l=some r→mapO (frzT n B) l=some r:=fun e=>mapO_mono ih e;cases t<;>simp only[frzT]at h⊢<;>try(first|exact h|(cases h;done))
  case ptr l off=>
   split at h
   ·rename_i o ho;rw[c.get ho];split at h
    ·rename_i cs hcs;simp only[im hcs];exact h
    ·cases h
   ·cases h
  case ref x off=>
   split at h
   ·rename_i y hy;rw[ih _ _ hy];exact h
   ·cases h
  case sl f xs=>
   split at h
   ·rename_i y hy;rw[im hy];exact h
   ·cases h
  case osl l sz i len=>
   split at h
   ·rename_i o ho;rw[c.get ho];split at h
    ·rename_i hc;simp only[if_pos hc];split at h
     ·rename_i cs hcs;simp only[im hcs];exact h
     ·cases h
    ·cases h
   ·cases h
  case fn f a k=>
   split at h
   ·rename_i x y hx hy;rw[im hx,im hy];exact h
   ·cases h
  case iface t x=>
   split at h
   ·rename_i y hy;rw[ih _ _ hy];exact h
   ·cases h
  case agg cs=>
   split at h
   ·rename_i y hy;rw[im hy];exact h
   ·cases h
  case tup cs=>
   split at h
   ·rename_i y hy;rw[im hy];exact h
   ·cases h
theorem lend_mono(c:Cmp R A B){k:Nat}{pe:FuncId→List T→Option T}{f:FuncId}{ts:List T}{r:T}(h:lend k pe A f ts=some r):lend k pe B f ts=some r:=by
 unfold lend at h⊢;split at h
 ·exact h
 ·split at h
  ·rename_i ts' hts;rw[mapO_mono (frz_mono c k) hts];exact h
  ·cases h
theorem srcCells_mono(c:Cmp R A B){x:T}{cs:List T}(h:srcCells A x=some cs):srcCells B x=some cs:=by
 cases x<;>simp only[srcCells]at h⊢<;>try(first|exact h|cases h)
 split at h
 ·rename_i o ho;rw[c.get ho];exact h
 ·cases h
theorem storeT_mono(c:Cmp R A B){t:TypeId}{p x:T}{A':Hp}(h:storeT P A t p x=some A'):∃B',storeT P B t p x=some B'∧Cmp R A' B':=by
 unfold storeT at h⊢;split at h
 ·rename_i l off;split at h
  ·rename_i o n ho hn;split at h
   ·rename_i hc;cases h;refine⟨_,?_,c.put (get_any ho).1 _⟩;simp only[c.get ho,hn];rw[if_pos hc]
   ·cases h
  ·cases h
 ·cases h
theorem append_mono(c:Cmp R A B){t tx:TypeId}{s x r:T}{A':Hp}(h:appendT P A t tx s x=some (r,A')):∃B',appendT P B t tx s x=some (r,B')∧Cmp R A' B':=by
 unfold appendT at h⊢;split at h
 ·rename_i e he;split at h
  ·rename_i i new m hi hs hm;have hs':=srcCells_mono c hs;simp only[he,hi,hs',hm];split at h
   ·cases h
   ·rename_i hg;rw[if_neg hg];split at h
    ·split at h
     ·rename_i h0;cases h;exact⟨B,by simp only[if_pos h0],c⟩
     ·rename_i h0;split at h
      ·rename_i hr;cases h;exact⟨_,by simp only[if_neg h0,if_pos hr,c.nx],c.new _⟩
      ·cases h
    ·split at h
     ·rename_i h0;cases h;exact⟨B,by simp only[if_pos h0],c⟩
     ·rename_i h0;split at h
      ·rename_i hr;cases h;exact⟨_,by simp only[if_neg h0,if_pos hr,c.nx],c.new _⟩
      ·cases h
    ·split at h
     ·rename_i h0;cases h;exact⟨B,by simp only[if_pos h0],c⟩
     ·rename_i h0;split at h
      ·rename_i o ho;split at h
       ·rename_i hr;cases h;exact⟨_,by simp only[if_neg h0,c.get ho];rw[if_pos hr,c.nx],(c.drop (get_any ho).1).new _⟩
       ·cases h
      ·cases h
    ·cases h
  ·cases h
 ·cases h
theorem appT_mono(c:Cmp R A B){pa:Bool}{t tx:TypeId}{s x r:T}{A':Hp}(h:appT P pa A t tx s x=some (r,A')):∃B',appT P pa B t tx s x=some (r,B')∧Cmp R A' B':=by
 unfold appT at h⊢;split at h
 ·rename_i hp;rw[if_pos hp];unfold appendN at h⊢;split at h
  ·split at h
   ·split at h
    ·cases h
    ·rename_i hn;cases h;simp only[*];exact⟨B,rfl,c⟩
   ·cases h
  ·cases h
 ·rename_i hp;rw[if_neg hp];exact append_mono c h
theorem make_mono(c:Cmp R A B){t:TypeId}{l k r:T}{A':Hp}(h:makeSliceT P A t l k=some (r,A')):∃B',makeSliceT P B t l k=some (r,B')∧Cmp R A' B':=by
 unfold makeSliceT at h⊢;split at h
 ·rename_i e n m he;split at h
  ·rename_i sz bytes z h1 h2 h3;split at h
   ·rename_i hc;cases h;refine⟨_,?_,c.new _⟩
    try simp only[he,h1,h2,h3]
    rw[if_pos hc,c.nx]
   ·cases h
  ·cases h
 ·cases h
theorem seekT_mono(c:Cmp R A B){t:TypeId}{m k:T}{q:Nat×Ob×Nat×List (Nat×T×T)×TypeId×Option (Nat×Nat×T)}(h:seekT P A t m k=some q):seekT P B t m k=some q∧A.any q.1=some q.2.1:=by
 unfold seekT at h⊢;split at h
 ·rename_i kt et hm;split at h
  ·rename_i l;split at h
   ·rename_i o ho;split at h
    ·rename_i cn es hme;split at h
     ·rename_i hk;split at h
      ·rename_i r hr;cases h;refine⟨?_,ho⟩;simp only[hm,c.yes _ _ ho,hme];rw[if_pos hk];simp only[hr]
      ·cases h
     ·cases h
    ·cases h
   ·cases h
  ·cases h
 ·cases h
theorem upd_mono(c:Cmp R A B){t:TypeId}{m k x:T}{A':Hp}(h:updT P A t m k x=some A'):∃B',updT P B t m k x=some B'∧Cmp R A' B':=by
 unfold updT at h⊢;split at h
 ·rename_i l o cn es et i b v hs;obtain⟨h1,h2⟩:=seekT_mono c hs;split at h
  ·rename_i hk;cases h;exact⟨_,by simp only[h1];rw[if_pos hk],c.putM h2 _ _ _⟩
  ·cases h
 ·rename_i l o cn es et hs;obtain⟨h1,h2⟩:=seekT_mono c hs;cases h;exact⟨_,by simp only[h1],c.putM h2 _ _ _⟩
 ·cases h
theorem entry_mono(c:Cmp R A B){t:TypeId}{m k r:T}{A':Hp}(h:entryT P A t m k=some (r,A')):∃B',entryT P B t m k=some (r,B')∧Cmp R A' B':=by
 unfold entryT at h⊢;split at h
 ·rename_i l o cn es et i b v hs;obtain⟨h1,h2⟩:=seekT_mono c hs;split at h
  ·rename_i hk;cases h;exact⟨_,by simp only[h1];rw[if_pos hk],c.putM h2 _ _ _⟩
  ·cases h
 ·rename_i l o cn es et hs;obtain⟨h1,h2⟩:=seekT_mono c hs;split at h
  ·rename_i z hz;cases h;exact⟨_,by simp only[h1,hz],c.putM h2 _ _ _⟩
  ·cases h
 ·cases h
theorem estore_mono(c:Cmp R A B){m s x:T}{A':Hp}(h:entryStoreT A m s x=some A'):∃B',entryStoreT B m s x=some B'∧Cmp R A' B':=by
 unfold entryStoreT at h⊢;split at h
 ·split at h
  ·rename_i o ho;split at h
   ·rename_i cn es hme;split at h
    ·rename_i i k hf;cases h;exact⟨_,by simp only[c.yes _ _ ho,hme,hf],c.putM ho _ _ _⟩
    ·cases h
   ·cases h
  ·cases h
 ·cases h
theorem del_mono(c:Cmp R A B){t:TypeId}{m k:T}{A':Hp}(h:delT P A t m k=some A'):∃B',delT P B t m k=some B'∧Cmp R A' B':=by
 unfold delT at h⊢;split at h
 ·rename_i l o cn es et i b v hs;obtain⟨h1,h2⟩:=seekT_mono c hs;cases h;exact⟨_,by simp only[h1],c.putM h2 _ _ _⟩
 ·rename_i l o cn es et hs;obtain⟨h1,h2⟩:=seekT_mono c hs;cases h;exact⟨_,by simp only[h1],c.putM h2 _ _ _⟩
 ·cases h
def MonoE(R:Ht)(e:FuncId→List T→Hp→Option (T×Hp)):Prop:=∀f ts A B r A',Cmp R A B→e f ts A=some (r,A')→∃B',e f ts B=some (r,B')∧Cmp R A' B'
def MonoY(R:Ht)(y:Nat→List T→Hp→Option (Bool×Hp)):Prop:=∀l ts A B r A',Cmp R A B→y l ts A=some (r,A')→∃B',y l ts B=some (r,B')∧Cmp R A' B'
theorem eff_mono(hF:MonoE R F.ee)(c:Cmp R A B){fr:List T}{o:Oper}{v:T}{A':Hp}(h:effT P E F A fr o=some (v,A')):∃B',effT P E F B fr o=some (v,B')∧Cmp R A' B':=by
 obtain⟨dst,op,ty,pos,after,guard⟩:=o;cases op<;>simp only[effT]at h⊢<;>try(cases h;done)
 case alloc t=>split at h<;>cases h;exact⟨_,by rw[c.nx],c.new _⟩
 case box t x=>split at h<;>cases h;exact⟨_,by rw[c.nx],c.new _⟩
 case buildSlice t len ps=>
  split at h
  ·split at h
   ·split at h
    ·cases h;exact⟨_,by rw[c.nx],c.new _⟩
    ·cases h
   ·cases h
  ·cases h
 case store t p x=>
  split at h
  ·split at h
   ·rename_i hs;cases h;obtain⟨B',h1,h2⟩:=storeT_mono c hs;exact⟨B',by simp only[h1],h2⟩
   ·cases h
  ·cases h
 case makeSlice t l k=>
  split at h
  ·exact make_mono c h
  ·cases h
 case makeMap t r=>
  split at h
  ·split at h
   ·rename_i hk;cases h;exact⟨_,by rw[if_pos hk,c.nx],c.new _⟩
   ·cases h
  ·cases h
 case mapUpdate t m k x=>
  split at h
  ·split at h
   ·rename_i hs;cases h;obtain⟨B',h1,h2⟩:=upd_mono c hs;exact⟨B',by simp only[h1],h2⟩
   ·cases h
  ·cases h
 case insert t m k x=>
  split at h
  ·split at h
   ·rename_i hs;cases h;obtain⟨B',h1,h2⟩:=upd_mono c hs;exact⟨B',by simp only[h1],h2⟩
   ·cases h
  ·cases h
 case mapEntry t m k=>
  split at h
  ·exact entry_mono c h
  ·cases h
 case entryStore t m s x=>
  split at h
  ·split at h
   ·rename_i hs;cases h;obtain⟨B',h1,h2⟩:=estore_mono c hs;exact⟨B',by simp only[h1],h2⟩
   ·cases h
  ·cases h
 case call k=>
  split at h
  ·rename_i hk;split at h
   ·split at h
    ·simp only[hk]at*;try simp only[*]
     exact hF _ _ _ _ _ _ c h
    ·cases h
   ·cases h
  ·rename_i hk;split at h
   ·split at h
    ·split at h
     ·rename_i hs;cases h;obtain⟨B',h1,h2⟩:=del_mono c hs;exact⟨B',by simp only[hk, *],h2⟩
     ·cases h
    ·cases h
   ·cases h
  ·rename_i hk;split at h
   ·split at h
    ·obtain⟨B',h1,h2⟩:=appT_mono c h;exact⟨B',by simp only[hk, *],h2⟩
    ·cases h
   ·cases h
  ·cases h
theorem alloc_none{o:Oper}{q:Tmp×TypeId}(h:allocOf F o=some q){own:Bool}{fr:List T}:evalP P E own B fr o=none:=by
 obtain⟨dst,op,ty,pos,after,guard⟩:=o;cases op<;>simp only[allocOf]at h<;>try(cases h;done)
 rfl
theorem plain_mono(hpe:PeM R E F.ee)(hF:MonoE R F.ee){ops:Array Oper}{s s1:Fx}{o:Oper}(h:plainE P E F ops s o=some s1)(c:Cmp R s.H B):
  ∃B1,plainE P E F ops {s with H:=B} o=some {s1 with H:=B1}∧Cmp R s1.H B1:=by
 unfold plainE at h⊢;split at h
 ·rename_i hw;rw[if_pos hw];split at h
  ·rename_i v hv;cases h;exact⟨B,by simp only[evalP_mono hpe c hv],c⟩
  ·rename_i hv;split at h
   ·rename_i d t ha;have hn:=alloc_none (P:=P) (E:=E) (B:=B) ha (own:=ownD F o) (fr:=s.fr);split at h
    ·cases h
    ·rename_i hp;split at h
     ·rename_i n z h1 h2;split at h
      ·rename_i hc;cases h;exact⟨B,by simp only[hn,ha,h1,h2];rw[if_neg hp,if_pos hc],c⟩
      ·cases h
     ·cases h
   ·rename_i ha;split at h
    ·rename_i v H' he;have hn:=evalP_none (B:=B) hpe he hv;obtain⟨B',h1,h2⟩:=eff_mono hF c he;cases h;exact⟨B',by simp only[hn,ha,h1],h2⟩
    ·cases h
 ·rename_i hw;rw[if_neg hw];cases h;exact⟨B,rfl,c⟩
theorem step_mono(hpe:PeM R E F.ee)(hF:MonoE R F.ee){ops:Array Oper}{s s1:Fx}{o:Oper}(h:stepE P E F ops s o=some s1)(c:Cmp R s.H B):
  ∃B1,stepE P E F ops {s with H:=B} o=some {s1 with H:=B1}∧Cmp R s1.H B1:=by
 obtain⟨fr,A,pend⟩:=s;unfold stepE at h⊢;cases pend with
 |none=>exact plain_mono hpe hF h c
 |some q=>
  obtain⟨d,t⟩:=q;simp only at h⊢;split at h
  ·split at h
   ·rename_i hd;rw[if_pos hd];split at h
    ·rename_i hc;rw[if_pos hc];split at h
     ·rename_i y n h1 h2
      try simp only[h1,h2]
      split at h
      ·rename_i h3;cases h;rw[if_pos h3];unfold pendS;split
       ·exact⟨_,by simp only[c.nx],c.new _⟩
       ·exact⟨B,rfl,c⟩
      ·cases h
     ·cases h
    ·cases h
   ·split at h
    ·cases h
    ·rename_i hd ht;rw[if_neg hd,if_neg ht];exact plain_mono hpe hF h c
  ·split at h
   ·cases h
   ·rename_i ht;rw[if_neg ht];exact plain_mono hpe hF h c
theorem evalSeq_mono(hpe:PeM R E F.ee)(hF:MonoE R F.ee){ops:Array Oper}:∀{l:List Oper} {s s1:Fx} {B:Hp},evalSeq P E F ops l s=some s1→Cmp R s.H B→
  ∃B1,evalSeq P E F ops l {s with H:=B}=some {s1 with H:=B1}∧Cmp R s1.H B1
 |[],s,s1,B,h,c=>by cases h;exact⟨B,rfl,c⟩
 |o::l,s,s1,B,h,c=>by
  simp only[evalSeq]at h⊢;split at h
  ·rename_i s2 hs;obtain⟨B2,h1,h2⟩:=step_mono hpe hF hs c;obtain⟨B1,h3,h4⟩:=evalSeq_mono hpe hF h h2;exact⟨B1,by rw[h1];exact h3,h4⟩
  ·cases h
theorem step_none(hpe:PeM R E F.ee){ops:Array Oper}{s s1:Fx}{o:Oper}(h:stepE P E F ops s o=some s1)(hw:wantedT ops s.fr o=true)(hv:evalP P E (ownD F o) s.H s.fr o=none)(ha:allocOf F o=none):
  evalP P E (ownD F o) B s.fr o=none:=by
 have key:plainE P E F ops s o=some s1→evalP P E (ownD F o) B s.fr o=none:=fun h=>by
  unfold plainE at h;rw[if_pos hw]at h;simp only[hv,ha]at h;split at h
  ·rename_i he;exact evalP_none hpe he hv
  ·cases h
 unfold stepE at h;split at h
 ·exact key h
 ·split at h
  ·rename_i e1 _ _;obtain⟨dst,op,ty,pos,after,guard⟩:=o;simp only at e1;subst e1;rfl
  ·split at h
   ·cases h
   ·exact key h
theorem draw_mono(hpe:PeM R E F.ee)(hF:MonoE R F.ee){ops:Array Oper}:∀{l:List Oper} {m:Nat} {s s1:Fx} {B:Hp},evalDraw P E F ops l m s=some s1→Cmp R s.H B→
  ∃B1,evalDraw P E F ops l m {s with H:=B}=some {s1 with H:=B1}∧Cmp R s1.H B1
 |[],m,s,s1,B,h,c=>by
  simp only[evalDraw]at h⊢;split at h
  ·rename_i hp;cases h;exact⟨B,by rw[hp],c⟩
  ·cases h
 |o::l,m,s,s1,B,h,c=>by
  simp only[evalDraw]at h⊢;have e1:pendHit ops {s with H:=B} o=pendHit ops s o:=rfl;have e2:dstIn {s with H:=B} o=dstIn s o:=rfl;rw[e1,e2];split at h
  ·rename_i hh;rw[if_pos hh];split at h
   ·rename_i hc;rw[if_pos hc];exact evalSeq_mono hpe hF h c
   ·cases h
  ·rename_i hh;rw[if_neg hh];split at h
   ·cases h
   ·rename_i hd;rw[if_neg hd];split at h
    ·rename_i hw;rw[if_pos hw];split at h
     ·rename_i v hv;simp only[evalP_mono hpe c hv];exact draw_mono hpe hF h c
     ·rename_i hv;split at h
      ·rename_i d t ha;have hn:=alloc_none (P:=P) (E:=E) (B:=B) ha (own:=ownD F o) (fr:=s.fr)
       try simp only[hn,ha]
       split at h
       ·cases h
       ·rename_i hp;rw[if_neg hp];split at h
        ·rename_i n z h1 h2;split at h
         ·rename_i hc;(try simp only[h1,h2]);rw[if_pos hc];exact draw_mono hpe hF h c
         ·cases h
        ·cases h
      ·rename_i ha;split at h
       ·rename_i hc;have hn:evalP P E (ownD F o) B s.fr o=none:=by
         have h':=h;simp only[evalSeq]at h';split at h'
         ·rename_i s2 hs;exact step_none hpe hs hw hv ha
         ·cases h'
        try simp only[hn,ha]
        rw[if_pos hc];exact evalSeq_mono hpe hF h c
       ·cases h
    ·rename_i hw;rw[if_neg hw];exact draw_mono hpe hF h c
theorem evalSt_mono(hpe:PeM R E F.ee)(hF:MonoE R F.ee){ops:Array Oper}{G:List Nat}{p l:Nat}:∀{os:List Oper} {m:Nat} {af:Bool} {s s1:Fx} {B:Hp},evalSt P E F ops G p l os m af s=some s1→Cmp R s.H B→
  ∃B1,evalSt P E F ops G p l os m af {s with H:=B}=some {s1 with H:=B1}∧Cmp R s1.H B1
 |[],m,af,s,s1,B,h,c=>by
  simp only[evalSt]at h⊢;split at h
  ·rename_i hp;cases h;exact⟨B,by rw[if_pos hp],c⟩
  ·cases h
 |o::os,m,af,s,s1,B,h,c=>by
  simp only[evalSt]at h⊢;have e2:dstIn {s with H:=B} o=dstIn s o:=rfl;rw[e2];split at h
  ·rename_i hh;rw[if_pos hh];exact evalSeq_mono hpe hF h c
  ·rename_i hh;rw[if_neg hh];split at h
   ·cases h
   ·rename_i hd;rw[if_neg hd];split at h
    ·rename_i hst;rw[if_pos hst];split at h
     ·cases h
     ·rename_i haf;rw[if_neg haf];split at h
      ·rename_i t x y hop;split at h
       ·rename_i l' off v h1 h2;split at h
        ·rename_i hl;split at h
         ·rename_i H' hs;obtain⟨B',g1,g2⟩:=storeT_mono c hs
          try simp only[hop,h1,h2]
          rw[if_pos hl]
          try simp only[g1]
          exact evalSt_mono hpe hF (s:={s with H:=H'}) h g2
         ·cases h
        ·cases h
       ·cases h
      ·cases h
    ·rename_i hst;rw[if_neg hst];split at h
     ·rename_i hw;rw[if_pos hw];by_cases hk:((if af then prec G m p else prec G p m)||hOk E.gl l s.fr o)=true
      ·rw[if_pos hk]at h⊢;split at h
       ·rename_i v hv;simp only[evalP_mono hpe c hv];exact evalSt_mono hpe hF h c
       ·cases h
      ·rw[if_neg hk]at h;cases h
     ·rename_i hw;rw[if_neg hw];exact evalSt_mono hpe hF h c
theorem drawX_mono(hpe:PeM R E F.ee)(hF:MonoE R F.ee){ops:Array Oper}{fr:List T}{s1:Fx}(h:evalDrawX P E F ops fr A=some s1)(c:Cmp R A B):∃B1,evalDrawX P E F ops fr B=some {s1 with H:=B1}∧Cmp R s1.H B1:=by
 unfold evalDrawX at h⊢;split at h
 ·rename_i hl;rw[if_pos hl];split at h
  ·rename_i b p h1 h2;split at h
   ·rename_i l h3
    try simp only[h1,h2,h3]
    exact evalSt_mono hpe hF (s:=⟨fr,A,none⟩) h c
   ·cases h
  ·cases h
 ·rename_i hl;rw[if_neg hl];exact draw_mono hpe hF (s:=⟨fr,A,none⟩) h c
theorem effs_mono(hpe:PeM R E F.ee)(hF:MonoE R F.ee){ops:Array Oper}:∀(os:List Oper) (m:Nat) (fr:List T) (A B:Hp) (f:List T) (A':Hp) (es ds:List Nat),effs P E F ops os m fr A=some (f,A',es,ds)→Cmp R A B→
  ∃B',effs P E F ops os m fr B=some (f,B',es,ds)∧Cmp R A' B'
 |[],m,fr,A,B,f,A',es,ds,h,c=>by cases h;exact⟨B,rfl,c⟩
 |o::os,m,fr,A,B,f,A',es,ds,h,c=>by
  simp only[effs]at h⊢;have hd:dstIn ⟨fr,B,none⟩ o=dstIn ⟨fr,A,none⟩ o:=rfl;rw[hd];split at h
  ·cases h
  ·rename_i hd;rw[if_neg hd];split at h
   ·rename_i hw;rw[if_pos hw];split at h
    ·rename_i v hv;simp only[evalP_mono hpe c hv];split at h
     ·rename_i he;cases h;obtain⟨B',h1,h2⟩:=effs_mono hpe hF os _ _ _ _ _ _ _ _ he c;exact⟨B',by simp only[h1],h2⟩
     ·cases h
    ·rename_i hv;split at h
     ·rename_i v A1 hef;split at h
      ·rename_i he;cases h;obtain⟨B1,h1,h2⟩:=eff_mono hF c hef;obtain⟨B',h3,h4⟩:=effs_mono hpe hF os _ _ _ _ _ _ _ _ he h2;refine⟨B',?_,h4⟩;simp only[evalP_none (B:=B) hpe hef hv,h1,h3]
      ·cases h
     ·cases h
   ·rename_i hw;rw[if_neg hw];exact effs_mono hpe hF os _ _ _ _ _ _ _ _ h c
theorem drawD2_mono(hpe:PeM R E F.ee)(hF:MonoE R F.ee){ops:Array Oper}{fl:Bool}{fr:List T}{s1:Fx}(h:evalD2 P E F ops fl fr A=some s1)(c:Cmp R A B):∃B1,evalD2 P E F ops fl fr B=some {s1 with H:=B1}∧Cmp R s1.H B1:=by
 unfold evalD2 at h⊢;split at h
 ·rename_i hl;rw[if_pos hl];unfold evalE2 at h⊢;split at h
  ·rename_i he;split at h
   ·rename_i hk;cases h;obtain⟨B',h1,h2⟩:=effs_mono hpe hF _ _ _ _ _ _ _ _ _ he c;exact⟨B',by simp only[h1];rw[if_pos hk],h2⟩
   ·cases h
  ·cases h
 ·rename_i hl;rw[if_neg hl];exact drawX_mono hpe hF h c
end
section
variable{R:Ht}{P:Program}{E:Env}{ee:FuncId→List T→Hp→Option (T×Hp)}{yd:Nat→List T→Hp→Option (Bool×Hp)}{ow:Tmp→Bool}{n:Nat}
theorem fc_pe(hpe:PeM R E ee)(ow:Tmp→Bool):PeM R E (fcOf ow ee).ee:=by rw[fcOf_ee];exact hpe
theorem fc_mono(hF:MonoE R ee)(ow:Tmp→Bool):MonoE R (fcOf ow ee).ee:=by rw[fcOf_ee];exact hF
theorem lpOf_mono{α:Type}{A B:Hp}(c:Cmp R A B){l:Nat}{k:Lr→Option α}{r:α}(h:lpOf A l k=some r):∃o rc,A.any l=some o∧o.me=some (.loop rc)∧k rc=some r∧∀k':Lr→Option α,lpOf B l k'=k' rc:=by
 obtain⟨o,rc,h1,h2,h3⟩:=lpOf_inv h;exact⟨o,rc,h1,h2,h3,fun k'=>by unfold lpOf;simp only[c.yes _ _ h1,h2,okO]⟩
theorem seq2_mono(hpe:PeM R E ee)(hF:MonoE R ee)(hY:MonoY R yd){ops:Array Oper}:∀{l:List Oper} {s s1:Fx} {B:Hp},seq2 P E ee yd ow ops l s=some s1→Cmp R s.H B→
  ∃B1,seq2 P E ee yd ow ops l {s with H:=B}=some {s1 with H:=B1}∧Cmp R s1.H B1
 |[],s,s1,B,h,c=>by cases h;exact⟨B,rfl,c⟩
 |o::l,s,s1,B,h,c=>by
  simp only[seq2]at h⊢;split at h
  ·rename_i l1 ars hq;split at h
   ·rename_i b H' hy;obtain⟨B2,h1,h2⟩:=hY _ _ _ _ _ _ c hy;obtain⟨B1,h3,h4⟩:=seq2_mono hpe hF hY (s:=⟨putT s.fr o.dst (.bool b),H',none⟩) h h2;exact⟨B1,by simp only[h1];exact h3,h4⟩
   ·cases h
  ·rename_i hq;split at h
   ·rename_i s2 hs;obtain⟨B2,h1,h2⟩:=step_mono (fc_pe hpe ow) (fc_mono hF ow) hs c;obtain⟨B1,h3,h4⟩:=seq2_mono hpe hF hY h h2;exact⟨B1,by simp only[h1];exact h3,h4⟩
   ·cases h
theorem endL2_mono{A B A':Hp}(c:Cmp R A B){l:Nat}{fr fr':List T}{x:X}(h:endL2 l fr A=some (x,fr',A')):∃B',endL2 l fr B=some (x,fr',B')∧Cmp R A' B':=by
 unfold endL2 at h⊢;obtain⟨o,rc,h1,h2,h3,h4⟩:=lpOf_mono c h;have hd:=c.drop h1;rw[h4];split at h3
 ·cases h3
 ·split at h3<;>first|(cases h3;done)|(cases h3;exact⟨_,by simp only[*],hd⟩)
theorem code2_mono(hpe:PeM R E ee)(hF:MonoE R ee)(hY:MonoY R yd){ro:Option Nat}:∀(k:Code) (fr:List T) (A B:Hp) (x:X) (fr':List T) (A':Hp),Cmp R A B→code2 P E ee yd ow n ro k fr A=some (x,fr',A')→
  ∃B',code2 P E ee yd ow n ro k fr B=some (x,fr',B')∧Cmp R A' B':=by
 intro k
 induction k with
 |skip=>intro fr A B x fr' A' c h;cases h;exact⟨B,rfl,c⟩
 |label l=>intro fr A B x fr' A' c h;cases h;exact⟨B,rfl,c⟩
 |exit id=>intro fr A B x fr' A' c h;cases h;exact⟨B,rfl,c⟩
 |ret=>intro fr A B x fr' A' c h;cases h;exact⟨B,rfl,c⟩
 |region id ops draw=>
  intro fr A B x fr' A' c h;simp only[code2]at h⊢;split at h
  ·rename_i hr;cases h;by_cases hd:draw=true
   ·rw[if_pos hd]at hr⊢;obtain⟨B1,h1,h2⟩:=drawD2_mono (fc_pe hpe ow) (fc_mono hF ow) hr c;exact⟨B1,by simp only[h1],h2⟩
   ·rw[if_neg hd]at hr⊢;obtain⟨B1,h1,h2⟩:=seq2_mono hpe hF hY (s:=⟨fr,A,none⟩) hr c;exact⟨B1,by simp only[h1],h2⟩
  ·cases h
 |seq a b iha ihb=>
  intro fr A B x fr' A' c h;simp only[code2]at h⊢;split at h
  ·rename_i hr;obtain⟨B1,h1,h2⟩:=iha _ _ _ _ _ _ c hr;obtain⟨B2,h3,h4⟩:=ihb _ _ _ _ _ _ h2 h;exact⟨B2,by simp only[h1];exact h3,h4⟩
  ·rename_i hn;obtain⟨B1,h1,h2⟩:=iha _ _ _ _ _ _ c h;refine⟨B1,?_,h2⟩;rw[h1];cases x with
   |normal=>exact absurd h (hn _ _)
   |exit id=>rfl
   |ret=>rfl
 |cond q a b iha ihb=>
  intro fr A B x fr' A' c h;simp only[code2]at h⊢;split at h
  ·split at h
   ·rename_i ht;rw[if_pos ht];exact iha _ _ _ _ _ _ c h
   ·rename_i ht;rw[if_neg ht];exact ihb _ _ _ _ _ _ c h
  ·cases h
 |block id q ih=>
  intro fr A B x fr' A' c h;simp only[code2]at h⊢;split at h
  ·rename_i hr;obtain⟨B1,h1,h2⟩:=ih _ _ _ _ _ _ c hr;rw[h1];split at h
   ·rename_i e;cases h;exact⟨B1,by simp only[if_pos e],h2⟩
   ·rename_i e;cases h;exact⟨B1,by simp only[if_neg e],h2⟩
  ·rename_i hn;obtain⟨B1,h1,h2⟩:=ih _ _ _ _ _ _ c h;refine⟨B1,?_,h2⟩;rw[h1];cases x with
   |normal=>rfl
   |exit id=>exact absurd h (hn _ _ _)
   |ret=>rfl
 |loop q ih=>
  intro fr A B x fr' A' c h;simp only[code2]at h⊢;have key:∀(k:Nat) (fr:List T) (A B:Hp),Cmp R A B→evalCode.loopN (fun fr H=>code2 P E ee yd ow n ro q fr H) k fr A=some (x,fr',A')→
    ∃B',evalCode.loopN (fun fr H=>code2 P E ee yd ow n ro q fr H) k fr B=some (x,fr',B')∧Cmp R A' B':=by
   intro k
   induction k with
   |zero=>intro fr A B c h;cases h
   |succ k ihk=>
    intro fr A B c h;simp only[evalCode.loopN]at h⊢;split at h
    ·rename_i hr;obtain⟨B1,h1,h2⟩:=ih _ _ _ _ _ _ c hr;obtain⟨B2,h3,h4⟩:=ihk _ _ _ h2 h;exact⟨B2,by simp only[h1];exact h3,h4⟩
    ·rename_i hn;obtain⟨B1,h1,h2⟩:=ih _ _ _ _ _ _ c h;refine⟨B1,?_,h2⟩;rw[h1];cases x with
     |normal=>exact absurd h (hn _ _)
     |exit id=>rfl
     |ret=>rfl
  exact key n fr A B c h
 |rangeFunc g ps asg bd _ _ =>
  intro fr A B x fr' A' c h;simp only[code2]at h⊢;split at h
  ·split at h
   ·rename_i hro;have hro':roOk B ro=true:=by
     unfold roOk at hro⊢;split at hro
     ·rfl
     ·rename_i l;unfold isLp at hro⊢;split at hro
      ·rename_i o ho;rw[c.yes _ _ ho];exact hro
      ·cases hro
    rw[if_pos hro'];split at h
    ·rename_i v A2 hc;rw[c.nx];obtain⟨B2,h1,h2⟩:=hF _ _ _ _ _ _ (c.new _) hc;obtain⟨B3,h3,h4⟩:=endL2_mono h2 h;exact⟨B3,by simp only[h1];exact h3,h4⟩
    ·cases h
   ·cases h
  ·cases h
 |_ =>intro fr A B x fr' A' c h;simp only[code2]at h;cases h
theorem roundB_mono{A B A':Hp}(c:Cmp R A B){l:Nat}{x:X}{b:Bool}(h:roundB l A x=some (b,A')):∃B',roundB l B x=some (b,B')∧Cmp R A' B':=by
 unfold roundB at h⊢;obtain⟨o,rc,h1,h2,h3,h4⟩:=lpOf_mono c h;rw[h4];cases x<;>(cases h3;exact⟨_,rfl,c.put h1 _⟩)
theorem round2_mono(hpe:PeM R E ee)(hF:MonoE R ee)(hY:MonoY R yd):MonoY R (fun l ts H=>round2 P E ee yd n l ts H):=by
 intro l ts A B b A' c h;simp only[round2]at h⊢;obtain⟨o,rc,h1,h2,h3,h4⟩:=lpOf_mono c h;rw[h4];split at h3
 ·rename_i hc;rw[if_pos hc];split at h3
  ·rename_i fr1 A1 e1;obtain⟨B1,g1,c1⟩:=code2_mono hpe hF hY _ _ _ _ _ _ _ c e1;simp only[g1];unfold roundA2 at h3⊢;obtain⟨o1,r1,k1,k2,k3,k4⟩:=lpOf_mono c1 h3;rw[k4];split at k3
   ·split at k3
    ·rename_i x fr2 A2 e2;obtain⟨B2,g2,c2⟩:=code2_mono hpe hF hY _ _ _ _ _ _ _ (c1.put k1 _) e2;obtain⟨B3,g3,c3⟩:=roundB_mono c2 k3;exact⟨B3,by simp only[*],c3⟩
    ·cases k3
   ·cases k3
  ·cases h3
 ·cases h3
theorem resAll_mono{A B:Hp}(c:Cmp R A B){fr:List T}:∀{rs:List ResultVar} {ts:List T},resAll P fr A rs=some ts→resAll P fr B rs=some ts
 |[],ts,h=>h
 |r::rs,ts,h=>by
  simp only[resAll]at h⊢;split at h
  ·rename_i t ht;have e:resT P fr B r=some t:=by
    cases r with
    |tmp d=>exact ht
    |cell a t=>exact loadT_mono c ht
   simp only[e];split at h
   ·rename_i us hu;rw[resAll_mono c hu];exact h
   ·cases h
  ·cases h
theorem fn2_mono(hpe:PeM R E ee)(hF:MonoE R ee)(hY:MonoY R yd){f:FuncId}{ts:List T}{A B A':Hp}{r:T}(c:Cmp R A B)(h:fn2 P E ee yd ow n f ts A=some (r,A')):∃B',fn2 P E ee yd ow n f ts B=some (r,B')∧Cmp R A' B':=by
 unfold fn2 at h⊢;split at h
 ·rename_i fn hfn;split at h
  ·rename_i k hk;have hx:∀(x:X) (fr:List T) (A1:Hp),code2 P E ee yd ow n none k (ts++List.replicate (fn.ntmps-ts.length) undefT) A=some (x,fr,A1)→∃B1,code2 P E ee yd ow n none k (ts++List.replicate (fn.ntmps-ts.length) undefT) B=some (x,fr,B1)∧Cmp R A1 B1:=
    fun x fr A1 e=>code2_mono hpe hF hY _ _ _ _ _ _ _ c e
   split at h
   ·rename_i fr A1 e;obtain⟨B1,g1,c1⟩:=hx _ _ _ e;simp only[g1];split at h
    ·rename_i t ht;cases h;exact⟨B1,by simp only[resAll_mono c1 ht],c1⟩
    ·rename_i us hn hu;cases h;refine⟨B1,?_,c1⟩;simp only[resAll_mono c1 hu]
    ·cases h
   ·rename_i fr A1 e;obtain⟨B1,g1,c1⟩:=hx _ _ _ e;simp only[g1];split at h
    ·rename_i t ht;cases h;exact⟨B1,by simp only[resAll_mono c1 ht],c1⟩
    ·rename_i us hn hu;cases h;refine⟨B1,?_,c1⟩;simp only[resAll_mono c1 hu]
    ·cases h
   ·cases h
  ·cases h
 ·cases h
theorem xeG_mono{R:Ht}:MonoE R xeG:=fun f ts A B r A' c h=>by
 unfold xeG at h⊢;by_cases hf:f=123
 ·rw[if_pos hf]at h⊢;unfold copyX at h⊢;split at h
  ·split at h
   ·rename_i o ho;simp only[c.get ho];split at h
    ·rename_i hcell;split at h
     ·rename_i hc;cases h
      try simp only[hcell]
      exact⟨_,if_pos hc,c.put (get_any ho).1 _⟩
     ·cases h
    ·rename_i hcell;split at h
     ·rename_i hc;cases h
      try simp only[hcell]
      exact⟨B,if_pos hc,c⟩
     ·cases h
    ·cases h
   ·cases h
  ·cases h
 ·rw[if_neg hf]at h⊢;by_cases hf2:f=79
  ·rw[if_pos hf2]at h⊢;unfold strX at h⊢;split at h
   ·split at h
    ·rename_i o ho;simp only[c.get ho];split at h
     ·rename_i hc;rw[if_pos hc];split at h
      ·rename_i hcell;cases h
       try simp only[hcell]
       exact⟨B,rfl,c⟩
      ·rename_i hcell
       try simp only[hcell]
       split at h
       ·rename_i o2 ho2;simp only[c.get ho2];split at h
        ·rename_i hc2;rw[if_pos hc2];split at h
         ·rename_i bs hbs;cases h
          try simp only[hbs]
          exact⟨_,rfl,c.drop (get_any ho2).1⟩
         ·cases h
        ·cases h
       ·cases h
      ·cases h
     ·cases h
    ·cases h
   ·cases h
  ·rw[if_neg hf2]at h;cases h
theorem run2_mono{own:FuncId→Tmp→Bool}{ok:FuncId→Bool}(hpm:∀A B f ts r,Cmp R A B→E.pe A f ts=some r→E.pe B f ts=some r)(hpn:∀f,ok f=true→∀B ts,E.pe B f ts=none)(hpx:∀f ts A v,xeG f ts A=some v→∀B ts,E.pe B f ts=none):∀d,MonoE R (run2 P E own ok n d).ee∧MonoY R (run2 P E own ok n d).yd
 |0=>⟨fun _ _ _ _ _ _ _ h=>(by cases h),fun _ _ _ _ _ _ _ h=>(by cases h)⟩
 |d+1=>by
  obtain⟨h1,h2⟩:=run2_mono (own:=own) (ok:=ok) hpm hpn hpx d
  have hpe:PeM R E (run2 P E own ok n d).ee:=⟨hpm,fun f ts A v h B=>by
   cases d with
   |zero=>cases h
   |succ d=>
    simp only[run2]at h;split at h
    ·rename_i hk;exact hpn f hk B ts
    ·exact hpx f ts A v h B ts⟩
  refine⟨fun f ts A B r A' c h=> ?_,round2_mono hpe h1 h2⟩;simp only[run2]at h⊢;split at h
  ·rename_i hk;rw[if_pos hk];exact fn2_mono hpe h1 h2 c h
  ·rename_i hk;rw[if_neg hk];exact xeG_mono _ _ _ _ _ _ c h
end
end
end Go.Ps
namespace Go.Ps
variable[Inhabited Prd]
structure Smy where
 f:FuncId
 pre:List A
 objs:List (TypeId×List A×List A)
 res:A
def Fin(H:Hp):Prop:=∀(m:Nat) (o:Ob),H.any m=some o→m<H.next
def ObjsIn(H:Hp)(xs:List Nat)(objs:List (TypeId×List A×List A))(w:TypeId×List A×List A→List A):Prop:=
 ∀(j:Nat) (q:TypeId×List A×List A),objs[j]? =some q→∃x o,xs[j]? =some x∧H.get x=some o∧(o.elem=q.1∧o.sz=0)∧GmL [0] (xs.map some) (w q) o.cells
def SmyOk(ee:Nat→Nat→FuncId→List T→Hp→Option (T×Hp))(s:Smy):Prop:=
 ∀(H:Hp) (ts:List T) (xs:List Nat),Fin H→xs.length=s.objs.length→xs.Nodup→GmL [0] (xs.map some) s.pre ts→ObjsIn H xs s.objs (·.2.1)→
  ∃r H',Ev (fun n d=>ee n d s.f ts H=some (r,H'))∧Gm [0] (xs.map some) s.res r∧Fin H'∧H.next≤H'.next∧ObjsIn H' xs s.objs (·.2.2)∧∀y,y∉xs→y<H.next→H'.any y=H.any y
def renA(σ:List Nat):Nat→A→A
 |0,a=>a
 |k+1,a=>match a with
  | .ptr j o=>match σ[j]? with
   |some l=> .ptr l o
   |none=> .top
  | .slv e lo hi=> .slv (renA σ k e) lo hi
  | .slpv q e lo hi=> .slpv q (renA σ k e) lo hi
  | .slk es=> .slk (es.map (renA σ k))
  | .fn f a_s bs=> .fn f (a_s.map (renA σ k)) (bs.map (renA σ k))
  | .or a_s=> .or (a_s.map (renA σ k))
  | .agg a_s=> .agg (a_s.map (renA σ k))
  | .prd q a_s=> .prd q (a_s.map (renA σ k))
  | .tup a_s=> .tup (a_s.map (renA σ k))
  |a=>a
def okR(m:Nat):Nat→A→Bool
 |0,_ =>false
 |k+1,a=>match a with
  | .ptr j _ =>Nat.blt j m
  | .slv e _ _ | .slpv _ e _ _ =>okR m k e
  | .slk a_s| .or a_s| .agg a_s| .prd _ a_s| .tup a_s=>lEv (okR m k) a_s
  | .fn _ a_s bs=>lEv (okR m k) a_s&&lEv (okR m k) bs
  | .top| .any| .ival .. | .strc _ | .strv .. | .sxv .. | .nilp| .nils| .nilf| .nili| .nilm| .ifc| .bool (.imp [] [])| .bool (.lit _)=>true
  |_ =>false
section
variable{ρ ρ':List Int}{μ μ':List (Option Nat)}{S:AS}{H H':Hp}{P:Program}
theorem map_lst{f:A→A}{ρ1 ρ2:List Int}{μ1 μ2:List (Option Nat)}{a_s:List A}(h:∀a∈a_s,∀t,Gm ρ1 μ1 a t→Gm ρ2 μ2 (f a) t){ts:List T}(hg:GmL ρ1 μ1 a_s ts):GmL ρ2 μ2 (a_s.map f) ts:=by
 refine⟨by simpa using hg.1,fun j a t ha ht=> ?_⟩;rw[List.getElem?_map]at ha;obtain⟨b,hb,rfl⟩:=Option.map_eq_some_iff.1 ha;exact h b (List.mem_of_getElem? hb) t (hg.2 j b t hb ht)
theorem unmap_lst{f:A→A}{ρ1 ρ2:List Int}{μ1 μ2:List (Option Nat)}{a_s:List A}(h:∀a∈a_s,∀t,Gm ρ1 μ1 (f a) t→Gm ρ2 μ2 a t){ts:List T}(hg:GmL ρ1 μ1 (a_s.map f) ts):GmL ρ2 μ2 a_s ts:=by
 refine⟨by simpa using hg.1,fun j a t ha ht=>h a (List.mem_of_getElem? ha) t (hg.2 j (f a) t (by rw[List.getElem?_map,ha];rfl) ht)⟩
def RenOk(σ:List Nat)(m:Nat)(μs μ:List (Option Nat)):Prop:=∀j,j<m→∃l x,σ[j]? =some l∧μs[j]? =some (some x)∧μ[l]? =some (some x)
theorem ren_to{σ:List Nat}{m:Nat}{μs:List (Option Nat)}{ρs:List Int}(hr:RenOk σ m μs μ):∀(k:Nat) (a:A),okR m k a=true→∀(t:T),Gm ρs μs a t→Gm ρ μ (renA σ k a) t
 |0,_,h,_,_ =>by simp[okR]at h
 |k+1,a,h,t,hg=>by
  have ih:=ren_to (ρs:=ρs) hr k;have ihl:∀{a_s:List A},lEv (okR m k) a_s=true→∀{ts:List T},GmL ρs μs a_s ts→GmL ρ μ (a_s.map (renA σ k)) ts:=fun h _ hg=>map_lst (fun a ha t hg=>ih a (lEv_mem h a ha) t hg) hg;cases hg with
  |top t=>exact .top t
  |any t h=>exact .any t h
  |ival k lo hi n h1 h2 h3=>exact .ival k lo hi n h1 h2 h3
  |bool B b hb=>
   rcases B with x|⟨_ |⟨p,ps⟩,_ |⟨q,qs⟩⟩
   ·exact .bool _ _ hb
   ·exact .bool _ _ (boTop_ok b)
   ·simp[okR]at h
   ·simp[okR]at h
   ·simp[okR]at h
  |strc s=>exact .strc s
  |strv lo hi l h1 h2=>exact .strv lo hi l h1 h2
  |nilp=>exact .nilp
  |nils=>exact .nils
  |nilf=>exact .nilf
  |nili=>exact .nili
  |nilm=>exact .nilm
  |sxv lo hi full n f h1 h2=>exact .sxv lo hi full n f h1 h2
  |ifc t x=>exact .ifc t x
  |ptr j o x hx=>
   obtain⟨l,y,h1,h2,h3⟩:=hr j (nat_blt (by simpa [okR]using h));rw[hx]at h2;cases h2;simp only[renA,h1];exact .ptr l o x h3
  |slv e lo hi t xs h1 h2 h3 h4=>exact .slv _ lo hi t xs h1 h2 h3 (fun x hx=>ih e (by simpa [okR]using h) x (h4 x hx))
  |slpv q e lo hi t xs h0 h1 h2 h3 h4=>exact .slpv q _ lo hi t xs h0 h1 h2 h3 (fun x hx=>ih e (by simpa [okR]using h) x (h4 x hx))
  |slk es t xs h1 h2 h3=>
   have:=ihl (by simpa [okR]using h) ⟨h2,h3⟩;exact .slk _ t xs h1 this.1 this.2
  |fn f a_s bs as' bs' h1 h2 h3 h4=>
   simp only[okR,Bool.and_eq_true]at h;have e1:=ihl h.1 ⟨h1,h2⟩;have e2:=ihl h.2 ⟨h3,h4⟩;exact .fn f _ _ as' bs' e1.1 e1.2 e2.1 e2.2
  |or a_s a t hm h1=>exact .or _ (renA σ k a) t (List.mem_map_of_mem hm) (ih a (lEv_mem (by simpa [okR]using h) a hm) t h1)
  |agg a_s ts h1 h2=>
   have:=ihl (by simpa [okR]using h) ⟨h1,h2⟩;exact .agg _ ts this.1 this.2
  |prd q a_s ts h0 h1 h2=>
   have:=ihl (by simpa [okR]using h) ⟨h1,h2⟩;exact .prd q _ ts h0 this.1 this.2
  |tup a_s ts h1 h2=>
   have:=ihl (by simpa [okR]using h) ⟨h1,h2⟩;exact .tup _ ts this.1 this.2
  |_ =>simp[okR]at h
theorem ren_of{σ:List Nat}{m:Nat}{μs:List (Option Nat)}{ρs:List Int}(hr:RenOk σ m μs μ):∀(k:Nat) (a:A),okR m k a=true→∀(t:T),Gm ρ μ (renA σ k a) t→Gm ρs μs a t
 |0,_,h,_,_ =>by simp[okR]at h
 |k+1,a,h,t,hg=>by
  have ih:=ren_of (ρs:=ρs) hr k;have ihl:∀{a_s:List A},lEv (okR m k) a_s=true→∀{ts:List T},GmL ρ μ (a_s.map (renA σ k)) ts→GmL ρs μs a_s ts:=fun h _ hg=>unmap_lst (fun a ha t hg=>ih a (lEv_mem h a ha) t hg) hg;cases a<;>simp only[renA]at hg<;>try(simp[okR]at h;done)
  case top=>exact .top t
  case any=>cases hg with|any _ h=>exact .any t h
  case ival=>cases hg with|ival _ _ _ n h1 h2 h3=>exact .ival _ _ _ n h1 h2 h3
  case bool B=>
   cases hg with
   |bool _ b hb=>
   rcases B with x|⟨_ |⟨p,ps⟩,_ |⟨q,qs⟩⟩
   ·exact .bool _ _ hb
   ·exact .bool _ _ (boTop_ok b)
   ·simp[okR]at h
   ·simp[okR]at h
   ·simp[okR]at h
  case strc=>cases hg;exact .strc _
  case strv=>cases hg with|strv _ _ l h1 h2=>exact .strv _ _ l h1 h2
  case nilp=>cases hg;exact .nilp
  case nils=>cases hg;exact .nils
  case nilf=>cases hg;exact .nilf
  case nili=>cases hg;exact .nili
  case nilm=>cases hg;exact .nilm
  case sxv=>cases hg with|sxv _ _ full n f h1 h2=>exact .sxv _ _ full n f h1 h2
  case ifc=>cases hg with|ifc t x=>exact .ifc t x
  case ptr j o=>
   obtain⟨l,y,h1,h2,h3⟩:=hr j (nat_blt (by simpa [okR]using h));rw[h1]at hg;cases hg with
   |ptr _ _ x hx=>
   rw[h3]at hx;cases hx;exact .ptr j o y h2
  case slv e lo hi=>cases hg with|slv _ _ _ _ xs h1 h2 h3 h4=>exact .slv e lo hi t xs h1 h2 h3 (fun x hx=>ih e (by simpa [okR]using h) x (h4 x hx))
  case slpv q e lo hi=>cases hg with|slpv _ _ _ _ _ xs h0 h1 h2 h3 h4=>exact .slpv q e lo hi t xs h0 h1 h2 h3 (fun x hx=>ih e (by simpa [okR]using h) x (h4 x hx))
  case slk es=>
   cases hg with
   |slk _ _ xs h1 h2 h3=>
   have:=ihl (by simpa [okR]using h) ⟨h2,h3⟩;exact .slk es t xs h1 this.1 this.2
  case fn f a_s bs=>
   cases hg with
   |fn _ _ _ as' bs' h1 h2 h3 h4=>
   simp only[okR,Bool.and_eq_true]at h;have e1:=ihl h.1 ⟨h1,h2⟩;have e2:=ihl h.2 ⟨h3,h4⟩;exact .fn f _ _ as' bs' e1.1 e1.2 e2.1 e2.2
  case or a_s=>
   cases hg with
   |or _ b _ hm h1=>
   obtain⟨a,ha,rfl⟩:=List.mem_map.1 hm;exact .or _ a t ha (ih a (lEv_mem (by simpa [okR]using h) a ha) t h1)
  case agg a_s=>
   cases hg with
   |agg _ ts h1 h2=>
   have:=ihl (by simpa [okR]using h) ⟨h1,h2⟩;exact .agg _ ts this.1 this.2
  case prd q a_s=>
   cases hg with
   |prd _ _ ts h0 h1 h2=>
   have:=ihl (by simpa [okR]using h) ⟨h1,h2⟩;exact .prd q _ ts h0 this.1 this.2
  case tup a_s=>
   cases hg with
   |tup _ ts h1 h2=>
   have:=ihl (by simpa [okR]using h) ⟨h1,h2⟩;exact .tup _ ts this.1 this.2
end
def ptrAt(j:Nat):List A→List A→Option Nat
 | .ptr i o::ps,.ptr l o'::a_s=>if Nat.beq i j&&(Nat.beq o 0&&Nat.beq o' 0)then some l else ptrAt j ps a_s
 |_ ::ps,_ ::a_s=>ptrAt j ps a_s
 |_,_ =>none
def sigA(pre args:List A):Nat→Nat→Option (List Nat)
 |0,_ =>some []
 |n+1,j=>match ptrAt j pre args with
  |some l=>match sigA pre args n (j+1)with
   |some r=>if memN l r then none else some (l::r)
   |none=>none
  |none=>none
def objsFit(S:AS)(σ:List Nat):List Nat→List (TypeId×List A×List A)→Bool
 |[],[]=>true
 |l::ls,(e,c0,_)::r=>(match findA S.hp l with
  |some (.fix e' xs)=>Nat.beq e' e&&lAll (leT S.cs 1 S.nl dep) xs (c0.map (renA σ dep))
  |_ =>false)&&objsFit S σ ls r
 |_,_ =>false
def smyFit(f:FuncId)(args:List A)(S:AS)(s:Smy):Option (List Nat):=
 if Nat.beq s.f f&&(lEv (okR s.objs.length dep) s.pre&&(s.objs.all fun q=>lEv (okR s.objs.length dep) q.2.1&&lEv (okR s.objs.length dep) q.2.2)&&okR s.objs.length dep s.res)then
  match sigA s.pre args s.objs.length 0 with
  |some σ=>if lAll (leT S.cs 1 S.nl dep) args (s.pre.map (renA σ dep))&&objsFit S σ σ s.objs then some σ else none
  |none=>none
 else none
def setObjs:List (Nat×AO)→List Nat→List (TypeId×List A×List A)→List A→List (Nat×AO)
 |hp,l::ls,(e,_,c1)::r,ys=>setObjs (setA hp l (.fix e (ys.take c1.length))) ls r (ys.drop c1.length)
 |hp,_,_,_ =>hp
def smyRes(S:AS)(s:Smy)(σ:List Nat):Option (List AR):=
 match matV (.tup (renA σ dep s.res::s.objs.flatMap fun q=>q.2.2.map (renA σ dep))) S.nx S.cs with
 |⟨.tup (a::ys),n,cs⟩=>some [⟨a,setObjs S.hp σ s.objs ys,n,S.nl,cs⟩]
 |_ =>none
def smyA(f:FuncId)(args:List A)(S:AS):List Smy→Option (List AR)
 |[]=>none
 |s::r=>match smyFit f args S s with
  |some σ=>smyRes S s σ
  |none=>smyA f args S r
section
variable{ρ ρ':List Int}{μ μ':List (Option Nat)}{S:AS}{H H':Hp}{P:Program}
theorem nodup_ne:∀{l:List Nat},(∀i j,i<j→j<l.length→l[i]? ≠l[j]?)→l.Nodup
 |[],_ =>List.nodup_nil
 |x::xs,h=>by
  refine List.nodup_cons.2 ⟨fun hx=> ?_,nodup_ne fun i j hij hj=> ?_⟩
  ·obtain⟨j,hj,e⟩:=List.getElem_of_mem hx;exact h 0 (j+1) (by omega) (by simpa using hj) (by simp[←e,hj])
  ·have:=h (i+1) (j+1) (by omega) (by simpa using hj);simpa using this
theorem ne_nodup:∀{l:List Nat},l.Nodup→∀i j,i<j→j<l.length→l[i]? ≠l[j]?
 |x::xs,h,0,j+1,_,hj=>by
  have hj:j<xs.length:=by simpa using hj
  have:=(List.nodup_cons.1 h).1;simp only[List.getElem?_cons_zero,List.getElem?_cons_succ,List.getElem?_eq_getElem hj];exact fun e=>this (by rw[Option.some.inj e];exact List.getElem_mem hj)
 |x::xs,h,i+1,j+1,hij,hj=>by
  have:=ne_nodup (List.nodup_cons.1 h).2 i j (by omega) (by simpa using hj);simpa using this
theorem ptrAt_ok{j:Nat}:∀{ps a_s:List A} {l:Nat},ptrAt j ps a_s=some l→∃i:Nat,ps[i]? =some (A.ptr j 0)∧a_s[i]? =some (A.ptr l 0)
 |[],a_s,l,h=>by cases a_s<;>simp[ptrAt]at h
 |p::ps,[],l,h=>by cases p<;>simp[ptrAt]at h
 |p::ps,a::a_s,l,h=>by
  unfold ptrAt at h;split at h
  ·rename_i h1 h2;cases h1;cases h2;split at h
   ·rename_i hc;cases h;simp only[Bool.and_eq_true]at hc;obtain⟨k1,k2,k3⟩:=hc;rw[nat_beq k1,nat_beq k2,nat_beq k3];exact⟨0,rfl,rfl⟩
   ·obtain⟨i,h1,h2⟩:=ptrAt_ok h;exact⟨i+1,h1,h2⟩
  ·rename_i h1 h2;cases h1;cases h2;obtain⟨i,h1,h2⟩:=ptrAt_ok h;exact⟨i+1,h1,h2⟩
  ·cases h
theorem sigA_ok{pre args:List A}:∀(n j:Nat) (σ:List Nat),sigA pre args n j=some σ→σ.length=n∧σ.Nodup∧∀i,i<n→∃l,σ[i]? =some l∧ptrAt (j+i) pre args=some l
 |0,j,σ,h=>by simp only[sigA]at h;cases h;exact⟨rfl,List.nodup_nil,fun i hi=>absurd hi (by omega)⟩
 |n+1,j,σ,h=>by
  simp only[sigA]at h;split at h
  ·rename_i l hl;split at h
   ·rename_i r hr;obtain⟨h1,h2,h3⟩:=sigA_ok n (j+1) r hr;split at h
    ·cases h
    ·rename_i hm;cases h;refine⟨by simp[h1],List.nodup_cons.2 ⟨fun q=>hm (memN_mem.2 q),h2⟩,fun i hi=> ?_⟩;cases i with
     |zero=>exact⟨l,rfl,hl⟩
     |succ i=>
      obtain⟨l',q1,q2⟩:=h3 i (by omega);exact⟨l',by simpa using q1,by rw[show j+(i+1)=j+1+i by omega];exact q2⟩
   ·cases h
  ·cases h
theorem GH.chg{hp:List (Nat×AO)}{nl:Nat}{Hm:Nat→Option Ob}{σ:List Nat}(hh:GH hp nl ρ μ H)(hn:H.next≤H'.next)(hf:Fin H'){xs:List Nat}
  (hx:∀(j l x:Nat),σ[j]? =some l→xs[j]? =some x→μ[l]? =some (some x)) (hlen:xs.length=σ.length) (hr:∀y,y∉xs→y<H.next→H'.any y=H.any y)
  {hp':List (Nat×AO)} (h1:∀l,l∉σ→findA hp' l=findA hp l) (h2:∀(j l x:Nat),σ[j]? =some l→xs[j]? =some x→(∃q,findA hp l=some q)∧∃e ys o,findA hp' l=some (.fix e ys)∧H'.get x=some o∧(o.elem=e∧o.sz=0)∧GmL ρ μ ys o.cells):GH hp' nl ρ μ H':=by
 have dich:∀l,l∉σ∨∃j x,σ[j]? =some l∧xs[j]? =some x:=fun l=>by
  by_cases h:l∈σ
  ·obtain⟨j,hj,rfl⟩:=List.getElem_of_mem h;exact .inr ⟨j,xs[j],List.getElem?_eq_getElem hj,List.getElem?_eq_getElem (by omega)⟩
  ·exact .inl h
 have old:∀{l:Nat} {q:AO},findA hp' l=some q→∃q',findA hp l=some q':=fun{l q} h=>by
  rcases dich l with hl|⟨j,x,e1,e2⟩
  ·exact⟨q,by rw[←h1 l hl];exact h⟩
  ·exact(h2 j l x e1 e2).1
 refine⟨hh.len,fun l q hl=> ?_,fun l l' q q' y hl hl' hy hy'=> ?_,fun l y hy=>Nat.lt_of_lt_of_le (hh.lt l y hy) hn,fun l e ys hl=> ?_,hf⟩
 ·rcases dich l with hm|⟨j,x,e1,e2⟩
  ·rw[h1 l hm]at hl;obtain⟨y,k1,k2⟩:=hh.obj l q hl;refine⟨y,k1,fun z hz=> ?_⟩;obtain⟨c,k3,k4⟩:=k2 z hz;subst hz;have hzx:z∉xs:=fun hz=>by
    obtain⟨j,hj,rfl⟩:=List.getElem_of_mem hz;have hj':j<σ.length:=by omega
    have e1:=List.getElem?_eq_getElem hj';have e2:=List.getElem?_eq_getElem hj;have e3:=hx j _ _ e1 e2;obtain⟨q',hq'⟩:=(h2 j _ _ e1 e2).1;have:=hh.inj _ _ _ _ _ hl hq' k1 e3;exact hm (this▸List.getElem_mem hj')
   have hany:=hr z hzx (hh.lt l z k1);refine⟨c,?_,k4⟩;rw[←k3];cases q with
   |loop=>exact hany
   |map=>exact hany
   |fix=>exact get_eq hany
   |row=>exact get_eq hany
  ·obtain⟨_,e,ys,o,k1,k2,k3,k4⟩:=h2 j l x e1 e2;rw[k1]at hl;cases hl;refine⟨some x,hx j l x e1 e2,fun z hz=> ?_⟩;cases hz;exact⟨o,k2,k3,k4⟩
 ·obtain⟨p,hp1⟩:=old hl;obtain⟨p',hp2⟩:=old hl';exact hh.inj l l' p p' y hp1 hp2 hy hy'
 ·rcases dich l with hm|⟨j,x,e1,e2⟩
  ·rw[h1 l hm]at hl;exact hh.fixp l e ys hl
  ·exact⟨x,hx j l x e1 e2⟩
theorem setObjs_ok:∀(σ:List Nat) (objs:List (TypeId×List A×List A)) (hp:List (Nat×AO)) (ys:List A),σ.Nodup→(∀l∈σ,∃q,findA hp l=some q)→σ.length=objs.length→
  (∀l,l∉σ→findA (setObjs hp σ objs ys) l=findA hp l)∧
  ∀(j l:Nat) (q:TypeId×List A×List A),σ[j]? =some l→objs[j]? =some q→findA (setObjs hp σ objs ys) l=some (.fix q.1 ((ys.drop ((objs.take j).flatMap (·.2.2)).length).take q.2.2.length))
 |[],[],hp,ys,_,_,_ =>⟨fun l _ =>rfl,fun j l q h=>by simp at h⟩
 |[],_ ::_,_,_,_,_,h=>by simp at h
 |_ ::_,[],_,_,_,_,h=>by simp at h
 |l0::ls,(e,c0,c1)::r,hp,ys,hnd,hin,hlen=>by
  obtain⟨n1,n2⟩:=List.nodup_cons.1 hnd
  have ih:=setObjs_ok ls r (setA hp l0 (.fix e (ys.take c1.length))) (ys.drop c1.length) n2 (fun l hl=>by
   rw[findA_set];split
   ·rename_i e0;subst e0;exact absurd hl n1
   ·exact hin l (List.mem_cons_of_mem _ hl)) (by simpa using hlen)
  simp only[setObjs];refine⟨fun l hl=> ?_,fun j l q hj hq=> ?_⟩
  ·rw[ih.1 l (fun h=>hl (List.mem_cons_of_mem _ h)),findA_set,if_neg (fun e0:l0=l=>hl (by subst e0;exact List.mem_cons_self))]
  ·cases j with
   |zero=>
    simp only[List.getElem?_cons_zero,Option.some.injEq]at hj hq;subst hj hq;rw[ih.1 l0 n1,findA_set,if_pos rfl];obtain⟨q,hq⟩:=hin l0 List.mem_cons_self;rw[hq];simp
   |succ j=>
    simp only[List.getElem?_cons_succ]at hj hq;rw[ih.2 j l q hj hq];simp[List.drop_drop]
theorem objsFit_ok{σ:List Nat}:∀(ls:List Nat) (objs:List (TypeId×List A×List A)),objsFit S σ ls objs=true→
  ∀(j l:Nat) (q:TypeId×List A×List A),ls[j]? =some l→objs[j]? =some q→∃xs,findA S.hp l=some (.fix q.1 xs)∧lAll (leT S.cs 1 S.nl dep) xs (q.2.1.map (renA σ dep))=true
 |[],_,_,j,l,q,hj,_ =>by simp at hj
 |l0::ls,[],h,_,_,_,_,_ =>by simp[objsFit]at h
 |l0::ls,(e,c0,c1)::r,h,j,l,q,hj,hq=>by
  simp only[objsFit,Bool.and_eq_true]at h;cases j with
  |zero=>
   simp only[List.getElem?_cons_zero,Option.some.injEq]at hj hq;subst hj hq;have h1:=h.1;split at h1
   ·rename_i e' xs hf;simp only[Bool.and_eq_true]at h1;have:=nat_beq h1.1;subst this;exact⟨xs,hf,h1.2⟩
   ·cases h1
  |succ j=>exact objsFit_ok ls r h.2 j l q (by simpa using hj) (by simpa using hq)
theorem cells_all{μs:List (Option Nat)}{w:TypeId×List A×List A→List A}:∀(objs:List (TypeId×List A×List A)) (xs:List Nat),xs.length=objs.length→
  (∀(j:Nat) (q:TypeId×List A×List A),objs[j]? =some q→∃x o,xs[j]? =some x∧H.get x=some o∧(o.elem=q.1∧o.sz=0)∧GmL [0] μs (w q) o.cells)→
  ∃us:List T,GmL [0] μs (objs.flatMap w) us∧∀(j:Nat) (q:TypeId×List A×List A) (x:Nat),objs[j]? =some q→xs[j]? =some x→∃o,H.get x=some o∧(o.elem=q.1∧o.sz=0)∧(w q).length=o.cells.length∧o.cells=(us.drop ((objs.take j).flatMap w).length).take (w q).length
 |[],xs,_,_ =>⟨[],GmL.nil,fun j q x h=>by simp at h⟩
 |q0::r,[],h,_ =>by simp at h
 |q0::r,x0::xr,hl,h=>by
  obtain⟨x,o,h1,h2,h3,h4⟩:=h 0 q0 rfl;simp only[List.getElem?_cons_zero,Option.some.injEq]at h1;subst h1
  obtain⟨us,u1,u2⟩:=cells_all (w:=w) r xr (by simpa using hl) (fun j q hq=>by
   obtain⟨x,o,k1,k2⟩:=h (j+1) q (by simpa using hq)
   exact⟨x,o,by simpa using k1,k2⟩)
  refine⟨o.cells++us,by rw[List.flatMap_cons];exact h4.app u1,fun j q x hq hx=> ?_⟩;cases j with
  |zero=>
   simp only[List.getElem?_cons_zero,Option.some.injEq]at hq hx;subst hq hx;exact⟨o,h2,h3,h4.1,by rw[h4.1];simp⟩
  |succ j=>
   simp only[List.getElem?_cons_succ]at hq hx;obtain⟨o',o1,o2,o3,o4⟩:=u2 j q x hq hx;refine⟨o',o1,o2,o3,?_⟩;rw[List.take_succ_cons,List.flatMap_cons,List.length_append,←List.drop_drop,h4.1,List.drop_left' rfl];exact o4
theorem smyRes_ok{ee:Nat→Nat→FuncId→List T→Hp→Option (T×Hp)}{s:Smy}(ht:SmyOk ee s){f:FuncId}{args:List A}{σ:List Nat}(h:smyFit f args S s=some σ){rs:List AR}(hr:smyRes S s σ=some rs){ts:List T}(hs:Sy ρ S.nx S.cs)(hh:GH S.hp S.nl ρ μ H)(hg:GmL ρ μ args ts):
  ∃r H',Ev (fun n d=>ee n d f ts H=some (r,H'))∧∃R∈rs,ROk ρ μ R r H':=by
 unfold smyFit at h;split at h
 ·rename_i hc;simp only[Bool.and_eq_true,List.all_eq_true]at hc;obtain⟨c1,⟨c2,c3⟩,c4⟩:=hc;have c1:=nat_beq c1;subst c1;split at h
  ·rename_i σ' hsig;split at h
   ·rename_i hc;cases h;simp only[Bool.and_eq_true]at hc;obtain⟨c5,c6⟩:=hc;obtain⟨s1,s2,s3⟩:=sigA_ok _ _ _ hsig;have hobj:∀j,j<s.objs.length→∃l x,σ[j]? =some l∧μ[l]? =some (some x):=fun j hj=>by
     obtain⟨l,h1,h2⟩:=s3 j hj;obtain⟨i,h3,h4⟩:=ptrAt_ok h2;obtain⟨t,h5,h6⟩:=hg.at h4;cases h6 with
     |ptr _ _ x hx=>exact⟨l,x,h1,hx⟩
    let xs:List Nat:=σ.map fun l=>match μ[l]? with
     |some (some x)=>x
     |_ =>0
    have hxl:xs.length=s.objs.length:=by simp[xs,s1]
    have hxs:∀(j l x:Nat),σ[j]? =some l→xs[j]? =some x→μ[l]? =some (some x):=fun j l x h1 h2=>by
     have hj:j<s.objs.length:=by rw[←s1];exact(List.getElem?_eq_some_iff.1 h1).1
     obtain⟨l',x',e1,e2⟩:=hobj j hj;rw[h1]at e1;cases e1;simp only[xs,List.getElem?_map,h1,Option.map_some,e2,Option.some.injEq]at h2;subst h2;exact e2
    have hren:RenOk σ s.objs.length (xs.map some) μ:=fun j hj=>by
     obtain⟨l,x,e1,e2⟩:=hobj j hj;refine⟨l,x,e1,?_,e2⟩;simp only[xs,List.map_map,List.getElem?_map,e1,Option.map_some,Function.comp,e2]
    have hin:∀l∈σ,∃q,findA S.hp l=some q:=fun l hl=>by
     obtain⟨j,hj,rfl⟩:=List.getElem_of_mem hl;have hj':j<s.objs.length:=by omega
     obtain⟨ys,k1,_⟩:=objsFit_ok _ _ c6 j _ _ (List.getElem?_eq_getElem hj) (List.getElem?_eq_getElem hj');exact⟨_,k1⟩
    have hnd:xs.Nodup:=by
     refine nodup_ne fun i j hij hj e=> ?_;have hi:i<xs.length:=by omega
     have ei:=List.getElem?_eq_getElem hi;have ej:=List.getElem?_eq_getElem hj;have hi':i<σ.length:=by omega
     have hj':j<σ.length:=by omega
     have e1:=hxs i _ _ (List.getElem?_eq_getElem hi') ei;have e2:=hxs j _ _ (List.getElem?_eq_getElem hj') ej;obtain⟨q,hq⟩:=hin _ (List.getElem_mem hi');obtain⟨q',hq'⟩:=hin _ (List.getElem_mem hj');rw[ei,ej]at e;have e:=Option.some.inj e;rw[e]at e1;have:=hh.inj _ _ _ _ _ hq hq' e1 e2;exact ne_nodup s2 i j hij hj' (by rw[List.getElem?_eq_getElem hi',List.getElem?_eq_getElem hj',this])
    have tk:∀{a:A} {t:T},Gm (ρ.take 1) (μ.take S.nl) a t→Gm ρ μ a t:=fun h=>h.ext (fun j v e=>by
     rw[List.getElem?_take]at e;split at e
     ·exact e
     ·cases e) (fun j v e=>by
     rw[List.getElem?_take]at e;split at e
     ·exact e
     ·cases e)
    have back:∀{a_s ps:List A} {us:List T},lAll (leT S.cs 1 S.nl dep) a_s (ps.map (renA σ dep))=true→lEv (okR s.objs.length dep) ps=true→GmL ρ μ a_s us→GmL [0] (xs.map some) ps us:=fun{a_s ps us} hle hok hg=>by
     have h1:=lAll_gm (fun a t x=>leT_ok hs.cs hs.zero 1 S.nl dep a t x) hle hg;exact unmap_lst (fun a ha t hg=>ren_of hren dep a (lEv_mem hok a ha) t (tk hg)) h1
    obtain⟨r,H',q1,q2,q3,q4,q5,q6⟩:=ht H ts xs hh.fin hxl hnd (back c5 c2 hg) (fun j q hq=>by
     have hj:j<s.objs.length:=(List.getElem?_eq_some_iff.1 hq).1;obtain⟨l,x,e1,e2⟩:=hobj j hj;obtain⟨ys,k1,k2⟩:=objsFit_ok _ _ c6 j l q e1 hq;have ex:xs[j]? =some x:=by simp only[xs,List.getElem?_map,e1,Option.map_some,e2]
     obtain⟨b,b1,b2,b3⟩:=hh.at k1 e2
     exact⟨x,b,ex,b1,b2,back k2 (c3 q (List.mem_of_getElem? hq)).1 b3⟩)
    refine⟨r,H',q1,?_⟩;have fwd:∀{a:A} {t:T},okR s.objs.length dep a=true→Gm [0] (xs.map some) a t→Gm ρ μ (renA σ dep a) t:=fun ha hg=>ren_to hren dep _ ha _ hg;have hcells:∃us:List T,GmL ρ μ (s.objs.flatMap fun q=>q.2.2.map (renA σ dep)) us∧∀(j:Nat) (q:TypeId×List A×List A) (x:Nat),s.objs[j]? =some q→xs[j]? =some x→∃o,H'.get x=some o∧(o.elem=q.1∧o.sz=0)∧q.2.2.length=o.cells.length∧o.cells=(us.drop ((s.objs.take j).flatMap (·.2.2)).length).take q.2.2.length:=
 by
          obtain⟨us,v1,v2⟩:=cells_all s.objs xs hxl q5;refine⟨us,?_,v2⟩
          have:=map_lst (f:=renA σ dep) (fun a ha t hg=>by
            obtain⟨q,hq,ha⟩:=List.mem_flatMap.1 ha
            exact fwd (lEv_mem (c3 q hq).2 a ha) hg) v1
          rwa [List.map_flatMap]at this
    obtain⟨us,u1,u2⟩:=hcells
    have hv:=matV_ok (μ:=μ) hs (a:= .tup (renA σ dep s.res::s.objs.flatMap fun q=>q.2.2.map (renA σ dep))) (t:= .tup (r::us)) (by
     have:=GmL.cons (fwd c4 q2) u1
     exact .tup _ _ this.1 this.2)
    unfold smyRes at hr;split at hr
    ·rename_i a ys n cs hm;cases hr;rw[hm]at hv;obtain⟨ρ1,e1,s4,g1⟩:=hv;cases g1 with
     |tup _ _ g1 g2=>
     have hl:GmL ρ1 μ (a::ys) (r::us):=⟨g1,g2⟩;obtain⟨z1,z2⟩:=setObjs_ok σ s.objs S.hp ys s2 hin s1;refine⟨_,List.mem_singleton_self _,ρ1,μ,e1,.refl _,s4,?_,hl.head⟩;refine(hh.ext e1).chg (Hm:=fun _ =>none) q4 q3 hxs (by omega) q6 z1 (fun j l x h1 h2=>⟨hin l (List.mem_of_getElem? h1),?_⟩);have hj:j<s.objs.length:=by rw[←s1];exact(List.getElem?_eq_some_iff.1 h1).1
     have hq:=List.getElem?_eq_getElem hj;obtain⟨o,o1,o2,o3,o4⟩:=u2 j _ x hq h2;refine⟨_,_,o,z2 j l _ h1 hq,o1,o2,?_⟩;rw[o4];exact((hl.tail.drop _).take _)
    ·cases hr
   ·cases h
  ·cases h
 ·cases h
theorem smyA_ok{ee:Nat→Nat→FuncId→List T→Hp→Option (T×Hp)}:∀{tab:List Smy},(∀s∈tab,SmyOk ee s)→CallA (fun f args S=>smyA f args S tab) ee
 |[],_ =>fun f args S rs h=>by simp[smyA]at h
 |s::r,ht=>fun f args S rs h ρ μ H ts hs hh hg=>by
  simp only[smyA]at h;split at h
  ·rename_i σ hσ;exact smyRes_ok (ht s List.mem_cons_self) hσ h hs hh hg
  ·exact smyA_ok (fun q hq=>ht q (List.mem_cons_of_mem _ hq)) f args S rs h ρ μ H ts hs hh hg
def xaG(f:FuncId)(args:List A)(S:AS):Option (List AR):=
 if Nat.beq f 123 then match args with
  |[.ptr l 0]=>match findA S.hp l with
   | some (.fix e [a,v])=>if Nat.beq e 135 then(match a with
     | .nilp=>some [⟨.tup [],setA S.hp l (.fix e [.ptr l 0,v]),S.nx,S.nl,S.cs⟩]
     | .ptr l' 0=>if Nat.beq l' l then some [⟨.tup [],S.hp,S.nx,S.nl,S.cs⟩]else none
     | .or [.nilp,.ptr l' 0]=>if Nat.beq l' l then some [⟨.tup [],setA S.hp l (.fix e [.ptr l 0,v]),S.nx,S.nl,S.cs⟩]else none
     |_ =>none)
    else none
   |_ =>none
  |_ =>none
 else if Nat.beq f 79 then match args with
  |[.ptr l 0]=>match findA S.hp l with
   | some (.fix e [a,v])=>if Nat.beq e 135 then(match v with
     | .nils=>some [⟨.strc [],S.hp,S.nx,S.nl,S.cs⟩]
     | .osl m sz si ci s c=>match findA S.hp m with
      | some (.row e2 sz2 (.ival .u8 lo hi) s2 c2)=>if Nat.beq e2 5&&(Nat.beq sz 1&&(Nat.beq sz2 1&&(Nat.beq si 0&&(ci==0&&(Nat.beq s s2&&(c==c2&& !(Nat.beq m l)))))))then
        some [⟨.str s c,dropA S.hp m,S.nx,S.nl,S.cs⟩]
       else none
      |_ =>none
     |_ =>none)
    else none
   |_ =>none
  |_ =>none
 else none
section
variable{ρ ρ':List Int}{μ μ':List (Option Nat)}{S:AS}{H H':Hp}{P:Program}
theorem bytesX_ok:∀(ts:List T),(∀t∈ts,∃n:Int,t= .int .u8 n∧0≤n∧n<256)→∃bs,bytesX ts=some bs∧bs.length=ts.length
 |[],_ =>⟨[],rfl,rfl⟩
 |t::ts,h=>by
  obtain⟨n,rfl,h1,h2⟩:=h t List.mem_cons_self;obtain⟨bs,e1,e2⟩:=bytesX_ok ts (fun t ht=>h t (List.mem_cons_of_mem _ ht));exact⟨UInt8.ofNat n.toNat::bs,by simp only[bytesX,e1];rw[if_pos ⟨h1,h2⟩],by simp[e2]⟩
theorem GmL.two{a b:A}{ts:List T}(h:GmL ρ μ [a,b] ts):∃x y,ts=[x,y]∧Gm ρ μ a x∧Gm ρ μ b y:=by
 obtain⟨x,r,rfl,h1,h2⟩:=h.inv_cons;obtain⟨y,r',rfl,h3,h4⟩:=h2.inv_cons;rw[h4.inv_nil];exact⟨x,y,rfl,h1,h3⟩
theorem xaG_ok:CallA xaG (fun _ _ =>xeG):=by
 intro f args S rs h ρ μ H ts hs hh hg;unfold xaG at h;split at h
 ·rename_i hf;have hf:=nat_beq hf;subst hf;split at h
  ·rename_i l;obtain⟨t,r,rfl,g1,g2⟩:=hg.inv_cons;have:=g2.inv_nil;subst this;cases g1 with
   |ptr _ _ x hx=>
   split at h
   ·rename_i e a v hfa;split at h
    ·rename_i he;have he:=nat_beq he;subst he;obtain⟨o,o1,o2,o3⟩:=hh.at hfa hx;obtain⟨x1,x2,hc,c1,c2⟩:=o3.two;obtain⟨o2,hsz⟩:=o2
     ·
      have put:Gm ρ μ .nilp x1∨x1= .ptr x 0→∃H',xeG 123 [.ptr x 0] H=some (.tup [],H')∧ROk ρ μ ⟨.tup [],setA S.hp l (.fix 135 [.ptr l 0,v]),S.nx,S.nl,S.cs⟩ (.tup []) H':=by
       intro hq;rcases hq with hq|hq
       ·cases hq;refine⟨H.put x {o with cells:=[.ptr x 0,x2]},?_,ρ,μ,.refl _,.refl _,hs,?_,.tup _ _ rfl (fun j a t h=>by simp at h)⟩
        ·simp only[xeG,if_true,copyX,o1,hc];rw[if_pos ⟨o2,hsz⟩]
        ·exact hh.put hfa hx o1 ⟨⟨o2,hsz⟩,GmL.cons (.ptr _ _ _ hx) (GmL.cons c2 .nil)⟩ (get_any o1).2
       ·subst hq;refine⟨H,?_,ρ,μ,.refl _,.refl _,hs,?_,.tup _ _ rfl (fun j a t h=>by simp at h)⟩
        ·simp only[xeG,if_true,copyX,o1,hc];rw[if_pos ⟨trivial,o2,hsz⟩]
        ·refine⟨hh.len,fun m q hm=> ?_,fun m m' q q' y hm hm' hy hy'=> ?_,hh.lt,fun m e xs hm=> ?_,hh.fin⟩
         ·rw[findA_set]at hm;split at hm
          ·rename_i e0;subst e0;rw[hfa]at hm;cases hm;refine⟨some x,hx,fun y hy=> ?_⟩;cases hy;exact⟨o,o1,⟨o2,hsz⟩,by rw[hc];exact GmL.cons (.ptr _ _ _ hx) (GmL.cons c2 .nil)⟩
          ·exact hh.obj m q hm
         ·have old:∀{m:Nat} {q:AO},findA (setA S.hp l (.fix 135 [.ptr l 0,v])) m=some q→∃q,findA S.hp m=some q:=fun{m q} h=>by
           rw[findA_set]at h;split at h
           ·rename_i e;subst e;exact⟨_,hfa⟩
           ·exact⟨q,h⟩
          obtain⟨p,hp1⟩:=old hm;obtain⟨p',hp2⟩:=old hm';exact hh.inj m m' p p' y hp1 hp2 hy hy'
         ·rw[findA_set]at hm;split at hm
          ·rename_i e0;subst e0;exact⟨x,hx⟩
          ·exact hh.fixp m e xs hm
      split at h
      ·cases h;obtain⟨H',q1,q2⟩:=put (.inl c1);exact⟨_,H',.of fun _ _ =>q1,_,List.mem_singleton_self _,q2⟩
      ·split at h
       ·rename_i l' hl';have hl':=nat_beq hl';subst hl';cases h;cases c1 with
        |ptr _ _ y hy=>
        rw[hx]at hy;cases hy;refine⟨.tup [],H,.of fun _ _ => ?_,_,List.mem_singleton_self _,ρ,μ,.refl _,.refl _,hs,hh,.tup _ _ rfl (fun j a t h=>by simp at h)⟩;simp only[xeG,if_true,copyX,o1,hc];rw[if_pos ⟨trivial,o2,hsz⟩]
       ·cases h
      ·split at h
       ·rename_i l' hl';have hl':=nat_beq hl';subst hl';cases h;have hq:Gm ρ μ .nilp x1∨x1= .ptr x 0:=by
         cases c1 with
         |or _ b _ hm hb=>
         simp only[List.mem_cons,List.not_mem_nil,or_false]at hm;rcases hm with rfl|rfl
         ·exact .inl hb
         ·cases hb with
          |ptr _ _ y hy=>rw[hx]at hy;cases hy;exact .inr rfl
        obtain⟨H',q1,q2⟩:=put hq;exact⟨_,H',.of fun _ _ =>q1,_,List.mem_singleton_self _,q2⟩
       ·cases h
      ·cases h
    ·cases h
   ·cases h
  ·cases h
 ·rename_i hf1;split at h
  ·rename_i hf;have hf:=nat_beq hf;subst hf;split at h
   ·rename_i l;obtain⟨t,r,rfl,g1,g2⟩:=hg.inv_cons;have:=g2.inv_nil;subst this;cases g1 with
    |ptr _ _ x hx=>
    split at h
    ·rename_i e a v hfa;split at h
     ·rename_i he;have he:=nat_beq he;subst he;obtain⟨o,o1,o2,o3⟩:=hh.at hfa hx;obtain⟨x1,x2,hc,c1,c2⟩:=o3.two;obtain⟨o2,hsz⟩:=o2;have base:xeG 79 [.ptr x 0] H=strX 135 5 [.ptr x 0] H:=by simp[xeG]
      split at h
      ·cases h;cases c2;refine⟨.str [],H,.of fun _ _ => ?_,_,List.mem_singleton_self _,ρ,μ,.refl _,.refl _,hs,hh,.strc _⟩;refine base.trans ?_;simp only[strX,o1,hc];rw[if_pos ⟨o2,hsz⟩]
      ·rename_i m sz si ci s c;split at h
       ·rename_i e2 sz2 lo hi s2 c2' hfm;split at h
        ·rename_i hk;simp only[Bool.and_eq_true,beq_iff_eq,Bool.not_eq_true']at hk;obtain⟨k1,k2,k3,k4,k5,k6,k7,k8⟩:=hk;have k1:=nat_beq k1;have k2:=nat_beq k2;have k3:=nat_beq k3;have k4:=nat_beq k4;have k6:=nat_beq k6;subst k1 k2 k3 k4 k5 k6 k7;cases h;cases c2 with
         |osl0 _ _ _ _ _ _ vi w w1 w2 w3 w4 w5=>
          refine⟨.str [],H,.of fun _ _ => ?_,_,List.mem_singleton_self _,ρ,μ,.refl _,.refl _,hs,hh.sub (fun l o h=>drop_sub h),.str _ _ w _ w4 (by simpa using w5.symm)⟩;refine base.trans ?_;simp only[strX,o1,hc];rw[if_pos ⟨o2,hsz⟩]
         |osl _ _ _ _ _ _ y vi w w1 w2 w3 w4 w5=>
          rw[hs.zero]at w2;cases w2;obtain⟨o',p1,p2,p3,us,w',r1,r2,r3,r4⟩:=hh.at hfm w1;rw[w4]at r1;cases r1;have hcl:∀u∈us,∃n:Int,u= .int .u8 n∧0≤n∧n<256:=fun u hu=>by
           have:=(r4 u hu).1;cases this with
           |ival _ _ _ n n1 n2 n3=>
           have n3:(0:Int)≤n∧n≤255:=n3;exact⟨n,rfl,n3.1,by omega⟩
          have hflat:us.flatMap T.cells=us:=by
           clear r4 r3 r2
           induction us with
           |nil=>rfl
           |cons u us ih=>
            obtain⟨n,rfl,_⟩:=hcl u List.mem_cons_self;rw[List.flatMap_cons,ih (fun u hu=>hcl u (List.mem_cons_of_mem _ hu))];rfl
          rw[hflat]at r3;obtain⟨bs,b1,b2⟩:=bytesX_ok us hcl;have hlen:(w+c).toNat=us.length:=by omega
          have hxy:y≠x:=fun e0=>by
           subst e0;have:=hh.inj _ _ _ _ _ hfm hfa w1 hx;subst this;simp at k8
          have hz:us.length≠0:=fun e0=>by
           have:=p3.2 rfl;rw[r3]at this;exact this (List.length_eq_zero_iff.1 e0)
          refine⟨.str bs,H.drop y,.of fun _ _ => ?_,_,List.mem_singleton_self _,ρ,μ,.refl _,.refl _,hs,hh.dropR hfm w1,.str _ _ w _ w4 (by rw[b2];omega)⟩;refine base.trans ?_;simp only[strX,o1,hc];rw[if_pos ⟨o2,hsz⟩];have e0:(w+c).toNat=o'.cells.length:=by rw[r3];exact hlen
          have e1:(0+0:Int).toNat=0:=rfl;simp only[p1,e1];rw[if_pos ⟨p2,p3.1,e0.symm,by rw[e0,r3];exact hz⟩,r3,b1]
        ·cases h
       ·cases h
      ·cases h
     ·cases h
    ·cases h
   ·cases h
  ·cases h
end
noncomputable def runZ(P:Program)(Y:AX)(tab:List Smy):Nat→RunA
 |0=>⟨fun f args S=>smyA f args S tab,fun _ _ _ =>none⟩
 |d+1=>⟨fun f args S=>if(tab.any fun s=>Nat.beq s.f f)then smyA f args S tab else if memN f [123,79]then(if Y.top f then none else xaG f args S)else fnA1 P Y (runZ P Y tab d).fn (runZ P Y tab d).yd f args S,rndA P Y (runZ P Y tab d).fn (runZ P Y tab d).yd⟩
variable{X:AX}{gl:Nat→Option T}{pe:Hp→FuncId→List T→Option T}
theorem runZ_ok(hc:Cn X gl pe){tab:List Smy}(ht:∀s∈tab,SmyOk (fun n d=>(run2 P ⟨gl,pe⟩ X.own X.top n d).ee) s):
  ∀(d:Nat),CallA (runZ P X tab d).fn (fun n d=>(run2 P ⟨gl,pe⟩ X.own X.top n d).ee)∧YldA (runZ P X tab d).yd (fun n d=>(run2 P ⟨gl,pe⟩ X.own X.top n d).yd)
 |0=>⟨smyA_ok ht,fun l args S rs h=>by simp[runZ]at h⟩
 |d+1=>by
  obtain⟨ih1,ih2⟩:=runZ_ok hc ht d;have hK:∀n d,EeK (run2 P ⟨gl,pe⟩ X.own X.top n d).ee:=fun n d=>(run2_keep d).1;have hKy:∀n d,YdK (run2 P ⟨gl,pe⟩ X.own X.top n d).yd:=fun n d=>(run2_keep d).2;refine⟨fun f args S rs h ρ μ H ts hs hh ha=> ?_,fun l args S rs h ρ μ H ts x hs hh ha hx=> ?_⟩
  ·simp only[runZ]at h;split at h
   ·exact smyA_ok ht f args S rs h ρ μ H ts hs hh ha
   split at h
   ·split at h
    ·cases h
    ·rename_i htop;obtain⟨r,H',⟨m,e1⟩,fin⟩:=xaG_ok f args S rs h ρ μ H ts hs hh ha;refine⟨r,H',⟨m+1,fun n d' hn hd=> ?_⟩,fin⟩;obtain⟨d',rfl⟩:∃d0,d'=d0+1:=⟨d'-1,by omega⟩;simp only[run2];rw[if_neg htop];exact e1 n d' (by omega) (by omega)
   ·obtain⟨h1,r,H',⟨m,e1⟩,fin⟩:=fnA1_ok hc ih1 ih2 hK hKy h hs hh ha;refine⟨r,H',⟨m+1,fun n d' hn hd=> ?_⟩,fin⟩;obtain⟨d',rfl⟩:∃d0,d'=d0+1:=⟨d'-1,by omega⟩;simp only[run2];rw[if_pos h1];exact e1 n d' (by omega) (by omega)
  ·obtain⟨b,H',⟨m,e1⟩,fin⟩:=rndA_ok hc ih1 ih2 hK hKy _ _ _ _ h ρ μ H ts x hs hh ha hx;refine⟨b,H',⟨m+1,fun n d' hn hd=> ?_⟩,fin⟩;obtain⟨d',rfl⟩:∃d0,d'=d0+1:=⟨d'-1,by omega⟩;simp only[run2];exact e1 n d' (by omega) (by omega)
theorem Ht.over_none:∀(p:List Bool) (t R:Ht),Ht.gtp p t=none→Ht.over t (Ht.stp none p R)=Ht.stp none p (Ht.over t R)
 |p,.nl,R,_ =>rfl
 |[],.nd v l r,R,h=>by
  have:v=none:=h;subst this;rfl
 |false::p,.nd v l r,R,h=>by
  show Ht.over (.nd v l r) (.nd R.val (Ht.stp none p R.lf) R.rt)= .nd (Ht.over (.nd v l r) R).val (Ht.stp none p (Ht.over (.nd v l r) R).lf) (Ht.over (.nd v l r) R).rt;rw[Ht.over_nd,Ht.over_val,Ht.over_lf,Ht.over_rt];show Ht.nd _ (Ht.over l (Ht.stp none p R.lf)) _ =_;rw[Ht.over_none p l R.lf h];rfl
 |true::p,.nd v l r,R,h=>by
  show Ht.over (.nd v l r) (.nd R.val R.lf (Ht.stp none p R.rt))= .nd (Ht.over (.nd v l r) R).val (Ht.over (.nd v l r) R).lf (Ht.stp none p (Ht.over (.nd v l r) R).rt);rw[Ht.over_nd,Ht.over_val,Ht.over_lf,Ht.over_rt];show Ht.nd _ _ (Ht.over r (Ht.stp none p R.rt))=_;rw[Ht.over_none p r R.rt h];rfl
theorem Cmp.many{H:Hp}(hfin:Fin H):∀(xs:List Nat),xs.Nodup→(∀x∈xs,∃o,H.any x=some o)→
  ∃R A,Cmp R A H∧A.next=H.next∧(∀y,A.any y=if y∈xs then H.any y else none)∧∀y,R.get y=if y∈xs then none else H.any y
 |[],_,_ =>⟨H.objs,⟨H.next,.nl⟩,⟨rfl,fun l o h=>⟨any_nl _ _,hfin l o h⟩⟩,rfl,fun y=>any_nl _ _,fun y=>rfl⟩
 |x::xs,hnd,hx=>by
  obtain⟨n1,n2⟩:=List.nodup_cons.1 hnd;obtain⟨R,A,c,a1,a2,a3⟩:=Cmp.many hfin xs n2 (fun y hy=>hx y (List.mem_cons_of_mem _ hy));obtain⟨o,ho⟩:=hx x List.mem_cons_self;have hA:A.any x=none:=by rw[a2,if_neg n1]
  have e1:∀y,(Ht.put (some o) A.objs x).get y=if y=x then some o else A.any y:=fun y=>Ht.get_put (some o) A.objs x y
  refine⟨Ht.put none R x,⟨A.next,Ht.put (some o) A.objs x⟩,⟨?_,fun l q hq=> ?_⟩,a1,fun y=> ?_,fun y=> ?_⟩
  ·show H=⟨A.next,Ht.over (Ht.put (some o) A.objs x) (Ht.put none R x)⟩;rw[Ht.over_put _ _ _ _ (fun h=>by cases h)];unfold Ht.put;rw[Ht.over_none _ _ _ hA,Ht.stp_stp];have hg:Ht.gtp (toP x) (Ht.over A.objs R)=some o:=by
    have:=ho;rw[c.eq]at this;exact this
   rw[Ht.stp_same _ _ hg];exact c.eq
  ·rw[Ht.get_put]at hq;split at hq
   ·cases hq
   ·rename_i hne;obtain⟨q1,q2⟩:=c.dis l q hq;refine⟨?_,q2⟩;show(Ht.put (some o) A.objs x).get l=none;rw[e1,if_neg hne];exact q1
  ·show(Ht.put (some o) A.objs x).get y=_;rw[e1];by_cases h:y=x
   ·subst h;rw[if_pos rfl,if_pos List.mem_cons_self,ho]
   ·rw[if_neg h,a2];by_cases h2:y∈xs
    ·rw[if_pos h2,if_pos (List.mem_cons_of_mem _ h2)]
    ·rw[if_neg h2,if_neg (fun q=>by rcases List.mem_cons.1 q with q|q;exact h q;exact h2 q)]
  ·rw[Ht.get_put];by_cases h:y=x
   ·subst h;rw[if_pos rfl,if_pos List.mem_cons_self]
   ·rw[if_neg h,a3];by_cases h2:y∈xs
    ·rw[if_pos h2,if_pos (List.mem_cons_of_mem _ h2)]
    ·rw[if_neg h2,if_neg (fun q=>by rcases List.mem_cons.1 q with q|q;exact h q;exact h2 q)]
def objsA:List (TypeId×List A×List A)→Nat→List A→List (Nat×AO)
 |[],_,_ =>[]
 |(e,c0,_)::r,j,a=>(j,.fix e (a.take c0.length))::objsA r (j+1) (a.drop c0.length)
theorem objsA_find:∀(objs:List (TypeId×List A×List A)) (i:Nat) (a:List A) (l:Nat) (o:AO),findA (objsA objs i a) l=some o→
  ∃j q,l=i+j∧objs[j]? =some q∧o= .fix q.1 ((a.drop ((objs.take j).flatMap (·.2.1)).length).take q.2.1.length)
 |[],i,a,l,o,h=>by simp[objsA,findA]at h
 |(e,c0,c1)::r,i,a,l,o,h=>by
  simp only[objsA,findA]at h;split at h
  ·rename_i e0;have e0:=nat_beq e0;cases h;exact⟨0,_,by omega,rfl,by simp⟩
  ·obtain⟨j,q,h1,h2,h3⟩:=objsA_find r (i+1) _ l o h;exact⟨j+1,q,by omega,by simpa using h2,by rw[h3];simp[List.drop_drop]⟩
def endObjs(k:Nat)(R:AR):List (TypeId×List A×List A)→Nat→Bool
 |[],_ =>true
 |(e,_,c1)::r,j=>(match findA R.hp j with
  |some (.fix e' ys)=>Nat.beq e' e&&lAll (leT R.cs 1 k dep) ys c1
  |_ =>false)&&endObjs k R r (j+1)
theorem endObjs_ok{k:Nat}{R:AR}:∀(objs:List (TypeId×List A×List A)) (i:Nat),endObjs k R objs i=true→
  ∀(j:Nat) (q:TypeId×List A×List A),objs[j]? =some q→∃ys,findA R.hp (i+j)=some (.fix q.1 ys)∧lAll (leT R.cs 1 k dep) ys q.2.2=true
 |[],i,_,j,q,h=>by simp at h
 |(e,c0,c1)::r,i,h,j,q,hq=>by
  simp only[endObjs,Bool.and_eq_true]at h;cases j with
  |zero=>
   simp only[List.getElem?_cons_zero,Option.some.injEq]at hq;subst hq;have h1:=h.1;split at h1
   ·rename_i e' ys hf;simp only[Bool.and_eq_true]at h1;have:=nat_beq h1.1;subst this;exact⟨ys,hf,h1.2⟩
   ·cases h1
  |succ j=>
   obtain⟨ys,h1,h2⟩:=endObjs_ok r (i+1) h.2 j q (by simpa using hq);exact⟨ys,by rw[show i+(j+1)=i+1+j by omega];exact h1,h2⟩
noncomputable def smyRun(P:Program)(X:AX)(tab:List Smy)(d:Nat)(s:Smy):Bool:=
 match matV (.tup (s.pre++s.objs.flatMap (·.2.1))) 1 []with
 |⟨.tup a,n,cs⟩=>match fnA1 P X (runZ P X tab d).fn (runZ P X tab d).yd s.f (a.take s.pre.length) ⟨[],objsA s.objs 0 (a.drop s.pre.length),n,s.objs.length,cs⟩with
  |some rs=>rs.all fun R=>leT R.cs 1 s.objs.length dep R.a s.res&&endObjs s.objs.length R s.objs 0
  |none=>false
 |_ =>false
theorem smy_ok(hc:Cn X gl pe)(hpm:∀R A B f ts r,Cmp R A B→pe A f ts=some r→pe B f ts=some r)(hpn:∀f,X.top f=true→∀B ts,pe B f ts=none)(hpx:∀f ts A v,xeG f ts A=some v→∀B ts,pe B f ts=none){tab:List Smy}
  (ht:∀s∈tab,SmyOk (fun n d=>(run2 P ⟨gl,pe⟩ X.own X.top n d).ee) s) {d:Nat} {s:Smy} (h:smyRun P X tab d s=true):SmyOk (fun n d=>(run2 P ⟨gl,pe⟩ X.own X.top n d).ee) s:=by
 intro H ts xs hfin hxl hnd hpre hobj;have hx:∀(j:Nat),j<s.objs.length→∃x o,xs[j]? =some x∧H.get x=some o:=fun j hj=>by
  obtain⟨x,o,h1,h2,_⟩:=hobj j _ (List.getElem?_eq_getElem hj);exact⟨x,o,h1,h2⟩
 have hxa:∀x∈xs,∃o,H.get x=some o:=fun x hx'=>by
  obtain⟨j,hj,rfl⟩:=List.getElem_of_mem hx';obtain⟨x,o,h1,h2⟩:=hx j (by omega);rw[List.getElem?_eq_getElem hj]at h1;cases h1;exact⟨o,h2⟩
 obtain⟨R,A,cm,hAn,hAany,hRget⟩:=Cmp.many hfin xs hnd (fun x hx=>by obtain⟨o,ho⟩:=hxa x hx;exact⟨o,(get_any ho).1⟩);have hAget:∀x∈xs,A.get x=H.get x:=fun x hx=>get_eq (by rw[hAany,if_pos hx]);unfold smyRun at h;have h0:Sy [0] 1 []:=⟨rfl,rfl,fun q hq=>by simp at hq⟩;obtain⟨us,u1,u2⟩:=cells_all (w:=(·.2.1)) s.objs xs hxl hobj;have hall:GmL [0] (xs.map some) (s.pre++s.objs.flatMap (·.2.1)) (ts++us):=hpre.app u1;have hv:=matV_ok h0 (a:= .tup (s.pre++s.objs.flatMap (·.2.1))) (t:= .tup (ts++us)) (.tup _ _ hall.1 hall.2);split at h
 ·rename_i a n cs hm;rw[hm]at hv;obtain⟨ρ1,e1,s1,g1⟩:=hv;cases g1 with
  |tup _ _ g1 g2=>
  have ga:GmL ρ1 (xs.map some) a (ts++us):=⟨g1,g2⟩;rw[show s.pre.length=ts.length from hpre.1]at h;have gt:GmL ρ1 (xs.map some) (a.take ts.length) ts:=by
   have:=ga.take ts.length
   rwa [List.take_left' rfl]at this
  have gd:GmL ρ1 (xs.map some) (a.drop ts.length) us:=by
   have:=ga.drop ts.length
   rwa [List.drop_left' rfl]at this
  split at h
  ·rename_i rs hrs;have hh:GH (objsA s.objs 0 (a.drop ts.length)) s.objs.length ρ1 (xs.map some) A:=by
    have fnd:∀{l:Nat} {o:AO},findA (objsA s.objs 0 (a.drop ts.length)) l=some o→∃q,s.objs[l]? =some q∧o= .fix q.1 (((a.drop ts.length).drop ((s.objs.take l).flatMap (·.2.1)).length).take q.2.1.length):=fun{l o} h=>by
     obtain⟨j,q,h1,h2,h3⟩:=objsA_find _ _ _ _ _ h;rw[Nat.zero_add]at h1;subst h1;exact⟨q,h2,h3⟩
    refine⟨by simp[hxl],fun l o hl=> ?_,fun l l' q q' y hl hl' hy hy'=> ?_,fun l y hl=> ?_,fun l e ys hl=> ?_,fun m q hq=> ?_⟩
    ·obtain⟨q,h1,rfl⟩:=fnd hl;obtain⟨x,o,h2,h3,h4,h5⟩:=hobj l q h1;refine⟨some x,by rw[List.getElem?_map,h2];rfl,fun y hy=> ?_⟩;cases hy;obtain⟨o',k1,k2,k3,k4⟩:=u2 l q x h1 h2;rw[h3]at k1;cases k1;refine⟨o,?_,h4,?_⟩
     ·show A.get x=some o;rw[hAget x (List.mem_of_getElem? h2)];exact h3
     ·rw[k4];exact(gd.drop _).take _
    ·rw[List.getElem?_map]at hy hy';obtain⟨x,h1,h2⟩:=Option.map_eq_some_iff.1 hy;obtain⟨x',h3,h4⟩:=Option.map_eq_some_iff.1 hy';cases h2;cases h4;have hl1:=(List.getElem?_eq_some_iff.1 h1).1;have hl2:=(List.getElem?_eq_some_iff.1 h3).1;rcases Nat.lt_trichotomy l l' with e|e|e
     ·exact absurd (h1.trans h3.symm) (ne_nodup hnd l l' e hl2)
     ·exact e
     ·exact absurd (h3.trans h1.symm) (ne_nodup hnd l' l e hl1)
    ·rw[List.getElem?_map]at hl;obtain⟨x,h1,h2⟩:=Option.map_eq_some_iff.1 hl;cases h2;obtain⟨o,ho⟩:=hxa y (List.mem_of_getElem? h1);rw[hAn];exact hfin y o (get_any ho).1
    ·obtain⟨q,h1,_⟩:=fnd hl;obtain⟨x,o,h2,_⟩:=hobj l q h1;exact⟨x,by rw[List.getElem?_map,h2];rfl⟩
    ·rw[hAany]at hq;split at hq
     ·rw[hAn];exact hfin m q hq
     ·cases hq
   obtain⟨ih1,ih2⟩:=runZ_ok (P:=P) hc ht d;have hK:∀n d,EeK (run2 P ⟨gl,pe⟩ X.own X.top n d).ee:=fun n d=>(run2_keep d).1;have hKy:∀n d,YdK (run2 P ⟨gl,pe⟩ X.own X.top n d).yd:=fun n d=>(run2_keep d).2;obtain⟨htop,r,A',⟨m,ev⟩,RR,m1,ρ2,μ2,x1,x2,x3,x4,x5⟩:=fnA1_ok hc ih1 ih2 hK hKy hrs s1 hh gt;have ev2:∀n d',m+1≤n→m+1≤d'→(run2 P ⟨gl,pe⟩ X.own X.top n d').ee s.f ts A=some (r,A'):=fun n d' hn hd'=>by
    obtain⟨d',rfl⟩:∃d0,d'=d0+1:=⟨d'-1,by omega⟩;simp only[run2];rw[if_pos htop];exact ev n d' (by omega) (by omega)
   have mono:=fun(R:Ht) (n d':Nat)=>run2_mono (R:=R) (P:=P) (E:=⟨gl,pe⟩) (n:=n) (own:=X.own) (ok:=X.top) (hpm R) hpn hpx d';have e0:=ev2 (m+1) (m+1) (Nat.le_refl _) (Nat.le_refl _);obtain⟨B0,b1,b2⟩:=(mono R (m+1) (m+1)).1 _ _ _ _ _ _ cm e0;have keep:=(run2_keep (P:=P) (E:=⟨gl,pe⟩) (n:=m+1) (own:=X.own) (ok:=X.top) (m+1)).1 _ _ _ _ _ e0;have hl:=List.all_eq_true.1 h RR m1;simp only[Bool.and_eq_true]at hl;obtain⟨l1,l2⟩:=hl;have r1:ρ2.take 1=[0]:=by
    have:=x3.zero;cases ρ2 with
    |nil=>simp at this
    |cons v r=>simp at this;subst this;rfl
   have r2:μ2.take s.objs.length=xs.map some:=ext_take x2 (by simp[hxl]);have hres:=leT_ok x3.cs x3.zero 1 s.objs.length dep _ _ _ l1 x5;rw[r1,r2]at hres;refine⟨r,B0,⟨m+1,fun n d' hn hd'=> ?_⟩,hres,fun y q hq=> ?_,?_,fun j q hq=> ?_,fun y hy hlt=> ?_⟩
   ·obtain⟨B,k1,k2⟩:=(mono R n d').1 _ _ _ _ _ _ cm (ev2 n d' hn hd');rw[b2.eq,←k2.eq];exact k1
   ·rw[b2.any]at hq;rw[b2.nx];cases hz:A'.any y with
    |some z=>exact x4.fin y z hz
    |none=>rw[hz]at hq;exact(b2.dis y q hq).2
   ·rw[b2.nx,←hAn];exact keep.nx
   ·obtain⟨x,o,h1,h2,_⟩:=hobj j q hq;obtain⟨ys,f1,f2⟩:=endObjs_ok _ _ l2 j q hq;rw[Nat.zero_add]at f1;obtain⟨o',o1,o2,o3⟩:=x4.at f1 (x2 j _ (by rw[List.getElem?_map,h1];rfl));refine⟨x,o',h1,b2.get o1,o2,?_⟩;have:=lAll_gm (fun a t x=>leT_ok x3.cs x3.zero 1 s.objs.length dep a t x) f2 o3
    rwa [r1,r2]at this
   ·have hRy:R.get y=H.any y:=by rw[hRget,if_neg hy]
    rw[b2.any,hRy];cases hz:H.any y with
    |some q=>rw[(b2.dis y q (by rw[hRy,hz])).1];rfl
    |none=>
     have cy:Cmp (Ht.put (some ⟨0,0,[],none⟩) .nl y) A ⟨A.next,Ht.over A.objs (Ht.put (some ⟨0,0,[],none⟩) .nl y)⟩:=⟨rfl,fun l q hq=>by
      rw[Ht.get_put]at hq;split at hq
      ·rename_i e;subst e;exact⟨by rw[hAany,if_neg hy],by rw[hAn];exact hlt⟩
      ·rw[Ht.get_nl]at hq;cases hq⟩
     obtain⟨By,_,k2⟩:=(mono _ (m+1) (m+1)).1 _ _ _ _ _ _ cy e0;rw[(k2.dis y _ (by rw[Ht.get_put,if_pos rfl])).1];rfl
  ·cases h
 ·cases h
noncomputable def ctRunZ(P:Program)(X:AX)(tab:List Smy)(d:Nat)(c:Ctr):Bool:=
 match matV (.tup c.pre) 1 []with
 |⟨.tup a,n,cs⟩=>match fnA1 P X (runZ P X tab d).fn (runZ P X tab d).yd c.f a ⟨[],[],n,0,cs⟩with
  |some rs=>rs.all fun R=>match frA R.hp dep R.a with
   |some b=>leT R.cs 0 0 dep b c.res
   |none=>false
  |none=>false
 |_ =>false
theorem ctZ_ans{pe:FuncId→List T→Option T}{k:Nat}(hc:Cn X gl (lend k pe))(hk:dep≤k){tab:List Smy}(hs:∀s∈tab,SmyOk (fun n d=>(run2 P ⟨gl,lend k pe⟩ X.own X.top n d).ee) s){d:Nat}{c:Ctr}(h:ctRunZ P X tab d c=true){ts:List T}(ht:GmL [] [] c.pre ts):
  ∃r,Ans P gl pe X.own X.top k c.f ts r∧Gm [] [] c.res r:=by
 unfold ctRunZ at h;have h0:Sy [0] 1 []:=⟨rfl,rfl,fun q hq=>by simp at hq⟩;have hv:=matV_ok (μ:=[]) h0 (a:= .tup c.pre) (t:= .tup ts) (.tup _ _ (ht.ext (ρ':=[0]) (fun j v h=>by simp at h) (.refl _)).1 (ht.ext (ρ':=[0]) (fun j v h=>by simp at h) (.refl _)).2);split at h
 ·rename_i a n cs hm;rw[hm]at hv;obtain⟨ρ1,e1,s1,g1⟩:=hv;cases g1 with
  |tup _ _ g1 g2=>
  split at h
  ·rename_i rs hrs;have hh:GH [] 0 ρ1 [] ⟨0,.nl⟩:=⟨rfl,fun l o h=>by simp[findA]at h,fun l l' o o' x h=>by simp[findA]at h,fun l x h=>by simp at h,fun l e xs h=>by simp[findA]at h,fun m o h=>by rw[any_nl]at h;cases h⟩;obtain⟨ih1,ih2⟩:=runZ_ok (P:=P) hc hs d;have hK:∀n d,EeK (run2 P ⟨gl,lend k pe⟩ X.own X.top n d).ee:=fun n d=>(run2_keep d).1;have hKy:∀n d,YdK (run2 P ⟨gl,lend k pe⟩ X.own X.top n d).yd:=fun n d=>(run2_keep d).2;obtain⟨htop,r,H',⟨m,e2⟩,R,m1,ρ2,μ2,x1,x2,x3,x4,x5⟩:=fnA1_ok hc ih1 ih2 hK hKy hrs (ρ:=ρ1) (μ:=[]) (H:=⟨0,.nl⟩) (ts:=ts) s1 hh ⟨g1,g2⟩;have hl:=List.all_eq_true.1 h R m1;split at hl
   ·rename_i b hb;obtain⟨r',f1,f2⟩:=frA_ok x3.zero x4 dep R.a b r hb x5 k hk;have hg:=leT_ok x3.cs x3.zero 0 0 dep _ _ _ hl f2;rw[take0,take0]at hg;refine⟨r',⟨m+1,fun n' d' hn hd=> ?_⟩,hg⟩;unfold pureE;have e3:(run2 P ⟨gl,lend k pe⟩ X.own X.top n' d').ee c.f ts ⟨0,.nl⟩=some (r,H'):=by
     obtain⟨d',rfl⟩:∃d0,d'=d0+1:=⟨d'-1,by omega⟩;simp only[run2];rw[if_pos htop];exact e2 n' d' (by omega) (by omega)
    rw[e3];exact f1
   ·cases hl
  ·cases h
 ·cases h
def AnsOk(P:Program)(gl:Nat→Option T)(pe:FuncId→List T→Option T)(X:AX)(k:Nat)(c:Ctr):Prop:=lEv (pureA dep) c.pre=true∧∀ts,GmL [] [] c.pre ts→∃r,Ans P gl pe X.own X.top k c.f ts r∧Gm [] [] c.res r
theorem peTab_okZ{pe:FuncId→List T→Option T}{k:Nat}(hk:dep≤k){pa:FuncId→List A→Nat→List Con→Option AV}(hpa:PeA (lend k pe) pa){l:List Ctr}(hl:∀c∈l,AnsOk P gl pe X k c):
  PeA (lend k (extP P gl pe X.own X.top k fun f=>l.any fun c=>Nat.beq c.f f)) (peTab l pa):=by
 intro f a n cs v h ρ μ H ts hs hg;unfold peTab at h;split at h
 ·rename_i hany;split at h
  ·rename_i c hf;have hmem:=List.mem_of_find?_eq_some hf;have hcf:=List.find?_some (p:=fun c:Ctr=>Nat.beq c.f f&&lAll (leT cs 0 0 dep) a c.pre) hf;simp only[Bool.and_eq_true]at hcf;obtain⟨hcf,hle⟩:=hcf;have hcf:=nat_beq hcf;subst hcf;obtain⟨h2,h3⟩:=hl c hmem;cases h;have hgp:GmL [] [] c.pre ts:=by
    have:=lAll_gm (fun a t x=>leT_ok hs.cs hs.zero 0 0 dep a t x) hle hg
    rwa [take0,take0]at this
   obtain⟨r,r1,r2⟩:=h3 ts hgp;have hfz:mapO (frzT k ⟨0,.nl⟩) ts=some ts:=mapO_id _ fun x hx=>by
    obtain⟨a,ha,hga⟩:=gmL_mem hgp.1 hgp.2 hx;exact frz_id dep a x (lEv_mem h2 a ha) hga k hk
   refine⟨r,?_,matV_ok hs (r2.ext (fun j v h=>by simp at h) (fun j v h=>by simp at h))⟩;unfold lend;rw[hfz];exact extP_ans hany r1
  ·cases h
 ·rename_i hno;obtain⟨r,r1,r2⟩:=hpa f a n cs v h ρ μ H ts hs hg;refine⟨r,?_,r2⟩;have hfn:∀ts,extP P gl pe X.own X.top k (fun f=>l.any fun c=>Nat.beq c.f f) f ts=pe f ts:=fun ts=>by
   unfold extP;rw[if_neg hno]
  unfold lend at r1⊢;simp only[hfn];exact r1
variable{k:Nat}{ga:Nat→Option A}{pa:FuncId→List A→Nat→List Con→Option AV}{pc:FuncId→List T→Option T}{dom:FuncId→Bool}
theorem Lay.stepZ(h:Lay P gl k ga pa pc dom)(hm:P.follows .mixedOrders=true)(hz:GlFrz gl)(hk:dep≤k){X:AX}{tl:List Nat}(ht:X.top=fun f=>memN f tl)(htl:tl.all (fun f=>okFn P f&&fnOk2 P f)=true){l:List Ctr}(hl:∀c∈l,AnsOk P gl pc X k c):
  Lay P gl k ga (peTab l pa) (extP P gl pc X.own X.top k fun f=>l.any fun c=>Nat.beq c.f f) (fun f=>(l.any fun c=>Nat.beq c.f f)||dom f):=by
 refine⟨h.gA,peTab_okZ hk h.pA hl,extP_ok hm hz h.hx h.pc (fun f hf=>topOk htl f (by rw[ht]at hf;exact hf)),fun f ts hd=> ?_,h.hx⟩;simp only[Bool.or_eq_false_iff]at hd;unfold extP;rw[if_neg (fun q=>by have q':(l.any fun c=>Nat.beq c.f f)=true:=q;rw[hd.1]at q';cases q')];exact h.dm f ts hd.2
theorem Lay.smy(h:Lay P gl k ga pa pc dom){X:AX}(h1:X.gl=ga)(h2:X.pe=pa){il tl:List Nat}(h3:X.inl=fun f=>memN f il)(h4:il.all (fun f=> !dom f)=true)(h5:X.top=fun f=>memN f tl)(h6:tl.all (fun f=> !dom f)=true)
  {tab:List Smy} (ht:∀s∈tab,SmyOk (fun n d=>(run2 P ⟨gl,lend k pc⟩ X.own X.top n d).ee) s) {d:Nat} {s:Smy} (hr:smyRun P X tab d s=true) (h7:dom 123=false) (h8:dom 79=false) (hk:dep≤k:=by first|assumption|decide):SmyOk (fun n d=>(run2 P ⟨gl,lend k pc⟩ X.own X.top n d).ee) s:=by
 refine smy_ok (h.cn h1 h2 h3 h4) (fun R A B f ts r c e=>lend_mono c e) (fun f hf B ts=> ?_) (fun f ts A v hv B ts'=> ?_) ht hr
 rotate_left 1
 ·have hd:dom f=false:=by
   unfold xeG at hv;by_cases h1:f=123
   ·subst h1;exact h7
   ·rw[if_neg h1]at hv;by_cases h2:f=79
    ·subst h2;exact h8
    ·rw[if_neg h2]at hv;cases hv
  have hn:∀ts,pc f ts=none:=fun ts=>h.dm f ts hd;unfold lend;split
  ·exact hn _
  ·split
   ·simp only[hn]
   ·rfl
 rw[h5]at hf;have hd:=memN_all h6 f hf;have hn:∀ts,pc f ts=none:=fun ts=>h.dm f ts (by simpa using hd);unfold lend;split
 ·exact hn _
 ·split
  ·simp only[hn]
  ·rfl
end
end Go.Ps
namespace Go.Ps
variable[Inhabited Prd]
theorem smy_union{ee:Nat→Nat→FuncId→List T→Hp→Option (T×Hp)}{s:Smy}
  (h:∀(ts:List T) (μ:List (Option Nat)),GmL [0] μ s.pre ts→∃s':Smy,SmyOk ee s'∧s'.f=s.f∧s'.objs=s.objs∧GmL [0] μ s'.pre ts∧∀r,Gm [0] μ s'.res r→Gm [0] μ s.res r):SmyOk ee s:=by
 intro H ts xs h1 h2 h3 h4 h5;obtain⟨s',k1,k2,k3,k4,k5⟩:=h ts _ h4;obtain⟨r,H',q1,q2,q3⟩:=k1 H ts xs h1 (by rw[k3];exact h2) h3 k4 (by rw[k3];exact h5);rw[k2]at q1;rw[k3]at q3;exact⟨r,H',q1,k5 r q2,q3⟩
section
variable{P:Program}{gl:Nat→Option T}{k:Nat}
theorem ans_union{pe:FuncId→List T→Option T}{X:AX}{c:Ctr}(hp:lEv (pureA dep) c.pre=true)
  (h:∀ts,GmL [] [] c.pre ts→∃c':Ctr,AnsOk P gl pe X k c'∧c'.f=c.f∧GmL [] [] c'.pre ts∧∀r,Gm [] [] c'.res r→Gm [] [] c.res r):AnsOk P gl pe X k c:=by
 refine⟨hp,fun ts ht=> ?_⟩;obtain⟨c',h1,h2,h3,h4⟩:=h ts ht;obtain⟨r,r1,r2⟩:=h1.2 ts h3;rw[h2]at r1;exact⟨r,r1,h4 r r2⟩
open Classical in
noncomputable def knQ(P:Program)(gl:Nat→Option T)(f0:FuncId)(Q:List T→T→Prop)(pe:FuncId→List T→Option T):FuncId→List T→Option T:=fun f ts=>
 if Nat.beq f0 f=true then(if h:∃r,PureFn P gl f ts r∧Q ts r then some (Classical.choose h)else none)else pe f ts
variable{ga:Nat→Option A}{pa:FuncId→List A→Nat→List Con→Option AV}{pe:FuncId→List T→Option T}{dom:FuncId→Bool}
theorem Lay.knownQ(h:Lay P gl k ga pa pe dom){f0:FuncId}{Q:List T→T→Prop}{pq:List A→Nat→List Con→Option AV}
  (hq:∀a_s n cs v,pq a_s n cs=some v→∀ρ μ ts,Sy ρ n cs→GmL ρ μ a_s ts→mapO (frzT k ⟨0,.nl⟩) ts=some ts∧(∃r,PureFn P gl f0 ts r∧Q ts r)∧∀r,Q ts r→VOk ρ μ v r):
  Lay P gl k ga (fun f a_s n cs=>if Nat.beq f0 f then pq a_s n cs else pa f a_s n cs) (knQ P gl f0 Q pe) (fun f=>Nat.beq f0 f||dom f):=by
 refine⟨h.gA,?_,?_,fun f ts hd=> ?_,h.hx⟩
 ·intro f a n cs v hv ρ μ H ts hs hg;have hv2:(if Nat.beq f0 f=true then pq a n cs else pa f a n cs)=some v:=hv;by_cases hf:Nat.beq f0 f=true
  ·rw[if_pos hf]at hv2;have e:=nat_beq hf;subst e;obtain⟨h1,h2,h3⟩:=hq a n cs v hv2 ρ μ ts hs hg;refine⟨Classical.choose h2,?_,h3 _ (Classical.choose_spec h2).2⟩;unfold lend;rw[h1];show knQ P gl f0 Q pe f0 ts=_;unfold knQ;rw[if_pos hf,dif_pos h2]
  ·rw[if_neg hf]at hv2;obtain⟨r,r1,r2⟩:=h.pA f a n cs v hv2 ρ μ H ts hs hg;refine⟨r,?_,r2⟩;have hfn:∀ts,knQ P gl f0 Q pe f ts=pe f ts:=fun ts=>by unfold knQ;rw[if_neg hf]
   unfold lend at r1⊢;simp only[hfn];exact r1
 ·intro f ts r hr;unfold knQ at hr;split at hr
  ·split at hr
   ·rename_i h';cases hr;have q:=(Classical.choose_spec h').1;exact⟨q.1,fun g vs hg hal hgl hv=>q.2 g vs hg ⟨0,fun l _ =>hal l⟩ hgl hv⟩
   ·cases hr
  ·exact h.pc f ts r hr
 ·simp only[Bool.or_eq_false_iff]at hd;unfold knQ;rw[if_neg (fun q=>by rw[hd.1]at q;cases q)];exact h.dm f ts hd.2
abbrev Grp:=AX×List Nat×List Ctr
def flatG:List Grp→List Ctr
 |[]=>[]
 |[g]=>g.2.2
 |g::r=>g.2.2++flatG r
noncomputable def runG(P:Program)(gs:List Grp):Bool:=gs.all fun g=>g.2.2.all fun c=>ctRunZ P g.1 [] 8 c
noncomputable def chkG(dom:FuncId→Bool)(gs:List Grp):Bool:=gs.all fun g=>g.2.1.all (fun f=> !dom f)&&g.2.2.all fun c=>lEv (pureA dep) c.pre
def ownG:List Grp→FuncId→Nat→Bool
 |[]=>fun _ _ =>false
 |g::_ =>g.1.own
def topG:List Grp→FuncId→Bool
 |[]=>fun _ =>false
 |g::_ =>g.1.top
def inG(ga:Nat→Option A)(pa:FuncId→List A→Nat→List Con→Option AV)(X:AX):List Grp→Prop
 |[]=>True
 |g::r=>(g.1.gl=ga∧g.1.pe=pa∧(g.1.inl=fun f=>memN f g.2.1)∧g.1.own=X.own∧g.1.top=X.top)∧inG ga pa X r
theorem r5{α β γ δ ε:Type}{a:α}{b:β}{c:γ}{d:δ}{e:ε}:a=a∧b=b∧c=c∧d=d∧e=e:=⟨rfl,rfl,rfl,rfl,rfl⟩
theorem ansG(h:Lay P gl k ga pa pe dom)(hk:dep≤k){X:AX}:∀{gs:List Grp},inG ga pa X gs→chkG dom gs=true→runG P gs=true→∀c∈flatG gs,AnsOk P gl pe X k c:=by
 have one:∀g:Grp,(g.1.gl=ga∧g.1.pe=pa∧(g.1.inl=fun f=>memN f g.2.1)∧g.1.own=X.own∧g.1.top=X.top)→(g.2.1.all (fun f=> !dom f)&&g.2.2.all fun c=>lEv (pureA dep) c.pre)=true→(g.2.2.all fun c=>ctRunZ P g.1 [] 8 c)=true→∀c∈g.2.2,AnsOk P gl pe X k c:=by
  intro g ⟨h1,h2,h3,h4,h5⟩ hc hr c hm;simp only[Bool.and_eq_true]at hc;refine⟨List.all_eq_true.1 hc.2 c hm,fun ts ht=> ?_⟩;obtain⟨r,r1,r2⟩:=ctZ_ans (h.cn (X:=g.1) h1 h2 (l:=g.2.1) h3 hc.1) hk (tab:=[]) (by simp) (List.all_eq_true.1 hr c hm) ht;rw[h4,h5]at r1;exact⟨r,r1,r2⟩
 intro gs
 induction gs with
 |nil=>intro _ _ _ c hm;cases hm
 |cons g r ih=>
  intro hi hc hr c hm;unfold chkG at hc;unfold runG at hr;simp only[List.all_cons,Bool.and_eq_true]at hc hr;have h1:=one g hi.1 (by simp only[Bool.and_eq_true];exact hc.1) hr.1;have h2:=ih hi.2 hc.2 hr.2;cases r with
  |nil=>exact h1 c hm
  |cons g' r'=>
   rcases List.mem_append.1 (show c∈g.2.2++flatG (g'::r')from hm)with h|h
   ·exact h1 c h
   ·exact h2 c h
theorem Lay.go(h:Lay P gl k ga pa pe dom)(hm:P.follows .mixedOrders=true)(hz:GlFrz gl)(hk:dep≤k){g:Grp}{gs:List Grp}(tl:List Nat)(ht:g.1.top=fun f=>memN f tl)(htl:tl.all (fun f=>okFn P f&&fnOk2 P f)=true)
  (h1:inG ga pa g.1 (g::gs)) (h2:chkG dom (g::gs)=true) (h3:runG P (g::gs)=true):
  Lay P gl k ga (peTab (flatG (g::gs)) pa) (extP P gl pe (ownG (g::gs)) (topG (g::gs)) k fun f=>(flatG (g::gs)).any fun c=>Nat.beq c.f f) (fun f=>((flatG (g::gs)).any fun c=>Nat.beq c.f f)||dom f):=
 h.stepZ hm hz hk (X:=g.1) ht htl (ansG h hk h1 h2 h3)
end
end Go.Ps
