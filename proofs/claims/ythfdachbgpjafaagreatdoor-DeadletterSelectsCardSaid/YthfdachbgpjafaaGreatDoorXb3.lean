/- Lemmas for the card; no conditions. -/
import Derived.Shelf.Strings.Repeat
import Derived.Shelf.Unicode.DecodeAny
import Derived.Test.YthfdachbgpjafaaGreatDoorXb2
import Derived.Lib.TrimU
set_option linter.unusedSimpArgs false
set_option linter.unusedVariables false
set_option linter.unusedSectionVars false
set_option maxRecDepth 100000
namespace Go.Proofs.Tryz
open Go.Shelf
def RH:Go.Shelf.Ren:=⟨fun|105=>312|212=>332|99=>197|165=>77|166=>78|170=>333|169=>79|263=>346|264=>347|206=>262|240=>123|241=>124|276=>183|277=>184|n=>n,fun|9=>9|3=>3|4=>4|20=>20|0=>0|46=>122|109=>354|5=>5|72=>135|76=>139|51=>184|146=>366|53=>186|148=>368|70=>133|37=>128|75=>138|127=>197|164=>252|80=>141|n=>n,fun|n=>n⟩
theorem aOa:Go.Proofs.Lays.n105 prog RH:={
 mixed:=by kernel_rfl
 f99:=func197.trans (congrArg some (by kernel_rfl))
 f105:=func312.trans (congrArg some (by kernel_rfl))
 f165:=func77.trans (congrArg some (by kernel_rfl))
 f166:=func78.trans (congrArg some (by kernel_rfl))
 f169:=func79.trans (congrArg some (by kernel_rfl))
 f170:=func333.trans (congrArg some (by kernel_rfl))
 f206:=func262.trans (congrArg some (by kernel_rfl))
 f212:=func332.trans (congrArg some (by kernel_rfl))
 f240:=func123.trans (congrArg some (by kernel_rfl))
 f241:=func124.trans (congrArg some (by kernel_rfl))
 f263:=func346.trans (congrArg some (by kernel_rfl))
 f264:=func347.trans (congrArg some (by kernel_rfl))
 f276:=func183.trans (congrArg some (by kernel_rfl))
 f277:=func184.trans (congrArg some (by kernel_rfl))
 t0:=underlying0
 a0:=isAgg0
 z0:=sizeOf0
 v0:=zeroValue0
 t3:=underlying3
 a3:=isAgg3
 z3:=sizeOf3
 v3:=zeroValue3
 t4:=underlying4
 a4:=isAgg4
 z4:=sizeOf4
 v4:=zeroValue4
 t5:=underlying5
 a5:=isAgg5
 z5:=sizeOf5
 v5:=zeroValue5
 t9:=underlying9
 a9:=isAgg9
 z9:=sizeOf9
 v9:=zeroValue9
 t20:=underlying20
 a20:=isAgg20
 z20:=sizeOf20
 v20:=zeroValue20
 t37:=underlying128
 a37:=isAgg128
 z37:=sizeOf128
 v37:=zeroValue128
 t46:=underlying122
 a46:=isAgg122
 z46:=sizeOf122
 v46:=zeroValue122
 t51:=underlying184
 a51:=isAgg184
 z51:=sizeOf184
 v51:=zeroValue184
 t53:=underlying186
 a53:=isAgg186
 z53:=sizeOf186
 v53:=zeroValue186
 t70:=underlying133
 a70:=isAgg133
 z70:=sizeOf133
 v70:=zeroValue133
 t72:=underlying135
 a72:=isAgg135
 z72:=sizeOf135
 v72:=zeroValue135
 t75:=underlying138
 a75:=isAgg138
 z75:=sizeOf138
 v75:=zeroValue138
 t76:=underlying139
 a76:=isAgg139
 z76:=sizeOf139
 v76:=zeroValue139
 t109:=underlying354
 a109:=isAgg354
 z109:=sizeOf354
 v109:=zeroValue354
 t127:=underlying197
 a127:=isAgg197
 z127:=sizeOf197
 v127:=zeroValue197
 t146:=underlying366
 a146:=isAgg366
 z146:=sizeOf366
 v146:=zeroValue366
 t148:=underlying368
 a148:=isAgg368
 z148:=sizeOf368
 v148:=zeroValue368
 t164:=underlying252
 a164:=isAgg252
 z164:=sizeOf252
 v164:=zeroValue252}
theorem KT:Builder.Extra prog RH:={
 sizeBuilder:=by kernel_rfl
 liesBuilder:=by kernel_rfl
 t5:=underlying5
 a5:=isAgg5
 z5:=sizeOf5
 v5:=zeroValue5
 infoByte:=by kernel_rfl
 cellsByte:=by kernel_rfl
 sizeByte:=by kernel_rfl
 neB5:=by decide}
def Lj:Go.Shelf.Ren:=⟨fun|197=>261|260=>313|n=>n,fun|9=>9|21=>21|3=>3|4=>4|5=>5|105=>310|119=>153|0=>0|46=>122|139=>156|138=>155|n=>n,fun|3=>0|4=>1|n=>n⟩
theorem aOe:Go.Proofs.Lays.n197 prog Lj:={
 mixed:=by kernel_rfl
 f197:=func261.trans (congrArg some (by kernel_rfl))
 f260:=func313.trans (congrArg some (by kernel_rfl))
 t0:=underlying0
 a0:=isAgg0
 z0:=sizeOf0
 v0:=zeroValue0
 t3:=underlying3
 a3:=isAgg3
 z3:=sizeOf3
 v3:=zeroValue3
 t4:=underlying4
 a4:=isAgg4
 z4:=sizeOf4
 v4:=zeroValue4
 t5:=underlying5
 a5:=isAgg5
 z5:=sizeOf5
 v5:=zeroValue5
 t9:=underlying9
 a9:=isAgg9
 z9:=sizeOf9
 v9:=zeroValue9
 t21:=underlying21
 a21:=isAgg21
 z21:=sizeOf21
 v21:=zeroValue21
 t46:=underlying122
 a46:=isAgg122
 z46:=sizeOf122
 v46:=zeroValue122
 t105:=underlying310
 a105:=isAgg310
 z105:=sizeOf310
 v105:=zeroValue310
 t119:=underlying153
 a119:=isAgg153
 z119:=sizeOf153
 t138:=underlying155
 a138:=isAgg155
 z138:=sizeOf155
 v138:=zeroValue155
 t139:=underlying156
 a139:=isAgg156
 z139:=sizeOf156
 v139:=zeroValue156
 g3:=by kernel_rfl
 g4:=by kernel_rfl}
end Go.Proofs.Tryz
namespace Go.Ps
noncomputable section
def Fp(gl:fD)(fr:eY)(o:Oper):Bool:=
 match o.op with
 | .load _ a=>match pE gl fr a with
  |some (.ref ..)=>true|_ =>false
 | .call c=>match c.callee with
  | .builtin .len=>c.args.toList.all fun x=>match pE gl fr x with
   |some (.mp _)=>false|_ =>true
  | .builtin _ =>true|_ =>false
 | .lookup .. =>false|_ =>true
section
variable(P:fA)(E:tW)(F:Fc)(ops:fC)
def IW:List Oper->Nat->List T->Hp->Option (List T×Hp×List Nat×List Nat)
 |[],_,fr,H=>some (fr,H,[],[])
 |o::r,m,fr,H=>
  if uM ⟨fr,H,none⟩ o=false then none
  else if oW ops fr o then match oV P E (uW F o) H fr o with
   |some v=>match IW r (m+1) (pP fr o.dst v) H with
    |some (f,H',es,ds)=>some (f,H',es,if Fp E.gl fr o then ds else m::ds)
    |none=>none
   |none=>match rO P E F H fr o with
    |some (v,H1)=>match IW r (m+1) (pP fr o.dst v) H1 with
     |some (f,H',es,ds)=>some (f,H',m::es,ds)|none=>none
    |none=>none
  else IW r (m+1) (pP fr o.dst oL) H
def Cj(A:fN)(es ds:fN):Bool:=(es.all fun e=>es.all fun e'=> !(Nat.blt e' e)||tG A e e')&&ds.all fun d=>es.all fun e=>if Nat.blt e d then tG A d e else tG A e d
def FW(fr:eY)(H:Hp):Option Fx:=match IW P E F ops ops.toList 0 fr H with
 |some (f,H',es,ds)=>if Cj (rF ops.toList []) es ds then some ⟨f,H',none⟩else none
 |none=>none
def lkp:Bool:=ops.toList.any fun o=>match o.op with
 | .lookup .. =>true|_ =>false
def yH(fl:Bool)(fr:eY)(H:Hp):Option Fx:=if lkp ops|| !fl then FW P E F ops fr H else qK P E F ops fr H
end
section
variable{P:fA}{E:tW}{F:Fc}{ops:fC}
theorem aNj{fr:eY}{o:Oper}{H H':Hp}{own:Bool}(h:Fp E.gl fr o=true):oV P E own H fr o=oV P E own H' fr o:=by
 obtain⟨dst,op,ty,pos,after,guard⟩:=o;cases op<;>simp only[Fp]at h<;>try first|rfl|(cases h;done)
 case load t a=>
  simp only[oV];split at h
  .rename_i x off ha;rw[ha];rfl
  .cases h
 case call c=>
  simp only[oV,uN];split at h
  .rename_i hb;rw[hb];simp only;rw[aG]at h;split
   .rename_i x t ts hx ht;have hx':=h x (by rw[hx];simp);split
    .rename_i a ha;rw[ha]at hx';cases a<;>first|rfl|(simp at hx')
    .rfl
   .rfl
  .rename_i b hb hne;rw[hne];cases b<;>first|rfl|exact absurd rfl hb
  .cases h
def EfT(P:fA)(E:tW)(F:Fc)(ops:fC)(os:fS)(m:Nat)(fr:eY)(H:Hp)(f:eY)(H':Hp)(es ds:fN):Prop:=
 ∃(S:gW) (K:Nat) (ep:Nat->Nat) (Hc:Nat->Hp),S 0=fr/\S os.length=f/\Hc 0=H/\Hc K=H'/\es.length=K/\(∀k,k<K->es[k]? =some (ep k))/\
  (∀k,k<K->m<=ep k/\ep k<m+os.length)/\(∀k k',k'<k->k<K->ep k'<ep k)/\(∀i,i<os.length->∃o,os[i]? =some o/\(∀d,o.dst=some d->d<(S i).length)/\
   ((∃k v,k<K/\ep k=m+i/\oW ops (S i) o=true/\rO P E F (Hc k) (S i) o=some (v,Hc (k+1))/\S (i+1)=pP (S i) o.dst v)\/
    ((∀k,k<K->ep k≠m+i)/\((oW ops (S i) o=true/\∃v q,q<=K/\(∀k,k<K->(ep k<m+i↔k<q))/\oV P E (uW F o) (Hc q) (S i) o=some v/\(Fp E.gl (S i) o=true\/m+i∈ds)/\S (i+1)=pP (S i) o.dst v)\/(oW ops (S i) o=false/\S (i+1)=pP (S i) o.dst oL)))))
theorem EfT.plain{o:Oper}{os:fS}{m:Nat}{fr fr1 f:eY}{H H':Hp}{es ds ds1:fN}(he:EfT P E F ops os (m+1) fr1 H f H' es ds1)(hdl:∀d,o.dst=some d->d<fr.length)(hds:∀d∈ds1,d∈ds)
  (hk:(oW ops fr o=true/\∃v,oV P E (uW F o) H fr o=some v/\(Fp E.gl fr o=true\/m∈ds)/\fr1=pP fr o.dst v)\/(oW ops fr o=false/\fr1=pP fr o.dst oL)):EfT P E F ops (o::os) m fr H f H' es ds:=by
 obtain⟨S,K,ep,Hc,h0,h1,h2,h3,h4,h5,h6,h7,h8⟩:=he;refine⟨fun i=>match i with|0=>fr|i+1=>S i,K,ep,Hc,rfl,h1,h2,h3,h4,h5,fun k hk=>⟨by have:=h6 k hk;omega,by have:=h6 k hk;simp;omega⟩,h7,fun i hi=> ?_⟩;cases i with
 |zero=>
  refine⟨o,rfl,hdl,.inr ⟨fun k hk=>by have:=h6 k hk;omega,?_⟩⟩;rcases hk with⟨w,v,e1,e2,e3⟩|⟨w,e2⟩
  .exact .inl ⟨w,v,0,Nat.zero_le _,fun k hk=>⟨fun q=>by have:=h6 k hk;omega,fun q=>by omega⟩,by rw[h2];exact e1,e2,by show S 0=_;rw[h0];exact e3⟩
  .exact .inr ⟨w,by show S 0=_;rw[h0];exact e2⟩
 |succ i=>
  obtain⟨o',q1,q2,q3⟩:=h8 i (by simpa using hi);refine⟨o',by simpa using q1,q2,?_⟩;rw[show m+(i+1)=m+1+i by omega];rcases q3 with q3|⟨q3,q4⟩
  .exact .inl q3
  .refine .inr ⟨q3,?_⟩;rcases q4 with⟨w,v,q,e1,e2,e3,e4,e5⟩|q4
   .exact .inl ⟨w,v,q,e1,e2,e3,e4.imp id (hds _),e5⟩
   .exact .inr q4
theorem SP:∀(os:fS) (m:Nat) (fr:eY) (H:Hp) (f:eY) (H':Hp) (es ds:fN),IW P E F ops os m fr H=some (f,H',es,ds)->EfT P E F ops os m fr H f H' es ds
 |[],m,fr,H,f,H',es,ds,h=>by
  simp only[IW,aD,aQ]at h;obtain⟨rfl,rfl,rfl,rfl⟩:=h;exact⟨fun _ =>fr,0,fun _ =>0,fun _ =>H,rfl,rfl,rfl,rfl,rfl,fun k hk=>by omega,fun k hk=>by omega,fun k k' _ hk=>by omega,fun i hi=>by simp at hi⟩
 |o::os,m,fr,H,f,H',es,ds,h=>by
  simp only[IW]at h;split at h
  .cases h
  .rename_i hd;have hdl:=zA hd;split at h
   .rename_i hw;split at h
    .rename_i v hv;split at h
     .rename_i f1 H1 es1 ds1 he;simp only[aD,aQ]at h;obtain⟨rfl,rfl,rfl,rfl⟩:=h;refine(SP os (m+1) _ H _ _ _ _ he).plain hdl (fun d hd=> ?_) (.inl ⟨hw,v,hv,?_,rfl⟩)
      .split
       .exact hd
       .exact aJ _ hd
      .by_cases hh:Fp E.gl fr o=true
       .exact .inl hh
       .rw[if_neg hh];exact .inr aR
     .cases h
    .split at h
     .rename_i v H1 hef;split at h
      .rename_i f1 H2 es1 ds1 he;simp only[aD,aQ]at h;obtain⟨rfl,rfl,rfl,rfl⟩:=h;obtain⟨S,K,ep,Hc,h0,h1,h2,h3,h4,h5,h6,h7,h8⟩:=SP os (m+1) _ H1 _ _ _ _ he;refine⟨fun i=>match i with|0=>fr|i+1=>S i,K+1,fun k=>match k with|0=>m|k+1=>ep k,fun k=>match k with|0=>H|k+1=>Hc k,rfl,h1,rfl,h3,by simp[h4],fun k hk=> ?_,fun k hk=> ?_,fun k k' hkk hk=> ?_,fun i hi=> ?_⟩
       .cases k with
        |zero=>rfl|succ k=>exact h5 k (by omega)
       .cases k with
        |zero=>simp|succ k=>have:=h6 k (by omega);simp only[bL];omega
       .cases k with
        |zero=>omega
        |succ k=>
         cases k' with
         |zero=>have:=h6 k (by omega);show m<ep k;omega|succ k'=>exact h7 k k' (by omega) (by omega)
       .cases i with
        |zero=>exact⟨o,rfl,hdl,.inl ⟨0,v,by omega,rfl,hw,by show _ =some (v,Hc 0);rw[h2];exact hef,by show S 0=_;rw[h0]⟩⟩
        |succ i=>
         obtain⟨o',q1,q2,q3⟩:=h8 i (by simpa using hi);refine⟨o',by simpa using q1,q2,?_⟩;rw[show m+(i+1)=m+1+i by omega];rcases q3 with⟨k,v',e1,e2,e3,e4,e5⟩|⟨q3,q4⟩
         .exact .inl ⟨k+1,v',by omega,e2,e3,e4,e5⟩
         .refine .inr ⟨fun k hk=> ?_,?_⟩
          .cases k with
           |zero=>show m≠_;omega|succ k=>exact q3 k (by omega)
          .rcases q4 with⟨w,v',q,e1,e2,e3,e4,e5⟩|q4
           .refine .inl ⟨w,v',q+1,by omega,fun k hk=> ?_,e3,e4,e5⟩;cases k with
            |zero=>exact⟨fun _ =>by omega,fun _ =>by show m<_;omega⟩|succ k=>have:=e2 k (by omega);exact⟨fun q=>by have:=this.1 q;omega,fun q=>this.2 (by omega)⟩
           .exact .inr q4
      .cases h
     .cases h
   .rename_i hw;exact(SP os (m+1) _ H _ _ _ _ h).plain hdl (fun d hd=>hd) (.inr ⟨by simpa using hw,rfl⟩)
theorem aYx{fr:eY}{H:Hp}{s:Fx}(h:FW P E F ops fr H=some s):s.pend=none/\∃(S:gW) (K:Nat) (ep:Nat->Nat) (Hc:Nat->Hp),Yj P E F ops S K ep Hc/\S 0=fr/\S ops.size=s.fr/\Hc 0=H/\Hc K=s.H:=by
 unfold FW at h;split at h
 .rename_i f H' es ds he;split at h
  .rename_i hc;cases h;simp only[Cj,aA,aG]at hc;obtain⟨hc1,hc2⟩:=hc;obtain⟨S,K,ep,Hc,h0,h1,h2,h3,h4,h5,h6,h7,h8⟩:=SP (P:=P) (E:=E) (F:=F) (ops:=ops) ops.toList 0 fr H f H' es ds he;have hmem:∀k,k<K->ep k∈es:=fun k hk=>bB (h5 k hk);refine⟨rfl,S,K,ep,Hc,⟨fun i hi=> ?_,fun k hk=>by have:=h6 k hk;simpa using this.2,fun k k' hkk hk=> ?_⟩,h0,by simpa using h1,h2,h3⟩
   .obtain⟨o,q1,q2,q3⟩:=h8 i (by simpa using hi);refine⟨o,by simpa using q1,q2,?_⟩;rw[bN]at q3;rcases q3 with q3|⟨q3,q4⟩
    .exact .inl q3
    .refine .inr ⟨q3,?_⟩;rcases q4 with⟨w,v,q,e1,e2,e3,e4,e5⟩|q4
     .refine .inl ⟨w,v,fun c hcK w1 w2=> ?_,e5⟩;rcases e4 with e4|e4
      .rw[aNj (H':=Hc q) e4];exact e3
      .have hcq:c=q:=by
        rcases Nat.lt_trichotomy c q with z|z|z
        .
         have hck:c<K:=by omega
         have hlt:=(e2 c hck).2 z;have hp:=hc2 _ e4 _ (hmem c hck);rw[if_pos (by simp[Nat.blt];omega)]at hp;have:=w1 c hck hp;omega
        .exact z
        .have hck:q<K:=by omega
         have hge:¬ep q<i:=fun hh=>by have:=(e2 q hck).1 hh;omega
         have hp:=hc2 _ e4 _ (hmem q hck);rw[if_neg (by simp[Nat.blt];omega)]at hp;have:=w2 q hck hp;omega
       subst hcq;exact e3
     .exact .inr q4
   .have hlt:=h7 k k' hkk hk;have:=hc1 _ (hmem k hk) _ (hmem k' (by omega));simp only[bG,bM]at this;have hb:Nat.blt (ep k') (ep k)=true:=by simp[Nat.blt];omega
    rcases this with q|q
    .rw[hb]at q;cases q
    .exact q
  .cases h
 .cases h
theorem aMr(hE:tP P E.gl E.pe)(hF:rG P E.gl F.ee)(hok:uU ops=true){fr:eY}{H:Hp}{s:Fx}(he:FW P E F ops fr H=some s){g:G}{a:Act}(hi:Inv P E g H g a ⟨fr,H,none⟩)
  {Q:fF} (hQ:∀a' g',Inv P E g H g' a' ⟨s.fr,s.H,none⟩->Q .normal a' g'.w):wpAny P .any ops Q ops.size (Array.replicate ops.size false) a {g.w with drawn:=g.w.drawn+1}:=by
 obtain⟨_,S,K,ep,Hc,htr,e0,e1,e2,e3⟩:=aYx he
 let gd:G:={g with w:={g.w with drawn:=g.w.drawn+1}}
 have hp:PStep g gd:=⟨rfl,rfl,rfl,aZ _,fun _ _ =>rfl,fun _ h=>h,fun _ h=> .inl h,rfl,rfl,rfl⟩;have hcnt:RZ (Array.replicate ops.size false)=ops.size:=by simp[RZ]
 have nold:∀i,¬Ld (Array.replicate ops.size false) i:=fun i hl=>by
  unfold Ld at hl;by_cases q:i<ops.size<;>simp[q]at hl
 refine Jv (g0:=g) (H0:=H) hE hF hok htr (fun a' g' h'=>hQ a' g' (by rw[<-e1,<-e3];exact h')) ops.size _ a gd 0 ?_ hcnt;have hfr:RdL g a.tmps.toList fr:=hi.fr.all;refine⟨by simp,fun i o ho hl=>absurd hl (nold i),hi.ok,Nat.zero_le _,fun k hk=>⟨fun q=>absurd q (nold _),fun q=>by omega⟩,by rw[e2];exact hi.st.pstep hp,by rw[e2];exact hp.toS,hi.gl.pstep hp,hi.df,by rw[e0];have:=hfr.1;simpa using this,?_⟩;intro t i v c hi' h1 h2 hv hcc;have hno:∀j o,j<i->ops[j]? =some o->o.dst≠some t:=fun j o hj ho hdd=>absurd (h1 j o hj ho hdd) (nold j);have:=htr.same (t:=t) i 0 (by omega) (fun j o _ hj ho=>hno j o (by omega) ho);rw[bN]at this;rw[this,e0]at hcc;exact(hfr.pstep hp).2 t v c (by simpa using hv) hcc
end
end
end Go.Ps
namespace Go.Ps
noncomputable section
open Go.RowKit
section
variable(P:fA)(E:tW)(ee:fE)(yd:fG)(ow:fX)(n:Nat)(ro:gD)
def CG(ops:fC):List Oper->Fx->Option Fx
 |[],s=>some s
 |o::r,s=>match(if s.pend.isNone&&oW ops s.fr o then vX E.gl s.fr o else none)with
  |some (l,ars)=>match yd l ars s.H with
   |some (b,H')=>CG ops r ⟨pP s.fr o.dst (.bool b),H',none⟩|none=>none
  |none=>match qU P E (xY ow ee) ops s o with
   |some s'=>CG ops r s'|none=>none
def UU(l:Nat)(fr:eY)(H:Hp):Option (X×List T×Hp):=KB H l fun r=>match r.st with
 | .busy=>none
 |_ =>match r.pe with
  |none=>some (.normal,fr,H.drop l)|some (.exit id)=>some (.exit id,fr,H.drop l)|some .ret=>some (.ret,fr,H.drop l)|_ =>none
def pD:Code->List T->Hp->Option (X×List T×Hp)
 | .skip,fr,H| .label _,fr,H=>some (.normal,fr,H)
 | .region id ops draw,fr,H=>
  match(if draw then yH P E (xY ow ee) ops (ow (9000000+id)) fr H else CG P E ee yd ow ops ops.toList ⟨fr,H,none⟩)with
  |some ⟨fr',H',none⟩=>some (.normal,fr',H')|_ =>none
 | .seq a b,fr,H=>match pD a fr H with
  |some (.normal,fr',H')=>pD b fr' H'|r=>r
 | .cond c a b,fr,H=>match pE E.gl fr c with
  |some (.bool t)=>if t then pD a fr H else pD b fr H
  |_ =>none
 | .block id c,fr,H=>match pD c fr H with
  |some (.exit id',fr',H')=>if id'=id then some (.normal,fr',H')else some (.exit id',fr',H')
  |r=>r
 | .loop c,fr,H=>oP.loopN (fun fr H=>pD c fr H) n fr H
 | .rangeFunc g ps asg bd,fr,H=>match pE E.gl fr g with
  | some (.fn (.func gf) [] cap)=>if Hh H ro then match ee gf (.yl H.next::cap) (H.new (yK ⟨.ready,none,FT.of fr 0 .nl,fr.length,ps,asg,bd,ow⟩))with
    |some (_,H2)=>UU H.next fr H2|none=>none
   else none
  |_ =>none
 | .exit id,fr,H=>some (.exit id,fr,H)| .ret,fr,H=>some (.ret,fr,H)|_,_,_ =>none
def sK:Code->Bool
 | .region _ ops draw=>sQ ops&&(!draw||uU ops)| .seq a b| .cond _ a b=>sK a&&sK b| .block _ c| .loop c=>sK c| .rangeFunc _ _ asg bd=>sK asg&&sK bd| .skip| .label _ | .exit _ | .ret=>true|_ =>false
def Hj(l:Nat)(r:Lr)(fr:eY)(H:Hp):Option (Bool×Hp):=KB H l fun r1=>match r1.st with
 | .ready=>match pD P E ee yd r.ow n (some l) r.bd fr (H.put l (yK {r1 with st:= .busy}))with
  |some (x,_,H2)=>HF l H2 x|none=>none
 |_ =>none
def HD(l:Nat)(args:eY)(H:Hp):Option (Bool×Hp):=KB H l fun r=>
 if args.length=r.ps.size/\sK r.asg=true/\sK r.bd=true then match pD P E ee yd r.ow n (some l) r.asg (BZ r.ps.toList args (r.fr.view r.n)) H with
  |some (.normal,fr1,H1)=>Hj P E ee yd n l r fr1 H1|_ =>none
 else none
def Vk(f:fT)(args:eY)(H:Hp):Option (T×Hp):=
 match P.funcs[f]? with
 |some fn=>match fn.body with
  |some c=>match pD P E ee yd ow n none c (args++List.replicate (fn.ntmps-args.length) oL) H with
   |some (.normal,fr,H')|some (.ret,fr,H')=>match rL P fr H' fn.results.toList with
    |some [t]=>some (t,H')|some ts=>some (.tup ts,H')|none=>none
   |_ =>none
  |none=>none
 |none=>none
def zD(f:fT):Bool:=match P.funcs[f]? with
 |some fn=>match fn.body with
  |some c=>sK c|none=>false
 |none=>false
end
def ZU(f:fT)(ts:eY)(H:Hp):Option (T×Hp):=if f=123 then LN 135 ts H else if f=79 then ZT 135 5 ts H else none
structure Rf2 where
 ee:FuncId->List T->Hp->Option (T×Hp)
 yd:Nat->List T->Hp->Option (Bool×Hp)
abbrev gJ:=FuncId->Tmp->Bool
abbrev fZ:=FuncId->Bool
def tJ(P:fA)(E:tW)(own:gJ)(ok:fZ)(n:Nat):Nat->Rf2
 |0=>⟨fun _ _ _ =>none,fun _ _ _ =>none⟩|d+1=>⟨fun f ts H=>if ok f then Vk P E (tJ P E own ok n d).ee (tJ P E own ok n d).yd (own f) n f ts H else ZU f ts H,fun l ts H=>HD P E (tJ P E own ok n d).ee (tJ P E own ok n d).yd n l ts H⟩
section
variable{P:fA}{E:tW}{ee:fE}{yd:fG}{ow:fX}{n:Nat}
theorem aFp(hF:rG P E.gl ee)(ow:fX):rG P E.gl (xY ow ee).ee:=by rw[EG];exact hF
theorem Ib(hE:tP P E.gl E.pe)(hF:rG P E.gl ee)(hY:NQ P E.gl yd){ops:fC}(hp:sQ ops=true){Q:fF}(hno:∀a w,¬Q .outgrown a w){ro:gD}{m:Nat}{ds:gE}:
  ∀(l:fS) (k:Nat) (s s':Fx) (g0:G) (H0:Hp),(∀j,l[j]? =ops[k+j]?)->CG P E ee yd ow ops l s=some s'->∀(g:G) (a:Act),Inv P E g0 H0 g a s->(∀a' g',Inv P E g0 H0 g' a' s'->Q .normal (DS ds a') g'.w)->wpOpsIn (Fw ro) m P ops Q (List.range' k l.length) (DS ds a) g.w
 |[],k,s,s',g0,H0,_,h,g,a,hi,hQ=>by
  cases(show some s=some s' from h);exact hQ a g hi
 |o::l,k,s,s',g0,H0,hl,h,g,a,hi,hQ=>by
  have h0:ops[k]? =some o:=by simpa using(hl 0).symm
  have hl':∀j,l[j]? =ops[k+1+j]? :=fun j=>by have:=hl (j+1);simpa [dG,Nat.add_comm 1 j]using this
  rw[bL,eJ,wpOpsIn_cons];simp only[CG]at h;split at h
  .rename_i l1 ars hq;split at hq
   .rename_i hcond;simp only[aA]at hcond;obtain⟨hpn,hw⟩:=hcond;have hpn:s.pend=none:=by simpa using hpn
    split at h
    .rename_i b H1 hy;have hci:pN E g0 H0 g a s.fr s.H:=⟨hi.ok,hi.st,hi.gl,hi.df,CJ.all (by have:=hi.fr;rw[hpn]at this;exact this),hi.step⟩;have hc':pN (AD E.gl) g0 H0 g a s.fr s.H:=pN.cast (E:=E) (E':=AD E.gl) rfl hci;refine Pj hY hp h0 hq hy hw hc' (fun g' hc2 hs=> ?_);have hc3:pN E g0 H0 g' (a.put o.dst (.bool b)) (pP s.fr o.dst (.bool b)) H1:=pN.cast (E:=AD E.gl) (E':=E) rfl hc2;exact Ib hE hF hY hp hno l (k+1) _ s' g0 H0 hl' h g' _ ⟨hc3.ok,hc3.st,hc3.gl,hc3.df,CJ.of hc3.fr none,fun d t q=>(by cases q),hc3.step⟩ hQ
    .cases h
   .cases hq
  .split at h
   .rename_i s1 hs1;have h1:=NH (P:=P) (E:=E) (F:=xY ow ee) (g0:=g0) (H0:=H0) (Q:=fun e a w=>Q e (DS ds a) w) hE (aFp hF ow) hi hs1 h0 (K:=fun a' w'=>∃g',g'.w=w'/\Inv P E g0 H0 g' a' s1) (fun a' g' h'=>⟨g',rfl,h'⟩);refine IU hp hno (fun a' w' ⟨g',e,h'⟩=> ?_) h1;rw[<-e];exact Ib hE hF hY hp hno l (k+1) s1 s' g0 H0 hl' h g' a' h' hQ
   .cases h
theorem Qs{l:Nat}{fr:eY}{H:Hp}{x:X}{fr':eY}{H':Hp}(h:UU l fr H=some (x,fr',H'))(tr:FT):fr'=fr/\aFb l tr H=some [(x,tr,H')]:=by
 obtain⟨o,rc,h1,h2,h3⟩:=uO h;unfold aFb KB;simp only[h1,h2,wW];split at h3
 .cases h3
 .rename_i hb;split at h3
  .rename_i hp;cases h3;refine⟨rfl,?_⟩;simp only[hp]
   try(split<;>first|rfl|(rename_i e;exact absurd e hb))
  .rename_i id hp;cases h3;refine⟨rfl,?_⟩;simp only[hp]
   try(split<;>first|rfl|(rename_i e;exact absurd e hb))
  .rename_i hp;cases h3;refine⟨rfl,?_⟩;simp only[hp]
   try(split<;>first|rfl|(rename_i e;exact absurd e hb))
  .cases h3
theorem UJ(hm:P.follows .mixedOrders=true)(hE:tP P E.gl E.pe)(hF:rG P E.gl ee)(hY:NQ P E.gl yd){n:Nat}{ro:gD}{m:Nat}{g0:G}{H0:Hp}(hro:∀l,ro=some l->g0.al l):
  ∀(c:Code) (fr:eY) (H:Hp) (x:X) (fr':eY) (H':Hp),sK c=true->pD P E ee yd ow n ro c fr H=some (x,fr',H')->∀(g:G) (a:Act) (ds:gE),pN E g0 H0 g a fr H->Mk g0 g H ds->
   ∀(Q:fF),(∀a w,¬Q .outgrown a w)->(∀a' g' ds',pN E g0 H0 g' a' fr' H'->Mk g0 g' H' ds'->Q x.exit_ (DS ds' a') g'.w)->c.wpIn (Fw (ro.map g0.loc)) m P Q (DS ds a) g.w:=by
 intro c
 induction c with
 |skip=>
  intro fr H x fr' H' _ he g a ds hc hd Q hno hQ;simp only[pD,aD,aQ]at he;obtain⟨rfl,rfl,rfl⟩:=he;exact wpIn_skip (hQ a g ds hc hd)
 |label l=>
  intro fr H x fr' H' _ he g a ds hc hd Q hno hQ;simp only[pD,aD,aQ]at he;obtain⟨rfl,rfl,rfl⟩:=he;exact wpIn_label (hQ a g ds hc hd)
 |exit id=>
  intro fr H x fr' H' _ he g a ds hc hd Q hno hQ;simp only[pD,aD,aQ]at he;obtain⟨rfl,rfl,rfl⟩:=he;exact wpIn_exit (hQ a g ds hc hd)
 |ret=>
  intro fr H x fr' H' _ he g a ds hc hd Q hno hQ;simp only[pD,aD,aQ]at he;obtain⟨rfl,rfl,rfl⟩:=he;exact wpIn_ret (hQ a g ds hc hd)
 |region id ops draw=>
  intro fr H x fr' H' hok he g a ds hc hd Q hno hQ;simp only[sK,aA]at hok;simp only[pD]at he;cases draw with
  |true=>
   simp only[if_true]at he;split at he
   .rename_i f1 h1 hr;cases he;unfold yH at hr;split at hr
    .exact wpIn_region_any hm (NL hok.1 hno _ _ _ _ (aMr (Q:=fun e a w=>Q e (DS ds a) w) hE (aFp hF ow) (by simpa using hok.2) hr hc.self.toInv (fun a' g' hi=>hQ a' g' ds (hi.toC hc.step rfl) (hd.sstep hi.step))))
    .exact QD (draw:=true) hm hE (aFp hF ow) hok.1 (fun _ =>by simpa using hok.2) ((if_pos rfl).trans hr) hc.self hno (fun a' g' hc'=>hQ a' g' ds (hc.based hc') (hd.sstep hc'.step))
   .cases he
  |false=>
   simp only[bA,if_false]at he;split at he
   .rename_i f1 h1 hr;cases he;have:=Ib (ro:=ro.map g0.loc) (m:=m) (ds:=ds) hE hF hY hok.1 hno ops.toList 0 _ _ g H (fun j=>by simp) hr g a hc.toInv (fun a' g' hi=>hQ a' g' ds (hi.toC hc.step rfl) (hd.sstep hi.step));rw[cQ,<-List.range_eq_range']at this;exact wpIn_region this
   .cases he
 |seq c1 c2 ih1 ih2=>
  intro fr H x fr' H' hok he g a ds hc hd Q hno hQ;simp only[sK,aA]at hok;simp only[pD]at he;refine wpIn_seq ?_;split at he
  .rename_i f1 h1 hr;exact ih1 _ _ _ _ _ hok.1 hr g a ds hc hd _ (tU hno) (fun a' g' ds' hc' hd'=>ih2 _ _ _ _ _ hok.2 he g' a' ds' hc' hd' Q hno hQ)
  .rename_i hr;refine ih1 _ _ _ _ _ hok.1 he g a ds hc hd _ (tU hno) (fun a' g' ds' hc' hd'=> ?_);cases x with
   |normal=>exact absurd he (hr _ _)|exit id=>exact hQ a' g' ds' hc' hd'|ret=>exact hQ a' g' ds' hc' hd'
 |cond o c1 c2 ih1 ih2=>
  intro fr H x fr' H' hok he g a ds hc hd Q hno hQ;simp only[sK,aA]at hok;simp only[pD]at he;split at he
  .rename_i b hb;have hr:=(CJ.of hc.fr none).eval hc.gl (fun _ _ =>by simp) hb;refine wpIn_cond (t:=b) (show(DS ds a).eval o= .bool b from hr.inv_bool) ?_;cases b with
   |true=>exact ih1 _ _ _ _ _ hok.1 (by simpa using he) g a ds hc hd Q hno hQ|false=>exact ih2 _ _ _ _ _ hok.2 (by simpa using he) g a ds hc hd Q hno hQ
  .cases he
 |block id c ih=>
  intro fr H x fr' H' hok he g a ds hc hd Q hno hQ;simp only[sK]at hok;simp only[pD]at he;refine wpIn_block ?_;have hnb:∀a w,¬Exit.inBlock id Q .outgrown a w:=fun a w h=>hno a w h;split at he
  .rename_i id' f1 h1 hr;refine ih _ _ _ _ _ hok hr g a ds hc hd _ hnb (fun a' g' ds' hc' hd'=> ?_);simp only[X.exit_,Exit.inBlock];split at he
   .rename_i e;cases he;rw[if_pos e];exact hQ a' g' ds' hc' hd'
   .rename_i e;cases he;rw[if_neg e];exact hQ a' g' ds' hc' hd'
  .rename_i hr;refine ih _ _ _ _ _ hok he g a ds hc hd _ hnb (fun a' g' ds' hc' hd'=> ?_);cases x with
   |normal=>exact hQ a' g' ds' hc' hd'|exit id'=>exact absurd he (hr _ _ _)|ret=>exact hQ a' g' ds' hc' hd'
 |loop c ih=>
  intro fr H x fr' H' hok he g a ds hc hd Q hno hQ;simp only[sK]at hok;simp only[pD]at he;refine wpIn_loop_rounds n ?_;have key:∀(k:Nat) (fr:eY) (H:Hp) (g:G) (a:Act) (ds:gE),oP.loopN (fun fr H=>pD P E ee yd ow n ro c fr H) k fr H=some (x,fr',H')->pN E g0 H0 g a fr H->Mk g0 g H ds->Code.roundsIn (Fw (ro.map g0.loc)) m P c Q k (DS ds a) g.w:=by
   intro k
   induction k with
   |zero=>intro fr H g a ds h;simp[oP.loopN]at h
   |succ k ihk=>
    intro fr H g a ds h hc hd;simp only[oP.loopN]at h;rw[roundsIn_succ];split at h
    .rename_i f1 h1 hr;exact ih _ _ _ _ _ hok hr g a ds hc hd _ (tU hno) (fun a' g' ds' hc' hd'=>ihk f1 h1 g' a' ds' h hc' hd')
    .rename_i hr;refine ih _ _ _ _ _ hok h g a ds hc hd _ (tU hno) (fun a' g' ds' hc' hd'=> ?_);cases x with
     |normal=>exact absurd h (hr _ _)|exit id=>exact hQ a' g' ds' hc' hd'|ret=>exact hQ a' g' ds' hc' hd'
  exact key n fr H g a ds he hc hd
 |rangeFunc gv ps a_s bd _ _ =>
  intro fr H x fr' H' hok he g a ds hc hd Q hno hQ;simp only[pD]at he;split at he
  .rename_i gf cap hg;split at he
   .rename_i hrok;split at he
    .rename_i v H2 hcall;obtain⟨e1,e2⟩:=WQ (n:=fr.length) (fr:=fr) rfl;obtain⟨rfl,hend⟩:=Qs he (FT.of fr 0 .nl);refine XD (n:=fr'.length) hF hro e2 (by rw[e1];exact hg) hrok hcall hend (by rw[e1];exact pN.cast (E:=E) (E':=AD E.gl) rfl hc) hd (fun p hp a' g' ds' hc' hw' hd'=> ?_);cases bF.1 hp;refine hQ a' g' ds' ?_ hd';have:=pN.cast (E:=AD E.gl) (E':=E) rfl hc'
     rwa [e1]at this
    .cases he
   .cases he
  .cases he
 |_ =>
  intro fr H x fr' H' hok;simp[sK]at hok
theorem aAz(hm:P.follows .mixedOrders=true)(hE:tP P E.gl E.pe)(hF:rG P E.gl ee)(hY:NQ P E.gl yd){n:Nat}:NQ P E.gl (fun l ts H=>HD P E ee yd n l ts H):=by
 intro l ts H b H' h g vs hok hst hgl hv;obtain⟨o,rc,ho,hme,h⟩:=uO h;split at h
 .rename_i hc;obtain⟨c1,c2,c3⟩:=hc;split at h
  .rename_i fr1 H1 h1;obtain⟨hal,fn,tmps,D,hb,hr,hw⟩:=EP hst ho hme;have hsz:vs.toArray.size=rc.ps.size:=by rw[List.size_toArray,hv.1,c1]
   refine⟨fn,_,rc.asg,rc.bd,run_yield (P:=P) (args:=vs.toArray) hb hsz,roundIn_of_wpIn (F:=Fw none) trivial ?_⟩;show rc.asg.wpIn (Fw ((some l).map g.loc)) 0 P _ _ g.w;rw[YO];have hci:pN E g H g {tmps:=(rc.ps.toList.zip vs).foldl (fun t p=>t.setIfInBounds p.1 p.2) tmps,defers:=[]} (BZ rc.ps.toList ts (rc.fr.view rc.n)) H:=
    ⟨hok,hst,hgl,rfl,XU _ _ _ _ _ hv hr,oX.refl H g⟩
   have hro:∀l',some l=some l'->g.al l':=fun l' e=>by cases e;exact hal
   rw[<-wT {tmps:=(rc.ps.toList.zip vs).foldl (fun t p=>t.setIfInBounds p.1 p.2) tmps,defers:=[]}];refine UJ hm hE hF hY hro rc.asg _ _ _ _ _ c2 h1 g _ [] hci Mk.none _ (fun a w h=>h) (fun a1 g1 ds1 hc1 hd1=> ?_);obtain⟨o1,r1,ho1,hm1,h⟩:=uO h;split at h
   .rename_i hrd;split at h
    .rename_i x2 fr2 H2 h2;obtain⟨_,fn1,tmps1,D1,hb1,hr1,hw1'⟩:=EP hc1.st ho1 hm1;have hl1:g1.loc l=g.loc l:=hc1.step.loc l hal;obtain⟨g2,hg2⟩:∃g2:G,g2=g1.setOb (g1.loc l) (.loop {state:= .busy,pending:=r1.pe,fn:=fn1,tmps:=tmps1,params:=r1.ps,assign:=r1.asg,body:=r1.bd,defers:=D1}):=⟨_,rfl⟩;have hs2:oX H1 g1 (H1.put l (yK {r1 with st:= .busy})) g2:=by rw[hg2];exact vS ho1 _ _
     have hst2:St g2 (H1.put l (yK {r1 with st:= .busy})):=by rw[hg2];exact DU hc1.st ho1 rfl ⟨fn1,tmps1,D1,rfl,hr1,hw1'⟩
     have hok2:qP g2:=by rw[hg2];exact DT hc1.ok _ _
     have hw2:g1.w.putObj (g1.loc l) (.loop {state:= .busy,pending:=r1.pe,fn:=fn1,tmps:=tmps1,params:=r1.ps,assign:=r1.asg,body:=r1.bd,defers:=D1})=g2.w:=by rw[hg2];rfl
     have hbr:=run_beginRound (P:=P) hb1 hrd;rw[hw2,hl1]at hbr;refine⟨g2.w,hbr,?_⟩;have hc2:pN E g H g2 a1 fr1 (H1.put l (yK {r1 with st:= .busy})):=⟨hok2,hst2,hc1.gl.sstep hc1.st hs2,hc1.df,hc1.fr.sstep hc1.st hs2,hc1.step.trans hs2⟩
     exact UJ hm hE hF hY hro rc.bd _ _ _ _ _ c3 h2 g2 a1 ds1 hc2 (hd1.sstep hs2) _ (fun a w h=>h) (fun a3 g3 ds3 hc3 hd3=>by
      have:=Cw (P:=P) (pN.cast (E:=E) (E':=AD E.gl) rfl hc3) hal h;cases x2 with
      |normal=>exact this|exit id=>exact this|ret=>exact this)
    .cases h
   .cases h
  .cases h
 .cases h
theorem aTo(hm:P.follows .mixedOrders=true)(hE:tP P E.gl E.pe)(hF:rG P E.gl ee)(hY:NQ P E.gl yd){n:Nat}{f:fT}(hwf:zD P f=true){ts:eY}{H H':Hp}{r:T}(he:Vk P E ee yd ow n f ts H=some (r,H'))
  (g:G) (vs:fM) (hg:qP g) (hs:St g H) (hgl:GlOk E.gl g) (hv:RdL g vs ts):
  Calls P f vs.toArray g.w fun e w'=>∃v g',e= .returned v/\g'.w=w'/\oX H g H' g'/\qP g'/\St g' H'/\Rd g' v r:=by
 unfold Vk at he;unfold zD at hwf;split at he
 .rename_i fn hfn;rw[hfn]at hwf;simp only at hwf;split at he
  .rename_i c hc;rw[hc]at hwf;simp only at hwf;have hframe:RdL g (vs.toArray++Array.replicate (fn.ntmps-vs.toArray.size) undef).toList (ts++List.replicate (fn.ntmps-ts.length) oL):=by
    have:(vs.toArray++Array.replicate (fn.ntmps-vs.toArray.size) undef).toList=vs++List.replicate (fn.ntmps-ts.length) undef:=by simp[hv.1]
    rw[this];exact hv.append (RdL.replicate _ Rd.undef)
   have hci:pN E g H g {tmps:=vs.toArray++Array.replicate (fn.ntmps-vs.toArray.size) undef,defers:=[]} (ts++List.replicate (fn.ntmps-ts.length) oL) H:=⟨hg,hs,hgl,rfl,hframe,oX.refl H g⟩
   have fin:∀(fr:eY) (H1:Hp),(match rL P fr H1 fn.results.toList with
     |some [t]=>some (t,H1)|some ts=>some (.tup ts,H1)|none=>none)=some (r,H')->∀(a':Act) (g':G),pN E g H g' a' fr H1->LeavesIn (Fw none) 0 P fn a'.tmps (fun e w'=>∃v g',e= .returned v/\g'.w=w'/\oX H g H' g'/\qP g'/\St g' H'/\Rd g' v r) [] .returning g'.w:=by
    intro fr H1 hr a' g' hci;have hH:H1=H':=by
     split at hr
     .cases hr;rfl
     .cases hr;rfl
     .cases hr
    subst hH;show∃v,_;have er:fn.results=fn.results.toList.toArray:=by simp
    split at hr
    .rename_i t ht;cases hr;obtain⟨us,h1,h2⟩:=uR (P:=P) hci.st hci.fr ht
     match us,h2 with
     |[u],h2=>
      refine⟨u,?_,u,g',rfl,rfl,hci.step,hci.ok,hci.st,(h2.inv_cons).1⟩;rw[tH,er,dA];simp only[aO,eH];rw[h1];simp
     |[],h2=>simp[RdL]at h2|_ ::_ ::_,h2=>simp[RdL]at h2
    .rename_i ts' hne ht;cases hr;obtain⟨us,h1,h2⟩:=uR (P:=P) hci.st hci.fr ht;refine⟨.tuple us.toArray,?_,_,g',rfl,rfl,hci.step,hci.ok,hci.st,Rd.mk_tup h2⟩;rw[tH,er,dA];simp only[aO,eH];rw[h1];have hl:us.length≠1:=fun q=>by
      rw[h2.1]at q;obtain⟨t,rfl⟩:=eG.1 q;exact hne t rfl
     simp[hl]
    .cases hr
   refine sW.1 (callsIn_of_wp_marks (F:=Fw none) (n:=0) hfn hc trivial ?_ rfl)
   have key:∀(x:X) (fr:eY) (H1:Hp),(x= .normal\/x= .ret)->pD P E ee yd ow n none c (ts++List.replicate (fn.ntmps-ts.length) oL) H=some (x,fr,H1)->(match rL P fr H1 fn.results.toList with
     |some [t]=>some (t,H1)|some ts=>some (.tup ts,H1)|none=>none)=some (r,H')->c.wpIn (Fw none) 0 P (bodyPostM (Fw none) 0 P fn (fun e w'=>∃(v:fP) (g':G),e= .returned v/\g'.w=w'/\oX H g H' g'/\qP g'/\St g' H'/\Rd g' v r)) {tmps:=vs.toArray++Array.replicate (fn.ntmps-vs.toArray.size) undef,defers:=[]} g.w:=by
    intro x fr H1 hx hev hr;have:=UJ (ro:=none) (m:=0) (g0:=g) (H0:=H) hm hE hF hY (fun l e=>(by cases e)) c _ _ _ _ _ hwf hev g _ [] hci Mk.none (fun e a w=>e≠ .outgrown/\bodyPostM (Fw none) 0 P fn (fun e w'=>∃(v:fP) (g':G),e= .returned v/\g'.w=w'/\oX H g H' g'/\qP g'/\St g' H'/\Rd g' v r) e a w)
     (fun a w h=>h.1 rfl) (fun a' g' ds hci' hd'=>by
      have hl:LeavesInM (Fw none) 0 P fn (DS ds a').tmps (fun e w'=>∃(v:fP) (g':G),e= .returned v/\g'.w=w'/\oX H g H' g'/\qP g'/\St g' H'/\Rd g' v r) (DS ds a').defers .returning g'.w:=by
       have e:(DS ds a').defers=ds:=by simp[DS,hci'.df]
       rw[e];exact zW (fun g2 h2=>fin fr H1 hr a' g2 h2) ds g' hci' hd'
      rcases hx with rfl|rfl
      .exact⟨by simp[X.exit_],hl⟩
      .exact⟨by simp[X.exit_],hl⟩)
    rw[wT]at this;exact wpIn_mono this (fun e a w h=>h.2)
   split at he
   .rename_i fr H1 hev;exact key .normal fr H1 (.inl rfl) hev he
   .rename_i fr H1 hev;exact key .ret fr H1 (.inr rfl) hev he
   .cases he
  .cases he
 .cases he
theorem Xj(hm:P.follows .mixedOrders=true)(hE:tP P E.gl E.pe)(hx:rG P E.gl ZU){own:gJ}{ok:fZ}(hok:∀f,ok f=true->tY P f=true/\zD P f=true){n:Nat}:∀d,rG P E.gl (tJ P E own ok n d).ee/\NQ P E.gl (tJ P E own ok n d).yd
 |0=>⟨fun _ _ _ _ _ h=>(by cases h),fun _ _ _ _ _ h=>(by cases h)⟩
 |d+1=>by
  obtain⟨h1,h2⟩:=Xj hm hE hx hok (own:=own) (n:=n) d;refine⟨fun f ts H r H' h=> ?_,aAz hm hE h1 h2⟩;simp only[tJ]at h;split at h
  .rename_i hf;exact⟨(hok f hf).1,fun g vs hg hs hgl hv=>aTo hm hE h1 h2 (hok f hf).2 h g vs hg hs hgl hv⟩
  .exact hx f ts H r H' h
end
end
end Go.Ps
namespace Go.Proofs.Tryz
open Go.Shelf
def BU:Go.Shelf.Ren:=⟨fun|156=>42|165=>77|166=>78|169=>79|240=>123|241=>124|276=>183|277=>184|n=>n,fun|31=>90|9=>9|3=>3|4=>4|0=>0|20=>20|72=>135|76=>139|70=>133|37=>128|75=>138|127=>197|164=>252|5=>5|80=>141|n=>n,fun|n=>n⟩
theorem Wj:Go.Proofs.Lays.n156 prog BU:={
 mixed:=by kernel_rfl
 f156:=func42.trans (congrArg some (by kernel_rfl))
 f165:=func77.trans (congrArg some (by kernel_rfl))
 f166:=func78.trans (congrArg some (by kernel_rfl))
 f169:=func79.trans (congrArg some (by kernel_rfl))
 f240:=func123.trans (congrArg some (by kernel_rfl))
 f241:=func124.trans (congrArg some (by kernel_rfl))
 f276:=func183.trans (congrArg some (by kernel_rfl))
 f277:=func184.trans (congrArg some (by kernel_rfl))
 t0:=underlying0
 a0:=isAgg0
 z0:=sizeOf0
 v0:=zeroValue0
 t3:=underlying3
 a3:=isAgg3
 z3:=sizeOf3
 v3:=zeroValue3
 t4:=underlying4
 a4:=isAgg4
 z4:=sizeOf4
 v4:=zeroValue4
 t9:=underlying9
 a9:=isAgg9
 z9:=sizeOf9
 v9:=zeroValue9
 t20:=underlying20
 a20:=isAgg20
 z20:=sizeOf20
 v20:=zeroValue20
 t31:=underlying90
 a31:=isAgg90
 z31:=sizeOf90
 v31:=zeroValue90
 t37:=underlying128
 a37:=isAgg128
 z37:=sizeOf128
 v37:=zeroValue128
 t70:=underlying133
 a70:=isAgg133
 z70:=sizeOf133
 v70:=zeroValue133
 t72:=underlying135
 a72:=isAgg135
 z72:=sizeOf135
 v72:=zeroValue135
 t75:=underlying138
 a75:=isAgg138
 z75:=sizeOf138
 v75:=zeroValue138
 t76:=underlying139
 a76:=isAgg139
 z76:=sizeOf139
 v76:=zeroValue139
 t127:=underlying197
 a127:=isAgg197
 z127:=sizeOf197
 v127:=zeroValue197
 t164:=underlying252
 a164:=isAgg252
 z164:=sizeOf252
 v164:=zeroValue252}
theorem BM:Builder.Extra prog BU:={
 sizeBuilder:=by kernel_rfl
 liesBuilder:=by kernel_rfl
 t5:=underlying5
 a5:=isAgg5
 z5:=sizeOf5
 v5:=zeroValue5
 infoByte:=by kernel_rfl
 cellsByte:=by kernel_rfl
 sizeByte:=by kernel_rfl
 neB5:=by decide}
open Go.Ps
theorem aWo(gl:fD):rG prog gl ZU:=by
 intro f ts H r H' h;unfold ZU at h;by_cases h1:f=123
 .rw[if_pos h1]at h;subst h1;exact aMi (gl:=gl) (ρ:=BU) {Wj with} BM.toX72 (by kernel_rfl) h
 .rw[if_neg h1]at h;by_cases h2:f=79
  .rw[if_pos h2]at h;subst h2;exact aWe (gl:=gl) (ρ:=BU) {Wj with} BM (by kernel_rfl) h
  .rw[if_neg h2]at h;cases h
end Go.Proofs.Tryz
namespace Go.Proofs.Tryz
open Go.Ps Go.RowKit
theorem aIs{m:Int}{te:eX}(s:fV)(c:Nat)(hc:c<=9223372036854775807)(hl:s.length*c<=140737488355328):oK prog (glZ m te) 312 [.str s,.int .i64 c] (.str (Lib.repeatL s c)):=by
 refine AQ (by kernel_rfl) fun g vs hgl hv=> ?_
 match vs,hv with
 |[v,u],hv=>
  have e1:=AC (hv.inv_cons).1;have h2:=((hv.inv_cons).2.inv_cons).1;subst e1;generalize hx:T.int .i64 (c:Int)=x at h2;cases h2<;>cases hx;refine⟨.string ⟨(Lib.repeatL s c).toArray⟩,fun g'=> ?_,?_⟩
  rotate_left
  .have hsz:(⟨s.toArray⟩:ByteArray).size*c<=140737488355328:=by show s.toArray.size*c<=_;simpa using hl
   exact Any.strings_Repeat aOa KT ⟨s.toArray⟩ c g.w hc hsz
  .have:=Rd.str (g:=g') ⟨(Lib.repeatL s c).toArray⟩;simpa using this
 |[],hv=>have:=hv.1;simp at this|[_],hv=>have:=hv.1;simp at this|_ ::_ ::_ ::_,hv=>have:=hv.1;simp at this
def Yz(s:fV):Int:=(Lib.decodeGo ⟨s.toArray⟩).1
def Za(s:fV):Int:=(Lib.decodeGo ⟨s.toArray⟩).2
theorem Zb{m:Int}{te:eX}(s:fV):oK prog (glZ m te) 261 [.str s] (.tup [.int .i32 (Yz s),.int .i64 (Za s)]):=by
 refine AQ (by kernel_rfl) fun g vs hgl hv=> ?_
 match vs,hv with
 |[v],hv=>
  have e1:=AC (hv.inv_cons).1;subst e1;refine⟨.tuple #[.int .i32 (Yz s),.int .i64 (Za s)],fun g'=> ?_,?_⟩
  rotate_left
  .exact Any.utf8_DecodeRuneInString aOe ⟨s.toArray⟩ g.w (aKa hgl)
  .refine .tup _ [_,_] rfl (fun j v c hv hc=> ?_)
   match j with
   |0=>simp at hv hc;subst hv;subst hc;exact .int _ _|1=>simp at hv hc;subst hv;subst hc;exact .int _ _|k+2=>simp at hv
 |[],hv=>have:=hv.1;simp at this|_ ::_ ::_,hv=>have:=hv.1;simp at this
theorem aTc(s:fV)(h:1<=s.length):0<=Yz s/\Yz s<=1114111/\1<=Za s/\Za s<=4:=by
 have hsz:(⟨s.toArray⟩:ByteArray).size=s.length:=by show s.toArray.size=_;simp
 unfold Yz Za Lib.decodeGo;rw[if_neg (by omega)];have h1:=Lib.width_pos ⟨s.toArray⟩ 0;have h2:(Utf8.decode ⟨s.toArray⟩ 0).2<=4/\(Utf8.decode ⟨s.toArray⟩ 0).1<=1114111:=by
  rw[Lib.decode_at];refine⟨?_,Lib.decodeN_rune_le _ _ _ _ _ (UInt8.toNat_lt _)⟩;unfold Lib.decodeN
  repeat' split
  all_goals simp
 omega
end Go.Proofs.Tryz
namespace Go.Proofs.Tryz
namespace Cal
def bfZ(y:Int):Int:=365*(y-1)+(y-1).tdiv 4-(y-1).tdiv 100+(y-1).tdiv 400
def leap(y:Int):Bool:=decide (y.tmod 4=0)&&(decide (y.tmod 100≠0)||decide (y.tmod 400=0))
theorem bf_one:bfZ 1=0:=by decide
theorem tdiv_nn{a b:Int}(h:0<=a):a.tdiv b=a/b:=Int.tdiv_eq_ediv_of_nonneg h
theorem aPy{a b:Int}(h:0<=a):a.tmod b=a%b:=Int.tmod_eq_emod_of_nonneg h
theorem bf_nn{y:Int}(h:1<=y)(h2:y<=10000):0<=bfZ y/\bfZ y<=4000000:=by
 unfold bfZ;rw[tdiv_nn (by omega),tdiv_nn (by omega),tdiv_nn (by omega)];omega
theorem bf_succ{y:Int}(h:1<=y):bfZ (y+1)=bfZ y+(if leap y then 366 else 365):=by
 unfold bfZ leap;simp only[tdiv_nn (show(0:Int)<=y+1-1 by omega),tdiv_nn (show(0:Int)<=y-1 by omega),aPy (show(0:Int)<=y by omega)];have h4:(y+1-1)/4=(y-1)/4+(if y%4=0 then 1 else 0):=by split<;>omega
 have h100:(y+1-1)/100=(y-1)/100+(if y%100=0 then 1 else 0):=by split<;>omega
 have h400:(y+1-1)/400=(y-1)/400+(if y%400=0 then 1 else 0):=by split<;>omega
 rw[h4,h100,h400];by_cases c4:y%4=0<;>by_cases c100:y%100=0<;>by_cases c400:y%400=0<;>simp only[c4,c100,c400,decide_true,decide_false,if_true,if_false,bC,Bool.true_and,Bool.and_false,Bool.false_and,Bool.or_true,Bool.or_false,ne_eq,not_true,not_false_eq_true,bA]<;>omega
theorem bf_start{n:Int}(h:0<=n)(h2:n<=3652058):n<bfZ (min (n/365+1) 9999+1):=by
 unfold bfZ;rw[tdiv_nn (by omega),tdiv_nn (by omega),tdiv_nn (by omega)];omega
def remL(l:Bool)(k:Int):Int:=
 if k<=1 then(if l then 366 else 365)else if k<=2 then(if l then 335 else 334)else if k<=3 then 306 else if k<=4 then 275 else if k<=5 then 245 else if k<=6 then 214 else if k<=7 then 184
 else if k<=8 then 153 else if k<=9 then 122 else if k<=10 then 92 else if k<=11 then 61 else if k<=12 then 31 else 0
def mdL(l:Bool)(k:Int):Int:=if k=2 then(if l then 29 else 28)else if k=4\/k=6\/k=9\/k=11 then 30 else 31
theorem rem_step{l:Bool}{k:Int}(h:1<=k)(h2:k<=12):remL l k=mdL l k+remL l (k+1):=by
 have:k=1\/k=2\/k=3\/k=4\/k=5\/k=6\/k=7\/k=8\/k=9\/k=10\/k=11\/k=12:=by omega
 rcases this with rfl|rfl|rfl|rfl|rfl|rfl|rfl|rfl|rfl|rfl|rfl|rfl<;>cases l<;>decide
theorem rem_one(l:Bool):remL l 1=if l then 366 else 365:=by simp[remL]
theorem rem_end(l:Bool){k:Int}(h:13<=k):remL l k=0:=by
 unfold remL;simp only[if_neg (show¬k<=1 by omega),if_neg (show¬k<=2 by omega),if_neg (show¬k<=3 by omega),if_neg (show¬k<=4 by omega),if_neg (show¬k<=5 by omega),if_neg (show¬k<=6 by omega),if_neg (show¬k<=7 by omega),if_neg (show¬k<=8 by omega),if_neg (show¬k<=9 by omega),if_neg (show¬k<=10 by omega),if_neg (show¬k<=11 by omega),if_neg (show¬k<=12 by omega)]
end Cal
end Go.Proofs.Tryz
namespace Go.Proofs.Tryz
open Go.Ps
noncomputable section
def pb(p:Prop):Bool:= @decide p (Classical.propDecidable p)
theorem pT{p:Prop}:pb p=true↔p:=by unfold pb;simp
def F0:Fc:=⟨fun _ =>false,fun _ _ _ =>none⟩
def DZ(m:Int)(te:eX):Ed:=⟨glZ m te,fun _ _ _ =>none⟩
theorem cxZ(m:Int)(te:eX):Cx prog (DZ m te) F0:=⟨follows,rM,qV⟩
def aVg:List T:=(List.range 13).map fun i=>T.int .i64 (10^i:Nat)
theorem aWn:rG prog Vp (fun _ _ _ =>none):=fun f ts H r H' h=>by cases h
theorem Rx:aGa ((Hl prog Vp (fun _ _ _ =>none) 100 30).ee 342 [] ⟨0,.nl⟩)=some (.agg aVg):=by kernel_rfl
theorem aAp(m:Int)(te:eX):oK prog (glZ m te) 342 [] (.agg aVg):=Mv (Mw follows aGe aWn Rx)
abbrev mxN:Int:=999999999999999
def pB(n:Int):Int:=if n<IntKind.i64.wrap (0-n)then IntKind.i64.wrap (0-n)else n
def yY(n s:Int):Int:=if pB n>mxN\/n< -mxN\/s<0\/s>12 then 2 else 0
def aBd:List T->Option (T×List Bool)
 |[.int .i64 n]=>some (.int .i64 (pB n),[])|_ =>none
def aPk:List T->Option (T×List Bool)
 |[.agg [.int .i64 n,.int .i64 s]]=>some (.int .i64 (yY n s),[])|_ =>none
def YS(n a b:Int):Bool:=decide (a<=n)&&decide (n<=b)
def aBe:List T->Option (T×List Bool)
 |[.int .i64 n,.int .i64 a,.int .i64 b]=>some (.bool (YS n a b),[])|_ =>none
def SY(y:Int):Bool:=YS y 1 9999&&Cal.leap y
def bEh:List T->Option (T×List Bool)
 |[.int .i64 y]=>some (.bool (SY y),[])|_ =>none
def bEf:List T->Option (T×List Bool)
 |[.int .i64 y]=>some (.int .i64 (Cal.bfZ y),[decide (1<=y),decide (y<=10000)])|_ =>none
def bEg:List T->Option (T×List Bool)
 |[.int .i64 y,.int .i64 k]=>some (.int .i64 (Cal.mdL (SY y) k),[decide (1<=k),decide (k<=12)])|_ =>none
def s40:List T->Option (T×List Bool)
 |[.int .i64 n]=>some (.str (oU n),[decide (-9223372036854775808<=n),decide (n<=9223372036854775807)])|_ =>none
def bEe:List T->Option (T×List Bool)
 |[.str s,.int .i64 n]=>some (.str (Lib.repeatL s n.toNat),[decide (0<=n),decide (n<=100),decide (s.length<=1)])|_ =>none
def DP(m:Int)(te:eX):Ed:=⟨glZ m te,qG 329 aBe (qG 295 aBd (fun _ _ _ =>none))⟩
def DQ(m:Int)(te:eX):Ed:=⟨glZ m te,qG 345 bEh (qG 301 aPk (qG 329 aBe (qG 295 aBd (fun _ _ _ =>none))))⟩
def DR(m:Int)(te:eX):Ed:=⟨glZ m te,qG 330 bEf (qG 331 bEg (qG 312 bEe (qG 40 s40 (qG 301 aPk (qG 329 aBe (qG 295 aBd (fun _ _ _ =>none)))))))⟩
end
end Go.Proofs.Tryz
namespace Go.Proofs.Tryz
open Go.Ps
noncomputable section
structure L4 where
 a0:T
 a1:T
 a2:T
 a3:T
 a4:T
 b0:T
 b1:T
 b2:T
 b3:T
 b4:T
 c0:T
 c1:T
 c2:T
 c3:T
 c4:T
 c5:T
 c6:T
 c7:T
 c8:T
 c9:T
 d0:T
 d1:T
 d2:T
 d3:T
 d4:T
 d5:T
 d6:T
 d7:T
 d8:T
 d9:T
 e0:T
 e1:T
 e2:T
 r:Bool
def L4.s(q:L4):T:= .agg [q.b0,q.b1,q.b2,q.b3,q.b4]
def L4.n(q:L4):T:= .agg [q.d0,q.d1,q.d2,q.d3,q.d4,q.d5,q.d6,q.d7,q.d8,q.d9]
def c1s(f:fT)(m:Int)(te:eX)(x r:T):List T->Option (T×List Bool)
 |[y]=>some (r,[pb (y=x),pb (oK prog (glZ m te) f [x] r)])|_ =>none
def c2s(f:fT)(m:Int)(te:eX)(x z r:T):List T->Option (T×List Bool)
 |[y,u]=>some (r,[pb (y=x),pb (u=z),pb (oK prog (glZ m te) f [x,z] r)])|_ =>none
def s9:List T->Option (T×List Bool)
 |[]=>some (.bool true,[])|_ =>none
theorem aDz{f:fT}{m:Int}{te:eX}{x r:T}{ts:eY}{r':T}{cs:fL}(h:c1s f m te x r ts=some (r',cs))(hc:oQ cs=true):oK prog (glZ m te) f ts r':=by
 unfold c1s at h;split at h
 .cases h;simp only[oQ,bC,aA,pT]at hc;rw[hc.1];exact hc.2
 .cases h
theorem aSv{f:fT}{m:Int}{te:eX}{x z r:T}{ts:eY}{r':T}{cs:fL}(h:c2s f m te x z r ts=some (r',cs))(hc:oQ cs=true):oK prog (glZ m te) f ts r':=by
 unfold c2s at h;split at h
 .cases h;simp only[oQ,bC,aA,pT]at hc;rw[hc.1,hc.2.1];exact hc.2.2
 .cases h
end
end Go.Proofs.Tryz
namespace Go.Proofs.Tryz
open Go.Ps
noncomputable section
structure Lr where
 e:Int
 np:Nat
 p:Nat->T
 ms:Int
 no:Nat
 o:Nat->T
 b:Vl
 node:List UInt8
 text:List UInt8
 ver:Int
def Lr.m(y:Lr):List T:=[.int .i64 y.e,.slf false y.np y.p,.int .i64 y.ms,.slf false y.no y.o,.int .i64 y.b.kind,.int .i64 y.b.int,.int .i64 y.b.scale,.str y.b.text,.slf false y.b.n y.b.list,.slf false y.b.m y.b.fld]
def Lr.c(y:Lr):List T:=[.int .i64 y.e,.slf false y.np y.p,.int .i64 y.ms,.slf false y.no y.o,.int .i64 y.b.kind,.int .i64 y.b.int,.int .i64 y.b.scale,.str y.b.text,.slf false y.b.n y.b.list,.slf false y.b.m y.b.fld,.str y.node,.str y.text,.int .i64 y.ver]
abbrev hD:=Nat->Lr
def xZ(w:hD)(i:Nat):T:= .agg (w i).c
def Gi(n:Nat)(w:hD):T:= .agg [.int .i64 0,.int .i64 0,.int .i64 0,.nils,.nils,.nils,.nils,.slf false n fun i=>xZ w i]
structure Fl where
 nd:List UInt8
 rs:List UInt8
 fr:Int
 till:Int
 fl:Bool
 k:Nat
 u:Nat->T
def xG(a:Fl):T:= .agg [.str a.nd,.str a.rs,.int .i64 a.fr,.int .i64 a.till,.slf a.fl a.k a.u]
def YW(m:Int)(te:eX)(f y:T):Bool:=pb (oK prog (glZ m te) 13 [f,y] (.bool true)/\oK prog (glZ m te) 14 [f,y] (.bool true))
def s13(m:Int)(te:eX)(f:T):List T->Option (T×List Bool)
 |[x,y]=>some (.bool (YW m te f y),[pb (x=f),pb (oK prog (glZ m te) 13 [f,y] (.bool (YW m te f y)))])|_ =>none
def D63(m:Int)(te:eX)(f:T):Ed:=⟨glZ m te,qG 13 (s13 m te f) (fun _ _ _ =>none)⟩
def aFz(l:Nat)(a:Fl)(n:Nat)(w:hD)(g:iC)(i:Int):List T:=
 (List.range 23).map fun c=>cond (Nat.beq c 0) (.fn (.yield l) [] []) (cond (Nat.beq c 1) (.ref (Gi n w) 0) (cond (Nat.beq c 2) (.ref (xG a) 0) (cond (Nat.beq c 7) (.slf false n fun i=>xZ w i) (cond (Nat.beq c 8) (.int .i64 n) (cond (Nat.beq c 9) (.int .i64 i) (g c))))))
noncomputable def b63:Code:=match oZ f63 with
 | .seq _ (.block _ (.loop c))=>c|c=>c
def yX:RD YR->Option (X×KX×List X)
 | .ok ((x,_,o),st) _ _ =>some (x,o,st.map Prod.fst)|_ =>none
def yFr:RD YR->List T
 | .ok ((_,fr,_),_) _ _ =>fr|_ =>[]
def Ph:RD YR->List Bool
 | .ok _ _ log=>log|_ =>[false]
section
variable(m:Int)(te:eX)(l:Nat)(a:Fl)(n:Nat)(w:hD)(g:iC)(i:Int)
def Pn(ds:fL):RD YR:=xI prog (D63 m te (xG a)) F0 b63 (aFz l a n w g i) ds []
abbrev dsT:List Bool:=[true,true,true,true,true,true,true,true,true,false]
abbrev dsF:List Bool:=[true,false,false,false,false,false,false]
theorem bOa:yX (Pn m te l a n w g i dsT)=some (.normal,[.y (l,[xZ w i.toNat])],[.ret]):=by kernel_rfl
theorem bNy:yX (Pn m te l a n w g i dsF)=some (.normal,[],[]):=by kernel_rfl
theorem bNx:yX (Pn m te l a n w g i [false])=some (.exit 0,[],[]):=by kernel_rfl
theorem bLb:Ph (Pn m te l a n w g i dsT)=[true,true]++List.replicate 7 (YW m te (xG a) (xZ w i.toNat))++[pb (xG a=xG a),pb (oK prog (glZ m te) 13 [xG a,xZ w i.toNat] (.bool (YW m te (xG a) (xZ w i.toNat)))),true,true,decide (0<=i),decide (i<n),true,decide (i<n)]:=by kernel_rfl
theorem bKz:Ph (Pn m te l a n w g i dsF)=[true]++List.replicate 5 (!YW m te (xG a) (xZ w i.toNat))++[pb (xG a=xG a),pb (oK prog (glZ m te) 13 [xG a,xZ w i.toNat] (.bool (YW m te (xG a) (xZ w i.toNat)))),true,true,decide (0<=i),decide (i<n),true,decide (i<n)]:=by kernel_rfl
theorem bKy:Ph (Pn m te l a n w g i [false])=[!decide (i<n)]:=by kernel_rfl
theorem bIl:yFr (Pn m te l a n w g i dsT)=aFz l a n w (fun c=>qW (yFr (Pn m te l a n w g i dsT)) c) (IntKind.i64.wrap (i+1)):=by kernel_rfl
theorem bIi:yFr (Pn m te l a n w g i dsF)=aFz l a n w (fun c=>qW (yFr (Pn m te l a n w g i dsF)) c) (IntKind.i64.wrap (i+1)):=by kernel_rfl
theorem Yh{R:RD YR}{x:X}{o:KX}{s:List X}(h:yX R=some (x,o,s)):∃st ds,R= .ok ((x,yFr R,o),st) ds (Ph R)/\st.map Prod.fst=s:=by
 unfold yX at h;split at h
 .cases h;exact⟨_,_,rfl,rfl⟩
 .cases h
end
def SF(b:hX):Nat->Nat->List Nat
 |0,_ =>[]|k+1,j=>if b j then j::SF b k (j+1)else SF b k (j+1)
section
variable{m:Int}{te:eX}{l:Nat}{a:Fl}{n:Nat}{w:hD}
structure Ls(m:Int)(te:eX)(a:Fl)(n:Nat)(w:hD):Prop where
 le:n<=12
 p:∀j,j<n->oK prog (glZ m te) 13 [xG a,xZ w j] (.bool (YW m te (xG a) (xZ w j)))
theorem bLg(hL:Ls m te a n w)(N e:Nat):∀(k j:Nat) (g:iC),j+k=n->∃fr st,MG (uZ prog (D63 m te (xG a)).env F0 noY N b63) (k+1+e) (aFz l a n w g j)=
  some ((.exit 0,fr,(SF (fun i=>YW m te (xG a) (xZ w i)) k j).map fun i=> .y (l,[xZ w i])),st)/\∀q∈st,q.1= .ret:=by
 have hx:=hL.le;intro k
 induction k with
 |zero=>
  intro j g hj;obtain⟨st,ds,h1,h2⟩:=Yh (bNx m te l a n w g j);have hlog:oQ (Ph (Pn m te l a n w g j [false]))=true:=by
   rw[bKy];simp[oQ];omega
  obtain⟨q1,_⟩:=HQ (n:=N) h1 hlog;have hst:st=[]:=List.map_eq_nil_iff.1 h2;subst hst;refine⟨yFr (Pn m te l a n w g j [false]),[],?_,by simp⟩;rw[show 0+1+e=e+1 by omega];simp only[MG,q1,List.all_nil,if_true];rfl
 |succ k ih=>
  intro j g hj;have hjn:j<n:=by omega
  have hp:=hL.p j hjn;have hw:IntKind.i64.wrap ((j:Int)+1)=((j+1:Nat):Int):=by rw[IntKind.wrap_i64];omega
  by_cases hb:YW m te (xG a) (xZ w j)=true
  .obtain⟨st,ds,h1,h2⟩:=Yh (bOa m te l a n w g j);have hlog:oQ (Ph (Pn m te l a n w g j dsT))=true:=by
    rw[bLb];simp only[Int.toNat_natCast];rw[hb]at hp⊢;simp[oQ,pT,hp,hjn]
   obtain⟨q1,_⟩:=HQ (n:=N) h1 hlog;rw[bIl,hw]at q1;obtain⟨fr,st',h3,h4⟩:=ih (j+1) (fun c=>qW (yFr (Pn m te l a n w g j dsT)) c) (by omega);refine⟨fr,st++st',?_,fun q hq=> ?_⟩
   .rw[show k+1+1+e=(k+1+e)+1 by omega];have hall:(st.all fun q=> !q.1.isN)=true:=by
     rw[aG];intro q hq;have:q.1∈st.map Prod.fst:=dI hq;rw[h2]at this;simp at this;rw[this];rfl
    simp only[MG,q1,hall,if_true,h3];simp[SF,hb]
   .rcases bZ.1 hq with hq|hq
    .have:q.1∈st.map Prod.fst:=dI hq;rw[h2]at this;simpa using this
    .exact h4 q hq
  .have hb:YW m te (xG a) (xZ w j)=false:=by simpa using hb
   obtain⟨st,ds,h1,h2⟩:=Yh (bNy m te l a n w g j);have hlog:oQ (Ph (Pn m te l a n w g j dsF))=true:=by
    rw[bKz];simp only[Int.toNat_natCast];rw[hb]at hp⊢;simp[oQ,pT,hp,hjn]
   obtain⟨q1,_⟩:=HQ (n:=N) h1 hlog;rw[bIi,hw]at q1;have hst:st=[]:=List.map_eq_nil_iff.1 h2;subst hst;obtain⟨fr,st',h3,h4⟩:=ih (j+1) (fun c=>qW (yFr (Pn m te l a n w g j dsF)) c) (by omega);refine⟨fr,st',?_,h4⟩;rw[show k+1+1+e=(k+1+e)+1 by omega];simp only[MG,q1,List.all_nil,if_true,h3];simp[SF,hb]
noncomputable def a63:Code:=match oZ f63 with
 | .seq a _ =>a|c=>c
theorem e63:oZ f63= .seq a63 (.block 0 (.loop b63)):=by kernel_rfl
def QY(a:Fl)(n:Nat)(w:hD):List T:=[.ref (Gi n w) 0,.ref (xG a) 0]
def q63(m:Int)(te:eX)(l:Nat)(a:Fl)(n:Nat)(w:hD):RD YR:=xI prog (D63 m te (xG a)) F0 a63 (([.fn (.yield l) [] []]++QY a n w)++List.replicate 20 oL) [] []
theorem bNz(m:Int)(te:eX)(l:Nat)(a:Fl)(n:Nat)(w:hD):yX (q63 m te l a n w)=some (.normal,[],[]):=by kernel_rfl
theorem bLa(m:Int)(te:eX)(l:Nat)(a:Fl)(n:Nat)(w:hD):oQ (Ph (q63 m te l a n w))=true:=by kernel_rfl
theorem bIk(m:Int)(te:eX)(l:Nat)(a:Fl)(n:Nat)(w:hD):yFr (q63 m te l a n w)=aFz l a n w (fun c=>qW (yFr (q63 m te l a n w)) c) (0:Nat):=by kernel_rfl
theorem bHz(m:Int)(te:eX)(a:Fl):Cx prog (D63 m te (xG a)) F0:=by
 refine⟨follows,?_,qV⟩;refine pM rM fun ts r cs h hc=> ?_;unfold s13 at h;split at h
 .cases h;simp only[oQ,bC,aA,pT]at hc;rw[hc.1];exact hc.2
 .cases h
theorem bKw(hL:Ls m te a n w):Pt prog (glZ m te) 63 (QY a n w) ((SF (fun i=>YW m te (xG a) (xZ w i)) n 0).map fun i=>[xZ w i]):=by
 refine aPn fun l=> ?_;have x:=bHz m te a;obtain⟨st0,ds0,h1,h2⟩:=Yh (bNz m te l a n w);obtain⟨q1,_⟩:=HQ (n:=20) h1 (bLa m te l a n w);have hst:st0=[]:=List.map_eq_nil_iff.1 h2;subst hst;rw[bIk]at q1;have hx:=hL.le;obtain⟨fr,st,h3,h4⟩:=bLg (l:=l) hL 20 (19-n) n 0 (fun c=>qW (yFr (q63 m te l a n w)) c) (by omega);rw[show n+1+(19-n)=20 by omega]at h3;have he:vZ prog (D63 m te (xG a)).env F0 noY 20 63 ([.fn (.yield l) [] []]++QY a n w)=
   some ((.tup [],(SF (fun i=>YW m te (xG a) (xZ w i)) n 0).map fun i=> .y (l,[xZ w i])),st.map fun _ => .tup []):=by
  have hm:∀st:List (X×List T),(∀q∈st,q.1= .ret)->vZ.mapO (vZ.endY prog []) (st.map fun q=>(exB 0 q.1,q.2))=some (st.map fun _ => .tup []):=by
   intro st
   induction st with
   |nil=>intro _;rfl
   |cons q r ih=>
    intro hq;have hq1:=hq q (by simp);obtain⟨x,f⟩:=q;simp only at hq1;subst hq1;simp only[cG,vZ.mapO,ih fun q h=>hq q (by simp[h])];rfl
  have hc:uZ prog (D63 m te (xG a)).env F0 noY 20 (oZ f63) (([.fn (.yield l) [] []]++QY a n w)++List.replicate 20 oL)=
    some ((.normal,fr,(SF (fun i=>YW m te (xG a) (xZ w i)) n 0).map fun i=> .y (l,[xZ w i])),st.map fun q=>(exB 0 q.1,q.2)):=by
   rw[e63];simp only[uZ,q1,YD,h3];simp[exB]
  unfold vZ;rw[func63];simp only;rw[show f63.body=some (oZ f63) by kernel_rfl];simp only;rw[show f63.ntmps-([T.fn (.yield l) [] []]++QY a n w).length=20 from rfl,hc,show f63.results.toList=[] by kernel_rfl];simp only;rw[show vZ.endY prog [] (X.normal,fr)=some (.tup [])from rfl];simp only;rw[hm st h4]
 refine⟨_,_,.tup [],aTr (L:=l) x.hm x.hE x.hF (by kernel_rfl) (by kernel_rfl) he (fun t ht=> ?_) (fun q hq=> ?_),?_,?_⟩
 .obtain⟨_,_,rfl⟩:=bU.1 ht;rfl
 .obtain⟨_,_,rfl⟩:=bU.1 hq;rfl
 .have:∀s:List Nat,(vals (s.map fun i=>Tq.y (l,[xZ w i]))).map Prod.snd=s.map fun i=>[xZ w i]:=by
   intro s
   induction s with
   |nil=>rfl|cons i s ih=>simp only[cG,vals,Tq.vals];simp[ih]
  exact this _
 .have:∀s:List Nat,∀q∈vals (s.map fun i=>Tq.y (l,[xZ w i])),q.1=l:=by
   intro s
   induction s with
   |nil=>intro q hq;simp[vals]at hq
   |cons i s ih=>
    intro q hq;simp only[cG,vals,Tq.vals]at hq;rcases bZ.1 hq with h|h
    .simp at h;rw[h]
    .exact ih q h
  exact this _
end
end
end Go.Proofs.Tryz
namespace Go.Proofs.Tryz
open Go.Ps
noncomputable section
def clo(a:Fl)(n:Nat)(w:hD):T:= .fn (.func 63) [] (QY a n w)
def s32(a:Fl)(n:Nat)(w:hD):List T->Option (T×List Bool)
 |[x,y]=>some (clo a n w,[pb (x=Gi n w),pb (y=xG a)])|_ =>none
def s37(m:Int)(te:eX):List T->Option (T×List Bool)
 |[y]=>some (y,[pb (oK prog (glZ m te) 37 [y] y)])|_ =>none
def D17(m:Int)(te:eX)(a:Fl)(n:Nat)(w:hD):Ed:=⟨glZ m te,qG 32 (s32 a n w) (qG 37 (s37 m te) (fun _ _ _ =>none))⟩
def F17:Fc:=⟨fun s=>Nat.beq s 5||Nat.beq s 6,fun _ _ _ =>none⟩
def Tn(k:Nat)(v:hD):List (List T):=(List.range k).map fun j=>[xZ v j]
def aRw(m:Int)(te:eX)(k:Nat)(v:hD):FuncId->List T->Option (List (List T)×List Bool):=fun f cap=>if f=63 then some (Tn k v,[pb (Pt prog (glZ m te) 63 cap (Tn k v))])else none
def r17(m:Int)(te:eX)(a:Fl)(n:Nat)(w:hD)(k:Nat)(v:hD)(ds:fL):RD (X×List T×Hp):=
 xQ prog (D17 m te a n w) F17 (aRw m te k v) 20 40 (oZ f17) ([Gi n w,xG a]++List.replicate 18 oL) ⟨0,.nl⟩ ds []
def aIt(k:Nat)(v:hD):T:=match k with
 |0=> .nils|k+1=> .sl false ((List.range (k+1)).map fun j=>xZ v j)
section
variable(m:Int)(te:eX)(a:Fl)(n:Nat)(w:hD)(v:hD)
def o17(k:Nat):Option (T×List Bool):=Xb prog f17 40 (r17 m te a n w k v [])
def aHc:Nat->Nat->Bool
 |k,0=>pb (Pt prog (glZ m te) 63 (QY a n w) (Tn k v))&&(pb (Gi n w=Gi n w)&&(pb (xG a=xG a)&&true))|k,j+1=>pb (oK prog (glZ m te) 37 [.agg (v j).m] (.agg (v j).m))&&aHc k j
theorem w17:∀k:Nat,k<=12->(o17 m te a n w v k).map (fun q=>(q.1,oQ q.2))=some (aIt k v,aHc m te a n w v k k):=by
 intro n h;rcases n with _ |_ |_ |_ |_ |_ |_ |_ |_ |_ |_ |_ |_ |n<;>first|omega|kernel_rfl
theorem c32:oK prog (glZ m te) 32 [Gi n w,xG a] (clo a n w):=
 pure_ru (cxZ m te) (qL m te) (It:=fun _ _ =>none) (k:=40) (n:=20) (fun f c xs h=>by cases h) (by kernel_rfl) (by kernel_rfl) func32 (c:=oZ f32) (by kernel_rfl) (L:=4) (by kernel_rfl) (by kernel_rfl) (ds:=[]) (log:=[]) (by kernel_rfl) rfl
theorem bHy:Cx prog (D17 m te a n w) F17:=by
 refine⟨follows,?_,qV⟩;refine pM (pM rM fun ts r cs h hc=> ?_) fun ts r cs h hc=> ?_
 .unfold s37 at h;split at h
  .cases h;simp only[oQ,bC,pT]at hc;exact hc
  .cases h
 .unfold s32 at h;split at h
  .cases h;simp only[oQ,bC,aA,pT]at hc;rw[hc.1,hc.2];exact c32 m te a n w
  .cases h
theorem aBg{k:Nat}(hk:k<=12)(hs:Pt prog (glZ m te) 63 (QY a n w) (Tn k v))(h37:∀j,j<k->oK prog (glZ m te) 37 [.agg (v j).m] (.agg (v j).m)):oK prog (glZ m te) 17 [Gi n w,xG a] (aIt k v):=by
 have h:=w17 m te a n w v k hk;rw[aF]at h;obtain⟨⟨r,log⟩,h1,h2⟩:=h;simp only[aQ]at h2;obtain⟨rfl,h2⟩:=h2;have hl:∀j,j<=k->aHc m te a n w v k j=true:=by
  intro j
  induction j with
  |zero=>intro _;simp[aHc,pT,hs]|succ j ih=>intro hj;simp[aHc,pT,h37 j (by omega),ih (by omega)]
 rw[hl k (aZ k)]at h2;refine pure_ru (bHy m te a n w) (qL m te) (It:=aRw m te k v) (k:=40) (n:=20) (fun f c xs h=> ?_) (by kernel_rfl) (by kernel_rfl) func17 (c:=oZ f17) (by kernel_rfl) (L:=18) (by kernel_rfl) (by kernel_rfl) (ds:=[]) h1 h2;unfold itE aRw at h;split at h
 .rename_i ys cs he;split at he
  .rename_i e;cases he;subst e;split at h
   .rename_i hc;cases h;simp only[oQ,bC,pT]at hc;exact⟨by kernel_rfl,hc⟩
   .cases h
  .cases he
 .cases h
end
end
end Go.Proofs.Tryz
namespace Go.Proofs.Tryz
open Go.Ps
noncomputable section
abbrev noI:FuncId->List T->Option (List (List T)×List Bool):=fun _ _ =>none
def u(D:Ed)(F:Fc)(f:Func)(ts:eY)(ds:fL):Option (T×List Bool):=Xb prog f 40 (xQ prog D F noI 20 40 (oZ f) (ts++List.replicate (f.ntmps-ts.length) oL) ⟨0,.nl⟩ ds [])
theorem u_ok{m:Int}{te:eX}{D:Ed}{F:Fc}(x:Cx prog D F)(hg:D.gl=glZ m te){f:fT}{fn:Func}(h1:tY prog f=true)(h2:Kk prog f=true)(hfn:prog.funcs[f]? =some fn)(hb:fn.body=some (oZ fn)){ts:eY}(hts:mapO (pF 40 ⟨0,.nl⟩) ts=some ts){ds:fL}{r:T}{b:Bool}
  (h:(u D F fn ts ds).map (fun q=>(q.1,oQ q.2))=some (r,b)) (hl:b=true):oK prog (glZ m te) f ts r:=by
 rw[aF]at h;obtain⟨⟨r',log⟩,e1,e2⟩:=h;simp only[aQ]at e2;obtain⟨rfl,e3⟩:=e2;rw[hl]at e3;rw[<-hg];exact pure_ru x (hg▸qL m te) (fun f c xs h=>by cases h) h1 h2 hfn hb rfl hts e1 e3
section
variable(m:Int)(te:eX)
theorem bGw(n:Int):oK prog (glZ m te) 243 [.int .i64 n] (.bool false):=by
 have h:=u_ok (cxZ m te) rfl (f:=243) (by kernel_rfl) (by kernel_rfl) func243 (by kernel_rfl) (ts:=[.int .i64 n]) (by kernel_rfl) (ds:=[]) (r:= .bool (n !=n)) (b:=true) (by kernel_rfl) rfl;simpa using h
def bEd:List T->Option (T×List Bool)
 |[.int .i64 n]=>some (.bool false,[])|_ =>none
def DA:Ed:=⟨glZ m te,qG 243 bEd (fun _ _ _ =>none)⟩
theorem cxA:Cx prog (DA m te) F0:=by
 refine⟨follows,pM rM fun ts r cs h hc=> ?_,qV⟩;unfold bEd at h;split at h
 .cases h;exact bGw m te _
 .cases h
theorem bEw(n:Int):oK prog (glZ m te) 162 [.int .i64 n,.int .i64 n] (.int .i64 0):=
 u_ok (cxA m te) rfl (f:=162) (by kernel_rfl) (by kernel_rfl) func162 (by kernel_rfl) (by kernel_rfl) (ds:=[false,false,false,false]) (b:= !decide (n>n)&&(!decide (n<n)&&true)) (by kernel_rfl) (by simp)
theorem Jp:∀a:List UInt8,Lib.compareBytes a a=0
 |[]=>by simp[Lib.compareBytes]
 |x::a=>by
  have:=Jp a;unfold Lib.compareBytes;simp[this]
def s66:List T->Option (T×List Bool)
 |[.str a,.str b]=>some (.int .i64 0,[pb (a=b)])|_ =>none
def sI:List T->Option (T×List Bool)
 |[.int .i64 a,.int .i64 b]=>some (.int .i64 0,[pb (a=b)])|_ =>none
def s35:List T->Option (T×List Bool)
 |[.sl true [.int .i64 0,.int .i64 0]]=>some (.int .i64 0,[])|[.sl true [.int .i64 0,.int .i64 0,.int .i64 0,.int .i64 0,.int .i64 0,.int .i64 0]]=>some (.int .i64 0,[])|_ =>none
theorem aVt{ts:eY}{r:T}{cs:fL}(h:s66 ts=some (r,cs))(hc:oQ cs=true):oK prog (glZ m te) 66 ts r:=by
 unfold s66 at h;split at h
 .rename_i a b;cases h;simp only[oQ,bC,pT]at hc;subst hc;have hp:oK prog (glZ m te) 66 [.str a,.str a] (.int .i64 (Lib.compareBytes a a)):=Mv (Rv (f:=66) (by rfl))
  rwa [Jp]at hp
 .cases h
def DB:Ed:=⟨glZ m te,qG 66 s66 (fun _ _ _ =>none)⟩
theorem cxB:Cx prog (DB m te) F0:=⟨follows,pM rM fun ts r cs h hc=>aVt m te h hc,qV⟩
theorem aYm(a:fV):oK prog (glZ m te) 36 [.str a,.str a] (.int .i64 0):=
 u_ok (cxB m te) rfl (f:=36) (by kernel_rfl) (by kernel_rfl) func36 (by kernel_rfl) (by kernel_rfl) (ds:=[]) (b:=pb (a=a)&&true) (by kernel_rfl) (by simp[pT])
theorem bHm:oK prog (glZ m te) 35 [.sl true [.int .i64 0,.int .i64 0]] (.int .i64 0):=
 u_ok (cxZ m te) rfl (f:=35) (by kernel_rfl) (by kernel_rfl) func35 (by kernel_rfl) (by kernel_rfl) (ds:=[true,false,true,false,false]) (b:=true) (by kernel_rfl) rfl
theorem bHn:oK prog (glZ m te) 35 [.sl true [.int .i64 0,.int .i64 0,.int .i64 0,.int .i64 0,.int .i64 0,.int .i64 0]] (.int .i64 0):=
 u_ok (cxZ m te) rfl (f:=35) (by kernel_rfl) (by kernel_rfl) func35 (by kernel_rfl) (by kernel_rfl) (ds:=[true,false,true,false,true,false,true,false,true,false,true,false,false]) (b:=true) (by kernel_rfl) rfl
theorem aVs{ts:eY}{r:T}{cs:fL}(h:s35 ts=some (r,cs))(hc:oQ cs=true):oK prog (glZ m te) 35 ts r:=by
 unfold s35 at h;split at h
 .cases h;exact bHm m te
 .cases h;exact bHn m te
 .cases h
theorem aJb{f:fT}(hf:∀n:Int,oK prog (glZ m te) f [.int .i64 n,.int .i64 n] (.int .i64 0)){ts:eY}{r:T}{cs:fL}(h:sI ts=some (r,cs))(hc:oQ cs=true):oK prog (glZ m te) f ts r:=by
 unfold sI at h;split at h
 .cases h;simp only[oQ,bC,pT]at hc;subst hc;exact hf _
 .cases h
def DC:Ed:=⟨glZ m te,qG 162 sI (fun _ _ _ =>none)⟩
theorem cxC:Cx prog (DC m te) F0:=⟨follows,pM rM fun ts r cs h hc=>aJb m te (bEw m te) h hc,qV⟩
theorem bGn(n:Int):oK prog (glZ m te) 164 [.int .i64 n,.int .i64 n] (.int .i64 0):=
 u_ok (cxC m te) rfl (f:=164) (by kernel_rfl) (by kernel_rfl) func164 (by kernel_rfl) (by kernel_rfl) (ds:=[]) (b:=pb (n=n)&&true) (by kernel_rfl) (by simp[pT])
def DD:Ed:=⟨glZ m te,qG 164 sI (fun _ _ _ =>none)⟩
theorem cxD:Cx prog (DD m te) F0:=⟨follows,pM rM fun ts r cs h hc=>aJb m te (bGn m te) h hc,qV⟩
def cj(p:hX):Nat->Bool
 |0=>true|k+1=>p k&&cj p k
theorem aEk{p:hX}:∀{k:Nat},(∀j,j<k->p j=true)->cj p k=true
 |0,_ =>rfl|k+1,h=>by simp[cj,h k (by omega),aEk (k:=k) fun j hj=>h j (by omega)]
abbrev gC:=Nat->Int
def GN(n:Nat)(p:gC):T:= .slf false n fun i=> .int .i64 (p i)
def dsC(n:Nat):List Bool:=(List.replicate n [true,false,false]).flatten++[false,false]
theorem bNj(p:gC):∀n:Nat,n<=6->(u (DD m te) F0 f163 [GN n p,GN n p,.fn (.func 164) [] []] (dsC n)).map (fun q=>(q.1,oQ q.2))=some (.int .i64 0,cj (fun j=>pb (p j=p j)) n):=by
 intro n h;rcases n with _ |_ |_ |_ |_ |_ |_ |n<;>first|omega|kernel_rfl
theorem bGm{n:Nat}(hn:n<=6)(p:gC):oK prog (glZ m te) 163 [GN n p,GN n p,.fn (.func 164) [] []] (.int .i64 0):=
 u_ok (cxD m te) rfl (f:=163) (by kernel_rfl) (by kernel_rfl) func163 (by kernel_rfl) (by kernel_rfl) (ds:=dsC n) (bNj m te p n hn) (aEk fun j _ =>pT.2 rfl)
end
end
end Go.Proofs.Tryz
namespace Go.Proofs.Tryz
open Go.Ps
noncomputable section
section
variable(m:Int)(te:eX)
def sR(f:fT)(r:T):List T->Option (T×List Bool)
 |[x,y]=>some (r,[pb (x=y),pb (oK prog (glZ m te) f [x,x] r)])|_ =>none
def sS(f:fT)(r:T):List T->Option (T×List Bool)
 |[x,y,z]=>some (r,[pb (x=y),pb (oK prog (glZ m te) f [x,x,z] r)])|_ =>none
theorem aRj{f:fT}{q:T}{ts:eY}{r:T}{cs:fL}(h:sR m te f q ts=some (r,cs))(hc:oQ cs=true):oK prog (glZ m te) f ts r:=by
 unfold sR at h;split at h
 .cases h;simp only[oQ,bC,aA,pT]at hc;rw[<-hc.1];exact hc.2
 .cases h
theorem bEi{f:fT}{q:T}{ts:eY}{r:T}{cs:fL}(h:sS m te f q ts=some (r,cs))(hc:oQ cs=true):oK prog (glZ m te) f ts r:=by
 unfold sS at h;split at h
 .cases h;simp only[oQ,bC,aA,pT]at hc;rw[<-hc.1];exact hc.2
 .cases h
abbrev zI:T:= .int .i64 0
def DE:Ed:=⟨glZ m te,qG 162 sI (qG 35 s35 (qG 36 (sR m te 36 zI) (qG 163 (sS m te 163 zI) (qG 165 (sS m te 165 zI) (qG 166 (sS m te 166 zI) (qG 112 (sR m te 112 zI) (qG 167 (sR m te 167 zI) (qG 111 (sR m te 111 zI) (qG 69 (sR m te 69 (.bool true)) (qG 70 (sR m te 70 (.bool true)) (qG 71 (sR m te 71 (.bool true)) (qG 38 (sR m te 38 (.bool true)) (fun _ _ _ =>none)))))))))))))⟩
theorem cxE:Cx prog (DE m te) F0:=by
 refine⟨follows,?_,qV⟩;have hr:∀{pd:gM} {f:fT} {q:T},tP prog (glZ m te) (Ed.env ⟨glZ m te,pd⟩).pe->tP prog (glZ m te) (Ed.env ⟨glZ m te,qG f (sR m te f q) pd⟩).pe:=fun h=>pM h fun ts r cs h hc=>aRj m te h hc;have hs:∀{pd:gM} {f:fT} {q:T},tP prog (glZ m te) (Ed.env ⟨glZ m te,pd⟩).pe->tP prog (glZ m te) (Ed.env ⟨glZ m te,qG f (sS m te f q) pd⟩).pe:=fun h=>pM h fun ts r cs h hc=>bEi m te h hc;exact pM (pM (hr (hs (hs (hs (hr (hr (hr (hr (hr (hr (hr rM))))))))))) fun ts r cs h hc=>aVs m te h hc) fun ts r cs h hc=>aJb m te (bEw m te) h hc
theorem uE{f:fT}{fn:Func}(h1:tY prog f=true)(h2:Kk prog f=true)(hfn:prog.funcs[f]? =some fn)(hb:fn.body=some (oZ fn)){ts:eY}(hts:mapO (pF 40 ⟨0,.nl⟩) ts=some ts){ds:fL}{r:T}{b:Bool}
  (h:(Tryz.u (DE m te) F0 fn ts ds).map (fun q=>(q.1,oQ q.2))=some (r,b)) (hl:b=true):oK prog (glZ m te) f ts r:=u_ok (cxE m te) rfl h1 h2 hfn hb hts h hl
def stp(e:Int)(n:Nat)(p:gC):T:= .agg [.int .i64 e,GN n p]
theorem bGk(e:Int){n:Nat}(hn:n<=6)(p:gC):oK prog (glZ m te) 111 [stp e n p,stp e n p] zI:=
 uE m te (by kernel_rfl) (by kernel_rfl) func111 (by kernel_rfl) (by kernel_rfl) (ds:=[]) (b:=pb (GN n p=GN n p)&&(pb (oK prog (glZ m te) 163 [GN n p,GN n p,.fn (.func 164) [] []] zI)&&(pb (e=e)&&true))) (by kernel_rfl) (by simp[pT,bGm m te hn p])
theorem c69(e:Int){n:Nat}(hn:n<=6)(p:gC):oK prog (glZ m te) 69 [stp e n p,stp e n p] (.bool true):=
 uE m te (by kernel_rfl) (by kernel_rfl) func69 (by kernel_rfl) (by kernel_rfl) (ds:=[]) (b:=pb (stp e n p=stp e n p)&&(pb (oK prog (glZ m te) 111 [stp e n p,stp e n p] zI)&&true)) (by kernel_rfl) (by simp[pT,bGk m te e hn p])
def dsQ(n:Nat):List Bool:=[false]++(List.replicate n [true,false]).flatten++[false]
theorem u70(p:gC):∀n:Nat,n<=6->(Tryz.u (DE m te) F0 f70 [GN n p,GN n p] (dsQ n)).map (fun q=>(q.1,oQ q.2))=some (.bool true,cj (fun j=> !(p j !=p j)) n):=by
 intro n h;rcases n with _ |_ |_ |_ |_ |_ |_ |n<;>first|omega|kernel_rfl
theorem c70{n:Nat}(hn:n<=6)(p:gC):oK prog (glZ m te) 70 [GN n p,GN n p] (.bool true):=
 uE m te (by kernel_rfl) (by kernel_rfl) func70 (by kernel_rfl) (by kernel_rfl) (u70 m te p n hn) (aEk fun j _ =>by simp)
def cj2(p q:hX):Nat->Bool
 |0=>true|k+1=>p k&&(q k&&cj2 p q k)
theorem Ep{p q:hX}:∀{k:Nat},(∀j,j<k->p j=true/\q j=true)->cj2 p q k=true
 |0,_ =>rfl|k+1,h=>by simp[cj2,h k (by omega),Ep (k:=k) fun j hj=>h j (by omega)]
def vls(n:Nat)(u:Nat->Vl):T:= .slf false n fun j=>tQ (u j)
abbrev jE:=Nat->Ps.Fd
def fds(n:Nat)(g:jE):T:= .slf false n fun j=>OA (g j)
theorem bNk(u:Nat->Vl):∀n:Nat,n<=6->(Tryz.u (DE m te) F0 f165 [vls n u,vls n u,.fn (.func 112) [] []] (dsC n)).map (fun q=>(q.1,oQ q.2))=some (zI,cj2 (fun j=>pb (tQ (u j)=tQ (u j))) (fun j=>pb (oK prog (glZ m te) 112 [tQ (u j),tQ (u j)] zI)) n):=by
 intro n h;rcases n with _ |_ |_ |_ |_ |_ |_ |n<;>first|omega|kernel_rfl
theorem bNl(g:jE):∀n:Nat,n<=6->(Tryz.u (DE m te) F0 f166 [fds n g,fds n g,.fn (.func 167) [] []] (dsC n)).map (fun q=>(q.1,oQ q.2))=some (zI,cj2 (fun j=>pb (OA (g j)=OA (g j))) (fun j=>pb (oK prog (glZ m te) 167 [OA (g j),OA (g j)] zI)) n):=by
 intro n h;rcases n with _ |_ |_ |_ |_ |_ |_ |n<;>first|omega|kernel_rfl
theorem c167{g:Ps.Fd}(h:oK prog (glZ m te) 112 [tQ g.val,tQ g.val] zI):oK prog (glZ m te) 167 [OA g,OA g] zI:=
 uE m te (by kernel_rfl) (by kernel_rfl) func167 (by kernel_rfl) (by kernel_rfl) (ds:=[]) (b:=pb (tQ g.val=tQ g.val)&&(pb (oK prog (glZ m te) 112 [tQ g.val,tQ g.val] zI)&&(pb (T.str g.name=T.str g.name)&&(pb (oK prog (glZ m te) 36 [.str g.name,.str g.name] zI)&&true)))) (by kernel_rfl) (by simp[pT,h,aYm m te])
def WB:Nat->Vl->Prop
 |0,v=>v.n=0/\v.m=0|d+1,v=>v.n<=6/\v.m<=6/\∃(u:Nat->Vl) (g:jE),v.list=(fun j=>tQ (u j))/\v.fld=(fun j=>OA (g j))/\(∀j,j<v.n->WB d (u j))/\∀j,j<v.m->WB d (g j).val
theorem bEv{v:Vl}(h1:oK prog (glZ m te) 165 [.slf false v.n v.list,.slf false v.n v.list,.fn (.func 112) [] []] zI)(h2:oK prog (glZ m te) 166 [.slf false v.m v.fld,.slf false v.m v.fld,.fn (.func 167) [] []] zI):oK prog (glZ m te) 112 [tQ v,tQ v] zI:=
 uE m te (by kernel_rfl) (by kernel_rfl) func112 (by kernel_rfl) (by kernel_rfl) (ds:=[]) (b:=pb (T.slf false v.m v.fld=T.slf false v.m v.fld)&&(pb (oK prog (glZ m te) 166 [.slf false v.m v.fld,.slf false v.m v.fld,.fn (.func 167) [] []] zI)&&(pb (T.slf false v.n v.list=T.slf false v.n v.list)&&(pb (oK prog (glZ m te) 165 [.slf false v.n v.list,.slf false v.n v.list,.fn (.func 112) [] []] zI)&&(pb (T.str v.text=T.str v.text)&&(pb (oK prog (glZ m te) 36 [.str v.text,.str v.text] zI)&&(pb (v.scale=v.scale)&&(pb (v.int=v.int)&&(pb (v.kind=v.kind)&&true))))))))) (by kernel_rfl) (by simp[pT,h1,h2,aYm m te])
theorem aYu(f:iC):oK prog (glZ m te) 165 [.slf false 0 f,.slf false 0 f,.fn (.func 112) [] []] zI/\oK prog (glZ m te) 166 [.slf false 0 f,.slf false 0 f,.fn (.func 167) [] []] zI:=
 ⟨uE m te (by kernel_rfl) (by kernel_rfl) func165 (by kernel_rfl) (by kernel_rfl) (ds:=dsC 0) (b:=true) (by kernel_rfl) rfl,uE m te (by kernel_rfl) (by kernel_rfl) func166 (by kernel_rfl) (by kernel_rfl) (ds:=dsC 0) (b:=true) (by kernel_rfl) rfl⟩
theorem Eq:∀(d:Nat) (v:Vl),WB d v->oK prog (glZ m te) 112 [tQ v,tQ v] zI
 |0,v,⟨h1,h2⟩=>bEv m te (by rw[h1];exact(aYu m te _).1) (by rw[h2];exact(aYu m te _).2)
 |d+1,v,⟨h1,h2,u,g,h3,h4,h5,h6⟩=>by
  refine bEv m te ?_ ?_
  .rw[h3];exact uE m te (by kernel_rfl) (by kernel_rfl) func165 (by kernel_rfl) (by kernel_rfl) (bNk m te u v.n h1) (Ep fun j hj=>⟨pT.2 rfl,pT.2 (Eq d (u j) (h5 j hj))⟩)
  .rw[h4];exact uE m te (by kernel_rfl) (by kernel_rfl) func166 (by kernel_rfl) (by kernel_rfl) (bNl m te g v.m h2) (Ep fun j hj=>⟨pT.2 rfl,pT.2 (c167 m te (Eq d (g j).val (h6 j hj)))⟩)
theorem bHt{v:Vl}(h:oK prog (glZ m te) 112 [tQ v,tQ v] zI):oK prog (glZ m te) 71 [tQ v,tQ v] (.bool true):=
 uE m te (by kernel_rfl) (by kernel_rfl) func71 (by kernel_rfl) (by kernel_rfl) (ds:=[]) (b:=pb (tQ v=tQ v)&&(pb (oK prog (glZ m te) 112 [tQ v,tQ v] zI)&&true)) (by kernel_rfl) (by simp[pT,h])
structure LB(y:Lr):Prop where
 np:y.np<=6
 no:y.no<=6
 p:∃ps:Nat->Int,y.p=fun i=> .int .i64 (ps i)
 o:∃os:Nat->Int,y.o=fun i=> .int .i64 (os i)
 b:WB 4 y.b
theorem c38{y:Lr}(h69:oK prog (glZ m te) 69 [T.agg [.int .i64 y.e,.slf false y.np y.p],T.agg [.int .i64 y.e,.slf false y.np y.p]] (.bool true))(h70:oK prog (glZ m te) 70 [T.slf false y.no y.o,T.slf false y.no y.o] (.bool true))(h71:oK prog (glZ m te) 71 [tQ y.b,tQ y.b] (.bool true)):oK prog (glZ m te) 38 [T.agg y.m,T.agg y.m] (.bool true):=
 uE m te (by kernel_rfl) (by kernel_rfl) func38 (by kernel_rfl) (by kernel_rfl) (ds:=List.replicate 18 true) (b:=pb (tQ y.b=tQ y.b)&&(pb (oK prog (glZ m te) 71 [tQ y.b,tQ y.b] (.bool true))&&((y.ms==y.ms)&&(pb (T.slf false y.no y.o=T.slf false y.no y.o)&&(pb (oK prog (glZ m te) 70 [T.slf false y.no y.o,T.slf false y.no y.o] (.bool true))&&((y.ms==y.ms)&&((y.ms==y.ms)&&((y.ms==y.ms)&&((y.ms==y.ms)&&((y.ms==y.ms)&&(pb (T.agg [.int .i64 y.e,.slf false y.np y.p]=T.agg [.int .i64 y.e,.slf false y.np y.p])&&(pb (oK prog (glZ m te) 69 [T.agg [.int .i64 y.e,.slf false y.np y.p],T.agg [.int .i64 y.e,.slf false y.np y.p]] (.bool true))&&true)))))))))))) (by kernel_rfl) (by simp[pT,h69,h70,h71])
theorem c18{y:Lr}(h38:oK prog (glZ m te) 38 [T.agg y.m,T.agg y.m] (.bool true)):oK prog (glZ m te) 18 [.agg y.c,.agg y.c] (.bool true):=
 uE m te (by kernel_rfl) (by kernel_rfl) func18 (by kernel_rfl) (by kernel_rfl) (ds:=List.replicate 18 true) (b:=(y.ver==y.ver)&&(pb (T.agg y.m=T.agg y.m)&&(pb (oK prog (glZ m te) 38 [T.agg y.m,T.agg y.m] (.bool true))&&((y.ver==y.ver)&&((y.ver==y.ver)&&((y.ver==y.ver)&&((y.ver==y.ver)&&((y.ver==y.ver)&&((y.text==y.text)&&((y.text==y.text)&&((y.text==y.text)&&((y.text==y.text)&&((y.text==y.text)&&((y.text==y.text)&&((y.node==y.node)&&((y.node==y.node)&&((y.node==y.node)&&((y.node==y.node)&&((y.node==y.node)&&((y.node==y.node)&&true)))))))))))))))))))) (by kernel_rfl) (by simp[pT,h38])
theorem aPl{y:Lr}(h:LB y):oK prog (glZ m te) 18 [.agg y.c,.agg y.c] (.bool true):=by
 obtain⟨ps,hp⟩:=h.p;obtain⟨os,ho⟩:=h.o;refine c18 m te (c38 m te ?_ ?_ (bHt m te (Eq m te 4 y.b h.b)))
 .rw[hp];exact c69 m te y.e h.np ps
 .rw[ho];exact c70 m te h.no os
end
end
end Go.Proofs.Tryz
namespace Go.Proofs.Tryz
noncomputable section
open Go.Ps
def OL(m:Int)(te:eX)(q:Int):List Bool:=[]
def Ub(m:Int)(te:eX)(q:Int):Empty⊕T:=
 (.inr (T.int .i64 (if q<IntKind.i64.wrap (0-q)then IntKind.i64.wrap (0-q)else q)))
def Tt(m:Int)(te:eX)(q:Int):Bool:=
 (oQ (OL m te q))
theorem aCm(m:Int)(te:eX)(q:Int):rE prog f295 20 [] (qC prog (DZ m te) F0 2000 (.code (oZ f295)) [] 0 ([.int .i64 q]++List.replicate 6 oL) ⟨0,.nl⟩ [] [])=FJ (T.int .i64 (if q<IntKind.i64.wrap (0-q)then IntKind.i64.wrap (0-q)else q)) (OL m te q):=by kernel_rfl
theorem aYd(m:Int)(te:eX)(q:Int)(n:Nat){r:T}(hk:Tt m te q=true)(hr:xF.fin n (Ub m te q)=some r):oK prog (glZ m te) 295 [.int .i64 q] r:=
 pure_mach (M:=xF) (fn:=f295) (k:=20) (d:=8) (c:=oZ f295) (cxZ m te) (qL m te) (by kernel_rfl) func295 (by kernel_rfl) rfl (by kernel_rfl) (by kernel_rfl) (L:=6) (by kernel_rfl) qY (fun σ=>σ.elim) ((kD (aCm m te q)) hk _ rfl) hr
def OZ(m:Int)(te:eX)(q a b:Int):List Bool:=let y0:=decide (q>=a);[y0,y0,y0,y0]
def PA(m:Int)(te:eX)(q a b:Int):List Bool:=let y0:=decide (q>=a);[!y0,!y0,!y0,!y0]
def Ud(m:Int)(te:eX)(q a b:Int):Empty⊕T:=
 (if decide (q>=a)then(.inr (T.bool (decide (q<=b))))else(.inr (T.bool false)))
def Tv(m:Int)(te:eX)(q a b:Int):Bool:=
 (if decide (q>=a)then(oQ (OZ m te q a b))else(oQ (PA m te q a b)))
def Xg(m:Int)(te:eX)(q a b:Int)(ds:fL):RD Iw:=qC prog (DZ m te) F0 2000 (.code (oZ f329)) [] 0 ([.int .i64 q,.int .i64 a,.int .i64 b]++List.replicate 12 oL) ⟨0,.nl⟩ ds []
theorem aCy(m:Int)(te:eX)(q a b:Int):rE prog f329 20 [] (Xg m te q a b (bt 4 15))=FJ (T.bool (decide (q<=b))) (OZ m te q a b):=by kernel_rfl
theorem aCz(m:Int)(te:eX)(q a b:Int):rE prog f329 20 [] (Xg m te q a b (bt 4 0))=FJ (T.bool false) (PA m te q a b):=by kernel_rfl
theorem aYj(m:Int)(te:eX)(q a b:Int)(n:Nat){r:T}(hk:Tv m te q a b=true)(hr:xF.fin n (Ud m te q a b)=some r):oK prog (glZ m te) 329 [.int .i64 q,.int .i64 a,.int .i64 b] r:=
 pure_mach (M:=xF) (fn:=f329) (k:=20) (d:=8) (c:=oZ f329) (cxZ m te) (qL m te) (by kernel_rfl) func329 (by kernel_rfl) rfl (by kernel_rfl) (by kernel_rfl) (L:=12) (by kernel_rfl) qY (fun σ=>σ.elim) ((yD (kD (aCy m te q a b)) (kD (aCz m te q a b))) hk _ rfl) hr
def PB(m:Int)(te:eX)(q:Int):List Bool:=[true,true,true]
def Ue(m:Int)(te:eX)(q:Int):Empty⊕T:=
 (.inr (T.int .i64 (IntKind.i64.wrap (IntKind.i64.wrap (IntKind.i64.wrap (IntKind.i64.wrap (365*IntKind.i64.wrap (q-1))+IntKind.i64.wrap ((IntKind.i64.wrap (q-1)).tdiv 4))-IntKind.i64.wrap ((IntKind.i64.wrap (q-1)).tdiv 100))+IntKind.i64.wrap ((IntKind.i64.wrap (q-1)).tdiv 400)))))
def Tx(m:Int)(te:eX)(q:Int):Bool:=
 (oQ (PB m te q))
theorem aDa(m:Int)(te:eX)(q:Int):rE prog f330 20 [] (qC prog (DZ m te) F0 2000 (.code (oZ f330)) [] 0 ([.int .i64 q]++List.replicate 16 oL) ⟨0,.nl⟩ [] [])=FJ (T.int .i64 (IntKind.i64.wrap (IntKind.i64.wrap (IntKind.i64.wrap (IntKind.i64.wrap (365*IntKind.i64.wrap (q-1))+IntKind.i64.wrap ((IntKind.i64.wrap (q-1)).tdiv 4))-IntKind.i64.wrap ((IntKind.i64.wrap (q-1)).tdiv 100))+IntKind.i64.wrap ((IntKind.i64.wrap (q-1)).tdiv 400)))) (PB m te q):=by kernel_rfl
theorem aYk(m:Int)(te:eX)(q:Int)(n:Nat){r:T}(hk:Tx m te q=true)(hr:xF.fin n (Ue m te q)=some r):oK prog (glZ m te) 330 [.int .i64 q] r:=
 pure_mach (M:=xF) (fn:=f330) (k:=20) (d:=8) (c:=oZ f330) (cxZ m te) (qL m te) (by kernel_rfl) func330 (by kernel_rfl) rfl (by kernel_rfl) (by kernel_rfl) (L:=16) (by kernel_rfl) qY (fun σ=>σ.elim) ((kD (aDa m te q)) hk _ rfl) hr
end
end Go.Proofs.Tryz
namespace Go.Proofs.Tryz
open Go.Ps
theorem w64{x:Int}(h1:-9223372036854775808<=x)(h2:x<=9223372036854775807):IntKind.i64.wrap x=x:=by rw[IntKind.wrap_i64];omega
theorem Pu(m:Int)(te:eX)(n:Int):oK prog (glZ m te) 295 [.int .i64 n] (.int .i64 (pB n)):=
 aYd m te n 0 (by unfold Tt OL;rfl) (by unfold Ub;rfl)
theorem aGm(m:Int)(te:eX)(n a b:Int):oK prog (glZ m te) 329 [.int .i64 n,.int .i64 a,.int .i64 b] (.bool (YS n a b)):=by
 refine aYj m te n a b 0 ?_ ?_
 .unfold Tv OZ PA;split<;>simp_all [oQ]
 .unfold Ud YS;by_cases h:a<=n
  .simp[h,xF,uF.fin]
  .simp[h,xF,uF.fin]
theorem aXr(m:Int)(te:eX){y:Int}(h1:1<=y)(h2:y<=10000):oK prog (glZ m te) 330 [.int .i64 y] (.int .i64 (Cal.bfZ y)):=by
 refine aYk m te y 0 (by unfold Tx PB;rfl) ?_;unfold Ue Cal.bfZ;have e1:IntKind.i64.wrap (y-1)=y-1:=w64 (by omega) (by omega);rw[e1];simp only[Cal.tdiv_nn (show(0:Int)<=y-1 by omega)]
 rw[w64 (x:=365*(y-1)) (by omega) (by omega),w64 (x:=(y-1)/4) (by omega) (by omega),w64 (x:=(y-1)/100) (by omega) (by omega),w64 (x:=(y-1)/400) (by omega) (by omega),
  w64 (x:=365*(y-1)+(y-1)/4) (by omega) (by omega),w64 (x:=365*(y-1)+(y-1)/4-(y-1)/100) (by omega) (by omega),w64 (x:=365*(y-1)+(y-1)/4-(y-1)/100+(y-1)/400) (by omega) (by omega)]
 rfl
theorem cxP(m:Int)(te:eX):Cx prog (DP m te) F0:=by
 refine⟨follows,?_,qV⟩;refine pM (pM rM fun ts r cs h hc=> ?_) fun ts r cs h hc=> ?_
 .unfold aBd at h;split at h
  .cases h;exact Pu m te _
  .cases h
 .unfold aBe at h;split at h
  .cases h;exact aGm m te _ _ _
  .cases h
end Go.Proofs.Tryz
namespace Go.Proofs.Tryz
noncomputable section
open Go.Ps
def PK(m:Int)(te:eX)(q s:Int):List Bool:=let y0:=decide (pB q>999999999999999);[!y0,!y0,!y0,!y0]
def PL(m:Int)(te:eX)(q s:Int):List Bool:=let y0:=decide (q< -999999999999999);(!y0)::(!y0)::(!y0)::(!y0)::PK m te q s
def PM(m:Int)(te:eX)(q s:Int):List Bool:=let y0:=decide (s<0);(!y0)::(!y0)::(!y0)::(!y0)::PL m te q s
def OM(m:Int)(te:eX)(q s:Int):List Bool:=let y0:=decide (pB q>999999999999999);[true,true,true,true,true,true,true,true,true,y0,y0,y0,y0]
def OO(m:Int)(te:eX)(q s:Int):List Bool:=let y0:=decide (q< -999999999999999);true::true::true::true::true::y0::y0::y0::y0::PK m te q s
def OP(m:Int)(te:eX)(q s:Int):List Bool:=let y0:=decide (s<0);true::y0::y0::y0::y0::PL m te q s
def OQ(m:Int)(te:eX)(q s:Int):List Bool:=(decide (s>12))::PM m te q s
def OS(m:Int)(te:eX)(q s:Int):List Bool:=(!decide (s>12))::PM m te q s
def Uc(m:Int)(te:eX)(q s:Int):Empty⊕T:=
 (if decide (pB q>999999999999999)then(.inr (T.int .i64 2))else(if decide (q< -999999999999999)then(.inr (T.int .i64 2))else(if decide (s<0)then(.inr (T.int .i64 2))else(if decide (s>12)then(.inr (T.int .i64 2))else(.inr (T.int .i64 0))))))
def Tu(m:Int)(te:eX)(q s:Int):Bool:=
 (if decide (pB q>999999999999999)then(oQ (OM m te q s))else(if decide (q< -999999999999999)then(oQ (OO m te q s))else(if decide (s<0)then(oQ (OP m te q s))else(if decide (s>12)then(oQ (OQ m te q s))else(oQ (OS m te q s))))))
def MX(m:Int)(te:eX)(q s:Int)(ds:fL):RD Iw:=qC prog (DP m te) F0 2000 (.code (oZ f301)) [] 0 ([.agg [.int .i64 q,.int .i64 s]]++List.replicate 21 oL) ⟨0,.nl⟩ ds []
theorem aCn(m:Int)(te:eX)(q s:Int):rE prog f301 20 [] (MX m te q s (bt 13 8191))=FJ (T.int .i64 2) (OM m te q s):=by kernel_rfl
theorem aCo(m:Int)(te:eX)(q s:Int):rE prog f301 20 [] (MX m te q s (bt 13 8176))=FJ (T.int .i64 2) (OO m te q s):=by kernel_rfl
theorem aCp(m:Int)(te:eX)(q s:Int):rE prog f301 20 [] (MX m te q s (bt 13 7936))=FJ (T.int .i64 2) (OP m te q s):=by kernel_rfl
theorem aCq(m:Int)(te:eX)(q s:Int):rE prog f301 20 [] (MX m te q s (bt 13 4096))=FJ (T.int .i64 2) (OQ m te q s):=by kernel_rfl
theorem aCr(m:Int)(te:eX)(q s:Int):rE prog f301 20 [] (MX m te q s (bt 13 0))=FJ (T.int .i64 0) (OS m te q s):=by kernel_rfl
theorem aYg(m:Int)(te:eX)(q s:Int)(n:Nat){r:T}(hk:Tu m te q s=true)(hr:xF.fin n (Uc m te q s)=some r):oK prog (glZ m te) 301 [.agg [.int .i64 q,.int .i64 s]] r:=
 pure_mach (M:=xF) (fn:=f301) (k:=20) (d:=8) (c:=oZ f301) (cxP m te) (qL m te) (by kernel_rfl) func301 (by kernel_rfl) rfl (by kernel_rfl) (by kernel_rfl) (L:=21) (by kernel_rfl) qY (fun σ=>σ.elim) ((yD (kD (aCn m te q s)) (yD (kD (aCo m te q s)) (yD (kD (aCp m te q s)) (yD (kD (aCq m te q s)) (kD (aCr m te q s)))))) hk _ rfl) hr
def PN(m:Int)(te:eX)(q:Int):List Bool:=[YS q 1 9999,YS q 1 9999,true,YS q 1 9999,YS q 1 9999]
def PO(m:Int)(te:eX)(q:Int):List Bool:=let y0:=q.tmod 4==0;y0::y0::true::y0::y0::PN m te q
def PC(m:Int)(te:eX)(q:Int):List Bool:=let y0:=q.tmod 4==0;let y1:=q.tmod 100 !=0;y0::y1::y0::y1::y1::y1::PO m te q
def PD(m:Int)(te:eX)(q:Int):List Bool:=let y0:=q.tmod 4==0;let y1:=q.tmod 100 !=0;y0::(!y1)::y0::(!y1)::true::(!y1)::(!y1)::PO m te q
def PE(m:Int)(te:eX)(q:Int):List Bool:=let y0:=q.tmod 4==0;(!y0)::(!y0)::(!y0)::(!y0)::(!y0)::(!y0)::PN m te q
def PF(m:Int)(te:eX)(q:Int):List Bool:=[true,true,true,true,true,true,!YS q 1 9999,!YS q 1 9999,!YS q 1 9999,!YS q 1 9999]
def Uf(m:Int)(te:eX)(q:Int):Empty⊕T:=
 (if YS q 1 9999 then(if q.tmod 4==0 then(if q.tmod 100 !=0 then(.inr (T.bool true))else(.inr (T.bool (q.tmod 400==0))))else(.inr (T.bool false)))else(.inr (T.bool false)))
def Ty(m:Int)(te:eX)(q:Int):Bool:=
 (if YS q 1 9999 then(if q.tmod 4==0 then(if q.tmod 100 !=0 then(oQ (PC m te q))else(oQ (PD m te q)))else(oQ (PE m te q)))else(oQ (PF m te q)))
def TC(m:Int)(te:eX)(q:Int)(ds:fL):RD Iw:=qC prog (DP m te) F0 2000 (.code (oZ f345)) [] 0 ([.int .i64 q]++List.replicate 19 oL) ⟨0,.nl⟩ ds []
theorem aDb(m:Int)(te:eX)(q:Int):rE prog f345 20 [] (TC m te q (bt 14 16383))=FJ (T.bool true) (PC m te q):=by kernel_rfl
theorem aDc(m:Int)(te:eX)(q:Int):rE prog f345 20 [] (TC m te q (bt 14 10495))=FJ (T.bool (q.tmod 400==0)) (PD m te q):=by kernel_rfl
theorem aDd(m:Int)(te:eX)(q:Int):rE prog f345 20 [] (TC m te q (bt 10 15))=FJ (T.bool false) (PE m te q):=by kernel_rfl
theorem aDe(m:Int)(te:eX)(q:Int):rE prog f345 20 [] (TC m te q (bt 10 0))=FJ (T.bool false) (PF m te q):=by kernel_rfl
theorem aYl(m:Int)(te:eX)(q:Int)(n:Nat){r:T}(hk:Ty m te q=true)(hr:xF.fin n (Uf m te q)=some r):oK prog (glZ m te) 345 [.int .i64 q] r:=
 pure_mach (M:=xF) (fn:=f345) (k:=20) (d:=8) (c:=oZ f345) (cxP m te) (qL m te) (by kernel_rfl) func345 (by kernel_rfl) rfl (by kernel_rfl) (by kernel_rfl) (L:=19) (by kernel_rfl) qY (fun σ=>σ.elim) ((yD (yD (yD (kD (aDb m te q)) (kD (aDc m te q))) (kD (aDd m te q))) (kD (aDe m te q))) hk _ rfl) hr
end
end Go.Proofs.Tryz
namespace Go.Proofs.Tryz
open Go.Ps
theorem Ur(m:Int)(te:eX)(q s:Int):oK prog (glZ m te) 301 [.agg [.int .i64 q,.int .i64 s]] (.int .i64 (yY q s)):=by
 refine aYg m te q s 0 ?_ ?_
 .unfold Tu OM OO OP OQ OS PM PL PK
  repeat' split
  all_goals simp_all [oQ]
 .unfold Uc yY mxN;by_cases h1:pB q>999999999999999
  .simp[h1,xF,uF.fin]
  .by_cases h2:q< -999999999999999
   .simp[h1,h2,xF,uF.fin]
   .by_cases h3:s<0
    .simp[h1,h2,h3,xF,uF.fin]
    .by_cases h4:s>12
     .simp[h1,h2,h3,h4,xF,uF.fin]
     .simp[h1,h2,h3,h4,xF,uF.fin]
theorem bCr(m:Int)(te:eX)(y:Int):oK prog (glZ m te) 345 [.int .i64 y] (.bool (SY y)):=by
 refine aYl m te y 0 ?_ ?_
 .unfold Ty PC PD PE PF PO PN
  repeat' split
  all_goals simp_all [oQ]
 .unfold Uf SY Cal.leap;by_cases h1:YS y 1 9999=true
  .by_cases h2:y.tmod 4=0
   .by_cases h3:y.tmod 100=0
    .simp only[h1,h2,h3];simp[xF,uF.fin];rfl
    .simp[h1,h2,h3,xF,uF.fin]
   .simp[h1,h2,xF,uF.fin]
  .simp[h1,xF,uF.fin]
theorem Yy(m:Int)(te:eX):Cx prog (DQ m te) F0:=by
 refine⟨follows,?_,qV⟩;refine pM (pM (pM (pM rM fun ts r cs h hc=> ?_) fun ts r cs h hc=> ?_) fun ts r cs h hc=> ?_) fun ts r cs h hc=> ?_
 .unfold aBd at h;split at h
  .cases h;exact Pu m te _
  .cases h
 .unfold aBe at h;split at h
  .cases h;exact aGm m te _ _ _
  .cases h
 .unfold aPk at h;split at h
  .cases h;exact Ur m te _ _
  .cases h
 .unfold bEh at h;split at h
  .cases h;exact bCr m te _
  .cases h
end Go.Proofs.Tryz
namespace Go.Proofs.Tryz
noncomputable section
open Go.Ps
inductive Ah where
 |l0 (x7 x8:Int)
def OK(m:Int)(te:eX)(fl:Bool)(k:Nat)(f g:gC):List Bool:=[]
def HZ(m:Int)(te:eX)(fl:Bool)(k:Nat)(f g:gC)(x7 x8:Int):List Bool:=[true,true,decide (0<=x8),decide (x8<(↑k:Int)),true,decide (x8<x7)]
def OH(m:Int)(te:eX)(fl:Bool)(k:Nat)(f g:gC)(x7 x8:Int):List Bool:=(yY (f x8.toNat) (g x8.toNat) !=0)::HZ m te fl k f g x7 x8
def OI(m:Int)(te:eX)(fl:Bool)(k:Nat)(f g:gC)(x7 x8:Int):List Bool:=(!yY (f x8.toNat) (g x8.toNat) !=0)::HZ m te fl k f g x7 x8
def OJ(m:Int)(te:eX)(fl:Bool)(k:Nat)(f g:gC)(x7 x8:Int):List Bool:=[!decide (x8<x7)]
def zQ(m:Int)(te:eX)(fl:Bool)(k:Nat)(f g:gC)(x7 x8:Int):Ah⊕T:=
 (if decide (x8<x7)then(if yY (f x8.toNat) (g x8.toNat) !=0 then(.inr (T.int .i64 (yY (f x8.toNat) (g x8.toNat))))else(.inl (.l0 x7 (IntKind.i64.wrap (x8+1)))))else(.inr (T.int .i64 0)))
def DX(m:Int)(te:eX)(fl:Bool)(k:Nat)(f g:gC)(x7 x8:Int):Bool:=
 (if decide (x8<x7)then(if yY (f x8.toNat) (g x8.toNat) !=0 then(oQ (OH m te fl k f g x7 x8))else(oQ (OI m te fl k f g x7 x8)))else(oQ (OJ m te fl k f g x7 x8)))
def XZ(m:Int)(te:eX)(fl:Bool)(k:Nat)(f g:gC)(x7 x8:Int):Option (Ah⊕T):=if DX m te fl k f g x7 x8 then some (zQ m te fl k f g x7 x8)else none
theorem Tz(m:Int)(te:eX)(fl:Bool)(k:Nat)(f g:gC)(x7 x8:Int)(hk:DX m te fl k f g x7 x8=true):XZ m te fl k f g x7 x8=some (zQ m te fl k f g x7 x8):=if_pos hk
def Ua(m:Int)(te:eX)(fl:Bool)(k:Nat)(f g:gC):Ah⊕T:=
 (.inl (.l0 (↑k:Int) 0))
def Ts(m:Int)(te:eX)(fl:Bool)(k:Nat)(f g:gC):Bool:=
 (oQ (OK m te fl k f g))
def aJv(m:Int)(te:eX)(fl:Bool)(k:Nat)(f g:gC):Ah->Option (Ah⊕T)
 | .l0 x7 x8=>XZ m te fl k f g x7 x8
def CM(m:Int)(te:eX)(fl:Bool)(k:Nat)(f g:gC):uF Ah where
 lp:=fun σ=>match σ with
  | .l0 .. =>0
 keep:=fun ι=>match ι with
  |0=>[6,7,8]|_ =>[]
 par:=fun ι=>match ι with
  |0=>[]|_ =>[]
 vs:=fun σ=>match σ with
  | .l0 x7 x8=>[T.slf fl k fun i=>T.agg [T.int .i64 (f i),T.int .i64 (g i)],T.int .i64 x7,T.int .i64 x8]
 hp:=fun _ =>⟨0,.nl⟩
 len:=18
 step:=aJv m te fl k f g
def Ha(m:Int)(te:eX)(fl:Bool)(k:Nat)(f g:gC)(x7 x8:Int)(fr:eY)(ds:fL):RD Iw:=(CM m te fl k f g).rk prog (DQ m te) F0 f287 (.l0 x7 x8) fr ds
theorem aCi(m:Int)(te:eX)(fl:Bool)(k:Nat)(f g:gC)(x7 x8:Int)(fr:eY):rE prog f287 20 [] (Ha m te fl k f g x7 x8 fr [true,true])=FJ (T.int .i64 (yY (f x8.toNat) (g x8.toNat))) (OH m te fl k f g x7 x8):=by kernel_rfl
theorem aCj(m:Int)(te:eX)(fl:Bool)(k:Nat)(f g:gC)(x7 x8:Int)(fr:eY):(CM m te fl k f g).wa prog f287 (Ha m te fl k f g x7 x8 fr [true,false]) 0 (OI m te fl k f g x7 x8) (.l0 x7 (IntKind.i64.wrap (x8+1))):=by unfold uF.wa;kernel_rfl
theorem aCk(m:Int)(te:eX)(fl:Bool)(k:Nat)(f g:gC)(x7 x8:Int)(fr:eY):rE prog f287 20 [] (Ha m te fl k f g x7 x8 fr [false])=FJ (T.int .i64 0) (OJ m te fl k f g x7 x8):=by kernel_rfl
theorem aCl(m:Int)(te:eX)(fl:Bool)(k:Nat)(f g:gC):(CM m te fl k f g).wl prog f287 (qC prog (DQ m te) F0 2000 (.code (oZ f287)) [] 0 ([.slf fl k (fun i=> .agg [.int .i64 (f i),.int .i64 (g i)])]++List.replicate 17 oL) ⟨0,.nl⟩ [] []) 0 (OK m te fl k f g) (.l0 (↑k:Int) 0):=by unfold uF.wl;kernel_rfl
theorem aKj(m:Int)(te:eX)(fl:Bool)(k:Nat)(f g:gC):(CM m te fl k f g).Ways prog (DQ m te) F0 f287 20:=by
 intro σ o fr h;cases σ with
 |l0 x7 x8=>
  obtain⟨hk,ho⟩:=Gd (K:=DX m te fl k f g x7 x8) (V:=zQ m te fl k f g x7 x8) h;exact(yD (yD (kD (aCi m te fl k f g x7 x8 fr)) (kA (aCj m te fl k f g x7 x8 fr) rfl)) (kD (aCk m te fl k f g x7 x8 fr))) hk o ho
theorem aOy(m:Int)(te:eX)(fl:Bool)(k:Nat)(f g:gC):∀σ,Ps.codeOk (qF f287 ((CM m te fl k f g).lp σ)).1=true/\CE (.lp::(qF f287 ((CM m te fl k f g).lp σ)).2)=true:=aHz 1 (by kernel_rfl) (by intro σ;cases σ<;>exact Nat.le_of_ble_eq_true rfl)
theorem aXz(m:Int)(te:eX)(fl:Bool)(k:Nat)(f g:gC)(n:Nat){r:T}(hk:Ts m te fl k f g=true)(hr:(CM m te fl k f g).fin n (Ua m te fl k f g)=some r):oK prog (glZ m te) 287 [.slf fl k (fun i=> .agg [.int .i64 (f i),.int .i64 (g i)])] r:=
 pure_mach (M:=(CM m te fl k f g)) (fn:=f287) (k:=20) (d:=8) (c:=oZ f287) (Yy m te) (qL m te) (by kernel_rfl) func287 (by kernel_rfl) rfl (by kernel_rfl) (by kernel_rfl) (L:=17) (by kernel_rfl) (aKj m te fl k f g) (aOy m te fl k f g) ((kL (aCl m te fl k f g) rfl) hk _ rfl) hr
def GA(m:Int)(te:eX)(q:Int):List Bool:=[true,true,true,true,true,true]
def Ai(m:Int)(te:eX)(q:Int):Empty⊕T:=
 (.inr (T.int .i64 31))
def ZW(m:Int)(te:eX)(q:Int):Bool:=
 (oQ (GA m te q))
theorem Ox(m:Int)(te:eX)(q:Int):rE prog f331 20 [] (qC prog (DQ m te) F0 2000 (.code (oZ f331)) [] 0 ([.int .i64 q,.int .i64 1]++List.replicate 13 oL) ⟨0,.nl⟩ (bt 4 0) [])=FJ (T.int .i64 31) (GA m te q):=by kernel_rfl
theorem aLw(m:Int)(te:eX)(q:Int)(n:Nat){r:T}(hk:ZW m te q=true)(hr:xF.fin n (Ai m te q)=some r):oK prog (glZ m te) 331 [.int .i64 q,.int .i64 1] r:=
 pure_mach (M:=xF) (fn:=f331) (k:=20) (d:=8) (c:=oZ f331) (Yy m te) (qL m te) (by kernel_rfl) func331 (by kernel_rfl) rfl (by kernel_rfl) (by kernel_rfl) (L:=13) (by kernel_rfl) qY (fun σ=>σ.elim) ((kD (Ox m te q)) hk _ rfl) hr
def GB(m:Int)(te:eX)(q:Int):List Bool:=[SY q,true,true,true]
def GC(m:Int)(te:eX)(q:Int):List Bool:=[true,true,!SY q,true,true,true]
def Aj(m:Int)(te:eX)(q:Int):Empty⊕T:=
 (if SY q then(.inr (T.int .i64 29))else(.inr (T.int .i64 28)))
def ZX(m:Int)(te:eX)(q:Int):Bool:=
 (if SY q then(oQ (GB m te q))else(oQ (GC m te q)))
def Cs(m:Int)(te:eX)(q:Int)(ds:fL):RD Iw:=qC prog (DQ m te) F0 2000 (.code (oZ f331)) [] 0 ([.int .i64 q,.int .i64 2]++List.replicate 13 oL) ⟨0,.nl⟩ ds []
theorem Oy(m:Int)(te:eX)(q:Int):rE prog f331 20 [] (Cs m te q (bt 4 15))=FJ (T.int .i64 29) (GB m te q):=by kernel_rfl
theorem Oz(m:Int)(te:eX)(q:Int):rE prog f331 20 [] (Cs m te q (bt 4 7))=FJ (T.int .i64 28) (GC m te q):=by kernel_rfl
theorem aLx(m:Int)(te:eX)(q:Int)(n:Nat){r:T}(hk:ZX m te q=true)(hr:xF.fin n (Aj m te q)=some r):oK prog (glZ m te) 331 [.int .i64 q,.int .i64 2] r:=
 pure_mach (M:=xF) (fn:=f331) (k:=20) (d:=8) (c:=oZ f331) (Yy m te) (qL m te) (by kernel_rfl) func331 (by kernel_rfl) rfl (by kernel_rfl) (by kernel_rfl) (L:=13) (by kernel_rfl) qY (fun σ=>σ.elim) ((yD (kD (Oy m te q)) (kD (Oz m te q))) hk _ rfl) hr
def GD(m:Int)(te:eX)(q:Int):List Bool:=[true,true,true,true,true,true]
def Ak(m:Int)(te:eX)(q:Int):Empty⊕T:=
 (.inr (T.int .i64 31))
def ZY(m:Int)(te:eX)(q:Int):Bool:=
 (oQ (GD m te q))
theorem Pa(m:Int)(te:eX)(q:Int):rE prog f331 20 [] (qC prog (DQ m te) F0 2000 (.code (oZ f331)) [] 0 ([.int .i64 q,.int .i64 3]++List.replicate 13 oL) ⟨0,.nl⟩ (bt 4 0) [])=FJ (T.int .i64 31) (GD m te q):=by kernel_rfl
theorem aLy(m:Int)(te:eX)(q:Int)(n:Nat){r:T}(hk:ZY m te q=true)(hr:xF.fin n (Ak m te q)=some r):oK prog (glZ m te) 331 [.int .i64 q,.int .i64 3] r:=
 pure_mach (M:=xF) (fn:=f331) (k:=20) (d:=8) (c:=oZ f331) (Yy m te) (qL m te) (by kernel_rfl) func331 (by kernel_rfl) rfl (by kernel_rfl) (by kernel_rfl) (L:=13) (by kernel_rfl) qY (fun σ=>σ.elim) ((kD (Pa m te q)) hk _ rfl) hr
def GE(m:Int)(te:eX)(q:Int):List Bool:=[true,true,true,true,true,true]
def Al(m:Int)(te:eX)(q:Int):Empty⊕T:=
 (.inr (T.int .i64 30))
def ZZ(m:Int)(te:eX)(q:Int):Bool:=
 (oQ (GE m te q))
theorem Pb(m:Int)(te:eX)(q:Int):rE prog f331 20 [] (qC prog (DQ m te) F0 2000 (.code (oZ f331)) [] 0 ([.int .i64 q,.int .i64 4]++List.replicate 13 oL) ⟨0,.nl⟩ (bt 4 0) [])=FJ (T.int .i64 30) (GE m te q):=by kernel_rfl
theorem aLz(m:Int)(te:eX)(q:Int)(n:Nat){r:T}(hk:ZZ m te q=true)(hr:xF.fin n (Al m te q)=some r):oK prog (glZ m te) 331 [.int .i64 q,.int .i64 4] r:=
 pure_mach (M:=xF) (fn:=f331) (k:=20) (d:=8) (c:=oZ f331) (Yy m te) (qL m te) (by kernel_rfl) func331 (by kernel_rfl) rfl (by kernel_rfl) (by kernel_rfl) (L:=13) (by kernel_rfl) qY (fun σ=>σ.elim) ((kD (Pb m te q)) hk _ rfl) hr
def GF(m:Int)(te:eX)(q:Int):List Bool:=[true,true,true,true,true,true]
def Ao(m:Int)(te:eX)(q:Int):Empty⊕T:=
 (.inr (T.int .i64 31))
def Aa(m:Int)(te:eX)(q:Int):Bool:=
 (oQ (GF m te q))
theorem Pc(m:Int)(te:eX)(q:Int):rE prog f331 20 [] (qC prog (DQ m te) F0 2000 (.code (oZ f331)) [] 0 ([.int .i64 q,.int .i64 5]++List.replicate 13 oL) ⟨0,.nl⟩ (bt 4 0) [])=FJ (T.int .i64 31) (GF m te q):=by kernel_rfl
theorem aMa(m:Int)(te:eX)(q:Int)(n:Nat){r:T}(hk:Aa m te q=true)(hr:xF.fin n (Ao m te q)=some r):oK prog (glZ m te) 331 [.int .i64 q,.int .i64 5] r:=
 pure_mach (M:=xF) (fn:=f331) (k:=20) (d:=8) (c:=oZ f331) (Yy m te) (qL m te) (by kernel_rfl) func331 (by kernel_rfl) rfl (by kernel_rfl) (by kernel_rfl) (L:=13) (by kernel_rfl) qY (fun σ=>σ.elim) ((kD (Pc m te q)) hk _ rfl) hr
def GG(m:Int)(te:eX)(q:Int):List Bool:=[true,true,true,true,true,true]
def Ap(m:Int)(te:eX)(q:Int):Empty⊕T:=
 (.inr (T.int .i64 30))
def Ab(m:Int)(te:eX)(q:Int):Bool:=
 (oQ (GG m te q))
theorem Pd(m:Int)(te:eX)(q:Int):rE prog f331 20 [] (qC prog (DQ m te) F0 2000 (.code (oZ f331)) [] 0 ([.int .i64 q,.int .i64 6]++List.replicate 13 oL) ⟨0,.nl⟩ (bt 4 0) [])=FJ (T.int .i64 30) (GG m te q):=by kernel_rfl
theorem aMb(m:Int)(te:eX)(q:Int)(n:Nat){r:T}(hk:Ab m te q=true)(hr:xF.fin n (Ap m te q)=some r):oK prog (glZ m te) 331 [.int .i64 q,.int .i64 6] r:=
 pure_mach (M:=xF) (fn:=f331) (k:=20) (d:=8) (c:=oZ f331) (Yy m te) (qL m te) (by kernel_rfl) func331 (by kernel_rfl) rfl (by kernel_rfl) (by kernel_rfl) (L:=13) (by kernel_rfl) qY (fun σ=>σ.elim) ((kD (Pd m te q)) hk _ rfl) hr
def GI(m:Int)(te:eX)(q:Int):List Bool:=[true,true,true,true,true,true]
def Aq(m:Int)(te:eX)(q:Int):Empty⊕T:=
 (.inr (T.int .i64 31))
def Ac(m:Int)(te:eX)(q:Int):Bool:=
 (oQ (GI m te q))
theorem Pe(m:Int)(te:eX)(q:Int):rE prog f331 20 [] (qC prog (DQ m te) F0 2000 (.code (oZ f331)) [] 0 ([.int .i64 q,.int .i64 7]++List.replicate 13 oL) ⟨0,.nl⟩ (bt 4 0) [])=FJ (T.int .i64 31) (GI m te q):=by kernel_rfl
theorem aMc(m:Int)(te:eX)(q:Int)(n:Nat){r:T}(hk:Ac m te q=true)(hr:xF.fin n (Aq m te q)=some r):oK prog (glZ m te) 331 [.int .i64 q,.int .i64 7] r:=
 pure_mach (M:=xF) (fn:=f331) (k:=20) (d:=8) (c:=oZ f331) (Yy m te) (qL m te) (by kernel_rfl) func331 (by kernel_rfl) rfl (by kernel_rfl) (by kernel_rfl) (L:=13) (by kernel_rfl) qY (fun σ=>σ.elim) ((kD (Pe m te q)) hk _ rfl) hr
def GJ(m:Int)(te:eX)(q:Int):List Bool:=[true,true,true,true,true,true]
def Ar(m:Int)(te:eX)(q:Int):Empty⊕T:=
 (.inr (T.int .i64 31))
def Ad(m:Int)(te:eX)(q:Int):Bool:=
 (oQ (GJ m te q))
theorem Pf(m:Int)(te:eX)(q:Int):rE prog f331 20 [] (qC prog (DQ m te) F0 2000 (.code (oZ f331)) [] 0 ([.int .i64 q,.int .i64 8]++List.replicate 13 oL) ⟨0,.nl⟩ (bt 4 0) [])=FJ (T.int .i64 31) (GJ m te q):=by kernel_rfl
theorem aMd(m:Int)(te:eX)(q:Int)(n:Nat){r:T}(hk:Ad m te q=true)(hr:xF.fin n (Ar m te q)=some r):oK prog (glZ m te) 331 [.int .i64 q,.int .i64 8] r:=
 pure_mach (M:=xF) (fn:=f331) (k:=20) (d:=8) (c:=oZ f331) (Yy m te) (qL m te) (by kernel_rfl) func331 (by kernel_rfl) rfl (by kernel_rfl) (by kernel_rfl) (L:=13) (by kernel_rfl) qY (fun σ=>σ.elim) ((kD (Pf m te q)) hk _ rfl) hr
def GK(m:Int)(te:eX)(q:Int):List Bool:=[true,true,true,true,true,true]
def Au(m:Int)(te:eX)(q:Int):Empty⊕T:=
 (.inr (T.int .i64 30))
def Ae(m:Int)(te:eX)(q:Int):Bool:=
 (oQ (GK m te q))
theorem Pg(m:Int)(te:eX)(q:Int):rE prog f331 20 [] (qC prog (DQ m te) F0 2000 (.code (oZ f331)) [] 0 ([.int .i64 q,.int .i64 9]++List.replicate 13 oL) ⟨0,.nl⟩ (bt 4 0) [])=FJ (T.int .i64 30) (GK m te q):=by kernel_rfl
theorem aMe(m:Int)(te:eX)(q:Int)(n:Nat){r:T}(hk:Ae m te q=true)(hr:xF.fin n (Au m te q)=some r):oK prog (glZ m te) 331 [.int .i64 q,.int .i64 9] r:=
 pure_mach (M:=xF) (fn:=f331) (k:=20) (d:=8) (c:=oZ f331) (Yy m te) (qL m te) (by kernel_rfl) func331 (by kernel_rfl) rfl (by kernel_rfl) (by kernel_rfl) (L:=13) (by kernel_rfl) qY (fun σ=>σ.elim) ((kD (Pg m te q)) hk _ rfl) hr
def EI(m:Int)(te:eX)(q:Int):List Bool:=[true,true,true,true,true,true]
def TP(m:Int)(te:eX)(q:Int):Empty⊕T:=
 (.inr (T.int .i64 31))
def TK(m:Int)(te:eX)(q:Int):Bool:=
 (oQ (EI m te q))
theorem Im(m:Int)(te:eX)(q:Int):rE prog f331 20 [] (qC prog (DQ m te) F0 2000 (.code (oZ f331)) [] 0 ([.int .i64 q,.int .i64 10]++List.replicate 13 oL) ⟨0,.nl⟩ (bt 4 0) [])=FJ (T.int .i64 31) (EI m te q):=by kernel_rfl
theorem aEa(m:Int)(te:eX)(q:Int)(n:Nat){r:T}(hk:TK m te q=true)(hr:xF.fin n (TP m te q)=some r):oK prog (glZ m te) 331 [.int .i64 q,.int .i64 10] r:=
 pure_mach (M:=xF) (fn:=f331) (k:=20) (d:=8) (c:=oZ f331) (Yy m te) (qL m te) (by kernel_rfl) func331 (by kernel_rfl) rfl (by kernel_rfl) (by kernel_rfl) (L:=13) (by kernel_rfl) qY (fun σ=>σ.elim) ((kD (Im m te q)) hk _ rfl) hr
def EJ(m:Int)(te:eX)(q:Int):List Bool:=[true,true,true,true,true,true]
def TQ(m:Int)(te:eX)(q:Int):Empty⊕T:=
 (.inr (T.int .i64 30))
def TL(m:Int)(te:eX)(q:Int):Bool:=
 (oQ (EJ m te q))
theorem Iq(m:Int)(te:eX)(q:Int):rE prog f331 20 [] (qC prog (DQ m te) F0 2000 (.code (oZ f331)) [] 0 ([.int .i64 q,.int .i64 11]++List.replicate 13 oL) ⟨0,.nl⟩ (bt 4 0) [])=FJ (T.int .i64 30) (EJ m te q):=by kernel_rfl
theorem aEb(m:Int)(te:eX)(q:Int)(n:Nat){r:T}(hk:TL m te q=true)(hr:xF.fin n (TQ m te q)=some r):oK prog (glZ m te) 331 [.int .i64 q,.int .i64 11] r:=
 pure_mach (M:=xF) (fn:=f331) (k:=20) (d:=8) (c:=oZ f331) (Yy m te) (qL m te) (by kernel_rfl) func331 (by kernel_rfl) rfl (by kernel_rfl) (by kernel_rfl) (L:=13) (by kernel_rfl) qY (fun σ=>σ.elim) ((kD (Iq m te q)) hk _ rfl) hr
def EK(m:Int)(te:eX)(q:Int):List Bool:=[true,true,true,true,true,true]
def TR(m:Int)(te:eX)(q:Int):Empty⊕T:=
 (.inr (T.int .i64 31))
def TM(m:Int)(te:eX)(q:Int):Bool:=
 (oQ (EK m te q))
theorem Ir(m:Int)(te:eX)(q:Int):rE prog f331 20 [] (qC prog (DQ m te) F0 2000 (.code (oZ f331)) [] 0 ([.int .i64 q,.int .i64 12]++List.replicate 13 oL) ⟨0,.nl⟩ (bt 4 0) [])=FJ (T.int .i64 31) (EK m te q):=by kernel_rfl
theorem aEc(m:Int)(te:eX)(q:Int)(n:Nat){r:T}(hk:TM m te q=true)(hr:xF.fin n (TR m te q)=some r):oK prog (glZ m te) 331 [.int .i64 q,.int .i64 12] r:=
 pure_mach (M:=xF) (fn:=f331) (k:=20) (d:=8) (c:=oZ f331) (Yy m te) (qL m te) (by kernel_rfl) func331 (by kernel_rfl) rfl (by kernel_rfl) (by kernel_rfl) (L:=13) (by kernel_rfl) qY (fun σ=>σ.elim) ((kD (Ir m te q)) hk _ rfl) hr
end
end Go.Proofs.Tryz
namespace Go.Proofs.Tryz
open Go.Ps
theorem TI{α:Type}{b:Bool}{x y z:α}(h1:b=true->x=z)(h2:b=false->y=z):(if b=true then x else y)=z:=by
 cases b
 .exact h2 rfl
 .exact h1 rfl
theorem Bd{q s:Int}:yY q s=0↔pB q<=mxN/\-mxN<=q/\0<=s/\s<=12:=by
 unfold yY;split<;>constructor<;>intro h<;>first|omega|(constructor<;>omega)
theorem aMf(m:Int)(te:eX)(fl:Bool)(k:Nat)(hk:k<9223372036854775807)(f g:gC):
  ∃e,oK prog (glZ m te) 287 [.slf fl k (fun i=> .agg [.int .i64 (f i),.int .i64 (g i)])] (.int .i64 e)/\(0<=e/\e<=255)/\(e=0->∀i,i<k->yY (f i) (g i)=0):=by
 have key:∀(d j:Nat),j+d=k->∃e,(CM m te fl k f g).run (d+1) (.l0 k j)=some (.int .i64 e)/\(0<=e/\e<=255)/\(e=0->∀i,j<=i->i<k->yY (f i) (g i)=0):=by
  intro d
  induction d with
  |zero=>
   intro j hj;refine⟨0,?_,by omega,fun _ i h1 h2=>by omega⟩;have hK:DX m te fl k f g k j=true:=by
    unfold DX;rw[if_neg (by simp;omega)];simp[OJ,oQ];omega
   rw[uF.run_succ,show(CM m te fl k f g).step (.l0 k j)=some (zQ m te fl k f g k j)from Tz m te fl k f g k j hK];show(CM m te fl k f g).fin 0 (zQ m te fl k f g k j)=_;unfold zQ;rw[if_neg (by simp;omega)];rfl
  |succ d ih=>
   intro j hj;obtain⟨e,h1,hb,h2⟩:=ih (j+1) (by omega);have hlt:decide ((j:Int)<(k:Int))=true:=decide_eq_true (by omega);have hw:IntKind.i64.wrap ((j:Int)+1)=((j+1:Nat):Int):=by
    rw[IntKind.wrap_i64];omega
   have hK:DX m te fl k f g k j=true:=by
    unfold DX;rw[if_pos hlt];refine TI (fun e=> ?_) (fun e=> ?_)
    .simp only[OH,oQ,e,hlt,HZ];simp
    .simp only[OI,oQ,e,hlt,HZ];simp
   rw[uF.run_succ,show(CM m te fl k f g).step (.l0 k j)=some (zQ m te fl k f g k j)from Tz m te fl k f g k j hK];show∃e,(CM m te fl k f g).fin (d+1) (zQ m te fl k f g k j)=_ /\_;unfold zQ;rw[if_pos hlt];by_cases hc:yY (f j) (g j)=0
   .refine⟨e,?_,hb,fun he i h3 h4=> ?_⟩
    .rw[if_neg (by simp[hc]),uF.fin_inl,hw];exact h1
    .by_cases hij:i=j
     .subst hij;exact hc
     .exact h2 he i (by omega) h4
   .refine⟨yY (f j) (g j),?_,by unfold yY;split<;>omega,fun he=>absurd he hc⟩;rw[if_pos (by simp[hc])];rfl
 obtain⟨e,h1,hb,h2⟩:=key k 0 (by omega);refine⟨e,aXz m te fl k f g (k+1) (by unfold Ts OK;rfl) ?_,hb,fun he i hi=>h2 he i (by omega) hi⟩;unfold Ua;rw[uF.fin_inl];exact h1
theorem bCt(m:Int)(te:eX)(y:Int){k:Int}(h1:1<=k)(h2:k<=12):oK prog (glZ m te) 331 [.int .i64 y,.int .i64 k] (.int .i64 (Cal.mdL (SY y) k)):=by
 have hk:k=1\/k=2\/k=3\/k=4\/k=5\/k=6\/k=7\/k=8\/k=9\/k=10\/k=11\/k=12:=by omega
 rcases hk with rfl|rfl|rfl|rfl|rfl|rfl|rfl|rfl|rfl|rfl|rfl|rfl
 .exact aLw m te y 0 (by unfold ZW GA;rfl) (by unfold Ai;simp[Cal.mdL,xF,uF.fin])
 .refine aLx m te y 0 ?_ ?_
  .unfold ZX GB GC;split<;>simp_all [oQ]
  .unfold Aj Cal.mdL;by_cases h:SY y=true
   .simp[h,xF,uF.fin]
   .simp[h,xF,uF.fin]
 .exact aLy m te y 0 (by unfold ZY GD;rfl) (by unfold Ak;simp[Cal.mdL,xF,uF.fin])
 .exact aLz m te y 0 (by unfold ZZ GE;rfl) (by unfold Al;simp[Cal.mdL,xF,uF.fin])
 .exact aMa m te y 0 (by unfold Aa GF;rfl) (by unfold Ao;simp[Cal.mdL,xF,uF.fin])
 .exact aMb m te y 0 (by unfold Ab GG;rfl) (by unfold Ap;simp[Cal.mdL,xF,uF.fin])
 .exact aMc m te y 0 (by unfold Ac GI;rfl) (by unfold Aq;simp[Cal.mdL,xF,uF.fin])
 .exact aMd m te y 0 (by unfold Ad GJ;rfl) (by unfold Ar;simp[Cal.mdL,xF,uF.fin])
 .exact aMe m te y 0 (by unfold Ae GK;rfl) (by unfold Au;simp[Cal.mdL,xF,uF.fin])
 .exact aEa m te y 0 (by unfold TK EI;rfl) (by unfold TP;simp[Cal.mdL,xF,uF.fin])
 .exact aEb m te y 0 (by unfold TL EJ;rfl) (by unfold TQ;simp[Cal.mdL,xF,uF.fin])
 .exact aEc m te y 0 (by unfold TM EK;rfl) (by unfold TR;simp[Cal.mdL,xF,uF.fin])
theorem aNv(m:Int)(te:eX)(n:Int)(hn:-9223372036854775808<=n/\n<=9223372036854775807):oK prog (glZ m te) 40 [.int .i64 n] (.str (oU n)):=by
 refine Mt ?_;unfold peZ;rw[if_neg (by decide),if_neg (by decide),if_neg (by decide),if_neg (by decide),if_pos rfl];exact if_pos hn
theorem cxR(m:Int)(te:eX):Cx prog (DR m te) F0:=by
 refine⟨follows,?_,qV⟩;refine pM (pM (pM (pM (pM (pM (pM rM fun ts r cs h hc=> ?_) fun ts r cs h hc=> ?_) fun ts r cs h hc=> ?_) fun ts r cs h hc=> ?_) fun ts r cs h hc=> ?_) fun ts r cs h hc=> ?_) fun ts r cs h hc=> ?_
 .unfold aBd at h;split at h
  .cases h;exact Pu m te _
  .cases h
 .unfold aBe at h;split at h
  .cases h;exact aGm m te _ _ _
  .cases h
 .unfold aPk at h;split at h
  .cases h;exact Ur m te _ _
  .cases h
 .unfold s40 at h;split at h
  .cases h;simp only[oQ,bC,aA,aI]at hc;exact aNv m te _ hc
  .cases h
 .unfold bEe at h;split at h
  .cases h;rename_i s n;simp only[oQ,bC,aA,aI]at hc;have:=aIs (m:=m) (te:=te) s n.toNat (by omega) (by have:=Nat.mul_le_mul hc.2.2 (show n.toNat<=100 by omega);omega)
   rwa [show((n.toNat:Nat):Int)=n by omega]at this
  .cases h
 .unfold bEg at h;split at h
  .cases h;simp only[oQ,bC,aA,aI]at hc;exact bCt m te _ hc.1 hc.2
  .cases h
 .unfold bEf at h;split at h
  .cases h;simp only[oQ,bC,aA,aI]at hc;exact aXr m te hc.1 hc.2
  .cases h
end Go.Proofs.Tryz
namespace Go.Proofs.Tryz
noncomputable section
open Go.Ps
inductive QP where
 |l0 (x2 x6:Int)
 |l1 (x2 x3 x6:Int)
def OX(m:Int)(te:eX)(q:Int):List Bool:=[!YS q (-719162) 2932896]
def OY(m:Int)(te:eX)(q:Int):List Bool:=[true,!!YS q (-719162) 2932896]
def OT(m:Int)(te:eX)(q x2 x6:Int):List Bool:=[decide (Cal.bfZ x2>x6),decide (1<=x2),decide (x2<=10000)]
def OU(m:Int)(te:eX)(q x2 x6:Int):List Bool:=let y0:=decide (1<=x2);let y1:=decide (x2<=10000);[y0,y1,!decide (Cal.bfZ x2>x6),y0,y1]
def OV(m:Int)(te:eX)(q x2 x3 x6:Int):List Bool:=let y0:=decide (1<=x3);let y1:=decide (x3<=12);[y0,y1,decide (x6>=Cal.mdL (SY x2) x3),y0,y1]
def OW(m:Int)(te:eX)(q x2 x3 x6:Int):List Bool:=[!decide (x6>=Cal.mdL (SY x2) x3),decide (1<=x3),decide (x3<=12)]
def HM(m:Int)(te:eX)(q x2 x6:Int):QP⊕T:=
 (if decide (Cal.bfZ x2>x6)then(.inl (.l0 (IntKind.i64.wrap (x2-1)) x6))else(.inl (.l1 x2 1 (IntKind.i64.wrap (x6-Cal.bfZ x2)))))
def KV(m:Int)(te:eX)(q x2 x6:Int):Bool:=
 (if decide (Cal.bfZ x2>x6)then(oQ (OT m te q x2 x6))else(oQ (OU m te q x2 x6)))
def YA(m:Int)(te:eX)(q x2 x6:Int):Option (QP⊕T):=if KV m te q x2 x6 then some (HM m te q x2 x6)else none
theorem aLa(m:Int)(te:eX)(q x2 x6:Int)(hk:KV m te q x2 x6=true):YA m te q x2 x6=some (HM m te q x2 x6):=if_pos hk
def HO(m:Int)(te:eX)(q x2 x3 x6:Int):QP⊕T:=
 (if decide (x6>=Cal.mdL (SY x2) x3)then(.inl (.l1 x2 (IntKind.i64.wrap (x3+1)) (IntKind.i64.wrap (x6-Cal.mdL (SY x2) x3))))else(.inr (T.tup [T.int .i64 x2,T.int .i64 x3,T.int .i64 (IntKind.i64.wrap (x6+1)),T.int .i64 0])))
def KW(m:Int)(te:eX)(q x2 x3 x6:Int):Bool:=
 (if decide (x6>=Cal.mdL (SY x2) x3)then(oQ (OV m te q x2 x3 x6))else(oQ (OW m te q x2 x3 x6)))
def YB(m:Int)(te:eX)(q x2 x3 x6:Int):Option (QP⊕T):=if KW m te q x2 x3 x6 then some (HO m te q x2 x3 x6)else none
theorem aLb(m:Int)(te:eX)(q x2 x3 x6:Int)(hk:KW m te q x2 x3 x6=true):YB m te q x2 x3 x6=some (HO m te q x2 x3 x6):=if_pos hk
def Ea(m:Int)(te:eX)(q:Int):QP⊕T:=
 (if !YS q (-719162) 2932896 then(.inr (T.tup [T.int .i64 0,T.int .i64 0,T.int .i64 0,T.int .i64 2]))else(.inl (.l0 (if 9999<IntKind.i64.wrap (IntKind.i64.wrap ((IntKind.i64.wrap (q- -719162)).tdiv 365)+1)then 9999 else IntKind.i64.wrap (IntKind.i64.wrap ((IntKind.i64.wrap (q- -719162)).tdiv 365)+1)) (IntKind.i64.wrap (q- -719162)))))
def Dy(m:Int)(te:eX)(q:Int):Bool:=
 (if !YS q (-719162) 2932896 then(oQ (OX m te q))else(oQ (OY m te q)))
def aJw(m:Int)(te:eX)(q:Int):QP->Option (QP⊕T)
 | .l0 x2 x6=>YA m te q x2 x6| .l1 x2 x3 x6=>YB m te q x2 x3 x6
def yA(m:Int)(te:eX)(q:Int):uF QP where
 lp:=fun σ=>match σ with
  | .l0 .. =>0| .l1 .. =>1
 keep:=fun ι=>match ι with
  |0=>[2,6]|1=>[2,3,6]|_ =>[]
 par:=fun ι=>match ι with
  |0=>[]|1=>[]|_ =>[]
 vs:=fun σ=>match σ with
  | .l0 x2 x6=>[T.int .i64 x2,T.int .i64 x6]| .l1 x2 x3 x6=>[T.int .i64 x2,T.int .i64 x3,T.int .i64 x6]
 hp:=fun _ =>⟨0,.nl⟩
 len:=42
 step:=aJw m te q
def Xd(m:Int)(te:eX)(q x2 x6:Int)(fr:eY)(ds:fL):RD Iw:=(yA m te q).rk prog (DR m te) F0 f309 (.l0 x2 x6) fr ds
theorem aCs(m:Int)(te:eX)(q x2 x6:Int)(fr:eY):(yA m te q).wa prog f309 (Xd m te q x2 x6 fr [true]) 0 (OT m te q x2 x6) (.l0 (IntKind.i64.wrap (x2-1)) x6):=by unfold uF.wa;kernel_rfl
theorem aCt(m:Int)(te:eX)(q x2 x6:Int)(fr:eY):(yA m te q).wl prog f309 (Xd m te q x2 x6 fr [false]) 1 (OU m te q x2 x6) (.l1 x2 1 (IntKind.i64.wrap (x6-Cal.bfZ x2))):=by unfold uF.wl;kernel_rfl
def Xe(m:Int)(te:eX)(q x2 x3 x6:Int)(fr:eY)(ds:fL):RD Iw:=(yA m te q).rk prog (DR m te) F0 f309 (.l1 x2 x3 x6) fr ds
theorem aCu(m:Int)(te:eX)(q x2 x3 x6:Int)(fr:eY):(yA m te q).wa prog f309 (Xe m te q x2 x3 x6 fr [true]) 0 (OV m te q x2 x3 x6) (.l1 x2 (IntKind.i64.wrap (x3+1)) (IntKind.i64.wrap (x6-Cal.mdL (SY x2) x3))):=by unfold uF.wa;kernel_rfl
theorem aCv(m:Int)(te:eX)(q x2 x3 x6:Int)(fr:eY):rE prog f309 20 [] (Xe m te q x2 x3 x6 fr [false])=FJ (T.tup [T.int .i64 x2,T.int .i64 x3,T.int .i64 (IntKind.i64.wrap (x6+1)),T.int .i64 0]) (OW m te q x2 x3 x6):=by kernel_rfl
def Xf(m:Int)(te:eX)(q:Int)(ds:fL):RD Iw:=qC prog (DR m te) F0 2000 (.code (oZ f309)) [] 0 ([.int .i64 q]++List.replicate 41 oL) ⟨0,.nl⟩ ds []
theorem aCw(m:Int)(te:eX)(q:Int):rE prog f309 20 [] (Xf m te q [true])=FJ (T.tup [T.int .i64 0,T.int .i64 0,T.int .i64 0,T.int .i64 2]) (OX m te q):=by kernel_rfl
theorem aCx(m:Int)(te:eX)(q:Int):(yA m te q).wl prog f309 (Xf m te q [false]) 0 (OY m te q) (.l0 (if 9999<IntKind.i64.wrap (IntKind.i64.wrap ((IntKind.i64.wrap (q- -719162)).tdiv 365)+1)then 9999 else IntKind.i64.wrap (IntKind.i64.wrap ((IntKind.i64.wrap (q- -719162)).tdiv 365)+1)) (IntKind.i64.wrap (q- -719162))):=by unfold uF.wl;kernel_rfl
theorem aKk(m:Int)(te:eX)(q:Int):(yA m te q).Ways prog (DR m te) F0 f309 20:=by
 intro σ o fr h;cases σ with
 |l0 x2 x6=>
  obtain⟨hk,ho⟩:=Gd (K:=KV m te q x2 x6) (V:=HM m te q x2 x6) h;exact(yD (kA (aCs m te q x2 x6 fr) rfl) (kL (aCt m te q x2 x6 fr) rfl)) hk o ho
 |l1 x2 x3 x6=>
  obtain⟨hk,ho⟩:=Gd (K:=KW m te q x2 x3 x6) (V:=HO m te q x2 x3 x6) h;exact(yD (kA (aCu m te q x2 x3 x6 fr) rfl) (kD (aCv m te q x2 x3 x6 fr))) hk o ho
theorem aOz(m:Int)(te:eX)(q:Int):∀σ,Ps.codeOk (qF f309 ((yA m te q).lp σ)).1=true/\CE (.lp::(qF f309 ((yA m te q).lp σ)).2)=true:=aHz 2 (by kernel_rfl) (by intro σ;cases σ<;>exact Nat.le_of_ble_eq_true rfl)
theorem aQn(m:Int)(te:eX)(q:Int)(n:Nat){r:T}(hk:Dy m te q=true)(hr:(yA m te q).fin n (Ea m te q)=some r):oK prog (glZ m te) 309 [.int .i64 q] r:=
 pure_mach (M:=(yA m te q)) (fn:=f309) (k:=20) (d:=8) (c:=oZ f309) (cxR m te) (qL m te) (by kernel_rfl) func309 (by kernel_rfl) rfl (by kernel_rfl) (by kernel_rfl) (L:=41) (by kernel_rfl) (aKk m te q) (aOz m te q) ((yD (kD (aCw m te q)) (kL (aCx m te q) rfl)) hk _ rfl) hr
def HY(m:Int)(te:eX)(q s:Int):List Bool:=[decide (-9223372036854775808<=pB q),decide (pB q<=9223372036854775807),!yY q s !=0]
def PJ(m:Int)(te:eX)(q s:Int):List Bool:=let y0:=decide (0<=IntKind.i64.wrap ((↑(Lib.repeatL [48] (if 0<IntKind.i64.wrap (IntKind.i64.wrap (s+1)-(↑(oU (pB q)).length:Int))then IntKind.i64.wrap (IntKind.i64.wrap (s+1)-(↑(oU (pB q)).length:Int))else 0).toNat++oU (pB q)).length:Int)-s));let y1:=decide (IntKind.i64.wrap ((↑(Lib.repeatL [48] (if 0<IntKind.i64.wrap (IntKind.i64.wrap (s+1)-(↑(oU (pB q)).length:Int))then IntKind.i64.wrap (IntKind.i64.wrap (s+1)-(↑(oU (pB q)).length:Int))else 0).toNat++oU (pB q)).length:Int)-s)<=(↑(Lib.repeatL [48] (if 0<IntKind.i64.wrap (IntKind.i64.wrap (s+1)-(↑(oU (pB q)).length:Int))then IntKind.i64.wrap (IntKind.i64.wrap (s+1)-(↑(oU (pB q)).length:Int))else 0).toNat++oU (pB q)).length:Int));(decide ((List.drop 0 (List.take (IntKind.i64.wrap ((↑(Lib.repeatL [48] (if 0<IntKind.i64.wrap (IntKind.i64.wrap (s+1)-(↑(oU (pB q)).length:Int))then IntKind.i64.wrap (IntKind.i64.wrap (s+1)-(↑(oU (pB q)).length:Int))else 0).toNat++oU (pB q)).length:Int)-s)).toNat (Lib.repeatL [48] (if 0<IntKind.i64.wrap (IntKind.i64.wrap (s+1)-(↑(oU (pB q)).length:Int))then IntKind.i64.wrap (IntKind.i64.wrap (s+1)-(↑(oU (pB q)).length:Int))else 0).toNat++oU (pB q)))++[46]).length+(List.drop (IntKind.i64.wrap ((↑(Lib.repeatL [48] (if 0<IntKind.i64.wrap (IntKind.i64.wrap (s+1)-(↑(oU (pB q)).length:Int))then IntKind.i64.wrap (IntKind.i64.wrap (s+1)-(↑(oU (pB q)).length:Int))else 0).toNat++oU (pB q)).length:Int)-s)).toNat (List.take (Lib.repeatL [48] (if 0<IntKind.i64.wrap (IntKind.i64.wrap (s+1)-(↑(oU (pB q)).length:Int))then IntKind.i64.wrap (IntKind.i64.wrap (s+1)-(↑(oU (pB q)).length:Int))else 0).toNat++oU (pB q)).length (Lib.repeatL [48] (if 0<IntKind.i64.wrap (IntKind.i64.wrap (s+1)-(↑(oU (pB q)).length:Int))then IntKind.i64.wrap (IntKind.i64.wrap (s+1)-(↑(oU (pB q)).length:Int))else 0).toNat++oU (pB q)))).length<=vP))::y0::y1::(decide ((List.drop 0 (List.take (IntKind.i64.wrap ((↑(Lib.repeatL [48] (if 0<IntKind.i64.wrap (IntKind.i64.wrap (s+1)-(↑(oU (pB q)).length:Int))then IntKind.i64.wrap (IntKind.i64.wrap (s+1)-(↑(oU (pB q)).length:Int))else 0).toNat++oU (pB q)).length:Int)-s)).toNat (Lib.repeatL [48] (if 0<IntKind.i64.wrap (IntKind.i64.wrap (s+1)-(↑(oU (pB q)).length:Int))then IntKind.i64.wrap (IntKind.i64.wrap (s+1)-(↑(oU (pB q)).length:Int))else 0).toNat++oU (pB q)))).length+1<=vP))::y0::y1::(decide ((Lib.repeatL [48] (if 0<IntKind.i64.wrap (IntKind.i64.wrap (s+1)-(↑(oU (pB q)).length:Int))then IntKind.i64.wrap (IntKind.i64.wrap (s+1)-(↑(oU (pB q)).length:Int))else 0).toNat).length+(oU (pB q)).length<=vP))::(decide (0<=if 0<IntKind.i64.wrap (IntKind.i64.wrap (s+1)-(↑(oU (pB q)).length:Int))then IntKind.i64.wrap (IntKind.i64.wrap (s+1)-(↑(oU (pB q)).length:Int))else 0))::(decide ((if 0<IntKind.i64.wrap (IntKind.i64.wrap (s+1)-(↑(oU (pB q)).length:Int))then IntKind.i64.wrap (IntKind.i64.wrap (s+1)-(↑(oU (pB q)).length:Int))else 0)<=100))::true::(decide (s>0))::HY m te q s
def HX(m:Int)(te:eX)(q s:Int):List Bool:=[yY q s !=0]
def OC(m:Int)(te:eX)(q s:Int):List Bool:=(decide (1+(List.drop 0 (List.take (IntKind.i64.wrap ((↑(Lib.repeatL [48] (if 0<IntKind.i64.wrap (IntKind.i64.wrap (s+1)-(↑(oU (pB q)).length:Int))then IntKind.i64.wrap (IntKind.i64.wrap (s+1)-(↑(oU (pB q)).length:Int))else 0).toNat++oU (pB q)).length:Int)-s)).toNat (Lib.repeatL [48] (if 0<IntKind.i64.wrap (IntKind.i64.wrap (s+1)-(↑(oU (pB q)).length:Int))then IntKind.i64.wrap (IntKind.i64.wrap (s+1)-(↑(oU (pB q)).length:Int))else 0).toNat++oU (pB q)))++[46]++List.drop (IntKind.i64.wrap ((↑(Lib.repeatL [48] (if 0<IntKind.i64.wrap (IntKind.i64.wrap (s+1)-(↑(oU (pB q)).length:Int))then IntKind.i64.wrap (IntKind.i64.wrap (s+1)-(↑(oU (pB q)).length:Int))else 0).toNat++oU (pB q)).length:Int)-s)).toNat (List.take (Lib.repeatL [48] (if 0<IntKind.i64.wrap (IntKind.i64.wrap (s+1)-(↑(oU (pB q)).length:Int))then IntKind.i64.wrap (IntKind.i64.wrap (s+1)-(↑(oU (pB q)).length:Int))else 0).toNat++oU (pB q)).length (Lib.repeatL [48] (if 0<IntKind.i64.wrap (IntKind.i64.wrap (s+1)-(↑(oU (pB q)).length:Int))then IntKind.i64.wrap (IntKind.i64.wrap (s+1)-(↑(oU (pB q)).length:Int))else 0).toNat++oU (pB q)))).length<=vP))::(decide (q<0))::PJ m te q s
def OD(m:Int)(te:eX)(q s:Int):List Bool:=(!decide (q<0))::PJ m te q s
def OE(m:Int)(te:eX)(q s:Int):List Bool:=(decide (1+(oU (pB q)).length<=vP))::(decide (q<0))::(!decide (s>0))::HY m te q s
def OG(m:Int)(te:eX)(q s:Int):List Bool:=(!decide (q<0))::(!decide (s>0))::HY m te q s
def SH(m:Int)(te:eX)(q s:Int):Empty⊕T:=
 (if yY q s !=0 then(.inr (T.tup [T.str [],T.int .i64 (yY q s)]))else(if decide (s>0)then(if decide (q<0)then(.inr (T.tup [T.str (45::(List.drop 0 (List.take (IntKind.i64.wrap ((↑(Lib.repeatL [48] (if 0<IntKind.i64.wrap (IntKind.i64.wrap (s+1)-(↑(oU (pB q)).length:Int))then IntKind.i64.wrap (IntKind.i64.wrap (s+1)-(↑(oU (pB q)).length:Int))else 0).toNat++oU (pB q)).length:Int)-s)).toNat (Lib.repeatL [48] (if 0<IntKind.i64.wrap (IntKind.i64.wrap (s+1)-(↑(oU (pB q)).length:Int))then IntKind.i64.wrap (IntKind.i64.wrap (s+1)-(↑(oU (pB q)).length:Int))else 0).toNat++oU (pB q)))++[46]++List.drop (IntKind.i64.wrap ((↑(Lib.repeatL [48] (if 0<IntKind.i64.wrap (IntKind.i64.wrap (s+1)-(↑(oU (pB q)).length:Int))then IntKind.i64.wrap (IntKind.i64.wrap (s+1)-(↑(oU (pB q)).length:Int))else 0).toNat++oU (pB q)).length:Int)-s)).toNat (List.take (Lib.repeatL [48] (if 0<IntKind.i64.wrap (IntKind.i64.wrap (s+1)-(↑(oU (pB q)).length:Int))then IntKind.i64.wrap (IntKind.i64.wrap (s+1)-(↑(oU (pB q)).length:Int))else 0).toNat++oU (pB q)).length (Lib.repeatL [48] (if 0<IntKind.i64.wrap (IntKind.i64.wrap (s+1)-(↑(oU (pB q)).length:Int))then IntKind.i64.wrap (IntKind.i64.wrap (s+1)-(↑(oU (pB q)).length:Int))else 0).toNat++oU (pB q))))),T.int .i64 0]))else(.inr (T.tup [T.str (List.drop 0 (List.take (IntKind.i64.wrap ((↑(Lib.repeatL [48] (if 0<IntKind.i64.wrap (IntKind.i64.wrap (s+1)-(↑(oU (pB q)).length:Int))then IntKind.i64.wrap (IntKind.i64.wrap (s+1)-(↑(oU (pB q)).length:Int))else 0).toNat++oU (pB q)).length:Int)-s)).toNat (Lib.repeatL [48] (if 0<IntKind.i64.wrap (IntKind.i64.wrap (s+1)-(↑(oU (pB q)).length:Int))then IntKind.i64.wrap (IntKind.i64.wrap (s+1)-(↑(oU (pB q)).length:Int))else 0).toNat++oU (pB q)))++[46]++List.drop (IntKind.i64.wrap ((↑(Lib.repeatL [48] (if 0<IntKind.i64.wrap (IntKind.i64.wrap (s+1)-(↑(oU (pB q)).length:Int))then IntKind.i64.wrap (IntKind.i64.wrap (s+1)-(↑(oU (pB q)).length:Int))else 0).toNat++oU (pB q)).length:Int)-s)).toNat (List.take (Lib.repeatL [48] (if 0<IntKind.i64.wrap (IntKind.i64.wrap (s+1)-(↑(oU (pB q)).length:Int))then IntKind.i64.wrap (IntKind.i64.wrap (s+1)-(↑(oU (pB q)).length:Int))else 0).toNat++oU (pB q)).length (Lib.repeatL [48] (if 0<IntKind.i64.wrap (IntKind.i64.wrap (s+1)-(↑(oU (pB q)).length:Int))then IntKind.i64.wrap (IntKind.i64.wrap (s+1)-(↑(oU (pB q)).length:Int))else 0).toNat++oU (pB q)))),T.int .i64 0])))else(if decide (q<0)then(.inr (T.tup [T.str (45::(oU (pB q))),T.int .i64 0]))else(.inr (T.tup [T.str (oU (pB q)),T.int .i64 0])))))
def SG(m:Int)(te:eX)(q s:Int):Bool:=
 (if yY q s !=0 then(oQ (HX m te q s))else(if decide (s>0)then(if decide (q<0)then(oQ (OC m te q s))else(oQ (OD m te q s)))else(if decide (q<0)then(oQ (OE m te q s))else(oQ (OG m te q s)))))
def MW(m:Int)(te:eX)(q s:Int)(ds:fL):RD Iw:=qC prog (DR m te) F0 2000 (.code (oZ f259)) [] 0 ([.agg [.int .i64 q,.int .i64 s]]++List.replicate 49 oL) ⟨0,.nl⟩ ds []
theorem aCd(m:Int)(te:eX)(q s:Int):rE prog f259 20 [] (MW m te q s [true])=FJ (T.tup [T.str [],T.int .i64 (yY q s)]) (HX m te q s):=by kernel_rfl
theorem aCe(m:Int)(te:eX)(q s:Int):rE prog f259 20 [] (MW m te q s [false,true,true])=FJ (T.tup [T.str (45::(List.drop 0 (List.take (IntKind.i64.wrap ((↑(Lib.repeatL [48] (if 0<IntKind.i64.wrap (IntKind.i64.wrap (s+1)-(↑(oU (pB q)).length:Int))then IntKind.i64.wrap (IntKind.i64.wrap (s+1)-(↑(oU (pB q)).length:Int))else 0).toNat++oU (pB q)).length:Int)-s)).toNat (Lib.repeatL [48] (if 0<IntKind.i64.wrap (IntKind.i64.wrap (s+1)-(↑(oU (pB q)).length:Int))then IntKind.i64.wrap (IntKind.i64.wrap (s+1)-(↑(oU (pB q)).length:Int))else 0).toNat++oU (pB q)))++[46]++List.drop (IntKind.i64.wrap ((↑(Lib.repeatL [48] (if 0<IntKind.i64.wrap (IntKind.i64.wrap (s+1)-(↑(oU (pB q)).length:Int))then IntKind.i64.wrap (IntKind.i64.wrap (s+1)-(↑(oU (pB q)).length:Int))else 0).toNat++oU (pB q)).length:Int)-s)).toNat (List.take (Lib.repeatL [48] (if 0<IntKind.i64.wrap (IntKind.i64.wrap (s+1)-(↑(oU (pB q)).length:Int))then IntKind.i64.wrap (IntKind.i64.wrap (s+1)-(↑(oU (pB q)).length:Int))else 0).toNat++oU (pB q)).length (Lib.repeatL [48] (if 0<IntKind.i64.wrap (IntKind.i64.wrap (s+1)-(↑(oU (pB q)).length:Int))then IntKind.i64.wrap (IntKind.i64.wrap (s+1)-(↑(oU (pB q)).length:Int))else 0).toNat++oU (pB q))))),T.int .i64 0]) (OC m te q s):=by kernel_rfl
theorem aCf(m:Int)(te:eX)(q s:Int):rE prog f259 20 [] (MW m te q s [false,true,false])=FJ (T.tup [T.str (List.drop 0 (List.take (IntKind.i64.wrap ((↑(Lib.repeatL [48] (if 0<IntKind.i64.wrap (IntKind.i64.wrap (s+1)-(↑(oU (pB q)).length:Int))then IntKind.i64.wrap (IntKind.i64.wrap (s+1)-(↑(oU (pB q)).length:Int))else 0).toNat++oU (pB q)).length:Int)-s)).toNat (Lib.repeatL [48] (if 0<IntKind.i64.wrap (IntKind.i64.wrap (s+1)-(↑(oU (pB q)).length:Int))then IntKind.i64.wrap (IntKind.i64.wrap (s+1)-(↑(oU (pB q)).length:Int))else 0).toNat++oU (pB q)))++[46]++List.drop (IntKind.i64.wrap ((↑(Lib.repeatL [48] (if 0<IntKind.i64.wrap (IntKind.i64.wrap (s+1)-(↑(oU (pB q)).length:Int))then IntKind.i64.wrap (IntKind.i64.wrap (s+1)-(↑(oU (pB q)).length:Int))else 0).toNat++oU (pB q)).length:Int)-s)).toNat (List.take (Lib.repeatL [48] (if 0<IntKind.i64.wrap (IntKind.i64.wrap (s+1)-(↑(oU (pB q)).length:Int))then IntKind.i64.wrap (IntKind.i64.wrap (s+1)-(↑(oU (pB q)).length:Int))else 0).toNat++oU (pB q)).length (Lib.repeatL [48] (if 0<IntKind.i64.wrap (IntKind.i64.wrap (s+1)-(↑(oU (pB q)).length:Int))then IntKind.i64.wrap (IntKind.i64.wrap (s+1)-(↑(oU (pB q)).length:Int))else 0).toNat++oU (pB q)))),T.int .i64 0]) (OD m te q s):=by kernel_rfl
theorem aCg(m:Int)(te:eX)(q s:Int):rE prog f259 20 [] (MW m te q s [false,false,true])=FJ (T.tup [T.str (45::(oU (pB q))),T.int .i64 0]) (OE m te q s):=by kernel_rfl
theorem aCh(m:Int)(te:eX)(q s:Int):rE prog f259 20 [] (MW m te q s [false,false,false])=FJ (T.tup [T.str (oU (pB q)),T.int .i64 0]) (OG m te q s):=by kernel_rfl
theorem aQm(m:Int)(te:eX)(q s:Int)(n:Nat){r:T}(hk:SG m te q s=true)(hr:xF.fin n (SH m te q s)=some r):oK prog (glZ m te) 259 [.agg [.int .i64 q,.int .i64 s]] r:=
 pure_mach (M:=xF) (fn:=f259) (k:=20) (d:=8) (c:=oZ f259) (cxR m te) (qL m te) (by kernel_rfl) func259 (by kernel_rfl) rfl (by kernel_rfl) (by kernel_rfl) (L:=49) (by kernel_rfl) qY (fun σ=>σ.elim) ((yD (kD (aCd m te q s)) (yD (yD (kD (aCe m te q s)) (kD (aCf m te q s))) (yD (kD (aCg m te q s)) (kD (aCh m te q s))))) hk _ rfl) hr
end
end Go.Proofs.Tryz
namespace Go.Ps
noncomputable section
inductive pO where
 |le (x y:Nat) (c:Int)
 |ne (x y:Nat) (c:Int)
inductive Bo where
 |lit (b:Bool)
 |imp (p n:List pO)
inductive A where
 |top
 |any
 |int (k:gB) (s:Nat) (c:Int)
 |ival (k:gB) (lo hi:Int)
 |bool (b:Bo)
 |strc (s:fV)
 |str (s:Nat) (c:Int)
 |strv (lo hi:Int)
 |nilp
 |nils
 |nilf
 |nili
 |nilm
 |mp (l:Nat)
 |yl (l:Nat)
 |ptr (l off:Nat)
 |elp (l sz s:Nat) (c:Int) (off:Nat)
 |ref (x:A) (off:Nat)
 |sl (e:A) (s:Nat) (c:Int)
 |slv (e:A) (lo hi:Int)
 |slk (es:List A)
 |slp (q:Nat) (e:A) (s:Nat) (c:Int)
 |slpv (q:Nat) (e:A) (lo hi:Int)
 |sx (s:Nat) (c:Int)
 |sxv (lo hi:Int)
 |osl (l sz si:Nat) (ci:Int) (s:Nat) (c:Int)
 |fn (f:fT) (first cap:List A)
 |iface (t:eX) (x:A)
 |ifc
 |or (a_s:List A)
 |agg (cs:List A)
 |prd (q:Nat) (cs:List A)
 |tup (xs:List A)
instance:Inhabited A:=⟨.top⟩
inductive TA where
 |a (a:A)
 |row (elem:eX) (sz:Nat) (e:A) (lo hi:Int)
inductive YV where
 |slot (d:Tmp)
 |cell (d j:Nat)
 |ghost
 |zero
inductive aDk where
 |down (p:YV)
 |up (p q:YV) (c:Int)
structure LA where
 sp:List (Tmp×TA):=[]
 oc:List (Tmp×Nat×TA):=[]
 cons:List (YV×YV×Int):=[]
 ms:aDk
 m0:Int:=4000000000000000000
 gk:Nat:=1
inductive An where
 |leaf
 |node (l r:An)
 |loop (la:LA) (b:An)
 |unl (bs:List An)
def An.l:An->An
 | .node l _ =>l|_ => .leaf
def An.r:An->An
 | .node _ r=>r|_ => .leaf
abbrev iK:=Option (Option Nat)
inductive AO where
 |fix (elem:eX) (cells:List A)
 |row (elem:eX) (sz:Nat) (e:A) (s:Nat) (c:Int)
 |map (es:List (Int×A))
 |loop (st:LoopState) (pe:iK) (fr:List A) (ps:jD) (asg bd:Code) (ow:fX) (aa ab:An)
structure AS where
 fr:List A
 hp:List (Nat×AO)
 nx:Nat
 nl:Nat
 cs:List pO
def A.flat:A->Bool
 | .top| .agg _ | .tup _ | .or _ | .prd .. =>false|_ =>true
def A.unp:A->A
 | .slp _ e s c=> .sl e s c|a=>a
def KZ:List A->Bool
 |[]=>true|a::a_s=>a.flat&&KZ a_s
def A.one:A->Bool
 | .or a_s=>KZ a_s|a=>a.flat
def A.known:A->Bool
 | .agg _ | .tup _ | .prd .. =>true|a=>a.one
def A.cells:A->List A
 | .agg cs=>cs| .prd _ cs=>cs|a=>[a]
def A.isAgg:A->Bool
 | .agg _ | .prd .. =>true|_ =>false
def uX:List A->Bool
 |[]=>true|a::a_s=>a.one&&uX a_s
def sU(a b:Int):Bool:=decide (a<=b)
def aGb(cs:List pO):Nat->Nat->Nat->Int->Bool
 |0,x,y,c=>Nat.beq x y&&sU 0 c
 | n+1,x,y,c=>if Nat.beq x y then sU 0 c else if Nat.beq x 0 then cs.any fun q=>match q with
   | .le a b d=>Nat.beq a 0&&(Nat.beq b y&&sU d c)| .ne .. =>false
  else cs.any fun q=>match q with
   | .le a b d=>Nat.beq a x&&aGb cs n b y (c-d)| .ne .. =>false
def aDx(cs:List pO):Nat->Nat->Int->Bool
 |0,y,c=>Nat.beq 0 y&&sU 0 c
 |n+1,y,c=>if Nat.beq 0 y then sU 0 c else cs.any fun q=>match q with
  | .le a b d=>Nat.beq b y&&aDx cs n a (c-d)| .ne .. =>false
def prv(cs:List pO)(n x y:Nat)(c:Int):Bool:=if Nat.beq x 0 then aDx cs n y c else aGb cs n x y c
def pf:Nat:=3
def leq(cs:List pO)(x:Nat)(a:Int)(y:Nat)(b:Int):Bool:=prv cs pf x y (b-a)
def inK(cs:List pO)(k:gB)(s:Nat)(c:Int):Bool:=leq cs 0 k.min s c&&leq cs s c 0 k.max
def DY:List pO->List pO->Option (List pO)
 |cs,[]=>some cs|cs,.le x y c::r=>if prv cs pf y x (-c-1)then none else DY (.le x y c::cs) r
 | cs,.ne x y c::r=>if prv cs pf x y c then(if prv cs pf y x (-c)then none else DY (.le x y (c-1)::cs) r)
   else if prv cs pf y x (-c)then DY (.le y x (-c-1)::cs) r else DY cs r
def Bo.not:Bo->Bo
 | .lit b=> .lit (!b)| .imp p n=> .imp n p
def Qc(cs:List pO)(x y:Nat)(c:Int):Bo:=
 if prv cs pf x y c then .lit true else if prv cs pf y x (-c-1)then .lit false else .imp [.le x y c] [.le y x (-c-1)]
def Ys(cs:List pO)(x y:Nat)(c:Int):Bo:=
 if prv cs pf x y c&&prv cs pf y x (-c)then .lit true
 else if prv cs pf x y (c-1)||prv cs pf y x (-c-1)then .lit false
 else .imp [.le x y c,.le y x (-c)] [.ne x y c]
def rJ:Bo:= .imp [] []
def KP(cs:List pO):Bo->List (Bool×List pO)
 | .lit b=>[(b,cs)]
 | .imp p n=>(match DY cs p with
   |some c=>[(true,c)]|none=>[])++(match DY cs n with
   |some c=>[(false,c)]|none=>[])
def oO:List (Nat×AO)->Nat->Option AO
 |[],_ =>none|(m,o)::r,l=>if Nat.beq m l then some o else oO r l
def AB:List (Nat×AO)->Nat->AO->List (Nat×AO)
 |[],_,_ =>[]|(m,o)::r,l,o'=>if Nat.beq m l then(m,o')::AB r l o' else(m,o)::AB r l o'
def vL:List (Nat×AO)->Nat->List (Nat×AO)
 |[],_ =>[]|(m,o)::r,l=>if Nat.beq m l then vL r l else(m,o)::vL r l
def zU(fr:List A):Tmp->A:=List.rec (motive:=fun _ =>Nat->A) (fun _ => .tup []) (fun x _ ih n=>Nat.rec (motive:=fun _ =>A) x (fun m _ =>ih m) n) fr
def setS(v:A)(fr:List A):Nat->List A:=List.rec (motive:=fun _ =>Nat->List A) (fun _ =>[]) (fun x xs ih n=>Nat.rec (motive:=fun _ =>List A) (v::xs) (fun m _ =>x::ih m) n) fr
def IH:Value->Option A
 | .int k n=>if sU k.min n&&sU n k.max then some (.int k 0 n)else none
 | .bool b=>some (.bool (.lit b))| .string s=>some (.strc s.data.toList)| .pointer none=>some .nilp| .slice none 0 0=>some .nils| .nilFunc=>some .nilf| .nilIface=>some .nili| .map none=>some .nilm|_ =>none
def GV:List Value->Option (List A)
 |[]=>some []
 |v::vs=>match IH v with
  |some t=>match GV vs with
   |some ts=>some (t::ts)|none=>none
  |none=>none
def GW:Value->Option A
 | .agg cs=>match GV cs.toList with
  |some ts=>some (.agg ts)|none=>none
 | .tuple vs=>match vs.toList with
  |[]=>some (.tup [])|_ =>none
 |v=>IH v
def HL(P:fA)(t:eX):Option A:=
 match P.info? t with
 |some i=>match i.zero with
  |some v=>GW v|none=>none
 |none=>none
def NY(gl:Nat->Option A)(fr:List A):Operand->Option A
 | .tmp t=>some (zU fr t)| .const v=>GW v| .global g=>gl g| .func f=>some (.fn f [] [])
def CU(gl:Nat->Option A)(fr:List A):List Operand->Option (List A)
 |[]=>some []
 |x::xs=>match NY gl fr x with
  |some t=>match CU gl fr xs with
   |some ts=>some (t::ts)|none=>none
  |none=>none
def Gj:A->Nat->List pO->A×Nat×List pO
 | .ival k lo hi,n,cs=>if sU hi lo then(.int k 0 lo,n,cs)else(.int k n 0,n+1,.le 0 n (-lo):: .le n 0 hi::cs)
 | .strv lo hi,n,cs=>(.str n 0,n+1,.le 0 n (-lo):: .le n 0 hi::cs)| .slv e lo hi,n,cs=>(.sl e n 0,n+1,.le 0 n (-lo):: .le n 0 hi::cs)| .slpv q e lo hi,n,cs=>(.slp q e n 0,n+1,.le 0 n (-lo):: .le n 0 hi::cs)| .sxv lo hi,n,cs=>(.sx n 0,n+1,.le 0 n (-lo):: .le n 0 hi::cs)|a,n,cs=>(a,n,cs)
def aHl:List A->Nat->List pO->List A×Nat×List pO
 |[],n,cs=>([],n,cs)
 |a::a_s,n,cs=>match Gj a n cs with
  |(b,n1,cs1)=>match aHl a_s n1 cs1 with
   |(bs,n2,cs2)=>(b::bs,n2,cs2)
def Lw:A->Nat->List pO->A×Nat×List pO
 | .agg a_s,n,cs=>match aHl a_s n cs with
  |(bs,n1,cs1)=>(.agg bs,n1,cs1)
 |a,n,cs=>Gj a n cs
def Ly:List A->Nat->List pO->List A×Nat×List pO
 |[],n,cs=>([],n,cs)
 |a::a_s,n,cs=>match Lw a n cs with
  |(b,n1,cs1)=>match Ly a_s n1 cs1 with
   |(bs,n2,cs2)=>(b::bs,n2,cs2)
def mat:A->Nat->List pO->A×Nat×List pO
 | .tup a_s,n,cs=>match Ly a_s n cs with
  |(bs,n1,cs1)=>(.tup bs,n1,cs1)
 |a,n,cs=>Lw a n cs
structure AV where
 a:A
 nx:Nat
 cs:List pO
def uK(a:A)(n:Nat)(cs:List pO):AV:=match mat a n cs with|(b,n1,cs1)=>⟨b,n1,cs1⟩
def Lo(n:Nat)(cs:List pO)(k:gB)(s:Nat)(c:Int):AV:=
 if inK cs k s c then⟨.int k s c,n,cs⟩else uK (.ival k k.min k.max) n cs
def QK(cs:List pO)(s:Nat)(c:Int):Bool:=leq cs 0 (-1000000000000000000) s c&&leq cs s c 0 1000000000000000000
def UM(b:Bool)(q:pO)(cs:List pO):List pO:=if b then q::cs else cs
def ubS(s:Nat):List pO->Option Int
 |[]=>if Nat.beq s 0 then some 0 else none
 | .le x y d::r=>if Nat.beq x s&&Nat.beq y 0 then(match ubS s r with
  |some u=>some (if sU d u then d else u)
  |none=>some d)else ubS s r
 |_ ::r=>ubS s r
def Zy(s:Nat):List pO->Option Int
 |[]=>if Nat.beq s 0 then some 0 else none
 | .le x y d::r=>if Nat.beq y s&&Nat.beq x 0 then(match Zy s r with
  |some u=>some (if sU u (-d)then-d else u)
  |none=>some (-d))else Zy s r
 |_ ::r=>Zy s r
def ub2(c0:List pO)(s:Nat):List pO->Option Int
 |[]=>if Nat.beq s 0 then some 0 else none
 | .le x y d::r=>if Nat.beq x s then(match(if Nat.beq y 0 then some 0 else ubS y c0)with
  |some w=>match ub2 c0 s r with
   |some u=>some (if sU (w+d) u then w+d else u)
   |none=>some (w+d)
  |none=>ub2 c0 s r)else ub2 c0 s r
 |_ ::r=>ub2 c0 s r
def ub(s:Nat)(cs:List pO):Option Int:=ub2 cs s cs
def aDp:Option Int->Option Int->Int->Option Int
 |some a,some b,c=>some (a+b+c)|_,_,_ =>none
def aPw:Option Int->Option Int->Int->Option Int
 |some a,some b,c=>some (a-b+c)|_,_,_ =>none
def upN(n:Nat)(r:List pO):Option Int->List pO
 |some u=> .le n 0 u::r|none=> .le n 0 2000000000000000000::r
def loN(n:Nat)(r:List pO):Option Int->List pO
 |some l=> .le 0 n (-l)::r|none=> .le 0 n 2000000000000000000::r
def aNd(n s:Nat)(c:Int)(r:List pO):Option Int->List pO
 |some u=>if sU u 1000000 then .le n s (u+c)::r else r
 |none=>r
def aSi(n:Nat)(cs:List pO)(k:gB)(s1:Nat)(c1:Int)(s2:Nat)(c2:Int):AV:=
 if Nat.beq s2 0 then Lo n cs k s1 (c1+c2)
 else if Nat.beq s1 0 then Lo n cs k s2 (c1+c2)
 else if k== .i64&&QK cs s1 c1&&QK cs s2 c2 then
  ⟨.int k n 0,n+1,UM (leq cs 0 0 s1 c1) (.le s2 n (if leq cs 0 1 s1 c1 then-c2-1 else-c2)) (UM (leq cs 0 0 s2 c2) (.le s1 n (if leq cs 0 1 s2 c2 then-c1-1 else-c1)) (loN n (upN n (aNd n s1 (c1+c2) (aNd n s2 (c1+c2) cs (ub s1 cs)) (ub s2 cs)) (aDp (ub s1 cs) (ub s2 cs) (c1+c2))) (aDp (Zy s1 cs) (Zy s2 cs) (c1+c2))))⟩
 else uK (.ival k k.min k.max) n cs
def aWf(n:Nat)(cs:List pO)(k:gB)(s1:Nat)(c1:Int)(s2:Nat)(c2:Int):AV:=
 if Nat.beq s2 0 then Lo n cs k s1 (c1-c2)
 else if Nat.beq s1 s2 then Lo n cs k 0 (c1-c2)
 else if k== .i64&&QK cs s1 c1&&QK cs s2 c2 then
  ⟨.int k n 0,n+1,UM (leq cs 0 0 s2 c2) (.le n s1 c1) (UM (leq cs s2 c2 s1 c1) (.le 0 n 0) (loN n (upN n cs (aPw (ub s1 cs) (Zy s2 cs) (c1-c2))) (aPw (Zy s1 cs) (ub s2 cs) (c1-c2))))⟩
 else uK (.ival k k.min k.max) n cs
def WO:Option T->Option A
 |some (.int k n)=>if sU k.min n&&sU n k.max then some (.int k 0 n)else none
 |some (.bool b)=>some (.bool (.lit b))|_ =>none
def aUv(n:Nat)(cs:List pO)(k:gB)(s1:Nat)(c1:Int)(s2:Nat)(c2:Int):AV:=
 match Zy s1 cs,ubS s1 cs,Zy s2 cs,ubS s2 cs with
 |some l1,some u1,some l2,some u2=>if sU 0 (l1+c1)&&(sU 0 (l2+c2)&&sU ((u1+c1)*(u2+c2)) k.max)then uK (.ival k ((l1+c1)*(l2+c2)) ((u1+c1)*(u2+c2))) n cs else uK (.ival k k.min k.max) n cs
 |_,_,_,_ =>uK (.ival k k.min k.max) n cs
def aUz(n:Nat)(cs:List pO)(k:gB)(s:Nat)(c:Int):AV:=
 match Zy s cs with
 | some l=>if k== .i64&&sU (-9223372036854775807) (l+c)then uK (.ival .i64 (match ubS s cs with
   |some u=>-(u+c)|none=>-9223372036854775808) (-(l+c))) n cs else uK (.ival k k.min k.max) n cs
 |none=>uK (.ival k k.min k.max) n cs
def ubM(cs:List pO)(n s:Nat)(c:Int)(s':Nat)(c':Int)(r:List pO):List pO:=match ubS s cs,ubS s' cs with
 |some u,some u'=> .le n 0 (if sU (u+c) (u'+c')then u'+c' else u+c)::r
 |_,_ =>r
def aMn(n:Nat)(cs:List pO)(op:iI)(k:gB)(s1:Nat)(c1:Int)(s2:Nat)(c2:Int):Option AV:=
 match op with
 | .mul=>some (aUv n cs k s1 c1 s2 c2)| .and| .or| .xor| .andNot=>some (uK (.ival k k.min k.max) n cs)
 | .quo=>if Nat.beq s2 0&&sU 1 c2&&leq cs 0 0 s1 c1 then
    some ⟨.int k n 0,n+1,.le 0 n 0:: .le n s1 c1:: .le n 0 (match ubS s1 cs with
     |some u=>(u+c1)/c2|none=>k.max)::cs⟩
   else if leq cs 0 1 s2 c2||leq cs s2 c2 0 (-1)then some (uK (.ival k k.min k.max) n cs)else none
 | .rem=>if Nat.beq s2 0&&sU 1 c2 then
    if leq cs 0 0 s1 c1 then some ⟨.int k n 0,n+1,.le 0 n 0:: .le n s1 c1:: .le n 0 (c2-1)::cs⟩
    else some ⟨.int k n 0,n+1,.le 0 n (c2-1):: .le n 0 (c2-1)::cs⟩
   else if leq cs 0 1 s2 c2||leq cs s2 c2 0 (-1)then some (uK (.ival k k.min k.max) n cs)else none
 |_ =>none
def aUb(n:Nat)(cs:List pO)(op:iI)(k:gB)(s1:Nat)(c1:Int)(s2:Nat)(c2:Int):Option AV:=
 match op with
 | .add=>some (aSi n cs k s1 c1 s2 c2)| .sub=>some (aWf n cs k s1 c1 s2 c2)| .eql=>some ⟨.bool (Ys cs s1 s2 (c2-c1)),n,cs⟩| .neq=>some ⟨.bool (Ys cs s1 s2 (c2-c1)).not,n,cs⟩| .lss=>some ⟨.bool (Qc cs s1 s2 (c2-c1-1)),n,cs⟩| .leq=>some ⟨.bool (Qc cs s1 s2 (c2-c1)),n,cs⟩| .gtr=>some ⟨.bool (Qc cs s2 s1 (c1-c2-1)),n,cs⟩| .geq=>some ⟨.bool (Qc cs s2 s1 (c1-c2)),n,cs⟩
 |op=>match(if Nat.beq s1 0&&Nat.beq s2 0 then WO (uV op k c1 c2)else none)with
  |some a=>some ⟨a,n,cs⟩|none=>aMn n cs op k s1 c1 s2 c2
def Ig(n:Nat)(cs:List pO)(op:iI)(k:gB)(s1:Nat)(c1:Int)(s2:Nat)(c2:Int):Option AV:=
 match(if Nat.beq s1 0&&Nat.beq s2 0 then WO (vU op k c1 c2)else none)with
 |some a=>some ⟨a,n,cs⟩
 | none=>if leq cs 0 0 s2 c2 then match op with
   | .shl=>some (uK (.ival k k.min k.max) n cs)| .shr=>if leq cs 0 0 s1 c1 then some ⟨.int k n 0,n+1,.le 0 n 0:: .le n s1 c1:: .le n 0 k.max::cs⟩else none
   |_ =>none
  else none
def KA:A->Option (Nat×Int)
 | .strc s=>some (0,s.length)| .str s c=>some (s,c)|_ =>none
def FV:A->Bool
 | .strc []=>true|_ =>false
def Un(cs:List pO)(a b:A)(s1:Nat)(c1:Int)(s2:Nat)(c2:Int):Bo:=
 match a,b with
 | .strc x,.strc y=> .lit (x==y)
 |a,b=>match Ys cs s1 s2 (c2-c1)with
  | .lit false=> .lit false| .lit true=>if FV a||FV b then .lit true else rJ
  | .imp p q=>if FV a||FV b then .imp p q else .imp p []
def aWc(n:Nat)(cs:List pO)(op:iI)(a b:A):Option AV:=
 match KA a,KA b with
 |some (s1,c1),some (s2,c2)=>
  match op with
  | .add=>
   match a,b with
   | .strc x,.strc y=>if sU (x.length+y.length) vP then some ⟨.strc (x++y),n,cs⟩else none
   | _,_ =>if leq cs 0 0 s1 c1&&leq cs 0 0 s2 c2&&leq cs s1 c1 0 1000000000000000000&&leq cs s2 c2 0 1000000000000000000 then
     if Nat.beq s2 0 then some ⟨.str s1 (c1+c2),n,cs⟩
     else if Nat.beq s1 0 then some ⟨.str s2 (c1+c2),n,cs⟩
     else some ⟨.str n 0,n+1,.le s1 n (-c1):: .le s2 n (-c2):: .le 0 n 0::upN n cs (aDp (ub s1 cs) (ub s2 cs) (c1+c2))⟩
    else none
  | .eql=>some ⟨.bool (Un cs a b s1 c1 s2 c2),n,cs⟩| .neq=>some ⟨.bool (Un cs a b s1 c1 s2 c2).not,n,cs⟩| .lss| .leq| .gtr| .geq=>some ⟨.bool rJ,n,cs⟩|_ =>none
 |_,_ =>none
def Zf(P:fA)(t:eX)(x y:A):Option Bo:=
 match P.underlying t,x,y with
 |some .bool,.bool (.lit a),.bool (.lit b)=>some (.lit (a==b))|some .bool,.bool _,.bool _ =>some rJ|some (.pointer _),.nilp,y=>(nilP y).map .lit|some (.pointer _),x,.nilp=>(nilP x).map .lit|some (.interface _),.nili,.or a_s=>if ifaces a_s then some rJ else none
 |some (.interface _),.or a_s,.nili=>if ifaces a_s then some rJ else none
 |some (.interface _),.nili,y=>(nilI y).map .lit|some (.interface _),x,.nili=>(nilI x).map .lit|some (.func ..),.nilf,y=>(nilF y).map .lit|some (.func ..),x,.nilf=>(nilF x).map .lit|_,_,_ =>none
 where
 nilP:A->Option Bool
  | .nilp=>some true| .ptr .. | .ref .. | .elp .. =>some false|_ =>none
 nilI:A->Option Bool
  | .nili=>some true| .iface .. | .ifc=>some false|_ =>none
 nilF:A->Option Bool
  | .nilf=>some true| .fn .. =>some false|_ =>none
 ifaces:List A->Bool
  |[]=>true|a::a_s=>(nilI a).isSome&&ifaces a_s
def Gl(X Y:gF)(a b:A):Bool:=FU X||FU Y||(match a,b with
 | .int ..,_ | .bool ..,_ | .str ..,_ | .strc ..,_ |_,.int .. |_,.bool .. |_,.str .. |_,.strc .. | .nilp,_ |_,.nilp| .nilf,_ |_,.nilf=>true|_,_ =>false)
def aSo(P:fA)(n:Nat)(cs:List pO)(op:iI)(t:eX)(x y:A):Option AV:=
 match x,y with
 | .int k s1 c1,.int k' s2 c2=>match op with
  | .shl=>Ig n cs .shl k s1 c1 s2 c2| .shr=>Ig n cs .shr k s1 c1 s2 c2|op=>if k==k' then aUb n cs op k s1 c1 s2 c2 else none
 |x,y=>match(match op with| .eql=>(Zf P t x y)| .neq=>(Zf P t x y).map Bo.not|_ =>none)with
  |some b=>some ⟨.bool b,n,cs⟩|none=>aWc n cs op x y
def unA(n:Nat)(cs:List pO)(op:UnOp)(x:A):Option AV:=
 match op,x with
 | .neg,.int k s c=>if Nat.beq s 0 then some (Lo n cs k 0 (-c))else some (aUz n cs k s c)
 | .not,.bool b=>some ⟨.bool b.not,n,cs⟩|_,_ =>none
def aEp(P:fA)(n:Nat)(cs:List pO)(src dst:eX)(x:A):Option AV:=
 match P.underlying src,P.underlying dst,x with
 |some _,some (.int k),.int _ s c=>some (Lo n cs k s c)|some _,some .string,.str s c=>some ⟨.str s c,n,cs⟩|some _,some .string,.strc s=>some ⟨.strc s,n,cs⟩
 |some _,some (.slice e),x=>match KA x,P.underlying e with
  |some (s,c),some (.int .u8)=>if leq cs s c 0 70368744177664 then some ⟨.sl (.ival .u8 0 255) s c,n,cs⟩else none
  |_,_ =>none
 |_,_,_ =>none
def RL(P:fA)(t:eX)(cs:List A)(off:Nat):Option A:=
 match FL P t with
 |some true=>match tT P t with
  |some n=>if off+n<=cs.length then some (.agg ((cs.drop off).take n))else none
  |none=>none
 |some false=>cs[off]?|none=>none
def aIj(P:fA)(t:eX)(x:A)(off:Nat):Option A:=
 match x with
 | .prd q cs=>if Nat.beq off 0&&(FL P t==some true)&&(tT P t==some cs.length)then some (.prd q cs)else RL P t cs off
 |x=>RL P t x.cells off
abbrev fJ:=List (Nat×AO)
def Wl(P:fA)(hp:fJ)(n:Nat)(cs:List pO)(t:eX)(a:A):Option AV:=
 match a with
 | .ref x off=>if x.known then(aIj P t x off).map fun y=>uK y n cs else none
 | .ptr l off=>match oO hp l with
  |some (.fix _ xs)=>(RL P t xs off).map fun y=>uK y n cs|_ =>none
 | .elp l sz s c off=>match oO hp l with
  | some (.row _ sz' e s' c')=>if Nat.beq sz sz'&&e.known&&Nat.beq e.cells.length sz&&leq cs s (c+1) s' c' then
    (RL P t e.cells off).map fun y=>uK y n cs
   else none
  |_ =>none
 |_ =>none
def VF(k:Int):List (Int×A)->Option A
 |[]=>none|(j,a)::r=>if j==k then some a else VF k r
def Gg(P:fA)(hp:fJ)(t:eX)(x k:A)(ok:Bool):Option A:=
 match x,k with
 | .mp l,.int ik s c=>if ik== .i64&&Nat.beq s 0 then match oO hp l with
   |some (.map es)=>match P.underlying t with
    |some (.map kt et)=>match P.underlying kt with
     |some (.int _)=>match VF c es with
      |some a=>some (if ok then .tup [a,.bool (.lit true)]else a)
      |none=>match HL P et with
       |some z=>some (if ok then .tup [z,.bool (.lit false)]else z)
       |none=>none
     |_ =>none
    |_ =>none
   |_ =>none
  else none
 |_,_ =>none
def Ui:A->Nat->Option A
 | .ref x off,n=>some (.ref x (off+n))| .ptr l off,n=>some (.ptr l (off+n))| .elp l sz s c off,n=>some (.elp l sz s c (off+n))|_,_ =>none
def JS(P:fA)(s:eX)(x:A)(f:Nat):Option A:=
 match FY P s f with
 |some fd=>match tT P fd.type with
  |some n=>if n=0 then none else Ui x fd.offset
  |none=>none
 |none=>none
def aBu(s1:Nat)(c1:Int)(s2:Nat)(c2:Int):Option (Nat×Int):=
 if Nat.beq s2 0 then some (s1,c1+c2)else if Nat.beq s1 0 then some (s2,c1+c2)else none
def GM(P:fA)(n:Nat)(cs:List pO)(t:eX)(x i:A):Option AV:=
 match i with
 | .int _ s c=>
  match P.underlying t,x with
  |some (.slice e),.sl a s' c'=>match tT P e with
   | some z=>if a.known&&Nat.beq a.cells.length z&&leq cs 0 0 s c&&leq cs s (c+1) s' c' then
     match uK a n cs with
     |⟨b,n1,cs1⟩=>some ⟨.ref b 0,n1,cs1⟩
    else none
   |none=>none
  |some (.slice e),.slk es=>match tT P e with
   | some z=>if Nat.beq s 0&&sU 0 c then match es[c.toNat]? with
     | some a=>if a.known&&Nat.beq a.cells.length z then match uK a n cs with
       |⟨b,n1,cs1⟩=>some ⟨.ref b 0,n1,cs1⟩
      else none
     |none=>none
    else none
   |none=>none
  |some (.slice e),.osl l sz si ci s' c'=>match tT P e with
   | some z=>if Nat.beq sz z&&leq cs 0 0 s c&&leq cs s (c+1) s' c'&&leq cs 0 0 si ci then match aBu si ci s c with
     |some (q,d)=>some ⟨.elp l sz q d 0,n,cs⟩|none=>none
    else none
   |none=>none
  |some (.array len e),x=>match tT P e with
   |some z=>if Nat.beq s 0&&sU 0 c&&sU (c+1) len then(Ui x (c.toNat*z)).map fun y=>⟨y,n,cs⟩else none
   |none=>none
  |_,_ =>none
 |_ =>none
def VR(P:fA)(n:Nat)(cs:List pO)(t:eX)(x i:A):Option AV:=GM P n cs t x.unp i
def Ck(cs:List pO)(s:Nat)(c:Int):Nat->List A->List A
 |_,[]=>[]|j,a::a_s=>if leq cs s c 0 (j-1)||leq cs 0 (j+1) s c then Ck cs s c (j+1) a_s else a::Ck cs s c (j+1) a_s
def Rh(P:fA)(n:Nat)(cs:List pO)(t:eX)(x i:A):Option AV:=
 match i with
 | .int _ s c=>
  match P.underlying t,x with
  |some (.array len e),.agg a_s=>match tT P e with
   | some z=>if leq cs 0 0 s c&&leq cs s (c+1) 0 len then
     if Nat.beq s 0 then(RL P e a_s (c.toNat*z)).map fun y=>⟨y,n,cs⟩
     else match FL P e with
      |some false=>if Nat.beq z 1&&Nat.beq a_s.length len then some ⟨.or (Ck cs s c 0 a_s),n,cs⟩else none
      |_ =>none
    else none
   |none=>none
  |some .string,x=>match KA x with
   |some (s',c')=>if leq cs 0 0 s c&&leq cs s (c+1) s' c' then some (uK (.ival .u8 0 255) n cs)else none
   |none=>none
  |_,_ =>none
 |_ =>none
def FP(x:Option A)(s:Nat)(c:Int):Option (Nat×Int):=
 match x with
 |none=>some (s,c)|some (.int _ s' c')=>some (s',c')|some _ =>none
def FC(n:Nat)(cs:List pO)(sl:Nat)(cl:Int)(sh:Nat)(ch:Int):Nat×Int×Nat×List pO:=
 if Nat.beq sl 0 then(sh,ch-cl,n,cs)
 else if Nat.beq sl sh then(0,ch-cl,n,cs)
 else(n,0,n+1,UM (leq cs 0 1 sl cl) (.le n sh (ch-1)) (.le 0 n (if leq cs sl (cl+1) sh ch then-1 else 0):: .le n sh ch::cs))
def Tc(P:fA)(n:Nat)(cs:List pO)(t:eX)(x:A)(lo hi:Option A):Option AV:=
 match P.underlying t with
 |some .string=>match KA x with
  |some (s,c)=>match FP hi s c with
   |some (sh,ch)=>match FP lo 0 0 with
    | some (s0,c0)=>if leq cs 0 0 s0 c0&&leq cs s0 c0 sh ch&&leq cs sh ch s c then
      match FC n cs s0 c0 sh ch with
      |(s1,c1,n1,cs1)=>some ⟨.str s1 c1,n1,cs1⟩
     else none
    |none=>none
   |none=>none
  |none=>none
 |some (.slice e)=>match x with
  | .sl a s c=>match FP hi s c with
   |some (sh,ch)=>match FP lo 0 0 with
    |some (s0,c0)=>match tT P e with
     | some z=>if a.known&&Nat.beq a.cells.length z&&leq cs 0 0 s0 c0&&leq cs s0 c0 sh ch&&leq cs sh ch s c then
       match FC n cs s0 c0 sh ch with
       |(s1,c1,n1,cs1)=>some ⟨.sl a s1 c1,n1,cs1⟩
      else none
     |none=>none
    |none=>none
   |none=>none
  | .osl l sz si ci s c=>match FP hi s c with
   |some (sh,ch)=>match FP lo 0 0 with
    |some (s0,c0)=>match tT P e with
     | some z=>if Nat.beq sz z&&leq cs 0 0 si ci&&leq cs 0 0 s0 c0&&leq cs s0 c0 sh ch&&leq cs sh ch s c then match aBu si ci s0 c0 with
       |some (q,d)=>match FC n cs s0 c0 sh ch with
        |(s1,c1,n1,cs1)=>some ⟨.osl l sz q d s1 c1,n1,cs1⟩
       |none=>none
      else none
     |none=>none
    |none=>none
   |none=>none
  |_ =>none
 |_ =>none
def aHa(P:fA)(cs:List pO)(t:eX)(x:A):Option A:=
 match P.underlying t,x with
 |some .string,.strc s=>if sU s.length 9000000000000000000 then some (.int .i64 0 s.length)else none
 |some .string,.str s c=>if inK cs .i64 s c then some (.int .i64 s c)else none
 |some (.slice _),.nils=>some (.int .i64 0 0)|some (.slice _),.slk es=>if sU es.length 9000000000000000000 then some (.int .i64 0 es.length)else none
 |some (.slice _),.sl _ s c=>if inK cs .i64 s c then some (.int .i64 s c)else none
 |some (.slice _),.osl _ _ _ _ s c=>if inK cs .i64 s c then some (.int .i64 s c)else none
 |some (.slice _),.sx s c=>if inK cs .i64 s c then some (.int .i64 s c)else none
 |some (.array n _),_ =>if sU n 9000000000000000000 then some (.int .i64 0 n)else none
 |some (.map ..),.nilm=>some (.int .i64 0 0)|_,_ =>none
def bCp(P:fA)(cs:List pO)(t:eX)(x:A):Option A:=aHa P cs t x.unp
def aKb(n:Nat)(cs:List pO)(s:Nat)(c:Int)(s':Nat)(c':Int)(r:List pO):Nat->List pO
 |0=>r|k+1=>if !(Nat.beq k 0)&&(leq cs k 0 s c&&leq cs k 0 s' c')then .le k n 0::aKb n cs s c s' c' r k else aKb n cs s c s' c' r k
def aUs(n:Nat)(cs:List pO)(x y:A):Option AV:=
 match x,y with
 | .int k s c,.int k' s' c'=>if !(k==k')then none else if leq cs s c s' c' then some ⟨.int k s c,n,cs⟩else if leq cs s' c' s c then some ⟨.int k s' c',n,cs⟩
  else some ⟨.int k n 0,n+1,.le n s c:: .le n s' c':: .le n 0 k.max:: .le 0 n (if leq cs 0 0 s c&&leq cs 0 0 s' c' then 0 else-k.min)::aKb n cs s c s' c' cs n⟩
 |_,_ =>none
def aUr(n:Nat)(cs:List pO)(x y:A):Option AV:=
 match x,y with
 | .int k s c,.int k' s' c'=>if !(k==k')then none else if leq cs s c s' c' then some ⟨.int k s' c',n,cs⟩else if leq cs s' c' s c then some ⟨.int k s c,n,cs⟩
  else some ⟨.int k n 0,n+1,.le s n (-c):: .le s' n (-c'):: .le 0 n (-k.min):: .le n 0 k.max::ubM cs n s c s' c' cs⟩
 |_,_ =>none
def Bt(f:Nat->List pO->A->A->Option AV):Nat->List pO->A->List A->Option AV
 |n,cs,x,[]=>some ⟨x,n,cs⟩
 |n,cs,x,y::r=>match f n cs x y with
  |some ⟨z,n1,cs1⟩=>Bt f n1 cs1 z r|none=>none
def NF(cs:List A)(off:Nat)(new:List A):List A:=cs.take off++new++cs.drop (off+new.length)
def Bp(place:iL):List A->List (Nat×A)->Option (List A)
 |cs,[]=>some cs
 |cs,(i,v)::r=>
  match place i with
  |none=>none|some (off,size)=>if v.known=true/\v.cells.length=size/\off+size<=cs.length then Bp place (NF cs off v.cells) r else none
def KH(gl:Nat->Option A)(fr:List A):List (Nat×Operand)->Option (List (Nat×A))
 |[]=>some []
 |(i,x)::r=>match NY gl fr x with
  |some t=>match KH gl fr r with
   |some l=>some ((i,t)::l)|none=>none
  |none=>none
def Qf(P:fA)(t:eX)(parts:List (Nat×A)):Option A:=
 match HL P t with
 |some z=>
  match P.underlying t with
  |some (.struct fs)=>match IJ P fs.toList with
   |some pl=>(Bp (pl[·]?) z.cells parts).map .agg|none=>none
  |some (.array _ e)=>match tT P e with
   |some s=>(Bp (fun i=>some (i*s,s)) z.cells parts).map .agg|none=>none
  |_ =>none
 |none=>none
def DF:A->Option A
 | .ptr l o=>some (.ptr l o)| .elp l z s c o=>some (.elp l z s c o)| .ref x o=>some (.ref x o)| .fn f a c=>some (.fn f a c)| .iface t x=>some (.iface t x)| .or a_s=>if allSome a_s then some (.or a_s)else none
 |_ =>none
 where
 allSome:List A->Bool
  |[]=>true| .fn .. ::a_s=>allSome a_s|_ ::_ =>false
end
end Go.Ps
