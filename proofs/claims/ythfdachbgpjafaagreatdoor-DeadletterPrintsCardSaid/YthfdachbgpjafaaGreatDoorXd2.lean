/- Lemmas for the card; no conditions. -/
import Derived.Test.YthfdachbgpjafaaGreatDoorXd1
import Derived.Shelf.Strings.OnBuilder
import Derived.Shelf.LaysM
import Derived.Shelf.Strconv.Itoa3
import Derived.Shelf.Small.Utf8
import Derived.Shelf.Small.Strs
import Derived.Shelf.LaysC
import Derived.Shelf.Strconv.ErrVarAll
import Derived.Shelf.Strings.Search1
import Derived.Shelf.Strings.Cut
import Derived.Shelf.Strings.IndexAnyAll
import Derived.Shelf.Unicode.ValidAny
import Derived.Test.YthfdachbgpjafaaGreatDoorProg
import Derived.KernelRfl
import Derived.WalkMore
import Derived.Shelf.RegionOpenPlain
import Derived.Deep.QuietTactic
import Derived.Deep.Draws
import Derived.Laws.RangeAny
import Derived.Laws.Runes
import Derived.Shelf.Strings.Repeat
import Derived.Shelf.Unicode.DecodeAny
import Derived.Tactics
import Derived.Tactics2
import Derived.StillTactics
import Derived.Laws.IdiomStrings
import Derived.Laws.OwnMore
import Derived.Laws.Cells
import Derived.Laws.NewBlocks
import Derived.Lib.TrimU
import Derived.Lib.LaidTab
set_option linter.all false
set_option maxRecDepth 100000
namespace Go.Ps
noncomputable section
open Go.RowKit
def Uz:T->Option Nat
 | .ge l _ _ _ =>some l|_ =>none
def vD:T->List Nat
 | .agg a=>a.filterMap Uz|t=>(Uz t).toList
def Hp.only(H:Hp):List Nat->Hp
 |[]=>⟨H.next,.nl⟩
 |l::a=>match H.get l with
  |some o=>(H.only a).put l o|none=>H.only a
def Hp.aw(H:Hp):List Nat->Hp
 |[]=>H|l::a=>(H.aw a).drop l
def jf:T->T
 | .agg a=> .agg (a.map je)|t=>je t
theorem Rd.jf{g:G}{v:gZ}{t:T}(h:Rd g v t):Rd g v (jf t):=by
 cases h with
 |agg b i d e=>
  refine .agg _ i (by simp[d]) (λj v c f a=> ?_);rw[bA]at a;cases hq:b[j]? with
  |none=>rw[hq]at a;cases a|some x=>rw[hq]at a;cases a;exact(e j v x f hq).je
 |_ =>unfold Go.Ps.jf;exact Rd.je (by constructor<;>assumption)
def PU(o:hJ)(t:T)(H:Hp):Option (T×Hp):=
 if o 6000000 then some (t,H)else if(vD t).all (λl=>(H.get l).isSome)then match pM 25 (H.only (vD t)) t with
  |some r=>some (jf r,H.aw (vD t))|none=>none
 else none
theorem EK(H:Hp):∀(a:gU),(H.only a).next=H.next
 |[]=>rfl
 |l::a=>by
  unfold Hp.only;split;exact EK H a;exact EK H a
theorem EJ(H:Hp):∀(a:gU) (m:Nat) (o:Ob),(H.only a).any m=some o->H.get m=some o/\m∈a
 |[],m,o,h=>by rw[show H.only []=⟨H.next,.nl⟩from rfl,vX]at h;cases h
 |l::a,m,o,h=>by
  unfold Hp.only at h;split at h;rename_i q f;rw[qP]at h;split at h;rename_i e;cases h;subst e;exact⟨f,by simp⟩;obtain⟨d,b⟩:=EJ H a m o h;exact⟨d,aC _ b⟩;obtain⟨d,b⟩:=EJ H a m o h;exact⟨d,aC _ b⟩
theorem aSe(H:Hp)(a:gU):nF (H.only a) H:=⟨EK H a,λm o h=>(pD (EJ H a m o h).1).1⟩
theorem YF(H:Hp):∀(a:gU) (m:Nat),m∈a->(H.only a).get m=H.get m
 |[],m,h=>by simp at h
 |l::a,m,h=>by
  unfold Hp.only;split;rename_i q b;rw[gw _ _ _ _ (pD b).2];split;rename_i e;rw[e,b];rename_i e;exact YF H a m ((aY.1 h).resolve_left e);rename_i b;by_cases e:m=l;subst e;cases hc:(H.only a).get m with
  |none=>exact b.symm|some o=>have:=(EJ H a m o (pD hc).1).1;rw[b]at this;cases this
  exact YF H a m ((aY.1 h).resolve_left e)
theorem FF(H:Hp):∀(a:gU),(H.aw a).next=H.next
 |[]=>rfl|l::a=>FF H a
theorem DV(H:Hp):∀(a:gU) (m:Nat),(H.aw a).any m=if m∈a then none else H.any m
 |[],m=>by simp[Hp.aw]
 |l::a,m=>by
  rw[show H.aw (l::a)=(H.aw a).drop l from rfl,qY,DV H a m];by_cases h:m=l<;>simp[h]
theorem aYf{g:G}{H J:Hp}(f:St g H)(W:sJ g){ow:hJ}{t r:T}(h:PU ow t H=some (r,J)){u:gZ}(Z:Rd g u t):∃B,B.w=g.w/\pP H g J B/\sJ B/\St B J/\Rd B u r:=by
 unfold PU at h;split at h;cases h;exact⟨g,rfl,.refl _ _,W,f,Z⟩;split at h;split at h;rename_i r' hr;cases h;have i:∀l o,(H.only (vD t)).get l=some o->H.get l=some o/\l∈vD t:=λl o h=>EJ H _ l o (pD h).1;have p:pP H g (H.aw (vD t)) (g.aM (H.only (vD t)) g):=by
  refine⟨rfl,rfl,rfl,bB _,λ_ _ _ =>rfl,λ_ q=> .inl q,λb q=> ?_,λ_ q=>q,λ_ _ =>rfl,λ_ _ =>rfl,λm o a=> ?_⟩;rcases q with q|⟨l,o,y,x⟩;exact .inl q;exact .inr (.inr ⟨l,o,(pD (i l o y).1).1,x⟩);rw[DV]at a;split at a;cases a;exact .inl ⟨m,o,a,rfl⟩
 have d:∀m o,(H.aw (vD t)).any m=some o->H.any m=some o/\m∉vD t:=λm o a=>by
  rw[DV]at a;split at a;cases a;exact⟨a,‹_›⟩
 have s:∀m o,(H.aw (vD t)).any m=some o->¬g.S (g.loc m)->¬(g.aM (H.only (vD t)) g).S (g.loc m):=λm o a hS q=>by
  obtain⟨O,L⟩:=d m o a;rcases q with q|⟨l,v,y,x⟩;exact hS q;obtain⟨q3,q4⟩:=i l v y;have:=f.sep l m v o (pD q3).1 O x;subst this;exact L q4
 refine⟨g.aM (H.only (vD t)) g,rfl,p,λb q=> ?_,⟨λm o a=> ?_,λm o mo a K=> ?_,λm Y o v O L e=>f.sep m Y o v (d m o O).1 (d Y v L).1 e,λm a=>f.new m (by rw[<-FF H (vD t)];exact a)⟩,(LR (f.le (aSe H _)) 25 t _ u hr Z).jf⟩;rcases q with q|⟨l,o,y,x⟩;exact W b q;rw[<-x];exact(f.at_ (pD (i l o y).1).1).2.2;obtain⟨U,R⟩:=pD a;obtain⟨k1,k2,cs,k3,I,k5,k6,k7⟩:=f.own m o (yA (d m o U).1 R);exact⟨k1,s m o U k2,cs,k3,I,k5,k6,k7.af f p⟩;obtain⟨k1,k2,b,k3,I⟩:=f.ap m o mo (d m o a).1 K;exact⟨k1,s m o a k2,b,k3,I.mono (λ_ _ z=>z.af f p) (λl hl=>⟨hl,rfl⟩)⟩;cases h;cases h
section
variable(P:gD)(E:uW)(ee:gK)(yd:gR)(ow:hJ)(n:Nat)(ro:gW)
def KQ(a:gF):List Oper->Fx->Option Fx
 |[],s=>some s
 |o::r,s=>match(if s.fq.isNone&&pX a s.fr o then DH E.gl s.fr o else none)with
  |some (l,d)=>match yd l d s.H with
   |some (b,e)=>KQ a r ⟨pW s.fr o.dst (.bool b),e,none⟩|none=>none
  |none=>match wL P E (LO ow ee) a s o with
   |some f=>KQ a r f|none=>none
def WF(l:Nat)(f:gC)(H:Hp):Option (X×List T×Hp):=RA H l λr=>match r.st with
 | .busy=>none
 |_ =>match r.pe with
  |none=>some (.normal,f,H.drop l)|some (.exit id)=>some (.exit id,f,H.drop l)|some .ret=>some (.ret,f,H.drop l)|_ =>none
def qA:Code->List T->Hp->Option (X×List T×Hp)
 | .skip,f,H| .label _,f,H=>some (.normal,f,H)
 | .region id o h,f,H=>
  match(if h then AU P E (LO ow ee) o (ow (9000000+id)) (ow (9200000+id)) f H else KQ P E ee yd ow o o.toList ⟨f,H,none⟩)with
  |some ⟨d,e,none⟩=>some (.normal,d,e)|_ =>none
 | .seq a b,f,H=>match qA a f H with
  |some (.normal,d,e)=>qA b d e|r=>r
 | .cond c a b,f,H=>match pQ E.gl f c with
  |some (.bool t)=>if t then qA a f H else qA b f H
  |_ =>none
 | .block id c,f,H=>match qA c f H with
  |some (.exit i,d,e)=>if i=id then some (.normal,d,e)else some (.exit i,d,e)
  |r=>r
 | .loop c,f,H=>oW.gx (λf H=>qA c f H) n f H
 | .rangeFunc g v p w,f,H=>match pQ E.gl f g with
  | some (.fn (.func s) [] q)=>if Pp H ro then match ee s (.yl H.next::q) (H.new (CN ⟨.ready,none,FT.of f 0 .nl,f.length,v,p,w,ow⟩))with
    |some (_,u)=>WF H.next f u|none=>none
   else none
  |_ =>none
 | .exit id,f,H=>some (.exit id,f,H)| .ret,f,H=>some (.ret,f,H)|_,_,_ =>none
def tT:Code->Bool
 | .region _ o d=>tP o&&(!d||zQ o)| .seq a b| .cond _ a b=>tT a&&tT b| .block _ c| .loop c=>tT c| .rangeFunc _ _ e f=>tT e&&tT f| .skip| .label _ | .exit _ | .ret=>true|_ =>false
def Jf(l:Nat)(r:Lr)(f:gC)(H:Hp):Option (Bool×Hp):=RA H l λa=>match a.st with
 | .ready=>match qA P E ee yd r.ow n (some l) r.bd f (H.put l (CN {a with st:= .busy}))with
  |some (x,_,b)=>ML l b x|none=>none
 |_ =>none
def JA(l:Nat)(a:gC)(H:Hp):Option (Bool×Hp):=RA H l λr=>
 if a.length=r.ps.size/\tT r.iF=true/\tT r.bd=true then match qA P E ee yd r.ow n (some l) r.iF (SZ r.ps.toList a (r.fr.view r.n)) H with
  |some (.normal,f,b)=>Jf P E ee yd n l r f b|_ =>none
 else none
def kg(f:gX)(a:gC)(H:Hp):Option (T×Hp):=
 match P.funcs[f]? with
 |some d=>match d.body with
  |some c=>match qA P E ee yd ow n none c (a++List.replicate (d.ntmps-a.length) oS) H with
   |some (.normal,e,b)|some (.ret,e,b)=>match rJ P e b d.results.toList with
    |some [t]=>PU ow t b|some h=>some (.fm h,b)|none=>none
   |_ =>none
  |none=>none
 |none=>none
def zN(f:gX):Bool:=match P.funcs[f]? with
 |some a=>match a.body with
  |some c=>tT c|none=>false
 |none=>false
end
def AL(s:gH):Nat->Nat->Nat
 |0,a=>a
 |n+1,a=>match s[a]? with
  |none=>a
  |some c=>if c=32\/c=9\/c=10 then AL s n (a+1)
   else if c=47/\s[a+1]? =some 47 then AL s n (a+match(s.drop a).findIdx? (· =10)with
    |some i=>i|none=>s.length-a)
   else a
def Se(tS:gB):List T->Hp->Option (T×Hp)
 |[.ptr l 0],H=>match H.get l with
  |some o=>match o.cells with
   |[.str s,.int .i64 a,w,e]=>if o.elem=tS/\o.sz=0/\0<=a/\a<=s.length/\s.length<=65536 then some (.fm [],H.put l {o with cells:=[.str s,.int .i64 (AL s (s.length+1-a.toNat) a.toNat:Nat),w,e]})else none
   |_ =>none
  |none=>none
 |_,_ =>none
def MR(f:gX)(a:gC)(H:Hp):Option (T×Hp):=if f=123 then NM 135 a H else if f=79 then Ao 135 5 a H else if f=130 then Se 200 a H else none
structure xv where
 ee:FuncId->List T->Hp->Option (T×Hp)
 yd:Nat->List T->Hp->Option (Bool×Hp)
abbrev iA:=FuncId->Tmp->Bool
abbrev hC:=FuncId->Bool
def qW(P:gD)(E:uW)(own:iA)(ok:hC)(n:Nat):Nat->xv
 |0=>⟨λ_ _ _ =>none,λ_ _ _ =>none⟩|d+1=>⟨λf a H=>if ok f then kg P E (qW P E own ok n d).ee (qW P E own ok n d).yd (own f) n f a H else MR f a H,λl a H=>JA P E (qW P E own ok n d).ee (qW P E own ok n d).yd n l a H⟩
section
variable{P:gD}{E:uW}{ee:gK}{yd:gR}{ow:hJ}{n:Nat}
theorem Xw(hF:sD P E.gl ee)(o:hJ):sD P E.gl (LO o ee).ee:=by rw[FH];exact hF
theorem Jq(hE:rV P E.gl E.pe)(hF:sD P E.gl ee)(U:Fk P E.gl yd){f:gF}(R:tP f=true){Q:gJ}(B:∀a w,¬Q .outgrown a w){ro:gW}{m:Nat}{ds:iU}:
  ∀(l:hU) (k:Nat) (s I:Fx) (p:G) (v:Hp),(∀j,l[j]? =f[k+j]?)->KQ P E ee yd ow f l s=some I->∀(g:G) (a:Act),Inv P E p v g a s->(∀J u,Inv P E p v u J I->Q .normal (DS ds J) u.w)->wpOpsIn (Fw ro) m P f Q (List.range' k l.length) (DS ds a) g.w
 |[],k,s,I,p,v,_,h,g,a,y,O=>by
  cases(show some s=some I from h);exact O a g y
 |o::l,k,s,I,p,v,hl,h,g,a,y,O=>by
  have h0:f[k]? =some o:=by simpa using(hl 0).symm
  have L:∀j,l[j]? =f[k+1+j]? :=λj=>by have:=hl (j+1);simpa [dT,Nat.add_comm 1 j]using this
  rw[aZ,fC,wpOpsIn_cons];simp only[KQ]at h;split at h;rename_i l1 ars hq;split at hq;rename_i x;simp only[aA]at x;obtain⟨z,hw⟩:=x;have z:s.fq=none:=by simpa using z
  split at h;rename_i b H1 hy;have hci:qK E p v g a s.fr s.H:=⟨y.ok,y.st,y.gl,y.df,EX.all (by have:=y.fr;rw[z]at this;exact this),y.step⟩;have Y:qK (Wg E.gl) p v g a s.fr s.H:=qK.cast (E:=E) (E':=Wg E.gl) rfl hci;refine aNb U R h0 hq hy hw Y (λu Z hs=> ?_);have i:qK E p v u (a.put o.dst (.bool b)) (pW s.fr o.dst (.bool b)) H1:=qK.cast (E:=Wg E.gl) (E':=E) rfl Z;exact Jq hE hF U R B l (k+1) _ I p v L h u _ ⟨i.ok,i.st,i.gl,i.df,EX.of i.fr none,λd t q=>(by cases q),i.step⟩ O;cases h;cases hq;split at h;rename_i s1 W;have h1:=ZJ (P:=P) (E:=E) (F:=LO ow ee) (g0:=p) (H0:=v) (Q:=λe a w=>Q e (DS ds a) w) hE (Xw hF ow) y W h0 (K:=λJ w'=>∃u,u.w=w'/\Inv P E p v u J s1) (λJ u h'=>⟨u,rfl,h'⟩);refine Kq R B (λJ w' ⟨u,e,h'⟩=> ?_) h1;rw[<-e];exact Jq hE hF U R B l (k+1) s1 I p v L h u J h' O;cases h
theorem Tf{l:Nat}{i:gC}{H:Hp}{x:X}{f:gC}{p:Hp}(h:WF l i H=some (x,f,p))(q:FT):f=i/\aPp l q H=some [(x,q,p)]:=by
 obtain⟨o,v,u,s,a⟩:=xX h;unfold aPp RA;simp only[u,s,mf];split at a;cases a;rename_i d;split at a
 .rename_i b;cases a;refine⟨rfl,?_⟩;simp only[b]
  try(split<;>first|rfl|(rename_i e;exact absurd e d))
 .rename_i id b;cases a;refine⟨rfl,?_⟩;simp only[b]
  try(split<;>first|rfl|(rename_i e;exact absurd e d))
 .rename_i b;cases a;refine⟨rfl,?_⟩;simp only[b]
  try(split<;>first|rfl|(rename_i e;exact absurd e d))
 cases a
theorem NJ(hm:P.follows .mixedOrders=true)(hE:rV P E.gl E.pe)(hF:sD P E.gl ee)(hY:Fk P E.gl yd){n:Nat}{ro:gW}{m:Nat}{g0:G}{H0:Hp}(hro:∀l,ro=some l->g0.al l):
  ∀(c:Code) (L:gC) (H:Hp) (x:X) (z:gC) (R:Hp),tT c=true->qA P E ee yd ow n ro c L H=some (x,z,R)->∀(g:G) (a:Act) (ds:iU),qK E g0 H0 g a L H->Mk g0 g H ds->
   ∀(Q:gJ),(∀a w,¬Q .outgrown a w)->(∀J I s,qK E g0 H0 I J z R->Mk g0 I R s->Q x.au (DS s J) I.w)->c.wpIn (Fw (ro.map g0.loc)) m P Q (DS ds a) g.w:=by
 intro c
 induction c with
 |skip=>
  intro L H x z R _ f g a ds y K Q i B;simp only[qA,aI,bF]at f;obtain⟨rfl,rfl,rfl⟩:=f;exact wpIn_skip (B a g ds y K)
 |label l=>
  intro L H x z R _ f g a ds y K Q i B;simp only[qA,aI,bF]at f;obtain⟨rfl,rfl,rfl⟩:=f;exact wpIn_label (B a g ds y K)
 |exit id=>
  intro L H x z R _ f g a ds y K Q i B;simp only[qA,aI,bF]at f;obtain⟨rfl,rfl,rfl⟩:=f;exact wpIn_exit (B a g ds y K)
 |ret=>
  intro L H x z R _ f g a ds y K Q i B;simp only[qA,aI,bF]at f;obtain⟨rfl,rfl,rfl⟩:=f;exact wpIn_ret (B a g ds y K)
 |region id ops Y=>
  intro L H x z R d f g a ds y K Q i B;simp only[tT,aA]at d;simp only[qA]at f;cases Y with
  |true=>
   simp only[cB]at f;split at f;rename_i f1 h1 O;cases f;unfold AU at O;split at O;exact wpIn_region_any hm (PK d.1 i _ _ _ _ (Xh (Q:=λe a w=>Q e (DS ds a) w) hE (Xw hF ow) (by simpa using d.2) O y.self.toInv (λJ I W=>B J I ds (W.cj y.step rfl) (K.af W.step))));split at O;exact wpIn_region_any hm (PK d.1 i _ _ _ _ (Xh (Q:=λe a w=>Q e (DS ds a) w) hE (Xw hF ow) (by simpa using d.2) O y.self.toInv (λJ I W=>B J I ds (W.cj y.step rfl) (K.af W.step))));exact Eb (draw:=true) hm hE (Xw hF ow) d.1 (λ_ =>by simpa using d.2) ((aJ rfl).trans O) y.self i (λJ I q=>B J I ds (y.eu q) (K.af q.step));cases f
  |false=>
   simp only[bI,cN]at f;split at f;rename_i f1 h1 O;cases f;have:=Jq (ro:=ro.map g0.loc) (m:=m) (ds:=ds) hE hF hY d.1 i ops.toList 0 _ _ g H (λj=>by simp) O g a y.toInv (λJ I W=>B J I ds (W.cj y.step rfl) (K.af W.step));rw[cW,<-List.range_eq_range']at this;exact wpIn_region this;cases f
 |seq c1 c2 U Z=>
  intro L H x z R d f g a ds y K Q i B;simp only[tT,aA]at d;simp only[qA]at f;refine wpIn_seq ?_;split at f;rename_i f1 h1 O;exact U _ _ _ _ _ d.1 O g a ds y K _ (xN i) (λJ I s q u=>Z _ _ _ _ _ d.2 f I J s q u Q i B);rename_i O;refine U _ _ _ _ _ d.1 f g a ds y K _ (xN i) (λJ I s q u=> ?_);cases x with
  |normal=>exact absurd f (O _ _)|exit id=>exact B J I s q u|ret=>exact B J I s q u
 |cond o c1 c2 U Z=>
  intro L H x z R d f g a ds y K Q i B;simp only[tT,aA]at d;simp only[qA]at f;split at f;rename_i b hb;have O:=(EX.of y.fr none).eval y.gl (λ_ _ =>by simp) hb;refine wpIn_cond (t:=b) (show(DS ds a).eval o= .bool b from O.a8) ?_;cases b with
  |true=>exact U _ _ _ _ _ d.1 (by simpa using f) g a ds y K Q i B|false=>exact Z _ _ _ _ _ d.2 (by simpa using f) g a ds y K Q i B
  cases f
 |block id c ih=>
  intro L H x z R d f g a ds y K Q i B;simp only[tT]at d;simp only[qA]at f;refine wpIn_block ?_;have hnb:∀a w,¬Exit.inBlock id Q .outgrown a w:=λa w h=>i a w h;split at f;rename_i id' f1 h1 O;refine ih _ _ _ _ _ d O g a ds y K _ hnb (λJ I s q u=> ?_);simp only[X.au,Exit.inBlock];split at f;rename_i e;cases f;rw[aJ e];exact B J I s q u;rename_i e;cases f;rw[aH e];exact B J I s q u;rename_i O;refine ih _ _ _ _ _ d f g a ds y K _ hnb (λJ I s q u=> ?_);cases x with
  |normal=>exact B J I s q u|exit id'=>exact absurd f (O _ _ _)|ret=>exact B J I s q u
 |loop c ih=>
  intro L H x z R d f g a ds y K Q i B;simp only[tT]at d;simp only[qA]at f;refine wpIn_loop_rounds n ?_;have key:∀(k:Nat) (L:gC) (H:Hp) (g:G) (a:Act) (ds:iU),oW.gx (λL H=>qA P E ee yd ow n ro c L H) k L H=some (x,z,R)->qK E g0 H0 g a L H->Mk g0 g H ds->Code.roundsIn (Fw (ro.map g0.loc)) m P c Q k (DS ds a) g.w:=by
   intro k
   induction k with
   |zero=>intro L H g a ds h;simp[oW.gx]at h
   |succ k ihk=>
    intro L H g a ds h y K;simp only[oW.gx]at h;rw[roundsIn_succ];split at h;rename_i f1 h1 O;exact ih _ _ _ _ _ d O g a ds y K _ (xN i) (λJ I s q u=>ihk f1 h1 I J s h q u);rename_i O;refine ih _ _ _ _ _ d h g a ds y K _ (xN i) (λJ I s q u=> ?_);cases x with
    |normal=>exact absurd h (O _ _)|exit id=>exact B J I s q u|ret=>exact B J I s q u
  exact key n L H g a ds f y K
 |rangeFunc gv ps a_s bd _ _ =>
  intro L H x z R d f g a ds y K Q i B;simp only[qA]at f;split at f;rename_i gf cap hg;split at f;rename_i hrok;split at f;rename_i v H2 hcall;obtain⟨e1,e2⟩:=Oy (n:=L.length) (fr:=L) rfl;obtain⟨rfl,hend⟩:=Tf f (FT.of L 0 .nl);refine Uu (n:=z.length) hF hro e2 (by rw[e1];exact hg) hrok hcall hend (by rw[e1];exact qK.cast (E:=E) (E':=Wg E.gl) rfl y) K (λp hp J I s q hw' u=> ?_);cases bR.1 hp;refine B J I s ?_ u;have:=qK.cast (E:=Wg E.gl) (E':=E) rfl q
  rwa [e1]at this
  cases f;cases f;cases f
 |_ =>
  intro L H x z R d;simp[tT]at d
theorem aCy(hm:P.follows .mixedOrders=true)(hE:rV P E.gl E.pe)(hF:sD P E.gl ee)(hY:Fk P E.gl yd){n:Nat}:Fk P E.gl (λl ts H=>JA P E ee yd n l ts H):=by
 intro l ts H b H' h g U hok R hgl hv;obtain⟨o,i,ho,hme,h⟩:=xX h;split at h;rename_i hc;obtain⟨c1,c2,c3⟩:=hc;split at h;rename_i fr1 W h1;obtain⟨x,fn,tmps,D,hb,hr,hw⟩:=OJ R ho hme;have hsz:U.toArray.size=i.ps.size:=by rw[List.size_toArray,hv.1,c1]
 refine⟨fn,_,i.iF,i.bd,run_yield (P:=P) (args:=U.toArray) hb hsz,roundIn_of_wpIn (F:=Fw none) trivial ?_⟩;show i.iF.wpIn (Fw ((some l).map g.loc)) 0 P _ _ g.w;rw[aNc];have hci:qK E g H g {tmps:=(i.ps.toList.zip U).foldl (λt p=>t.setIfInBounds p.1 p.2) tmps,defers:=[]} (SZ i.ps.toList ts (i.fr.view i.n)) H:=
  ⟨hok,R,hgl,rfl,aLh _ _ _ _ _ hv hr,pP.refl H g⟩
 have L:∀l',some l=some l'->g.al l':=λl' e=>by cases e;exact x
 rw[<-Sx {tmps:=(i.ps.toList.zip U).foldl (λt p=>t.setIfInBounds p.1 p.2) tmps,defers:=[]}];refine NJ hm hE hF hY L i.iF _ _ _ _ _ c2 h1 g _ [] hci Mk.none _ (λa w h=>h) (λa1 B ds1 d Z=> ?_);obtain⟨o1,q,z,hm1,h⟩:=xX h;split at h;rename_i hrd;split at h;rename_i x2 fr2 H2 h2;obtain⟨_,y,f,D1,hb1,Y,I⟩:=OJ d.st z hm1;have hl1:B.loc l=g.loc l:=d.step.loc l x;obtain⟨u,s⟩:∃u:G,u=B.ah (B.loc l) (.loop {state:= .busy,pending:=q.pe,fn:=y,tmps:=f,params:=q.ps,assign:=q.iF,body:=q.bd,defers:=D1}):=⟨_,rfl⟩;have v:pP W B (W.put l (CN {q with st:= .busy})) u:=by rw[s];exact yE z _ _
 have J:St u (W.put l (CN {q with st:= .busy})):=by rw[s];exact JD d.st z rfl ⟨y,f,D1,rfl,Y,I⟩
 have K:sJ u:=by rw[s];exact JC d.ok _ _
 have hw2:B.w.putObj (B.loc l) (.loop {state:= .busy,pending:=q.pe,fn:=y,tmps:=f,params:=q.ps,assign:=q.iF,body:=q.bd,defers:=D1})=u.w:=by rw[s];rfl
 have O:=run_beginRound (P:=P) hb1 hrd;rw[hw2,hl1]at O;refine⟨u.w,O,?_⟩;have hc2:qK E g H u a1 fr1 (W.put l (CN {q with st:= .busy})):=⟨K,J,d.gl.af d.st v,d.df,d.fr.af d.st v,d.step.trans v⟩
 exact NJ hm hE hF hY L i.bd _ _ _ _ _ c3 h2 u a1 ds1 hc2 (Z.af v) _ (λa w h=>h) (λa3 g3 ds3 hc3 hd3=>by
  have:=aCz (P:=P) (qK.cast (E:=E) (E':=Wg E.gl) rfl hc3) x h;cases x2 with
  |normal=>exact this|exit id=>exact this|ret=>exact this)
 cases h;cases h;cases h;cases h
theorem aYg(hm:P.follows .mixedOrders=true)(hE:rV P E.gl E.pe)(hF:sD P E.gl ee)(hY:Fk P E.gl yd){n:Nat}{f:gX}(p:zN P f=true){y:gC}{H s:Hp}{r:T}(K:kg P E ee yd ow n f y H=some (r,s))
  (g:G) (I:gV) (hg:sJ g) (hs:St g H) (hgl:gn E.gl g) (hv:fv g I y):
  Calls P f I.toArray g.w λe O=>∃v b,e= .returned v/\b.w=O/\pP H g s b/\sJ b/\St b s/\Rd b v r:=by
 unfold kg at K;unfold zN at p;split at K;rename_i i Z;rw[Z]at p;simp only at p;split at K;rename_i c hc;rw[hc]at p;simp only at p;have L:fv g (I.toArray++Array.replicate (i.ntmps-I.toArray.size) undef).toList (y++List.replicate (i.ntmps-y.length) oS):=by
  have:(I.toArray++Array.replicate (i.ntmps-I.toArray.size) undef).toList=I++List.replicate (i.ntmps-y.length) undef:=by simp[hv.1]
  rw[this];exact hv.append (fv.replicate _ Rd.undef)
 have d:qK E g H g {tmps:=I.toArray++Array.replicate (i.ntmps-I.toArray.size) undef,defers:=[]} (y++List.replicate (i.ntmps-y.length) oS) H:=⟨hg,hs,hgl,rfl,L,pP.refl H g⟩
 have fin:∀(z:gC) (o:Hp),(match rJ P z o i.results.toList with
   |some [t]=>PU ow t o|some y=>some (.fm y,o)|none=>none)=some (r,s)->∀(U:Act) (b:G),qK E g H b U z o->LeavesIn (Fw none) 0 P i U.tmps (λe O=>∃v b,e= .returned v/\b.w=O/\pP H g s b/\sJ b/\St b s/\Rd b v r) [] .returning b.w:=by
  intro z o W U b d;show∃v,_;have er:i.results=i.results.toList.toArray:=by simp
  split at W;rename_i t ht;obtain⟨us,h1,B⟩:=yK (P:=P) d.st d.fr ht
  match us,B with
  |[u],B=>
   obtain⟨g2,k1,k2,k3,k4,k5⟩:=aYf d.st d.ok W (B.I).1;refine⟨u,?_,u,g2,rfl,k1,d.step.trans k2,k3,k4,k5⟩;rw[yC,er,eH];simp only[aW,fV];rw[h1];simp
  |[],B=>simp[fv]at B|_ ::_ ::_,B=>simp[fv]at B
  rename_i ts' hne ht;cases W;obtain⟨us,h1,B⟩:=yK (P:=P) d.st d.fr ht;refine⟨.tuple us.toArray,?_,_,b,rfl,rfl,d.step,d.ok,d.st,Rd.ak B⟩;rw[yC,er,eH];simp only[aW,fV];rw[h1];have hl:us.length≠1:=λq=>by
   rw[B.1]at q;obtain⟨t,rfl⟩:=eY.1 q;exact hne t rfl
  simp[hl];cases W
 refine FA.1 (callsIn_of_wp_marks (F:=Fw none) (n:=0) Z hc trivial ?_ rfl)
 have Y:∀(x:X) (z:gC) (o:Hp),(x= .normal\/x= .ret)->qA P E ee yd ow n none c (y++List.replicate (i.ntmps-y.length) oS) H=some (x,z,o)->(match rJ P z o i.results.toList with
   |some [t]=>PU ow t o|some y=>some (.fm y,o)|none=>none)=some (r,s)->c.wpIn (Fw none) 0 P (bodyPostM (Fw none) 0 P i (λe O=>∃(v:gZ) (b:G),e= .returned v/\b.w=O/\pP H g s b/\sJ b/\St b s/\Rd b v r)) {tmps:=I.toArray++Array.replicate (i.ntmps-I.toArray.size) undef,defers:=[]} g.w:=by
  intro x z o hx J W;have:=NJ (ro:=none) (m:=0) (g0:=g) (H0:=H) hm hE hF hY (λl e=>(by cases e)) c _ _ _ _ _ p J g _ [] d Mk.none (λe a w=>e≠ .outgrown/\bodyPostM (Fw none) 0 P i (λe O=>∃(v:gZ) (b:G),e= .returned v/\b.w=O/\pP H g s b/\sJ b/\St b s/\Rd b v r) e a w)
   (λa w h=>h.1 rfl) (λU b ds R hd'=>by
    have hl:LeavesInM (Fw none) 0 P i (DS ds U).tmps (λe O=>∃(v:gZ) (b:G),e= .returned v/\b.w=O/\pP H g s b/\sJ b/\St b s/\Rd b v r) (DS ds U).defers .returning b.w:=by
     have e:(DS ds U).defers=ds:=by simp[DS,R.df]
     rw[e];exact FW (λg2 B=>fin z o W U g2 B) ds b R hd'
    rcases hx with rfl|rfl;exact⟨by simp[X.au],hl⟩
    exact⟨by simp[X.au],hl⟩)
  rw[Sx]at this;exact wpIn_mono this (λe a w h=>h.2)
 split at K;rename_i z o J;exact Y .normal z o (.inl rfl) J K;rename_i z o J;exact Y .ret z o (.inr rfl) J K;cases K;cases K;cases K
theorem OX(e:P.follows .mixedOrders=true)(b:rV P E.gl E.pe)(s:sD P E.gl MR){own:iA}{ok:hC}(a:∀f,ok f=true->uQ P f=true/\zN P f=true){n:Nat}:∀d,sD P E.gl (qW P E own ok n d).ee/\Fk P E.gl (qW P E own ok n d).yd
 |0=>⟨λ_ _ _ _ _ h=>(by cases h),λ_ _ _ _ _ h=>(by cases h)⟩
 |d+1=>by
  obtain⟨q,p⟩:=OX e b s a (own:=own) (n:=n) d;refine⟨λf z H r y h=> ?_,aCy e b q p⟩;simp only[qW]at h;split at h;rename_i o;exact⟨(a f o).1,λg w u x i v=>aYg e b q p (a f o).2 h g w u x i v⟩;exact s f z H r y h
end
end
open Go.Shelf Go.RowKit Go.Sort Go.Proofs
theorem wZ{g:G}{a:iG}(h:Below g.w.heap.size g.w a):fx g {g with w:=a}:=⟨h.os,h.tape,h.output,h.size,h.block,λ_ q=>q,λ_ q=> .inl q,rfl,rfl,rfl⟩
theorem BQ{g:G}{a:iG}(e:sJ g)(h:g.w.heap.size<=a.heap.size):sJ {g with w:=a}:=λb d=>cX (e b d) h
theorem VM(w:iG)(k:Nat)(o:Array Obj):Below w.heap.size w (grow (w.drewN k) o):=by
 have h:(w.drewN k).heap=w.heap/\(w.drewN k).os=w.os/\(w.drewN k).tape=w.tape/\(w.drewN k).output=w.output:=by
  refine⟨?_,?_,?_,?_⟩<;>simp[World.drewN]
 refine⟨h.2.1,h.2.2.1,h.2.2.2,by simp[grow],λb a=> ?_⟩;simp only[grow,h.1];rw[Array.getElem?_append_left a]
theorem Gr:∀(k u:Nat) (a:gH),u<10^k->0<k->FD k u a=Lib.decDigits u++a
 |0,_,_,_,h=>absurd h (by decide)
 |k+1,u,a,b,_ =>by
  rw[FD,Lib.decDigits];by_cases h:u<10;simp[h];rw[aH h,dif_neg h];have d:0<k:=by
   rcases Nat.eq_zero_or_pos k with rfl|q;simp at b;omega;exact q
  rw[Gr k (u/10) _ (by rw[Nat.pow_succ]at b;omega) d];simp
theorem aIp(n:Int)(h:-9223372036854775808<=n)(a:n<=9223372036854775807):qL n=Lib.itoa n:=by
 unfold qL Lib.itoa;have e:(10:Nat)^20=100000000000000000000:=by decide
 split;rw[Gr 20 _ _ (by rw[e];omega) (by decide)];simp;rw[Gr 20 _ _ (by rw[e];omega) (by decide)];simp
section
variable{P:gD}{V:Ren}{gl:gG}
theorem vQ{g:G}{v:gZ}{s:gH}(h:Rd g v (.str s)):v= .string ⟨s.toArray⟩:=by
 generalize a:T.str s=t at h;cases h<;>cases a;simp
theorem Yl(d:uQ P (V.f 171)=true)
  (B:∀(g:G),gn gl g->∀(n:Int),-9223372036854775808<=n->n<=9223372036854775807->Calls P (V.f 171) #[.int .i64 n] g.w λe q=>e= .returned (.string ⟨(Lib.itoa n).toArray⟩)/\∃k o,q=grow (g.w.drewN k) o)
  (p:gC) (r:T) (h:Np p=some r):fj P gl (V.f 171) p r:=by
 refine⟨d,λg z y _ i a=> ?_⟩;unfold Np at h;split at h;rename_i n;split at h;rename_i b;cases h
 match z,a with
 |[v],a=>
  have x:=(a.I).1;cases x;refine(B g i n b.1 b.2).mono λe q ⟨s,k,o,u⟩=> ?_;subst u;refine⟨_,{g with w:=grow (g.w.drewN k) o},s,rfl,wZ (VM _ _ _),BQ y (VM _ _ _).size,?_⟩;rw[aIp n b.1 b.2];have:=Rd.str (g:={g with w:=grow (g.w.drewN k) o}) ⟨(Lib.itoa n).toArray⟩;simpa using this
 |[],a=>simp[fv]at a|_ ::_ ::_,a=>simp[fv]at a
 cases h;cases h
abbrev jT:=List (List UInt8)
theorem ZL:∀{b:gC} {l:jT},Et b=some l->b=l.map T.str
 |[],l,h=>by simp[Et]at h;subst h;rfl
 |x::r,l,h=>by
  cases x<;>simp only[Et]at h<;>try cases h
  rename_i s;split at h;rename_i d a;cases h;simp[ZL a];cases h
theorem XL(s:gH):∀(l:jT),tY s l=Lib.join l s
 |[]=>rfl|[x]=>by simp[tY,Lib.join_one]
 |x::y::r=>by
  rw[tY,XL s (y::r)];simp[Lib.join,List.intercalate]
theorem Ct:∀(l:jT),(l.map T.str).flatMap T.cells=l.map T.str
 |[]=>rfl|x::r=>by simp[bP,T.cells,Ct r]
theorem aQv(L:Lays.n156 P V)(X:Builder.Extra P V)(W:uQ P (V.f 156)=true)(ts:gC)(r:T)(h:aIs ts=some r):fj P gl (V.f 156) ts r:=by
 refine⟨W,λg vs hg _ hgl d=> ?_⟩;unfold aIs at h;split at h;rename_i i;cases h
 match vs,d with
 |[v,u],d=>
  have h1:=(d.I).1;have h2:=vQ ((d.I).2.I).1;cases h1;subst h2;refine(Any.strings_Join_none L X none 0 _ g.w).mono λe q ⟨B,z⟩=> ?_;subst z;exact⟨_,g,B,rfl,fx.refl g,hg,by simpa using Rd.str (g:=g) ⟨#[]⟩⟩
 |[],d=>simp[fv]at d|[_],d=>simp[fv]at d|_ ::_ ::_ ::_,d=>simp[fv]at d
 rename_i full xs i;split at h;rename_i l hl;split at h;rename_i hb;cases h;have hxs:=ZL hl
 match vs,d with
 |[v,u],d=>
  have h1:=(d.I).1;have h2:=vQ ((d.I).2.I).1;subst h2;cases h1 with
  |sl _ _ sz b o O Y q1 q2 q3 q4 q5 q6 q7 q8=>
   subst hxs;have I:∀(j:Nat) (x:iL),(l.map λs=>(⟨s.toArray⟩:ByteArray))[j]? =some x->g.w.cell? ⟨b,o+j,none⟩=some (.string x):=by
    intro j x hx;rw[bA,aG]at hx;obtain⟨s,R,rfl⟩:=hx;have hne:l.map T.str≠[]:=by
     intro e;have:l=[]:=by simpa using e
     subst this;simp at R
    have Z:sz=1:=by
     cases l with
     |nil=>simp at R|cons a r=>have:=q2 (.str a) (by simp);simpa [T.cells]using this.symm
    subst Z;have hj:j<Y.length:=by
     rw[q6];have:=(aQ.1 R).1;simpa using this
    have J:Y[j]? =some Y[j]:=aB hj;have hr:=q8 j _ (.str s) J (by rw[Ct,bA,R];rfl);have:=vQ hr;rw[q7 j _ J,this]
   have y:(l.map λs=>(⟨s.toArray⟩:ByteArray)).map (·.data.toList)=l:=by
    rw[List.map_map];have:((λx:ByteArray=>x.data.toList)∘λs:List UInt8=>(⟨s.toArray⟩:ByteArray))=id:=by funext s;simp
    rw[this];simp
   have K:(Lib.join ((l.map λs=>(⟨s.toArray⟩:ByteArray)).map (·.data.toList)) (⟨i.toArray⟩:ByteArray).data.toList).length<=140737488355328:=by
    rw[y];have:=hb.1;rw[XL]at this;simpa using this
   have fin:∀(q:iG),Below g.w.heap.size g.w q->∀e,e=Ending.returned (.string ⟨(Lib.join ((l.map λs=>(⟨s.toArray⟩:ByteArray)).map (·.data.toList)) (⟨i.toArray⟩:ByteArray).data.toList).toArray⟩)->
     ∃v U,e= .returned v/\U.w=q/\fx g U/\sJ U/\Rd U v (.str (tY i l)):=by
    intro q z e B;refine⟨_,{g with w:=q},B,rfl,wZ z,BQ hg z.size,?_⟩;rw[y,XL];have:=Rd.str (g:={g with w:=q}) ⟨(Lib.join l i).toArray⟩;simpa using this
   cases hl0:l with
   |nil=>
    subst hl0;refine(Any.strings_Join_none L X (some ⟨b,o,none⟩) O ⟨i.toArray⟩ g.w).mono λe q ⟨B,z⟩=> ?_;exact fin q (z▸Below.refl _ _) e (by rw[B];rfl)
   |cons a r=>
    have hbk:b<g.w.heap.size:=FX (I 0 ⟨a.toArray⟩ (by rw[hl0];rfl));rw[<-hl0];have p:=Any.strings_Join L X b o O (l.map λs=>(⟨s.toArray⟩:ByteArray)) ⟨i.toArray⟩ g.w I hbk (by simpa using hb.2) (by simpa using q3) K;have e1:(l.map λs=>(⟨s.toArray⟩:ByteArray)).length=(l.map T.str).length:=by simp
    rw[e1]at p;exact p.mono λe q ⟨B,z⟩=>fin q z e B
 |[],d=>simp[fv]at d|[_],d=>simp[fv]at d|_ ::_ ::_ ::_,d=>simp[fv]at d
 cases h;cases h;cases h
end
section
variable{P:gD}{V:Ren}{gl:gG}
theorem Qc(w:iG)(b o:Nat)(v:gZ)(a:hP)(e:gB)(f:Nat×Nat)(h:w.heap[b]? =some (.cells a e f)):w.setCell ⟨b,o,none⟩ v=w.setRow b (a.setIfInBounds o v):=by
 simp only[World.setCell,World.setRow];congr 1;apply Array.ext_getElem?;intro i;rw[dY,dY];split;rename_i e;subst e;rw[h];simp;rfl
theorem UD{g:G}{v:gZ}{l o:Nat}(h:Rd g v (.ptr l o)):v= .pointer (some ⟨g.loc l,o,none⟩)/\g.al l:=by
 generalize a:T.ptr l o=t at h;cases h<;>cases a;exact⟨rfl,by assumption⟩
def Rq(P:gD)(gl:gG)(f:gX)(h:gC)(H:Hp)(r:T)(b:Hp):Prop:=
 uQ P f=true/\∀(g:G) (d:gV),sJ g->St g H->gn gl g->fv g d h->
  Calls P f d.toArray g.w λe i=>∃v a,e= .returned v/\a.w=i/\pP H g b a/\sJ a/\St a b/\Rd a v r
theorem aPg(L:Lays.n240 P V)(X:Builder.X72 P V)(K:uQ P (V.f 240)=true){ts:gC}{H H':Hp}{r:T}(h:NM (V.t 72) ts H=some (r,H')):Rq P gl (V.f 240) ts H r H':=by
 .refine⟨K,λg vs hg W hgl p=> ?_⟩;unfold NM at h;split at h
  rename_i l
  match vs,p with
  |[v],p=>
   obtain⟨rfl,Y⟩:=UD (p.I).1;split at h;rename_i ob d;obtain⟨elem,sz,cells,z⟩:=ob;obtain rfl:z=none:=(pD d).2;obtain⟨_,hS,a,q,q1,Z,q3,I⟩:=W.own l _ d;simp only at h q q1 Z q3 I;split at h;rename_i x;split at h;rename_i hc;obtain⟨rfl,rfl⟩:=hc;cases h;have i:a.size=2:=Z rfl;have hl:a.toList.length=2:=by simpa using i
   match hcs:a.toList,hl with
   |[B,u],_ =>
    have O:a= #[B,u]:=by rw[<-fM (xs:=a),hcs]
    subst O;have s:=I.2 0 B .fS (by simp) rfl;have hc1:=I.2 1 u x (by simp) rfl;cases s;refine(Any.Builder_copyCheck_fresh L X (g.loc l) g.w (by simp[World.cell?,q]) (by simp[World.shape?,q]) (by simp[World.frozen?,q])).mono λe w' ⟨R,J⟩=> ?_;have y:=Qc g.w (g.loc l) 0 (.pointer (some ⟨g.loc l,0,none⟩)) _ _ _ q;rw[y]at J;subst J;refine⟨_,g.setRow (g.loc l) (#[Value.pointer none,u].setIfInBounds 0 (.pointer (some ⟨g.loc l,0,none⟩))),R,rfl,OZ (pD d).1 _ _,?_,?_,Rd.ak fv.nil⟩;intro b U;have:=hg b U;simpa [G.setRow,World.setRow]using this;refine jj (o:={elem:=V.t 72,sz:=0,cells:=[.fS,x]}) W d q (by simp) (by simp) ?_;exact fv.cons (.ptr l 0 Y) (fv.cons hc1 fv.nil)
   cases h;rename_i l' x;split at h;rename_i hc;obtain⟨rfl,rfl,rfl⟩:=hc;cases h;have i:a.size=2:=Z rfl;have hl:a.toList.length=2:=by simpa using i
   match hcs:a.toList,hl with
   |[B,u],_ =>
    have O:a= #[B,u]:=by rw[<-fM (xs:=a),hcs]
    subst O;have s:=(UD (I.2 0 B _ (by simp) rfl)).1;subst s;refine(Any.Builder_copyCheck_used L X (g.loc l') g.w (by simp[World.cell?,q])).mono λe w' ⟨R,J⟩=> ?_;subst J;exact⟨_,g,R,rfl,pP.refl _ _,hg,W,Rd.ak fv.nil⟩
   cases h;cases h;cases h
  |[],p=>simp[fv]at p|_ ::_ ::_,p=>simp[fv]at p
  cases h
theorem SF{g:G}:∀{d:gC} {b:gH},BU d=some b->d.length=b.length/\∀(j:Nat) (c:T) (v:gZ),d[j]? =some c->Rd g v c->∃x,b[j]? =some x/\v= .int .u8 x.toNat
 |[],b,h=>by simp[BU]at h;subst h;simp
 |c::r,b,h=>by
  unfold BU at h;split at h;rename_i e;cases e;rename_i n u e;cases e;split at h;rename_i l s;split at h;rename_i w;cases h;obtain⟨o,p⟩:=SF (g:=g) s;refine⟨by simp[o],λj c v a f=> ?_⟩;cases j with
  |zero=>
   simp at a;subst a;refine⟨UInt8.ofNat n.toNat,by simp,?_⟩;cases f;have:(UInt8.ofNat n.toNat).toNat=n.toNat:=by
    rw[UInt8.toNat_ofNat'];omega
   rw[this];congr 1;omega
  |succ j=>simp at a;obtain⟨x,i,q⟩:=p j c v a f;exact⟨x,by simpa using i,q⟩
  cases h;cases h;cases h
theorem aTh(L:Lays.n169 P V)(X:Builder.Extra P V)(b d a:Nat)(p:gZ)(h:hP)(l:gH)(w:iG)(z:l≠[])
  (o:w.heap[b]? =some (.cells #[p,.slice (some ⟨d,0,none⟩) l.length a] (V.t 72) (0,0))) (hg:w.heap[d]? =some (.cells h (V.t 5) (0,0))) (K:l.length<=a) (u:a<=maxLen) (hcs:h.size=a)
  (i:∀(j:Nat) (x:UInt8),l[j]? =some x->w.cell? ⟨d,j,none⟩=some (.int .u8 x.toNat)):
  Calls P (V.f 169) #[.pointer (some ⟨b,0,none⟩)] w λe w'=>e= .returned (.string ⟨l.toArray⟩)/\w'=w.drew.freeze ⟨d,0,none⟩ l.length:=by
 have hl0:l.length≠0:=by simpa using z
 have c1:w.drew.cell? ⟨b,1,none⟩=some (.slice (some ⟨d,0,none⟩) l.length a):=by
  have:w.drew.heap[b]? =some (.cells #[p,.slice (some ⟨d,0,none⟩) l.length a] (V.t 72) (0,0)):=o;rw[Lib.cell_of_heap this];rfl
 have hSD:(Builtin.unsafeSliceData_ #[(V.t 37)] (V.t 127) #[.slice (some ⟨d,0,none⟩) l.length a]).run P w.drew= .ok (.pointer (some ⟨d,0,none⟩)) w.drew:=
  Lib.run_unsafeSliceData_row _ _ _ _ _ _ (by omega)
 have U:(Builtin.unsafeString_ #[(V.t 127),(V.t 3)] (V.t 9) #[.pointer (some ⟨d,0,none⟩),.int .i64 l.length]).run P w.drew= .ok (.string ⟨l.toArray⟩) (w.drew.freeze ⟨d,0,none⟩ l.length):=
  Lib.run_unsafeString_row w.drew (V.t 127) (V.t 3) (V.t 9) (V.t 5) L.t127 X.cellsByte d h.size (by have q:w.drew.heap[d]? =some (.cells h (V.t 5) (0,0)):=hg;simp[World.shape?,q]) l z (by omega) (by unfold maxLen at u;omega) (λj x hx=>by
   have:=i j x hx;by_cases v:j=0;subst v;simpa [Addr.add]using this
   simpa [Addr.add,v]using this)
 have s:=L.mixed;have t72:=L.t72;have W:=L.a72;have z72:=L.z72;have v72:=L.v72;have Y:=bD L.t72;have t70:=L.t70;have a70:=L.a70;have O:=L.z70;have v70:=L.v70;have Z:=bD L.t70;have t37:=L.t37;have a37:=L.a37;have R:=L.z37;have v37:=L.v37;have u37:=bD L.t37;have t127:=L.t127;have J:=L.a127;have I:=L.z127;have y:=L.v127;have B:=bD L.t127;have t3:=L.t3;have a3:=L.a3;have z3:=L.z3;have v3:=L.v3;have u3:=bD L.t3;have t9:=L.t9;have a9:=L.a9;have z9:=L.z9;have v9:=L.v9;have u9:=bD L.t9;have t5:=X.t5;have a5:=X.a5;have z5:=X.z5;have v5:=X.v5;have u5:=bD X.t5
 go_enter L.f169,Body.n169_ntmps V
 go_wp2
 go_region_o
 all_goals(go_wp2;go_ret;exact⟨rfl,rfl⟩)
theorem Nf(w:iG)(a n:Nat):(w.drew.freeze ⟨a,0,none⟩ n).os=w.os/\(w.drew.freeze ⟨a,0,none⟩ n).tape=w.tape/\(w.drew.freeze ⟨a,0,none⟩ n).output=w.output/\(w.drew.freeze ⟨a,0,none⟩ n).heap.size=w.heap.size:=by
 simp only[World.freeze];split;exact⟨rfl,rfl,rfl,rfl⟩;refine⟨rfl,rfl,rfl,?_⟩;show(w.heap.modify a _).size=_;rw[Array.size_modify]
theorem NZ(w:iG)(a n k:Nat)(h:k≠a):(w.drew.freeze ⟨a,0,none⟩ n).heap[k]? =w.heap[k]? :=by
 simp only[World.freeze,World.drew];split;rfl;show(w.heap.modify a _)[k]? =_;rw[dY,aH (λe=>h e.symm)]
theorem aSh{g:G}{v:gZ}{l s i len:Nat}(h:Rd g v (.ge l s i len)):∃b o a,v= .slice (some ⟨b,o,none⟩) len a/\g.al l/\len<=a/\i+a<=g.cp l/\(0<len\/i=0->b=g.loc l/\o=i*s)/\(i=0->a=g.cp l):=by
 generalize d:T.ge l s i len=t at h;cases h<;>cases d;rename_i b o a _ _ _ _ _;exact⟨b,o,a,rfl,by assumption,by assumption,by assumption,by assumption,by assumption⟩
theorem bAu(L:Lays.n169 P V)(X:Builder.Extra P V)(hok:uQ P (V.f 169)=true){ts:gC}{H H':Hp}{r:T}(h:Ao (V.t 72) (V.t 5) ts H=some (r,H')):Rq P gl (V.f 169) ts H r H':=by
 refine⟨hok,λg vs hg I hgl hv=> ?_⟩;unfold Ao at h;split at h;rename_i l
 match vs,hv with
 |[v],hv=>
  obtain⟨rfl,hal⟩:=UD (hv.I).1;split at h;rename_i ob hob;split at h;rename_i hc;obtain⟨elem,sz,cells,meob⟩:=ob;obtain rfl:meob=none:=(pD hob).2;obtain⟨rfl,rfl⟩:=hc;obtain⟨_,hS,B,hb,q1,q2,q3,q4⟩:=I.own l _ hob;simp only at h hb q1 q2 q3 q4;split at h;rename_i x;cases h;have W:B.size=2:=q2 (by simp);have hl:B.toList.length=2:=by simpa using W
  match hcs:B.toList,hl with
  |[c0,c1],_ =>
   have e0:B= #[c0,c1]:=by rw[<-fM (xs:=B),hcs]
   subst e0;have U:=q4.2 1 c1 .fp (by simp) rfl;cases U;refine(Any.Builder_String_nil L X g.w.heap.size (g.loc l) c0 g.w hb).mono λe w' ⟨he,hw⟩=> ?_;exact⟨_,{g with w:=w'},he,rfl,(wZ hw).bi,BQ hg hw.size,I.ad (wZ hw),by simpa using Rd.str (g:={g with w:=w'}) ⟨#[]⟩⟩
  rename_i x b len;split at h;rename_i o2 Y;split at h;rename_i R;split at h;rename_i o hbs;cases h;obtain⟨elem2,sz2,d⟩:=o2;obtain⟨rfl,rfl,rfl,J⟩:=R;obtain⟨al2,hS2,i,Z,p1,p2,p3,p4⟩:=I.own b _ Y;simp only at Z p1 p2 p3 p4 hbs J;have W:B.size=2:=q2 (by simp);have hl:B.toList.length=2:=by simpa using W
  match hcs:B.toList,hl with
  |[c0,c1],_ =>
   have e0:B= #[c0,c1]:=by rw[<-fM (xs:=B),hcs]
   subst e0;have U:=q4.2 1 c1 _ (by simp) rfl;obtain⟨p,hby⟩:=SF (g:=g) hbs;obtain⟨p31,p32⟩:=p3 (by simp);obtain⟨b2,o2,cap2,rfl,z1,z2,z3,z4,z5⟩:=aSh U;obtain⟨rfl,rfl⟩:=z4 (.inr rfl);have z5':=z5 rfl;subst z5';rw[p]at hb;have K:∀(j:Nat) (x:UInt8),o[j]? =some x->g.w.cell? ⟨g.loc b,j,none⟩=some (.int .u8 x.toNat):=by
    intro j x hx;have hj:j<o.length:=(aQ.1 hx).1;have hj2:j<i.size:=by omega
    have R:i.toList[j]? =some i[j]:=by simp[hj2]
    have hv2:(i.toList.take d.length)[j]? =some i[j]:=by rw[bJ,aJ (by omega)];exact R
    obtain⟨c,hc⟩:∃c,d[j]? =some c:=⟨_,aB (by omega)⟩;obtain⟨y,hy,hvy⟩:=hby j c _ hc (p4.2 j _ c hv2 hc);rw[hx]at hy;cases hy;rw[Lib.cell_of_heap Z];simp[hj2,hvy]
   refine(aTh L X (g.loc l) (g.loc b) (g.cp b) c0 i o g.w (λe=>J (by rw[p,e];rfl)) (by simpa using hb) Z (by rw[<-p];simpa using z2) p32 (by simpa using p31) K).mono λe w' ⟨he,hw⟩=> ?_;subst hw;have s:=Nf g.w (g.loc b) o.length;have u:pP H g (H.drop b) {g with w:=g.w.drew.freeze ⟨g.loc b,0,none⟩ o.length}:=by
    refine⟨s.1,s.2.1,s.2.2.1,Nat.le_of_eq s.2.2.2.symm,λk hk hn=>NZ _ _ _ _ (λe=>hn b _ (pD Y).1 e.symm),λ_ q=>q,λ_ q=> .inl q,λ_ q=>q,λ_ _ =>rfl,λ_ _ =>rfl,λm q a=> ?_⟩;rw[qY]at a;split at a;cases a;exact .inl ⟨m,q,a,rfl⟩
   refine⟨_,{g with w:=g.w.drew.freeze ⟨g.loc b,0,none⟩ o.length},he,rfl,u,?_,?_,?_⟩;intro k hk;have:=hg k hk;show k<(g.w.drew.freeze ⟨g.loc b,0,none⟩ o.length).heap.size;rw[s.2.2.2];exact this;have O:∀m q,m≠b->H.any m=some q->(g.w.drew.freeze ⟨g.loc b,0,none⟩ o.length).heap[g.loc m]? =g.w.heap[g.loc m]? :=λm q J a=>NZ _ _ _ _ (λe=>J (I.sep m b q _ a (pD Y).1 e));refine⟨λm q a=> ?_,λm q kc a hme=> ?_,λm m' q q' h1 h2 e=> ?_,λm hm=>I.new m hm⟩;rw[aIa]at a;split at a;cases a;rename_i hm;obtain⟨ha,hSS,c0',hb',r1,r2,r3,r4⟩:=I.own m q a;refine⟨ha,hSS,c0',?_,r1,r2,r3,r4.af I u⟩;show(g.w.drew.freeze ⟨g.loc b,0,none⟩ o.length).heap[g.loc m]? =_;rw[O m q hm (pD a).1];exact hb';rw[qY]at a;split at a;cases a;rename_i hm;obtain⟨ha,hSS,ms,hb',r1⟩:=I.ap m q kc a hme;refine⟨ha,hSS,ms,?_,r1.mono (λ_ _ z=>z.af I u) (λl hl=>⟨u.al l hl,u.loc l hl⟩)⟩;show(g.w.drew.freeze ⟨g.loc b,0,none⟩ o.length).heap[g.loc m]? =_;rw[O m q hm a];exact hb';rw[qY]at h1 h2;split at h1;cases h1;split at h2;cases h2;exact I.sep m m' q q' h1 h2 e;have:=Rd.str (g:={g with w:=g.w.drew.freeze ⟨g.loc b,0,none⟩ o.length}) ⟨o.toArray⟩;simpa using this
  cases h;cases h;cases h;cases h;cases h;cases h
 |[],hv=>simp[fv]at hv|_ ::_ ::_,hv=>simp[fv]at hv
 cases h
theorem aMd{g:G}{k:Nat}{ik:iC}{zs:gN}(h:KL g k (.ref (.agg (zs.map (T.int ik))) 0)):∃e x,g.w.heap[k]? =some (.cells (zs.map λz=>Value.int ik z).toArray e x):=by
 obtain⟨q,_,Y,e,x,J,K⟩:=h;refine⟨e,x,?_⟩;rw[J];congr 2;apply Array.ext_getElem?;intro j;simp only[T.bm,T.cells,dQ]at K;generalize B:(Value.pointer (some ⟨k,0,none⟩))=v at q;generalize O:(T.ref (.agg (zs.map (T.int ik))) 0)=t at q;cases q<;>cases O;rename_i b o p W U R I;simp only[Value.pointer.injEq,aI,Addr.mk.injEq]at B;obtain⟨rfl,Z,_⟩:=B;have s:o=0:=by omega
 subst s;simp only[T.cells,dQ]at R I;by_cases y:j<zs.length;have i:p[j]? =some (p[j]'(by omega)):=aB _;have a:=U j _ i;rw[cG,Lib.cell_of_heap J]at a;have L:(zs.map (T.int ik))[j]? =some (T.int ik zs[j]):=by simp[y]
 have d:=I j _ (T.int ik zs[j]) i L;have f:p[j]'(by omega)=Value.int ik zs[j]:=by
  generalize p[j]'(by omega)=u at d;cases d;rfl
 rw[f]at a;simp only[List.getElem?_toArray,bA,aB y,cK];simpa using a;rw[dD (by omega),dD (by simp;omega)]
end
end Go.Ps
namespace Go.Proofs.Tryz
open Go.Shelf
def Od:Go.Shelf.Ren:=⟨λ|213=>66|265=>110|n=>n,λ|9=>9|3=>3|n=>n,λ|n=>n⟩
theorem aRe:Go.Proofs.Lays.n213 prog Od:={
 mixed:=by kernel_rfl
 f213:=func66.trans (bG some (by kernel_rfl))
 f265:=func110.trans (bG some (by kernel_rfl))
 t3:=underlying3
 a3:=isAgg3
 z3:=sizeOf3
 v3:=zeroValue3
 t9:=underlying9
 a9:=isAgg9
 z9:=sizeOf9
 v9:=zeroValue9}
def FV:Go.Shelf.Ren:=⟨λ|171=>40|243=>74|246=>114|283=>169|284=>170|285=>171|286=>172|129=>109|317=>244|318=>245|319=>246|320=>247|337=>306|338=>307|n=>n,λ|3=>3|9=>9|2=>2|4=>4|171=>234|0=>0|53=>186|37=>128|5=>5|173=>236|212=>301|51=>184|20=>20|213=>302|46=>122|232=>351|233=>352|n=>n,λ|17=>4|18=>5|19=>6|n=>n⟩
theorem aIv:Go.Proofs.LaysM.n171 prog FV:={
 mixed:=by kernel_rfl
 f129:=func109.trans (bG some (by kernel_rfl))
 f171:=func40.trans (bG some (by kernel_rfl))
 f243:=func74.trans (bG some (by kernel_rfl))
 f246:=func114.trans (bG some (by kernel_rfl))
 f283:=func169.trans (bG some (by kernel_rfl))
 f284:=func170.trans (bG some (by kernel_rfl))
 f285:=func171.trans (bG some (by kernel_rfl))
 f286:=func172.trans (bG some (by kernel_rfl))
 f317:=func244.trans (bG some (by kernel_rfl))
 f318:=func245.trans (bG some (by kernel_rfl))
 f319:=func246.trans (bG some (by kernel_rfl))
 f320:=func247.trans (bG some (by kernel_rfl))
 f337:=func306.trans (bG some (by kernel_rfl))
 f338:=func307.trans (bG some (by kernel_rfl))
 t0:=underlying0
 a0:=isAgg0
 z0:=sizeOf0
 v0:=zeroValue0
 t2:=underlying2
 a2:=isAgg2
 z2:=sizeOf2
 v2:=zeroValue2
 t3:=underlying3
 a3:=isAgg3
 z3:=sizeOf3
 v3:=zeroValue3
 t4:=underlying4
 a4:=isAgg4
 z4:=sizeOf4
 v4:=zeroValue4
 t5:=underlying5
 a5:=isAgg5
 z5:=sizeOf5
 v5:=zeroValue5
 t9:=underlying9
 a9:=isAgg9
 z9:=sizeOf9
 v9:=zeroValue9
 t20:=underlying20
 a20:=isAgg20
 z20:=sizeOf20
 v20:=zeroValue20
 t37:=underlying128
 a37:=isAgg128
 z37:=sizeOf128
 v37:=zeroValue128
 t46:=underlying122
 a46:=isAgg122
 z46:=sizeOf122
 v46:=zeroValue122
 t51:=underlying184
 a51:=isAgg184
 z51:=sizeOf184
 v51:=zeroValue184
 t53:=underlying186
 a53:=isAgg186
 z53:=sizeOf186
 v53:=zeroValue186
 t171:=underlying234
 a171:=isAgg234
 z171:=sizeOf234
 v171:=zeroValue234
 t173:=underlying236
 a173:=isAgg236
 z173:=sizeOf236
 v173:=zeroValue236
 t212:=underlying301
 a212:=isAgg301
 z212:=sizeOf301
 v212:=zeroValue301
 t213:=underlying302
 a213:=isAgg302
 z213:=sizeOf302
 t232:=underlying351
 a232:=isAgg351
 z232:=sizeOf351
 v232:=zeroValue351
 t233:=underlying352
 a233:=isAgg352
 z233:=sizeOf352
 v233:=zeroValue352
 g17:=by kernel_rfl
 g18:=by kernel_rfl
 g19:=by kernel_rfl
 i0:=by kernel_rfl
 i2:=by kernel_rfl
 i3:=by kernel_rfl
 i4:=by kernel_rfl
 i5:=by kernel_rfl
 i9:=by kernel_rfl
 i20:=by kernel_rfl
 i37:=by kernel_rfl
 i46:=by kernel_rfl
 i51:=by kernel_rfl
 i53:=by kernel_rfl
 i171:=by kernel_rfl
 i173:=by kernel_rfl
 i212:=by kernel_rfl
 i232:=by kernel_rfl
 i233:=by kernel_rfl
 m17:=by kernel_rfl
 m18:=by kernel_rfl
 m19:=by kernel_rfl}
def Ia:Go.Shelf.Ren:=⟨λ|172=>208|244=>285|245=>286|247=>318|279=>319|280=>320|281=>321|282=>322|287=>339|316=>340|171=>40|205=>341|321=>350|322=>351|243=>74|246=>114|283=>169|284=>170|285=>171|286=>172|129=>109|317=>244|318=>245|319=>246|320=>247|337=>306|338=>307|n=>n,λ|9=>9|3=>3|75=>138|76=>139|4=>4|5=>5|167=>341|37=>128|0=>0|85=>342|2=>2|168=>344|53=>186|175=>358|46=>122|210=>361|127=>197|145=>374|143=>372|21=>21|171=>234|173=>236|212=>301|51=>184|20=>20|213=>302|232=>351|233=>352|80=>141|n=>n,λ|15=>7|16=>8|17=>4|18=>5|19=>6|n=>n⟩
theorem XO:Go.Proofs.LaysC.n172 prog Ia:={
 mixed:=by kernel_rfl
 f129:=func109.trans (bG some (by kernel_rfl))
 f171:=func40.trans (bG some (by kernel_rfl))
 f172:=func208.trans (bG some (by kernel_rfl))
 f205:=func341.trans (bG some (by kernel_rfl))
 f243:=func74.trans (bG some (by kernel_rfl))
 f244:=func285.trans (bG some (by kernel_rfl))
 f245:=func286.trans (bG some (by kernel_rfl))
 f246:=func114.trans (bG some (by kernel_rfl))
 f247:=func318.trans (bG some (by kernel_rfl))
 f279:=func319.trans (bG some (by kernel_rfl))
 f280:=func320.trans (bG some (by kernel_rfl))
 f281:=func321.trans (bG some (by kernel_rfl))
 f282:=func322.trans (bG some (by kernel_rfl))
 f283:=func169.trans (bG some (by kernel_rfl))
 f284:=func170.trans (bG some (by kernel_rfl))
 f285:=func171.trans (bG some (by kernel_rfl))
 f286:=func172.trans (bG some (by kernel_rfl))
 f287:=func339.trans (bG some (by kernel_rfl))
 f316:=func340.trans (bG some (by kernel_rfl))
 f317:=func244.trans (bG some (by kernel_rfl))
 f318:=func245.trans (bG some (by kernel_rfl))
 f319:=func246.trans (bG some (by kernel_rfl))
 f320:=func247.trans (bG some (by kernel_rfl))
 f321:=func350.trans (bG some (by kernel_rfl))
 f322:=func351.trans (bG some (by kernel_rfl))
 f337:=func306.trans (bG some (by kernel_rfl))
 f338:=func307.trans (bG some (by kernel_rfl))
 t0:=underlying0
 a0:=isAgg0
 z0:=sizeOf0
 v0:=zeroValue0
 t2:=underlying2
 a2:=isAgg2
 z2:=sizeOf2
 v2:=zeroValue2
 t3:=underlying3
 a3:=isAgg3
 z3:=sizeOf3
 v3:=zeroValue3
 t4:=underlying4
 a4:=isAgg4
 z4:=sizeOf4
 v4:=zeroValue4
 t5:=underlying5
 a5:=isAgg5
 z5:=sizeOf5
 v5:=zeroValue5
 t9:=underlying9
 a9:=isAgg9
 z9:=sizeOf9
 v9:=zeroValue9
 t20:=underlying20
 a20:=isAgg20
 z20:=sizeOf20
 v20:=zeroValue20
 t21:=underlying21
 a21:=isAgg21
 z21:=sizeOf21
 v21:=zeroValue21
 t37:=underlying128
 a37:=isAgg128
 z37:=sizeOf128
 v37:=zeroValue128
 t46:=underlying122
 a46:=isAgg122
 z46:=sizeOf122
 v46:=zeroValue122
 t51:=underlying184
 a51:=isAgg184
 z51:=sizeOf184
 v51:=zeroValue184
 t53:=underlying186
 a53:=isAgg186
 z53:=sizeOf186
 v53:=zeroValue186
 t75:=underlying138
 a75:=isAgg138
 z75:=sizeOf138
 v75:=zeroValue138
 t76:=underlying139
 a76:=isAgg139
 z76:=sizeOf139
 v76:=zeroValue139
 t85:=underlying342
 a85:=isAgg342
 z85:=sizeOf342
 v85:=zeroValue342
 t127:=underlying197
 a127:=isAgg197
 z127:=sizeOf197
 v127:=zeroValue197
 t143:=underlying372
 a143:=isAgg372
 z143:=sizeOf372
 v143:=zeroValue372
 t145:=underlying374
 a145:=isAgg374
 z145:=sizeOf374
 v145:=zeroValue374
 t167:=underlying341
 a167:=isAgg341
 z167:=sizeOf341
 v167:=zeroValue341
 t168:=underlying344
 a168:=isAgg344
 z168:=sizeOf344
 v168:=zeroValue344
 t171:=underlying234
 a171:=isAgg234
 z171:=sizeOf234
 v171:=zeroValue234
 t173:=underlying236
 a173:=isAgg236
 z173:=sizeOf236
 v173:=zeroValue236
 t175:=underlying358
 a175:=isAgg358
 z175:=sizeOf358
 v175:=zeroValue358
 t210:=underlying361
 a210:=isAgg361
 z210:=sizeOf361
 v210:=zeroValue361
 t212:=underlying301
 a212:=isAgg301
 z212:=sizeOf301
 v212:=zeroValue301
 t213:=underlying302
 a213:=isAgg302
 z213:=sizeOf302
 t232:=underlying351
 a232:=isAgg351
 z232:=sizeOf351
 v232:=zeroValue351
 t233:=underlying352
 a233:=isAgg352
 z233:=sizeOf352
 v233:=zeroValue352
 g15:=by kernel_rfl
 g16:=by kernel_rfl
 g17:=by kernel_rfl
 g18:=by kernel_rfl
 g19:=by kernel_rfl
 t80:=underlying141
 a80:=isAgg141
 z80:=sizeOf141
 v80:=zeroValue141
 i0:=by kernel_rfl
 i2:=by kernel_rfl
 i3:=by kernel_rfl
 i4:=by kernel_rfl
 i5:=by kernel_rfl
 i9:=by kernel_rfl
 i20:=by kernel_rfl
 i21:=by kernel_rfl
 i37:=by kernel_rfl
 i46:=by kernel_rfl
 i51:=by kernel_rfl
 i53:=by kernel_rfl
 i75:=by kernel_rfl
 i76:=by kernel_rfl
 i80:=by kernel_rfl
 i85:=by kernel_rfl
 i127:=by kernel_rfl
 i143:=by kernel_rfl
 i145:=by kernel_rfl
 i167:=by kernel_rfl
 i168:=by kernel_rfl
 i171:=by kernel_rfl
 i173:=by kernel_rfl
 i175:=by kernel_rfl
 i210:=by kernel_rfl
 i212:=by kernel_rfl
 i232:=by kernel_rfl
 i233:=by kernel_rfl
 m15:=by kernel_rfl
 m16:=by kernel_rfl
 m17:=by kernel_rfl
 m18:=by kernel_rfl
 m19:=by kernel_rfl
 c0:=by kernel_rfl
 c2:=by kernel_rfl
 c3:=by kernel_rfl
 c4:=by kernel_rfl
 c5:=by kernel_rfl
 c9:=by kernel_rfl
 c20:=by kernel_rfl
 c21:=by kernel_rfl
 c37:=by kernel_rfl
 c46:=by kernel_rfl
 c51:=by kernel_rfl
 c53:=by kernel_rfl
 c75:=by kernel_rfl
 c76:=by kernel_rfl
 c80:=by kernel_rfl
 c85:=by kernel_rfl
 c127:=by kernel_rfl
 c143:=by kernel_rfl
 c145:=by kernel_rfl
 c167:=by kernel_rfl
 c168:=by kernel_rfl
 c171:=by kernel_rfl
 c173:=by kernel_rfl
 c175:=by kernel_rfl
 c210:=by kernel_rfl
 c212:=by kernel_rfl
 c213:=by kernel_rfl
 c232:=by kernel_rfl
 c233:=by kernel_rfl}
def Oe:Go.Shelf.Ren:=⟨λ|217=>113|266=>168|n=>n,λ|9=>9|5=>5|3=>3|n=>n,λ|n=>n⟩
theorem aRf:Go.Proofs.Lays.n217 prog Oe:={
 mixed:=by kernel_rfl
 f217:=func113.trans (bG some (by kernel_rfl))
 f266:=func168.trans (bG some (by kernel_rfl))
 t3:=underlying3
 a3:=isAgg3
 z3:=sizeOf3
 v3:=zeroValue3
 t5:=underlying5
 a5:=isAgg5
 z5:=sizeOf5
 v5:=zeroValue5
 t9:=underlying9
 a9:=isAgg9
 z9:=sizeOf9
 v9:=zeroValue9}
def Nz:Go.Shelf.Ren:=⟨λ|145=>207|220=>284|219=>314|217=>113|225=>250|224=>249|267=>334|266=>168|314=>348|n=>n,λ|9=>9|4=>4|59=>274|3=>3|5=>5|46=>122|146=>366|51=>184|n=>n,λ|1=>2|n=>n⟩
theorem aRa:Go.Proofs.Lays.n145 prog Nz:={
 mixed:=by kernel_rfl
 f145:=func207.trans (bG some (by kernel_rfl))
 f217:=func113.trans (bG some (by kernel_rfl))
 f219:=func314.trans (bG some (by kernel_rfl))
 f220:=func284.trans (bG some (by kernel_rfl))
 f224:=func249.trans (bG some (by kernel_rfl))
 f225:=func250.trans (bG some (by kernel_rfl))
 f266:=func168.trans (bG some (by kernel_rfl))
 f267:=func334.trans (bG some (by kernel_rfl))
 f314:=func348.trans (bG some (by kernel_rfl))
 t3:=underlying3
 a3:=isAgg3
 z3:=sizeOf3
 v3:=zeroValue3
 t4:=underlying4
 a4:=isAgg4
 z4:=sizeOf4
 v4:=zeroValue4
 t5:=underlying5
 a5:=isAgg5
 z5:=sizeOf5
 v5:=zeroValue5
 t9:=underlying9
 a9:=isAgg9
 z9:=sizeOf9
 v9:=zeroValue9
 t46:=underlying122
 a46:=isAgg122
 z46:=sizeOf122
 v46:=zeroValue122
 t51:=underlying184
 a51:=isAgg184
 z51:=sizeOf184
 v51:=zeroValue184
 t59:=underlying274
 a59:=isAgg274
 z59:=sizeOf274
 v59:=zeroValue274
 t146:=underlying366
 a146:=isAgg366
 z146:=sizeOf366
 v146:=zeroValue366
 g1:=by kernel_rfl}
def IM:Go.Shelf.Ren:=⟨λ|152=>173|137=>72|119=>248|224=>249|225=>250|217=>113|266=>168|n=>n,λ|9=>9|21=>21|3=>3|4=>4|5=>5|0=>0|46=>122|n=>n,λ|n=>n⟩
theorem Ys:Go.Proofs.Lays.n152 prog IM:={
 mixed:=by kernel_rfl
 f119:=func248.trans (bG some (by kernel_rfl))
 f137:=func72.trans (bG some (by kernel_rfl))
 f152:=func173.trans (bG some (by kernel_rfl))
 f217:=func113.trans (bG some (by kernel_rfl))
 f224:=func249.trans (bG some (by kernel_rfl))
 f225:=func250.trans (bG some (by kernel_rfl))
 f266:=func168.trans (bG some (by kernel_rfl))
 t0:=underlying0
 a0:=isAgg0
 z0:=sizeOf0
 v0:=zeroValue0
 t3:=underlying3
 a3:=isAgg3
 z3:=sizeOf3
 v3:=zeroValue3
 t4:=underlying4
 a4:=isAgg4
 z4:=sizeOf4
 v4:=zeroValue4
 t5:=underlying5
 a5:=isAgg5
 z5:=sizeOf5
 v5:=zeroValue5
 t9:=underlying9
 a9:=isAgg9
 z9:=sizeOf9
 v9:=zeroValue9
 t21:=underlying21
 a21:=isAgg21
 z21:=sizeOf21
 v21:=zeroValue21
 t46:=underlying122
 a46:=isAgg122
 z46:=sizeOf122
 v46:=zeroValue122}
def SR:Go.Shelf.Ren:=⟨λ|153=>115|152=>173|226=>174|227=>175|228=>176|137=>72|119=>248|224=>249|225=>250|217=>113|266=>168|n=>n,λ|9=>9|3=>3|4=>4|5=>5|21=>21|117=>241|116=>240|0=>0|46=>122|124=>304|n=>n,λ|n=>n⟩
theorem aRb:Go.Proofs.Lays.n153 prog SR:={
 mixed:=by kernel_rfl
 f119:=func248.trans (bG some (by kernel_rfl))
 f137:=func72.trans (bG some (by kernel_rfl))
 f152:=func173.trans (bG some (by kernel_rfl))
 f153:=func115.trans (bG some (by kernel_rfl))
 f217:=func113.trans (bG some (by kernel_rfl))
 f224:=func249.trans (bG some (by kernel_rfl))
 f225:=func250.trans (bG some (by kernel_rfl))
 f226:=func174.trans (bG some (by kernel_rfl))
 f227:=func175.trans (bG some (by kernel_rfl))
 f228:=func176.trans (bG some (by kernel_rfl))
 f266:=func168.trans (bG some (by kernel_rfl))
 t0:=underlying0
 a0:=isAgg0
 z0:=sizeOf0
 v0:=zeroValue0
 t3:=underlying3
 a3:=isAgg3
 z3:=sizeOf3
 v3:=zeroValue3
 t4:=underlying4
 a4:=isAgg4
 z4:=sizeOf4
 v4:=zeroValue4
 t5:=underlying5
 a5:=isAgg5
 z5:=sizeOf5
 v5:=zeroValue5
 t9:=underlying9
 a9:=isAgg9
 z9:=sizeOf9
 v9:=zeroValue9
 t21:=underlying21
 a21:=isAgg21
 z21:=sizeOf21
 v21:=zeroValue21
 t46:=underlying122
 a46:=isAgg122
 z46:=sizeOf122
 v46:=zeroValue122
 t116:=underlying240
 a116:=isAgg240
 z116:=sizeOf240
 t117:=underlying241
 a117:=isAgg241
 z117:=sizeOf241
 v117:=zeroValue241
 t124:=underlying304
 a124:=isAgg304
 z124:=sizeOf304
 v124:=zeroValue304}
def Oa:Go.Shelf.Ren:=⟨λ|196=>56|259=>87|n=>n,λ|9=>9|4=>4|3=>3|5=>5|12=>12|119=>153|0=>0|46=>122|139=>156|138=>155|53=>186|n=>n,λ|3=>0|4=>1|n=>n⟩
theorem aRc:Go.Proofs.Lays.n196 prog Oa:={
 mixed:=by kernel_rfl
 f196:=func56.trans (bG some (by kernel_rfl))
 f259:=func87.trans (bG some (by kernel_rfl))
 t0:=underlying0
 a0:=isAgg0
 z0:=sizeOf0
 v0:=zeroValue0
 t3:=underlying3
 a3:=isAgg3
 z3:=sizeOf3
 v3:=zeroValue3
 t4:=underlying4
 a4:=isAgg4
 z4:=sizeOf4
 v4:=zeroValue4
 t5:=underlying5
 a5:=isAgg5
 z5:=sizeOf5
 v5:=zeroValue5
 t9:=underlying9
 a9:=isAgg9
 z9:=sizeOf9
 v9:=zeroValue9
 t12:=underlying12
 a12:=isAgg12
 z12:=sizeOf12
 v12:=zeroValue12
 t46:=underlying122
 a46:=isAgg122
 z46:=sizeOf122
 v46:=zeroValue122
 t53:=underlying186
 a53:=isAgg186
 z53:=sizeOf186
 v53:=zeroValue186
 t119:=underlying153
 a119:=isAgg153
 z119:=sizeOf153
 t138:=underlying155
 a138:=isAgg155
 z138:=sizeOf155
 v138:=zeroValue155
 t139:=underlying156
 a139:=isAgg156
 z139:=sizeOf156
 v139:=zeroValue156
 g3:=by kernel_rfl
 g4:=by kernel_rfl}
end Go.Proofs.Tryz
namespace Go.Proofs.Tryz
open Go.Ps
noncomputable section
theorem follows:prog.follows .mixedOrders=true:=by kernel_rfl
def lU:Nat->Option T:=λn=>if n=4 then some (.ref (.agg (Lib.pow10Tab.map (T.int .u64))) 0)else none
theorem gz{g:G}(b:gn lU g)(n:Int)(f:-9223372036854775808<=n)(a:n<=9223372036854775807):Calls prog 40 #[.int .i64 n] g.w λe d=>e= .returned (.string ⟨(Lib.itoa n).toArray⟩)/\∃k o,d=Sort.grow (g.w.drewN k) o:=by
 refine Any.strconv_Itoa aIv n f a g.w ?_;obtain⟨e,i,h⟩:=aMd (b 4 _ rfl);unfold Lib.TabIs World.var?;rw[show prog.globalNamed _ =some 4 by kernel_rfl];simp only[eD,h]
def bDx:List T->Option T
 |[.str a,.str b]=>some (.int .i64 (Lib.compareBytes a b))|_ =>none
def bEt:List T->Option T
 |[.str a,.int .u8 c]=>some (.int .i64 (Lib.indexByte a c.toNat.toUInt8))|_ =>none
def lV(f:gX)(a:gC):Option T:=if f=40 then Np a else if f=66 then bDx a else if f=113 then bEt a else none
theorem Zx{f:gX}{b:gC}{r:T}(s:uQ prog f=true)(h:∀(g:G) (a:gV),fv g a b->∃v,Rd g v r/\Calls prog f a.toArray g.w λe d=>e= .returned v/\d=g.w):fj prog lU f b r:=by
 refine⟨s,λg a p _ _ q=> ?_⟩;obtain⟨v,o,i⟩:=h g a q;refine i.mono ?_;rintro e d ⟨rfl,rfl⟩;exact⟨v,g,rfl,rfl,fx.refl g,p,o⟩
theorem Iz{f:gX}{p:gC}{r:T}(h:lV f p=some r):fj prog lU f p r:=by
 unfold lV at h;split at h;rename_i e;subst e;exact Yl (V:=FV) (by kernel_rfl) (λg B n x i=>gz B n x i) p r h;split at h;rename_i e;subst e;refine Zx (by kernel_rfl) λg s d=> ?_;unfold bDx at h;split at h;cases h
 match s,d with
 |[u,v],d=>
  obtain⟨i,q⟩:=d.I;obtain⟨a,rfl,o⟩:=i.aj;obtain⟨b,rfl,y⟩:=(q.I).1.aj;refine⟨_,.int _ _,?_⟩;have:=Any.bytealg_CompareString aRe a b g.w;rw[o,y]at this;exact this
 |[],d=>have:=d.1;simp at this|[_],d=>have:=d.1;simp at this|_ ::_ ::_ ::_,d=>have:=d.1;simp at this
 cases h;split at h;rename_i e;subst e;refine Zx (by kernel_rfl) λg s d=> ?_;unfold bEt at h;split at h;rename_i J I;cases h
 match s,d with
 |[u,v],d=>
  obtain⟨i,q⟩:=d.I;obtain⟨a,rfl,o⟩:=i.aj;have z:=(q.I).1.gm;subst z;refine⟨_,.int _ _,?_⟩;have:=Any.stringslite_IndexByte aRf a I g.w;rw[o]at this;exact this
 |[],d=>have:=d.1;simp at this|[_],d=>have:=d.1;simp at this|_ ::_ ::_ ::_,d=>have:=d.1;simp at this
 cases h;cases h
end
end Go.Proofs.Tryz
namespace Go.Proofs.Tryz
open Go.Shelf Go.RowKit Go.Lib
variable{P:Ps.gD}{V:Ren}
set_option maxHeartbeats 4000000 in
set_option maxRecDepth 1000000 in
theorem Ns(L:Lays.n152 P V)(s:Ps.iL)(w:Ps.iG)(q:∀(j:Nat) b,s.data.toList[j]? =some b->b.toNat<128):
  Calls P (V.f 152) #[.string s,.int .i32 65533] w λe K=>e= .returned (.int .i64 (-1))/\K=w.iter s s.size:=by
 have O:Aside (∀(j:Nat) b,s.data.toList[j]? =some b->b.toNat<128):=q;clear q;have t3:=L.t3;have a3:=L.a3;have Y:=L.z3;have W:=L.v3;have t4:=L.t4;have a4:=L.a4;have R:=L.z4;have U:=L.v4;have t5:=L.t5;have a5:=L.a5;have z5:=L.z5;have v5:=L.v5;have t9:=L.t9;have a9:=L.a9;have z9:=L.z9;have Z:=L.v9;have t21:=L.t21;have u:=L.a21;have I:=L.z21;have J:=L.v21
 go_enter L.f152,Body.n152_ntmps V
 go_wp2
 go_loopg [5,6] s.size (λg _ _ B=>∃i:Nat,i+g=s.size/\B=w.iter s i)
 case atStart=>exact⟨0,by omega,rfl⟩
 case round=>
  obtain⟨i,z,rfl⟩:=hrel;cases gk with
  |zero=>
   obtain rfl:i=s.size:=by omega
   have d:=run_next_end (P:=P) w s s.size
   go_wp2
   go_ret
   exact⟨rfl,rfl⟩
  |succ g=>
   have p:i<s.size:=by omega
   obtain⟨x,o⟩:∃x:UInt8,s[i]'p=x:=⟨_,rfl⟩;have a:s.data.toList[i]? =some x:=by rw[<-o];exact Lib.data_getElem? s i p
   have h:x.toNat<128:=O.out i x a;have y:((x.toNat:Int)==65533)=false:=beq_eq_false_iff_ne.2 (by omega);have d:=λv=>run_next_ascii (P:=P) w s i v p (by rw[o];exact h);rw[o]at d;clear a o
   go_wp2
   go_roundg g
   case measure=>omega
   case rel=>exact⟨i+1,by omega,rfl⟩
set_option maxHeartbeats 4000000 in
set_option maxRecDepth 1000000 in
theorem Hw(L:Lays.n152 P V)(s:Ps.iL)(r:Int)(w:Ps.iG)(R:∀(j:Nat) b,s.data.toList[j]? =some b->b.toNat<128)(h0:128<=r)(h1:r≠65533)(hsz:s.size<4294967281):
  Calls P (V.f 152) #[.string s,.int .i32 r] w λe h=>e= .returned (.int .i64 (-1))/\∃n,h=w.drewN n:=by
 have W:Aside (∀(j:Nat) b,s.data.toList[j]? =some b->b.toNat<128):=R;clear R;have t3:=L.t3;have a3:=L.a3;have z3:=L.z3;have v3:=L.v3;have t4:=L.t4;have a4:=L.a4;have z4:=L.z4;have v4:=L.v4;have t5:=L.t5;have a5:=L.a5;have z5:=L.z5;have v5:=L.v5;have t9:=L.t9;have a9:=L.a9;have z9:=L.z9;have v9:=L.v9;have t21:=L.t21;have a21:=L.a21;have z21:=L.z21;have v21:=L.v21;have Y:∀d w,(callFunc (V.f 137) d).run P w= .ok (.enter (V.f 137) d) w:=enters_of L.f137 (by kernel_rfl) rfl;have e119:∀d w,(callFunc (V.f 119) d).run P w= .ok (.enter (V.f 119) d) w:=enters_of L.f119 (by kernel_rfl) rfl;have O:=L.mixed;have hlt:decide (r<128)=false:=cT (by omega);have hne:(r==65533)=false:=beq_eq_false_iff_ne.2 h1
 go_enter L.f152,Body.n152_ntmps V
 cases hv:Lib.validRune r
 .go_wp2_with (go_at_fn (V.f 119);refine(Any.utf8_ValidRune {L with} _ _).mono ?_;rintro e h ⟨rfl,v⟩;rw[v,hv])
  go_ret
  exact⟨rfl,0,rfl⟩
 .have z:Utf8.valid r=true:=by
   rw[validRune_eq];unfold Go.validRune;unfold Lib.validRune at hv;have:=cH hv;exact bU (by omega)
  obtain⟨q1,q2,Z⟩:=encode_facts r z h0;have I:∀w,(convert (V.t 21) (V.t 9) (.int .i32 r)).run P w= .ok (.string (Utf8.encode r)) w:=λw=>run_convert_int_string w _ _ _ _ (by rw[L.t21];rfl) L.t9;generalize Utf8.encode r=p at q1 q2 Z I;obtain⟨m,hm⟩:∃m,p.size=m+1:=⟨p.size-1,by omega⟩;have hmi:(p.size:Int)-1=(m:Int):=by omega
  go_wp2_with (go_at_fn (V.f 119);refine(Any.utf8_ValidRune {L with} _ _).mono ?_;rintro e h ⟨rfl,v⟩;rw[v,hv])
  go_step3
  go_wp2
  go_loopg [9] 1 (λg s9 wx=>g=1/\s9= .int .i64 (m:Int)/\wx=w)
  case atStart=>exact⟨rfl,rfl,rfl⟩
  case round=>
   obtain⟨rfl,rfl,rfl⟩:=hrel;by_cases q:m<s.size
   .have B:(m:Int)<(s.size:Int):=by omega
    have hlr:(m:Int)<(p.size:Int):=by omega
    have u:m<p.size:=by omega
    have U:(m:Int)<(m:Int)+1:=by omega
    have J:∃x:UInt8,s[m]'q=x/\x.toNat<128:=⟨_,rfl,W.out m _ (Lib.data_getElem? s _ q)⟩;obtain⟨x,hx,K⟩:=J;have hy:∃y:UInt8,p[m]'u=y/\128<=y.toNat:=⟨_,rfl,by have:=Z (by omega);simpa [show p.size-1=m by omega]using this⟩;obtain⟨y,hyy,o⟩:=hy;have hxy:((x.toNat:Int)==(y.toNat:Int))=false:=beq_eq_false_iff_ne.2 (by omega)
    go_wp2
    go_step3
    go_wp2
    have hm1:(m:Int)+1<=(s.size:Int):=by omega
    have hm0:(0:Int)<=(m:Int)+1:=by omega
    have hwr:IntKind.i64.wrap ((m:Int)+1)=(m:Int)+1:=wrap_small _ (by omega) (by omega);have hmn:((m:Int)+1).toNat=m+1:=by omega
    have i:∀a e w,Calls P (V.f 137) #[.string (s.extract a e),.int .u8 y.toNat] w λe h=>e= .returned (.int .i64 (-1))/\h=w:=λa e w=>by
     refine(Any.strings_IndexByte {L with} _ _ _).mono ?_;rintro e h ⟨rfl,v⟩;refine⟨?_,v⟩;have e1:((y.toNat:Int)).toNat.toUInt8=y:=by simp
     rw[e1,<-Lib.firstIdx_eq,firstIdx_ascii s _ _ y (λb J=>by obtain⟨j,hj,rfl⟩:=bX J;exact W.out j _ (aB hj)) o]
    go_quiet_o (fail)
    go_wp2
    go_quiet_o (first|(go_at_fn (V.f 137);refine(i _ _ _).mono ?_;rintro e h ⟨rfl,rfl⟩;exact⟨rfl,_,rfl⟩))
    go_wp2
    rw[Exit.noGoto_ret];show Exit.noGoto _ Exit.ret _ _;rw[Exit.noGoto_ret];change bodyPost P (Body.n152 V) (λe h=>e=Ending.returned (Value.int IntKind.i64 (-1))/\∃n,h=wr.drewN n) Exit.ret _ _
    go_ret
    exact⟨rfl,_,rfl⟩
   have B:¬(m:Int)<(s.size:Int):=by omega
   go_wp2
   go_ret
   exact⟨rfl,0,rfl⟩
theorem IJ{B:Nat}{a w:Ps.iG}(h:Below B a w):∀q,Below B a (w.drewN q)
 |0=>h|q+1=>(IJ h q).drew
theorem aQu(L:Lays.n152 P V)(s:Ps.iL)(r:Int)(w:Ps.iG)(d:∀(j:Nat) b,s.data.toList[j]? =some b->b.toNat<128)(o:128<=r)(h:s.size<4294967281):
  Calls P (V.f 152) #[.string s,.int .i32 r] w λe a=>e= .returned (.int .i64 (-1))/\Below w.heap.size w a:=by
 by_cases i:r=65533;subst i;refine(Ns L s w d).mono ?_;rintro e a ⟨rfl,rfl⟩;exact⟨rfl,(Below.refl _ w).alloc (bB _) _⟩;refine(Hw L s r w d o i h).mono ?_;rintro e a ⟨rfl,n,rfl⟩;exact⟨rfl,IJ (Below.refl _ w) n⟩
theorem XH(s:Ps.iL)(i k:Nat)(e:1<=k)(h:k<(Utf8.decode s i).2):128<=(s.get! (i+k)).toNat:=by
 have a:∀j,(decide (i+j<s.size)&&(s.get! (i+j)).toNat/64==2)=true->128<=(s.get! (i+j)).toNat:=λj d=>by
  simp only[aA,bN]at d;omega
 simp only[Utf8.decode]at h;split at h;simp only at h;omega;split at h;rename_i b;simp only[aA]at b;split at h<;>simp only at h;obtain rfl:k=1:=by omega
 exact a 1 (by simpa using b.2);omega;split at h;rename_i b;simp only[aA]at b;split at h<;>simp only at h;rcases(by omega:k=1\/k=2)with rfl|rfl;exact a 1 (by simpa using b.1.2);exact a 2 (by simpa using b.2);omega;split at h;rename_i b;simp only[aA]at b;split at h<;>simp only at h;rcases(by omega:k=1\/k=2\/k=3)with rfl|rfl|rfl;exact a 1 (by simpa using b.1.1.2);exact a 2 (by simpa using b.1.2);exact a 3 (by simpa using b.2);omega;simp only at h;omega
theorem Ac{s a:Ps.iL}{i w:Nat}(p:∀(j:Nat) b,a.data.toList[j]? =some b->b.toNat<128)(h:Lib.NoAny s.data.toList a.data.toList i)(B:i<s.size)(y:128<=(s[i]'B).toNat)(z:(Utf8.decode s i).2=w):
  Lib.NoAny s.data.toList a.data.toList (i+w):=by
 have f:∀b:UInt8,128<=b.toNat->a.data.toList.contains b=false:=λb e=>by
  cases hc:a.data.toList.contains b with
  |false=>rfl
  |true=>
   obtain⟨j,q,rfl⟩:=bX (List.contains_iff_mem.1 hc);have:=p j _ (aB q);omega
 intro j b q e;by_cases u:j<i;exact h j b u e;have d:j<s.size:=by have:=(aQ.1 e).1;rw[Lib.size_eq];exact this
 have o:s[j]'d=b:=by have:=Lib.data_getElem? s j d;rw[this]at e;exact bV e
 by_cases v:j=i;subst v;exact f b (by rw[<-o];exact y);refine f b ?_;have:=XH s i (j-i) (by omega) (by omega);rw[show i+(j-i)=j by omega]at this;have x:s.get! j=s[j]'d:=by simp[ByteArray.get!,getElem!_pos,d];rfl
 rw[x,o]at this;exact this
theorem Nq(w:Ps.iG)(k:Nat)(s:Ps.iL)(p:Nat)(a:Ps.gB)(b:w.heap[k]? =some (.stringIter s p))(h:p<s.size):
  (Instr.next (.pointer (some ⟨k,0,none⟩)) true a).run P w= .ok (.tuple #[.bool true,.int .i64 p,.int .i32 (Utf8.decode s p).1]) {w with heap:=w.heap.setIfInBounds k (.stringIter s (p+(Utf8.decode s p).2))}:=by
 simp only[Instr.next,getObj,setObj,aW,Sem.run,b,Result.andThen,h,cB];simp[goInt]
theorem Nr(w:Ps.iG)(k:Nat)(s:Ps.iL)(p:Nat)(a:Ps.gB)(b:w.heap[k]? =some (.stringIter s p))(h:¬p<s.size):
  (Instr.next (.pointer (some ⟨k,0,none⟩)) true a).run P w= .ok (.tuple #[.bool false]) w:=by
 simp[Instr.next,getObj,Sem.run,b,h]
set_option maxHeartbeats 8000000 in
set_option maxRecDepth 1000000 in
theorem aIq(L:Lays.n153 P V)(s a:Ps.iL)(w:Ps.iG)(h2:2<=a.size)(h8:s.size<=8)(hcs:a.size<4294967281)(U:∀(j:Nat) b,a.data.toList[j]? =some b->b.toNat<128):
  Calls P (V.f 153) #[.string s,.string a] w λe w'=>e= .returned (.int .i64 (Lib.indexAny s.data.toList a.data.toList))/\Below w.heap.size w w':=by
 have HA:Aside (∀(j:Nat) b,a.data.toList[j]? =some b->b.toNat<128):=U;clear U;have hemp:a.toList.isEmpty=false:=by
  rw[Lib.toList_data];cases h:a.data.toList with
  |nil=>have:=Lib.size_eq a;rw[h,bL]at this;omega|cons _ _ =>rfl
 have hn1:((a.size:Int)==1)=false:=beq_eq_false_iff_ne.2 (by omega);have h8z:decide ((8:Int)<(s.size:Int))=false:=cT (by omega);have t3:=L.t3;have a3:=L.a3;have z3:=L.z3;have v3:=L.v3;have t4:=L.t4;have a4:=L.a4;have z4:=L.z4;have v4:=L.v4;have t5:=L.t5;have a5:=L.a5;have z5:=L.z5;have v5:=L.v5;have t9:=L.t9;have a9:=L.a9;have z9:=L.z9;have v9:=L.v9;have t21:=L.t21;have a21:=L.a21;have z21:=L.z21;have v21:=L.v21;have e152:∀q w,(callFunc (V.f 152) q).run P w= .ok (.enter (V.f 152) q) w:=enters_of L.f152 (by kernel_rfl) rfl;have e226:∀q w,(callFunc (V.f 226) q).run P w= .ok (.enter (V.f 226) q) w:=enters_of L.f226 (by kernel_rfl) rfl
 go_enter L.f153,Body.n153_ntmps V
 go_wp2_with (go_at_fn (V.f 226);refine(Any.strings_shouldUseASCIISet {L with} _ _).mono ?_;rintro e w' ⟨rfl,u⟩;rw[u,h8z])
 go_loopg [9,10] s.size (λg _ _ wx=>∃i:Nat,s.size<=i+g/\wx.heap[w.heap.size]? =some (.stringIter s i)/\Below w.heap.size w wx/\Lib.NoAny s.data.toList a.data.toList i)
 case atStart=>exact⟨0,by omega,World.iter_heap w s 0,(Below.refl _ w).alloc (bB _) _,Lib.NoAny.zero _ _⟩
 case round=>
  obtain⟨i,hig,hit,p,hno⟩:=hrel;have HN:Aside (Lib.NoAny s.data.toList a.data.toList i):=hno;clear hno;have hk:w.heap.size<wr.heap.size:=(aX.1 hit).1;by_cases K:i<s.size
  .obtain⟨g,rfl⟩:∃g,gk=g+1:=⟨gk-1,by omega⟩;obtain⟨x,R⟩:∃x:UInt8,s[i]'K=x:=⟨_,rfl⟩;have O:s.data.toList[i]? =some x:=by rw[<-R];exact Lib.data_getElem? s i K
   have v:=λty=>Nq (P:=P) wr w.heap.size s i ty hit K;obtain⟨I,z⟩:∃I:World,{wr with heap:=wr.heap.setIfInBounds w.heap.size (.stringIter s (i+(Utf8.decode s i).2))}=I:=⟨_,rfl⟩;have J:Below w.heap.size w I:=by
    rw[<-z];refine⟨p.os,p.tape,p.output,by simpa using p.size,λk hk'=> ?_⟩;show(wr.heap.setIfInBounds w.heap.size _)[k]? =_;rw[bT (by omega)];exact p.block k hk'
   have d:I.heap[w.heap.size]? =some (.stringIter s (i+(Utf8.decode s i).2)):=by
    rw[<-z];show(wr.heap.setIfInBounds w.heap.size _)[w.heap.size]? =_;rw[Array.getElem?_setIfInBounds_self_of_lt hk]
   rw[z]at v;by_cases y:x.toNat<128
   .have hd:Utf8.decode s i=(x.toNat,1):=by rw[<-R]at y⊢;exact decode_ascii s i K y
    rw[hd]at v d;simp only at v d;have Hx:Aside (s.data.toList[i]? =some x):=O;have H1:Aside (Below w.heap.size w I/\I.heap[w.heap.size]? =some (.stringIter s (i+1))):=⟨J,d⟩;clear O R z J d hit p hd;have o:=Lib.contains_iff_indexByte a.data.toList x;have B:((x.toNat:Int)).toNat.toUInt8=x:=by simp
    cases hin:a.data.toList.contains x
    .rw[hin]at o;have Z:¬((0:Int)<=Lib.indexByte a.data.toList x):=of_decide_eq_false o.symm;clear o
     go_wp2_with (go_at_fn (V.f 152);refine(Any.strings_IndexRune_ascii {L with} _ _ _ (by omega) (by omega)).mono ?_;rintro e w' ⟨rfl,u⟩;rw[u,B])
     go_roundg g
     case measure=>omega
     case rel=>exact⟨i+1,by omega,H1.out.2,H1.out.1,HN.out.succ Hx.out hin⟩
    rw[hin]at o;have hge:(0:Int)<=Lib.indexByte a.data.toList x:=cH o.symm;clear o
    go_wp2_with (go_at_fn (V.f 152);refine(Any.strings_IndexRune_ascii {L with} _ _ _ (by omega) (by omega)).mono ?_;rintro e w' ⟨rfl,u⟩;rw[u,B])
    go_ret
    exact⟨by rw[Lib.indexAny_hit HN.out Hx.out hin];rfl,H1.out.1⟩
   .obtain⟨q1,q2⟩:=decode_high s i K (by rw[R];omega);have q3:=decode_le s i;obtain⟨rn,hrn⟩:∃rn:Nat,(Utf8.decode s i).1=rn:=⟨_,rfl⟩;obtain⟨W,Y⟩:∃W:Nat,(Utf8.decode s i).2=W:=⟨_,rfl⟩;rw[hrn]at v;rw[hrn]at q1 q3;rw[Y]at q2 d;have H1:Aside (Below w.heap.size w I/\I.heap[w.heap.size]? =some (.stringIter s (i+W))/\Lib.NoAny s.data.toList a.data.toList (i+W)/\w.heap.size<I.heap.size):=⟨J,d,Ac HA.out HN.out K (by rw[R];omega) Y,(aX.1 d).1⟩;clear O R z J d hit p hk
    go_wp2_with (go_at_fn (V.f 152);refine(aQu {L with} _ _ _ HA.out (by omega) hcs).mono ?_;rintro e w' ⟨rfl,u⟩)
    go_roundg g
    case measure=>omega
    case rel=>
     obtain⟨b1,b2,b3,b4⟩:=H1.out;have Z:w.heap.size<I.heap.size:=b4;refine⟨i+W,by omega,by rw[u.block _ Z];exact b2,⟨u.os.trans b1.os,u.tape.trans b1.tape,u.output.trans b1.output,dK b1.size u.size,λk hk=>(u.block k (by omega)).trans (b1.block k hk)⟩,b3⟩
  have v:=λty=>Nr (P:=P) wr w.heap.size s i ty hit K
  go_wp2
  go_ret
  exact⟨by rw[Lib.indexAny_none (λj b hj hb=>HN.out j b (by have:=Lib.size_eq s;omega) hb)];rfl,p⟩
theorem aYs(L:Lays.n153 P V)(h:∀w,(zeroValue (V.t 116)).run P w= .ok (.agg (Array.replicate 256 (.bool false))) w)(d:(P.info? (V.t 116)).map (·.size)=some 256)(s a:Ps.iL)(w:Ps.iG)(p:2<=a.size)(v:s.size<4294967281)(i:a.size<4294967281)
  (o:∀(j:Nat) b,a.data.toList[j]? =some b->b.toNat<128):
  Calls P (V.f 153) #[.string s,.string a] w λe q=>e= .returned (.int .i64 (Lib.indexAny s.data.toList a.data.toList))/\Below w.heap.size w q:=by
 by_cases u:s.size<=8;exact aIq L s a w p u i o;refine(Any.strings_IndexAny_long L h d s a w p (by omega) v i o).mono ?_;rintro e q ⟨rfl,rfl⟩;exact⟨rfl,((Below.refl _ w).alloc (bB _) _).alloc (by simp) _⟩
end Go.Proofs.Tryz
namespace Go.Proofs.Tryz
open Go.Ps Go.RowKit
def iT(C:gB):T:= .iface C (.ref (.agg []) 0)
def iy:T:= .agg ((List.range 256).map λc=>T.int .u8 (Lib.firstT c))
def jq:T:= .agg ((List.range 16).flatMap λi=>[T.int .u8 (Lib.accLo i),T.int .u8 (Lib.accHi i)])
def g9:T:= .agg [.str [45,62],.str [33,61],.str [60,61],.str [62,61],.str [46,46]]
def kZ:List Int:=[0,1,56,2,57,49,28,3,61,58,42,50,38,29,17,4,62,47,59,36,45,43,51,22,53,39,33,30,24,18,12,5,63,55,48,27,60,41,37,16,46,35,44,21,52,32,23,11,54,26,40,15,34,20,31,10,25,14,19,9,13,8,7,6]
def kh:T:= .agg (kZ.map (T.int .u8))
variable(m:Int)(C:gB)
def fo:Nat->Option T:=λn=>
 if n=4 then some (.ref (.agg (Lib.pow10Tab.map (T.int .u64))) 0)else if n=2 then some (.ref (.int .i64 m) 0)else if n=7 then some (.ref (iT C) 0)else if n=8 then some (.ref (iT C) 0)
 else if n=0 then some (.ref iy 0)else if n=1 then some (.ref jq 0)else if n=3 then some (.ref g9 0)else if n=6 then some (.ref kh 0)else none
theorem aQc{m:Int}{C:gB}(k:Nat)(t:T)(h:lU k=some t):fo m C k=some t:=by
 unfold lU at h;split at h;rename_i e;subst e;exact h;cases h
theorem qN:wO (fo m C):=by
 intro k t h;unfold fo at h;split at h;cases h;exact⟨5,by kernel_rfl⟩;split at h;cases h;exact⟨5,rfl⟩;split at h;cases h;exact⟨5,rfl⟩;split at h;cases h;exact⟨5,rfl⟩;split at h;cases h;exact⟨5,by kernel_rfl⟩;split at h;cases h;exact⟨5,by kernel_rfl⟩;split at h;cases h;exact⟨5,by kernel_rfl⟩;split at h;cases h;exact⟨5,by kernel_rfl⟩;cases h
theorem aIb{m:Int}{C:gB}{g:G}(h:gn (fo m C) g):gn lU g:=λk t a=>h k t (aQc k t a)
theorem jg{m:Int}{C:gB}{f:gX}{b:gC}{r:T}(h:fj prog lU f b r):fj prog (fo m C) f b r:=
 ⟨h.1,λg v e d a i=>h.2 g v e d (aIb a) i⟩
theorem WY{g:G}{k:Nat}{x:T}(h:KL g k (.ref x 0))(j:Nat){c:T}(s:x.cells[j]? =some c):∃v,g.w.cell? ⟨k,j,none⟩=some v/\Rd g v c:=by
 obtain⟨d,_,_⟩:=h;generalize p:(Value.pointer (some ⟨k,0,none⟩))=v at d;generalize u:(T.ref x 0)=t at d;cases d<;>cases u;rename_i b o f B a y z;simp only[Value.pointer.injEq,aI,Addr.mk.injEq]at p;obtain⟨rfl,I,_⟩:=p;have e:o=0:=by omega
 subst e;have i:j<f.length:=by rw[y];exact(aQ.1 s).1
 have q:f[j]? =some (f[j]'i):=aB i;exact⟨_,by have:=a j _ q;simpa using this,z j _ c q s⟩
theorem aMl{m:Int}{C:gB}{g:G}(h:gn (fo m C) g):Lib.Utf8Tabs 0 1 g.w:=by
 refine⟨λc B=> ?_,λi p=> ?_⟩;obtain⟨v,s,a⟩:=WY (h 0 (.ref iy 0) rfl) c (c:=T.int .u8 (Lib.firstT c)) (by simp[iy,T.cells,B]);cases a;exact s;have q:∀(n:Nat) (f:Nat->T×T) (i:Nat),i<n->((List.range n).flatMap λi=>[(f i).1,(f i).2])[2*i]? =some (f i).1/\((List.range n).flatMap λi=>[(f i).1,(f i).2])[2*i+1]? =some (f i).2:=by
  intro n
  induction n with
  |zero=>intro f i h;omega
  |succ n d=>
   intro f i h;have z:∀n,((List.range n).flatMap λi=>[(f i).1,(f i).2]).length=2*n:=by
    intro n
    induction n with
    |zero=>rfl|succ n d=>rw[fU,dG,aU,d];simp;omega
   rw[fU,dG,dP,dP,z n];by_cases b:i<n;rw[aJ (by omega),aJ (by omega)];exact d f i b;obtain rfl:i=n:=by omega
   rw[aH (by omega),aH (by omega)];simp
 have a:=q 16 (λi=>(T.int .u8 (Lib.accLo i),T.int .u8 (Lib.accHi i))) i p;obtain⟨v,o,y⟩:=WY (h 1 (.ref jq 0) rfl) (2*i) a.1;obtain⟨u,x,e⟩:=WY (h 1 (.ref jq 0) rfl) (2*i+1) a.2;cases y;cases e;exact⟨o,x⟩
theorem Yc{g:G}{k:Nat}{x:T}(u:x.cells=[x])(h:KL g k (.ref x 0)):∃v,g.w.cell? ⟨k,0,none⟩=some v/\Rd g v x:=by
 obtain⟨a,_,_⟩:=h;generalize e:(Value.pointer (some ⟨k,0,none⟩))=v at a;generalize s:(T.ref x 0)=t at a;cases a<;>cases s;rename_i b o f z y p q;simp only[Value.pointer.injEq,aI,Addr.mk.injEq]at e;obtain⟨rfl,B,_⟩:=e;have d:o=0:=by omega
 subst d;rw[u]at p q;have i:f[0]? =some (f[0]'(by simp at p;omega)):=aB _;exact⟨_,by have:=y 0 _ i;simpa using this,q 0 _ x i rfl⟩
theorem aCf{m:Int}{C:gB}{g:G}(h:gn (fo m C) g):g.w.cell? ⟨2,0,none⟩=some (.int .i64 m):=by
 obtain⟨v,b,a⟩:=Yc rfl (h 2 (.ref (.int .i64 m) 0) rfl);cases a;exact b
theorem aHi{m:Int}{C:gB}{g:G}(h:gn (fo m C) g){k:Nat}(e:k=7\/k=8):∃ev,g.w.cell? ⟨k,0,none⟩=some ev/\∃t p,ev= .iface t p:=by
 have d:fo m C k=some (.ref (iT C) 0):=by rcases e with rfl|rfl<;>rfl
 obtain⟨v,b,a⟩:=Yc rfl (h k _ d);cases a;exact⟨_,b,_,_,rfl⟩
theorem aXp{m:Int}{C:gB}(s a:gH)(p:s.length<4294967281):fj prog (fo m C) 207 [.str s,.str a] (.fm [.str (Lib.cut s a).1,.str (Lib.cut s a).2.1,.bool (Lib.cut s a).2.2]):=by
 refine⟨by kernel_rfl,λg z y J f h=> ?_⟩
 match z,h with
 |[v,u],h=>
  have x:=vQ (h.I).1;have B:=vQ ((h.I).2.I).1;subst x;subst B;have d:(⟨s.toArray⟩:ByteArray).size<4294967281:=by show s.toArray.size<_;simpa using p
  refine(Any.strings_Cut aRa ⟨s.toArray⟩ ⟨a.toArray⟩ m g.w d (aCf f)).mono λe I ⟨o,n,q⟩=> ?_;subst q;have i:Below g.w.heap.size g.w (g.w.drewN n):=⟨by simp[World.drewN],by simp[World.drewN],by simp[World.drewN],by simp[World.drewN],λk _ =>by simp[World.drewN]⟩;refine⟨_,{g with w:=g.w.drewN n},o,rfl,wZ i,BQ y i.size,?_⟩;refine .fm _ [_,_,_] rfl (λj v c h b=> ?_)
  match j with
  |0=>simp at h b;subst h;subst b;have:=Rd.str (g:={g with w:=g.w.drewN n}) ⟨(Lib.cut s a).1.toArray⟩;simpa using this
  |1=>simp at h b;subst h;subst b;have:=Rd.str (g:={g with w:=g.w.drewN n}) ⟨(Lib.cut s a).2.1.toArray⟩;simpa using this
  |2=>simp at h b;subst h;subst b;exact .bool _|k+3=>simp at h
 |[],h=>simp[fv]at h|[_],h=>simp[fv]at h|_ ::_ ::_ ::_,h=>simp[fv]at h
noncomputable def aV(s:gH):Int:=match Lib.atoiAll s with
 | .ok v=>v| .range=>Lib.atoiSat s|_ =>0
noncomputable def aE(s:gH):T:=match Lib.atoiAll s with
 | .ok _ => .gb|_ =>iT 344
theorem aOf{m:Int}{C:gB}(s:gH)(W:s.length<=281474976710656):fj prog (fo m C) 208 [.str s] (.fm [.int .i64 (aV s),aE s]):=by
 refine⟨by kernel_rfl,λg Z R z I a=> ?_⟩
 match Z,a with
 |[v],a=>
  have p:=vQ (a.I).1;subst p;have u:(⟨s.toArray⟩:ByteArray).size<=281474976710656:=by show s.toArray.size<=_;simpa using W
  have y:∀(x:Int) (e:Ending) (d:iG) (N:Nat) (O:hP),e= .returned (.tuple #[.int .i64 x,.iface 344 (.pointer (some ⟨N,0,none⟩))])->g.w.heap.size<=N->d.heap[N]? =some (.cells O 361 (0,0))->Below g.w.heap.size g.w d->
    ∃v J,e= .returned v/\J.w=d/\fx g J/\sJ J/\Rd J v (.fm [.int .i64 x,iT 344]):=by
   intro x e d N O o z f i;have U:N<d.heap.size:=(aX.1 f).1;refine⟨_,{g with w:=d,S:=λb=>g.S b\/b=N},o,rfl,⟨i.os,i.tape,i.output,i.size,i.block,λb q=> .inl q,λb q=>q.elim .inl (λe=> .inr (by omega)),rfl,rfl,rfl⟩,λb hb=> ?_,?_⟩;rcases hb with hb|hb;have:=R b hb;have:=i.size;show b<d.heap.size;omega;show b<d.heap.size;omega;refine .fm _ [_,_] rfl (λj v c a f=> ?_)
   match j with
   |0=>simp at a f;subst a;subst f;exact .int _ _
   |1=>
    simp at a f;subst a;subst f;refine .iface _ _ _ ?_;exact Rd.ref (.agg []) 0 N 0 [] (.inr rfl) rfl (λj v h=>by simp at h) (λj v c h=>by simp at h)
   |k+2=>simp at a
  cases hA:Lib.atoiAll s
  case ok v=>
   have p:aV s=v:=by unfold aV;rw[hA]
   have B:aE s= .gb:=by unfold aE;rw[hA]
   rw[p,B];refine(Any.strconv_Atoi_ok XO ⟨s.toArray⟩ (by omega) v (by simpa using hA) g.w).mono λe d ⟨o,Y⟩=> ?_;have i:Below g.w.heap.size g.w d:=by
    rcases Y with rfl|⟨t,rfl⟩;exact Below.refl _ _;exact Lib.bytesWorld_below _ _ _
   refine⟨_,{g with w:=d},o,rfl,wZ i,BQ R i.size,?_⟩;refine .fm _ [_,_] rfl (λj v c a f=> ?_)
   match j with
   |0=>simp at a f;subst a;subst f;exact .int _ _|1=>simp at a f;subst a;subst f;exact .gb|k+2=>simp at a
  case range=>
   have p:aV s=Lib.atoiSat s:=by unfold aV;rw[hA]
   have B:aE s=iT 344:=by unfold aE;rw[hA]
   rw[p,B];obtain⟨ev,K,L⟩:=aHi I (.inr rfl);refine(Any.strconv_Atoi_range XO ⟨s.toArray⟩ u (by simpa using hA) ev g.w K (.inr L)).mono λe d ⟨N,o,z,f,i⟩=> ?_;exact y _ e d N _ o z f i
  case _ =>
   have p:aV s=0:=by unfold aV;rw[hA]
   have B:aE s=iT 344:=by unfold aE;rw[hA]
   rw[p,B];obtain⟨ev,K,L⟩:=aHi I (.inl rfl);refine(Any.strconv_Atoi_syntax XO ⟨s.toArray⟩ u (by simpa using hA) ev g.w K (.inr L)).mono λe d ⟨N,o,z,f,i⟩=> ?_;exact y 0 e d N _ o z f i
 |[],a=>simp[fv]at a|_ ::_ ::_,a=>simp[fv]at a
def ZW:List UInt8:=[46,91,63]
theorem vL{f:gX}{gl:gG}{o:gC}{r:T}(x:uQ prog f=true)(h:∀(g:G) (a:gV),gn gl g->fv g a o->∃v,(∀y,Rd y v r)/\Calls prog f a.toArray g.w λe d=>e= .returned v/\Below g.w.heap.size g.w d):fj prog gl f o r:=by
 refine⟨x,λg a s _ b u=> ?_⟩;obtain⟨v,q,p⟩:=h g a b u;refine p.mono ?_;rintro e d ⟨rfl,i⟩;exact⟨v,{g with w:=d},rfl,rfl,wZ i,BQ s i.size,q _⟩
theorem bEx{m:Int}{C:gB}(s:gH)(f:s.length<4294967281):fj prog (fo m C) 115 [.str s,.str ZW] (.int .i64 (Lib.indexAny s ZW)):=by
 refine vL (by kernel_rfl) λg e q a=> ?_
 match e,a with
 |[v,u],a=>
  have p:=vQ (a.I).1;have o:=vQ ((a.I).2.I).1;subst p;subst o;refine⟨_,λx=> .int _ _,?_⟩;have d:(prog.info? (SR.t 116)).map (λi=>(i.zero,i.size))=some (some (.agg (Array.replicate 256 (.bool false))),256):=by kernel_rfl
  refine aYs aRb (zero_of_info d).1 (zero_of_info d).2 ⟨s.toArray⟩ ⟨ZW.toArray⟩ g.w (by decide) (by show s.toArray.size<_;simpa using f) (by decide) (λj b h=> ?_);have h:ZW[j]? =some b:=by simpa using h
  match j,h with
  |0,h=>cases h;decide|1,h=>cases h;decide|2,h=>cases h;decide|j+3,h=>simp[ZW]at h
 |[],a=>have:=a.1;simp at this|[_],a=>have:=a.1;simp at this|_ ::_ ::_ ::_,a=>have:=a.1;simp at this
theorem aMu{m:Int}{C:gB}(s:gH)(d:s.length<=9223372036854775807):fj prog (fo m C) 56 [.str s] (.bool (Lib.validD s)):=by
 refine vL (by kernel_rfl) λg b a h=> ?_
 match b,h with
 |[v],h=>
  have e:=vQ (h.I).1;subst e;refine⟨_,λf=> .bool _,?_⟩;exact Any.utf8_ValidString aRc ⟨s.toArray⟩ g.w (by show s.toArray.size<=_;simpa using d) (aMl a)
 |[],h=>have:=h.1;simp at this|_ ::_ ::_,h=>have:=h.1;simp at this
open Classical in
noncomputable def j7:FuncId->List T->Option T:=λf d=>
 if f=115 then(match d with
  |[.str a,.str b]=>if a.length<4294967281/\b=ZW then some (.int .i64 (Lib.indexAny a b))else none
  |_ =>none)
 else if f=207 then(match d with
  |[.str a,.str b]=>if a.length<4294967281 then some (.fm [.str (Lib.cut a b).1,.str (Lib.cut a b).2.1,.bool (Lib.cut a b).2.2])else none
  |_ =>none)
 else if f=208 then(match d with
  |[.str a]=>if a.length<=281474976710656 then some (.fm [.int .i64 (aV a),aE a])else none
  |_ =>none)
 else if f=56 then(match d with
  |[.str a]=>if a.length<=9223372036854775807 then some (.bool (Lib.validD a))else none
  |_ =>none)
 else if f=40 then Np d
 else none
theorem Ph{m:Int}{C:gB}{f:gX}{d:gC}{r:T}(h:j7 f d=some r):fj prog (fo m C) f d r:=by
 unfold j7 at h;split at h;rename_i e;subst e;split at h;split at h;rename_i a;obtain⟨b,rfl⟩:=a;cases h;exact bEx _ b;cases h;cases h;split at h;rename_i e;subst e;split at h;split at h;rename_i a;cases h;exact aXp _ _ a;cases h;cases h;split at h;rename_i e;subst e;split at h;split at h;rename_i a;cases h;exact aOf _ a;cases h;cases h;split at h;rename_i e;subst e;split at h;split at h;rename_i a;cases h;exact aMu _ a;cases h;cases h;split at h;rename_i e;subst e;exact jg (Yl (V:=FV) (by kernel_rfl) (λg i n o b=>gz i n o b) d r h);cases h
theorem iq.of{P:gD}{gl:gG}{p:gI}(h:∀f a r,p f a=some r->fj P gl f a r):iq P gl p:=λf a r e=>
 ⟨(h f a r e).1,λg v i d b o=>(h f a r e).2 g v i ⟨0,λl _ =>d l⟩ b o⟩
theorem aZz:iq prog (fo m C) j7:=iq.of λf a r h=>Ph h
end Go.Proofs.Tryz
namespace Go.Proofs.Tryz
open Go.Shelf
def SQ:Go.Shelf.Ren:=⟨λ|105=>312|212=>332|99=>197|165=>77|166=>78|170=>333|169=>79|263=>346|264=>347|206=>262|240=>123|241=>124|276=>183|277=>184|n=>n,λ|9=>9|3=>3|4=>4|20=>20|0=>0|46=>122|109=>354|5=>5|72=>135|76=>139|51=>184|146=>366|53=>186|148=>368|70=>133|37=>128|75=>138|127=>197|164=>252|80=>141|n=>n,λ|n=>n⟩
theorem aQz:Go.Proofs.Lays.n105 prog SQ:={
 mixed:=by kernel_rfl
 f99:=func197.trans (bG some (by kernel_rfl))
 f105:=func312.trans (bG some (by kernel_rfl))
 f165:=func77.trans (bG some (by kernel_rfl))
 f166:=func78.trans (bG some (by kernel_rfl))
 f169:=func79.trans (bG some (by kernel_rfl))
 f170:=func333.trans (bG some (by kernel_rfl))
 f206:=func262.trans (bG some (by kernel_rfl))
 f212:=func332.trans (bG some (by kernel_rfl))
 f240:=func123.trans (bG some (by kernel_rfl))
 f241:=func124.trans (bG some (by kernel_rfl))
 f263:=func346.trans (bG some (by kernel_rfl))
 f264:=func347.trans (bG some (by kernel_rfl))
 f276:=func183.trans (bG some (by kernel_rfl))
 f277:=func184.trans (bG some (by kernel_rfl))
 t0:=underlying0
 a0:=isAgg0
 z0:=sizeOf0
 v0:=zeroValue0
 t3:=underlying3
 a3:=isAgg3
 z3:=sizeOf3
 v3:=zeroValue3
 t4:=underlying4
 a4:=isAgg4
 z4:=sizeOf4
 v4:=zeroValue4
 t5:=underlying5
 a5:=isAgg5
 z5:=sizeOf5
 v5:=zeroValue5
 t9:=underlying9
 a9:=isAgg9
 z9:=sizeOf9
 v9:=zeroValue9
 t20:=underlying20
 a20:=isAgg20
 z20:=sizeOf20
 v20:=zeroValue20
 t37:=underlying128
 a37:=isAgg128
 z37:=sizeOf128
 v37:=zeroValue128
 t46:=underlying122
 a46:=isAgg122
 z46:=sizeOf122
 v46:=zeroValue122
 t51:=underlying184
 a51:=isAgg184
 z51:=sizeOf184
 v51:=zeroValue184
 t53:=underlying186
 a53:=isAgg186
 z53:=sizeOf186
 v53:=zeroValue186
 t70:=underlying133
 a70:=isAgg133
 z70:=sizeOf133
 v70:=zeroValue133
 t72:=underlying135
 a72:=isAgg135
 z72:=sizeOf135
 v72:=zeroValue135
 t75:=underlying138
 a75:=isAgg138
 z75:=sizeOf138
 v75:=zeroValue138
 t76:=underlying139
 a76:=isAgg139
 z76:=sizeOf139
 v76:=zeroValue139
 t109:=underlying354
 a109:=isAgg354
 z109:=sizeOf354
 v109:=zeroValue354
 t127:=underlying197
 a127:=isAgg197
 z127:=sizeOf197
 v127:=zeroValue197
 t146:=underlying366
 a146:=isAgg366
 z146:=sizeOf366
 v146:=zeroValue366
 t148:=underlying368
 a148:=isAgg368
 z148:=sizeOf368
 v148:=zeroValue368
 t164:=underlying252
 a164:=isAgg252
 z164:=sizeOf252
 v164:=zeroValue252}
theorem MT:Builder.Extra prog SQ:={
 sizeBuilder:=by kernel_rfl
 liesBuilder:=by kernel_rfl
 t5:=underlying5
 a5:=isAgg5
 z5:=sizeOf5
 v5:=zeroValue5
 infoByte:=by kernel_rfl
 cellsByte:=by kernel_rfl
 sizeByte:=by kernel_rfl
 neB5:=by decide}
def Oc:Go.Shelf.Ren:=⟨λ|197=>261|260=>313|n=>n,λ|9=>9|21=>21|3=>3|4=>4|5=>5|105=>310|119=>153|0=>0|46=>122|139=>156|138=>155|n=>n,λ|3=>0|4=>1|n=>n⟩
theorem aRd:Go.Proofs.Lays.n197 prog Oc:={
 mixed:=by kernel_rfl
 f197:=func261.trans (bG some (by kernel_rfl))
 f260:=func313.trans (bG some (by kernel_rfl))
 t0:=underlying0
 a0:=isAgg0
 z0:=sizeOf0
 v0:=zeroValue0
 t3:=underlying3
 a3:=isAgg3
 z3:=sizeOf3
 v3:=zeroValue3
 t4:=underlying4
 a4:=isAgg4
 z4:=sizeOf4
 v4:=zeroValue4
 t5:=underlying5
 a5:=isAgg5
 z5:=sizeOf5
 v5:=zeroValue5
 t9:=underlying9
 a9:=isAgg9
 z9:=sizeOf9
 v9:=zeroValue9
 t21:=underlying21
 a21:=isAgg21
 z21:=sizeOf21
 v21:=zeroValue21
 t46:=underlying122
 a46:=isAgg122
 z46:=sizeOf122
 v46:=zeroValue122
 t105:=underlying310
 a105:=isAgg310
 z105:=sizeOf310
 v105:=zeroValue310
 t119:=underlying153
 a119:=isAgg153
 z119:=sizeOf153
 t138:=underlying155
 a138:=isAgg155
 z138:=sizeOf155
 v138:=zeroValue155
 t139:=underlying156
 a139:=isAgg156
 z139:=sizeOf156
 v139:=zeroValue156
 g3:=by kernel_rfl
 g4:=by kernel_rfl}
end Go.Proofs.Tryz
namespace Go.Proofs.Tryz
open Go.RowKit Go.Ps
theorem aOo{s:gH}{n a:Nat}(h:s[a]? =none):AL s (n+1) a=a:=by simp only[AL,h]
theorem aXi{s:gH}{n a:Nat}{c:UInt8}(h:s[a]? =some c)(b:c=32\/c=9\/c=10):AL s (n+1) a=AL s n (a+1):=by simp only[AL,h];rw[aJ b]
theorem aGc{s:gH}{n a:Nat}{c:UInt8}(h:s[a]? =some c)(b:¬(c=32\/c=9\/c=10))(d:¬(c=47/\s[a+1]? =some 47)):AL s (n+1) a=a:=by simp only[AL,h];rw[aH b,aH d]
theorem aXj{s:gH}{n a:Nat}(h:s[a]? =some 47)(b:s[a+1]? =some 47):AL s (n+1) a=AL s n (a+match(s.drop a).findIdx? (· =10)with
  |some i=>i|none=>s.length-a):=by simp only[AL,h];rw[aH (by decide),aJ (by simpa using b)]<;>rfl
theorem Nl(c:UInt8):∀l:List UInt8,Lib.indexByte l c=match l.findIdx? (λb=>decide (b=c))with
  |some i=>(i:Int)|none=>-1
 |[]=>rfl
 |b::l=>by
  have a:=Nl c l;have d:=Lib.indexByte_ge l c;rw[List.findIdx?_cons];unfold Lib.indexByte;by_cases h:b=c;simp[h]
  .simp only[h,decide_false,bI,cN,bN];cases hf:l.findIdx? (λb=>decide (b=c))with
   |none=>rw[hf]at a;rw[a];simp|some i=>rw[hf]at a;rw[a];first|(simp;done)|(simp;omega)
theorem aYn{l:gH}{a k:Nat}(h:l[a]? =some 47)(f:l.length-a=k):(Lib.indexByte ((l.drop a).take k) 10=-1/\(l.drop a).findIdx? (· =10)=none)\/∃i:Nat,0<i/\a+i<l.length/\Lib.indexByte ((l.drop a).take k) 10=i/\(l.drop a).findIdx? (· =10)=some i:=by
 have e:(l.drop a).take k=l.drop a:=dC (by rw[cP];omega);rw[e];have:=Nl 10 (l.drop a);cases hf:(l.drop a).findIdx? (λb=>decide (b=10))with
 |none=>rw[hf]at this;exact .inl ⟨this,rfl⟩
 |some i=>
  rw[hf]at this;obtain⟨d,q,_⟩:=List.findIdx?_eq_some_iff_getElem.1 hf;rw[cP]at d;refine .inr ⟨i,?_,by omega,this,rfl⟩;rcases Nat.eq_zero_or_pos i with rfl|hp
  simp only[aF,List.getElem_drop,fW]at q;rw[aB (by omega)]at h;rw[bV h]at q;exact absurd q (by decide);exact hp
def lb(s:iL)(i:Nat):Int:=if h:i<s.size then((s[i]).toNat:Int)else 0
set_option maxHeartbeats 4000000 in
set_option maxRecDepth 1000000 in
theorem Fy(s:iL)(b a:Nat)(x y:gZ)(t:gB)(q:Nat×Nat)(w:iG)(i:w.heap[b]? =some (.cells #[.string s,.int .i64 a,x,y] t q))(I:a<s.size)(J:s.size<=65536):
  Calls prog 185 #[.pointer (some ⟨b,0,none⟩),.int .i64 1] w λe z=>e= .returned (.int .u8 (lb s (a+1)))/\∃n,z=w.drewN n:=by
 have B:w.cell? ⟨b,0,none⟩=some (.string s):=by simp[World.cell?,i]
 have o:w.cell? ⟨b,1,none⟩=some (.int .i64 a):=by simp[World.cell?,i]
 have v:IntKind.i64.wrap ((a:Int)+1)=((a:Int)+1):=by rw[IntKind.wrap_i64];omega
 have f:prog.follows .mixedOrders=true:=follows;by_cases h:a+1<s.size
 .have d:lb s (a+1)=((s[a+1]).toNat:Int):=by unfold lb;rw[dif_pos h]
  rw[d];have u:((a:Int)+1)<(s.size:Int):=by omega
  have p:¬(s.size:Int)<=((a:Int)+1):=by omega
  have L:((a:Int)+1).toNat=a+1:=by omega
  have K:(0:Int)<=((a:Int)+1):=by omega
  go_enter func185,ntmps185
  go_wp2
  go_quiet_o (fail)
  go_wp2
  go_quiet_o (fail)
  go_wp2
  go_ret
  exact⟨rfl,_,World.drewN_drewN ..⟩
 .have d:lb s (a+1)=0:=by unfold lb;rw[dif_neg h]
  rw[d];have u:(s.size:Int)<=((a:Int)+1):=by omega
  go_enter func185,ntmps185
  go_wp2
  go_quiet_o (fail)
  go_wp2
  go_ret
  exact⟨rfl,_,rfl⟩
def kv(s:iL)(a:Nat)(x y:gZ)(t:gB)(q:Nat×Nat):Obj:= .cells #[.string s,.int .i64 a,x,y] t q
structure Bw(b:Nat)(w w':iG):Prop where
 os:w'.os=w.os
 tape:w'.tape=w.tape
 output:w'.output=w.output
 size:w'.heap.size=w.heap.size
 block:∀k,k≠b->w'.heap[k]? =w.heap[k]?
theorem Bw.drewN{b:Nat}{w a:iG}(h:Bw b w a)(n:Nat):Bw b w (a.drewN n):=⟨h.os,h.tape,h.output,h.size,h.block⟩
theorem Bw.set{b:Nat}{w a:iG}(h:Bw b w a)(p:Addr)(v:gZ)(f:p.block=b):Bw b w (a.setCell p v):=by
 refine⟨h.os,h.tape,h.output,?_,λk d=> ?_⟩;rw[<-h.size];simp[World.setCell];rw[<-h.block k d];simp[World.setCell,dY];intro e;exact absurd (e.symm.trans f) d
theorem Gb{s:iL}{a:Nat}{x y:gZ}{t:gB}{q:Nat×Nat}{b:Nat}{w:iG}(h:w.heap[b]? =some (kv s a x y t q))(d:Nat)(v:gZ)(e:v= .int .i64 d):(w.setCell ⟨b,1,none⟩ v).heap[b]? =some (kv s d x y t q):=by
 subst e;simp only[World.setCell,dY,cB,h,cK,kv];rfl
set_option maxHeartbeats 8000000 in
set_option maxRecDepth 1000000 in
theorem aOn(s:iL)(b B:Nat)(x y:gZ)(t:gB)(w:iG)(hb:w.heap[b]? =some (kv s B x y t (0,0)))(ha:B<=s.size)(hs:s.size<=65536):
  Calls prog 130 #[.pointer (some ⟨b,0,none⟩)] w λe L=>e= .returned (.tuple #[])/\Bw b w L/\L.heap[b]? =some (kv s (AL s.data.toList (s.size+1-B) B) x y t (0,0)):=by
 have mixed:prog.follows .mixedOrders=true:=follows
 go_enter func130,ntmps130
 go_wp2
 go_loopg [2] (s.size-B) (λg s2 wx=>∃a,a<=s.size/\s.size-a=g/\Bw b w wx/\wx.heap[b]? =some (kv s a x y t (0,0))/\∃n,s.size-a<n/\AL s.data.toList n a=AL s.data.toList (s.size+1-B) B)
 case atStart=>exact⟨B,ha,rfl,⟨rfl,rfl,rfl,rfl,λ_ _ =>rfl⟩,hb,s.size+1-B,by omega,rfl⟩
 case round=>
  obtain⟨a,h1,h2,O,K,n,hnn,Y⟩:=hrel;obtain⟨n,rfl⟩:∃k,n=k+1:=⟨n-1,by omega⟩;have J:s.data.toList.length=s.size:=(Lib.size_eq s).symm;have hc0:wr.cell? ⟨b,0,none⟩=some (.string s):=by simp[World.cell?,K,kv]
  have hc1:wr.cell? ⟨b,1,none⟩=some (.int .i64 a):=by simp[World.cell?,K,kv]
  have hfz:wr.frozen? ⟨b,1,none⟩=false:=by simp[World.frozen?,K,kv]
  have R:∀n,(wr.drewN n).heap[b]? =some (.cells #[.string s,.int .i64 a,x,y] t (0,0)):=λn=>K;have hn:(a:Int).toNat=a:=by omega
  have h0:(0:Int)<=(a:Int):=by omega
  have hw1:IntKind.i64.wrap ((a:Int)+1)=((a+1:Nat):Int):=by rw[IntKind.wrap_i64];omega
  by_cases z:a<s.size
  .have hl:(a:Int)<(s.size:Int):=by omega
   obtain⟨c,hc⟩:∃c,s[a]'z=c:=⟨_,rfl⟩;have I:s.data.toList[a]? =some c:=by rw[<-hc];exact Lib.data_getElem? s a z
   by_cases f:c=32\/c=9\/c=10
   .go_wp2
    go_quiet_o (fail)
    go_wp2
    go_quiet_o (fail)
    have d:=Gb (w:=wr.drewN 0) K (a+1) (.int .i64 ((a:Int)+1)) (by simp);have U:∃n,s.size-(a+1)<n/\AL s.data.toList n (a+1)=AL s.data.toList (s.size+1-B) B:=⟨n,by omega,by rw[<-Y,aXi I f]⟩;rcases f with rfl|rfl|rfl
    all_goals go_wp2
    all_goals go_roundg (gk-1)
    case measure=>omega
    case rel=>exact⟨a+1,by omega,by omega,(O.drewN _).set _ _ rfl,d,U⟩
    case measure=>omega
    case rel=>exact⟨a+1,by omega,by omega,(O.drewN _).set _ _ rfl,d,U⟩
    case measure=>omega
    case rel=>exact⟨a+1,by omega,by omega,(O.drewN _).set _ _ rfl,d,U⟩
   .have n32:((c.toNat:Int)==32)=false:=beq_eq_false_iff_ne.2 λe=>f (.inl (by apply UInt8.toNat_inj.1;simpa using(by omega:c.toNat=32)));have n9:((c.toNat:Int)==9)=false:=beq_eq_false_iff_ne.2 λe=>f (.inr (.inl (by apply UInt8.toNat_inj.1;simpa using(by omega:c.toNat=9))));have n10:((c.toNat:Int)==10)=false:=beq_eq_false_iff_ne.2 λe=>f (.inr (.inr (by apply UInt8.toNat_inj.1;simpa using(by omega:c.toNat=10))));by_cases W:c=47
    .subst W;by_cases o:lb s (a+1)=47
     .have v:∀(u:iL) (w:iG),Calls prog 72 #[.string u,.int .u8 10] w λe L=>e= .returned (.int .i64 (Lib.indexByte u.data.toList 10))/\L=w:=λu w=>
       Any.strings_IndexByte (ρ:=IM) {Ys with} u 10 w
      have Z:s.data.toList[a+1]? =some 47:=by
       unfold lb at o;split at o;rename_i h;rw[Lib.data_getElem? s (a+1) h];exact bG some (UInt8.toNat_inj.1 (by simpa using(by omega:(s[a+1]).toNat=47)));omega
      have hix:=aYn I (k:=gk) (by rw[J];exact h2);have p:=aXj (n:=n) I Z;obtain⟨i,hi⟩:∃i,Lib.indexByte ((s.data.toList.drop a).take gk) 10=i:=⟨_,rfl⟩;rw[hi]at hix;have hab:(a:Int)<=(s.size:Int):=by omega
      have hwd:IntKind.i64.wrap ((s.size:Int)-(a:Int))=(s.size:Int)-a:=by rw[IntKind.wrap_i64];omega
      have hws:IntKind.i64.wrap ((a:Int)+((s.size:Int)-a))=(s.size:Int):=by rw[IntKind.wrap_i64];omega
      rcases hix with⟨rfl,hf⟩|⟨k,k0,k1,rfl,hf⟩
      .rw[hf]at p;simp only[J]at p;rw[show a+(s.size-a)=s.size by omega]at p;have d:=Gb (w:=wr.drewN 0) K s.size (.int .i64 (s.size:Int)) rfl
       go_wp2
       go_quiet_o (fail)
       go_wp2
       go_quiet_o (fail)
       go_wp2_with (fail)
       refine(Fy s b a x y t (0,0) _ (R _) z hs).mono ?_;rintro e L ⟨rfl,nn,rfl⟩;rw[o];simp only[]
       go_wp2
       go_quiet_o (first|(refine(v _ _).mono ?_;rintro e L ⟨rfl,rfl⟩;exact⟨rfl,_,rfl⟩))
       go_wp2
       go_quiet_o (fail)
       go_wp2
       go_roundg 0
       case measure=>omega
       case rel=>exact⟨s.size,by omega,by omega,(O.drewN _).set _ _ rfl,d,n,by omega,p.symm.trans Y⟩
      .rw[hf]at p;have d:=Gb (w:=wr.drewN 0) K (a+k) (.int .i64 ((a:Int)+k)) (by simp);have hwk:IntKind.i64.wrap ((a:Int)+(k:Int))=(a:Int)+k:=by rw[IntKind.wrap_i64];omega
       have hkn:¬(k:Int)<0:=by omega
       go_wp2
       go_quiet_o (fail)
       go_wp2
       go_quiet_o (fail)
       go_wp2_with (fail)
       refine(Fy s b a x y t (0,0) _ (R _) z hs).mono ?_;rintro e L ⟨rfl,nn,rfl⟩;rw[o];simp only[]
       go_wp2
       go_quiet_o (first|(refine(v _ _).mono ?_;rintro e L ⟨rfl,rfl⟩;exact⟨rfl,_,rfl⟩))
       go_wp2
       go_roundg (gk-k)
       case measure=>omega
       case rel=>exact⟨a+k,by omega,by omega,(O.drewN _).set _ _ rfl,d,n,by omega,p.symm.trans Y⟩
     .have hs2':(lb s (a+1)==47)=false:=beq_eq_false_iff_ne.2 o
      go_wp2
      go_quiet_o (fail)
      go_wp2
      go_quiet_o (fail)
      go_wp2_with (fail)
      refine(Fy s b a x y t (0,0) _ (R _) z hs).mono ?_;rintro e L ⟨rfl,nn,rfl⟩;simp only[]
      go_wp2
      refine bodyPost_ret (results_none rfl _ _ _) rfl ?_;refine⟨rfl,O.drewN _,?_⟩;rw[<-Y,aGc I f λq=> ?_];exact K;obtain⟨q1,_⟩:=aQ.1 q.2;refine o ?_;unfold lb;rw[dif_pos (by omega)];have:=Lib.data_getElem? s (a+1) (by omega);rw[q.2]at this;rw[<-bV this];rfl
    .have n47:((c.toNat:Int)==47)=false:=beq_eq_false_iff_ne.2 λe=>W (by apply UInt8.toNat_inj.1;simpa using(by omega:c.toNat=47))
     go_wp2
     go_quiet_o (fail)
     go_wp2
     go_quiet_o (fail)
     go_wp2
     refine bodyPost_ret (results_none rfl _ _ _) rfl ?_;refine⟨rfl,O.drewN _,?_⟩;rw[<-Y,aGc I f λq=>W q.1];exact K
  .have hl:¬(a:Int)<(s.size:Int):=by omega
   have ea:a=s.size:=by omega
   go_wp2
   go_quiet_o (fail)
   go_wp2
   go_end0
   refine⟨rfl,O.drewN _,?_⟩;rw[<-Y,aOo (cA (by rw[J];omega))];exact K
theorem aXk{gl:gG}{ts:gC}{H H':Hp}{r:T}(h:Se 200 ts H=some (r,H')):Rq prog gl 130 ts H r H':=by
 refine⟨by kernel_rfl,λg vs hg hs hgl i=> ?_⟩;unfold Se at h;split at h;rename_i l
 match vs,i with
 |[v],i=>
  obtain⟨rfl,hal⟩:=UD (i.I).1;split at h;rename_i ob b;obtain⟨elem,sz,cells,O⟩:=ob;obtain rfl:O=none:=(pD b).2;obtain⟨_,hS,U,J,q1,q2,q3,B⟩:=hs.own l _ b;simp only at h J q1 q2 q3 B;split at h;rename_i s a x y;split at h;rename_i hc;obtain⟨rfl,rfl,ha0,ha1,ha2⟩:=hc;cases h;have hl:U.toList.length=4:=by simpa using q2 rfl
  match hcs:U.toList,hl with
  |[c0,c1,W,Y],_ =>
   have e0:U= #[c0,c1,W,Y]:=by rw[<-fM (xs:=U),hcs]
   subst e0;have hc0:=B.2 0 c0 (.str s) (by simp) rfl;have hc1:=B.2 1 c1 (.int .i64 a) (by simp) rfl;have hc2:=B.2 2 W x (by simp) rfl;have hc3:=B.2 3 Y y (by simp) rfl;obtain⟨I,rfl,p⟩:=hc0.aj;have:=hc1.gm;subst this;have Z:s.length=I.size:=by rw[<-p];exact(Lib.size_eq I).symm
   have ha:((a.toNat:Nat):Int)=a:=by omega
   refine(aOn I (g.loc l) a.toNat W Y 200 g.w (by rw[J,kv,ha]) (by omega) (by omega)).mono λe L ⟨he,z,K⟩=> ?_;rw[p,<-Z]at K
   let d:Array Value:= #[.string I,.int .i64 ((AL s (s.length+1-a.toNat) a.toNat:Nat):Int),W,Y]
   let f:G:=g.setRow (g.loc l) d
   have hs1:St f (H.put l {elem:=200,sz:=0,cells:=[.str s,.int .i64 ((AL s (s.length+1-a.toNat) a.toNat:Nat):Int),x,y],me:=none}):=
    jj (o:={elem:=200,sz:=0,cells:=[.str s,.int .i64 a,x,y]}) hs b J (by simp[d]) (by simp) (fv.cons (p▸Rd.str I) (fv.cons (.int _ _) (fv.cons hc2 (fv.cons hc3 fv.nil))))
   have hst:pP H g (H.put l {elem:=200,sz:=0,cells:=[.str s,.int .i64 ((AL s (s.length+1-a.toNat) a.toNat:Nat):Int),x,y],me:=none}) f:=OZ (pD b).1 _ _;have hlt:g.loc l<g.w.heap.size:=(aX.1 J).1;have q:∀k,L.heap[k]? =f.w.heap[k]? :=λk=>by
    by_cases R:k=g.loc l;subst R;rw[K];show _ =(g.w.setRow (g.loc l) d).heap[g.loc l]?;simp only[World.setRow,dY,cB,J];rfl;rw[z.block k R];show _ =(g.w.setRow (g.loc l) d).heap[k]?;simp only[World.setRow,dY];rw[aH (λe:g.loc l=k=>R e.symm)]
   have u:f.w.heap.size=g.w.heap.size:=by simp[f,G.setRow,World.setRow]
   have hp:fx f {f with w:=L}:=⟨z.os,z.tape,z.output,by show f.w.heap.size<=L.heap.size;rw[z.size,u];exact bB _,λk _ =>q k,λ_ h=>h,λ_ h=> .inl h,rfl,rfl,rfl⟩;refine⟨_,{f with w:=L},he,rfl,hst.trans hp.bi,?_,hs1.ad hp,Rd.ak fv.nil⟩;intro k R;have:=hg k R;show k<L.heap.size;rw[z.size];exact this
  cases h;cases h;cases h
 |[],i=>simp[fv]at i|_ ::_ ::_,i=>simp[fv]at i
 cases h
end Go.Proofs.Tryz
namespace Go.Proofs.Tryz
open Go.Shelf
def wV:Go.Shelf.Ren:=⟨λ|156=>42|165=>77|166=>78|169=>79|240=>123|241=>124|276=>183|277=>184|n=>n,λ|31=>90|9=>9|3=>3|4=>4|0=>0|20=>20|72=>135|76=>139|70=>133|37=>128|75=>138|127=>197|164=>252|5=>5|80=>141|n=>n,λ|n=>n⟩
theorem OI:Go.Proofs.Lays.n156 prog wV:={
 mixed:=by kernel_rfl
 f156:=func42.trans (bG some (by kernel_rfl))
 f165:=func77.trans (bG some (by kernel_rfl))
 f166:=func78.trans (bG some (by kernel_rfl))
 f169:=func79.trans (bG some (by kernel_rfl))
 f240:=func123.trans (bG some (by kernel_rfl))
 f241:=func124.trans (bG some (by kernel_rfl))
 f276:=func183.trans (bG some (by kernel_rfl))
 f277:=func184.trans (bG some (by kernel_rfl))
 t0:=underlying0
 a0:=isAgg0
 z0:=sizeOf0
 v0:=zeroValue0
 t3:=underlying3
 a3:=isAgg3
 z3:=sizeOf3
 v3:=zeroValue3
 t4:=underlying4
 a4:=isAgg4
 z4:=sizeOf4
 v4:=zeroValue4
 t9:=underlying9
 a9:=isAgg9
 z9:=sizeOf9
 v9:=zeroValue9
 t20:=underlying20
 a20:=isAgg20
 z20:=sizeOf20
 v20:=zeroValue20
 t31:=underlying90
 a31:=isAgg90
 z31:=sizeOf90
 v31:=zeroValue90
 t37:=underlying128
 a37:=isAgg128
 z37:=sizeOf128
 v37:=zeroValue128
 t70:=underlying133
 a70:=isAgg133
 z70:=sizeOf133
 v70:=zeroValue133
 t72:=underlying135
 a72:=isAgg135
 z72:=sizeOf135
 v72:=zeroValue135
 t75:=underlying138
 a75:=isAgg138
 z75:=sizeOf138
 v75:=zeroValue138
 t76:=underlying139
 a76:=isAgg139
 z76:=sizeOf139
 v76:=zeroValue139
 t127:=underlying197
 a127:=isAgg197
 z127:=sizeOf197
 v127:=zeroValue197
 t164:=underlying252
 a164:=isAgg252
 z164:=sizeOf252
 v164:=zeroValue252}
theorem uA:Builder.Extra prog wV:={
 sizeBuilder:=by kernel_rfl
 liesBuilder:=by kernel_rfl
 t5:=underlying5
 a5:=isAgg5
 z5:=sizeOf5
 v5:=zeroValue5
 infoByte:=by kernel_rfl
 cellsByte:=by kernel_rfl
 sizeByte:=by kernel_rfl
 neB5:=by decide}
open Go.Ps
theorem RU(gl:gG):sD prog gl MR:=by
 intro f i H r e h;unfold MR at h;by_cases d:f=123;rw[aJ d]at h;subst d;exact aPg (gl:=gl) (V:=wV) {OI with} uA.toX72 (by kernel_rfl) h;rw[aH d]at h;by_cases b:f=79;rw[aJ b]at h;subst b;exact bAu (gl:=gl) (V:=wV) {OI with} uA (by kernel_rfl) h;rw[aH b]at h;by_cases a:f=130;rw[aJ a]at h;subst a;exact aXk h;rw[aH a]at h;cases h
end Go.Proofs.Tryz
namespace Go.Proofs.Tryz
open Go.Ps Go.RowKit
theorem aKs{m:Int}{C:gB}(s:gH)(c:Nat)(q:c<=9223372036854775807)(o:s.length*c<=140737488355328):fj prog (fo m C) 312 [.str s,.int .i64 c] (.str (Lib.repeatL s c)):=by
 refine vL (by kernel_rfl) λg d p h=> ?_
 match d,h with
 |[v,u],h=>
  have f:=vQ (h.I).1;have b:=((h.I).2.I).1;subst f;generalize e:T.int .i64 (c:Int)=x at b;cases b<;>cases e;refine⟨.string ⟨(Lib.repeatL s c).toArray⟩,λi=> ?_,?_⟩
  rotate_left
  have a:(⟨s.toArray⟩:ByteArray).size*c<=140737488355328:=by show s.toArray.size*c<=_;simpa using o
  exact Any.strings_Repeat aQz MT ⟨s.toArray⟩ c g.w q a;have:=Rd.str (g:=i) ⟨(Lib.repeatL s c).toArray⟩;simpa using this
 |[],h=>have:=h.1;simp at this|[_],h=>have:=h.1;simp at this|_ ::_ ::_ ::_,h=>have:=h.1;simp at this
def aGr(s:gH):Int:=(Lib.decodeGo ⟨s.toArray⟩).1
def Sr(s:gH):Int:=(Lib.decodeGo ⟨s.toArray⟩).2
theorem aBh{m:Int}{C:gB}(s:gH):fj prog (fo m C) 261 [.str s] (.fm [.int .i32 (aGr s),.int .i64 (Sr s)]):=by
 refine vL (by kernel_rfl) λg d b h=> ?_
 match d,h with
 |[v],h=>
  have e:=vQ (h.I).1;subst e;refine⟨.tuple #[.int .i32 (aGr s),.int .i64 (Sr s)],λf=> ?_,?_⟩
  rotate_left
  exact Any.utf8_DecodeRuneInString aRd ⟨s.toArray⟩ g.w (aMl b);refine .fm _ [_,_] rfl (λj v c h a=> ?_)
  match j with
  |0=>simp at h a;subst h;subst a;exact .int _ _|1=>simp at h a;subst h;subst a;exact .int _ _|k+2=>simp at h
 |[],h=>have:=h.1;simp at this|_ ::_ ::_,h=>have:=h.1;simp at this
theorem aXq(s:gH)(h:1<=s.length):0<=aGr s/\aGr s<=1114111/\1<=Sr s/\Sr s<=4:=by
 have a:(⟨s.toArray⟩:ByteArray).size=s.length:=by show s.toArray.size=_;simp
 unfold aGr Sr Lib.decodeGo;rw[aH (by omega)];have d:=Lib.width_pos ⟨s.toArray⟩ 0;have b:(Utf8.decode ⟨s.toArray⟩ 0).2<=4/\(Utf8.decode ⟨s.toArray⟩ 0).1<=1114111:=by
  rw[Lib.decode_at];refine⟨?_,Lib.decodeN_rune_le _ _ _ _ _ (UInt8.toNat_lt _)⟩;unfold Lib.decodeN
  repeat' split
  all_goals simp
 omega
end Go.Proofs.Tryz
namespace Go.Ps
noncomputable section
inductive Ki where
 |seq (d:Code)
 |blk (id:Nat)
 |lp
abbrev kC:=List Ki
inductive Rt where
 |again (j:Nat) (fr:gC) (H:Hp)
 |done (x:X) (fr:gC) (H:Hp)
 |loop (j:Nat) (c:Code) (ks:kC) (fr:gC) (H:Hp)
inductive Md where
 |code (c:Code)
 |out (x:X)
def qR(P:gD)(E:Ed)(F:Fc):Nat->Md->List Ki->Nat->List T->Hp->List Bool->List Bool->RD Rt
 |0,_,_,_,_,_,_,_ => .fail 40|_ +1,.out x,[],_,f,H,ds,e=> .ok (.done x f H) ds e|n+1,.out .normal,.seq d::h,j,f,H,ds,e=>qR P E F n (.code d) h j f H ds e|n+1,.out .normal,.blk _ ::h,j,f,H,ds,e=>qR P E F n (.out .normal) h j f H ds e|_ +1,.out .normal,.lp::_,j,f,H,ds,e=> .ok (.again j f H) ds e|n+1,.out (.exit id),.seq _ ::h,j,f,H,ds,e=>qR P E F n (.out (.exit id)) h j f H ds e|n+1,.out (.exit id),.blk s::h,j,f,H,ds,e=>if id=s then qR P E F n (.out .normal) h j f H ds e else qR P E F n (.out (.exit id)) h j f H ds e
 |n+1,.out (.exit id),.lp::h,j,f,H,ds,e=>qR P E F n (.out (.exit id)) h (j+1) f H ds e|n+1,.out .ret,.lp::h,j,f,H,ds,e=>qR P E F n (.out .ret) h (j+1) f H ds e|n+1,.out .ret,.seq _ ::h,j,f,H,ds,e=>qR P E F n (.out .ret) h j f H ds e|n+1,.out .ret,.blk _ ::h,j,f,H,ds,e=>qR P E F n (.out .ret) h j f H ds e
 |n+1,.code c,h,j,f,H,ds,e=>match c with
  | .seq a b=>qR P E F n (.code a) (.seq b::h) j f H ds e| .block id c=>qR P E F n (.code c) (.blk id::h) j f H ds e| .scope c=>qR P E F n (.code c) h j f H ds e| .loop c=> .ok (.loop j c h f H) ds e
  | .cond o a b=>match pQ E.gl f o with
   |some (.bool t)=>match ds with
    |[]=> .need t e|d::i=>if d then qR P E F n (.code a) h j f H i (t::e)else qR P E F n (.code b) h j f H i ((!t)::e)
   |_ => .fail 41
  |c=>match qQ P E F c f H ds e with
   | .ok (x,q,u) i p=>qR P E F n (.out x) h j q u i p| .need t l=> .need t l| .fail m=> .fail m
def CX:Code->List Ki->List (Code×List Ki)
 | .seq a b,d=>CX a (.seq b::d)++CX b d| .block id c,d=>CX c (.blk id::d)| .scope c,d=>CX c d| .cond _ a b,d=>CX a d++CX b d| .loop c,d=>(c,d)::CX c (.lp::d)|_,_ =>[]
def sS(P:gD)(E:uW)(Q:gT):List Ki->List (List T->Hp->Prop)->X->List T->Hp->Prop
 |[],_ =>Q| .seq d::a,b=>rE (λf H=>Good P E d f H (sS P E Q a b)) (sS P E Q a b)| .blk id::a,b=>xJ id (sS P E Q a b)| .lp::a,A::b=>rE A (sS P E Q a b)| .lp::a,[]=>rE (λ_ _ =>False) (sS P E Q a [])
def aJl:Md->Bool
 | .code c=>codeOk c| .out _ =>true
def FU:List Ki->Bool
 |[]=>true| .seq d::a=>codeOk d&&FU a|_ ::a=>FU a
abbrev iY:=List (List T->Hp->Prop)
def aUn(P:gD)(E:uW)(Q:gT)(a:iY):Rt->Prop
 | .again j f H=>∃A,a[j]? =some A/\A f H| .done x f H=>Q x f H| .loop j c b f H=>Good P E (.loop c) f H (sS P E Q b (a.drop j))
def ic(P:gD)(E:uW)(f:gC)(H:Hp)(R:gT):Md->Prop
 | .code c=>Good P E c f H R| .out x=>R x f H
section
variable{P:gD}{D:Ed}{F:Fc}{Q:gT}{As:iY}
theorem Ja(a:kC)(j:Nat):sS P D.env Q (.lp::a) (As.drop j)=rE (λf H=>∃A,As[j]? =some A/\A f H) (sS P D.env Q a (As.drop (j+1))):=by
 by_cases h:j<As.length;rw[eN h];simp only[sS];have e:(λf H=>∃A,As[j]? =some A/\A f H)=As[j]:=by
  funext f H;rw[aB h];simp
 rw[e];rw[eF (by omega),eF (by omega)];simp only[sS];congr 1;funext f H;rw[cA (by omega)];simp
theorem aBt(w:P.follows .mixedOrders=true)(v:rV P D.gl D.env.pe)(hF:sD P D.gl F.ee){c:Code}(e:codeOk c=true){i f:gC}{H d:Hp}{x:X}{ds p o b:gL}
  (h:qQ P D F c i H ds p= .ok (x,f,d) o b) (J:oU b=true) {R:gT} (z:R x f d):Good P D.env c i H R:=by
 intro B g u a L K y;exact Gk w v hF 0 c i H x f d e (VX 0 h J).1 B g u a L K (λs I q=>y x f d s I z q)
theorem Jh(Y:P.follows .mixedOrders=true)(hE:rV P D.gl D.env.pe)(hF:sD P D.gl F.ee):∀(n:Nat) (m:Md) (B:kC) (j:Nat) (I:gC) (H:Hp) (ds z:gL) (o:Rt) (y s:gL),
  qR P D F n m B j I H ds z= .ok o y s->oU s=true->aJl m=true->FU B=true->oU z=true/\(aUn P D.env Q As o->ic P D.env I H (sS P D.env Q B (As.drop j)) m):=by
 intro n
 induction n with
 |zero=>intro m B j I H ds z o y s h;simp[qR]at h
 |succ n w=>
  intro m B j I H ds z o y s h v i f;cases m with
  |out x=>
   cases B with
   |nil=>simp only[qR]at h;cases h;exact⟨v,λq=>q⟩
   |cons k B=>
    cases x with
    |normal=>cases k with
     |seq d=>
      simp only[qR]at h;simp only[FU,aA]at f;obtain⟨a,b⟩:=w _ _ _ _ _ _ _ _ _ _ h v f.1 f.2;exact⟨a,λq=>b q⟩
     |blk id=>
      simp only[qR]at h;obtain⟨a,b⟩:=w _ _ _ _ _ _ _ _ _ _ h v rfl f;exact⟨a,λq=>b q⟩
     |lp=>
      simp only[qR]at h;cases h;refine⟨v,λq=> ?_⟩;simp only[ic,Ja];exact q
    |exit id=>cases k with
     |seq d=>
      simp only[qR]at h;simp only[FU,aA]at f;obtain⟨a,b⟩:=w _ _ _ _ _ _ _ _ _ _ h v rfl f.2;exact⟨a,λq=>b q⟩
     |blk L=>
      simp only[qR]at h;split at h;rename_i e;obtain⟨a,b⟩:=w _ _ _ _ _ _ _ _ _ _ h v rfl f;refine⟨a,λq=> ?_⟩;simp only[ic,sS,xJ,aJ e];exact b q;rename_i e;obtain⟨a,b⟩:=w _ _ _ _ _ _ _ _ _ _ h v rfl f;refine⟨a,λq=> ?_⟩;simp only[ic,sS,xJ,aH e];exact b q
     |lp=>
      simp only[qR]at h;obtain⟨a,b⟩:=w _ _ _ _ _ _ _ _ _ _ h v rfl f;refine⟨a,λq=> ?_⟩;simp only[ic,Ja];exact b q
    |ret=>cases k with
     |seq d=>
      simp only[qR]at h;simp only[FU,aA]at f;obtain⟨a,b⟩:=w _ _ _ _ _ _ _ _ _ _ h v rfl f.2;exact⟨a,λq=>b q⟩
     |blk L=>
      simp only[qR]at h;obtain⟨a,b⟩:=w _ _ _ _ _ _ _ _ _ _ h v rfl f;exact⟨a,λq=>b q⟩
     |lp=>
      simp only[qR]at h;obtain⟨a,b⟩:=w _ _ _ _ _ _ _ _ _ _ h v rfl f;refine⟨a,λq=> ?_⟩;simp only[ic,Ja];exact b q
  |code c=>
   simp only[aJl]at i
   have u:∀{c:Code},codeOk c=true->(match qQ P D F c I H ds z with
     | .ok (x,J,Z) y s=>qR P D F n (.out x) B j J Z y s| .need t l=> .need t l| .fail m=> .fail m)=RD.ok o y s->oU z=true/\(aUn P D.env Q As o->Good P D.env c I H (sS P D.env Q B (As.drop j))):=by
    intro c hc h;split at h;rename_i x fr1 H1 K O U;obtain⟨a,b⟩:=w _ _ _ _ _ _ _ _ _ _ h v rfl f;exact⟨(VX 0 U a).2,λq=>aBt Y hE hF hc U a (b q)⟩;cases h;cases h
   cases c with
   |seq a b=>
    simp only[qR]at h;simp only[codeOk,aA]at i;obtain⟨p,q⟩:=w _ _ _ _ _ _ _ _ _ _ h v (by exact i.1) (by simp only[FU,aA];exact⟨i.2,f⟩);exact⟨p,λr=>aIe (q r)⟩
   |block id c=>
    simp only[qR]at h;obtain⟨p,q⟩:=w _ _ _ _ _ _ _ _ _ _ h v (by exact i) (by exact f);exact⟨p,λr=>Tq (q r)⟩
   |scope c=>
    simp only[qR]at h;obtain⟨p,q⟩:=w _ _ _ _ _ _ _ _ _ _ h v (by exact i) f;exact⟨p,λr=>Ts (q r)⟩
   |loop c=>
    simp only[qR]at h;cases h;exact⟨v,λq=>q⟩
   |cond t a b=>
    simp only[qR]at h;simp only[codeOk,aA]at i;split at h;rename_i t' W;split at h;cases h;rename_i d K;split at h;obtain⟨p,q⟩:=w _ _ _ _ _ _ _ _ _ _ h v (by exact i.1) f;simp only[oU,aA]at p;exact⟨p.2,λr=>Cy (E:=D.env) W (λ_ =>q r) (λe=>by rw[p.1]at e;cases e)⟩;obtain⟨p,q⟩:=w _ _ _ _ _ _ _ _ _ _ h v (by exact i.2) f;simp only[oU,aA,bQ]at p;exact⟨p.2,λr=>Cy (E:=D.env) W (λe=>by rw[p.1]at e;cases e) (λ_ =>q r)⟩;cases h
   |skip=>simp only[qR]at h;exact u i h|label l=>simp only[qR]at h;exact u i h|region id ops R=>simp only[qR]at h;exact u i h|exit id=>simp only[qR]at h;exact u i h|ret=>simp only[qR]at h;exact u i h|_ =>simp only[qR]at h;exact u i h
end
def pO(f:Func):Code:=
 match f.body with
 |some c=>c|none=> .skip
def rY(f:Func)(i:Nat):Code×List Ki:=(CX (pO f) []).getD i (.skip,[])
inductive Fi where
 |again (j:Nat)
 |done (r:jE)
 |loop (j:Nat) (c:Code) (ks:kC)
def aKv(P:gD)(f:gC)(H:Hp):List ResultVar->Option (List T×Bool)
 |[]=>some ([],true)
 |r::e=>match aKv P f H e with
  |some (d,b)=>match r with
   | .tmp t=>some (rW f t::d,b)
   | .cell a t=>match rW f a with
    | .ptr l o=>match KM P t with
     |some true=>match uI P t with
      |some n=>some (.agg (Gj H l o n)::d,TI H l (o+n)&&b)|none=>none
     |some false=>some ((Ah H l).cells.getD o oS::d,TI H l (o+1)&&b)|none=>none
    |x=>match wI P H t x with
     |some v=>some (v::d,b)|none=>none
  |none=>none
theorem Jd{P:gD}{u:gC}{H:Hp}:∀{w:jP} {q:gC} {b:Bool},aKv P u H w=some (q,b)->b=true->rJ P u H w=some q
 |[],q,b,h,s=>by simp only[aKv,aI,bF]at h;rw[<-h.1];rfl
 |r::w,q,b,h,s=>by
  simp only[aKv]at h;split at h;rename_i B b1 O;have f:∀x,Pn P u H r=some x->q=x::B->b1=true->rJ P u H (r::w)=some q:=by
   intro x R e d;simp only[rJ,R,Jd O d,e]
  split at h;simp only[aI,bF]at h;exact f _ rfl h.1.symm (h.2.trans s);rename_i a t;split at h;rename_i l z J;split at h;rename_i i;split at h;rename_i n U;simp only[aI,bF]at h;obtain⟨y,p⟩:=h;rw[s,aA]at p;refine f _ ?_ y.symm p.2;simp only[Pn,J,wI,vM];have I:= @Cd H l z n;have d:=p.1;unfold TI at d;unfold Ah at I;split at d;rename_i K o;rw[o]at I⊢;simp only[aF]at d;simp only[wK,i,U];rw[aJ d,I d];cases d;cases h;rename_i i;simp only[aI,bF]at h;obtain⟨y,p⟩:=h;rw[s,aA]at p;refine f _ ?_ y.symm p.2;simp only[Pn,J,wI,vM];have d:=p.1;unfold TI at d;unfold Ah;split at d;rename_i K o;rw[o];simp only[aF]at d;simp only[wK,i];rw[bC,aB (by omega)];rfl;cases d;cases h;split at h;rename_i v L;simp only[aI,bF]at h;exact f _ L h.1.symm (h.2.trans s);cases h;cases h
def Pm(P:gD)(a:Func)(k:Nat)(f:gC)(H:Hp):Option T:=
 match aKv P f H a.results.toList with
 |some ([t],b)=>if b then pM k H t else none
 |some (d,b)=>if b then pM k H (.fm d)else none
 |none=>none
theorem aKt{P:gD}{e:Func}{k:Nat}{f:gC}{H:Hp}{r:T}(h:Pm P e k f H=some r):∃q,BM P e f H=some q/\pM k H q=some r:=by
 unfold Pm at h;unfold BM;split at h;rename_i t b d;cases b with
 |true=>rw[Jd d rfl];exact⟨t,rfl,h⟩|false=>cases h
 rename_i i b a d;cases b with
 |true=>
  rw[Jd d rfl];refine⟨.fm i,?_,h⟩
  match i,a with
  |[],_ =>rfl|[x],a=>exact absurd rfl (a x)|_ ::_ ::_,_ =>rfl
 |false=>cases h
 cases h
def tG(P:gD)(b:Func)(k:Nat)(keep:gU):RD Rt->Option (Fi×List Bool×Hp×List T×Nat)
 | .ok (.again j f H) _ a=>some (.again j,a,H,keep.map (rW f),f.length)| .ok (.done .normal f H) _ a=>some (.done (Pm P b k f H),a,⟨0,.nl⟩,[],0)| .ok (.done .ret f H) _ a=>some (.done (Pm P b k f H),a,⟨0,.nl⟩,[],0)| .ok (.loop j c d f H) _ a=>some (.loop j c d,a,H,keep.map (rW f),f.length)|_ =>none
def mP(keep:gU)(v:gC)(f:gC)(len:Nat):List T:=mO (keep.zip v) f 0 len
theorem ZP{f:gC}:∀(keep:gU) (a:gC),keep.map (rW f)=a->∀k v,(keep.zip a).lookup k=some v->rW f k=v
 |[],_,_,k,v,h=>by simp at h|x::b,[],e,k,v,h=>by simp at h
 |x::b,y::i,e,k,v,h=>by
  simp only[dN,fT]at e;simp only[List.zip_cons_cons,List.lookup_cons]at h;split at h;rename_i d;have:k=x:=by simpa using d
  cases h;rw[this];exact e.1;exact ZP b i e.2 k v h
theorem aYi{keep:gU}{v f:gC}{len:Nat}(h:keep.map (rW f)=v)(a:f.length=len):mP keep v f len=f:=by
 unfold mP;rw[aJz (keep.zip v) f (ZP keep v h) len 0 (by omega)];rfl
section
variable{P:gD}{D:Ed}{F:Fc}{As:iY}{fn:Func}{k:Nat}{res:T}{keep:gU}{N:Nat}{m:Md}{ks:kC}{fr:gC}{H H':Hp}{ds log:gL}{vs:gC}{len:Nat}
theorem ki{r:jE}(v:P.follows .mixedOrders=true)(u:rV P D.gl D.env.pe)(hF:sD P D.gl F.ee)(q:aJl m=true)(p:FU ks=true)
  (h:tG P fn k keep (qR P D F N m ks 0 fr H ds [])=some (.done r,log,H',vs,len)) (z:r=some res) (y:oU log=true):ic P D.env fr H (sS P D.env (Rr P fn k res) ks As) m:=by
 subst z;have o:∀(x:X) (f:gC) (b:Hp) (d:gL),(x= .normal\/x= .ret)->qR P D F N m ks 0 fr H ds []= .ok (.done x f b) d log->Pm P fn k f b=some res->ic P D.env fr H (sS P D.env (Rr P fn k res) ks As) m:=by
  intro x f b d w a i;refine(Jh v u hF _ _ _ _ _ _ _ _ _ _ _ a y q p).2 ⟨w,?_⟩;exact aKt i
 unfold tG at h;split at h<;>try cases h
 rename_i f b d e a;simp only[aI,bF,Fi.done.injEq]at h;obtain⟨s,rfl,_⟩:=h;exact o _ f b d (.inl rfl) a s;rename_i f b d e a;simp only[aI,bF,Fi.done.injEq]at h;obtain⟨s,rfl,_⟩:=h;exact o _ f b d (.inr rfl) a s
theorem js(o:P.follows .mixedOrders=true)(i:rV P D.gl D.env.pe)(hF:sD P D.gl F.ee)(b:aJl m=true)(a:FU ks=true){Q:gT}{j:Nat}
  (h:tG P fn k keep (qR P D F N m ks 0 fr H ds [])=some (.again j,log,H',vs,len)) (u:oU log=true) {A:List T->Hp->Prop} (q:As[j]? =some A) (s:∀f,keep.map (rW f)=vs->f.length=len->A f H'):
  ic P D.env fr H (sS P D.env Q ks As) m:=by
 unfold tG at h;split at h<;>cases h;rename_i e p d;exact(Jh o i hF _ _ _ _ _ _ _ _ _ _ _ d u b a).2 ⟨A,q,s e rfl rfl⟩
theorem kj(p:P.follows .mixedOrders=true)(o:rV P D.gl D.env.pe)(hF:sD P D.gl F.ee)(d:aJl m=true)(b:FU ks=true){Q:gT}{j:Nat}{c:Code}{a:kC}
  (h:tG P fn k keep (qR P D F N m ks 0 fr H ds [])=some (.loop j c a,log,H',vs,len)) (u:oU log=true) (s:∀f,keep.map (rW f)=vs->f.length=len->Good P D.env (.loop c) f H' (sS P D.env Q a (As.drop j))):
  ic P D.env fr H (sS P D.env Q ks As) m:=by
 unfold tG at h;split at h<;>cases h;rename_i i q e;exact(Jh p o hF _ _ _ _ _ _ _ _ _ _ _ e u d b).2 (s i rfl rfl)
theorem Ur{E:uW}{c:Code}{f:gX}{fn:Func}(Y:wO E.gl)(h1:uQ P f=true)(hfn:P.funcs[f]? =some fn)(i:fn.body=some c){e:gC}{r:T}{d:Nat}(U:qJ (pM d ⟨0,.nl⟩) e=some e)
  (h:Good P E c (e++List.replicate (fn.ntmps-e.length) oS) ⟨0,.nl⟩ (Rr P fn k r)):fj P E.gl f e r:=by
 refine⟨h1,λg z hg ⟨N,hN⟩ hgl hv=> ?_⟩;have R:St g ⟨N,.nl⟩:=St.nl _ _ (hN);have K:qJ (pM d ⟨N,.nl⟩) e=some e:=by
  have:∀(e J:gC),qJ (pM d ⟨0,.nl⟩) e=some J->qJ (pM d ⟨N,.nl⟩) e=some J:=by
   intro e
   induction e with
   |nil=>intro rs h;exact h
   |cons t e W=>
    intro rs h;simp only[qJ]at h⊢;split at h;rename_i a ha;split at h;rename_i b i;rw[HT d 0 _ _ _ ha,W _ i];exact h;cases h;cases h
  exact this e e U
 have Z:fv g.bare z e:=by
  have:=TW (g0:=g.bare) R K hv;rw[JL]at this;exact this
 have I:gn E.gl g.bare:=by
  have:=gn.aM (g0:=g.bare) Y R hgl;rw[JL]at this;exact this
 have hs:St g.bare ⟨0,.nl⟩:=St.nl _ _ (λl _ q=>q);have p:fv g.bare (z.toArray++Array.replicate (fn.ntmps-z.toArray.size) undef).toList (e++List.replicate (fn.ntmps-e.length) oS):=by
  have:(z.toArray++Array.replicate (fn.ntmps-z.toArray.size) undef).toList=z++List.replicate (fn.ntmps-e.length) undef:=by simp[hv.1]
  rw[this];exact Z.append (fv.replicate _ Rd.undef)
 have L:qK E g.bare ⟨0,.nl⟩ g.bare {tmps:=z.toArray++Array.replicate (fn.ntmps-z.toArray.size) undef,defers:=[]} (e++List.replicate (fn.ntmps-e.length) oS) ⟨0,.nl⟩:=⟨hg,hs,I,rfl,p,pP.refl _ _⟩;refine calls_of_wp hfn i (h g.bare g.bare ⟨0,.nl⟩ _ L _ (λx fr' H' a' g' hQ B=> ?_));obtain⟨hx,q,hq,Y⟩:=hQ;obtain⟨v,O,hv2⟩:=aCx (fn:=fn) B hq;have y:=B.step;have fin:∃v' s,Ending.returned v= .returned v'/\s.w=g'.w/\fx g s/\sJ s/\Rd s v' r:=by
  refine⟨v,g'.aM H' g,rfl,rfl,?_,?_,LR B.st k q r v Y hv2⟩;refine⟨y.os,y.tape,y.output,y.size,λb i=>y.block b i (λl o u=>(by rw[vX]at u;cases u)),λb i=> .inl (y.sub b i),λb i=> ?_,rfl,rfl,rfl⟩;rcases i with i|⟨l,o,u,rfl⟩
  rcases y.fresh b i with q|q|⟨l,o,u,_⟩;exact .inl q;exact .inr q;rw[vX]at u;cases u;rcases y.live l o (pD u).1 with⟨l0,o0,q,_⟩|q
  rw[vX]at q;cases q;exact .inr q;intro b i;rcases i with i|⟨l,o,u,rfl⟩
  exact B.ok b i;exact B.st.lt (pD u).1
 rcases hx with rfl|rfl;exact⟨B.df,v,O,fin⟩;exact⟨B.df,v,O,fin⟩
end
end
structure Cx(P:gD)(D:Ed)(F:Fc):Prop where
 hm:P.follows .mixedOrders=true
 hE:rV P D.gl D.env.pe
 hF:sD P D.gl F.ee
section
variable{P:gD}{D:Ed}{F:Fc}{As:iY}{fn:Func}{k:Nat}{res:T}{keep:gU}{N:Nat}{c:Code}{ks:kC}{fr:gC}{H H':Hp}{ds log:gL}{vs:gC}{len:Nat}
theorem Cx.done{r:jE}(x:Cx P D F)(d:codeOk c=true)(b:FU ks=true)
  (h:tG P fn k keep (qR P D F N (.code c) ks 0 fr H ds [])=some (.done r,log,H',vs,len)) (e:r=some res) (a:oU log=true):Good P D.env c fr H (sS P D.env (Rr P fn k res) ks As):=
 ki (m:= .code c) x.hm x.hE x.hF d b h e a
theorem Cx.again(x:Cx P D F)(i:codeOk c=true)(a:FU ks=true){Q:gT}{j:Nat}
  (h:tG P fn k keep (qR P D F N (.code c) ks 0 fr H ds [])=some (.again j,log,H',vs,len)) (b:oU log=true) {A:List T->Hp->Prop} (d:As[j]? =some A) (e:∀f,keep.map (rW f)=vs->f.length=len->A f H'):
  Good P D.env c fr H (sS P D.env Q ks As):=
 js (m:= .code c) x.hm x.hE x.hF i a h b d e
theorem Cx.loop(x:Cx P D F)(o:codeOk c=true)(d:FU ks=true){Q:gT}{j:Nat}{b:Code}{a:kC}
  (h:tG P fn k keep (qR P D F N (.code c) ks 0 fr H ds [])=some (.loop j b a,log,H',vs,len)) (e:oU log=true) (i:∀f,keep.map (rW f)=vs->f.length=len->Good P D.env (.loop b) f H' (sS P D.env Q a (As.drop j))):
  Good P D.env c fr H (sS P D.env Q ks As):=
 kj (m:= .code c) x.hm x.hE x.hF o d h e i
end
theorem fj.mono{P:gD}{gl:gG}{f:gX}{d:gC}{r b:T}(h:fj P gl f d r)(k:∀g v,Rd g v r->Rd g v b):fj P gl f d b:=
 ⟨h.1,λg q e u a p=>(h.2 g q e u a p).mono λ_ _ ⟨v,y,x,w,o,i,s⟩=>⟨v,y,x,w,o,i,k _ _ s⟩⟩
def G.start(W:iG):G:={w:=W,S:=λb=>b<W.heap.size,al:=λ_ =>False,loc:=λ_ =>0,cp:=λ_ =>0}
theorem aLt(W:iG):sJ (G.start W):=λ_ h=>h
theorem aBs{P:gD}{W:iG}{a:String}{k:Nat}{i:iC}{f:gN}(u:P.globalNamed a=some k)(h:Lib.TabIs P W a i f):KL (G.start W) k (.ref (.agg (f.map (T.int i))) 0):=by
 unfold Lib.TabIs World.var? at h;rw[u,eD]at h;split at h;rename_i w e s p;cases h;have d:k<W.heap.size:=(aX.1 p).1;refine⟨?_,d,_,e,s,p,by simp[T.bm,T.cells]⟩;have q:=Rd.ref (g:=G.start W) (.agg (f.map (T.int i))) 0 k 0 (f.map λz=>Value.int i z) d (by simp[T.cells]) (λj v b=> ?_) (λj v c b o=> ?_);exact q;unfold World.cell?;show(match W.heap[k]? with|some (.cells c _ _)=>if(none:Option _).isSome then none else c[0+j]? |_ =>none)=some v;rw[p];simpa using b;simp only[T.cells,bA]at b o;cases hz:f[j]? with
 |none=>rw[hz]at b;simp at b|some z=>rw[hz]at b o;simp at b o;subst b;subst o;exact .int i z
 cases h
theorem lg{g b:G}(h:fx g b)(a:MemPlace->Prop):g.w.keptBut b.w a:=by
 refine⟨h.os,h.output,λi d=> ?_⟩;rw[h.block i d];cases ho:g.w.heap[i]? with
 |none=>simp|some o=>cases o<;>simp
theorem jt{P:gD}{gl:gG}{f:gX}{i:gC}{r:T}(h:fj P gl f i r){W:iG}(d:gn gl (G.start W)){b:gV}(p:fv (G.start W) b i):
  Calls P f b.toArray W λe y=>∃v a,e= .returned v/\a.w=y/\fx (G.start W) a/\Rd a v r:=
 (h.2 (G.start W) b (aLt W) ⟨0,λ_ _ q=>q⟩ d p).mono λ_ _ ⟨v,a,x,u,o,_,s⟩=>⟨v,a,x,u,o,s⟩
def bt:Nat->Nat->List Bool
 |0,_ =>[]|n+1,k=>(k%2==1)::bt n (k/2)
theorem UO{Z:Type}{a:Bool}{A B:Option Z}{x y:Z}{k l:Bool}(d:k=true->A=some x)(b:l=true->B=some y)(h:(if a=true then k else l)=true):(if a=true then A else B)=some (if a=true then x else y):=by
 cases a;exact b h;exact d h
theorem ET{Z:Type}{k:Bool}{x:Z}(h:k=true):(if k=true then some x else none)=some x:=aJ h
theorem UQ{Z:Type}{a:Bool}{A B:Option Z}{Q:Z->Prop}(d:∀o,A=some o->Q o)(b:∀o,B=some o->Q o)(o:Z)(h:(if a=true then A else B)=some o):Q o:=by
 cases a;exact b o h;exact d o h
theorem EV{Z:Type}{k:Bool}{x:Z}{Q:Z->Prop}(a:k=true->Q x)(o:Z)(h:(if k=true then some x else none)=some o):Q o:=by
 cases hk:k;rw[hk]at h;simp at h;rw[hk]at h;simp at h;subst h;exact a hk
structure xD(S:Type)where
 lp:S->Nat
 keep:Nat->List Nat
 par:Nat->List Nat
 vs:S->List T
 hp:S->Hp
 len:Nat
 step:S->Option (S⊕T)
def xD.run{S:Type}(M:xD S):Nat->S->Option T
 |0,_ =>none
 |n+1,s=>match M.step s with
  |some (.inl a)=>M.run n a|some (.inr r)=>some r|none=>none
def xD.fin{S:Type}(M:xD S)(n:Nat):S⊕T->Option T
 | .inl s=>M.run n s| .inr r=>some r
@[simp]theorem xD.fin_inr{S:Type}(M:xD S)(n:Nat)(r:T):M.fin n (.inr r)=some r:=rfl
@[simp]theorem xD.bu{S:Type}(M:xD S)(n:Nat)(s:S):M.fin n (.inl s)=M.run n s:=rfl
theorem xD.co{S:Type}(M:xD S)(n:Nat)(s:S):M.run (n+1) s=(M.step s).bind (M.fin n):=by
 simp only[xD.run];cases M.step s with
 |none=>rfl|some o=>cases o<;>rfl
def xD.At{S:Type}(M:xD S)(s:S)(f:gC)(H:Hp):Prop:=(M.keep (M.lp s)).map (rW f)=M.vs s/\f.length=M.len/\H=M.hp s
def xD.bp{S:Type}(M:xD S)(P:gD)(D:Ed)(F:Fc)(f:Func)(k:Nat)(b:gU)(c:Code)(e:kC)(d:gC)(H:Hp):S⊕T->Prop
 | .inr r=>∃N ds a h i v len,tG P f k h (qR P D F N (.code c) e 0 d H ds [])=some (.done (some r),a,i,v,len)/\oU a=true
 | .inl s=>(∃N ds a j,tG P f k (M.keep (M.lp s)) (qR P D F N (.code c) e 0 d H ds [])=some (.again j,a,M.hp s,M.vs s,M.len)/\oU a=true/\b[j]? =some (M.lp s))\/
  (∃N ds a j,tG P f k (M.keep (M.lp s)) (qR P D F N (.code c) e 0 d H ds [])=some (.loop j (rY f (M.lp s)).1 (rY f (M.lp s)).2,a,M.hp s,M.vs s,M.len)/\oU a=true/\b.drop j=M.par (M.lp s))
def xD.dr{S:Type}(M:xD S)(P:gD)(D:Ed)(F:Fc)(f:Func)(k:Nat):Prop:=
 ∀s o a,M.step s=some o->M.bp P D F f k (M.lp s::M.par (M.lp s)) (rY f (M.lp s)).1 (.lp::(rY f (M.lp s)).2) (mP (M.keep (M.lp s)) (M.vs s) a M.len) (M.hp s) o
abbrev PJ(r:T)(g:gL):Option (Fi×List Bool×Hp×List T×Nat):=some (.done (some r),g,⟨0,.nl⟩,[],0)
noncomputable def xD.rk{S:Type}(M:xD S)(P:gD)(D:Ed)(F:Fc)(f:Func)(s:S)(a:gC)(ds:gL):RD Rt:=
 qR P D F 2000 (.code (rY f (M.lp s)).1) (.lp::(rY f (M.lp s)).2) 0 (mP (M.keep (M.lp s)) (M.vs s) a M.len) (M.hp s) ds []
def xD.wa{S:Type}(M:xD S)(P:gD)(f:Func)(r:RD Rt)(j:Nat)(g:gL)(s:S):Prop:=tG P f 20 (M.keep (M.lp s)) r=some (.again j,g,M.hp s,M.vs s,M.len)
def xD.wl{S:Type}(M:xD S)(P:gD)(f:Func)(r:RD Rt)(j:Nat)(g:gL)(s:S):Prop:=tG P f 20 (M.keep (M.lp s)) r=some (.loop j (rY f (M.lp s)).1 (rY f (M.lp s)).2,g,M.hp s,M.vs s,M.len)
theorem Yr{Z:Type}{K:Bool}{V o:Z}(h:(if K=true then some V else none)=some o):K=true/\V=o:=by
 cases hk:K;rw[hk]at h;simp at h;rw[hk]at h;simp at h;exact⟨rfl,h⟩
theorem GT{Z:Type}{a k l:Bool}{x y:Z}{Q:Z->Prop}(e:k=true->∀o,x=o->Q o)(d:l=true->∀o,y=o->Q o)(b:(if a=true then k else l)=true)(o:Z)(h:(if a=true then x else y)=o):Q o:=by
 cases a;exact d b o h;exact e b o h
section
variable{S:Type}{M:xD S}{P:gD}{D:Ed}{F:Fc}{fn:Func}{cur:gU}{c:Code}{ks:kC}{fr:gC}{H:Hp}{N j:Nat}{ds g:gL}
theorem kA{s:S}(w:M.wa P fn (qR P D F N (.code c) ks 0 fr H ds []) j g s)(a:cur[j]? =some (M.lp s))(b:oU g=true)(o:S⊕T)(h: .inl s=o):M.bp P D F fn 20 cur c ks fr H o:=h▸ .inl ⟨N,ds,g,j,w,b,a⟩
theorem kL{s:S}(w:M.wl P fn (qR P D F N (.code c) ks 0 fr H ds []) j g s)(a:cur.drop j=M.par (M.lp s))(b:oU g=true)(o:S⊕T)(h: .inl s=o):M.bp P D F fn 20 cur c ks fr H o:=h▸ .inr ⟨N,ds,g,j,w,b,a⟩
theorem kD{r:T}{a:gU}(w:tG P fn 20 a (qR P D F N (.code c) ks 0 fr H ds [])=PJ r g)(b:oU g=true)(o:S⊕T)(h: .inr r=o):M.bp P D F fn 20 cur c ks fr H o:=h▸⟨N,ds,g,a,_,_,_,w,b⟩
theorem aZq{a:S->Nat}(n:Nat)(b:((List.range n).all λj=>codeOk (rY fn j).1&&FU (.lp::(rY fn j).2))=true)(h:∀J,a J<n)(J:S):codeOk (rY fn (a J)).1=true/\FU (.lp::(rY fn (a J)).2)=true:=by
 have:=aP.1 b _ (eT.2 (h J))
 rwa [aA]at this
end
def xD.dx{S:Type}(M:xD S)(P:gD)(D:Ed)(F:Fc)(f:Func)(k:Nat)(b:gU)(c:Code)(q:kC)(i:gC)(H:Hp)(o:S⊕T):Prop:=
 M.bp P D F f k b c q i H o\/∃s,o= .inl s/\∃N ds e j h a p d u t0 t,tG P f k (M.keep (M.lp s)) (qR P D F N (.code c) q 0 i H ds [])=some (.loop j (rY f (M.lp s)).1 (rY f (M.lp s)).2,e,h,a,M.len)/\oU e=true/\b.drop j=M.par (M.lp s)/\
  pM u h (a.getD p oS)=some t0/\(∀g v,Rd g v t0->Rd g v t)/\(M.keep (M.lp s))[p]? =some d/\d<M.len/\(M.keep (M.lp s)).Nodup/\M.vs s=a.set p t/\M.hp s=⟨h.next,.nl⟩
def xD.du{S:Type}(M:xD S)(P:gD)(D:Ed)(F:Fc)(f:Func)(k:Nat):Prop:=
 ∀s o a,M.step s=some o->M.dx P D F f k (M.lp s::M.par (M.lp s)) (rY f (M.lp s)).1 (.lp::(rY f (M.lp s)).2) (mP (M.keep (M.lp s)) (M.vs s) a M.len) (M.hp s) o
theorem Rd.grow{g g':G}(hw:g'.w=g.w)(hS:∀b,g.S b->g'.S b)(U:g'.al=g.al)(Y:g'.loc=g.loc)(L:g'.cp=g.cp){v:gZ}{t:T}(hr:Rd g v t):Rd g' v t:=by
 have hc:∀(a:Addr) (v:gZ),g.w.cell? a=some v->g'.w.cell? a=some v:=λa v h=>by rw[hw];exact h
 induction hr with
 |int k n=>exact .int k n|bool b=>exact .bool b|str s=>exact .str s|fS=>exact .fS|ptr l I h=>rw[<-Y];exact .ptr l I (U▸h)|ref x I b o y e u K _ z=>exact .ref x I b o y (hS b e) u (λj v hv=>hc _ _ (K j v hv)) z|fp=>exact .fp|ai d f p=>exact .ai d f p|sl d xs W b o B y e Z R J O u K _ z=>exact .sl d xs W b o B y (λhx=>hS b (e hx)) Z R J O u (λj v hv=>hc _ _ (K j v hv)) z|ac d n f W b o B y e R J O h5 h6 h7 h8=>exact Rd.ay hS (λ_ _ _ _ q=>hc _ _ q) e R J O h5 h6 h7 h8|ge l W i len b o B h e R J O=>exact .ge l W i len b o B (U▸h) e (L▸R) (λq=>Y▸J q) (λq=>L▸O q)|gg=>exact .gg|fn f a c y us e _ J _ ih1 ih2=>exact .fn f a c y us e ih1 J ih2|gb=>exact .gb|iface t v x _ z=>exact .iface t v x z|fw=>exact .fw|mp l h=>rw[<-Y];exact .mp l (U▸h)|yl l h=>rw[<-Y];exact .yl l (U▸h)|agg cs y e _ z=>exact .agg cs y e z|fm cs y e _ z=>exact .fm cs y e z
theorem qK.freeze{E:uW}{I g:G}{B H:Hp}{a:Act}{w:gC}(K:wO E.gl)(p:qK E I B g a w H){d k:Nat}{t0 t:T}(y:d<w.length)(h:pM k H (rW w d)=some t0)(x:∀g v,Rd g v t0->Rd g v t):qK E I B (g.aM H g) a (w.set d t) ⟨H.next,.nl⟩:=by
 refine⟨λb s=> ?_,St.nl _ _ p.st.new,gn.aM K p.st p.gl,p.df,⟨by simp[p.fr.1],λj v c z i=> ?_⟩,?_⟩;rcases s with s|⟨l,o,u,rfl⟩;exact p.ok b s;exact p.st.lt (pD u).1;rw[dM]at i;by_cases e:d=j;subst e;rw[aJ rfl,aJ y]at i;cases i;rw[uG,bC,aB y]at h;exact x _ _ <|LR p.st k _ _ _ h (p.fr.2 d v _ z (aB y));rw[aH e]at i;exact Rd.grow (g:=g) (g':=g.aM H g) rfl (λ_ q=>Or.inl q) rfl rfl rfl (p.fr.2 j v c z i);have f:=p.step;refine⟨f.os,f.tape,f.output,f.size,f.block,λb s=> .inl (f.sub b s),λb s=> ?_,f.al,f.loc,f.cp,λl o u=>(by rw[vX]at u;cases u)⟩;rcases s with s|⟨l,o,u,rfl⟩
 exact f.fresh b s;rcases f.live l o (pD u).1 with⟨R,J,O,L⟩|q
 exact .inr (.inr ⟨R,J,O,L⟩);exact .inr (.inl q)
theorem Ni{P:gD}{E:uW}{c:Code}{f:gC}{H:Hp}{Q:gT}(q:wO E.gl){d k:Nat}{t0 t:T}(s:d<f.length)(h:pM k H (rW f d)=some t0)(b:∀g v,Rd g v t0->Rd g v t)(e:Good P E c (f.set d t) ⟨H.next,.nl⟩ Q):Good P E c f H Q:=
 λo g p a u R i=>e o (g.aM H g) p a (u.freeze q s h b) R i
theorem aIt{keep:gU}{f v:gC}{p d:Nat}{t:T}(x:keep.map (rW f)=v)(i:keep[p]? =some d)(w:d<f.length)(y:keep.Nodup):rW f d=v.getD p oS/\keep.map (rW (f.set d t))=v.set p t:=by
 have s:p<keep.length:=(aQ.1 i).1;subst x;refine⟨by rw[bC,bA,i];rfl,?_⟩;apply fL;intro q;rw[bA,dM];by_cases e:p=q;subst e;rw[i,aJ rfl,aJ (by simpa using s)];simp only[cK,uG];rw[bC,List.getElem?_set_self w];rfl;rw[aH e,bA];cases hq:keep[q]? with
 |none=>rfl
 |some z=>
  simp only[cK,uG];have o:d≠z:=by
   intro B;subst B;have u:=(aQ.1 i).2;obtain⟨h,a⟩:=aQ.1 hq;have b:=List.pairwise_iff_getElem.1 y;rcases Nat.lt_or_gt_of_ne e with q1|q1
   exact b p q s h q1 (u.trans a.symm);exact b q p h s q1 (a.trans u.symm)
  rw[bC,bC,dE o]
def xD.Inv{S:Type}(M:xD S)(r:T)(n j:Nat)(f:gC)(H:Hp):Prop:=∃m s,m<n/\M.lp s=j/\M.run m s=some r/\M.At s f H
def j8:List (List T->Hp->Prop)->List (List T->Hp->Prop)->Prop
 |[],_ =>True|_ ::_,[]=>False|A::a,B::b=>(∀f H,A f H->B f H)/\j8 a b
section
variable{P:gD}{D:Ed}{F:Fc}{fn:Func}{k:Nat}{S:Type}{M:xD S}
theorem rI{E:uW}{Q:gT}:∀(a:kC) (o b:iY),j8 o b->∀x f H,sS P E Q a o x f H->sS P E Q a b x f H
 |[],_,_,_,x,f,H,h=>h
 | .seq d::a,o,b,i,x,f,H,h=>by
  simp only[sS]at h⊢;cases x with
  |normal=>exact Good.mono h (rI a o b i)|exit id=>exact rI a o b i _ f H h|ret=>exact rI a o b i _ f H h
 | .blk id::a,o,b,i,x,f,H,h=>by
  simp only[sS]at h⊢;cases x with
  |normal=>exact rI a o b i _ f H h
  |exit p=>
   simp only[xJ]at h⊢;split;rename_i e;rw[aJ e]at h;exact rI a o b i _ f H h;rename_i e;rw[aH e]at h;exact rI a o b i _ f H h
  |ret=>exact rI a o b i _ f H h
 | .lp::a,[],b,i,x,f,H,h=>by
  simp only[sS]at h;cases b with
  |nil=>
   simp only[sS];cases x with
   |normal=>exact h.elim|exit id=>exact rI a [] [] i _ f H h|ret=>exact rI a [] [] i _ f H h
  |cons B b=>
   simp only[sS];cases x with
   |normal=>exact h.elim|exit id=>exact rI a [] b trivial _ f H h|ret=>exact rI a [] b trivial _ f H h
 | .lp::a,A::o,[],i,x,f,H,h=>i.elim
 | .lp::a,A::o,B::b,i,x,f,H,h=>by
  simp only[sS]at h⊢;cases x with
  |normal=>exact i.1 f H h|exit id=>exact rI a o b i.2 _ f H h|ret=>exact rI a o b i.2 _ f H h
theorem Hn{Z:Type}(f g:Z->List T->Hp->Prop):∀(l:List Z),(∀a∈l,∀d H,f a d H->g a d H)->j8 (l.map f) (l.map g)
 |[],_ =>trivial|a::l,h=>⟨h a (by simp),Hn f g l λb e=>h b (by simp[e])⟩
theorem j8.drop:∀(j:Nat) (a b:iY),j8 a b->j8 (a.drop j) (b.drop j)
 |0,a,b,h=>h|j+1,[],b,_ =>by simp[j8]|j+1,A::a,[],h=>h.elim|j+1,A::a,B::b,h=>j8.drop j a b h.2
theorem Ug(x:Cx P D F)(hz:wO D.gl)(hw:M.du P D F fn k)(hc:∀s,codeOk (rY fn (M.lp s)).1=true/\FU (.lp::(rY fn (M.lp s)).2)=true)(r:T):∀(n:Nat) (s:S) (e:gC) (H:Hp),M.run n s=some r->M.At s e H->
  Good P D.env (.loop (rY fn (M.lp s)).1) e H (sS P D.env (Rr P fn k r) (rY fn (M.lp s)).2 ((M.par (M.lp s)).map (M.Inv r n))):=by
 intro n
 induction n using Nat.strongRecOn with
 |ind n ih=>
  intro s e H hr hat;refine aBu (λm e H=>∃a,M.lp a=M.lp s/\m<=n/\M.run m a=some r/\M.At a e H) (λm e H ⟨W,e1,hm,h,O⟩=> ?_) n e H ⟨s,rfl,bB _,hr,hat⟩;cases m with
  |zero=>simp[xD.run]at h
  |succ m=>
   simp only[xD.run]at h;cases hst:M.step W with
   |none=>rw[hst]at h;cases h
   |some o=>
    rw[hst]at h;have R:=hw W o e hst;obtain⟨q1,q2,q3⟩:=O;rw[aYi q1 q2,<-q3,e1]at R;obtain⟨K,L⟩:=hc W;rw[e1]at K L;show Good P D.env (rY fn (M.lp s)).1 e H (sS P D.env (Rr P fn k r) (.lp::(rY fn (M.lp s)).2) ((λf y=>∃b<m+1,∃a,M.lp a=M.lp s/\b<=n/\M.run b a=some r/\M.At a f y)::(M.par (M.lp s)).map (M.Inv r n)));have Y:∀b,b=m->j8 ((M.lp s::M.par (M.lp s)).map (M.Inv r m)) ((λf y=>∃b<m+1,∃a,M.lp a=M.lp s/\b<=n/\M.run b a=some r/\M.At a f y)::(M.par (M.lp s)).map (M.Inv r n)):=λ_ _ =>
     ⟨λe H ⟨b,a,Z,B,J,z⟩=>⟨b,by omega,a,B,by omega,J,z⟩,Hn _ _ _ λi _ e H ⟨b,a,Z,B,J,z⟩=>⟨b,a,by omega,B,J,z⟩⟩
    rcases R with R|⟨q,rfl,N,ds,I,j,y,vs',p,d,k',t0,t,w,v,u,f1,U,f2,f3,f4,f5,f6⟩
    rotate_left
    simp only at h;refine x.loop K L w v (λf k1 k2=> ?_);obtain⟨z1,z2⟩:=aIt (t:=t) k1 f2 (by omega) f4;refine Ni (d:=d) (k:=k') (t:=t) hz (by omega) (by rw[z1];exact f1) U ?_;have:=ih m (by omega) q (f.set d t) (M.hp q) h ⟨by rw[z2,f5],by simpa using k2,rfl⟩;rw[f6]at this;refine this.mono (rI _ _ _ ?_);rw[<-u];have:=j8.drop j _ _ (Y m rfl)
    rwa [<-List.map_drop]at this
    cases o with
    |inr r'=>
     simp only[aI]at h;subst h;obtain⟨N,ds,I,kp,y,vs,len,w,v⟩:=R;exact x.done K L w rfl v
    |inl q=>
     simp only at h;rcases R with⟨N,ds,I,j,w,v,u⟩|⟨N,ds,I,j,w,v,u⟩
     cases j with
     |zero=>
      simp only[cJ,aI]at u;exact x.again K L w v rfl (λf k1 k2=>⟨m,by omega,q,u.symm,by omega,h,k1,k2,rfl⟩)
     |succ j=>
      simp only[dL]at u;refine x.again K L w v (A:=M.Inv r n (M.lp q)) ?_ (λf k1 k2=>⟨m,q,by omega,rfl,h,k1,k2,rfl⟩);simp only[dL,bA,u,cK]
     refine x.loop K L w v (λf k1 k2=> ?_);have:=ih m (by omega) q f (M.hp q) h ⟨k1,k2,rfl⟩;refine this.mono (rI _ _ _ ?_);rw[<-u];have Y:j8 ((M.lp s::M.par (M.lp s)).map (M.Inv r m)) ((λf y=>∃b<m+1,∃a,M.lp a=M.lp s/\b<=n/\M.run b a=some r/\M.At a f y)::(M.par (M.lp s)).map (M.Inv r n)):=
      ⟨λe H ⟨b,a,Z,B,J,z⟩=>⟨b,by omega,a,B,by omega,J,z⟩,Hn _ _ _ λi _ e H ⟨b,a,Z,B,J,z⟩=>⟨b,a,by omega,B,J,z⟩⟩
     have:=j8.drop j _ _ Y
     rwa [<-List.map_drop]at this
theorem Ut{c:Code}{f:gX}{d:Nat}(x:Cx P D F)(z:wO D.gl)(h:uQ P f=true)(y:P.funcs[f]? =some fn)(I:fn.body=some c)(w:pO fn=c)(b:codeOk c=true){a:gC}(p:qJ (pM d ⟨0,.nl⟩) a=some a){L:Nat}(K:fn.ntmps-a.length=L)
  (J:M.du P D F fn k) (O:∀s,codeOk (rY fn (M.lp s)).1=true/\FU (.lp::(rY fn (M.lp s)).2)=true) {o:S⊕T}
  (B:M.bp P D F fn k [] (pO fn) [] (a++List.replicate L oS) ⟨0,.nl⟩ o) {n:Nat} {r:T} (u:M.fin n o=some r):fj P D.gl f a r:=by
 subst w;subst K;refine Ur (E:=D.env) (k:=k) (d:=d) (fn:=fn) (c:=pO fn) z h y I p ?_;show Good P D.env (pO fn) (a++List.replicate (fn.ntmps-a.length) oS) ⟨0,.nl⟩ (sS P D.env (Rr P fn k r) [] []);cases o with
 |inr Y=>
  simp only[xD.fin,aI]at u;subst u;obtain⟨N,ds,e,W,R,U,len,h,i⟩:=B;exact x.done b rfl h rfl i
 |inl s=>
  rcases B with⟨N,ds,e,j,h,i,v⟩|⟨N,ds,e,j,h,i,v⟩
  simp at v;refine x.loop b rfl h i (λq k1 k2=> ?_);have:=Ug x z J O r n s q (M.hp s) u ⟨k1,k2,rfl⟩;rw[<-v]at this;simpa using this
theorem gi{c:Code}{f:gX}{d:Nat}(x:Cx P D F)(B:wO D.gl)(u:uQ P f=true)(p:P.funcs[f]? =some fn)(v:fn.body=some c)(i:pO fn=c)(e:codeOk c=true){a:gC}(b:qJ (pM d ⟨0,.nl⟩) a=some a){L:Nat}(z:fn.ntmps-a.length=L)
  (w:M.dr P D F fn k) (I:∀s,codeOk (rY fn (M.lp s)).1=true/\FU (.lp::(rY fn (M.lp s)).2)=true) {o:S⊕T}
  (y:M.bp P D F fn k [] (pO fn) [] (a++List.replicate L oS) ⟨0,.nl⟩ o) {n:Nat} {r:T} (J:M.fin n o=some r):fj P D.gl f a r:=
 Ut x B u p v i e b z (λs o q h=> .inl (w s o q h)) I y J
def yJ:xD Empty:={lp:=λ_ =>0,keep:=λ_ =>[],par:=λ_ =>[],vs:=λ_ =>[],hp:=λ_ =>⟨0,.nl⟩,len:=0,step:=λ_ =>none}
theorem sE:yJ.dr P D F fn k:=λs=>s.elim
end
noncomputable section
inductive pR where
 |le (x y:Nat) (c:Int)
 |ne (x y:Nat) (c:Int)
 |ev (x y:Nat) (c:Int)
 |sm (x y z:Nat) (c:Int)
inductive Bo where
 |lit (b:Bool)
 |imp (p n:List pR)
inductive A where
 |top
 |any
 |int (k:iC) (s:Nat) (c:Int)
 |ft (k:iC) (lo hi:Int)
 |bool (b:Bo)
 |gh (s:gH)
 |str (s:Nat) (c:Int)
 |fy (lo hi:Int)
 |fS
 |fp
 |gg
 |gb
 |fw
 |mp (l:Nat)
 |yl (l:Nat)
 |ptr (l off:Nat)
 |iv (l sz s:Nat) (c:Int) (off:Nat)
 |ref (x:A) (off:Nat)
 |sl (e:A) (s:Nat) (c:Int)
 |gp (e:A) (lo hi:Int)
 |ie (es:List A)
 |g7 (q:Nat) (e:A) (s:Nat) (c:Int)
 |gr (q:Nat) (e:A) (lo hi:Int)
 |sx (s:Nat) (c:Int)
 |ig (lo hi:Int)
 |ge (l sz si:Nat) (ci:Int) (s:Nat) (c:Int)
 |fn (f:gX) (first cap:List A)
 |iface (t:gB) (x:A)
 |i7
 |or (a_s:List A)
 |agg (cs:List A)
 |ia (q:Nat) (cs:List A)
 |fm (xs:List A)
instance:Inhabited A:=⟨.top⟩
inductive TA where
 |a (a:A)
 |row (elem:gB) (sz:Nat) (e:A) (lo hi:Int)
inductive ZT where
 |slot (d:Tmp)
 |cell (d j:Nat)
 |ghost
 |zero
 |sym (s:Nat)
inductive aFm where
 |down (p:ZT) (c:Int:=0)
 |up (p q:ZT) (c:Int)
structure LA where
 sp:List (Tmp×TA):=[]
 oc:List (Tmp×Nat×TA):=[]
 cons:List (ZT×ZT×Int):=[]
 ms:aFm
 m0:Int:=4000000000000000000
 gk:Nat:=1
inductive An where
 |leaf
 |node (l r:An)
 |loop (la:LA) (b:An)
 |da (bs:List An)
def An.l:An->An
 | .node l _ =>l|_ => .leaf
def An.r:An->An
 | .node _ r=>r|_ => .leaf
inductive MK where
 |i (n:Int)
 |s (b:gH)
abbrev jL:=Option (Option Nat)
inductive AO where
 |fix (elem:gB) (cells:List A)
 |row (elem:gB) (sz:Nat) (e:A) (s:Nat) (c:Int)
 |ax (elem:gB) (sz:Nat) (e:A) (s:Nat) (c:Int)
 |map (es:List (MK×A))
 |loop (st:LoopState) (pe:jL) (fr:List A) (ps:Array Tmp) (iF bd:Code) (ow:hJ) (aa ab:An)
structure AS where
 fr:List A
 hp:List (Nat×AO)
 nx:Nat
 nl:Nat
 cs:List pR
def A.flat:A->Bool
 | .top| .agg _ | .fm _ | .or _ | .ia .. =>false|_ =>true
def Cw:A:= .ft .i64 (-9223372036854775808) 9223372036854775807
def aPt:A:= .agg [Cw,Cw,.fy 0 1000000000000,.gr 32 .top 0 1000000000000,.gr 31 .top 0 1000000000000]
def bBf:A:= .agg [Cw,Cw,Cw,.fy 0 1000000,.fp,.fp]
def A.cq:A->A
 | .g7 q e s c=> .sl (if Nat.beq q 31 then aPt else if Nat.beq q 32 then bBf else e) s c
 |a=>a
def NA:List A->Bool
 |[]=>true|a::b=>a.flat&&NA b
def A.one:A->Bool
 | .or b=>NA b|a=>a.flat
def A.known:A->Bool
 | .agg _ | .fm _ | .ia .. =>true|a=>a.one
def A.cells:A->List A
 | .agg b=>b| .ia _ b=>b|a=>[a]
def A.isAgg:A->Bool
 | .agg _ | .ia .. =>true|_ =>false
def uB:List A->Bool
 |[]=>true|a::b=>a.one&&uB b
def sQ(a b:Int):Bool:=decide (a<=b)
def aHz(e:List pR):Nat->Nat->Nat->Int->Bool
 |0,x,y,c=>Nat.beq x y&&sQ 0 c
 | n+1,x,y,c=>if Nat.beq x y then sQ 0 c else if Nat.beq x 0 then e.any λq=>match q with
   | .le a b d=>Nat.beq a 0&&(Nat.beq b y&&sQ d c)|_ =>false
  else e.any λq=>match q with
   | .le a b d=>Nat.beq a x&&aHz e n b y (c-d)|_ =>false
def aGf(e:List pR):Nat->Nat->Int->Bool
 |0,y,c=>Nat.beq 0 y&&sQ 0 c
 |n+1,y,c=>if Nat.beq 0 y then sQ 0 c else e.any λq=>match q with
  | .le a b d=>Nat.beq b y&&aGf e n a (c-d)|_ =>false
def Ks(a:List pR)(n x y:Nat)(c:Int):Bool:=if Nat.beq x 0 then aGf a n y c else aHz a n x y c
def pf:Nat:=3
def leq(d:List pR)(x:Nat)(a:Int)(y:Nat)(b:Int):Bool:=Ks d pf x y (b-a)
def lW(a:List pR)(k:iC)(s:Nat)(c:Int):Bool:=leq a 0 k.min s c&&leq a s c 0 k.max
def Uk(a:List pR):List pR->Nat->Option Int
 |[],s=>if Nat.beq s 0 then some 0 else none
 | .ev x y c::r,s=>if Nat.beq x s&&(Ks a pf y 0 0&&Ks a pf 0 y 0)then some c else Uk a r s
 |_ ::r,s=>Uk a r s
def Ul(a:List pR):List pR->Nat->Option Int
 |[],s=>Uk a a s
 | .le x y c::r,s=>if Nat.beq x s&&Ks a pf y s (-c)then(match Uk a a y with
  |some p=>some (p+c)|none=>Ul a r s)else Ul a r s
 |_ ::r,s=>Ul a r s
def aVe:List pR->Bool
 |[]=>false| .ev .. ::_ =>true|_ ::r=>aVe r
def aMf(a:List pR)(x y:Nat)(c:Int):Int:=
 if aVe a then(match Ul a a x,Ul a a y with
  |some p,some q=>if(q+c-p)%2==0 then c else c-1
  |_,_ =>c)else c
def aBi(y:Nat)(c:Int):List pR->List pR->List pR
 |[],r=>r| .sm m a b e::q,r=>if Nat.beq m y then .le a b (e+c)::aBi y c q r else aBi y c q r
 |_ ::q,r=>aBi y c q r
def aFr(a:List pR)(x y:Nat)(c:Int):List pR:=if Nat.beq x 0 then aBi y c a (.le x y c::a)else .le x y c::a
def yO:List pR->List pR->Option (List pR)
 |cs,[]=>some cs|cs,.ev x y c::r=>yO (.ev x y c::cs) r|cs,.sm x y z c::r=>yO (.sm x y z c::cs) r|cs,.le x y c::r=>if Ks cs pf y x (-c-1)then none else yO (aFr cs x y (aMf cs x y c)) r
 | cs,.ne x y c::r=>if Ks cs pf x y c then(if Ks cs pf y x (-c)then none else yO (.le x y (c-1)::cs) r)
   else if Ks cs pf y x (-c)then yO (.le y x (-c-1)::cs) r else yO cs r
def Bo.not:Bo->Bo
 | .lit b=> .lit (!b)| .imp p n=> .imp n p
def Sf(a:List pR)(x y:Nat)(c:Int):Bo:=
 if Ks a pf x y c then .lit true else if Ks a pf y x (-c-1)then .lit false else .imp [.le x y c] [.le y x (-c-1)]
def aBa(a:List pR)(x y:Nat)(c:Int):Bo:=
 if Ks a pf x y c&&Ks a pf y x (-c)then .lit true
 else if Ks a pf x y (c-1)||Ks a pf y x (-c-1)then .lit false
 else .imp [.le x y c,.le y x (-c)] [.ne x y c]
def tA:Bo:= .imp [] []
def AZ(a:List pR):Bo->List (Bool×List pR)
 | .lit b=>[(b,a)]
 | .imp p n=>(match yO a p with
   |some c=>[(true,c)]|none=>[])++(match yO a n with
   |some c=>[(false,c)]|none=>[])
def oV:List (Nat×AO)->Nat->Option AO
 |[],_ =>none|(m,o)::r,l=>if Nat.beq m l then some o else oV r l
def zZ:List (Nat×AO)->Nat->AO->List (Nat×AO)
 |[],_,_ =>[]|(m,o)::r,l,a=>if Nat.beq m l then(m,a)::zZ r l a else(m,o)::zZ r l a
def vB:List (Nat×AO)->Nat->List (Nat×AO)
 |[],_ =>[]|(m,o)::r,l=>if Nat.beq m l then vB r l else(m,o)::vB r l
def zI(f:List A):Tmp->A:=List.rec (motive:=λ_ =>Nat->A) (λ_ => .fm []) (λx _ i n=>Nat.rec (motive:=λ_ =>A) x (λm _ =>i m) n) f
def hT(v:A)(f:List A):Nat->List A:=List.rec (motive:=λ_ =>Nat->List A) (λ_ =>[]) (λx a i n=>Nat.rec (motive:=λ_ =>List A) (v::a) (λm _ =>x::i m) n) f
def JW:Value->Option A
 | .int k n=>if sQ k.min n&&sQ n k.max then some (.int k 0 n)else none
 | .bool b=>some (.bool (.lit b))| .string s=>some (.gh s.data.toList)| .pointer none=>some .fS| .slice none 0 0=>some .fp| .nilFunc=>some .gg| .nilIface=>some .gb| .map none=>some .fw|_ =>none
def IU:List Value->Option (List A)
 |[]=>some []
 |v::b=>match JW v with
  |some t=>match IU b with
   |some a=>some (t::a)|none=>none
  |none=>none
def IV:Value->Option A
 | .agg a=>match IU a.toList with
  |some b=>some (.agg b)|none=>none
 | .tuple d=>match d.toList with
  |[]=>some (.fm [])|_ =>none
 |v=>JW v
def EW(P:gD)(t:gB):Option A:=
 match P.info? t with
 |some i=>match i.zero with
  |some v=>IV v|none=>none
 |none=>none
def LK(gl:Nat->Option A)(a:List A):Operand->Option A
 | .tmp t=>some (zI a t)| .const v=>IV v| .global g=>gl g| .func f=>some (.fn f [] [])
def EC(gl:Nat->Option A)(f:List A):List Operand->Option (List A)
 |[]=>some []
 |x::b=>match LK gl f x with
  |some t=>match EC gl f b with
   |some a=>some (t::a)|none=>none
  |none=>none
def Ig:A->Nat->List pR->A×Nat×List pR
 | .ft k d h,n,b=>if sQ h d then(.int k 0 d,n,b)else(.int k n 0,n+1,.le 0 n (-d):: .le n 0 h::b)
 | .fy d h,n,b=>(.str n 0,n+1,.le 0 n (-d):: .le n 0 h::b)| .gp e d h,n,b=>(.sl e n 0,n+1,.le 0 n (-d):: .le n 0 h::b)| .gr q e d h,n,b=>(.g7 q e n 0,n+1,.le 0 n (-d):: .le n 0 h::b)| .ig d h,n,b=>(.sx n 0,n+1,.le 0 n (-d):: .le n 0 h::b)|a,n,b=>(a,n,b)
def aJk:List A->Nat->List pR->List A×Nat×List pR
 |[],n,e=>([],n,e)
 |a::h,n,e=>match Ig a n e with
  |(b,p,f)=>match aJk h p f with
   |(o,i,d)=>(b::o,i,d)
def Ol:A->Nat->List pR->A×Nat×List pR
 | .agg e,n,b=>match aJk e n b with
  |(f,h,d)=>(.agg f,h,d)
 |a,n,b=>Ig a n b
def Om:List A->Nat->List pR->List A×Nat×List pR
 |[],n,e=>([],n,e)
 |a::h,n,e=>match Ol a n e with
  |(b,p,f)=>match Om h p f with
   |(o,i,d)=>(b::o,i,d)
def oB:A->Nat->List pR->A×Nat×List pR
 | .fm e,n,b=>match Om e n b with
  |(f,h,d)=>(.fm f,h,d)
 |a,n,b=>Ol a n b
structure AV where
 a:A
 nx:Nat
 cs:List pR
def uO(a:A)(n:Nat)(e:List pR):AV:=match oB a n e with|(b,f,d)=>⟨b,f,d⟩
def Oh(n:Nat)(a:List pR)(k:iC)(s:Nat)(c:Int):AV:=
 if lW a k s c then⟨.int k s c,n,a⟩else uO (.ft k k.min k.max) n a
def RS(a:List pR)(s:Nat)(c:Int):Bool:=leq a 0 (-1000000000000000000) s c&&leq a s c 0 1000000000000000000
def NK(b:Bool)(q:pR)(a:List pR):List pR:=if b then q::a else a
def ju(s:Nat):List pR->Option Int
 |[]=>if Nat.beq s 0 then some 0 else none
 | .le x y d::r=>if Nat.beq x s&&Nat.beq y 0 then(match ju s r with
  |some u=>some (if sQ d u then d else u)
  |none=>some d)else ju s r
 |_ ::r=>ju s r
def jv(s:Nat):List pR->Option Int
 |[]=>if Nat.beq s 0 then some 0 else none
 | .le x y d::r=>if Nat.beq y s&&Nat.beq x 0 then(match jv s r with
  |some u=>some (if sQ u (-d)then-d else u)
  |none=>some (-d))else jv s r
 |_ ::r=>jv s r
def lD(a:List pR)(s:Nat):List pR->Option Int
 |[]=>if Nat.beq s 0 then some 0 else none
 | .le x y d::r=>if Nat.beq x s then(match(if Nat.beq y 0 then some 0 else ju y a)with
  |some w=>match lD a s r with
   |some u=>some (if sQ (w+d) u then w+d else u)
   |none=>some (w+d)
  |none=>lD a s r)else lD a s r
 |_ ::r=>lD a s r
def ub(s:Nat)(a:List pR):Option Int:=lD a s a
def aFt:Option Int->Option Int->Int->Option Int
 |some a,some b,c=>some (a+b+c)|_,_,_ =>none
def aTj:Option Int->Option Int->Int->Option Int
 |some a,some b,c=>some (a-b+c)|_,_,_ =>none
def nH(n:Nat)(r:List pR):Option Int->List pR
 |some u=> .le n 0 u::r|none=> .le n 0 2000000000000000000::r
def oC(n:Nat)(r:List pR):Option Int->List pR
 |some l=> .le 0 n (-l)::r|none=> .le 0 n 2000000000000000000::r
def aBq(n s:Nat)(c:Int)(r:List pR):Option Int->List pR
 |some u=>if sQ u 1000000 then .le n s (u+c)::r else r
 |none=>r
def aMb(b:List pR)(n s:Nat)(a:Int)(e:Nat)(d:Int):List pR->List pR->List pR
 |[],r=>r| .sm x y z c::q,r=>if Nat.beq y s&&Ks b pf e x 0 then .le n z (c+a+d)::r else aMb b n s a e d q r
 |_ ::q,r=>aMb b n s a e d q r
def aXc(n:Nat)(a:List pR)(k:iC)(s:Nat)(b:Int)(e:Nat)(d:Int):AV:=
 if Nat.beq e 0 then Oh n a k s (b+d)
 else if Nat.beq s 0 then Oh n a k e (b+d)
 else if k== .i64&&RS a s b&&RS a e d then
  ⟨.int k n 0,n+1,aMb a n s b e d a<|NK (leq a 0 0 s b) (.le e n (if leq a 0 1 s b then-d-1 else-d)) (NK (leq a 0 0 e d) (.le s n (if leq a 0 1 e d then-b-1 else-b)) (oC n (nH n (aBq n s (b+d) (aBq n e (b+d) a (ub s a)) (ub e a)) (aFt (ub s a) (ub e a) (b+d))) (aFt (jv s a) (jv e a) (b+d))))⟩
 else uO (.ft k k.min k.max) n a
def bAv(n:Nat)(a:List pR)(k:iC)(s:Nat)(b:Int)(e:Nat)(d:Int):AV:=
 if Nat.beq e 0 then Oh n a k s (b-d)
 else if Nat.beq s e then Oh n a k 0 (b-d)
 else if k== .i64&&RS a s b&&RS a e d then
  ⟨.int k n 0,n+1,NK (leq a 0 0 e d) (.le n s b) (NK (leq a e d s b) (.le 0 n 0) (oC n (nH n a (aTj (ub s a) (jv e a) (b-d))) (aTj (jv s a) (ub e a) (b-d))))⟩
 else uO (.ft k k.min k.max) n a
def YA:Option T->Option A
 |some (.int k n)=>if sQ k.min n&&sQ n k.max then some (.int k 0 n)else none
 |some (.bool b)=>some (.bool (.lit b))|_ =>none
def aZl(n:Nat)(a:List pR)(k:iC)(s:Nat)(b:Int)(i:Nat)(d:Int):AV:=
 match jv s a,ju s a,jv i a,ju i a with
 |some e,some u,some f,some h=>if sQ 0 (e+b)&&(sQ 0 (f+d)&&sQ ((u+b)*(h+d)) k.max)then uO (.ft k ((e+b)*(f+d)) ((u+b)*(h+d))) n a else uO (.ft k k.min k.max) n a
 |_,_,_,_ =>uO (.ft k k.min k.max) n a
def aZo(n:Nat)(a:List pR)(k:iC)(s:Nat)(c:Int):AV:=
 match jv s a with
 | some l=>if k== .i64&&sQ (-9223372036854775807) (l+c)then uO (.ft .i64 (match ju s a with
   |some u=>-(u+c)|none=>-9223372036854775808) (-(l+c))) n a else uO (.ft k k.min k.max) n a
 |none=>uO (.ft k k.min k.max) n a
def oD(a:List pR)(n s:Nat)(c:Int)(e:Nat)(d:Int)(r:List pR):List pR:=match ju s a,ju e a with
 |some u,some b=> .le n 0 (if sQ (u+c) (b+d)then b+d else u+c)::r
 |_,_ =>r
def aPj(n:Nat)(a:List pR)(o:jU)(k:iC)(s:Nat)(d:Int)(e:Nat)(b:Int):Option AV:=
 match o with
 | .mul=>some (aZl n a k s d e b)| .and| .or| .xor| .andNot=>some (uO (.ft k k.min k.max) n a)
 | .quo=>if Nat.beq e 0&&sQ 1 b&&leq a 0 0 s d then
    some ⟨.int k n 0,n+1,.le 0 n 0:: .le n s d:: .le n 0 (match ju s a with
     |some u=>(u+d)/b|none=>k.max)::a⟩
   else if leq a 0 1 e b||leq a e b 0 (-1)then some (uO (.ft k k.min k.max) n a)else none
 | .rem=>if Nat.beq e 0&&sQ 1 b then
    if leq a 0 0 s d then some ⟨.int k n 0,n+1,NK (b==2) (.ev s n (-d)) (.le 0 n 0:: .le n s d:: .le n 0 (b-1)::a)⟩
    else some ⟨.int k n 0,n+1,.le 0 n (b-1):: .le n 0 (b-1)::a⟩
   else if leq a 0 1 e b||leq a e b 0 (-1)then some (uO (.ft k k.min k.max) n a)else none
 |_ =>none
def aYp(n:Nat)(b:List pR)(op:jU)(k:iC)(s:Nat)(d:Int)(f:Nat)(e:Int):Option AV:=
 match op with
 | .add=>some (aXc n b k s d f e)| .sub=>some (bAv n b k s d f e)| .eql=>some ⟨.bool (aBa b s f (e-d)),n,b⟩| .neq=>some ⟨.bool (aBa b s f (e-d)).not,n,b⟩| .lss=>some ⟨.bool (Sf b s f (e-d-1)),n,b⟩| .leq=>some ⟨.bool (Sf b s f (e-d)),n,b⟩| .gtr=>some ⟨.bool (Sf b f s (d-e-1)),n,b⟩| .geq=>some ⟨.bool (Sf b f s (d-e)),n,b⟩
 |op=>match(if Nat.beq s 0&&Nat.beq f 0 then YA (xP op k d e)else none)with
  |some a=>some ⟨a,n,b⟩|none=>aPj n b op k s d f e
def Jv(n:Nat)(b:List pR)(o:jU)(k:iC)(s:Nat)(d:Int)(f:Nat)(e:Int):Option AV:=
 match(if Nat.beq s 0&&Nat.beq f 0 then YA (zF o k d e)else none)with
 |some a=>some ⟨a,n,b⟩
 | none=>if leq b 0 0 f e then match o with
   | .shl=>some (uO (.ft k k.min k.max) n b)| .shr=>if leq b 0 0 s d then some ⟨.int k n 0,n+1,.le 0 n 0:: .le n s d:: .le n 0 k.max::b⟩else none
   |_ =>none
  else none
def GY:A->Option (Nat×Int)
 | .gh s=>some (0,s.length)| .str s c=>some (s,c)|_ =>none
def HM:A->Bool
 | .gh []=>true|_ =>false
def Wz(e:List pR)(a b:A)(s:Nat)(d:Int)(h:Nat)(f:Int):Bo:=
 match a,b with
 | .gh x,.gh y=> .lit (x==y)
 |a,b=>match aBa e s h (f-d)with
  | .lit false=> .lit false| .lit true=>if HM a||HM b then .lit true else tA
  | .imp p q=>if HM a||HM b then .imp p q else .imp p []
def mh(s:Nat)(a:List pR):Option Int:=match ub s a with
 |some u=>if sQ u 1000000 then some u else if leq a s 0 0 65536 then some 65536 else some u
 |none=>none
def bAt(n:Nat)(d:List pR)(o:jU)(a b:A):Option AV:=
 match GY a,GY b with
 |some (s,e),some (h,f)=>
  match o with
  | .add=>
   match a,b with
   | .gh x,.gh y=>if sQ (x.length+y.length) pK then some ⟨.gh (x++y),n,d⟩else none
   | _,_ =>if leq d 0 0 s e&&leq d 0 0 h f&&leq d s e 0 1000000000000000000&&leq d h f 0 1000000000000000000 then
     if Nat.beq h 0 then some ⟨.str s (e+f),n,d⟩
     else if Nat.beq s 0 then some ⟨.str h (e+f),n,d⟩
     else some ⟨.str n 0,n+1,.le s n (-e):: .le h n (-f):: .le 0 n 0::nH n (aBq n s (e+f) (aBq n h (e+f) d (mh s d)) (mh h d)) (aFt (mh s d) (mh h d) (e+f))⟩
    else none
  | .eql=>some ⟨.bool (Wz d a b s e h f),n,d⟩| .neq=>some ⟨.bool (Wz d a b s e h f).not,n,d⟩| .lss| .leq| .gtr| .geq=>some ⟨.bool tA,n,d⟩|_ =>none
 |_,_ =>none
def jw(P:gD)(t:gB)(x y:A):Option Bo:=
 match P.underlying t,x,y with
 |some .bool,.bool (.lit a),.bool (.lit b)=>some (.lit (a==b))|some .bool,.bool _,.bool _ =>some tA|some (.pointer _),.fS,y=>(lh y).map .lit|some (.pointer _),x,.fS=>(lh x).map .lit|some (.interface _),.gb,.or a_s=>if ifaces a_s then some tA else none
 |some (.interface _),.or a_s,.gb=>if ifaces a_s then some tA else none
 |some (.interface _),.gb,y=>(jx y).map .lit|some (.interface _),x,.gb=>(jx x).map .lit|some (.func ..),.gg,y=>(li y).map .lit|some (.func ..),x,.gg=>(li x).map .lit|_,_,_ =>none
 where
 lh:A->Option Bool
  | .fS=>some true| .ptr .. | .ref .. | .iv .. =>some false|_ =>none
 jx:A->Option Bool
  | .gb=>some true| .iface .. | .i7=>some false|_ =>none
 li:A->Option Bool
  | .gg=>some true| .fn .. =>some false|_ =>none
 ifaces:List A->Bool
  |[]=>true|a::a_s=>(jx a).isSome&&ifaces a_s
def Ik(X Y:jH)(a b:A):Bool:=HL X||HL Y||(match a,b with
 | .int ..,_ | .bool ..,_ | .str ..,_ | .gh ..,_ |_,.int .. |_,.bool .. |_,.str .. |_,.gh .. | .fS,_ |_,.fS| .gg,_ |_,.gg=>true|_,_ =>false)
def aXf(P:gD)(n:Nat)(a:List pR)(op:jU)(t:gB)(x y:A):Option AV:=
 match x,y with
 | .int k f d,.int h s e=>match op with
  | .shl=>Jv n a .shl k f d s e| .shr=>Jv n a .shr k f d s e|op=>if k==h then aYp n a op k f d s e else none
 |x,y=>match(match op with| .eql=>(jw P t x y)| .neq=>(jw P t x y).map Bo.not|_ =>none)with
  |some b=>some ⟨.bool b,n,a⟩|none=>bAt n a op x y
def oF(n:Nat)(a:List pR)(o:UnOp)(x:A):Option AV:=
 match o,x with
 | .neg,.int k s c=>if Nat.beq s 0 then some (Oh n a k 0 (-c))else some (aZo n a k s c)
 | .not,.bool b=>some ⟨.bool b.not,n,a⟩|_,_ =>none
def aGo(P:gD)(n:Nat)(a:List pR)(src d:gB)(x:A):Option AV:=
 match P.underlying src,P.underlying d,x with
 |some _,some (.int k),.int _ s c=>some (Oh n a k s c)|some _,some .string,.str s c=>some ⟨.str s c,n,a⟩|some _,some .string,.gh s=>some ⟨.gh s,n,a⟩
 |some _,some (.slice e),x=>match GY x,P.underlying e with
  |some (s,c),some (.int .u8)=>if leq a s c 0 70368744177664 then some ⟨.sl (.ft .u8 0 255) s c,n,a⟩else none
  |_,_ =>none
 |_,_,_ =>none
def SV(P:gD)(t:gB)(a:List A)(o:Nat):Option A:=
 match KM P t with
 |some true=>match uI P t with
  |some n=>if o+n<=a.length then some (.agg ((a.drop o).take n))else none
  |none=>none
 |some false=>a[o]?|none=>none
def aKc(P:gD)(t:gB)(x:A)(o:Nat):Option A:=
 match x with
 | .ia q a=>if Nat.beq o 0&&(KM P t==some true)&&(uI P t==some a.length)then some (.ia q a)else SV P t a o
 |x=>SV P t x.cells o
abbrev gP:=List (Nat×AO)
def Yw(P:gD)(h:gP)(n:Nat)(b:List pR)(t:gB)(a:A):Option AV:=
 match a with
 | .ref x o=>if x.known then(aKc P t x o).map λy=>uO y n b else none
 | .ptr l o=>match oV h l with
  |some (.fix _ q)=>(SV P t q o).map λy=>uO y n b|_ =>none
 | .iv l f s c o=>match oV h l with
  | some (.row _ d e p i)=>if Nat.beq f d&&e.known&&Nat.beq e.cells.length f&&leq b s (c+1) p i then
    (SV P t e.cells o).map λy=>uO y n b
   else none
  |_ =>none
 |_ =>none
def ND:List UInt8->List UInt8->Bool
 |[],[]=>true|a::d,b::e=>a==b&&ND d e|_,_ =>false
def aOk:MK->MK->Bool
 | .i a,.i b=>a==b| .s a,.s b=>ND a b|_,_ =>false
def WQ(k:MK):List (MK×A)->Option A
 |[]=>none|(j,a)::r=>if aOk j k then some a else WQ k r
def aQx:A->Option MK
 | .int a s c=>if a== .i64&&Nat.beq s 0 then some (.i c)else none
 | .gh b=>some (.s b)|_ =>none
def yV(P:gD)(a:gB):MK->Bool
 | .i _ =>match P.underlying a with
  |some (.int _)=>true|_ =>false
 | .s _ =>match P.underlying a with
  |some .string=>true|_ =>false
def Wu:A->Nat->Option A
 | .ref x o,n=>some (.ref x (o+n))| .ptr l o,n=>some (.ptr l (o+n))| .iv l a s c o,n=>some (.iv l a s c (o+n))|_,_ =>none
def LP(P:gD)(s:gB)(x:A)(f:Nat):Option A:=
 match PT P s f with
 |some a=>match uI P a.type with
  |some n=>if n=0 then none else Wu x a.offset
  |none=>none
 |none=>none
def aDx(s:Nat)(a:Int)(b:Nat)(d:Int):Option (Nat×Int):=
 if Nat.beq b 0 then some (s,a+d)else if Nat.beq s 0 then some (b,a+d)else none
def IG(P:gD)(n:Nat)(f:List pR)(t:gB)(x i:A):Option AV:=
 match i with
 | .int _ s c=>
  match P.underlying t,x with
  |some (.slice e),.sl a p o=>match uI P e with
   | some z=>if a.known&&Nat.beq a.cells.length z&&leq f 0 0 s c&&leq f s (c+1) p o then
     match uO a n f with
     |⟨b,u,h⟩=>some ⟨.ref b 0,u,h⟩
    else none
   |none=>none
  |some (.slice e),.ie I=>match uI P e with
   | some z=>if Nat.beq s 0&&sQ 0 c then match I[c.toNat]? with
     | some a=>if a.known&&Nat.beq a.cells.length z then match uO a n f with
       |⟨b,u,h⟩=>some ⟨.ref b 0,u,h⟩
      else none
     |none=>none
    else none
   |none=>none
  |some (.slice e),.ge l B v w p o=>match uI P e with
   | some z=>if Nat.beq B z&&leq f 0 0 s c&&leq f s (c+1) p o&&leq f 0 0 v w then match aDx v w s c with
     |some (q,d)=>some ⟨.iv l B q d 0,n,f⟩|none=>none
    else none
   |none=>none
  |some (.array len e),x=>match uI P e with
   |some z=>if Nat.beq s 0&&sQ 0 c&&sQ (c+1) len then(Wu x (c.toNat*z)).map λy=>⟨y,n,f⟩else none
   |none=>none
  |_,_ =>none
 |_ =>none
def XE(P:gD)(n:Nat)(a:List pR)(t:gB)(x i:A):Option AV:=IG P n a t x.cq i
def Dr(d:List pR)(s:Nat)(c:Int):Nat->List A->List A
 |_,[]=>[]|j,a::b=>if leq d s c 0 (j-1)||leq d 0 (j+1) s c then Dr d s c (j+1) b else a::Dr d s c (j+1) b
def Tw(P:gD)(n:Nat)(a:List pR)(t:gB)(x i:A):Option AV:=
 match i with
 | .int _ s c=>
  match P.underlying t,x with
  |some (.array len e),.agg b=>match uI P e with
   | some z=>if leq a 0 0 s c&&leq a s (c+1) 0 len then
     if Nat.beq s 0 then(SV P e b (c.toNat*z)).map λy=>⟨y,n,a⟩
     else match KM P e with
      |some false=>if Nat.beq z 1&&Nat.beq b.length len then some ⟨.or (Dr a s c 0 b),n,a⟩else none
      |_ =>none
    else none
   |none=>none
  |some .string,x=>match GY x with
   |some (f,d)=>if leq a 0 0 s c&&leq a s (c+1) f d then some (uO (.ft .u8 0 255) n a)else none
   |none=>none
  |_,_ =>none
 |_ =>none
def HI(x:Option A)(s:Nat)(c:Int):Option (Nat×Int):=
 match x with
 |none=>some (s,c)|some (.int _ b a)=>some (b,a)|some _ =>none
def Ou(n e:Nat)(a:Int)(s:Nat)(b:Int):List pR->List pR->List pR
 |[],r=>r| .le x y d::q,r=>if Nat.beq x s&&Nat.beq y e then .le n 0 (d+b-a)::r else Ou n e a s b q r
 |_ ::q,r=>Ou n e a s b q r
def GK(n:Nat)(d:List pR)(b:Nat)(e:Int)(s:Nat)(a:Int):Nat×Int×Nat×List pR:=
 if Nat.beq b 0 then(s,a-e,n,d)
 else if Nat.beq b s then(0,a-e,n,d)
 else(n,0,n+1,.sm n b s (a-e)::Ou n b e s a d (NK (leq d 0 1 b e) (.le n s (a-1)) (.le 0 n (if leq d b (e+1) s a then-1 else 0):: .le n s a::d)))
def Jx(P:gD)(n:Nat)(b:List pR)(t:gB)(x:A)(B y:Option A):Option AV:=
 match P.underlying t with
 |some .string=>match GY x with
  |some (s,c)=>match HI y s c with
   |some (o,i)=>match HI B 0 0 with
    | some (f,h)=>if leq b 0 0 f h&&leq b f h o i&&leq b o i s c then
      match GK n b f h o i with
      |(v,u,w,p)=>some ⟨.str v u,w,p⟩
     else none
    |none=>none
   |none=>none
  |none=>none
 |some (.slice e)=>match x with
  | .sl a s c=>match HI y s c with
   |some (o,i)=>match HI B 0 0 with
    |some (f,h)=>match uI P e with
     | some z=>if a.known&&Nat.beq a.cells.length z&&leq b 0 0 f h&&leq b f h o i&&leq b o i s c then
       match GK n b f h o i with
       |(v,u,w,p)=>some ⟨.sl a v u,w,p⟩
      else none
     |none=>none
    |none=>none
   |none=>none
  | .ge l K I J s c=>match HI y s c with
   |some (o,i)=>match HI B 0 0 with
    |some (f,h)=>match uI P e with
     | some z=>if Nat.beq K z&&leq b 0 0 I J&&leq b 0 0 f h&&leq b f h o i&&leq b o i s c then match aDx I J f h with
       |some (q,d)=>match GK n b f h o i with
        |(v,u,w,p)=>some ⟨.ge l K q d v u,w,p⟩
       |none=>none
      else none
     |none=>none
    |none=>none
   |none=>none
  |_ =>none
 |_ =>none
def aIy(P:gD)(a:List pR)(t:gB)(x:A):Option A:=
 match P.underlying t,x with
 |some .string,.gh s=>if sQ s.length 9000000000000000000 then some (.int .i64 0 s.length)else none
 |some .string,.str s c=>if lW a .i64 s c then some (.int .i64 s c)else none
 |some (.slice _),.fp=>some (.int .i64 0 0)|some (.slice _),.ie e=>if sQ e.length 9000000000000000000 then some (.int .i64 0 e.length)else none
 |some (.slice _),.sl _ s c=>if lW a .i64 s c then some (.int .i64 s c)else none
 |some (.slice _),.ge _ _ _ _ s c=>if lW a .i64 s c then some (.int .i64 s c)else none
 |some (.slice _),.sx s c=>if lW a .i64 s c then some (.int .i64 s c)else none
 |some (.array n _),_ =>if sQ n 9000000000000000000 then some (.int .i64 0 n)else none
 |some (.map ..),.fw=>some (.int .i64 0 0)|_,_ =>none
def bGh(P:gD)(a:List pR)(t:gB)(x:A):Option A:=aIy P a t x.cq
def aMn(n:Nat)(a:List pR)(s:Nat)(c:Int)(d:Nat)(b:Int)(r:List pR):Nat->List pR
 |0=>r|k+1=>if !(Nat.beq k 0)&&(leq a k 0 s c&&leq a k 0 d b)then .le k n 0::aMn n a s c d b r k else aMn n a s c d b r k
def aZj(n:Nat)(a:List pR)(x y:A):Option AV:=
 match x,y with
 | .int k s c,.int e d b=>if !(k==e)then none else if leq a s c d b then some ⟨.int k s c,n,a⟩else if leq a d b s c then some ⟨.int k d b,n,a⟩
  else some ⟨.int k n 0,n+1,.le n s c:: .le n d b:: .le n 0 k.max:: .le 0 n (if leq a 0 0 s c&&leq a 0 0 d b then 0 else-k.min)::aMn n a s c d b a n⟩
 |_,_ =>none
def aZi(n:Nat)(a:List pR)(x y:A):Option AV:=
 match x,y with
 | .int k s c,.int e d b=>if !(k==e)then none else if leq a s c d b then some ⟨.int k d b,n,a⟩else if leq a d b s c then some ⟨.int k s c,n,a⟩
  else some ⟨.int k n 0,n+1,.le s n (-c):: .le d n (-b):: .le 0 n (-k.min):: .le n 0 k.max::oD a n s c d b a⟩
 |_,_ =>none
def Cv(f:Nat->List pR->A->A->Option AV):Nat->List pR->A->List A->Option AV
 |n,a,x,[]=>some ⟨x,n,a⟩
 |n,a,x,y::r=>match f n a x y with
  |some ⟨z,d,b⟩=>Cv f d b z r|none=>none
def PE(a:List A)(o:Nat)(new:List A):List A:=a.take o++new++a.drop (o+new.length)
def Cr(p:jM):List A->List (Nat×A)->Option (List A)
 |cs,[]=>some cs
 |cs,(i,v)::r=>
  match p i with
  |none=>none|some (o,s)=>if v.known=true/\v.cells.length=s/\o+s<=cs.length then Cr p (PE cs o v.cells) r else none
def MG(gl:Nat->Option A)(f:List A):List (Nat×Operand)->Option (List (Nat×A))
 |[]=>some []
 |(i,x)::r=>match LK gl f x with
  |some t=>match MG gl f r with
   |some l=>some ((i,t)::l)|none=>none
  |none=>none
def Sl(P:gD)(t:gB)(parts:List (Nat×A)):Option A:=
 match EW P t with
 |some z=>
  match P.underlying t with
  |some (.struct f)=>match KB P f.toList with
   |some p=>(Cr (p[·]?) z.cells parts).map .agg|none=>none
  |some (.array _ e)=>match uI P e with
   |some s=>(Cr (λi=>some (i*s,s)) z.cells parts).map .agg|none=>none
  |_ =>none
 |none=>none
def EG:A->Option A
 | .ptr l o=>some (.ptr l o)| .iv l z s c o=>some (.iv l z s c o)| .ref x o=>some (.ref x o)| .fn f a c=>some (.fn f a c)| .iface t x=>some (.iface t x)| .or a_s=>if iN a_s then some (.or a_s)else none
 |_ =>none
 where
 iN:List A->Bool
  |[]=>true| .fn .. ::a_s=>iN a_s|_ ::_ =>false
end
end Go.Ps
