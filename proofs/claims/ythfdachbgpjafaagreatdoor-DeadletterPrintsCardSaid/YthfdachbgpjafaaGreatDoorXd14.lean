/- Lemmas for the card; no conditions. -/
import Derived.Test.YthfdachbgpjafaaGreatDoorXd13
import Derived.Test.YthfdachbgpjafaaGreatDoorXd12
set_option linter.all false
set_option maxRecDepth 100000
namespace Go.Proofs.Tryz
open Go.Ps
variable[Inhabited gy]
noncomputable section
def vy:=nE qd mG
def vz:=nD qd oa
variable(m:Int)(C:gB)
theorem bGa:xE m C (pZ 1) (vy m C) vz:=go (XN m C) [29] Be rfl (by kernel_rfl) (by kernel_rfl) ⟨r5,trivial⟩
def v6:=nE qe vy
def v7:=nD qe vz
theorem bGb:xE m C (pZ 2) (v6 m C) v7:=go (bGa m C) [29] Bk rfl (by kernel_rfl) (by kernel_rfl) ⟨r5,r5,trivial⟩
def v8:=nE qf v6
def wb:=nD qf v7
theorem bGc:xE m C (pZ 3) (v8 m C) wb:=go (bGb m C) [29] Bl rfl (by kernel_rfl) (by kernel_rfl) ⟨r5,r5,r5,trivial⟩
def wc:=nE qg v8
def wd:=nD qg wb
theorem bGd:xE m C (pZ 4) (wc m C) wd:=go (bGc m C) [29] Bs rfl (by kernel_rfl) (by kernel_rfl) ⟨r5,r5,r5,r5,trivial⟩
def wg:=nE qh wc
def wh:=nD qh wd
theorem bGe:xE m C (pZ 5) (wg m C) wh:=go (bGd m C) [29] BE rfl (by kernel_rfl) (by kernel_rfl) ⟨r5,r5,r5,r5,r5,trivial⟩
def wi:=nE qi wg
def wj:=nD qi wh
theorem bFw:xE m C (nY) (wi m C) wj:=go (bGe m C) [55] BY rfl (by kernel_rfl) (by kernel_rfl) ⟨r5,trivial⟩
def wk:=nE qj wi
def wm:=nD qj wj
theorem bFx:xE m C (m4) (wk m C) wm:=go (bFw m C) [55] B1 rfl (by kernel_rfl) (by kernel_rfl) ⟨r5,r5,trivial⟩
def wn:=nE qk wk
def wo:=nD qk wm
theorem bFy:xE m C (mv) (wn m C) wo:=go (bFx m C) [55] B4 rfl (by kernel_rfl) (by kernel_rfl) ⟨r5,r5,r5,trivial⟩
def wq:=nE ql wn
def wt:=nD ql wo
theorem aVq:xE m C (o6) (wq m C) wt:=go (bFy m C) [55] B5 rfl (by kernel_rfl) (by kernel_rfl) ⟨r5,r5,r5,r5,trivial⟩
def B6:=nE qm wq
def B7:=nD qm wt
theorem bFz:xE m C (yi) (B6 m C) B7:=go (aVq m C) [8,23] vx rfl (by kernel_rfl) (by kernel_rfl) ⟨r5,trivial⟩
end
end Go.Proofs.Tryz
namespace Go.Proofs.Tryz
open Go.Ps
noncomputable section
def B8:FuncId->An:=λf=>if Nat.beq f 165||Nat.beq f 166 then .node .leaf (.node (.node .leaf (.da [.leaf,.leaf])) .leaf)else .leaf
def B9:AX:={xB DK [165,166] []with an:=B8}
def Lq:tW:=⟨165,[.gp (.agg (vA 40 6 0)) 1 6,.ig 0 0,.fn 112 [] []],.ft .i64 1 1⟩
def Ls:tW:=⟨166,[.gp (.agg (txt 40::vA 40 6 0)) 1 6,.ig 0 0,.fn 167 [] []],.ft .i64 1 1⟩
def qt:List DI:=[(B9,[],[Lq,Ls])]
theorem wu:yD prog qt=true:=by kernel_rfl
variable[Inhabited gy]
theorem out{m:Int}{C:gB}{p q:FuncId->List A->Nat->List pR->Option AV}{e:jG}{b d:hC}(h:xE m C p (e m C) b){g:DI}{i:List DI}
  (n:yD prog (g::i)=true) (o:aGk b (g::i)=true) (s:mW Tn p g.1 (g::i)) (u:xE m C q (nE (g::i) e m C) d) {c:tW} (j:c∈CB (g::i)) {ts:gC} (k:pT [] [] c.pre ts):
  ∃r,fj prog (fo m C) c.f ts r/\Gm [] [] c.res r:=
 iu.e8 (X:=g.1) u (qN m C) xV j (bCz h xV s o n c j) k
def Cq:=nE qt mG
def C0:=nD qt oa
variable(m:Int)(C:gB)
theorem bFv:xE m C (pY [Lq,Ls] DK) (Cq m C) C0:=go (XN m C) [165,166] wu rfl (by kernel_rfl) (by kernel_rfl) ⟨r5,trivial⟩
theorem aLi{b:gC}(h:pT [] [] c8.pre b):∃r,fj prog (fo m C) 8 b r/\Gm [] [] c8.res r:=
 out (aVq m C) vx (by kernel_rfl) ⟨r5,trivial⟩ (bFz m C) (c:=c8) (aO:c8∈[c8]) h
theorem bMs(c:tW)(b:c∈[Lq,Ls]){ts:gC}(h:pT [] [] c.pre ts):∃r,fj prog (fo m C) c.f ts r/\Gm [] [] c.res r:=
 out (XN m C) wu (by kernel_rfl) ⟨r5,trivial⟩ (bFv m C) (c:=c) b h
end
noncomputable section
variable[Inhabited gy]
section
variable{m:Int}{C:gB}
omit [Inhabited gy]in
theorem Yk{n:Nat}{u:iK}{x:gC}(h:wP (.ac false n u) x):x=(List.range n).map u:=by
 rcases h with⟨h,_⟩|⟨_,h⟩|⟨_,_,_,h,rfl⟩
 cases h;cases h;cases h;rfl
omit [Inhabited gy]in
theorem Wb{d:Nat}{q:Kd}{c:iB}(u:q.a=λi=>pJ (c i))(h:VE (d+1) (pJ q)):(1<=q.k/\q.k<=28)/\Ad q.k<=(q.m:Int)/\(q.k=1->q.n=1/\1<=(q.w 0).kind/\(q.w 0).kind<=7)/\∀i,i<q.m->VE d (pJ (c i)):=by
 obtain⟨k,x,y,v,a,P,N,e,J,I,H,z,D,K,o⟩:=h;unfold pJ at e;injection e with e;obtain⟨j,e⟩:=fB e;obtain⟨_,e⟩:=fB e;obtain⟨_,e⟩:=fB e;obtain⟨g,e⟩:=fB e;obtain⟨B,_⟩:=fB e;injection j with _ j;subst j g B;have b:=Yk J;have s:=Yk I;subst b s;rw[u]at o;refine⟨⟨H,z⟩,by simpa using D,λe=> ?_,λi E=>o _ (eM (eT.2 E))⟩;obtain⟨v,b,L⟩:=K e;have p:q.n=1:=by have:=bG List.length b;simpa using this
 rw[p]at b;obtain⟨r,l,F,M,O⟩:=L;have f:AK (q.w 0)=v:=(fB b).1;rw[F]at f;unfold AK lr at f;injection f with f
 have g:=(fB f).1;injection g with _ g
 exact⟨p,by omega,by omega⟩
theorem bBg(hI:Is){v:Vl}(h:Gm [] [] (.agg (vA 40 6 1)) (AK v))(j:1<=v.kind)(z:v.kind<=7):∃(s:gH) (e:Int),fj prog (fo m C) 121 [AK v] (.fm [.str s,.int .i64 e])/\s.length<=9100:=by
 have w:v.kind∈kK:=by
  have:v.kind=1\/v.kind=2\/v.kind=3\/v.kind=4\/v.kind=5\/v.kind=6\/v.kind=7:=by omega
  rcases this with e|e|e|e|e|e|e<;>rw[e]<;>decide
 have x:aOr v.kind∈CB n6:=eM (f:=aOr) w
 obtain⟨r,n,p⟩:=out (aVl hI m C) um (by kernel_rfl) ⟨r5,trivial⟩ (Ny hI m C) (c:=aOr v.kind) x (ts:=[AK v]) (pV (by
  have g:pT [] [] (fk::(vA 40 6 1).drop 1) (.int .i64 v.kind::(lr v).drop 1):=by
   cases h with
   |agg _ _ j o=>exact⟨j,o⟩
  obtain⟨_,_,e,B,d⟩:=g.I;cases e
  exact PL (pV (.ft _ _ _ _ (by omega) (by omega) (vC (by omega))) d)) wF)
 cases(show Gm [] [] (.fm [txt 9100,EB]) r from p)with
 |fm _ ts k1 k2=>
 obtain⟨a,r,rfl,d,q⟩:=(show pT [] [] [txt 9100,EB] ts from⟨k1,k2⟩).I;obtain⟨b,r,rfl,k,u⟩:=q.I;have e:=u.ae;subst e;cases d with
 |fy _ _ s _ y=>
 cases k with
 |ft _ _ _ e _ _ _ =>exact⟨s,e,n,by omega⟩
theorem aOp(k:Int):1<=rL k:=by
 unfold rL
 repeat' split
 all_goals omega
theorem aJq(hI:Is){L d:Nat}(S:6<=L/\L<=10000000){q:Kd}{c:iB}(O:q.a=λi=>pJ (c i))(K:Gm [] [] (.agg (eA d)) (pJ q))(P:q.m<=4)(W:VE (d+1) (pJ q))
  (z:∀i,i<q.m->Ru m C L (pJ (c i))/\((c i).k=1->0<(c i).n)):Ru m C (6*L+10000) (pJ q):=by
 obtain⟨⟨k1,J⟩,u,one,_⟩:=Wb O W;obtain⟨R,I⟩:=Hy K;obtain⟨Q,H⟩:(-9223372036854775808<=q.y/\q.y<=9223372036854775807)/\q.s.length<=60:=by
  rw[Cm]at K;cases K with
  |agg _ _ v F=>
   have Y:Gm [] [] fk (.int .i64 q.y):=F 1 _ _ rfl rfl;have Z:Gm [] [] (txt 60) (.str q.s):=F 2 _ _ rfl rfl;cases Y with
   |ft _ _ _ _ a b _ =>
   cases Z with
   |fy _ _ _ a' b'=>exact⟨⟨a,b⟩,by omega⟩
 obtain⟨k,y,s,n,w,g,a⟩:=q;subst O;simp only at k1 J u one R I Q H P z;have h:L<=100000000:=by omega
 have D:∀f:Int,¬rL k<f->∃j:List UInt8,fj prog (fo m C) 76 [xT k y s n w g λi=>pJ (c i),.int .i64 f] (.str j)/\j.length<=6*L+9990:=by
  intro f o;have le:∀{B:Nat},(∃j:List UInt8,fj prog (fo m C) 76 [xT k y s n w g λi=>pJ (c i),.int .i64 f] (.str j)/\j.length<=B)->B<=6*L+9990->∃j:List UInt8,fj prog (fo m C) 76 [xT k y s n w g λi=>pJ (c i),.int .i64 f] (.str j)/\j.length<=6*L+9990:=λ⟨j,v,F⟩ h3=>⟨j,v,by omega⟩;have hl:0<g->∃j:List UInt8,fj prog (fo m C) 119 [.ac false g λi=>pJ (c i)] (.str j)/\j.length<=5*L:=λ_ =>aUt h P c (λi U=>(z i U).1) (.inr S.1);have ks:k=1\/k=2\/k=3\/k=16\/k=25\/(k=6\/k=7\/k=8\/k=9\/k=10\/k=11)\/(k=4\/k=5\/k=12\/k=13\/k=14\/k=17\/k=23)\/(k=15\/k=18\/k=19\/k=20\/k=21\/k=22\/k=24\/k=26\/k=27\/k=28):=by omega
  rcases ks with rfl|rfl|rfl|rfl|rfl|ks|ks|ks;obtain⟨rfl,b1,b2⟩:=one rfl;exact le (bIq h y s 1 w g c f o (by omega) (bBg hI (R 0 (by omega)) b1 b2)) (by omega);exact le (bIr h y s n w g c f o H) (by omega);have x:0<g:=by simp[Ad]at u;omega
  exact le (bIs h y s n w g c f o x (z 0 x).1) (by omega);have x:0<g:=by simp[Ad]at u;omega
  obtain⟨p,N⟩:=z 0 x;by_cases E:(c 0).k=1;by_cases M:((c 0).w 0).kind=2;exact le (aTl h y s n w g c f o x p E (N E) M) (by omega);by_cases V:((c 0).w 0).kind=3;exact le (aTm h y s n w g c f o x p E (N E) M V) (by omega);exact le (aTn h y s n w g c f o x p E (N E) M V) (by omega);exact le (aTk h y s n w g c f o x p E) (by omega);have x:0<g:=by simp[Ad]at u;omega
  exact le (bAx h y s n w g c f o x (z 0 x).1 (aUt h (by omega) (λi=>c (1+i)) (λi U=>(z (1+i) (by omega)).1) (.inr S.1))) (by omega);have v:1<g:=by rcases ks with rfl|rfl|rfl|rfl|rfl|rfl<;>simp[Ad]at u<;>omega
  exact le (aTp h k y s n w g c f o (by omega) (by omega) (by omega) v (z 0 (by omega)).1 (z 1 v).1 (by rcases ks with rfl|rfl|rfl|rfl|rfl|rfl<;>rfl)) (by omega);have v:1<g:=by rcases ks with rfl|rfl|rfl|rfl|rfl|rfl|rfl<;>simp[Ad]at u<;>omega
  exact le (aTo h k y s n w g c f o (by omega) (by omega) (by omega) v (z 0 (by omega)).1 (z 1 v).1 (by rcases ks with rfl|rfl|rfl|rfl|rfl|rfl|rfl<;>decide) (by rcases ks with rfl|rfl|rfl|rfl|rfl|rfl|rfl<;>decide) (by rcases ks with rfl|rfl|rfl|rfl|rfl|rfl|rfl<;>decide)) (by omega);exact le (aMc h k y s n w g c f o (by rcases ks with rfl|rfl|rfl|rfl|rfl|rfl|rfl|rfl|rfl|rfl<;>rfl) (by omega) (by omega) (by omega) (by omega) (by omega) H Q hl) (by omega)
 intro f;by_cases o:rL k<f;obtain⟨j,v,F⟩:=bIt (m:=m) (C:=C) (L:=6*L+9990) (by omega) k y s n w g c f o (D 0 (by have:=aOp k;omega));exact⟨j,v,by omega⟩;obtain⟨j,v,F⟩:=D f o;exact⟨j,v,by omega⟩
def Lb:Nat->Nat
 |0=>10036|d+1=>6*Lb d+10000
theorem aTr(hI:Is):∀(d:Nat),d<=3->∀q:Kd,kJ d q->Gm [] [] (.agg (eA d)) (pJ q)->VE (d+1) (pJ q)->Ru m C (Lb d) (pJ q):=by
 intro d
 induction d with
 |zero=>
  intro _ q ⟨h0,c,ha⟩ hg hv;exact aJq hI (L:=6) (by omega) ha hg (by omega) hv λi b=>absurd b (by omega)
 |succ d p=>
  intro s q ⟨c,ha,ht⟩ hg hv;obtain⟨n,ga⟩:=Ym hg;rw[ha]at ga;obtain⟨_,_,_,f⟩:=Wb ha hv;have o:6<=Lb d/\Lb d<=10000000:=by
   have:d=0\/d=1\/d=2:=by omega
   rcases this with rfl|rfl|rfl<;>decide
  refine aJq hI o ha hg n hv λi b=>⟨p (by omega) (c i) (ht i b) (ga i b) (f i b),λe=> ?_⟩;obtain⟨g,k⟩:∃g:Nat->Kd,(c i).a=λj=>pJ (g j):=by
   have:=ht i b;cases d with
   |zero=>exact this.2|succ d=>obtain⟨g,h,_⟩:=this;exact⟨g,h⟩
  obtain⟨_,_,one,_⟩:=Wb k (f i b);rw[(one e).1];exact Nat.zero_lt_one
section
variable(m C)
def sG(f:gX)(a r:T):List T->Option (T×List Bool):=λb=>some (r,[pb (b=[a]),pb (fj prog (fo m C) f [a] r)])
def qu(f:gX)(a b r:T):List T->Option (T×List Bool):=λc=>some (r,[pb (c=[a,b]),pb (fj prog (fo m C) f [a,b] r)])
omit [Inhabited gy]in
theorem aWa{f:gX}{a q:T}{d:gC}{r:T}{c:gL}(h:sG m C f a q d=some (r,c))(b:oU c=true):fj prog (fo m C) f d r:=by
 unfold sG at h;cases h;simp only[oU,bM,aA,pN]at b;rw[b.1];exact b.2
omit [Inhabited gy]in
theorem bAm{f:gX}{a b q:T}{g:gC}{r:T}{d:gL}(h:qu m C f a b q g=some (r,d))(c:oU d=true):fj prog (fo m C) f g r:=by
 unfold qu at h;cases h;simp only[oU,bM,aA,pN]at c;rw[c.1];exact c.2
def qv(x:T)(e:Int)(h:Bool)(s:gH):Ed:=⟨fo m C,qC 28 (sG m C 28 x (.int .i64 e)) (qC 75 (sG m C 75 x (.bool h)) (qC 76 (qu m C 76 x (.int .i64 0) (.str s)) λ_ _ _ =>none))⟩
omit [Inhabited gy]in
theorem aWh(x:T)(e:Int)(h:Bool)(s:gH):rV prog (qv m C x e h s).env.gl (qv m C x e h s).env.pe:=
 pG (pG (pG rM λd r c h b=>bAm m C h b) λd r c h b=>aWa m C h b) λd r c h b=>aWa m C h b
end
omit [Inhabited gy]in
theorem qw{q:Kd}{e:Int}{h:Bool}{s:gH}{r:T}{ds:gL}{c:Bool}(b:(uC (qv m C (pJ q) e h s) f41 [pJ q] ds).map (λq=>(q.1,oU q.2))=some (r,c))(d:c=true):fj prog (fo m C) 41 [pJ q] r:=
 gq (aWh m C _ _ _ _) rfl (by kernel_rfl) (by kernel_rfl) func41 (by kernel_rfl) (by kernel_rfl) b d
theorem Lw(hI:Is){q:Kd}(j:Gm [] [] (.agg (eA 3)) (pJ q)):∃e:Int,fj prog (fo m C) 28 [pJ q] (.int .i64 e)/\(0<=e/\e<=255)/\(e=0->VE 4 (pJ q)):=by
 have k:∀{c:tW} {lo hi:Int},c∈Nx->c.f=28->c.res= .ft .i64 lo hi->pT [] [] c.pre [pJ q]->∃e:Int,fj prog (fo m C) 28 [pJ q] (.int .i64 e)/\lo<=e/\e<=hi:=λ{c lo hi} u v x w=>by
  obtain⟨r,o,s⟩:=iu.e8 (X:=GV KN DK) (aVn hI m C) (qN m C) xV u (uk hI m C c u) w;rw[x]at s;rw[v]at o;cases s with
  |ft _ _ _ e a b _ =>exact⟨e,o,a,b⟩
 by_cases n:VE 4 (pJ q);obtain⟨e,i,p,g⟩:=k (c:=c28) (lo:=0) (hi:=255) (by unfold Nx m5;simp) rfl rfl (pV j wF);exact⟨e,i,⟨p,g⟩,λ_ =>n⟩;have y:=(hI.b 4 (pJ q) (by omega)).2 ⟨n,Zm (ir 3 (by omega)) j⟩
 obtain⟨e,i,p,g⟩:=k (c:=bDf) (lo:=1) (hi:=255) (by unfold Nx m5;simp) rfl rfl (pV (by
  cases j with
  |agg _ z a b=>exact .ia _ _ _ y a b) wF)
 exact⟨e,i,⟨by omega,g⟩,λe=>by omega⟩
theorem aKk(hI:Is){q:Kd}(i:kJ 3 q)(f:Gm [] [] (.agg (eA 3)) (pJ q)):∃(s:gH) (e:Int),fj prog (fo m C) 41 [pJ q] (.fm [.str s,.int .i64 e])/\s.length<=Lb 3:=by
 obtain⟨e,d,_,k⟩:=Lw (m:=m) (C:=C) hI f;by_cases g:e=0;obtain⟨r,b,j⟩:=out (aVm hI m C) un (by kernel_rfl) ⟨r5,trivial⟩ (bFi hI m C) (c:=c75 3) (aO:c75 3∈[c75 3]) (ts:=[pJ q]) (pV f wF);obtain⟨h,rfl⟩:∃h,r= .bool h:=by
  cases(show Gm [] [] (.bool tA) r from j)with
  |bool _ h _ =>exact⟨h,rfl⟩
 have b:fj prog (fo m C) 75 [pJ q] (.bool h):=b;obtain⟨s,n,o⟩:=aTr (m:=m) (C:=C) hI 3 (by omega) q i f (k g) 0;subst g;cases h with
 |true=>exact⟨[],12,qw (e:=0) (h:=true) (s:=s) (ds:=[false,true]) (c:=true&&(pb ([pJ q]=[pJ q])&&(pb (fj prog (fo m C) 75 [pJ q] (.bool true))&&(!((0:Int) !=0)&&(pb ([pJ q]=[pJ q])&&(pb (fj prog (fo m C) 28 [pJ q] (.int .i64 0))&&true)))))) (by kernel_rfl) (by simp[pN,b,d]),Nat.zero_le _⟩|false=>exact⟨s,0,qw (e:=0) (h:=false) (s:=s) (ds:=[false,false]) (c:=pb ([pJ q,.int .i64 0]=[pJ q,.int .i64 0])&&(pb (fj prog (fo m C) 76 [pJ q,.int .i64 0] (.str s))&&(!false&&(pb ([pJ q]=[pJ q])&&(pb (fj prog (fo m C) 75 [pJ q] (.bool false))&&(!((0:Int) !=0)&&(pb ([pJ q]=[pJ q])&&(pb (fj prog (fo m C) 28 [pJ q] (.int .i64 0))&&true)))))))) (by kernel_rfl) (by simp[pN,b,d,n]),o⟩
 exact⟨[],e,qw (e:=e) (h:=true) (s:=[]) (ds:=[true]) (c:=(e !=0)&&(pb ([pJ q]=[pJ q])&&(pb (fj prog (fo m C) 28 [pJ q] (.int .i64 e))&&true))) (by kernel_rfl) (by simp[pN,d,g]),Nat.zero_le _⟩
end
end
noncomputable section
section
variable(m:Int)(C:gB)
abbrev PB(f:gX)(c:gC)(b:Bool):Prop:=fj prog (fo m C) f c (.bool b)
def Y2(f:gX)(x y:T):Prop:=∃b,PB m C f [x,y] b/\PB m C f [y,x] b
def Y3(f:gX)(x y z:T):Prop:=∃b,PB m C f [x,y,z] b/\PB m C f [y,x,z] b
def Lv(f:gX)(x y:T):Bool:=pb (PB m C f [x,y] true/\PB m C f [y,x] true)
def lK(f:gX)(x y z:T):Bool:=pb (PB m C f [x,y,z] true/\PB m C f [y,x,z] true)
theorem Xc(f:gX)(x y:T):Lv m C f y x=Lv m C f x y:=by unfold Lv;rw[and_comm]
theorem Xd(f:gX)(x y z:T):lK m C f y x z=lK m C f x y z:=by unfold lK;rw[and_comm]
variable{m C}
theorem aUz{p q:Bool->Prop}(h:∃b,p b/\q b):p (pb (p true/\q true))/\q (pb (p true/\q true)):=by
 obtain⟨b,d,c⟩:=h;cases e:pb (p true/\q true)with
 |true=>exact pN.1 e
 |false=>
  cases b with
  |false=>exact⟨d,c⟩|true=>rw[pN.2 ⟨d,c⟩]at e;cases e
theorem Y2.ok{f:gX}{x y:T}(h:Y2 m C f x y):PB m C f [x,y] (Lv m C f x y):=(aUz (p:=λb=>PB m C f [x,y] b) h).1
theorem Y3.ok{f:gX}{x y z:T}(h:Y3 m C f x y z):PB m C f [x,y,z] (lK m C f x y z):=(aUz (p:=λb=>PB m C f [x,y,z] b) h).1
theorem Y2.sym{f:gX}{x y:T}(h:Y2 m C f x y):Y2 m C f y x:=by obtain⟨b,d,c⟩:=h;exact⟨b,c,d⟩
theorem Y3.sym{f:gX}{x y z:T}(h:Y3 m C f x y z):Y3 m C f y x z:=by obtain⟨b,d,c⟩:=h;exact⟨b,c,d⟩
variable(m C)
def od(f:gX):List T->Option (T×List Bool)
 |[x,y]=>some (.bool (Lv m C f x y),[pb (PB m C f [x,y] (Lv m C f x y))])|_ =>none
def oe(f:gX):List T->Option (T×List Bool)
 |[x,y,z]=>some (.bool (lK m C f x y z),[pb (PB m C f [x,y,z] (lK m C f x y z))])|_ =>none
def DY:Ed:=⟨fo m C,qC 44 (od m C 44) (qC 71 (od m C 71) (qC 43 (oe m C 43) (qC 80 (oe m C 80) λ_ _ _ =>none)))⟩
theorem Wd:rV prog (DY m C).env.gl (DY m C).env.pe:=by
 have i:∀{f:gX} {d:gC} {r:T} {c:gL},od m C f d=some (r,c)->oU c=true->fj prog (fo m C) f d r:=λh b=>by
  unfold od at h;split at h;cases h;simpa [oU,pN]using b;cases h
 have g:∀{f:gX} {d:gC} {r:T} {c:gL},oe m C f d=some (r,c)->oU c=true->fj prog (fo m C) f d r:=λh b=>by
  unfold oe at h;split at h;cases h;simpa [oU,pN]using b;cases h
 exact pG (pG (pG (pG rM λd r c h b=>g h b) λd r c h b=>g h b) λd r c h b=>i h b) λd r c h b=>i h b
variable{m C}
theorem uY{f:gX}{d:Func}(n:uQ prog f=true)(p:(codeOk (pO d)&&uZ (pO d))=true)(j:prog.funcs[f]? =some d)(k:d.body=some (pO d)){g:gC}(i:qJ (pM 40 ⟨0,.nl⟩) g=some g){ds c:gL}{r:T}
  (h:uC (DY m C) d g ds=some (r,c)) (o:oU c=true):fj prog (fo m C) f g r:=
 gq (Wd m C) rfl n p j k i (b:=oU c) (by rw[h];rfl) o
theorem DL{l:gL}(h:oU l=true):∀n:Nat,oU (List.replicate n true++l)=true
 |0=>h|n+1=>by rw[List.replicate_succ,dR];simp only[oU,cL];exact DL h n
def nc(p q:jD):Nat->List Bool
 |0=>[true]|j+1=>[!!p j,q j]++List.replicate 11 true++nc p q j
theorem Ud{p q:jD}:∀j:Nat,(∀i,i<j->p i=true/\q i=true)->oU (nc p q j)=true
 |0,_ =>rfl
 |j+1,h=>by
  obtain⟨b,c⟩:=h j (by omega);unfold nc;rw[eJ];simp only[dR,eW,oU,b,c,cL,Bool.not_true,Bool.not_false];exact DL (Ud j λi d=>h i (by omega)) 11
def wv(n j:Nat):List Bool:=[false]++(List.replicate j [true,false]).flatten++(if j=n then [false]else [true,true])
def mI(p q:jD)(n j:Nat):List Bool:=if j=n then [true]++nc p q n else [!p j,q j]++List.replicate 11 true++nc p q j
abbrev jp(c:iB)(n:Nat):T:= .ac false n λi=>pJ (c i)
abbrev Ro(w:iM)(n:Nat):T:= .ac false n λi=>AK (w i)
abbrev pE(m:Int)(C:gB)(f:gX)(x y:iK)(i:Nat):Bool:=Lv m C f (x i) (y i)
abbrev qE(m:Int)(C:gB)(f:gX)(x y:iK)(i:Nat):Bool:=pb (PB m C f [x i,y i] (Lv m C f (x i) (y i)))
theorem nf(c d:iB):∀n j:Nat,n<=4->j<=n->uC (DY m C) f43 [jp c n,jp d n,.fn (.func 44) [] []] (wv n j)=some (.bool (decide (j=n)),mI (pE m C 44 (λi=>pJ (c i)) λi=>pJ (d i)) (qE m C 44 (λi=>pJ (c i)) λi=>pJ (d i)) n j):=by
 intro n j h b;rcases n with _ |_ |_ |_ |_ |n<;>rcases j with _ |_ |_ |_ |_ |j<;>first|omega|kernel_rfl
theorem ww(c d:iM):∀n j:Nat,n<=2->j<=n->uC (DY m C) f80 [Ro c n,Ro d n,.fn (.func 71) [] []] (wv n j)=some (.bool (decide (j=n)),mI (pE m C 71 (λi=>AK (c i)) λi=>AK (d i)) (qE m C 71 (λi=>AK (c i)) λi=>AK (d i)) n j):=by
 intro n j h b;rcases n with _ |_ |_ |n<;>rcases j with _ |_ |_ |j<;>first|omega|kernel_rfl
theorem n43(c d:iB)(n k:Nat):uC (DY m C) f43 [jp c n,jp d k,.fn (.func 44) [] []] [true]=some (.bool false,[(n:Int) !=k]):=by kernel_rfl
theorem wy(c d:iM)(n k:Nat):uC (DY m C) f80 [Ro c n,Ro d k,.fn (.func 71) [] []] [true]=some (.bool false,[(n:Int) !=k]):=by kernel_rfl
theorem HQ(p:jD):∀n:Nat,∃j,j<=n/\(∀i,i<j->p i=true)/\(j<n->p j=false)
 |0=>⟨0,bB _,λi c=>absurd c (by omega),λh=>absurd h (by omega)⟩
 |n+1=>by
  obtain⟨j,f,b,d⟩:=HQ p n;by_cases e:j=n;cases hp:p n with
  |true=>exact⟨n+1,bB _,λi c=>by by_cases q:i=n;(· rw[q];exact hp);exact b i (by omega),λh=>absurd h (by omega)⟩|false=>exact⟨n,by omega,λi c=>b i (by omega),λ_ =>hp⟩
  exact⟨j,by omega,b,λh=>d (by omega)⟩
theorem aLl{E F:gX}{x y:iK}{n k:Nat}(h:∀i,i<n->i<k->Y2 m C F (x i) (y i))
  (B:∀(j:Nat),n=k->j<=n->oU (mI (pE m C F x y) (qE m C F x y) n j)=true->PB m C E [.ac false n x,.ac false k y,.fn (.func F) [] []] (decide (j=n)))
  (d:∀(j:Nat),n=k->j<=n->oU (mI (pE m C F y x) (qE m C F y x) n j)=true->PB m C E [.ac false k y,.ac false n x,.fn (.func F) [] []] (decide (j=n)))
  (z:n≠k->PB m C E [.ac false n x,.ac false k y,.fn (.func F) [] []] false/\PB m C E [.ac false k y,.ac false n x,.fn (.func F) [] []] false):Y3 m C E (.ac false n x) (.ac false k y) (.fn (.func F) [] []):=by
 by_cases e:n=k;subst e;obtain⟨j,o,s,g⟩:=HQ (pE m C F x y) n;have u:∀i,pE m C F y x i=pE m C F x y i:=λi=>Xc m C F _ _;have w:∀(x y:iK),(∀i,i<n->Y2 m C F (x i) (y i))->(∀i,i<j->pE m C F x y i=true)->(j<n->pE m C F x y j=false)->oU (mI (pE m C F x y) (qE m C F x y) n j)=true:=λx y f k1 k2=>by
  have v:=Ud (p:=pE m C F x y) (q:=qE m C F x y) j λi b=>⟨k1 i b,pN.2 (f i (by omega)).ok⟩;unfold mI;split;rename_i e;rw[<-e];exact v;have c:j<n:=by omega
  rw[eJ];simp only[dR,eW,oU,k2 c,Bool.not_false,cL];rw[show qE m C F x y j=true from pN.2 (f j c).ok,cL];exact DL v 11
 exact⟨_,B j rfl o (w x y (λi b=>h i b b) s g),d j rfl o (w y x (λi b=>(h i b b).sym) (λi b=>by rw[u];exact s i b) λc=>by rw[u];exact g c)⟩;exact⟨false,z e⟩
theorem wz{c d:iB}{n k:Nat}(g:n<=4)(h:∀i,i<n->i<k->Y2 m C 44 (pJ (c i)) (pJ (d i))):Y3 m C 43 (jp c n) (jp d k) (.fn (.func 44) [] []):=by
 refine aLl h (λj e b f=> ?_) (λj e b f=> ?_) (λe=>⟨?_,?_⟩);subst e;exact uY (by kernel_rfl) (by kernel_rfl) func43 (by kernel_rfl) (by kernel_rfl) (nf c d n j g b) f;subst e;exact uY (by kernel_rfl) (by kernel_rfl) func43 (by kernel_rfl) (by kernel_rfl) (nf d c n j g b) f;exact uY (by kernel_rfl) (by kernel_rfl) func43 (by kernel_rfl) (by kernel_rfl) (n43 c d n k) (by simp[oU];omega);exact uY (by kernel_rfl) (by kernel_rfl) func43 (by kernel_rfl) (by kernel_rfl) (n43 d c k n) (by simp[oU];omega)
theorem wE{c d:iM}{n k:Nat}(g:n<=2)(h:∀i,i<n->i<k->Y2 m C 71 (AK (c i)) (AK (d i))):Y3 m C 80 (Ro c n) (Ro d k) (.fn (.func 71) [] []):=by
 refine aLl h (λj e b f=> ?_) (λj e b f=> ?_) (λe=>⟨?_,?_⟩);subst e;exact uY (by kernel_rfl) (by kernel_rfl) func80 (by kernel_rfl) (by kernel_rfl) (ww c d n j g b) f;subst e;exact uY (by kernel_rfl) (by kernel_rfl) func80 (by kernel_rfl) (by kernel_rfl) (ww d c n j g b) f;exact uY (by kernel_rfl) (by kernel_rfl) func80 (by kernel_rfl) (by kernel_rfl) (wy c d n k) (by simp[oU];omega);exact uY (by kernel_rfl) (by kernel_rfl) func80 (by kernel_rfl) (by kernel_rfl) (wy d c k n) (by simp[oU];omega)
section
variable(m C)(k1 y1 k2 y2:Int)(s1 s2:gH)(n1 n2 l1 l2:Nat)(w1 w2:iM)(a1 a2:iK)
abbrev Lm:List T:=[xT k1 y1 s1 n1 w1 l1 a1,xT k2 y2 s2 n2 w2 l2 a2]
abbrev c80:Bool:=lK m C 80 (Ro w1 n1) (Ro w2 n2) (.fn (.func 71) [] [])
abbrev ng:Bool:=lK m C 43 (.ac false l1 a1) (.ac false l2 a2) (.fn (.func 44) [] [])
abbrev r6(b:Bool)(l:gL):List Bool:=List.replicate 6 b++l
abbrev qx(l:gL):List Bool:=(s1==s2)::pb (PB m C 80 [Ro w1 n1,Ro w2 n2,.fn (.func 71) [] []] (c80 m C n1 n2 w1 w2))::List.replicate 5 (s1==s2)++l
theorem bRi:uC (DY m C) f44 (Lm k1 y1 k2 y2 s1 s2 n1 n2 l1 l2 w1 w2 a1 a2) (List.replicate 24 true)=some (.bool (ng m C l1 l2 a1 a2),c80 m C n1 n2 w1 w2::pb (PB m C 43 [.ac false l1 a1,.ac false l2 a2,.fn (.func 44) [] []] (ng m C l1 l2 a1 a2))::(List.replicate 5 (c80 m C n1 n2 w1 w2)++qx m C s1 s2 n1 n2 w1 w2 (r6 (y1==y2) (List.replicate 6 (k1==k2))))):=by kernel_rfl
theorem bRj:uC (DY m C) f44 (Lm k1 y1 k2 y2 s1 s2 n1 n2 l1 l2 w1 w2 a1 a2) (r6 true (r6 true (r6 true (List.replicate 6 false))))=some (.bool false,r6 (!c80 m C n1 n2 w1 w2) (qx m C s1 s2 n1 n2 w1 w2 (r6 (y1==y2) (List.replicate 6 (k1==k2))))):=by kernel_rfl
theorem bRk:uC (DY m C) f44 (Lm k1 y1 k2 y2 s1 s2 n1 n2 l1 l2 w1 w2 a1 a2) (r6 true (r6 true (List.replicate 12 false)))=some (.bool false,r6 true (r6 (!(s1==s2)) (r6 (y1==y2) (List.replicate 6 (k1==k2))))):=by kernel_rfl
theorem bRl:uC (DY m C) f44 (Lm k1 y1 k2 y2 s1 s2 n1 n2 l1 l2 w1 w2 a1 a2) (r6 true (List.replicate 18 false))=some (.bool false,r6 true (r6 true (r6 (!(y1==y2)) (List.replicate 6 (k1==k2))))):=by kernel_rfl
theorem bRm:uC (DY m C) f44 (Lm k1 y1 k2 y2 s1 s2 n1 n2 l1 l2 w1 w2 a1 a2) (List.replicate 24 false)=some (.bool false,r6 true (r6 true (r6 true (List.replicate 6 (!(k1==k2)))))):=by kernel_rfl
variable{m C k1 y1 k2 y2 s1 s2 n1 n2 l1 l2 w1 w2 a1 a2}
theorem w9(i:Y3 m C 80 (Ro w1 n1) (Ro w2 n2) (.fn (.func 71) [] []))(g:Y3 m C 43 (.ac false l1 a1) (.ac false l2 a2) (.fn (.func 44) [] [])):
  PB m C 44 (Lm k1 y1 k2 y2 s1 s2 n1 n2 l1 l2 w1 w2 a1 a2) ((k1==k2)&&((y1==y2)&&((s1==s2)&&(c80 m C n1 n2 w1 w2&&ng m C l1 l2 a1 a2)))):=by
 have k:=pN.2 i.ok;have p:=pN.2 g.ok;have go:∀{ds c:gL} {b:Bool},uC (DY m C) f44 (Lm k1 y1 k2 y2 s1 s2 n1 n2 l1 l2 w1 w2 a1 a2) ds=some (.bool b,c)->oU c=true->PB m C 44 (Lm k1 y1 k2 y2 s1 s2 n1 n2 l1 l2 w1 w2 a1 a2) b:=λh q=>uY (by kernel_rfl) (by kernel_rfl) func44 (by kernel_rfl) (by kernel_rfl) h q;have d:=go (bRi m C k1 y1 k2 y2 s1 s2 n1 n2 l1 l2 w1 w2 a1 a2);have f:=go (bRj m C k1 y1 k2 y2 s1 s2 n1 n2 l1 l2 w1 w2 a1 a2);have j:=go (bRk m C k1 y1 k2 y2 s1 s2 n1 n2 l1 l2 w1 w2 a1 a2);have o:=go (bRl m C k1 y1 k2 y2 s1 s2 n1 n2 l1 l2 w1 w2 a1 a2);have ee:=go (bRm m C k1 y1 k2 y2 s1 s2 n1 n2 l1 l2 w1 w2 a1 a2);clear go;unfold qx at d f;rw[k]at d f;rw[p]at d;generalize (k1==k2)=bk at*;generalize (y1==y2)=by' at*;generalize (s1==s2)=bs at*;generalize c80 m C n1 n2 w1 w2=n at*;generalize ng m C l1 l2 a1 a2=b4 at*;cases bk;exact ee rfl;cases by';exact o rfl;cases bs;exact j rfl;cases n;exact f rfl;exact d rfl
end
theorem xa{q p:Kd}(b:Y3 m C 80 (Ro q.w q.n) (Ro p.w p.n) (.fn (.func 71) [] []))(h:Y3 m C 43 (.ac false q.m q.a) (.ac false p.m p.a) (.fn (.func 44) [] [])):Y2 m C 44 (pJ q) (pJ p):=by
 refine⟨_,w9 b h,?_⟩;have:=w9 (k1:=p.k) (y1:=p.y) (k2:=q.k) (y2:=q.y) (s1:=p.s) (s2:=q.s) b.sym h.sym;unfold c80 ng at this;rw[eE (a:=p.k),eE (a:=p.y),eE (a:=p.s),Xd m C 80 (Ro q.w q.n) (Ro p.w p.n),Xd m C 43 (.ac false q.m q.a) (.ac false p.m p.a)]at this;exact this
def sN(m:Int)(C:gB)(f:gX)(r:Int):List T->Option (T×List Bool):=λb=>some (.int .i64 r,[pb (fj prog (fo m C) f b (.int .i64 r))])
theorem Zv{f:gX}{n:Int}{b:gC}{r:T}{c:gL}(h:sN m C f n b=some (r,c))(d:oU c=true):fj prog (fo m C) f b r:=by
 unfold sN at h;cases h;simpa [oU,pN]using d
def bHv:List T->Option (T×List Bool)
 |[.int .i64 n]=>some (.bool false,[])|_ =>none
def cI(a b:Int):Int:=if a<b then-1 else if a>b then 1 else 0
def bHs:List T->Option (T×List Bool)
 |[.int .i64 a,.int .i64 b]=>some (.int .i64 (cI a b),[])|_ =>none
def nh:List T->Option (T×List Bool)
 |[.str a,.str b]=>some (.int .i64 (Lib.compareBytes a b),[])|_ =>none
section
variable(m C)
def mJ:Ed:=⟨fo m C,qC 243 bHv (qC 66 nh λ_ _ _ =>none)⟩
def xb(b c d:Int):Ed:=⟨fo m C,qC 162 bHs (qC 36 nh (qC 165 (sN m C 165 b) (qC 166 (sN m C 166 c) (qC 35 (sN m C 35 d) λ_ _ _ =>none))))⟩
def xc(r:Int):Ed:=⟨fo m C,qC 112 (sN m C 112 r) λ_ _ _ =>none⟩
theorem bPs(n:Int):fj prog (fo m C) 243 [.int .i64 n] (.bool false):=by
 have h:=gq (Wd m C) rfl (f:=243) (by kernel_rfl) (by kernel_rfl) func243 (by kernel_rfl) (ts:=[.int .i64 n]) (by kernel_rfl) (ds:=[]) (r:= .bool (n !=n)) (b:=true) (by kernel_rfl) rfl;simpa using h
theorem bAj{b:gC}{r:T}{c:gL}(h:nh b=some (r,c)):fj prog (fo m C) 66 b r:=by
 unfold nh at h;split at h;cases h;exact jg (Iz (f:=66) rfl);cases h
theorem UR:rV prog (mJ m C).env.gl (mJ m C).env.pe:=
 pG (pG rM λb r c h d=>bAj m C h) λb r c h d=>by
  unfold bHv at h;split at h;cases h;exact bPs m C _;cases h
theorem C1(a b:gH):fj prog (fo m C) 36 [.str a,.str b] (.int .i64 (Lib.compareBytes a b)):=
 gq (UR m C) rfl (f:=36) (by kernel_rfl) (by kernel_rfl) func36 (by kernel_rfl) (by kernel_rfl) (ds:=[]) (b:=true) (by kernel_rfl) rfl
theorem bPp(a b:Int):fj prog (fo m C) 162 [.int .i64 a,.int .i64 b] (.int .i64 (cI a b)):=by
 have go:∀{ds:gL} {r:Int} {c:Bool},(uC (mJ m C) f162 [.int .i64 a,.int .i64 b] ds).map (λq=>(q.1,oU q.2))=some (.int .i64 r,c)->c=true->fj prog (fo m C) 162 [.int .i64 a,.int .i64 b] (.int .i64 r):=λh d=>gq (UR m C) rfl (by kernel_rfl) (by kernel_rfl) func162 (by kernel_rfl) (by kernel_rfl) h d;unfold cI;split;exact go (ds:=[false,false,true]) (c:=decide (a<b)&&true) (by kernel_rfl) (by simpa);split;exact go (ds:=[false,false,false,true]) (c:=decide (a>b)&&(!decide (a<b)&&true)) (by kernel_rfl) (by simp;omega);exact go (ds:=[false,false,false,false]) (c:= !decide (a>b)&&(!decide (a<b)&&true)) (by kernel_rfl) (by simp;omega)
theorem aWj(i f g:Int):rV prog (xb m C i f g).env.gl (xb m C i f g).env.pe:=
 pG (pG (pG (pG (pG rM λd r c h b=>Zv h b) λd r c h b=>Zv h b) λd r c h b=>Zv h b) λd r c h b=>by
  unfold nh at h;split at h;cases h;exact C1 m C _ _
  cases h) λd r c h b=>by
  unfold bHs at h;split at h;cases h;exact bPp m C _ _;cases h
theorem aWk(r:Int):rV prog (xc m C r).env.gl (xc m C r).env.pe:=pG rM λd r c h b=>Zv h b
def aJa(g:Nat->Int):Nat->List Bool
 |0=>[]|j+1=>(!(g j !=0))::List.replicate 4 true++aJa g j
theorem C2(g:Nat->Int):∀j:Nat,j<=6->uC (mJ m C) f35 [.sl true ((List.range 6).map λi=> .int .i64 (g i))] ((List.replicate j [true,false]).flatten++if j=6 then [false,false]else [true,true])=some (.int .i64 (if j=6 then 0 else g j),if j=6 then true::aJa g 6 else(g j !=0)::List.replicate 4 true++aJa g j):=by
 intro j h;rcases j with _ |_ |_ |_ |_ |_ |_ |j<;>first|omega|kernel_rfl
theorem C3(g:Nat->Int):∃r:Int,fj prog (fo m C) 35 [.sl true ((List.range 6).map λi=> .int .i64 (g i))] (.int .i64 r)/\(r=0↔∀i,i<6->g i=0):=by
 obtain⟨j,p,d,c⟩:=HQ (λi=>decide (g i=0)) 6;simp only[aF,decide_eq_false_iff_not]at d c;have n:∀k,k<=j->oU (aJa g k)=true:=by
  intro k
  induction k with
  |zero=>intro _;rfl
  |succ k o=>
   intro q;unfold aJa;simp only[dR,oU,d k (by omega)];exact DL (o (by omega)) 4
 refine⟨_,gq (UR m C) rfl (f:=35) (by kernel_rfl) (by kernel_rfl) func35 (by kernel_rfl) (by kernel_rfl) (b:=true) (by rw[C2 m C g j p,cK];congr 2;split;(· rename_i e;subst e;exact n 6 (bB _));(· simp only[dR,oU];rw[show(g j !=0)=true by simpa using c (by omega),cL];exact DL (n j (bB _)) 4)) rfl,?_⟩;split;rename_i e;subst e;simp;exact d;exact⟨λe=>absurd e (c (by omega)),λh=>h j (by omega)⟩
end
theorem Cf:∀a b:List UInt8,Lib.compareBytes a b=0↔a=b
 |[],[]=>by simp[Lib.compareBytes]|[],_ ::_ =>by simp[Lib.compareBytes]|_ ::_,[]=>by simp[Lib.compareBytes]
 |x::a,y::b=>by
  unfold Lib.compareBytes;split;rename_i h;exact⟨λe=>by omega,λe=>by rw[(fB e).1]at h;exact absurd h (UInt8.lt_irrefl _)⟩;split;rename_i h;exact⟨λe=>by omega,λe=>by rw[(fB e).1]at h;exact absurd h (UInt8.lt_irrefl _)⟩;rename_i d c;rw[Cf a b];have e:x=y:=UInt8.le_antisymm (UInt8.not_lt.1 c) (UInt8.not_lt.1 d);subst e;simp
theorem Gf(a b:Int):cI a b=0↔a=b:=by
 unfold cI;split;omega;split<;>omega
section
variable(m C)
theorem bHd(v w:Vl){j g:Int}(s:fj prog (fo m C) 165 [.ac false v.n v.list,.ac false w.n w.list,.fn (.func 112) [] []] (.int .i64 j))(q:fj prog (fo m C) 166 [.ac false v.m v.jk,.ac false w.m w.jk,.fn (.func 167) [] []] (.int .i64 g)):
  PB m C 71 [AK v,AK w] (decide (v.kind=w.kind/\v.int=w.int/\v.scale=w.scale/\v.text=w.text/\j=0/\g=0)):=by
 obtain⟨r,p,x⟩:=C3 m C λi=>[cI v.kind w.kind,cI v.int w.int,cI v.scale w.scale,Lib.compareBytes v.text w.text,j,g].getD i 0;have p:fj prog (fo m C) 35 [.sl true [.int .i64 (cI v.kind w.kind),.int .i64 (cI v.int w.int),.int .i64 (cI v.scale w.scale),.int .i64 (Lib.compareBytes v.text w.text),.int .i64 j,.int .i64 g]] (.int .i64 r):=p;have k:fj prog (fo m C) 112 [AK v,AK w] (.int .i64 r):=
  gq (aWj m C j g r) rfl (f:=112) (by kernel_rfl) (by kernel_rfl) func112 (by kernel_rfl) (by kernel_rfl) (ds:=[])
   (b:=pb (fj prog (fo m C) 35 [.sl true [.int .i64 (cI v.kind w.kind),.int .i64 (cI v.int w.int),.int .i64 (cI v.scale w.scale),.int .i64 (Lib.compareBytes v.text w.text),.int .i64 j,.int .i64 g]] (.int .i64 r))&&(pb (fj prog (fo m C) 166 [.ac false v.m v.jk,.ac false w.m w.jk,.fn (.func 167) [] []] (.int .i64 g))&&(pb (fj prog (fo m C) 165 [.ac false v.n v.list,.ac false w.n w.list,.fn (.func 112) [] []] (.int .i64 j))&&true)))
   (by kernel_rfl) (by simp[pN,p,s,q])
 have o:PB m C 71 [AK v,AK w] (r==0):=gq (aWk m C r) rfl (f:=71) (by kernel_rfl) (by kernel_rfl) func71 (by kernel_rfl) (by kernel_rfl) (ds:=[]) (b:=pb (fj prog (fo m C) 112 [AK v,AK w] (.int .i64 r))&&true) (by kernel_rfl) (by simp[pN,k]);have e:(r==0)=decide (v.kind=w.kind/\v.int=w.int/\v.scale=w.scale/\v.text=w.text/\j=0/\g=0):=by
  rw[eB,bN,aF,x];rw[<-Gf,<-Gf v.int,<-Gf v.scale,<-Cf];constructor;intro h;exact⟨h 0 (by omega),h 1 (by omega),h 2 (by omega),h 3 (by omega),h 4 (by omega),h 5 (by omega)⟩;rintro⟨a,b,c,d,e,f⟩ i u
  match i,u with
  |0,_ =>exact a|1,_ =>exact b|2,_ =>exact c|3,_ =>exact d|4,_ =>exact e|5,_ =>exact f|i+6,h=>omega
 rw[<-e];exact o
theorem UC(n:Nat)(u f:iK):fj prog (fo m C) 165 [.ac false 0 f,.ac false n u,.fn (.func 112) [] []] (.int .i64 (if 0<n then-1 else 0))/\fj prog (fo m C) 166 [.ac false 0 f,.ac false n u,.fn (.func 167) [] []] (.int .i64 (if 0<n then-1 else 0)):=by
 have go:∀{ds:gL} {r:Int} {c:Bool},(uC (mJ m C) f165 [.ac false 0 f,.ac false n u,.fn (.func 112) [] []] ds).map (λq=>(q.1,oU q.2))=some (.int .i64 r,c)->c=true->fj prog (fo m C) 165 [.ac false 0 f,.ac false n u,.fn (.func 112) [] []] (.int .i64 r):=λh b=>gq (UR m C) rfl (by kernel_rfl) (by kernel_rfl) func165 (by kernel_rfl) (by kernel_rfl) h b;have g:∀{ds:gL} {r:Int} {c:Bool},(uC (mJ m C) f166 [.ac false 0 f,.ac false n u,.fn (.func 167) [] []] ds).map (λq=>(q.1,oU q.2))=some (.int .i64 r,c)->c=true->fj prog (fo m C) 166 [.ac false 0 f,.ac false n u,.fn (.func 167) [] []] (.int .i64 r):=λh b=>gq (UR m C) rfl (by kernel_rfl) (by kernel_rfl) func166 (by kernel_rfl) (by kernel_rfl) h b;by_cases h:0<n;rw[aJ h];exact⟨go (ds:=[false,true]) (c:=decide (((0:Nat):Int)<n)&&(true&&true)) (by kernel_rfl) (by simpa using h),g (ds:=[false,true]) (c:=decide (((0:Nat):Int)<n)&&(true&&true)) (by kernel_rfl) (by simpa using h)⟩;rw[aH h];exact⟨go (ds:=[false,false]) (c:= !decide (((0:Nat):Int)<n)&&(true&&true)) (by kernel_rfl) (by simpa using h),g (ds:=[false,false]) (c:= !decide (((0:Nat):Int)<n)&&(true&&true)) (by kernel_rfl) (by simpa using h)⟩
variable[Inhabited gy]
theorem aAc{c:tW}(o:c∈[Lq,Ls]){e F:A}{lo hi:Int}(g:c.pre=[.gp e 1 6,.ig 0 0,F])(h:c.res= .ft .i64 1 1){n:Nat}{u f:iK}{t:T}(j:Gm [] [] (.gp e 0 6) (.ac false n u))(hF:Gm [] [] F t)(v:0<n):fj prog (fo m C) c.f [.ac false n u,.ac false 0 f,t] (.int .i64 1):=by
 obtain⟨r,i,b⟩:=bMs m C c o (ts:=[.ac false n u,.ac false 0 f,t]) (by
  rw[g];refine pV ?_ (pV (.ig _ _ false 0 f (by simp) (by simp)) (pV hF wF));cases j with
  |gp _ _ _ _ x k1 k2 k3 d=>
   refine .gp _ _ _ _ x k1 ?_ k3 d;rcases k1 with⟨k,_⟩|⟨_,k⟩|⟨_,_,_,k,rfl⟩
   cases k;cases k
   cases k;simp;omega)
 rw[h]at b;cases b with
 |ft _ _ _ z s q p=>
  obtain rfl:z=1:=by omega
  exact i
theorem xd{v w:Vl}(k:Gm [] [] (.agg (vA 40 6 1)) (AK v))(o:∃a b c s,w=⟨a,b,c,s,0,λ_ =>oS,0,λ_ =>oS⟩):Y2 m C 71 (AK v) (AK w):=by
 obtain⟨a,b,c,s,rfl⟩:=o;have g:pT [] [] [fk,fk,fk,txt 40,.gp (.agg (vA 40 6 0)) 0 6,.gp (.agg (txt 40::vA 40 6 0)) 0 6] (lr v):=by
  cases k with
  |agg _ _ f d=>exact⟨f,d⟩
 have B:=g.2 4 _ _ rfl rfl;have u:=g.2 5 _ _ rfl rfl;obtain⟨i,p,x⟩:∃r:Int,fj prog (fo m C) 165 [.ac false v.n v.list,.ac false 0 (λ_ =>oS),.fn (.func 112) [] []] (.int .i64 r)/\(r=0↔v.n=0):=by
  by_cases h:0<v.n;exact⟨1,aAc m C (c:=Lq) (by simp) (lo:=0) (hi:=0) rfl rfl B (aVc _) h,by omega⟩;obtain h:v.n=0:=by omega
  rw[h];exact⟨_,(UC m C 0 _ _).1,by simp⟩
 obtain⟨j,y,z⟩:∃r:Int,fj prog (fo m C) 166 [.ac false v.m v.jk,.ac false 0 (λ_ =>oS),.fn (.func 167) [] []] (.int .i64 r)/\(r=0↔v.m=0):=by
  by_cases h:0<v.m;exact⟨1,aAc m C (c:=Ls) (by simp) (lo:=0) (hi:=0) rfl rfl u (aVc _) h,by omega⟩;obtain h:v.m=0:=by omega
  rw[h];exact⟨_,(UC m C 0 _ _).2,by simp⟩
 have f:=bHd m C v ⟨a,b,c,s,0,λ_ =>oS,0,λ_ =>oS⟩ p y;have d:=bHd m C ⟨a,b,c,s,0,λ_ =>oS,0,λ_ =>oS⟩ v (UC m C v.n v.list _).1 (UC m C v.m v.jk _).2;refine⟨_,f,?_⟩;have e:decide (v.kind=a/\v.int=b/\v.scale=c/\v.text=s/\i=0/\j=0)=decide (a=v.kind/\b=v.int/\c=v.scale/\s=v.text/\(if 0<v.n then(-1:Int)else 0)=0/\(if 0<v.m then(-1:Int)else 0)=0):=by
  rw[decide_eq_decide,x,z,eq_comm (a:=a),eq_comm (a:=b),eq_comm (a:=c),eq_comm (a:=s)];have q:∀n:Nat,(if 0<n then(-1:Int)else 0)=0↔n=0:=λn=>by split<;>omega
  rw[q,q]
 show PB m C 71 _ (decide (v.kind=a/\v.int=b/\v.scale=c/\v.text=s/\i=0/\j=0));rw[e];exact d
theorem aXz:∀(d:Nat) (q p:Kd),kJ d q->Gm [] [] (.agg (eA d)) (pJ q)->Bx p->Y2 m C 44 (pJ q) (pJ p):=by
 intro d
 induction d with
 |zero=>
  intro q p b j s;obtain⟨w2,n2⟩:=Hy j;cases s with
  |mk _ c k o v=>
  refine xa (wE n2 λi h f=>xd m C (w2 i h) (o i f)) ?_;obtain⟨y,e,g⟩:=b;rw[k,y,g];exact wz (by omega) λi h=>absurd h (by omega)
 |succ d z=>
  intro q p b j s;obtain⟨w2,n2⟩:=Hy j;obtain⟨e,g,b⟩:=b;cases s with
  |mk _ c k o v=>
  obtain⟨x,u⟩:=Ym j;refine xa (wE n2 λi h f=>xd m C (w2 i h) (o i f)) ?_;rw[k,g];rw[g]at u;exact wz x λi h f=>z _ _ (b i h) (u i h) (v i f)
end
end
section
variable(m:Int)(C:gB)
def sT(f:gX)(r:T):List T->Option (T×List Bool):=λb=>some (r,[pb (fj prog (fo m C) f b r)])
theorem xY{f:gX}{q:T}{b:gC}{r:T}{c:gL}(h:sT m C f q b=some (r,c))(d:oU c=true):fj prog (fo m C) f b r:=by
 unfold sT at h;cases h;simpa [oU,pN]using d
def Tv(n:Int):Bool:=decide (n>=0)&&decide (n<=1048576)
def xe:List T->Option (T×List Bool)
 |[.int .i64 n]=>some (.bool (Tv n),[])|_ =>none
theorem C4(n:Int):fj prog (fo m C) 25 [.int .i64 n] (.bool (Tv n)):=by
 have go:∀{ds:gL} {r c:Bool},(uC (DY m C) f25 [.int .i64 n] ds).map (λq=>(q.1,oU q.2))=some (.bool r,c)->c=true->fj prog (fo m C) 25 [.int .i64 n] (.bool r):=λh b=>gq (Wd m C) rfl (by kernel_rfl) (by kernel_rfl) func25 (by kernel_rfl) (by kernel_rfl) h b;unfold Tv;by_cases h:n>=0;rw[bU h,cL];exact go (ds:=[true,true,true]) (c:=decide (n>=0)&&(decide (n>=0)&&(decide (n>=0)&&true))) (by kernel_rfl) (by simp;omega);rw[cT h,Bool.false_and];exact go (ds:=[false,false,false]) (c:= !decide (n>=0)&&(!decide (n>=0)&&(!decide (n>=0)&&true))) (by kernel_rfl) (by simp;omega)
variable(a:Fq)(b6 b7:Bool)(e:Int)
def Dk:Ed:=⟨fo m C,qC 26 (sT m C 26 (.bool b6)) (qC 27 (sT m C 27 (.bool b7)) (qC 28 (sT m C 28 (.int .i64 e)) (qC 25 xe λ_ _ _ =>none)))⟩
theorem aUl:rV prog (Dk m C b6 b7 e).env.gl (Dk m C b6 b7 e).env.pe:=
 pG (pG (pG (pG rM λd r c h b=>by
  unfold xe at h;split at h;cases h;exact C4 m C _
  cases h) λd r c h b=>xY m C h b) λd r c h b=>xY m C h b) λd r c h b=>xY m C h b
abbrev kN:Bool:= !(a.nd==[])
abbrev qy:Bool:=pb (fj prog (fo m C) 26 [.str a.nd] (.bool b6))
abbrev qz:Bool:=pb (fj prog (fo m C) 27 [.str a.rs] (.bool b7))
abbrev q9:Bool:=pb (fj prog (fo m C) 28 [pJ (a.u 0)] (.int .i64 e))
abbrev kR:Bool:=decide ((a.rs.length:Int)>64)
def L0(x:Bool):List Bool:=if x then [!!b6,kN a,kN a,qy m C a b6,kN a,kN a,kN a]else true::List.replicate 5 (!kN a)
def dk0(x:Bool):List Bool:=if x then [true,true,true,true,true,false]else List.replicate 6 false
def L2(x:Bool):List Bool:=(!!b7)::qz m C a b7::(!kR a)::L0 m C a b6 x
def dk2(x:Bool):List Bool:=dk0 x++[false,false]
def LM(w:Bool):List Bool:=if w then(!!Tv a.till)::List.replicate 6 (!!Tv a.fr)else(!decide (a.till>1048576))::(List.replicate 4 (!decide (a.till<0))++(List.replicate 4 (!decide (a.fr>1048576))++List.replicate 4 (!decide (a.fr<0))))
def L4(w x:Bool):List Bool:=LM a w++L2 m C a b6 b7 x
def xf(w x:Bool):List Bool:=dk2 x++List.replicate (if w then 7 else 13) false
def L5(w x y:Bool):List Bool:=(if y then(!decide (a.till<a.fr))::List.replicate 6 (a.till !=0)else true::List.replicate 6 (!(a.till !=0)))++L4 m C a b6 b7 w x
def ra(w x y:Bool):List Bool:=xf w x++if y then List.replicate 6 true++[false]else List.replicate 7 false
noncomputable def C5(w:Bool):Func:=if w then f10 else f11
def uK(w:Bool)(ds:gL):Option (T×List Bool):=uC (Dk m C b6 b7 e) (C5 w) [BI a] ds
theorem k1(w:Bool):uK m C a b6 b7 e w (List.replicate 6 true)=some (.int .i64 12,[!b6,kN a,kN a,qy m C a b6,kN a,kN a,kN a]):=by cases w<;>kernel_rfl
theorem k2(w x:Bool):uK m C a b6 b7 e w (dk0 x++[true])=some (.int .i64 5,kR a::L0 m C a b6 x):=by cases w<;>cases x<;>kernel_rfl
theorem k3(w x:Bool):uK m C a b6 b7 e w (dk0 x++[false,true])=some (.int .i64 16,(!b7)::qz m C a b7::(!kR a)::L0 m C a b6 x):=by cases w<;>cases x<;>kernel_rfl
theorem C6(x:Bool):uK m C a b6 b7 e true (dk2 x++List.replicate 7 true)=some (.int .i64 2,true::(List.replicate 6 (!Tv a.fr)++L2 m C a b6 b7 x)):=by cases x<;>kernel_rfl
theorem C7(x:Bool):uK m C a b6 b7 e true (dk2 x++(List.replicate 6 false++[true]))=some (.int .i64 2,(!Tv a.till)::(List.replicate 6 (!!Tv a.fr)++L2 m C a b6 b7 x)):=by cases x<;>kernel_rfl
theorem C8(x:Bool):uK m C a b6 b7 e false (dk2 x++List.replicate 13 true)=some (.int .i64 2,List.replicate 9 true++(List.replicate 4 (decide (a.fr<0))++L2 m C a b6 b7 x)):=by cases x<;>kernel_rfl
theorem C9(x:Bool):uK m C a b6 b7 e false (dk2 x++(List.replicate 4 false++List.replicate 9 true))=some (.int .i64 2,List.replicate 5 true++(List.replicate 4 (decide (a.fr>1048576))++(List.replicate 4 (!decide (a.fr<0))++L2 m C a b6 b7 x))):=by cases x<;>kernel_rfl
theorem Df(x:Bool):uK m C a b6 b7 e false (dk2 x++(List.replicate 8 false++List.replicate 5 true))=some (.int .i64 2,true::(List.replicate 4 (decide (a.till<0))++(List.replicate 4 (!decide (a.fr>1048576))++(List.replicate 4 (!decide (a.fr<0))++L2 m C a b6 b7 x)))):=by cases x<;>kernel_rfl
theorem Do(x:Bool):uK m C a b6 b7 e false (dk2 x++(List.replicate 12 false++[true]))=some (.int .i64 2,decide (a.till>1048576)::(List.replicate 4 (!decide (a.till<0))++(List.replicate 4 (!decide (a.fr>1048576))++(List.replicate 4 (!decide (a.fr<0))++L2 m C a b6 b7 x)))):=by cases x<;>kernel_rfl
theorem k5(w x:Bool):uK m C a b6 b7 e w (xf w x++List.replicate 7 true)=some (.int .i64 24,decide (a.till<a.fr)::(List.replicate 6 (a.till !=0)++L4 m C a b6 b7 w x)):=by cases w<;>cases x<;>kernel_rfl
theorem k6(w x y:Bool):uK m C a b6 b7 e w (ra w x y++[true])=some (.int .i64 9,decide ((a.k:Int)>1)::L5 m C a b6 b7 w x y):=by cases w<;>cases x<;>cases y<;>kernel_rfl
theorem k7(w x y:Bool):uK m C a b6 b7 e w (ra w x y++[false,true])=some (.int .i64 e,(if w then [q9 m C a e,true,true,true,decide ((0:Int)<a.k),true,decide ((0:Int)<a.k)]else [q9 m C a e,true,decide ((0:Int)<a.k),true,(a.k:Int)==1])++(!decide ((a.k:Int)>1))::L5 m C a b6 b7 w x y):=by cases w<;>cases x<;>cases y<;>kernel_rfl
theorem k8(w x y:Bool):uK m C a b6 b7 e w (ra w x y++[false,false])=some (.int .i64 0,(if w then !decide ((0:Int)<a.k)else !((a.k:Int)==1))::(!decide ((a.k:Int)>1))::L5 m C a b6 b7 w x y):=by cases w<;>cases x<;>cases y<;>kernel_rfl
theorem qB{b:Bool}{l:gL}(h:b=true)(k:oU l=true):oU (b::l)=true:=by simp[oU,h,k]
theorem BD{b:Bool}{l:gL}(n:Nat)(h:b=true)(k:oU l=true):oU (List.replicate n b++l)=true:=by rw[h];exact DL k n
theorem Le{k l:gL}(h:oU k=true)(c:oU l=true):oU (k++l)=true:=by
 induction k with
 |nil=>exact c|cons b k i=>simp only[oU,aA]at h;exact qB h.1 (i h.2)
variable{m C a b6 b7 e}
theorem aXo(Z:fj prog (fo m C) 26 [.str a.nd] (.bool b6))(Y:fj prog (fo m C) 27 [.str a.rs] (.bool b7))(W:0<a.k->fj prog (fo m C) 28 [pJ (a.u 0)] (.int .i64 e)):
  ∃E:Int,(∀w:Bool,fj prog (fo m C) (if w then 10 else 11) [BI a] (.int .i64 E))/\(E=0->(0<=a.fr/\a.fr<=1048576)/\(0<=a.till/\a.till<=1048576)/\a.k<=1):=by
 have go:∀{w:Bool} {ds c:gL} {r:Int},uK m C a b6 b7 e w ds=some (.int .i64 r,c)->oU c=true->fj prog (fo m C) (if w then 10 else 11) [BI a] (.int .i64 r):=λ{w ds c r} h R=>by
  have N:(uK m C a b6 b7 e w ds).map (λq=>(q.1,oU q.2))=some (.int .i64 r,oU c):=by rw[h];rfl
  cases w with
  |true=>exact gq (aUl m C b6 b7 e) rfl (f:=10) (by kernel_rfl) (by kernel_rfl) func10 (by kernel_rfl) (by kernel_rfl) N R|false=>exact gq (aUl m C b6 b7 e) rfl (f:=11) (by kernel_rfl) (by kernel_rfl) func11 (by kernel_rfl) (by kernel_rfl) N R
 have B:qy m C a b6=true:=pN.2 Z;have K:qz m C a b7=true:=pN.2 Y;by_cases o:kN a=true/\b6=false;obtain⟨o,rfl⟩:=o;exact⟨12,λw=>go (k1 m C a false b7 e w) (by simp only[oU,o,B];rfl),λh=>by omega⟩;obtain⟨x,H⟩:∃x,oU (L0 m C a b6 x)=true:=by
  cases hn:kN a with
  |false=>exact⟨false,by unfold L0;rw[hn];rfl⟩
  |true=>
   cases hb:b6 with
   |false=>exact absurd ⟨hn,hb⟩ o|true=>rw[hb]at B;exact⟨true,by unfold L0;rw[hn];simp only[cB,oU,B];rfl⟩
 by_cases j:kR a=true;exact⟨5,λw=>go (k2 m C a b6 b7 e w x) (qB j H),λh=>by omega⟩;have j:(!kR a)=true:=by simpa using j
 cases b7 with
 |false=>exact⟨16,λw=>go (k3 m C a b6 false e w x) (qB rfl (qB K (qB j H))),λh=>by omega⟩|true=>
 have l2:oU (L2 m C a b6 true x)=true:=qB rfl (qB K (qB j H));have b:∀n:Int,Tv n=true↔0<=n/\n<=1048576:=λn=>by unfold Tv;rw[aA,aF,aF]
 by_cases s:Tv a.fr=true/\Tv a.till=true;obtain⟨i1,i2⟩:=s;have L:=(b _).1 i1;have P:=(b _).1 i2;have p:∀w,oU (L4 m C a b6 true w x)=true:=λw=>by
  refine Le ?_ l2;unfold LM;cases w with
  |true=>rw[i1,i2];rfl|false=>rw[aH (by decide),cT (by omega),cT (by omega),cT (by omega),cT (by omega)];rfl
 by_cases v:a.till≠0/\a.till<a.fr;exact⟨24,λw=>go (k5 m C a b6 true e w x) (qB (bU v.2) (BD 6 (bne_iff_ne.2 v.1) (p w))),λh=>by omega⟩;obtain⟨y,O⟩:∃y,∀w,oU (L5 m C a b6 true w x y)=true:=by
  by_cases h:a.till=0;exact⟨false,λw=>qB rfl (BD 6 (by rw[h];rfl) (p w))⟩;exact⟨true,λw=>qB (by rw[cT (λq=>v ⟨h,q⟩)];rfl) (BD 6 (bne_iff_ne.2 h) (p w))⟩
 by_cases Q:(a.k:Int)>1;exact⟨9,λw=>go (k6 m C a b6 true e w x y) (qB (bU Q) (O w)),λh=>by omega⟩;have J:∀w,oU ((!decide ((a.k:Int)>1))::L5 m C a b6 true w x y)=true:=λw=>qB (by rw[cT Q];rfl) (O w);by_cases V:0<a.k;have U:q9 m C a e=true:=pN.2 (W V);have D:decide ((0:Int)<a.k)=true:=bU (by omega);have z:((a.k:Int)==1)=true:=beq_iff_eq.2 (by omega);refine⟨e,λw=>go (k7 m C a b6 true e w x y) (Le ?_ (J w)),λh=>⟨L,P,by omega⟩⟩;rw[U,D,z];cases w<;>rfl;have D:decide ((0:Int)<a.k)=false:=cT (by omega);have z:((a.k:Int)==1)=false:=beq_eq_false_iff_ne.2 (by omega);refine⟨0,λw=>go (k8 m C a b6 true e w x y) (qB ?_ (J w)),λh=>⟨L,P,by omega⟩⟩;rw[D,z];cases w<;>rfl;refine⟨2,λw=> ?_,λh=>by omega⟩;cases w with
 |true=>
  cases i1:Tv a.fr with
  |false=>exact go (C6 m C a b6 true e x) (qB rfl (BD 6 (by rw[i1];rfl) l2))
  |true=>
   have i2:Tv a.till=false:=by
    cases h:Tv a.till with
    |false=>rfl|true=>exact absurd ⟨i1,h⟩ s
   exact go (C7 m C a b6 true e x) (qB (by rw[i2];rfl) (BD 6 (by rw[i1];rfl) l2))
 |false=>
  rw[b,b]at s;by_cases I:a.fr<0;exact go (C8 m C a b6 true e x) (BD 9 rfl (BD 4 (bU I) l2));have d:(!decide (a.fr<0))=true:=by rw[cT I];rfl
  by_cases M:a.fr>1048576;exact go (C9 m C a b6 true e x) (BD 5 rfl (BD 4 (bU M) (BD 4 d l2)));have i:(!decide (a.fr>1048576))=true:=by rw[cT M];rfl
  by_cases S:a.till<0;exact go (Df m C a b6 true e x) (qB rfl (BD 4 (bU S) (BD 4 i (BD 4 d l2))));have F:(!decide (a.till<0))=true:=by rw[cT S];rfl
  exact go (Do m C a b6 true e x) (qB (bU (by omega)) (BD 4 F (BD 4 i (BD 4 d l2))))
end
end
end Go.Proofs.Tryz
