/- Lemmas for the card; no conditions. -/
import Derived.Test.YthfdachbgpjafaaGreatDoorXc6
set_option linter.unusedSimpArgs false
set_option linter.unusedVariables false
set_option linter.unusedSectionVars false
set_option maxRecDepth 100000
open Go.IntKind
namespace Go.Proofs.Tryz
open Go.Ps
theorem rK1:sF prog gK1=true:=by kernel_rfl
theorem rKq:sF prog gKq=true:=by kernel_rfl
theorem rKr:sF prog gKr=true:=by kernel_rfl
theorem rK3:sF prog gK3=true:=by kernel_rfl
theorem rK4:sF prog gK4=true:=by kernel_rfl
theorem ry0:∀s∈[Wh 0],qZ prog (UJ Dd RY) (Hd 0) 4 s=true:=aH.1 (by kernel_rfl)
theorem rx0:∀s∈(Fr 0),qZ prog (UJ Dd RY) (Hd 0) 4 s=true:=aH.1 (by kernel_rfl)
theorem ry1:∀s∈[Wh 1],qZ prog (UJ Dd RY) (Hd 1) 4 s=true:=aH.1 (by kernel_rfl)
theorem rx1:∀s∈(Fr 1),qZ prog (UJ Dd RY) (Hd 1) 4 s=true:=aH.1 (by kernel_rfl)
theorem ry2:∀s∈[Wh 2],qZ prog (UJ Dd RY) (Hd 2) 4 s=true:=aH.1 (by kernel_rfl)
theorem rx2:∀s∈(Fr 2),qZ prog (UJ Dd RY) (Hd 2) 4 s=true:=aH.1 (by kernel_rfl)
theorem ry3:∀s∈[Wh 3],qZ prog (UJ Dd RY) (Hd 3) 4 s=true:=aH.1 (by kernel_rfl)
theorem rx3:∀s∈(Fr 3),qZ prog (UJ Dd RY) (Hd 3) 4 s=true:=aH.1 (by kernel_rfl)
theorem rk0:∀s∈(aLs 0),qZ prog (UJ aNu RY) (Hd 1) 4 s=true:=aH.1 (by kernel_rfl)
theorem rk1:∀s∈(aLs 1),qZ prog (UJ aNu RY) (Hd 2) 4 s=true:=aH.1 (by kernel_rfl)
theorem rk2:∀s∈(aLs 2),qZ prog (UJ aNu RY) (Hd 3) 4 s=true:=aH.1 (by kernel_rfl)
theorem r28:∀c∈l28,yT prog (UJ Dd RY) (Hd 4) 8 c=true:=aH.1 (by kernel_rfl)
theorem bPp:([215,221,228,224,287,301,295]:List Nat).all (λf=>vL prog f&&zD prog f)=true:=by kernel_rfl
theorem bPq:([222,223,287,301]:List Nat).all (λf=>vL prog f&&zD prog f)=true:=by kernel_rfl
theorem bPr:([219]:List Nat).all (λf=>vL prog f&&zD prog f)=true:=by kernel_rfl
theorem bPv:([218,93,141,292]:List Nat).all (λf=>vL prog f&&zD prog f)=true:=by kernel_rfl
theorem bPu:([217,146,289,140]:List Nat).all (λf=>vL prog f&&zD prog f)=true:=by kernel_rfl
variable[Inhabited Prd]
noncomputable section
theorem tP:sJ<=40:=by decide
def dZ:FuncId->Bool:=λf=>sQ f [115,207,208,56,40]
def eZ(m:Int)(te:fS):FuncId->List T->Option T:=peZ
theorem bOs{gl:fY}:GlA gl (λ_ =>none):=λg a h=>by cases h
variable(m:Int)(te:fS)
theorem bPa:Lay prog (glZ m te) 40 (λ_ =>none) peS (eZ m te) dZ:=by
 refine⟨bOs,aYb,aYc m te,λf ts h=> ?_,aMy _⟩;have hn:∀k,sQ k [115,207,208,56,40]=true->f≠k:=λk hk e=>by subst e;rw[show dZ f=sQ f [115,207,208,56,40]from rfl,hk]at h;cases h
 unfold eZ peZ;rw[if_neg (hn 115 rfl),if_neg (hn 207 rfl),if_neg (hn 208 rfl),if_neg (hn 56 rfl),if_neg (hn 40 rfl)]
abbrev sG:=Lay prog (glZ m te) 40 (λ_ =>none)
abbrev jI:=Int->TypeId->FuncId->List T->Option T
def nE(gs:List xD)(e:jI)(m:Int)(te:fS):FuncId->List T->Option T:=FW prog (glZ m te) (e m te) (bGo gs) (bIa gs) 40 λf=>(GZ gs).any λc=>Nat.beq c.f f
def nD(gs:List xD)(d:iA):FuncId->Bool:=λf=>((GZ gs).any λc=>Nat.beq c.f f)||d f
theorem go{m:Int}{te:fS}{pa:FuncId->List A->Nat->List qV->Option AV}{e:jI}{dom:iA}(h:sG m te pa (e m te) dom){g:xD}{gs:List xD}(tl:gI)
  (h3:sF prog (g::gs)=true) (ht:g.1.top=λf=>sQ f tl) (htl:tl.all (λf=>vL prog f&&zD prog f)=true) (h2:aHn dom (g::gs)=true) (h1:Ps.MR (λ_ =>none) pa g.1 (g::gs)):
  sG m te (qX (GZ (g::gs)) pa) (nE (g::gs) e m te) (nD (g::gs) dom):=
 Lay.go h follows (rC m te) tP tl ht htl h1 h2 h3
def eK1:=nE gK1 eZ
def dK1:=nD gK1 dZ
theorem bEm:sG m te (pK1) (eK1 m te) dK1:=go (bPa m te) [209] rK1 rfl (by kernel_rfl) (by kernel_rfl) ⟨r5,trivial⟩
def eKq:=nE gKq eK1
def dKq:=nD gKq dK1
theorem bEp:sG m te (pKq) (eKq m te) dKq:=go (bEm m te) [270,273,275] rKq rfl (by kernel_rfl) (by kernel_rfl) ⟨r5,trivial⟩
def eKr:=nE gKr eKq
def dKr:=nD gKr dKq
theorem bEq:sG m te (pKr) (eKr m te) dKr:=go (bEp m te) [26,27,60,205,317,269,271,272,274,276,277,278,279,280,281] rKr rfl (by kernel_rfl) (by kernel_rfl) ⟨r5,trivial⟩
def eK3:=nE gK3 eKr
def dK3:=nD gK3 dKr
theorem bEn:sG m te (pK3) (eK3 m te) dK3:=go (bEq m te) [137,203,204,282,283,92,139,140,197,206,262] rK3 rfl (by kernel_rfl) (by kernel_rfl) ⟨r5,r5,trivial⟩
def eK4:=nE gK4 eK3
def dK4:=nD gK4 dK3
theorem Zl:sG m te (RY) (eK4 m te) dK4:=go (bEn m te) [58,88,89,90,91,93,94,138,141] rK4 rfl (by kernel_rfl) (by kernel_rfl) ⟨r5,r5,trivial⟩
end
end Go.Proofs.Tryz
namespace Go.Proofs.Tryz
open Go.Ps
theorem rZ0:sF prog gZ0=true:=by kernel_rfl
theorem rZ1:sF prog gZ1=true:=by kernel_rfl
theorem rZ2:sF prog gZ2=true:=by kernel_rfl
theorem rZ3:sF prog gZ3=true:=by kernel_rfl
theorem rZ4:sF prog gZ4=true:=by kernel_rfl
theorem rW0:sF prog gW0=true:=by kernel_rfl
theorem rW1:sF prog gW1=true:=by kernel_rfl
theorem rW2:sF prog gW2=true:=by kernel_rfl
theorem rW3:sF prog gW3=true:=by kernel_rfl
theorem rW8:sF prog gW8=true:=by kernel_rfl
theorem bHj:sF prog aWu=true:=by kernel_rfl
variable[Inhabited Prd]
noncomputable section
def eZ0:=nE gZ0 eK4
def dZ0:=nD gZ0 dK4
variable(m:Int)(te:fS)
theorem bFg:sG m te (pZ 1) (eZ0 m te) dZ0:=go (Zl m te) [29] rZ0 rfl (by kernel_rfl) (by kernel_rfl) ⟨r5,trivial⟩
def eZ1:=nE gZ1 eZ0
def dZ1:=nD gZ1 dZ0
theorem bFh:sG m te (pZ 2) (eZ1 m te) dZ1:=go (bFg m te) [29] rZ1 rfl (by kernel_rfl) (by kernel_rfl) ⟨r5,r5,trivial⟩
def eZ2:=nE gZ2 eZ1
def dZ2:=nD gZ2 dZ1
theorem bFi:sG m te (pZ 3) (eZ2 m te) dZ2:=go (bFh m te) [29] rZ2 rfl (by kernel_rfl) (by kernel_rfl) ⟨r5,r5,r5,trivial⟩
def eZ3:=nE gZ3 eZ2
def dZ3:=nD gZ3 dZ2
theorem bFj:sG m te (pZ 4) (eZ3 m te) dZ3:=go (bFi m te) [29] rZ3 rfl (by kernel_rfl) (by kernel_rfl) ⟨r5,r5,r5,r5,trivial⟩
def eZ4:=nE gZ4 eZ3
def dZ4:=nD gZ4 dZ3
theorem bFk:sG m te (pZ 5) (eZ4 m te) dZ4:=go (bFj m te) [29] rZ4 rfl (by kernel_rfl) (by kernel_rfl) ⟨r5,r5,r5,r5,r5,trivial⟩
def eW0:=nE gW0 eZ4
def dW0:=nD gW0 dZ4
theorem bFd:sG m te (pS3) (eW0 m te) dW0:=go (bFk m te) [55] rW0 rfl (by kernel_rfl) (by kernel_rfl) ⟨r5,trivial⟩
def eW1:=nE gW1 eW0
def dW1:=nD gW1 dW0
theorem bFe:sG m te (pS4) (eW1 m te) dW1:=go (bFd m te) [55] rW1 rfl (by kernel_rfl) (by kernel_rfl) ⟨r5,r5,trivial⟩
def eW2:=nE gW2 eW1
def dW2:=nD gW2 dW1
theorem bFf:sG m te (pS5) (eW2 m te) dW2:=go (bFe m te) [55] rW2 rfl (by kernel_rfl) (by kernel_rfl) ⟨r5,r5,r5,trivial⟩
def eW3:=nE gW3 eW2
def dW3:=nD gW3 dW2
theorem aUf:sG m te (pS6) (eW3 m te) dW3:=go (bFf m te) [55] rW3 rfl (by kernel_rfl) (by kernel_rfl) ⟨r5,r5,r5,r5,trivial⟩
def eW8:=nE gW8 eW3
def dW8:=nD gW8 dW3
theorem aJv:sG m te (pS7) (eW8 m te) dW8:=go (aUf m te) [8,23] rW8 rfl (by kernel_rfl) (by kernel_rfl) ⟨r5,trivial⟩
def bMc:=nE aWu eW8
def bLx:=nD aWu dW8
theorem aXi:sG m te (pS8) (bMc m te) bLx:=go (aJv m te) [12] bHj rfl (by kernel_rfl) (by kernel_rfl) ⟨r5,trivial⟩
end
end Go.Proofs.Tryz
namespace Go.Ps
variable[Inhabited Prd]
def CC(x y:T):Prop:=x.cells.length=y.cells.length/\∀(g:G) (j:Nat) (a:gQ) (cx cy:T),x.cells[j]? =some cx->y.cells[j]? =some cy->Rd g a cx->HH g a cy
theorem GQ{Y:Type}[Inhabited Y]{U:gJ}{O:fW}(mk:Y->T)(Q:Y->Prop){e:A}(hQ:∀a,Q a->Gm U O e (mk a))(conv:∀x,Gm U O e x->∃a,Q a/\CC x (mk a)){lo hi:Int}{c:T}(h:Gm U O (.slv e lo hi) c):
  ∃(n:Nat) (u:Nat->Y),(n:Int)<=hi/\(∀j,j<n->Q (u j))/\Gm U O (.slv e lo hi) (.slf false n λj=>mk (u j))/\∀g v,Rd g v c->HH g v (.slf false n λj=>mk (u j)):=by
 cases h with
 |slv _ _ _ _ xs h1 h2 h3 h4=>
  have hex:∃u:Nat->Y,∀j (hj:j<xs.length),Q (u j)/\CC xs[j] (mk (u j)):=by
   refine⟨λj=>if hj:j<xs.length then Classical.choose (conv xs[j] (h4 _ (cK hj)))else default,λj hj=> ?_⟩;simp only[dif_pos hj];exact dF (conv xs[j] (h4 _ (cK hj)))
  obtain⟨u,hu⟩:=hex;refine⟨xs.length,u,h3,λj hj=>(hu j hj).1,.slv _ _ _ _ ((List.range xs.length).map λj=>mk (u j)) (.inr (.inr ⟨_,_,_,rfl,rfl⟩)) (by simpa using h2) (by simpa using h3) (λx hx=> ?_),λg v hr=> ?_⟩
  .obtain⟨j,hj,rfl⟩:=bQ.1 hx;exact hQ _ (hu j (dJ.1 hj)).1
  rcases h1 with⟨rfl,rfl⟩|⟨f,rfl⟩|⟨full,m,f,rfl,rfl⟩
  .cases hr;exact .slfn false _ none
  .cases hr with
   |sl _ _ sz b o cap vs k1 k2 k3 k4 k5 k6 k7 k8=>
    refine .slf false xs.length _ sz b o cap vs (λq=>k1 (λe=>q (by simp[e]))) (λi hi=> ?_) k3 k4 (λe=>by cases e) k6 k7 (λi j w c hi hj hw hc=> ?_)
    .rw[<-(hu i hi).2.1];exact k2 _ (cK hi)
    .have hl:=k2 _ (cK hi);have hx:(xs[i]).cells[j]? =some (xs[i].cells[j]'(by omega)):=aB _;exact(hu i hi).2.2 g j w _ c hx hc (k8 _ w _ hw (GP k2 (aB hi) j _ hx))
  .have hlen:((List.range m).map f).length=m:=by simp
   cases hr with
   |slfn _ _ p=>exact .slfn false _ p
   |slf _ _ _ sz b o cap vs k1 k2 k3 k4 k5 k6 k7 k8=>
    have hg:∀i (hi:i<m),((List.range m).map f)[i]'(by simpa using hi)=f i:=λi hi=>by simp
    have key:HH g (.slice (some ⟨b,o,none⟩) m cap) (.slf false m λj=>mk (u j)):=by
     refine .slf false m _ sz b o cap vs k1 (λi hi=> ?_) k3 k4 (λe=>by cases e) k6 k7 (λi j w c hi hj hw hc=> ?_)
     .have:=(hu i (by simpa using hi)).2.1;rw[hg i hi]at this;rw[<-this];exact k2 i hi
     .have hq:=(hu i (by simpa using hi)).2;rw[hg i hi]at hq;have hl:=k2 i hi;have hx:(f i).cells[j]? =some ((f i).cells[j]'(by omega)):=aB _;exact hq.2 g j w _ c hx hc (k8 i j w _ hi hj hw hx).rd
    rw[hlen];exact key
end Go.Ps
namespace Go.Proofs.Tryz
open Go.Ps
variable[Inhabited Prd]
section
variable{U:gJ}{O:fW}
instance:Inhabited Vl:=⟨⟨0,0,0,[],0,λ_ =>pV,0,λ_ =>pV⟩⟩
instance:Inhabited Ps.Fd:=⟨⟨[],default⟩⟩
theorem Uf{x:T}(h:Gm U O ifull x):∃a:Int,Gm U O ifull (.int .i64 a)/\CC x (.int .i64 a):=by
 obtain⟨n,rfl,_,_⟩:=inv_int h;refine⟨n,h,rfl,λg j a cx cy h1 h2 hr=> ?_⟩;have e:cx=cy:=bX (h1.symm.trans h2);subst e
 match j,h1 with
 |0,h1=>cases h1;cases hr;exact .int _ _
theorem inv_sv{t:Int}{x:T}(h:Gm U O (txt t) x):∃s,x= .str s:=by
 cases h with
 |strv _ _ s _ _ =>exact⟨s,rfl⟩
theorem aWw{es ts:_}(h:Gm U O (.agg es) (.agg ts)):qO U O es ts:=by
 cases h with
 |agg _ _ h1 h2=>exact⟨h1,h2⟩
end
end Go.Proofs.Tryz
namespace Go.Proofs.Tryz
open Go.Ps
noncomputable section
structure Li where
 p0:T
 p1:T
 p2:T
 p3:T
 p4:T
 p5:T
 p6:T
 p7:T
 p8:T
 p9:T
 node:List UInt8
 text:List UInt8
 ver:Int
def Li.m(x:Li):T:= .agg [x.p0,x.p1,x.p2,x.p3,x.p4,x.p5,x.p6,x.p7,x.p8,x.p9]
def Li.c(x:Li):List T:=[x.p0,x.p1,x.p2,x.p3,x.p4,x.p5,x.p6,x.p7,x.p8,x.p9,.str x.node,.str x.text,.int .i64 x.ver]
def Li.t(x:Li):T:= .agg x.c
def aOu(c:T->Lr)(x:Li):Lr:={c x.m with node:=x.node,text:=x.text,ver:=x.ver}
section
variable(m:Int)(te:fS)
def s12(c:T->Lr):List T->Option (T×List Bool)
 |[x]=>some (.agg (c x).m,[pb (pW prog (glZ m te) 12 [x] (.agg (c x).m))])|_ =>none
def DJ(c:T->Lr):Ed:=⟨glZ m te,rT 12 (s12 m te c) (λ_ _ _ =>none)⟩
def F15:Fc:=⟨λs=>Nat.beq s 2||(Nat.beq s 3||Nat.beq s 5),λ_ _ _ =>none⟩
def bLy(n:Nat):List Bool:=(List.replicate n [true,true,true,true]).flatten++[false,false,false,false]
def mcL(n:Nat)(f:gZ):T:= .agg [.int .i64 0,.int .i64 0,.int .i64 0,.nils,.nils,.nils,.nils,rsL n f]
def pC(c:T->Lr)(x:Nat->Li)(j:Nat):Bool:=pb (pW prog (glZ m te) 12 [(x j).m] (.agg (c (x j).m).m))
theorem u15(c:T->Lr)(x:Nat->Li)(fl:Bool):∀n:Nat,n<=12->((u (DJ m te c) F15 f15 [.slf fl n λj=>(x j).t] (bLy n)).map λq=>(q.1,qA q.2))=some (mcL n λj=>zI (λj=>aOu c (x j)) j,cj2 (pC m te c x) (λj=>rM (x j).c) n):=by
 intro n h;rcases n with _ |_ |_ |_ |_ |_ |_ |_ |_ |_ |_ |_ |_ |n<;>first|omega|kernel_rfl
def cj5(p q d:jM):Nat->Bool
 |0=>true|k+1=>p k&&(q k&&(d k&&(d k&&(d k&&(d k&&cj5 p q d k)))))
def bCa:List Bool:=(List.replicate 12 [true,true,true,true]).flatten++[true,true,true,false]
theorem bRw(c:T->Lr)(x:Nat->Li)(fl:Bool)(K:Nat):((u (DJ m te c) F15 f15 [.slf fl K λj=>(x j).t] bCa).map λq=>(q.1,qA q.2))=some (mcL 12 λj=>zI (λj=>aOu c (x j)) j,decide ((12:Int)<K)&&(decide ((12:Int)<K)&&(decide ((12:Int)<K)&&cj5 (pC m te c x) (λj=>rM (x j).c) (λj=>decide ((j:Int)<K)) 12))):=by kernel_rfl
end
end
variable[Inhabited Prd]
noncomputable section
section
variable{U:gJ}{O:fW}
instance:Inhabited T:=⟨pV⟩
def tDb:Nat->A->Bool
 |0,_ =>false
 |d+1,e=>match e with
  | .ival _ _ _ =>true| .strv _ _ =>true| .slv (.agg es) _ _ =>es.all (tDb d)| .sxv _ h=>decide (h<=0)|_ =>false
def Tl(U:gJ)(O:fW)(e:A):Prop:=∀x,Gm U O e x->∃y,Gm U O e y/\∀g v,Rd g v x->HH g v y
theorem Hf:∀{es:List A} {ts:fU},(∀e∈es,Tl U O e)->qO U O es ts->∃us,qO U O es us/\∀(j:Nat) (x y:T),ts[j]? =some x->us[j]? =some y->∀g v,Rd g v x->HH g v y
 |[],ts,_,g=>⟨[],vX,λj x y h1 h2=>by simp at h2⟩
 |e::es,ts,h,g=>by
  obtain⟨x,r,rfl,g0,k⟩:=g.inv_cons;obtain⟨y,q1,q2⟩:=h e (by simp) x g0;obtain⟨us,k1,k2⟩:=Hf (λe he=>h e (by simp[he])) k;refine⟨y::us,qC q1 k1,λj a b h1 h2=> ?_⟩
  match j,h1,h2 with
  |0,h1,h2=>cases h1;cases h2;exact q2|j+1,h1,h2=>exact k2 j a b h1 h2
theorem Ln{es:List A}(h:∀e∈es,Tl U O e)(x:T)(hx:Gm U O (.agg es) x):∃y,Gm U O (.agg es) y/\CC x y:=by
 cases hx with
 |agg _ ts h1 h2=>
  obtain⟨us,g,k⟩:=Hf h ⟨h1,h2⟩;exact⟨.agg us,FM g,h1.symm.trans g.1,λg' j a cx cy q1 q2 hr=>k j cx cy q1 q2 g' a hr⟩
theorem aBi:∀(d:Nat) (e:A),tDb d e=true->Tl U O e
 |0,_,h=>by simp[tDb]at h
 |d+1,e,h=>by
  intro x hx;unfold tDb at h;split at h
  .cases hx with
   |ival _ _ _ n h1 h2 h3=>exact⟨_,.ival _ _ _ n h1 h2 h3,λg v hr=>by cases hr;exact .int _ _⟩
  .cases hx with
   |strv _ _ s h1 h2=>exact⟨_,.strv _ _ s h1 h2,λg v hr=>by cases hr;exact .str _⟩
  .obtain⟨n,u,_,_,g1,g2⟩:=GQ id (Gm U O _) (λ_ h=>h) (λx hx=>by
    obtain⟨y,h1,h2⟩:=Ln (λe he=>aBi d e (aH.1 h e he)) x hx
    exact⟨y,h1,h2⟩) hx
   exact⟨_,g1,g2⟩
  .cases hx with
   |sxv _ _ fu n f1 q1 q2=>
    have h:=of_decide_eq_true h;obtain rfl:n=0:=by omega
    refine⟨_,.sxv _ _ false 0 f1 q1 q2,λg v hr=> ?_⟩;cases hr with
    |slfn _ _ p=>exact .slfn false _ p|slf _ _ _ sz b o cap vs k1 k2 k3 k4 k5 k6 k7 k8=>exact .slf false 0 _ sz b o cap vs k1 (λi hi=>absurd hi (by omega)) k3 k4 (λe=>by cases e) k6 k7 (λi j w c hi=>absurd hi (by omega))
  .cases h
theorem aIw{x:T}(h:Gm U O (.agg [txt 100,txt 100,ifull,ifull,.slv (.agg (eA 3)) 0 8]) x):∃a:Fl,Gm U O (.agg [txt 100,txt 100,ifull,ifull,.slv (.agg (eA 3)) 0 8]) (yQ a)/\∀g v,Rd g v x->Rd g v (yQ a):=by
 cases h with
 |agg _ ts h1 h2=>
 obtain⟨x0,r,rfl,g0,k⟩:=(show qO U O [txt 100,txt 100,ifull,ifull,.slv (.agg (eA 3)) 0 8] ts from⟨h1,h2⟩).inv_cons;obtain⟨x1,r,rfl,g1,k⟩:=k.inv_cons;obtain⟨x2,r,rfl,g2,k⟩:=k.inv_cons;obtain⟨x3,r,rfl,g3,k⟩:=k.inv_cons;obtain⟨x4,r,rfl,g4,k⟩:=k.inv_cons;have e:=k.inv_nil;subst e;obtain⟨a,rfl⟩:=inv_sv g0;obtain⟨b,rfl⟩:=inv_sv g1;obtain⟨c,rfl,_,_⟩:=inv_int g2;obtain⟨d,rfl,_,_⟩:=inv_int g3;obtain⟨n,u,_,_,g5,hr5⟩:=GQ id (Gm U O (.agg (eA 3))) (λ_ h=>h) (Ln λe he=>aBi 12 e (aH.1 (show(eA 3).all (tDb 12)=true by kernel_rfl) e he)) g4;refine⟨⟨a,b,c,d,false,n,u⟩,FM (qC g0 (qC g1 (qC g2 (qC g3 (qC g5 vX))))),λg v hr=> ?_⟩;cases hr with
 |agg _ vs k1 k2=>
  refine .agg _ vs k1 λj c t hj ht=> ?_
  match j,ht with
  |0,ht=>cases ht;exact k2 0 c _ hj rfl|1,ht=>cases ht;exact k2 1 c _ hj rfl|2,ht=>cases ht;exact k2 2 c _ hj rfl|3,ht=>cases ht;exact k2 3 c _ hj rfl|4,ht=>cases ht;exact(hr5 g c (k2 4 c _ hj rfl)).rd|j+5,ht=>simp at ht
end
section
variable(m:Int)(te:fS)
theorem cxJ(c:T->Lr):Cx prog (DJ m te c) F15:=by
 refine⟨follows,qN rR λts r cs h hc=> ?_,rG⟩;unfold s12 at h;split at h
 .cases h;simp only[qA,bC,rD]at hc;exact hc
 .cases h
theorem Vn{g:G}{u:gQ}{n:Nat}{w:iW}(h:Rd g u (mcL n λj=>zI w j)):Rd g u (LX n w):=by
 cases h with
 |agg _ vs k1 k2=>
  refine .agg _ vs k1 λj c t hc ht=> ?_
  match j,ht with
  |0,ht=>cases ht;exact k2 0 c _ hc rfl|1,ht=>cases ht;exact k2 1 c _ hc rfl|2,ht=>cases ht;exact k2 2 c _ hc rfl|3,ht=>cases ht;exact k2 3 c _ hc rfl|4,ht=>cases ht;exact k2 4 c _ hc rfl|5,ht=>cases ht;exact k2 5 c _ hc rfl|6,ht=>cases ht;exact k2 6 c _ hc rfl|7,ht=>cases ht;exact EG (λj _ c hc=>by simp[T.cells,zI,Lr.c]at hc;rcases hc with rfl|rfl|rfl|rfl|rfl|rfl|rfl|rfl|rfl|rfl|rfl|rfl|rfl<;>rfl) (k2 7 c _ hc rfl)
  |j+8,ht=>simp at ht
theorem aHq{p q d:jM}:∀{k:Nat},(∀j,j<k->p j=true/\q j=true/\d j=true)->cj5 p q d k=true
 |0,_ =>rfl
 |k+1,h=>by
  obtain⟨h1,h2,h3⟩:=h k (by omega);simp[cj5,h1,h2,h3,aHq (k:=k) λj hj=>h j (by omega)]
theorem Vk{c:T->Lr}{x:Nat->Li}{K:Nat}(fl:Bool)(hp:∀j,j<min K 12->pW prog (glZ m te) 12 [(x j).m] (.agg (c (x j).m).m))(ho:∀j,j<min K 12->rM (x j).c=true):
  pW prog (glZ m te) 15 [.slf fl K λj=>(x j).t] (LX (min K 12) λj=>aOu c (x j)):=by
 by_cases h:K<=12
 .rw[Nat.min_eq_left h]at hp ho⊢;exact(u_ok (cxJ m te c) rfl (f:=15) (by kernel_rfl) (by kernel_rfl) func15 (by kernel_rfl) (by kernel_rfl) (u15 m te c x fl K h) (aHp λj hj=>⟨rD.2 (hp j hj),ho j hj⟩)).mono λg v=>Vn
 .rw[Nat.min_eq_right (by omega)]at hp ho⊢
  exact(u_ok (cxJ m te c) rfl (f:=15) (by kernel_rfl) (by kernel_rfl) func15 (by kernel_rfl) (by kernel_rfl) (bRw m te c x fl K) (by
   have hk:decide ((12:Int)<K)=true:=decide_eq_true (by omega);simp only[hk,Bool.true_and]
   exact aHq λj hj=>⟨rD.2 (hp j hj),ho j hj,decide_eq_true (by omega)⟩)).mono λg v=>Vn
end
end
end Go.Proofs.Tryz
namespace Go.Proofs.Tryz
open Go.Ps
noncomputable section
structure L6 where
 fl:Bool
 K:Nat
 x:Nat->Li
 a0:T
 a1:T
 a2:T
 a3:T
 a4:T
 a:Fl
 n:Nat
 w:Nat->Lr
 k:Nat
 v:Nat->Lr
def L6.t(q:L6):T:= .agg [q.a0,q.a1,q.a2,q.a3,q.a4]
def L6.l(q:L6):T:= .slf q.fl q.K λj=>(q.x j).t
def L6.g(q:L6):T:= .slf false q.k λi=>zI q.v i
def L6.h(q:L6):Hp:=⟨2,.nd (some {elem:=24,sz:=0,cells:=(yQ q.a).cells}) (.nd (some {elem:=48,sz:=0,cells:=(LX q.n q.w).cells}) .nl .nl) .nl⟩
variable(m:Int)(te:fS)
def s14(f:T):List T->Option (T×List Bool)
 |[x,y]=>some (.bool (bOf m te f y),[pb (x=f),pb (pW prog (glZ m te) 14 [f,y] (.bool (bOf m te f y)))])|_ =>none
structure L5 extends L6 where
 ng:Nat
 G:Nat->Gr
def L5.gs(q:L5):T:= .slf false q.ng λi=> .agg (q.G i).c
def h5(q:L5)(J:gY):Nat->Hp
 |0=>q.toL6.h|r+1=>(h5 q J r).new {elem:=53,sz:=0,cells:=(J r).c}
def F5:Fc:=⟨λs=>Nat.beq s 3||(Nat.beq s 5||Nat.beq s 1009),λ_ _ _ =>none⟩
def D5(q:L5):Ed:=⟨glZ m te,rT 8 (c1s 8 m te q.t (yQ q.a)) (rT 15 (c1s 15 m te q.l (LX q.n q.w)) (rT 9 s9 (rT 17 (c2s 17 m te (LX q.n q.w) (yQ q.a) q.g) (rT 14 (s14 m te (yQ q.a)) (rT 16 (c2s 16 m te (LX q.n q.w) (yQ q.a) q.gs) (λ_ _ _ =>none))))))⟩
theorem cx5(q:L5)(h9:pW prog (glZ m te) 9 [] (.bool true)):Cx prog (D5 m te q) F5:=by
 refine⟨follows,?_,rG⟩;refine qN (qN (qN (qN (qN (qN rR λts r cs h hc=>Ie h hc) λts r cs h hc=> ?_) λts r cs h hc=>Ie h hc) λts r cs h hc=> ?_) λts r cs h hc=>Ud h hc) λts r cs h hc=>Ud h hc
 .unfold s14 at h;split at h
  .cases h;simp only[qA,bC,aA,rD]at hc;rw[hc.1];exact hc.2
  .cases h
 .unfold s9 at h;split at h
  .cases h;exact h9
  .cases h
section
variable(m:Int)(te:fS)(q:L5)
def k5a:List Nat:=[3,5,6,7,8]
def k5b:List Nat:=[3,5,6,7,8,9,10]
def v5(c i:Int):List T:=[.ptr 0 0,.ptr 1 0,q.gs,.int .i64 c,.int .i64 i]
def v5b(r:Nat)(c i k:Int):List T:=v5 q c i++[.ptr (2+r) 0,.int .i64 k]
def x5(J:gY)(r:Nat)(c i:Int)(fr:fU)(ds:gH):RD Lu:=rH prog (D5 m te q) F5 2000 (.code (qS f5 0).1) (.lp::(qS f5 0).2) 0 (frK k5a (v5 q c i) fr 160) (h5 q J r) ds []
def h5g(J:gY)(r:Nat)(g:Gr):Hp:=(h5 q J r).new {elem:=53,sz:=0,cells:=g.c}
def x5b(J:gY)(r:Nat)(g:Gr)(c i k:Int)(fr:fU)(ds:gH):RD Lu:=rH prog (D5 m te q) F5 2000 (.code (qS f5 1).1) (.lp::(qS f5 1).2) 0 (frK k5b (v5b q r c i k) fr 160) (h5g q J r g) ds []
def b5(i:Nat):Bool:=bOf m te (yQ q.a) (zI q.w i)
end
section
variable(m:Int)(te:fS)(q:L5)(J:gY)(g:Gr)(c i k:Int)(fr:fU)
def LD(z:Option (LC×List Bool×Hp×List T×Nat)):Option (LC×Bool×Hp×List T×Nat):=z.map λz=>(z.1,qA z.2.1,z.2.2)
def nn5(k:Int):Bool:=(q.w k.toNat).node==g.node
def tt5(k:Int):Bool:=(q.w k.toNat).text==g.text
abbrev dA:List Bool:=List.replicate 13 true
abbrev dB:List Bool:=true::(List.replicate 6 false++List.replicate 6 true)
abbrev dC:List Bool:=true::(List.replicate 11 false++[true])
abbrev dD:List Bool:=true::(List.replicate 12 false++[true])
abbrev dE:List Bool:=true::List.replicate 13 false
def gD(e ms:Int):Gr:=⟨g.node,g.text,i64.wrap (g.cnt+1),i64.wrap (g.mass+ms),e,e⟩
def gE(e ms:Int):Gr:=⟨g.node,g.text,i64.wrap (g.cnt+1),i64.wrap (g.mass+ms),mnI g.first e,mxI g.last e⟩
def o5b(r:Nat)(ds:gH):=sR prog f5 20 k5b (x5b m te q J r g c i k fr ds)
def hA:List Bool:=[decide (0<=k),decide (k<q.n),decide (k<q.n)]
def hN:List Bool:=List.replicate 6 (!!nn5 q g k)++hA q k
def hT:List Bool:=List.replicate 2 (!!tt5 q g k)++[pb (yQ q.a=yQ q.a),pb (pW prog (glZ m te) 14 [yQ q.a,zI q.w k.toNat] (.bool (b5 m te q k.toNat)))]++List.replicate 3 (!!tt5 q g k)++hN q g k
def wA5(r:Nat)(g':Gr)(l:gH):Option (LC×Bool×Hp×List T×Nat):=some (.again 0,qA l,h5g q J r g',v5b q r c i (i64.wrap (k+1)),160)
theorem w5A{r:Nat}(h:r<12):LD (o5b m te q J g c i k fr r dA)=wA5 q J c i k r g (List.replicate 6 (!nn5 q g k)++hA q k):=by
 rcases r with _ |_ |_ |_ |_ |_ |_ |_ |_ |_ |_ |_ |n<;>first|omega|kernel_rfl
theorem w5B{r:Nat}(h:r<12):LD (o5b m te q J g c i k fr r dB)=wA5 q J c i k r g (List.replicate 5 (!tt5 q g k)++hN q g k):=by
 rcases r with _ |_ |_ |_ |_ |_ |_ |_ |_ |_ |_ |_ |n<;>first|omega|kernel_rfl
theorem w5C{r:Nat}(h:r<12):LD (o5b m te q J g c i k fr r dC)=wA5 q J c i k r g ((!b5 m te q k.toNat)::hT m te q g k):=by
 rcases r with _ |_ |_ |_ |_ |_ |_ |_ |_ |_ |_ |_ |n<;>first|omega|kernel_rfl
theorem w5D{r:Nat}(h:r<12):LD (o5b m te q J g c i k fr r dD)=wA5 q J c i k r (gD g (q.w k.toNat).e (q.w k.toNat).ms) (decide (g.cnt=0)::(!!b5 m te q k.toNat)::hT m te q g k):=by
 rcases r with _ |_ |_ |_ |_ |_ |_ |_ |_ |_ |_ |_ |n<;>first|omega|kernel_rfl
theorem w5E{r:Nat}(h:r<12):LD (o5b m te q J g c i k fr r dE)=wA5 q J c i k r (gE g (q.w k.toNat).e (q.w k.toNat).ms) ((!decide (g.cnt=0))::(!!b5 m te q k.toNat)::hT m te q g k):=by
 rcases r with _ |_ |_ |_ |_ |_ |_ |_ |_ |_ |_ |_ |n<;>first|omega|kernel_rfl
abbrev dG0:List Bool:=List.replicate 26 false
abbrev dG1:List Bool:=List.replicate 11 false++(List.replicate 10 true++(List.replicate 21 false++[true,false,false,true,false,false]))
abbrev dG2:List Bool:=List.replicate 11 false++(List.replicate 10 true++(List.replicate 10 false++(List.replicate 9 true++[false,true,true,false,false,true,false,false])))
def o5a(r:Nat)(kp:gI)(ds:gH):=sR prog f5 20 kp (x5 m te q J r c i fr ds)
def o5e(r:Nat)(ds:gH):=sR prog f5 20 k5a (x5b m te q J r g c i k fr ds)
def o50:=sR prog f5 20 k5a (rH prog (D5 m te q) F5 2000 (.code (qD f5)) [] 0 ([q.l,q.t]++List.replicate 158 pV) ⟨0,.nl⟩ [] [])
def cE5(a b:Gr):Bool:=a.node==b.node&&(a.text==b.text&&(a.cnt==b.cnt&&(a.mass==b.mass&&(a.first==b.first&&(a.last==b.last&&true)))))
def pG(i:Int):Gr:=q.G (i64.wrap (i-1)).toNat
def cX5(a b:Gr):Bool:=Op.bytesLess a.node b.node||a.node==b.node
def cQ5(a b:Gr):Bool:=a.node==b.node
def cR5(a b:Gr):Bool:=Op.bytesLess a.text b.text
abbrev rp(n:Nat)(b:Bool):List Bool:=List.replicate n b
def lJ:List Bool:=[decide (0<=i64.wrap (i-1)),decide (i64.wrap (i-1)<q.ng)]
def lZ:List Bool:=rp 3 (!!cE5 (q.G i.toNat) g)++rp 4 (!decide (g.cnt=0))++[decide (0<=i),decide (i<q.ng)]++rp 3 (!decide (g.cnt=0))++[!decide (k<q.n)]
def lG0:List Bool:=[!!cE5 (q.G i.toNat) g,!decide (0<i),!!cE5 (q.G i.toNat) g]++rp 11 (!decide (0<i))++lZ q g i k
def lY:List Bool:=rp 6 (!!cX5 (pG q i) g)++lJ q i++rp 4 (!!cX5 (pG q i) g)++rp 6 (decide (0<i))++lJ q i++rp 4 (decide (0<i))++lZ q g i k
def lX:List Bool:=[!!cE5 (q.G i.toNat) g,decide (0<i),!!cE5 (q.G i.toNat) g,!!cX5 (pG q i) g,decide (0<i)]
def lG1:List Bool:=lX q g i++[!cQ5 (pG q i) g,!!cX5 (pG q i) g]++rp 9 (!cQ5 (pG q i) g)++lY q g i k
def lG2:List Bool:=(!!cR5 (pG q i) g)::lX q g i++[cQ5 (pG q i) g,!!cX5 (pG q i) g]++rp 5 (cQ5 (pG q i) g)++lJ q i++rp 4 (cQ5 (pG q i) g)++lY q g i k
def wE5(r:Nat)(l:gH):Option (LC×Bool×Hp×List T×Nat):=some (.again 1,qA l,h5g q J r g,v5 q (i64.wrap (c+g.cnt)) (i64.wrap (i+1)),160)
theorem bSj:LD (o5e m te q J g c i k fr 0 dG0)=wE5 q J g c i 0 (lG0 q g i k):=by kernel_rfl
theorem bSk{r:Nat}(h:r+1<12):LD (o5e m te q J g c i k fr (r+1) dG1)=wE5 q J g c i (r+1) (lG1 q g i k):=by
 rcases r with _ |_ |_ |_ |_ |_ |_ |_ |_ |_ |_ |n<;>first|omega|kernel_rfl
theorem bSl{r:Nat}(h:r+1<12):LD (o5e m te q J g c i k fr (r+1) dG2)=wE5 q J g c i (r+1) (lG2 q g i k):=by
 rcases r with _ |_ |_ |_ |_ |_ |_ |_ |_ |_ |_ |n<;>first|omega|kernel_rfl
theorem w5a{r:Nat}(h:r<12):LD (o5a m te q J c i fr r k5b [true])=some (.loop 0 (qS f5 1).1 (qS f5 1).2,qA [decide (0<=i),decide (i<q.ng),decide (0<=i),decide (i<q.ng),decide (i<q.ng)],h5g q J r (zK (q.G i.toNat).node (q.G i.toNat).text),v5b q r c i 0,160):=by
 rcases r with _ |_ |_ |_ |_ |_ |_ |_ |_ |_ |_ |_ |n<;>first|omega|kernel_rfl
theorem w5z{r:Nat}(h:r<13):LD (o5a m te q J c i fr r [] (false::rp 7 true))=some (.done (some (.bool (c==q.k))),qA [pb (LX q.n q.w=LX q.n q.w),pb (yQ q.a=yQ q.a),pb (pW prog (glZ m te) 17 [LX q.n q.w,yQ q.a] q.toL6.g),!decide (i<q.ng)],⟨0,.nl⟩,[],0):=by
 rcases r with _ |_ |_ |_ |_ |_ |_ |_ |_ |_ |_ |_ |_ |n<;>first|omega|kernel_rfl
theorem w50:LD (o50 m te q)=some (.loop 0 (qS f5 0).1 (qS f5 0).2,qA [pb (LX q.n q.w=LX q.n q.w),pb (yQ q.a=yQ q.a),pb (pW prog (glZ m te) 16 [LX q.n q.w,yQ q.a] q.gs),pb (q.l=q.l),pb (pW prog (glZ m te) 15 [q.l] (LX q.n q.w)),pb (q.t=q.t),pb (pW prog (glZ m te) 8 [q.t] (yQ q.a))],h5 q J 0,v5 q 0 0,160):=by kernel_rfl
end
theorem Rh(b:jM):∀k j,Ay b (k+1) j=Ay b k j++(if b (j+k)=true then [j+k]else [])
 |0,j=>rfl
 |k+1,j=>by
  have h:=Rh b k (j+1);rw[show j+1+k=j+(k+1) by omega]at h;show(if b j=true then j::Ay b (k+1) (j+1)else Ay b (k+1) (j+1))=(if b j=true then j::Ay b k (j+1)else Ay b k (j+1))++_;rw[h];split<;>rfl
section
variable(m:Int)(te:fS)(q:L5)
def g5(r k:Nat):Gr:=grp (q.G r).node (q.G r).text ((Ay (b5 m te q) k 0).map q.w)
structure H5:Prop where
 n:q.n<=12
 ng:q.ng<=12
 k:q.k<=12
 s8:pW prog (glZ m te) 8 [q.t] (yQ q.a)
 s15:pW prog (glZ m te) 15 [q.l] (LX q.n q.w)
 s16:pW prog (glZ m te) 16 [LX q.n q.w,yQ q.a] q.gs
 s17:pW prog (glZ m te) 17 [LX q.n q.w,yQ q.a] q.toL6.g
 s14:∀i,i<q.n->pW prog (glZ m te) 14 [yQ q.a,zI q.w i] (.bool (b5 m te q i))
 g:∀i,i<q.ng->q.G i=g5 m te q i q.n/\1<=(q.G i).cnt/\(q.G i).cnt<=12
 lt:∀i,i+1<q.ng->UW (q.G i) (q.G (i+1))=true
 pt:∀i,i<=q.ng->0<=PO q.G i/\PO q.G i<=q.k
 sm:PO q.G q.ng=q.k
 kn:pW prog (glZ m te) 9 [] (.bool true)
def stI(r k:Nat):Option ((Bool×Nat×Nat)⊕T):=if r<q.ng/\k<=q.n then(if k<q.n then some (.inl (true,r,k+1))else some (.inl (false,r+1,0)))else none
def stO(r:Nat):Option ((Bool×Nat×Nat)⊕T):=if r<q.ng then some (.inl (true,r,0))else if r=q.ng then some (.inr (.bool true))else none
def M5:vO (Bool×Nat×Nat) where
 lp:=λs=>cond s.1 1 0
 keep:=λp=>cond (Nat.beq p 0) k5a k5b
 par:=λp=>cond (Nat.beq p 0) [] [0]
 vs:=λs=>cond s.1 (v5b q s.2.1 (PO q.G s.2.1) s.2.1 s.2.2) (v5 q (PO q.G s.2.1) s.2.1)
 hp:=λs=>cond s.1 (h5g q q.G s.2.1 (g5 m te q s.2.1 s.2.2)) (h5 q q.G s.2.1)
 len:=160
 step:=λs=>cond s.1 (stI q s.2.1 s.2.2) (stO q s.2.1)
variable{m te q}
theorem EN{z:Option (LC×List Bool×Hp×List T×Nat)}{a:LC}{b:Bool}{H:Hp}{vs:fU}{n:Nat}(h:LD z=some (a,b,H,vs,n))(hb:b=true):∃log,z=some (a,log,H,vs,n)/\qA log=true:=by
 unfold LD at h;rw[aD]at h;obtain⟨⟨a',log,H',vs',n'⟩,e1,e2⟩:=h;simp only[aU]at e2;obtain⟨rfl,e2,rfl,rfl,rfl⟩:=e2;exact⟨log,e1,e2.trans hb⟩
theorem aHa{l:gH}(h:∀b∈l,b=true):qA l=true:=by
 induction l with
 |nil=>rfl|cons a l ih=>simp only[qA,aA];exact⟨h a aL,ih λb hb=>h b (aG _ hb)⟩
theorem bCt(r k:Nat):(g5 m te q r k).node=(q.G r).node/\(g5 m te q r k).text=(q.G r).text:=by
 have:∀(nd tx:gU) (ys:kH) (g:Gr),(ys.foldl (λg y=>if MR nd tx y=true then PR g y else g) g).node=g.node/\(ys.foldl (λg y=>if MR nd tx y=true then PR g y else g) g).text=g.text:=by
  intro nd tx ys
  induction ys with
  |nil=>intro g;exact⟨rfl,rfl⟩
  |cons y ys ih=>
   intro g;rw[List.foldl_cons];obtain⟨h1,h2⟩:=ih (if MR nd tx y=true then PR g y else g);rw[h1,h2];split<;>exact⟨rfl,rfl⟩
 exact this _ _ _ _
theorem aPl(r k:Nat):g5 m te q r (k+1)=if b5 m te q k=true then(if MR (q.G r).node (q.G r).text (q.w k)=true then PR (g5 m te q r k) (q.w k)else g5 m te q r k)else g5 m te q r k:=by
 unfold g5;rw[Rh,bP];split
 .rw[eQ,List.map_singleton,XS]
 .rw[fP]
theorem aUn(H:H5 m te q){r:Nat}(hr:r<q.ng){N:Nat}{t:T}(h:(M5 m te q).run N (false,r+1,0)=some t):∀d k,q.n-k=d->k<=q.n->(M5 m te q).run (N+d+1) (true,r,k)=some t
 |0,k,e,hk=>by
  have e':(M5 m te q).step (true,r,k)=some (.inl (false,r+1,0)):=by
   show stI q r k=_;unfold stI;rw[if_pos ⟨hr,hk⟩,if_neg (by omega)]
  rw[vO.run_succ,e'];exact h
 |d+1,k,e,hk=>by
  have e':(M5 m te q).step (true,r,k)=some (.inl (true,r,k+1)):=by
   show stI q r k=_;unfold stI;rw[if_pos ⟨hr,hk⟩,if_pos (by omega)]
  rw[vO.run_succ,e'];exact aUn H hr h d (k+1) (by omega) (by omega)
theorem bHl(H:H5 m te q):∀d r,q.ng-r=d->r<=q.ng->∃N,(M5 m te q).run N (false,r,0)=some (.bool true)
 |0,r,e,hr=>by
  refine⟨1,?_⟩;have e':(M5 m te q).step (false,r,0)=some (.inr (.bool true)):=by
   show stO q r=_;unfold stO;rw[if_neg (by omega),if_pos (by omega)]
  rw[vO.run_succ,e'];rfl
 |d+1,r,e,hr=>by
  obtain⟨N,hN⟩:=bHl H d (r+1) (by omega) (by omega);refine⟨N+q.n+1+1,?_⟩;have e':(M5 m te q).step (false,r,0)=some (.inl (true,r,0)):=by
   show stO q r=_;unfold stO;rw[if_pos (by omega)]
  rw[vO.run_succ,e'];exact aUn H (by omega) hN q.n 0 (by omega) (by omega)
theorem bIh(H:H5 m te q):(M5 m te q).Ways prog (D5 m te q) F5 f5 20:=by
 intro s o fr h;obtain⟨inn,r,k⟩:=s;have hn:=H.n;have hng:=H.ng;have hk12:=H.k;have hwr:r<100->i64.wrap ((r:Int)+1)=((r+1:Nat):Int):=λh=>by rw[IntKind.wrap_i64];omega
 have hwk:k<100->i64.wrap ((k:Int)+1)=((k+1:Nat):Int):=λh=>by rw[IntKind.wrap_i64];omega
 cases inn with
 |false=>
  have h:stO q r=some o:=h;unfold stO at h;split at h
  .rename_i hr;cases h;obtain⟨log,e1,e2⟩:=EN (w5a m te q q.G (PO q.G r) r fr (r:=r) (by omega)) (by simp[qA];omega);exact .inr ⟨2000,_,log,0,e1,e2,rfl⟩
  .rename_i hr;split at h
   .rename_i he;cases h;obtain⟨log,e1,e2⟩:=EN (w5z m te q q.G (PO q.G r) r fr (r:=r) (by omega)) (by simp[qA,rD,H.s17];omega);rw[show((PO q.G r)==(q.k:Int))=true by rw[he,H.sm];simp]at e1;exact⟨2000,_,log,[],_,_,_,e1,e2⟩
   .cases h
 |true=>
  have h:stI q r k=some o:=h;unfold stI at h;split at h
  .rename_i hh;obtain⟨hr,hkn⟩:=hh;obtain⟨g1,g2⟩:=bCt (m:=m) (te:=te) (q:=q) r k;split at h
   .rename_i hk;cases h;have hs:=aPl (m:=m) (te:=te) (q:=q) r k;have hin:MR (q.G r).node (q.G r).text (q.w k)=((q.w k).node==(g5 m te q r k).node&&(q.w k).text==(g5 m te q r k).text):=by rw[g1,g2];rfl
    rw[hin]at hs;have hA:∀b∈Tryz.hA q k,b=true:=by simp[Tryz.hA];omega
    generalize hg:g5 m te q r k=g at hs;have key:∀(ds l:gH) (g':Gr),LD (o5b m te q q.G g (PO q.G r) r k fr r ds)=wA5 q q.G (PO q.G r) r k r g' l->(∀b∈l,b=true)->g5 m te q r (k+1)=g'->(M5 m te q).Leads prog (D5 m te q) F5 f5 20 [1,0] (qS f5 1).1 (.lp::(qS f5 1).2) (frK k5b (v5b q r (PO q.G r) r k) fr 160) (h5g q q.G r g) (.inl (true,r,k+1)):=by
     intro ds l g' hd hl he;obtain⟨log,e1,e2⟩:=EN hd (aHa hl);subst he;rw[hwk (by omega)]at e1;exact .inl ⟨2000,_,log,0,e1,e2,rfl⟩
    show(M5 m te q).Leads prog (D5 m te q) F5 f5 20 [1,0] (qS f5 1).1 (.lp::(qS f5 1).2) (frK k5b (v5b q r (PO q.G r) r k) fr 160) (h5g q q.G r (g5 m te q r k)) (.inl (true,r,k+1));rw[hg];cases hnn:nn5 q g k with
    |false=>
     have h0:((q.w k).node==g.node)=false:=hnn;refine key _ _ g (w5A m te q q.G g _ _ _ fr (by omega)) ?_ (by rw[hs,h0];simp);intro b hb;rcases bH.1 hb with hb|hb
     .rw[(bN.1 hb).2,hnn];rfl
     .exact hA b hb
    |true=>
     have h0:((q.w k).node==g.node)=true:=hnn;have hN:∀b∈Tryz.hN q g k,b=true:=by
      intro b hb;rcases bH.1 hb with hb|hb
      .rw[(bN.1 hb).2,hnn];rfl
      .exact hA b hb
     cases htt:tt5 q g k with
     |false=>
      have h1:((q.w k).text==g.text)=false:=htt;refine key _ _ g (w5B m te q q.G g _ _ _ fr (by omega)) ?_ (by rw[hs,h1];simp);intro b hb;rcases bH.1 hb with hb|hb
      .rw[(bN.1 hb).2,htt];rfl
      .exact hN b hb
     |true=>
      have h1:((q.w k).text==g.text)=true:=htt;have hT:∀b∈Tryz.hT m te q g k,b=true:=by
       intro b hb;unfold Tryz.hT at hb;rw[htt]at hb;simp only[bH,aR,bR,or_false]at hb;rcases hb with((hb|rfl|rfl)|hb)|hb
       .exact(bN.1 hb).2
       .exact rD.2 trivial
       .exact rD.2 (H.s14 k hk)
       .exact(bN.1 hb).2
       .exact hN b hb
      rw[h0,h1]at hs;cases hb5:b5 m te q k with
      |false=>
       refine key _ _ g (w5C m te q q.G g _ _ _ fr (by omega)) ?_ (by rw[hs,hb5];simp);intro b hb;rcases aR.1 hb with rfl|hb
       .rw[eJ,hb5];rfl
       .exact hT b hb
      |true=>
       rw[hb5]at hs;simp only[Bool.and_self,if_true]at hs;by_cases h0:g.cnt=0
       .refine key _ _ _ (w5D m te q q.G g _ _ _ fr (by omega)) ?_ (by rw[hs];unfold PR gD;rw[if_pos h0,if_pos h0,eJ]);intro b hb;rcases aR.1 hb with rfl|hb
        .simpa using h0
        rcases aR.1 hb with rfl|hb
        .rw[eJ,hb5];rfl
        .exact hT b hb
       .refine key _ _ _ (w5E m te q q.G g _ _ _ fr (by omega)) ?_ (by rw[hs];unfold PR gE;rw[if_neg h0,if_neg h0,eJ]);intro b hb;rcases aR.1 hb with rfl|hb
        .simpa using h0
        rcases aR.1 hb with rfl|hb
        .rw[eJ,hb5];rfl
        .exact hT b hb
   .rename_i hk;cases h;have hkn':k=q.n:=by omega
    obtain⟨q1,q2,q3⟩:=H.g r hr;have hg:g5 m te q r k=q.G r:=by rw[hkn'];exact q1.symm
    obtain⟨p1,p2⟩:=H.pt r (by omega);have hws:i64.wrap (PO q.G r+(q.G r).cnt)=PO q.G (r+1):=by
     rw[IntKind.wrap_i64];show _ =PO q.G r+(q.G r).cnt;omega
    show(M5 m te q).Leads prog (D5 m te q) F5 f5 20 [1,0] (qS f5 1).1 (.lp::(qS f5 1).2) (frK k5b (v5b q r (PO q.G r) r k) fr 160) (h5g q q.G r (g5 m te q r k)) (.inl (false,r+1,0));rw[hg];have key:∀(ds l:gH),LD (o5e m te q q.G (q.G r) (PO q.G r) r k fr r ds)=wE5 q q.G (q.G r) (PO q.G r) r r l->(∀b∈l,b=true)->(M5 m te q).Leads prog (D5 m te q) F5 f5 20 [1,0] (qS f5 1).1 (.lp::(qS f5 1).2) (frK k5b (v5b q r (PO q.G r) r k) fr 160) (h5g q q.G r (q.G r)) (.inl (false,r+1,0)):=by
     intro ds l hd hl;obtain⟨log,e1,e2⟩:=EN hd (aHa hl);rw[hwr (by omega),hws]at e1;exact .inl ⟨2000,_,log,1,e1,e2,rfl⟩
    have hE:cE5 (q.G (r:Int).toNat) (q.G r)=true:=by rw[eJ];simp[cE5]
    have hZ:∀b∈lZ q (q.G r) r k,b=true:=by
     unfold lZ;rw[hE];simp only[bH,aR,bR,or_false,rp];rintro b ((((hb|hb)|rfl|rfl)|hb)|rfl)
     .exact(bN.1 hb).2
     .rw[(bN.1 hb).2];simp;omega
     .simp
     .simpa using hr
     .rw[(bN.1 hb).2];simp;omega
     .simp;omega
    rcases r with _ |r
    .refine key _ _ (bSj m te q q.G (q.G 0) _ _ _ fr) ?_;unfold lG0;rw[hE];simp only[bH,aR,bR,or_false,rp];rintro b (((rfl|rfl|rfl)|hb)|hb)
     .rfl
     .rfl
     .rfl
     .exact(bN.1 hb).2
     .exact hZ b hb
    .have hp:i64.wrap (((r+1:Nat):Int)-1)=(r:Int):=by rw[IntKind.wrap_i64];omega
     have hI:decide (0<((r+1:Nat):Int))=true:=by simp
     have hJ:∀b∈lJ q ((r+1:Nat):Int),b=true:=by
      unfold lJ;rw[hp];simp only[aR,bR,or_false];rintro b (rfl|rfl)
      .simp
      .simp;omega
     have hP:pG q ((r+1:Nat):Int)=q.G r:=by unfold pG;rw[hp,eJ]
     have hl:=H.lt r hr;unfold UW at hl;have hX:cX5 (pG q ((r+1:Nat):Int)) (q.G (r+1))=true:=by
      rw[hP];unfold cX5;simp only[bF,aA]at hl⊢;rcases hl with hl|⟨hl,_⟩
      .exact .inl hl
      .exact .inr hl
     have hY:∀b∈lY q (q.G (r+1)) ((r+1:Nat):Int) k,b=true:=by
      unfold lY;rw[hX,hI];simp only[bH,rp];rintro b ((((((hb|hb)|hb)|hb)|hb)|hb)|hb)
      .exact(bN.1 hb).2
      .exact hJ b hb
      .exact(bN.1 hb).2
      .exact(bN.1 hb).2
      .exact hJ b hb
      .exact(bN.1 hb).2
      .exact hZ b hb
     have hXX:∀b∈lX q (q.G (r+1)) ((r+1:Nat):Int),b=true:=by
      unfold lX;rw[hX,hI,hE];simp
     cases hQ:cQ5 (pG q ((r+1:Nat):Int)) (q.G (r+1))with
     |false=>
      refine key _ _ (bSk m te q q.G (q.G (r+1)) _ _ _ fr (by omega)) ?_;unfold lG1;rw[hQ,hX];simp only[bH,aR,bR,or_false,rp];rintro b (((hb|rfl|rfl)|hb)|hb)
      .exact hXX b hb
      .rfl
      .rfl
      .exact(bN.1 hb).2
      .exact hY b hb
     |true=>
      have hR:cR5 (pG q ((r+1:Nat):Int)) (q.G (r+1))=true:=by
       have hQ':=hQ;rw[hP]at hQ'⊢;unfold cQ5 at hQ';unfold cR5;have e:(q.G r).node=(q.G (r+1)).node:=by simpa using hQ'
       rw[e,Hz]at hl;simpa using hl
      refine key _ _ (bSl m te q q.G (q.G (r+1)) _ _ _ fr (by omega)) ?_;unfold lG2;rw[hQ,hX,hR];simp only[bH,aR,bR,or_false,rp];rintro b ((((((rfl|hb)|rfl|rfl)|hb)|hb)|hb)|hb)
      .rfl
      .exact hXX b hb
      .rfl
      .rfl
      .exact(bN.1 hb).2
      .exact hJ b hb
      .exact(bN.1 hb).2
      .exact hY b hb
  .cases h
theorem c5(H:H5 m te q)(hf:mapO (qJ 40 ⟨0,.nl⟩) [q.l,q.t]=some [q.l,q.t]):pW prog (glZ m te) 5 [q.l,q.t] (.bool true):=by
 obtain⟨log,e1,e2⟩:=EN (w50 m te q q.G) (by simp[qA,rD,H.s8,H.s15,H.s16]);obtain⟨N,hN⟩:=bHl H q.ng 0 (by omega) (by omega)
 exact pure_mach (M:=M5 m te q) (fn:=f5) (k:=20) (d:=40) (c:=qD f5) (cx5 m te q H.kn) (rC m te) (by kernel_rfl) func5 (by kernel_rfl) rfl (by kernel_rfl) hf (L:=158) (by kernel_rfl) (bIh H) (λZ=>by
  obtain⟨inn,r,k⟩:=Z;cases inn
  .exact⟨(show codeOk (qS f5 0).1=true by kernel_rfl),(show DD (.lp::(qS f5 0).2)=true by kernel_rfl)⟩
  .exact⟨(show codeOk (qS f5 1).1=true by kernel_rfl),(show DD (.lp::(qS f5 1).2)=true by kernel_rfl)⟩) (o:= .inl (false,0,0)) (.inr ⟨2000,_,log,0,e1,e2,rfl⟩) (n:=N) hN
end
end
end Go.Proofs.Tryz
namespace Go.Ps
noncomputable section
structure PP where
 step:Fx->Option Fx
 hit:Fx->Bool
 din:Fx->Bool
 want:List T->Bool
 ev:Hp->List T->Option T
 al:Option (Tmp×TypeId)
 dst:Option Tmp
 yl:List T->Option (Nat×List T)
def WD(P:fV)(E:tY)(F:Fc)(ops:fZ)(o:Oper):PP:=
 ⟨λs=>sE P E F ops s o,λs=>CA ops s o,λs=>xP s o,λfr=>qH ops fr o,λH fr=>qK P E (zO F o) H fr o,tQ F o,o.dst,λfr=>AL E.gl fr o⟩
section
variable{P:fV}{E:tY}{F:Fc}{ops ops':fZ}
theorem TD:∀{l l':gW},l.map (WD P E F ops)=l'.map (WD P E F ops')->∀s,qL P E F ops l s=qL P E F ops' l' s
 |[],[],_,_ =>rfl|[],_ ::_,h,_ =>by simp at h|_ ::_,[],h,_ =>by simp at h
 |o::l,o'::l',h,s=>by
  simp only[cB,eP]at h;have h1:sE P E F ops s o=sE P E F ops' s o':=congrFun (congrArg PP.step h.1) s;simp only[qL,h1];split
  .exact TD h.2 _
  .rfl
theorem NX(hA:tL ops.toList []=tL ops'.toList [])(hz:ops.size=ops'.size):∀{l l':gW},l.map (WD P E F ops)=l'.map (WD P E F ops')->∀m s,qQ P E F ops l m s=qQ P E F ops' l' m s
 |[],[],_,_,_ =>rfl|[],_ ::_,h,_,_ =>by simp at h|_ ::_,[],h,_,_ =>by simp at h
 |o::l,o'::l',h,m,s=>by
  have hq:=λs=>TD h s;simp only[cB,eP]at h;have h1:CA ops s o=CA ops' s o':=congrFun (congrArg PP.hit h.1) s;have h2:xP s o=xP s o':=congrFun (congrArg PP.din h.1) s;have h3:qH ops s.fr o=qH ops' s.fr o':=congrFun (congrArg PP.want h.1) s.fr;have h4:qK P E (zO F o) s.H s.fr o=qK P E (zO F o') s.H s.fr o':=congrFun (congrFun (congrArg PP.ev h.1) s.H) s.fr;have h5:tQ F o=tQ F o':=congrArg PP.al h.1;have h6:o.dst=o'.dst:=congrArg PP.dst h.1;have ih:=λm s=>NX hA hz h.2 m s;simp only[qQ,h1,h2,h3,h4,h5,h6,hA,hz,ih,hq]
variable{ee:gB}{yd:gF}{ow:hD}{n:Nat}{ro:iB}
theorem Rj:∀{l l':gW},l.map (WD P E (BU ow ee) ops)=l'.map (WD P E (BU ow ee) ops')->∀s,EH P E ee yd ow ops l s=EH P E ee yd ow ops' l' s
 |[],[],_,_ =>rfl|[],_ ::_,h,_ =>by simp at h|_ ::_,[],h,_ =>by simp at h
 |o::l,o'::l',h,s=>by
  simp only[cB,eP]at h;have h1:sE P E (BU ow ee) ops s o=sE P E (BU ow ee) ops' s o':=congrFun (congrArg PP.step h.1) s;have h3:qH ops s.fr o=qH ops' s.fr o':=congrFun (congrArg PP.want h.1) s.fr;have h6:o.dst=o'.dst:=congrArg PP.dst h.1;have h7:AL E.gl s.fr o=AL E.gl s.fr o':=congrFun (congrArg PP.yl h.1) s.fr;have ih:=λs=>Rj h.2 s;simp only[EH,h1,h3,h6,h7,ih]
theorem Wb{id id':Nat}(h:ops.toList.map (WD P E (BU ow ee) ops)=ops'.toList.map (WD P E (BU ow ee) ops'))(fr:fU)(H:Hp):
  qI P E ee yd ow n ro (.region id ops false) fr H=qI P E ee yd ow n ro (.region id' ops' false) fr H:=by
 simp only[qI,Rj h,aY,if_false]
def drawn(ops:fZ):Bool:= !lkp ops&& !aQh ops
theorem Ik{id:Nat}(hl:drawn ops=true)(hw:ow (9000000+id)=true)(fr:fU)(H:Hp):qI P E ee yd ow n ro (.region id ops true) fr H=match qQ P E (BU ow ee) ops ops.toList 0 ⟨fr,H,none⟩with
  |some ⟨fr',H',none⟩=>some (.normal,fr',H')|_ =>none:=by
 unfold drawn at hl;simp only[aA,bW]at hl;have e:AB P E (BU ow ee) ops (ow (9000000+id)) fr H=qQ P E (BU ow ee) ops ops.toList 0 ⟨fr,H,none⟩:=by
  unfold AB rW;rw[hl.1,hl.2,hw];rfl
 simp only[qI,if_true,e]
 all_goals rfl
theorem aIa{id id':Nat}(hA:tL ops.toList []=tL ops'.toList [])(hz:ops.size=ops'.size)(hl:drawn ops=true)(hl':drawn ops'=true)(hw:ow (9000000+id)=true)(hw':ow (9000000+id')=true)
  (h:ops.toList.map (WD P E (BU ow ee) ops)=ops'.toList.map (WD P E (BU ow ee) ops')) (fr:fU) (H:Hp):qI P E ee yd ow n ro (.region id ops true) fr H=qI P E ee yd ow n ro (.region id' ops' true) fr H:=by
 rw[Ik hl hw,Ik hl' hw',NX hA hz h]
theorem Gx{s s':Fx}{o:Oper}(h:sE P E F ops s o=some s'):s'.fr.length=s.fr.length:=by
 have hp:∀{s'},tU P E F ops s o=some s'->s'.fr.length=s.fr.length:=λ{s'} h=>by
  unfold tU at h
  repeat' split at h
  all_goals first
   |(cases h;done)
   |(cases h;simp[qU];try(split<;>simp))
 unfold sE at h
 repeat' split at h
 all_goals first
  |exact hp h
  |(cases h;done)
  |(cases h;unfold TS;split<;>simp)
theorem ZV:∀{l:gW} {s s':Fx},EH P E ee yd ow ops l s=some s'->s'.fr.length=s.fr.length
 |[],s,s',h=>by cases(show some s=some s' from h);rfl
 |o::l,s,s',h=>by
  unfold EH at h;split at h
  .split at h
   .rw[ZV h];simp[qU];split<;>simp
   .cases h
  .split at h
   .rename_i h1;rw[ZV h,Gx h1]
   .cases h
theorem TE:∀{l:gW} {s s':Fx},qL P E F ops l s=some s'->s'.fr.length=s.fr.length
 |[],s,s',h=>by
  unfold qL at h
  first
   |(cases h;rfl)
   |(split at h<;>cases h;rfl)
 |o::l,s,s',h=>by
  unfold qL at h;split at h
  .rename_i h1;rw[TE h,Gx h1]
  .cases h
theorem NY:∀{l:gW} {m:Nat} {s s':Fx},qQ P E F ops l m s=some s'->s'.fr.length=s.fr.length
 |[],m,s,s',h=>by
  unfold qQ at h;split at h<;>cases h;rfl
 |o::l,m,s,s',h=>by
  have hp:∀{v:T},(qU s.fr o.dst v).length=s.fr.length:=λ{v}=>by unfold qU;split<;>simp
  unfold qQ at h
  repeat' split at h
  all_goals first
   |(cases h;done)
   |exact TE h
   |(rw[NY h];first|exact hp|simp)
def AW(P:fV)(E:tY)(ee:gB)(yd:gF)(ow:hD)(n:Nat)(c:Code):Prop:=
 ∀fr H fr' H',qI P E ee yd ow n none c fr H=some (.normal,fr',H')->fr'.length=fr.length
theorem AW.skip:AW P E ee yd ow n .skip:=λfr H fr' H' h=>by cases h;rfl
theorem AW.region{id:Nat}:AW P E ee yd ow n (.region id ops false):=λfr H fr' H' h=>by
 simp only[qI,aY,if_false]at h;split at h
 .rename_i e;cases h;exact ZV e
 .cases h
theorem AW.draw{id:Nat}(hl:drawn ops=true)(hw:ow (9000000+id)=true):AW P E ee yd ow n (.region id ops true):=λfr H fr' H' h=>by
 rw[Ik hl hw]at h;split at h
 .rename_i e;cases h;exact NY e
 .cases h
theorem AW.seq{a b:Code}(ha:AW P E ee yd ow n a)(hb:AW P E ee yd ow n b):AW P E ee yd ow n (.seq a b):=λfr H fr' H' h=>by
 simp only[qI]at h;split at h
 .rename_i e;rw[hb _ _ _ _ h,ha _ _ _ _ e]
 .exact ha _ _ _ _ h
theorem AW.cond{c:jF}{a b:Code}(ha:AW P E ee yd ow n a)(hb:AW P E ee yd ow n b):AW P E ee yd ow n (.cond c a b):=λfr H fr' H' h=>by
 simp only[qI]at h
 repeat' split at h
 all_goals first
  |exact ha _ _ _ _ h
  |exact hb _ _ _ _ h
  |cases h
theorem AW.ret{a:Code}:AW P E ee yd ow n (.seq a .ret):=λfr H fr' H' h=>by
 simp only[qI]at h;split at h
 .cases h
 .rename_i hn;exact absurd h (hn _ _)
def aKw(P:fV)(rs:jH):Option (X×List T×Hp)->Option (List T)
 |some (.normal,fr,H)|some (.ret,fr,H)=>sS P fr H rs|_ =>none
def Tw(P:fV)(E:tY)(ee:gB)(yd:gF)(ow:hD)(n L:Nat)(rs:jH)(c c':Code):Prop:=
 ∀fr H l l',fr.length=L->aKw P rs (qI P E ee yd ow n none c fr H)=some l->aKw P rs (qI P E ee yd ow n none c' fr H)=some l'->l=l'
theorem Tw.seq{L:Nat}{rs:jH}{a a' c c':Code}(h:∀fr H,qI P E ee yd ow n none a fr H=qI P E ee yd ow n none a' fr H)(hl:AW P E ee yd ow n a)(k:Tw P E ee yd ow n L rs c c'):Tw P E ee yd ow n L rs (.seq a c) (.seq a' c'):=by
 intro fr H l l' hL h1 h2;simp only[qI,<-h fr H]at h1 h2;split at h1
 .rename_i e;rw[e]at h2;exact k _ _ l l' (by rw[hl _ _ _ _ e,hL]) h1 h2
 .rename_i x hn;split at h2
  .rename_i e;exact absurd e (hn _ _)
  .rw[h1]at h2;exact bX h2
end
end
end Go.Ps
namespace Go.Proofs.Tryz
open Go.Ps
noncomputable section
def aDo:Code->List (Array Oper)
 | .region _ ops _ =>[ops]| .seq a b=>aDo a++aDo b| .cond _ a b=>aDo a++aDo b|_ =>[]
noncomputable def r13(i:Nat):Array Oper:=(aDo (qD f13)).getD i #[]
noncomputable def r14(i:Nat):Array Oper:=(aDo (qD f14)).getD i #[]
def cdT(r:Nat->Array Oper):Code:= .seq (.region 0 (r 0) false) (.seq (.region 1 (r 1) false) (.seq (.seq (.region 2 (r 2) false) (.cond (.tmp 50) (.seq (.region 3 (r 3) false) .ret) .skip)) (.seq (.seq (.region 4 (r 4) false) (.cond (.tmp 54) (.seq (.region 5 (r 5) false) .ret) .skip)) (.seq (.region 6 (r 6) true) (.seq (.region 7 (r 7) false) .ret)))))
theorem b13:qD f13=cdT r13:=by kernel_rfl
theorem b14:qD f14=cdT r14:=by kernel_rfl
theorem tA:tL (r13 6).toList []=tL (r14 6).toList []:=by kernel_rfl
theorem tZ:(r13 6).size=(r14 6).size:=by kernel_rfl
theorem tD:drawn (r13 6)=true/\drawn (r14 6)=true:=⟨by kernel_rfl,by kernel_rfl⟩
section
variable(P:fV)(E:tY)(ee:gB)(ow:hD)
def EP(r:fZ):List PP:=r.toList.map (WD P E (BU ow ee) r)
theorem tw0:EP P E ee ow (r13 0)=EP P E ee ow (r14 0):=by kernel_rfl
theorem tw1:EP P E ee ow (r13 1)=EP P E ee ow (r14 1):=by kernel_rfl
theorem tw2:EP P E ee ow (r13 2)=EP P E ee ow (r14 2):=by kernel_rfl
theorem tw3:EP P E ee ow (r13 3)=EP P E ee ow (r14 3):=by kernel_rfl
theorem tw4:EP P E ee ow (r13 4)=EP P E ee ow (r14 4):=by kernel_rfl
theorem tw5:EP P E ee ow (r13 5)=EP P E ee ow (r14 5):=by kernel_rfl
theorem tw6:EP P E ee ow (r13 6)=EP P E ee ow (r14 6):=by kernel_rfl
end
def L72(g:gZ)(x y:T):List T:=(List.range 72).map λi=>cond (Nat.beq i 6) x (cond (Nat.beq i 7) y (g i))
theorem aVa{fr:fU}(h:fr.length=72):∃g x y,fr=L72 g x y:=by
 refine⟨λi=>fr.getD i pV,fr.getD 6 pV,fr.getD 7 pV,fI λj=> ?_⟩;unfold L72;rw[bA];by_cases hj:j<72
 .rw[dP hj,aB (by omega)];simp only[cH,aC];by_cases h6:j=6
  .subst h6;simp[aW,h,show Nat.beq 6 6=true from rfl]
  .by_cases h7:j=7
   .subst h7;simp[aW,h,show Nat.beq 7 6=false from rfl,show Nat.beq 7 7=true from rfl]
   .have e6:Nat.beq j 6=false:=Bool.eq_false_iff.2 λq=>h6 (aF q);have e7:Nat.beq j 7=false:=Bool.eq_false_iff.2 λq=>h7 (aF q);rw[e6,e7];simp[aW,h,hj]
 .rw[bU (by omega),bU (by simp;omega)];rfl
section
variable(E:tY)(ee:gB)(yd:gF)(ow:hD)(n:Nat)
def o13(g:gZ)(x y:T)(H:Hp):Option (List T):=aKw prog [.tmp 4] (qI prog E ee yd ow n none (.seq (.region 7 (r13 7) false) .ret) (L72 g x y) H)
def o14(g:gZ)(x y:T)(H:Hp):Option (List T):=aKw prog [.tmp 4] (qI prog E ee yd ow n none (.seq (.region 7 (r14 7) false) .ret) (L72 g x y) H)
theorem aEz(b:Bool)(g:gZ)(y:T)(H:Hp):o13 E ee yd ow n g (.bool b) y H=none\/o14 E ee yd ow n g (.bool b) y H=none\/o13 E ee yd ow n g (.bool b) y H=o14 E ee yd ow n g (.bool b) y H:=by
 cases y with
 |int k m=>cases b<;>cases k<;>rcases m with(_ |j)|j<;>first|exact .inr (.inr (by as_aux_lemma=>kernel_rfl))|exact .inr (.inl (by as_aux_lemma=>kernel_rfl))
 |_ =>exact .inr (.inl (by as_aux_lemma=>kernel_rfl))
theorem tail:Tw prog E ee yd ow n 72 [.tmp 4] (.seq (.region 7 (r13 7) false) .ret) (.seq (.region 7 (r14 7) false) .ret):=by
 intro fr H l l' hL h1 h2;obtain⟨g,x,y,rfl⟩:=aVa hL;have h1:o13 E ee yd ow n g x y H=some l:=h1;have h2:o14 E ee yd ow n g x y H=some l':=h2;have key:o13 E ee yd ow n g x y H=none\/o14 E ee yd ow n g x y H=none\/o13 E ee yd ow n g x y H=o14 E ee yd ow n g x y H:=by
  cases x with
  |bool b=>exact aEz E ee yd ow n b g y H|_ =>exact .inl (by kernel_rfl)
 rcases key with k|k|k
 .rw[k]at h1;cases h1
 .rw[k]at h2;cases h2
 .rw[k,h2]at h1;exact(bX h1).symm
theorem bRv(hw:ow 9000006=true):Tw prog E ee yd ow n 72 [.tmp 4] (qD f13) (qD f14):=by
 rw[b13,b14];have hr:∀{i:Nat} {a b:fZ},EP prog E ee ow a=EP prog E ee ow b->∀fr H,qI prog E ee yd ow n none (.region i a false) fr H=qI prog E ee yd ow n none (.region i b false) fr H:=λh fr H=>Wb h fr H;have hc:∀{i j t:Nat} {a b a' b':fZ},EP prog E ee ow a=EP prog E ee ow a'->EP prog E ee ow b=EP prog E ee ow b'->∀fr H,qI prog E ee yd ow n none (.seq (.region i a false) (.cond (.tmp t) (.seq (.region j b false) .ret) .skip)) fr H=qI prog E ee yd ow n none (.seq (.region i a' false) (.cond (.tmp t) (.seq (.region j b' false) .ret) .skip)) fr H:=by
  intro i j t a b a' b' h k fr H;have e1:=hr (i:=i) h fr H;have e2:=hr (i:=j) k;simp only[qI,aY,if_false]at e1 e2⊢;simp only[e1,e2]
 refine Tw.seq (hr (tw0 ..)) .region (Tw.seq (hr (tw1 ..)) .region (Tw.seq (hc (tw2 ..) (tw3 ..)) (.seq .region (.cond .ret .skip)) (Tw.seq (hc (tw4 ..) (tw5 ..)) (.seq .region (.cond .ret .skip)) (Tw.seq (λfr H=> ?_) (.draw tD.1 hw) (tail E ee yd ow n)))));exact aIa tA tZ tD.1 tD.2 hw hw (tw6 ..) fr H
end
end
variable[Inhabited Prd]
noncomputable section
variable(m:Int)(te:fS)
def SK(s:CF):Prop:=GW (λn d=>(vH prog ⟨glZ m te,uH 40 (eK4 m te)⟩ (UJ Dd RY).own (UJ Dd RY).top n d).ee) s
theorem aYt{m:Int}{te:fS}{an:FuncId->An}{tab:List CF}(ht:∀s∈tab,SK m te s){s:CF}(hr:qZ prog (UJ an RY) tab 4 s=true):SK m te s:=
 Lay.smy (Zl m te) (X:=UJ an RY) rfl rfl (il:=[57,28]) rfl (by kernel_rfl) (tl:=[57,28]) rfl (by kernel_rfl) ht hr (by kernel_rfl) (by kernel_rfl) tP
theorem aYv(hI:Is){m:Int}{te:fS}{d:Nat}(hd:d<=3)(hr:∀s∈Fr d,SK m te s)(hk:∀e,d=e+1->∀s∈aLs e,SK m te s):SK m te (aYq d):=by
 refine Gt λts O hg=> ?_;obtain⟨t,r,rfl,g1,g2⟩:=(show qO [0] O (.prd (200+d+1) (eA d)::[ifull,.ptr 0 0,.ptr 1 0]) ts from hg).inv_cons;cases g1 with
 |prd _ _ us hq h1 h2=>
 have hb:=((hI.b (d+1) _ (by omega)).1 hq).1;rcases cls hI (by omega) (.agg _ _ h1 h2) hb with⟨x,hx,hg'⟩|⟨e,n,i,rfl,hi,hn,hg'⟩
 .exact⟨sCk (.agg x) Bc,hr _ (eB hx),rfl,rfl,qO.cons hg' g2,λ_ h=>h⟩
 .refine⟨sCk (.agg (aQe e n i)) Bc,hk e rfl _ ?_,rfl,rfl,qO.cons hg' g2,λ_ h=>h⟩;have hm:(n,i)∈[(1,0),(2,0),(2,1),(3,0),(3,1),(3,2),(4,0),(4,1),(4,2),(4,3)]:=by
   have h1:n=1\/n=2\/n=3\/n=4:=by omega
   have h2:i=0\/i=1\/i=2\/i=3:=by omega
   rcases h1 with rfl|rfl|rfl|rfl<;>rcases h2 with rfl|rfl|rfl|rfl<;>first|(exfalso;omega)|simp
  exact eB (f:=λq:Nat×Nat=>sCk (.agg (aQe e q.1 q.2)) Bc) hm
theorem VH(hI:Is){m:Int}{te:fS}{d:Nat}(hd:d<=3)(ht:∀s∈Hd d,SK m te s)(hy:∀s∈[Wh d],qZ prog (UJ Dd RY) (Hd d) 4 s=true)(hx:∀s∈Fr d,qZ prog (UJ Dd RY) (Hd d) 4 s=true)
  (hk:∀e,d=e+1->∀s∈aLs e,qZ prog (UJ aNu RY) (Hd d) 4 s=true):∀s∈Hd (d+1),SK m te s:=by
 intro s hs;have hs:s∈[aYq d,Wh d]:=hs;simp only[aR,bR,or_false]at hs;rcases hs with rfl|rfl
 .exact aYv hI hd (λs h=>aYt ht (hx s h)) λe he s h=>aYt ht (hk e he s h)
 .exact aYt ht (hy _ (by simp))
theorem aYu(hI:Is)(m:Int)(te:fS):∀s∈Hd 4,SK m te s:=by
 have h0:∀s∈Hd 0,SK m te s:=λs h=>by cases h
 have h1:=VH hI (d:=0) (by omega) h0 ry0 rx0 (λe h=>by cases h);have h2:=VH hI (d:=1) (by omega) h1 ry1 rx1 (λe h=>by cases h;exact rk0);have h3:=VH hI (d:=2) (by omega) h2 ry2 rx2 (λe h=>by cases h;exact rk1);exact VH hI (d:=3) (by omega) h3 ry3 rx3 (λe h=>by cases h;exact rk2)
theorem bPt:([57,28]:List Nat).all (λf=>vL prog f&&zD prog f)=true:=by kernel_rfl
def eK5:=FW prog (glZ m te) (eK4 m te) (UJ Dd RY).own (UJ Dd RY).top 40 λf=>l28.any λc=>Nat.beq c.f f
def dK5:FuncId->Bool:=λf=>(l28.any λc=>Nat.beq c.f f)||dK4 f
theorem aK5(hI:Is)(m:Int)(te:fS):∀c∈l28,vJ prog (glZ m te) (eK4 m te) (UJ Dd RY) 40 c:=λc hc=>
 ⟨(aH.1 (by kernel_rfl):∀c∈l28,DV (qY sJ) c.pre=true) c hc,λts ht=>yU ((Zl m te).cn (X:=UJ Dd RY) rfl rfl (l:=[57,28]) rfl (by kernel_rfl)) tP (tab:=Hd 4) (aYu hI m te) (r28 c hc) ht⟩
theorem bEo(hI:Is)(m:Int)(te:fS):Lay prog (glZ m te) 40 (λ_ =>none) pK5 (eK5 m te) dK5:=
 (Zl m te).stepZ follows (rC m te) tP (X:=UJ Dd RY) (tl:=[57,28]) rfl bPt (l:=l28) (aK5 hI m te)
end
end Go.Proofs.Tryz
namespace Go.Proofs.Tryz
open Go.Ps
theorem rD1:sF prog gD1=true:=by kernel_rfl
theorem rD2:sF prog gD2=true:=by kernel_rfl
theorem rD3:sF prog gD3=true:=by kernel_rfl
theorem bHc:∀c∈Oz,yT prog xD4 [] 8 c=true:=aH.1 (by kernel_rfl)
theorem rD5:sF prog gD5=true:=by kernel_rfl
theorem bHd:∀c∈Pa,yT prog xD6 [] 8 c=true:=aH.1 (by kernel_rfl)
theorem bHe:∀c∈Bp,yT prog xD9 [] 8 c=true:=aH.1 (by kernel_rfl)
theorem rC1:sF prog gC1=true:=by kernel_rfl
theorem rC2:sF prog gC2=true:=by kernel_rfl
theorem rL1:sF prog gL1=true:=by kernel_rfl
theorem rL2:sF prog gL2=true:=by kernel_rfl
theorem rL3:sF prog gL3=true:=by kernel_rfl
theorem rP1:sF prog gP1=true:=by kernel_rfl
theorem rQ6:sF prog gQ6=true:=by kernel_rfl
end Go.Proofs.Tryz
namespace Go.Ps
variable[Inhabited Prd]
section
variable{P:fV}{gl:fY}
open Classical in
noncomputable def Vj(P:fV)(gl:fY)(c:rE)(pe:gG):FuncId->List T->Option T:=λf ts=>
 if Nat.beq c.f f=true then(if h:∃r,pW P gl f ts r/\(∀I:Inhabited Prd, @Gm I [] [] c.res r)then some (Classical.choose h)else none)else pe f ts
theorem aJt{c:rE}{pe:gG}{ts:fU}(h:∃r,pW P gl c.f ts r/\(∀I:Inhabited Prd, @Gm I [] [] c.res r)):∃r,Vj P gl c pe c.f ts=some r/\Gm [] [] c.res r:=by
 refine⟨Classical.choose h,?_,(dF h).2 _⟩;unfold Vj;rw[if_pos (by simp),dif_pos h]
theorem aXg{c:rE}{pe:gG}(hp:PcOk P gl pe):PcOk P gl (Vj P gl c pe):=by
 intro f ts r h;unfold Vj at h;split at h
 .split at h
  .rename_i h';cases h;have q:=(dF h').1;exact⟨q.1,λg vs hg hal hgl hv=>q.2 g vs hg ⟨0,λl _ =>hal l⟩ hgl hv⟩
  .cases h
 .exact hp f ts r h
variable{k:Nat}{ga:Nat->Option A}{pa:FuncId->List A->Nat->List qV->Option AV}{pe:gG}{dom:iA}
theorem Lay.known(h:Lay P gl k ga pa pe dom)(hk:sJ<=k){c:rE}(hp:DV (qY sJ) c.pre=true)(hc:∀ts,qO [] [] c.pre ts->∃r,pW P gl c.f ts r/\(∀I:Inhabited Prd, @Gm I [] [] c.res r)):
  Lay P gl k ga (qX [c] pa) (Vj P gl c pe) (λf=>Nat.beq c.f f||dom f):=by
 refine⟨h.gA,?_,aXg h.pc,λf ts hd=> ?_,h.hx⟩
 .intro f a n cs v hv U O H ts hs hg;unfold qX at hv;split at hv
  .split at hv
   .rename_i c' hf;have hmem:=List.mem_of_find?_eq_some hf;simp only[aR,bR,or_false]at hmem;subst hmem;have hcf:=List.find?_some (p:=λc:rE=>Nat.beq c.f f&&BD (KV cs 0 0 sJ) a c.pre) hf;simp only[aA]at hcf;obtain⟨hcf,hle⟩:=hcf;have hcf:=pX hcf;subst hcf;cases hv;have hgp:qO [] [] c'.pre ts:=by
     have:=BW (λa t x=>zF hs.cs hs.zero 0 0 sJ a t x) hle hg
     rwa [TZ,TZ]at this
    obtain⟨r,r1,r2⟩:=aJt (pe:=pe) (hc ts hgp);have hfz:mapO (qJ k ⟨0,.nl⟩) ts=some ts:=xL _ λx hx=>by
     obtain⟨a,ha,hga⟩:=xI hgp.1 hgp.2 hx;exact EE sJ a x (rF hp a ha) hga k hk
    refine⟨r,?_,tT hs (r2.ext (λj v h=>by simp at h) (λj v h=>by simp at h))⟩;unfold uH;rw[hfz];exact r1
   .cases hv
  .rename_i hno;obtain⟨r,r1,r2⟩:=h.pA f a n cs v hv U O H ts hs hg;refine⟨r,?_,r2⟩;have hfn:∀ts,Vj P gl c pe f ts=pe f ts:=λts=>by
    unfold Vj;rw[if_neg (λq=>hno (by simp only[List.any_cons,List.any_nil,Bool.or_false];exact q))]
   unfold uH at r1⊢;simp only[hfn];exact r1
 .simp only[eM]at hd;unfold Vj;rw[if_neg (λq=>by rw[hd.1]at q;cases q)];exact h.dm f ts hd.2
theorem Lay.exZ{X:AX}{l:List rE}{pb:FuncId->List A->Nat->List qV->Option AV}{dm:iA}(h:Lay P gl k ga pb (FW P gl pe X.own X.top k λf=>l.any λc=>Nat.beq c.f f) dm)(hz:wR gl)(hk:sJ<=k){c:rE}(hc:c∈l)(ha:vJ P gl pe X k c){ts:fU}(ht:qO [] [] c.pre ts):
  ∃r,pW P gl c.f ts r/\Gm [] [] c.res r:=by
 obtain⟨r,r1,r2⟩:=ha.2 ts ht;refine⟨r,h.pure hz (XF (fM.2 ⟨c,hc,by simp⟩) r1) (xL _ λx hx=> ?_),r2⟩;obtain⟨a,h1,h2⟩:=xI ht.1 ht.2 hx;exact EE sJ a x (rF ha.1 a h1) h2 k hk
end
end Go.Ps
namespace Go.Proofs.Tryz
open Go.Ps
variable[Inhabited Prd]
noncomputable section
variable(m:Int)(te:fS)
def eD0:=Vj prog (glZ m te) aVw (eK5 m te)
def dD0:FuncId->Bool:=λf=>Nat.beq 342 f||dK5 f
theorem bDx(hI:Is)(m:Int)(te:fS):Lay prog (glZ m te) 40 (λ_ =>none) pD0 (eD0 m te) dD0:=by
 refine(bEo hI m te).known tP (c:=aVw) (by kernel_rfl) λts h=> ?_;rw[(show qO [] [] [] ts from h).inv_nil];refine⟨_,aDq m te,λI=> ?_⟩;have e:bGv=[.int .i64 1,.int .i64 10,.int .i64 100,.int .i64 1000,.int .i64 10000,.int .i64 100000,.int .i64 1000000,.int .i64 10000000,.int .i64 100000000,.int .i64 1000000000,.int .i64 10000000000,.int .i64 100000000000,.int .i64 1000000000000]:=by kernel_rfl
 rw[e];have one:∀n:Int,-9223372036854775808<=n->n<=9223372036854775807-> @Gm I [] [] (HD n) (.int .i64 n):=λn h1 h2=> @Gm.ival I [] [] _ _ _ _ (fR _) (fR _) ⟨h1,h2⟩;exact FM (qC (one _ (by decide) (by decide)) (qC (one _ (by decide) (by decide)) (qC (one _ (by decide) (by decide)) (qC (one _ (by decide) (by decide)) (qC (one _ (by decide) (by decide)) (qC (one _ (by decide) (by decide)) (qC (one _ (by decide) (by decide)) (qC (one _ (by decide) (by decide)) (qC (one _ (by decide) (by decide)) (qC (one _ (by decide) (by decide)) (qC (one _ (by decide) (by decide)) (qC (one _ (by decide) (by decide)) (qC (one _ (by decide) (by decide)) vX)))))))))))))
def eD1:=nE gD1 eD0
def dD1:=nD gD1 dD0
theorem bDy(hI:Is)(m:Int)(te:fS):sG m te (pD1) (eD1 m te) dD1:=go (bDx hI m te) [323,162,35,243] rD1 rfl (by kernel_rfl) (by kernel_rfl) ⟨r5,trivial⟩
def eD2:=nE gD2 eD1
def dD2:=nD gD2 dD1
theorem bDz(hI:Is)(m:Int)(te:fS):sG m te (pD2) (eD2 m te) dD2:=go (bDy hI m te) [288,296,297,295] rD2 rfl (by kernel_rfl) (by kernel_rfl) ⟨r5,trivial⟩
def eD3:=nE gD3 eD2
def dD3:=nD gD3 dD2
theorem aTz(hI:Is)(m:Int)(te:fS):sG m te (pD3) (eD3 m te) dD3:=go (bDz hI m te) [293,295] rD3 rfl (by kernel_rfl) (by kernel_rfl) ⟨r5,trivial⟩
def eD4:=FW prog (glZ m te) (eD3 m te) xD4.own xD4.top 40 λf=>(Oz++([Dm])).any λc=>Nat.beq c.f f
def dD4:FuncId->Bool:=λf=>((Oz++([Dm])).any λc=>Nat.beq c.f f)||dD3 f
theorem aTa(hI:Is)(m:Int)(te:fS):∀c∈Oz,vJ prog (glZ m te) (eD3 m te) xD4 40 c:=λc hc=>
 ⟨(aH.1 (by kernel_rfl):∀c∈Oz,DV (qY sJ) c.pre=true) c hc,λts ht=>yU ((aTz hI m te).cn (X:=xD4) rfl rfl (l:=[287,301,295]) rfl (by kernel_rfl)) tP (tab:=[]) (by simp) (bHc c hc) ht⟩
theorem Gn{O:fW}{U:gJ}{t:T}(h:Gm U O zM t):∃b∈bS,Gm U O (.agg [b,ifull]) t:=by
 cases(show Gm U O (.agg [ifull,ifull]) t from h)with
 |agg _ ts h1 h2=>
 obtain⟨a,r,rfl,g1,g2⟩:=(show qO U O [ifull,ifull] ts from⟨h1,h2⟩).inv_cons;obtain⟨n,rfl,n1,n2⟩:=inv_int g1;have hb:∃b∈bS,Gm U O b (.int .i64 n):=by
  by_cases c1:1<=n
  .exact⟨_,aL,AE c1 n2 n1 n2⟩
  .by_cases c2:n=0
   .subst c2;exact⟨_,aG _ aL,AE (fR _) (fR _) n1 n2⟩
   .exact⟨_,aG _ (aG _ aL),AE n1 (by omega) n1 n2⟩
 obtain⟨b,hb,hg⟩:=hb;exact⟨b,hb,FM (qC hg g2)⟩
theorem bSb(hI:Is)(m:Int)(te:fS):∀c∈[Dm],vJ prog (glZ m te) (eD3 m te) xD4 40 c:=by
 intro c hc;simp only[aR,bR,or_false]at hc;subst hc;refine CG (by kernel_rfl) λts ht=> ?_;obtain⟨t1,r1,rfl,g1,g2⟩:=(show qO [] [] [zM,zM,ifull] ts from ht).inv_cons;obtain⟨t2,r2,rfl,g3,g4⟩:=g2.inv_cons;obtain⟨b,hb,hg⟩:=Gn g3;exact⟨bBb b,aTa hI m te _ (List.mem_append_right _ (eB hb)),rfl,qC g1 (qC hg g4),λ_ h=>h⟩
theorem aD4(hI:Is)(m:Int)(te:fS):∀c∈Oz++([Dm]),vJ prog (glZ m te) (eD3 m te) xD4 40 c:=(cT.2 ⟨(aTa hI m te),(bSb hI m te)⟩)
theorem bEa(hI:Is)(m:Int)(te:fS):Lay prog (glZ m te) 40 (λ_ =>none) (pD4) (eD4 m te) dD4:=
 (aTz hI m te).stepZ follows (rC m te) tP (X:=xD4) (tl:=[215,221,228,224,287,301,295]) rfl bPp (l:=Oz++([Dm])) (aD4 hI m te)
def eD5:=nE gD5 eD4
def dD5:=nD gD5 dD4
theorem aUa(hI:Is)(m:Int)(te:fS):sG m te (pD5) (eD5 m te) dD5:=go (bEa hI m te) [295] rD5 rfl (by kernel_rfl) (by kernel_rfl) ⟨r5,trivial⟩
def eD6:=FW prog (glZ m te) (eD5 m te) xD6.own xD6.top 40 λf=>(Pa++([Dl])).any λc=>Nat.beq c.f f
def dD6:FuncId->Bool:=λf=>((Pa++([Dl])).any λc=>Nat.beq c.f f)||dD5 f
theorem aTb(hI:Is)(m:Int)(te:fS):∀c∈Pa,vJ prog (glZ m te) (eD5 m te) xD6 40 c:=λc hc=>
 ⟨(aH.1 (by kernel_rfl):∀c∈Pa,DV (qY sJ) c.pre=true) c hc,λts ht=>yU ((aUa hI m te).cn (X:=xD6) rfl rfl (l:=[287,301]) rfl (by kernel_rfl)) tP (tab:=[]) (by simp) (bHd c hc) ht⟩
theorem bSa(hI:Is)(m:Int)(te:fS):∀c∈[Dl],vJ prog (glZ m te) (eD5 m te) xD6 40 c:=by
 intro c hc;simp only[aR,bR,or_false]at hc;subst hc;refine CG (by kernel_rfl) λts ht=> ?_;obtain⟨t1,r1,rfl,g1,g2⟩:=(show qO [] [] [zM,zM] ts from ht).inv_cons;obtain⟨t2,r2,rfl,g3,g4⟩:=g2.inv_cons;obtain⟨b,hb,hg⟩:=Gn g3;exact⟨bBa b,aTb hI m te _ (aG _ (eB hb)),rfl,qC g1 (qC hg g4),λ_ h=>h⟩
theorem aD6(hI:Is)(m:Int)(te:fS):∀c∈Pa++([Dl]),vJ prog (glZ m te) (eD5 m te) xD6 40 c:=(cT.2 ⟨(aTb hI m te),(bSa hI m te)⟩)
theorem bEb(hI:Is)(m:Int)(te:fS):Lay prog (glZ m te) 40 (λ_ =>none) (pD6) (eD6 m te) dD6:=
 (aUa hI m te).stepZ follows (rC m te) tP (X:=xD6) (tl:=[222,223,287,301]) rfl bPq (l:=Pa++([Dl])) (aD6 hI m te)
theorem UR{U:gJ}{O:fW}{t:T}(h:Gm U O zM t):∃n s:Int,t= .agg [.int .i64 n,.int .i64 s]/\(-9223372036854775808<=n/\n<=9223372036854775807)/\(-9223372036854775808<=s/\s<=9223372036854775807):=by
 cases(show Gm U O (.agg [ifull,ifull]) t from h)with
 |agg _ ts h1 h2=>
 obtain⟨a,r,rfl,g1,g2⟩:=(show qO U O [ifull,ifull] ts from⟨h1,h2⟩).inv_cons;obtain⟨b,r,rfl,g3,g4⟩:=g2.inv_cons;rw[g4.inv_nil];obtain⟨n,rfl,n1,n2⟩:=inv_int g1;obtain⟨s,rfl,s1,s2⟩:=inv_int g3;exact⟨n,s,rfl,⟨n1,n2⟩,s1,s2⟩
def eD8:=knQ prog (glZ m te) 287 bAo (eD6 m te)
def dD8:FuncId->Bool:=λf=>Nat.beq 287 f||dD6 f
theorem aSo{l:List rE}{pa:FuncId->List A->Nat->List qV->Option AV}{f:gV}{a:List A}{n:Nat}{cs:List qV}{v:AV}(hv:qX l pa f a n cs=some v){U:gJ}{O:fW}{ts:fU}(hs:Sy U n cs)(hg:qO U O a ts)(hf:(l.any λc=>Nat.beq c.f f)=true):
  ∃c∈l,qO [] [] c.pre ts/\v=vY c.res n cs:=by
 unfold qX at hv;split at hv
 .split at hv
  .rename_i c' hf;have hmem:=List.mem_of_find?_eq_some hf;have hcf:=List.find?_some (p:=λc:rE=>Nat.beq c.f f&&BD (KV cs 0 0 sJ) a c.pre) hf;simp only[aA]at hcf;obtain⟨hcf,hle⟩:=hcf;cases hv;refine⟨c',hmem,?_,rfl⟩;have:=BW (λa t x=>zF hs.cs hs.zero 0 0 sJ a t x) hle hg
   rwa [TZ,TZ]at this
  .cases hv
 .rename_i hno;exact absurd hf hno
theorem aUb(hI:Is)(m:Int)(te:fS):Lay prog (glZ m te) 40 (λ_ =>none) pD8 (eD8 m te) dD8:=by
 refine(bEb hI m te).knownQ (f0:=287) (pq:=bCy) λa n cs v hv U O ts hs hg=> ?_;obtain⟨c,hc,hgp,rfl⟩:=aSo (show qX [Mv,Ya] (λ_ _ _ _ =>none) 287 a n cs=some v from hv) hs hg rfl;have hp:DV (qY sJ) c.pre=true:=(aH.1 (by kernel_rfl):∀c∈[Mv,Ya],DV (qY sJ) c.pre=true) c hc;have hfz:mapO (qJ 40 ⟨0,.nl⟩) ts=some ts:=xL _ λx hx=>by
  obtain⟨a,ha,hga⟩:=xI hgp.1 hgp.2 hx;exact EE sJ a x (rF hp a ha) hga 40 tP
 have key:∃t xs,ts=[t]/\CK t xs/\(xs.length:Int)<=256/\(∀x∈xs,∃n s:Int,x= .agg [.int .i64 n,.int .i64 s])/\(c=Mv->badNs t)/\(c=Mv\/c=Ya):=by
  simp only[aR,bR,or_false]at hc;rcases hc with rfl|rfl
  .obtain⟨t,r,rfl,g1,g2⟩:=(show qO [] [] [.slpv 20 zM 0 256] ts from hgp).inv_cons;rw[g2.inv_nil];cases g1 with
   |slpv _ _ _ _ _ xs h0 h1 h2 h3 h4=>
    exact⟨t,xs,rfl,h1,h3,λx hx=>by obtain⟨n,s,e,_⟩:=UR (h4 x hx);exact⟨n,s,e⟩,λ_ =>((hI.n t).1 h0).1,.inl rfl⟩
  .obtain⟨t,r,rfl,g1,g2⟩:=(show qO [] [] [.slv zM 0 256] ts from hgp).inv_cons;rw[g2.inv_nil];obtain⟨xs,h1,h2,h3,h4⟩:=GD g1;exact⟨t,xs,rfl,h1,h3,λx hx=>by obtain⟨n,s,e,_⟩:=UR (h4 x hx);exact⟨n,s,e⟩,(λh=>by cases h),.inr rfl⟩
 obtain⟨t,xs,rfl,h1,h2,h3,h4,h5⟩:=key;refine⟨hfz,bRl m te h1 h2 h3,λr hr=>tT hs ?_⟩;obtain⟨e,rfl,e1,e2,e3⟩:=hr;rcases h5 with rfl|rfl
 .obtain⟨ys,y1,y,y2,y3⟩:=h4 rfl;have:e≠0:=λhe=>y3 (e3 he t ys rfl y1 y y2);exact AE (by omega) e2 (by omega) (by omega)
 .exact AE e1 e2 (by omega) (by omega)
def eD9:=FW prog (glZ m te) (eD8 m te) xD9.own xD9.top 40 λf=>(Bp++([WO])).any λc=>Nat.beq c.f f
def dD9:FuncId->Bool:=λf=>((Bp++([WO])).any λc=>Nat.beq c.f f)||dD8 f
theorem aGw(hI:Is)(m:Int)(te:fS):∀c∈Bp,vJ prog (glZ m te) (eD8 m te) xD9 40 c:=λc hc=>
 ⟨(aH.1 (by kernel_rfl):∀c∈Bp,DV (qY sJ) c.pre=true) c hc,λts ht=>yU ((aUb hI m te).cn (X:=xD9) rfl rfl (l:=[]) rfl (by kernel_rfl)) tP (tab:=[]) (by simp) (bHe c hc) ht⟩
theorem bRz(hI:Is)(m:Int)(te:fS):∀c∈[WO],vJ prog (glZ m te) (eD8 m te) xD9 40 c:=by
 intro c hc;simp only[aR,bR,or_false]at hc;subst hc;have hp:DV (qY sJ) WO.pre=true:=by kernel_rfl
 refine CG hp λts ht=> ?_;have ht':=ht;obtain⟨t,r,rfl,g1,g2⟩:=(show qO [] [] [.slv zM 0 1000000] ts from ht).inv_cons;have e:=g2.inv_nil;subst e;obtain⟨xs,h1,h2,h3,h4⟩:=GD g1;by_cases hb:badNs t
 .have hpt:pureT t:=OV (a:= .slv zM 0 1000000) (by kernel_rfl) g1;exact⟨aTh,aGw hI m te _ (by unfold Bp;simp),rfl,qC (.slpv _ _ _ _ _ xs ((hI.n t).2 ⟨hb,hpt⟩) h1 h2 h3 h4) vX,λ_ h=>h⟩
 .refine⟨bAz,aGw hI m te _ (by unfold Bp;simp),rfl,qC (.slv _ _ _ _ xs h1 h2 h3 λx hx=> ?_) vX,λ_ h=>h⟩;obtain⟨n,s,rfl,n1,s1⟩:=UR (h4 x hx);have ho:okN (.agg [.int .i64 n,.int .i64 s]):=dG λq=>hb ⟨xs,h1,_,hx,q⟩;obtain⟨n',s',e,o1,o2,o3,o4⟩:=ho;cases e;exact FM (qC (AE o1 o2 n1.1 n1.2) (qC (AE o3 o4 s1.1 s1.2) vX))
theorem aD9(hI:Is)(m:Int)(te:fS):∀c∈Bp++([WO]),vJ prog (glZ m te) (eD8 m te) xD9 40 c:=(cT.2 ⟨(aGw hI m te),(bRz hI m te)⟩)
theorem bEc(hI:Is)(m:Int)(te:fS):Lay prog (glZ m te) 40 (λ_ =>none) (pD9) (eD9 m te) dD9:=
 (aUb hI m te).stepZ follows (rC m te) tP (X:=xD9) (tl:=[219]) rfl bPr (l:=Bp++([WO])) (aD9 hI m te)
theorem XY{U:gJ}{O:fW}{lo hi:Int}{t:T}(h:Gm U O (.strv lo hi) t):∃l:List UInt8,t= .str l/\lo<=(l.length:Int)/\(l.length:Int)<=hi:=by
 cases h with
 |strv _ _ l h1 h2=>exact⟨l,rfl,h1,h2⟩
theorem aXa{U:gJ}{O:fW}{lo hi:Int}{k:iE}{t:T}(h:Gm U O (.ival k lo hi) t):∃n:Int,t= .int k n/\lo<=n/\n<=hi/\HG k n:=by
 cases h with
 |ival _ _ _ n h1 h2 h3=>exact⟨n,rfl,h1,h2,h3⟩
def eC9:=Vj prog (glZ m te) aOf (eD9 m te)
def dC9:FuncId->Bool:=λf=>Nat.beq 261 f||dD9 f
theorem bDw(hI:Is)(m:Int)(te:fS):Lay prog (glZ m te) 40 (λ_ =>none) (qX [aOf] pD9) (eC9 m te) dC9:=by
 refine(bEc hI m te).known tP (c:=aOf) (by kernel_rfl) λts h=> ?_;obtain⟨t,r,rfl,g1,g2⟩:=(show qO [] [] [.strv 1 cBig] ts from h).inv_cons;have e:=g2.inv_nil;subst e;obtain⟨l,rfl,h1,h2⟩:=XY g1;obtain⟨d1,d2,d3,d4⟩:=aWe l (by omega);refine⟨_,aCh l,λI=> ?_⟩;have q:= @qC I [] [] _ _ _ _ (@Gm.ival I [] [] .i32 0 1114111 (aCf l) d1 d2 ⟨by simp[IntKind.min,IntKind.bits,IntKind.signed];omega,by simp[IntKind.max,IntKind.bits,IntKind.signed];omega⟩) (@qC I [] [] _ _ _ _ (@Gm.ival I [] [] .i64 1 4 (aCg l) d3 d4 (wY (by omega))) (@vX I [] []));exact @Gm.tup I [] [] _ _ q.1 q.2
def eC0:=Vj prog (glZ m te) aVv (eC9 m te)
def dC0:FuncId->Bool:=λf=>Nat.beq 312 f||dC9 f
theorem bDt(hI:Is)(m:Int)(te:fS):Lay prog (glZ m te) 40 (λ_ =>none) pC0 (eC0 m te) dC0:=by
 refine(bDw hI m te).known tP (c:=aVv) (by kernel_rfl) λts h=> ?_;obtain⟨t,r,rfl,g1,g2⟩:=(show qO [] [] [.strc [48],.ival .i64 0 100] ts from h).inv_cons;obtain⟨u,r',rfl,g3,g4⟩:=g2.inv_cons;have e:=g4.inv_nil;subst e;cases g1;obtain⟨n,rfl,n1,n2,n3⟩:=aXa g3;have hp:=aLk (m:=m) (te:=te) [48] n.toNat (by omega) (by simp;omega);rw[show((n.toNat:Nat):Int)=n by omega]at hp;refine⟨_,hp,λI=> @Gm.strv I [] [] 0 100 _ (by omega) ?_⟩;rw[Lib.repeatL_length];simp;omega
def eC1:=nE gC1 eC0
def dC1:=nD gC1 dC0
theorem bDu(hI:Is)(m:Int)(te:fS):sG m te (pC1) (eC1 m te) dC1:=go (bDt hI m te) [226,298,326] rC1 rfl (by kernel_rfl) (by kernel_rfl) ⟨r5,r5,r5,trivial⟩
def eC2:=nE gC2 eC1
def dC2:=nD gC2 dC1
theorem bDv(hI:Is)(m:Int)(te:fS):sG m te (pC2) (eC2 m te) dC2:=go (bDu hI m te) [227,299,300,327,344] rC2 rfl (by kernel_rfl) (by kernel_rfl) ⟨r5,r5,r5,trivial⟩
def eV0:=Vj prog (glZ m te) aVu (eC2 m te)
def dV0:FuncId->Bool:=λf=>Nat.beq 309 f||dC2 f
theorem bFc(hI:Is)(m:Int)(te:fS):Lay prog (glZ m te) 40 (λ_ =>none) pV0 (eV0 m te) dV0:=by
 refine(bDv hI m te).known tP (c:=aVu) (by kernel_rfl) λts h=> ?_;obtain⟨t,r,rfl,g1,g2⟩:=(show qO [] [] [ifull] ts from h).inv_cons;have e:=g2.inv_nil;subst e;obtain⟨q,rfl,q1,q2⟩:=inv_int g1;obtain⟨y,k,n,e,hp,⟨y1,y2⟩,⟨k1,k2⟩,⟨n1,n2⟩,e1,e2⟩:=aHo m te q ⟨q1,q2⟩;refine⟨_,hp,λI=> ?_⟩;have iv:∀(lo hi n:Int),lo<=n->n<=hi->0<=n->n<=10000-> @Gm I [] [] (.ival .i64 lo hi) (.int .i64 n):=λlo hi n h1 h2 h3 h4=> @Gm.ival I [] [] _ _ _ _ h1 h2 (wY (by omega));have z:= @qC I [] [] _ _ _ _ (iv 0 9999 y y1 y2 (by omega) (by omega)) (@qC I [] [] _ _ _ _ (iv 0 12 k k1 k2 (by omega) (by omega)) (@qC I [] [] _ _ _ _ (iv 0 31 n n1 n2 (by omega) (by omega)) (@qC I [] [] _ _ _ _ (iv 0 255 e e1 e2 (by omega) (by omega)) (@vX I [] []))));exact @Gm.tup I [] [] _ _ z.1 z.2
def eL1:=nE gL1 eV0
def dL1:=nD gL1 dV0
theorem bEr(hI:Is)(m:Int)(te:fS):sG m te (pL1) (eL1 m te) dL1:=go (bFc hI m te) [310,311,329] rL1 rfl (by kernel_rfl) (by kernel_rfl) ⟨r5,trivial⟩
def eL2:=nE gL2 eL1
def dL2:=nD gL2 dL1
theorem bEs(hI:Is)(m:Int)(te:fS):sG m te (pL2) (eL2 m te) dL2:=go (bEr hI m te) [256] rL2 rfl (by kernel_rfl) (by kernel_rfl) ⟨r5,trivial⟩
def eL3:=nE gL3 eL2
def dL3:=nD gL3 dL2
theorem bEt(hI:Is)(m:Int)(te:fS):sG m te (pL3) (eL3 m te) dL3:=go (bEs hI m te) [257] rL3 rfl (by kernel_rfl) (by kernel_rfl) ⟨r5,trivial⟩
def eP9:=knQ prog (glZ m te) 302 bJu (eL3 m te)
def dP9:FuncId->Bool:=λf=>Nat.beq 302 f||dL3 f
theorem bEy(hI:Is)(m:Int)(te:fS):Lay prog (glZ m te) 40 (λ_ =>none) (kq 302 aQd pL3) (eP9 m te) dP9:=by
 refine(bEt hI m te).knownQ (f0:=302) (pq:=aQd) λa n cs v hv U O ts hs hg=> ?_;unfold aQd at hv;split at hv
 .rename_i s sb cb sd cd;split at hv
  .rename_i x c hl;split at hv
   .rename_i hle;cases hv;obtain⟨t1,r,rfl,g1,g2⟩:=hg.inv_cons;obtain⟨t2,r,rfl,g3,g4⟩:=g2.inv_cons;obtain⟨t3,r,rfl,g5,g6⟩:=g4.inv_cons;have e:=g6.inv_nil;subst e;obtain⟨l,w,rfl,e1,e2⟩:=xK hs.zero g1 hl;have hle:=qB hs.cs hle e1 hs.zero;cases g3 with
    |int _ _ _ vb hb kb=>
    cases g5 with
    |int _ _ _ vd hd kd=>
    have kb1:0<=vb+cb/\vb+cb<=255:=by
     have h1:=kb.1;have h2:=kb.2;simp[IntKind.min,IntKind.max,IntKind.bits,IntKind.signed]at h1 h2;omega
    refine⟨rfl,⟨_,bHw l _ _ kb1.1 kb1.2 (by omega),_,rfl,λs hs=> ?_⟩,λr hr=> ?_⟩
    .simp only[List.head?_cons,aC,T.str.injEq]at hs;subst hs;simp
    .obtain⟨s',rfl,q⟩:=hr;have:=q l rfl;exact .here hs (.str _ _ _ _ e1 (by omega))
   .cases hv
  .cases hv
 .cases hv
def eP0:=Vj prog (glZ m te) aVt (eP9 m te)
def dP0:FuncId->Bool:=λf=>Nat.beq 259 f||dP9 f
theorem bEv(hI:Is)(m:Int)(te:fS):Lay prog (glZ m te) 40 (λ_ =>none) pP0 (eP0 m te) dP0:=by
 refine(bEy hI m te).known tP (c:=aVt) (by kernel_rfl) λts h=> ?_;obtain⟨t,r,rfl,g1,g2⟩:=(show qO [] [] [zM] ts from h).inv_cons;have e:=g2.inv_nil;subst e;obtain⟨n,s,rfl,n1,s1⟩:=UR g1;obtain⟨t,e,hp,h1,h2,h3⟩:=aKm m te n s n1;refine⟨_,hp,λI=> ?_⟩;have z:= @qC I [] [] _ _ _ _ (@Gm.strv I [] [] 0 40 t (by omega) (by omega)) (@qC I [] [] _ _ _ _ (@Gm.ival I [] [] .i64 0 255 e h2 h3 (wY (by omega))) (@vX I [] []));exact @Gm.tup I [] [] _ _ z.1 z.2
def eP1:=nE gP1 eP0
def dP1:=nD gP1 dP0
theorem bEw(hI:Is)(m:Int)(te:fS):sG m te (pP1) (eP1 m te) dP1:=go (bEv hI m te) [194] rP1 rfl (by kernel_rfl) (by kernel_rfl) ⟨r5,trivial⟩
end
end Go.Proofs.Tryz
namespace Go.Proofs.Tryz
open Go.Ps
theorem rA0:sF prog gA0=true:=by kernel_rfl
theorem rA1:sF prog gA1=true:=by kernel_rfl
theorem rA2:sF prog gA2=true:=by kernel_rfl
theorem rA3:sF prog gA3=true:=by kernel_rfl
theorem rA4:sF prog gA4=true:=by kernel_rfl
theorem rA5:sF prog gA5=true:=by kernel_rfl
theorem rF0:sF prog gF0=true:=by kernel_rfl
theorem rB0:sF prog gB0=true:=by kernel_rfl
theorem rF1:sF prog gF1=true:=by kernel_rfl
theorem rB1:sF prog gB1=true:=by kernel_rfl
theorem rF2:sF prog gF2=true:=by kernel_rfl
theorem rB2:sF prog gB2=true:=by kernel_rfl
theorem rF3:sF prog gF3=true:=by kernel_rfl
theorem rB3:sF prog gB3=true:=by kernel_rfl
theorem rF4:sF prog gF4=true:=by kernel_rfl
theorem rB4:sF prog gB4=true:=by kernel_rfl
theorem rF5:sF prog gF5=true:=by kernel_rfl
theorem rB5:sF prog gB5=true:=by kernel_rfl
theorem rEq:sF prog gEq=true:=by kernel_rfl
variable[Inhabited Prd]
noncomputable section
theorem Yd:∀a b:List UInt8,-1<=Lib.compareBytes a b/\Lib.compareBytes a b<=1
 |[],[]=>by simp[Lib.compareBytes]|[],_ ::_ =>by simp[Lib.compareBytes]|_ ::_,[]=>by simp[Lib.compareBytes]
 |x::a,y::b=>by
  have:=Yd a b;unfold Lib.compareBytes
  repeat' split
  all_goals omega
variable(m:Int)(te:fS)
def eQ5:=Vj prog (glZ m te) c66 (eP1 m te)
def dQ5:FuncId->Bool:=λf=>Nat.beq 66 f||dP1 f
theorem bEz(hI:Is)(m:Int)(te:fS):Lay prog (glZ m te) 40 (λ_ =>none) q5 (eQ5 m te) dQ5:=by
 refine(bEw hI m te).known tP (c:=c66) (by kernel_rfl) λts h=> ?_;obtain⟨t,r,rfl,g1,g2⟩:=(show qO [] [] [.strv 0 cBig,.strv 0 cBig] ts from h).inv_cons;obtain⟨u,r',rfl,g3,g4⟩:=g2.inv_cons;have e:=g4.inv_nil;subst e;obtain⟨a,rfl,_,_⟩:=XY g1;obtain⟨b,rfl,_,_⟩:=XY g3;have hp:pW prog (glZ m te) 66 [.str a,.str b] (.int .i64 (Lib.compareBytes a b)):=aAi (Vt (f:=66) (by rfl));have hb:=Yd a b;exact⟨_,hp,λI=> @Gm.ival I [] [] _ _ _ _ (by omega) (by omega) (wY (by omega))⟩
def eQ6:=nE gQ6 eQ5
def dQ6:=nD gQ6 dQ5
theorem bFa(hI:Is)(m:Int)(te:fS):sG m te (q6) (eQ6 m te) dQ6:=go (bEz hI m te) [36] rQ6 rfl (by kernel_rfl) (by kernel_rfl) ⟨r5,trivial⟩
def eA0:=nE gA0 eQ6
def dA0:=nD gA0 dQ6
theorem bDi(hI:Is)(m:Int)(te:fS):sG m te (wQ 1) (eA0 m te) dA0:=go (bFa hI m te) [62] rA0 rfl (by kernel_rfl) (by kernel_rfl) ⟨r5,r5,r5,trivial⟩
def eA1:=nE gA1 eA0
def dA1:=nD gA1 dA0
theorem bDj(hI:Is)(m:Int)(te:fS):sG m te (wQ 2) (eA1 m te) dA1:=go (bDi hI m te) [62] rA1 rfl (by kernel_rfl) (by kernel_rfl) ⟨r5,r5,r5,r5,r5,r5,trivial⟩
def eA2:=nE gA2 eA1
def dA2:=nD gA2 dA1
theorem bDk(hI:Is)(m:Int)(te:fS):sG m te (wQ 3) (eA2 m te) dA2:=go (bDj hI m te) [62] rA2 rfl (by kernel_rfl) (by kernel_rfl) ⟨r5,r5,r5,r5,r5,r5,r5,r5,r5,trivial⟩
def eA3:=nE gA3 eA2
def dA3:=nD gA3 dA2
theorem bDl(hI:Is)(m:Int)(te:fS):sG m te (wQ 4) (eA3 m te) dA3:=go (bDk hI m te) [62] rA3 rfl (by kernel_rfl) (by kernel_rfl) ⟨r5,r5,r5,r5,r5,r5,r5,r5,r5,r5,r5,r5,trivial⟩
def eA4:=nE gA4 eA3
def dA4:=nD gA4 dA3
theorem aTy(hI:Is)(m:Int)(te:fS):sG m te (wQ 5) (eA4 m te) dA4:=go (bDl hI m te) [62] rA4 rfl (by kernel_rfl) (by kernel_rfl) ⟨r5,r5,r5,r5,r5,r5,r5,r5,r5,r5,r5,r5,r5,r5,r5,trivial⟩
def eA5:=nE gA5 eA4
def dA5:=nD gA5 dA4
theorem bDm(hI:Is)(m:Int)(te:fS):sG m te (wQ 6) (eA5 m te) dA5:=go (aTy hI m te) [62] rA5 rfl (by kernel_rfl) (by kernel_rfl) ⟨r5,r5,r5,r5,r5,r5,r5,r5,r5,r5,r5,r5,r5,r5,r5,r5,r5,r5,trivial⟩
end
end Go.Proofs.Tryz
namespace Go.Proofs.Tryz
open Go.Ps
theorem rPp:sF prog gPp=true:=by kernel_rfl
theorem rE1:sF prog gE1=true:=by kernel_rfl
theorem rE3:sF prog gE3=true:=by kernel_rfl
theorem rPb:∀c∈lPb,yT prog xPq [] 8 c=true:=aH.1 (by kernel_rfl)
variable[Inhabited Prd]
noncomputable section
def eF0:=nE gF0 eA5
def dF0:=nD gF0 dA5
theorem bEg(hI:Is)(m:Int)(te:fS):sG m te ((RW 0)) (eF0 m te) dF0:=go (bDm hI m te) [165,166,167] rF0 rfl (by kernel_rfl) (by kernel_rfl) ⟨r5,trivial⟩
def eB0:=nE gB0 eF0
def dB0:=nD gB0 dF0
theorem bDn(hI:Is)(m:Int)(te:fS):sG m te (yG 1) (eB0 m te) dB0:=go (bEg hI m te) [112] rB0 rfl (by kernel_rfl) (by kernel_rfl) ⟨r5,trivial⟩
def eF1:=nE gF1 eB0
def dF1:=nD gF1 dB0
theorem bEh(hI:Is)(m:Int)(te:fS):sG m te ((RW 1)) (eF1 m te) dF1:=go (bDn hI m te) [165,166,167] rF1 rfl (by kernel_rfl) (by kernel_rfl) ⟨r5,r5,trivial⟩
def eB1:=nE gB1 eF1
def dB1:=nD gB1 dF1
theorem bDo(hI:Is)(m:Int)(te:fS):sG m te (yG 2) (eB1 m te) dB1:=go (bEh hI m te) [112] rB1 rfl (by kernel_rfl) (by kernel_rfl) ⟨r5,r5,trivial⟩
def eF2:=nE gF2 eB1
def dF2:=nD gF2 dB1
theorem bEi(hI:Is)(m:Int)(te:fS):sG m te ((RW 2)) (eF2 m te) dF2:=go (bDo hI m te) [165,166,167] rF2 rfl (by kernel_rfl) (by kernel_rfl) ⟨r5,r5,r5,trivial⟩
def eB2:=nE gB2 eF2
def dB2:=nD gB2 dF2
theorem bDp(hI:Is)(m:Int)(te:fS):sG m te (yG 3) (eB2 m te) dB2:=go (bEi hI m te) [112] rB2 rfl (by kernel_rfl) (by kernel_rfl) ⟨r5,r5,r5,trivial⟩
def eF3:=nE gF3 eB2
def dF3:=nD gF3 dB2
theorem bEj(hI:Is)(m:Int)(te:fS):sG m te ((RW 3)) (eF3 m te) dF3:=go (bDp hI m te) [165,166,167] rF3 rfl (by kernel_rfl) (by kernel_rfl) ⟨r5,r5,r5,r5,trivial⟩
def eB3:=nE gB3 eF3
def dB3:=nD gB3 dF3
theorem bDq(hI:Is)(m:Int)(te:fS):sG m te (yG 4) (eB3 m te) dB3:=go (bEj hI m te) [112] rB3 rfl (by kernel_rfl) (by kernel_rfl) ⟨r5,r5,r5,r5,trivial⟩
def eF4:=nE gF4 eB3
def dF4:=nD gF4 dB3
theorem bEk(hI:Is)(m:Int)(te:fS):sG m te ((RW 4)) (eF4 m te) dF4:=go (bDq hI m te) [165,166,167] rF4 rfl (by kernel_rfl) (by kernel_rfl) ⟨r5,r5,r5,r5,r5,trivial⟩
def eB4:=nE gB4 eF4
def dB4:=nD gB4 dF4
theorem bDr(hI:Is)(m:Int)(te:fS):sG m te (yG 5) (eB4 m te) dB4:=go (bEk hI m te) [112] rB4 rfl (by kernel_rfl) (by kernel_rfl) ⟨r5,r5,r5,r5,r5,trivial⟩
def eF5:=nE gF5 eB4
def dF5:=nD gF5 dB4
theorem bEl(hI:Is)(m:Int)(te:fS):sG m te ((RW 5)) (eF5 m te) dF5:=go (bDr hI m te) [165,166,167] rF5 rfl (by kernel_rfl) (by kernel_rfl) ⟨r5,r5,r5,r5,r5,r5,trivial⟩
def eB5:=nE gB5 eF5
def dB5:=nD gB5 dF5
theorem bDs(hI:Is)(m:Int)(te:fS):sG m te (yG 6) (eB5 m te) dB5:=go (bEl hI m te) [112] rB5 rfl (by kernel_rfl) (by kernel_rfl) ⟨r5,r5,r5,r5,r5,r5,trivial⟩
def eEq:=nE gEq eB5
def dEq:=nD gEq dB5
theorem bEf(hI:Is)(m:Int)(te:fS):sG m te (q71) (eEq m te) dEq:=go (bDs hI m te) [71] rEq rfl (by kernel_rfl) (by kernel_rfl) ⟨r5,trivial⟩
def ePp:=nE gPp eEq
def dPp:=nD gPp dEq
theorem aUd(hI:Is)(m:Int)(te:fS):sG m te (qP0) (ePp m te) dPp:=go (bEf hI m te) tP0 rPp rfl (by kernel_rfl) (by kernel_rfl) ⟨r5,r5,r5,trivial⟩
end
end Go.Proofs.Tryz
namespace Go.Proofs.Tryz
open Go.Ps
theorem bHf:∀c∈[NL],yT prog xPn [] 8 c=true:=aH.1 (by kernel_rfl)
theorem bHh:∀c∈[NJ],yT prog xPm [] 8 c=true:=aH.1 (by kernel_rfl)
theorem bHg:∀c∈[NM],yT prog xPn [] 8 c=true:=aH.1 (by kernel_rfl)
theorem bHi:∀c∈[NK],yT prog xPm [] 8 c=true:=aH.1 (by kernel_rfl)
variable[Inhabited Prd]
noncomputable section
variable(m:Int)(te:fS)
def ePq:=FW prog (glZ m te) (ePp m te) xPq.own xPq.top 40 λf=>(lPq).any λc=>Nat.beq c.f f
def dPq:FuncId->Bool:=λf=>((lPq).any λc=>Nat.beq c.f f)||dPp f
structure Ip(m:Int)(te:fS):Prop where
 n:∀t:T,(default:Prd).q 10 t↔Ans prog (glZ m te) (ePp m te) xPq.own xPq.top 40 218 [t] (.bool false)/\pureT t
 y:∀t:T,(default:Prd).q 11 t↔Ans prog (glZ m te) (ePp m te) xPq.own xPq.top 40 218 [t] (.bool true)/\pureT t
theorem bAp(hI:Is)(m:Int)(te:fS):∀c∈lPb,vJ prog (glZ m te) (ePp m te) xPq 40 c:=λc hc=>
 ⟨(aH.1 (by kernel_rfl):∀c∈lPb,DV (qY sJ) c.pre=true) c hc,λts ht=>yU ((aUd hI m te).cn (X:=xPq) rfl rfl (l:=[93,141,292]) rfl (by kernel_rfl)) tP (tab:=[]) (by simp) (rPb c hc) ht⟩
theorem inv_bool{U:gJ}{O:fW}{t:T}(h:Gm U O (.bool sW) t):∃b,t= .bool b:=by
 cases h with
 |bool _ b _ =>exact⟨b,rfl⟩
theorem aMd{U:gJ}{O:fW}{q:Nat}{e:A}{lo hi:Int}{t:T}(h:Gm U O (.slv e lo hi) t)(hq:(default:Prd).q q t):Gm U O (.slpv q e lo hi) t:=by
 obtain⟨xs,h1,h2,h3,h4⟩:=GD h;exact .slpv _ _ _ _ _ xs hq h1 h2 h3 h4
theorem aKn{U:gJ}{O:fW}{q:Nat}{e:A}{lo hi:Int}{t:T}(h:Gm U O (.slpv q e lo hi) t):(default:Prd).q q t/\Gm U O (.slv e lo hi) t:=by
 cases h with
 |slpv _ _ _ _ _ xs h0 h1 h2 h3 h4=>exact⟨h0,.slv _ _ _ _ xs h1 h2 h3 h4⟩
theorem YZ(hI:Is)(m:Int)(te:fS)(hP:Ip m te){t:T}(h:Gm [] [] ZO t):Gm [] [] (.slpv 10 (.agg BP) 0 100) t\/Gm [] [] (.slpv 11 (.agg BP) 0 100) t:=by
 obtain⟨r,r1,r2⟩:=(bAp hI m te aOe (by unfold lPb;simp)).2 [t] (qC h vX);obtain⟨b,rfl⟩:=inv_bool r2;have hp:pureT t:=OV (a:=ZO) (by kernel_rfl) h;cases b
 .exact .inl (aMd h ((hP.n t).2 ⟨r1,hp⟩))
 .exact .inr (aMd h ((hP.y t).2 ⟨r1,hp⟩))
theorem bRy(hI:Is)(m:Int)(te:fS)(hP:Ip m te):∀c∈lPq,vJ prog (glZ m te) (ePp m te) xPq 40 c:=by
 intro c hc;have hp:=(aH.1 (by kernel_rfl):∀c∈lPq,DV (qY sJ) c.pre=true) c hc;simp only[lPq,aR,bR,or_false]at hc;rcases hc with rfl|rfl|rfl
 .refine⟨hp,λts ht=> ?_⟩;obtain⟨t,r,rfl,g1,g2⟩:=(show qO [] [] [.slpv 10 (.agg BP) 0 100] ts from ht).inv_cons;have e:=g2.inv_nil;subst e;exact⟨.bool false,((hP.n t).1 (aKn g1).1).1,.bool _ _ rfl⟩
 .refine⟨hp,λts ht=> ?_⟩;obtain⟨t,r,rfl,g1,g2⟩:=(show qO [] [] [.slpv 11 (.agg BP) 0 100] ts from ht).inv_cons;have e:=g2.inv_nil;subst e;exact⟨.bool true,((hP.y t).1 (aKn g1).1).1,.bool _ _ rfl⟩
 .exact bAp hI m te aOe (by unfold lPb;simp)
theorem aPq(hI:Is)(m:Int)(te:fS)(hP:Ip m te):∀c∈lPq,vJ prog (glZ m te) (ePp m te) xPq 40 c:=(bRy hI m te hP)
theorem Pb(hI:Is)(m:Int)(te:fS)(hP:Ip m te):Lay prog (glZ m te) 40 (λ_ =>none) (qP1) (ePq m te) dPq:=
 (aUd hI m te).stepZ follows (rC m te) tP (X:=xPq) (tl:=[218,93,141,292]) rfl bPv (l:=lPq) (aPq hI m te hP)
def eP2:=FW prog (glZ m te) (ePq m te) xPn.own xPn.top 40 λf=>([NL]++([NM]++([NJ]++([NK]++([WN,WM]))))).any λc=>Nat.beq c.f f
def dP2:FuncId->Bool:=λf=>(([NL]++([NM]++([NJ]++([NK]++([WN,WM]))))).any λc=>Nat.beq c.f f)||dPq f
theorem aTc(hI:Is)(m:Int)(te:fS)(hP:Ip m te):∀c∈[NL],vJ prog (glZ m te) (ePq m te) xPn 40 c:=λc hc=>
 ⟨(aH.1 (by kernel_rfl):∀c∈[NL],DV (qY sJ) c.pre=true) c hc,λts ht=>yU ((Pb hI m te hP).cn (X:=xPn) rfl rfl (l:=[289,140]) rfl (by kernel_rfl)) tP (tab:=[]) (by simp) (bHf c hc) ht⟩
theorem aTd(hI:Is)(m:Int)(te:fS)(hP:Ip m te):∀c∈[NM],vJ prog (glZ m te) (ePq m te) xPn 40 c:=λc hc=>
 ⟨(aH.1 (by kernel_rfl):∀c∈[NM],DV (qY sJ) c.pre=true) c hc,λts ht=>yU ((Pb hI m te hP).cn (X:=xPn) rfl rfl (l:=[289,140]) rfl (by kernel_rfl)) tP (tab:=[]) (by simp) (bHg c hc) ht⟩
theorem aTe(hI:Is)(m:Int)(te:fS)(hP:Ip m te):∀c∈[NJ],vJ prog (glZ m te) (ePq m te) xPn 40 c:=λc hc=>
 ⟨(aH.1 (by kernel_rfl):∀c∈[NJ],DV (qY sJ) c.pre=true) c hc,λts ht=>yU ((Pb hI m te hP).cn (X:=xPm) rfl rfl (l:=[217,289,140]) rfl (by kernel_rfl)) tP (tab:=[]) (by simp) (bHh c hc) ht⟩
theorem aTf(hI:Is)(m:Int)(te:fS)(hP:Ip m te):∀c∈[NK],vJ prog (glZ m te) (ePq m te) xPn 40 c:=λc hc=>
 ⟨(aH.1 (by kernel_rfl):∀c∈[NK],DV (qY sJ) c.pre=true) c hc,λts ht=>yU ((Pb hI m te hP).cn (X:=xPm) rfl rfl (l:=[217,289,140]) rfl (by kernel_rfl)) tP (tab:=[]) (by simp) (bHi c hc) ht⟩
theorem bRx(hI:Is)(m:Int)(te:fS)(hP:Ip m te):∀c∈[WN,WM],vJ prog (glZ m te) (ePq m te) xPn 40 c:=by
 intro c hc;have hp:=(aH.1 (by kernel_rfl):∀c∈[WN,WM],DV (qY sJ) c.pre=true) c hc;simp only[aR,bR,or_false]at hc;rcases hc with rfl|rfl
 .refine CG hp λts ht=> ?_;obtain⟨v,r,rfl,g1,g2⟩:=(show qO [] [] [vE,ZO] ts from ht).inv_cons;obtain⟨t,r,rfl,g3,g4⟩:=g2.inv_cons;rcases YZ hI m te hP g3 with h|h
  .exact⟨NL,aTc hI m te hP _ (by simp),rfl,qC g1 (qC h g4),λ_ h=>h⟩
  .exact⟨NM,aTd hI m te hP _ (by simp),rfl,qC g1 (qC h g4),λ_ h=>h⟩
 .refine CG hp λts ht=> ?_;obtain⟨v,r,rfl,g1,g2⟩:=(show qO [] [] [vE,ZO] ts from ht).inv_cons;obtain⟨t,r,rfl,g3,g4⟩:=g2.inv_cons;rcases YZ hI m te hP g3 with h|h
  .exact⟨NJ,aTe hI m te hP _ (by simp),rfl,qC g1 (qC h g4),λ_ h=>h⟩
  .exact⟨NK,aTf hI m te hP _ (by simp),rfl,qC g1 (qC h g4),λ_ h=>h⟩
theorem aP2(hI:Is)(m:Int)(te:fS)(hP:Ip m te):∀c∈[NL]++([NM]++([NJ]++([NK]++([WN,WM])))),vJ prog (glZ m te) (ePq m te) xPn 40 c:=(cT.2 ⟨(aTc hI m te hP),(cT.2 ⟨(aTd hI m te hP),(cT.2 ⟨(aTe hI m te hP),(cT.2 ⟨(aTf hI m te hP),(bRx hI m te hP)⟩)⟩)⟩)⟩)
theorem bEx(hI:Is)(m:Int)(te:fS)(hP:Ip m te):Lay prog (glZ m te) 40 (λ_ =>none) (pE0) (eP2 m te) dP2:=
 (Pb hI m te hP).stepZ follows (rC m te) tP (X:=xPn) (tl:=[217,146,289,140]) rfl bPu (l:=[NL]++([NM]++([NJ]++([NK]++([WN,WM]))))) (aP2 hI m te hP)
def eE1:=nE gE1 eP2
def dE1:=nD gE1 dP2
theorem aJu(hI:Is)(m:Int)(te:fS)(hP:Ip m te):sG m te (pE1) (eE1 m te) dE1:=go (bEx hI m te hP) [214,216,144,229,294,225,232,233] rE1 rfl (by kernel_rfl) (by kernel_rfl) ⟨r5,trivial⟩
end
end Go.Proofs.Tryz
namespace Go.Proofs.Tryz
open Go.Ps
theorem rS1:∀s∈[UF],qZ prog (xE 0) [] 4 s=true:=aH.1 (by kernel_rfl)
theorem rS2:∀s∈[Bx],qZ prog (xE 0) [UF] 4 s=true:=aH.1 (by kernel_rfl)
theorem rS3:∀s∈[aYm,aYo,aYp,aYn,Wg],qZ prog (xE 0) [UF,Bx] 4 s=true:=aH.1 (by kernel_rfl)
theorem rS4:∀s∈[Kv 0,Kv 1,Kv 2,Kw 0,Kw 1,Kw 2,ZM 0,ZM 1,ZM 2],qZ prog (xE 0) [UF,Bx] 4 s=true:=aH.1 (by kernel_rfl)
theorem rU0:∀s∈(Qh.map (Qv 0)),qZ prog (xE 0) [UF,Bx,ZM 0,Wg] 4 s=true:=aH.1 (by kernel_rfl)
theorem rU1:∀s∈(Qh.map (Qv 1)),qZ prog (xE 0) [UF,Bx,ZM 1,Wg] 4 s=true:=aH.1 (by kernel_rfl)
theorem rU2:∀s∈(Qh.map (Qv 2)),qZ prog (xE 0) [UF,Bx,ZM 2,Wg] 4 s=true:=aH.1 (by kernel_rfl)
theorem rN0:∀s∈[JG 0],qZ prog (xE 0) (ZN 0::tE0) 4 s=true:=aH.1 (by kernel_rfl)
theorem rT0:∀s∈[MJ 0],qZ prog (xE 0) (JG 0::tE0) 4 s=true:=aH.1 (by kernel_rfl)
theorem rN1:∀s∈[JG 1],qZ prog (xE 1) (ZN 1::tE0) 4 s=true:=aH.1 (by kernel_rfl)
theorem rT1:∀s∈[MJ 1],qZ prog (xE 1) (JG 1::tE0) 4 s=true:=aH.1 (by kernel_rfl)
theorem rN2:∀s∈[JG 2],qZ prog (xE 2) (ZN 2::tE0) 4 s=true:=aH.1 (by kernel_rfl)
theorem rT2:∀s∈[MJ 2],qZ prog (xE 2) (JG 2::tE0) 4 s=true:=aH.1 (by kernel_rfl)
theorem rV0:∀s∈((IZ 0).map (sEv 0)),qZ prog (xE 0) (tEv 0) 4 s=true:=aH.1 (by kernel_rfl)
theorem rV1:∀s∈((IZ 1).map (sEv 1)),qZ prog (xE 1) (tEv 1) 4 s=true:=aH.1 (by kernel_rfl)
theorem rV2:∀s∈((IZ 2).map (sEv 2)),qZ prog (xE 2) (tEv 2) 4 s=true:=aH.1 (by kernel_rfl)
theorem rV3:∀s∈((IZ 3).map (sEv 3)),qZ prog (xE 3) (tEv 3) 4 s=true:=aH.1 (by kernel_rfl)
theorem r59:∀c∈aCw++aCx,yT prog (xE 3) [ZN 3] 8 c=true:=aH.1 (by kernel_rfl)
variable[Inhabited Prd]
noncomputable section
variable(m:Int)(te:fS)
def SE(s:CF):Prop:=GW (λn d=>(vH prog ⟨glZ m te,uH 40 (eE1 m te)⟩ (xE 0).own (xE 0).top n d).ee) s
theorem Rg(hI:Is){m:Int}{te:fS}(hP:Ip m te){d:Nat}{tab:List CF}(ht:∀s∈tab,SE m te s){s:CF}(hr:qZ prog (xE d) tab 4 s=true):SE m te s:=
 Lay.smy (aJu hI m te hP) (X:=xE d) rfl rfl (il:=tE) rfl (by kernel_rfl) (tl:=tE) rfl (by kernel_rfl) ht hr (by kernel_rfl) (by kernel_rfl) tP
section
variable(hI:Is)(m:Int)(te:fS)(hP:Ip m te)
include hI hP
theorem se1:∀s∈[UF],SE m te s:=λs h=>Rg hI hP (d:=0) (tab:=[]) (by simp) (rS1 s h)
theorem se2:∀s∈[UF,Bx],SE m te s:=λs h=>by
 simp only[aR,bR,or_false]at h;rcases h with rfl|rfl
 .exact se1 hI m te hP _ (by simp)
 .exact Rg hI hP (d:=0) (se1 hI m te hP) (rS2 _ (by simp))
theorem se3:∀s∈tE0,SE m te s:=λs h=>by
 have h:s∈[UF,Bx]++[aYm,aYo,aYp,aYn,Wg]:=h;rcases bH.1 h with h|h
 .exact se2 hI m te hP s h
 .exact Rg hI hP (d:=0) (se2 hI m te hP) (rS3 s h)
theorem se4:∀s∈[Kv 0,Kv 1,Kv 2,Kw 0,Kw 1,Kw 2,ZM 0,ZM 1,ZM 2],SE m te s:=λs h=>Rg hI hP (d:=0) (se2 hI m te hP) (rS4 s h)
theorem se5{d:Nat}(h230:SE m te (ZM d))(hr:∀s∈Qh.map (Qv d),qZ prog (xE 0) [UF,Bx,ZM d,Wg] 4 s=true):∀s∈Qh.map (Qv d),SE m te s:=λs h=>by
 refine Rg hI hP (d:=0) (λq hq=> ?_) (hr s h);simp only[aR,bR,or_false]at hq;rcases hq with rfl|rfl|rfl|rfl
 .exact se2 hI m te hP _ (by simp)
 .exact se2 hI m te hP _ (by simp)
 .exact h230
 .exact se3 hI m te hP _ (by unfold tE0;simp)
theorem Ky{d:Nat}(hd:d<=3)(ht:∀s∈tEv d,SE m te s)(hr:∀s∈(IZ d).map (sEv d),qZ prog (xE d) (tEv d) 4 s=true):SE m te (ZN d):=by
 refine Gt λts O hg=> ?_;obtain⟨p,r,rfl,g1,g2⟩:=(show qO [0] O (.ptr 0 0::[.prd (100+d+1) (eA d)]) ts from hg).inv_cons;obtain⟨t,r,rfl,g3,g4⟩:=g2.inv_cons;obtain⟨k,hk,hg'⟩:=aWc hI (by omega) g3;exact⟨sEv d k,Rg hI hP ht (hr _ (eB hk)),rfl,rfl,qC g1 (qC hg' g4),λ_ h=>h⟩
theorem Kz{d:Nat}(hE:SE m te (ZN d))(hN:∀s∈[JG d],qZ prog (xE d) (ZN d::tE0) 4 s=true)(hT:∀s∈[MJ d],qZ prog (xE d) (JG d::tE0) 4 s=true)
  (h2:SE m te (Kv d)) (h3:SE m te (Kw d)) (hU:∀s∈Qh.map (Qv d),SE m te s):∀s∈tEv (d+1),SE m te s:=by
 have hn:SE m te (JG d):=Rg hI hP (λs h=>by
  rcases aR.1 h with rfl|h
  .exact hE
  .exact se3 hI m te hP s h) (hN _ (by simp))
 have ht:SE m te (MJ d):=Rg hI hP (λs h=>by
  rcases aR.1 h with rfl|h
  .exact hn
  .exact se3 hI m te hP s h) (hT _ (by simp))
 intro s h;have h:s∈tE0++[ZN d,JG d,MJ d,Kv d,Kw d]++Qh.map (Qv d):=h;rcases bH.1 h with h|h
 .rcases bH.1 h with h|h
  .exact se3 hI m te hP s h
  .simp only[aR,bR,or_false]at h;rcases h with rfl|rfl|rfl|rfl|rfl
   .exact hE
   .exact hn
   .exact ht
   .exact h2
   .exact h3
 .exact hU s h
theorem aYs:SE m te (ZN 3):=by
 have m4:=se4 hI m te hP;have u0:=se5 hI m te hP (d:=0) (m4 _ (by simp)) rU0;have u1:=se5 hI m te hP (d:=1) (m4 _ (by simp)) rU1;have u2:=se5 hI m te hP (d:=2) (m4 _ (by simp)) rU2;have v0:=Ky hI m te hP (d:=0) (by omega) (se3 hI m te hP) rV0;have t1:=Kz hI m te hP v0 rN0 rT0 (m4 _ (by simp)) (m4 _ (by simp)) u0;have v1:=Ky hI m te hP (d:=1) (by omega) t1 rV1;have t2:=Kz hI m te hP v1 rN1 rT1 (m4 _ (by simp)) (m4 _ (by simp)) u1;have v2:=Ky hI m te hP (d:=2) (by omega) t2 rV2;have t3:=Kz hI m te hP v2 rN2 rT2 (m4 _ (by simp)) (m4 _ (by simp)) u2;exact Ky hI m te hP (d:=3) (by omega) t3 rV3
theorem a59:∀c∈aCw++aCx,vJ prog (glZ m te) (eE1 m te) (xE 0) 40 c:=λc hc=>
 ⟨(aH.1 (by kernel_rfl):∀c∈aCw++aCx,DV (qY sJ) c.pre=true) c hc,λts ht=>yU ((aJu hI m te hP).cn (X:=xE 3) rfl rfl (l:=tE) rfl (by kernel_rfl)) tP (tab:=[ZN 3]) (λs h=>by
  simp only[aR,bR,or_false]at h;subst h
  exact aYs hI m te hP) (r59 c hc) ht⟩
theorem u59:∀c∈[c59],vJ prog (glZ m te) (eE1 m te) (xE 0) 40 c:=by
 intro c hc;simp only[aR,bR,or_false]at hc;subst hc;refine CG (by kernel_rfl) λts ht=> ?_;obtain⟨e,r,rfl,g1,g2⟩:=(show qO [] [] [.agg (eA 3),vE] ts from ht).inv_cons;have hp:pureT e:=OV (pureE 3 (by omega)) g1;have g1':=g1;cases g1' with
 |agg _ us h1 h2=>
 by_cases hv:VE 4 (.agg us)
 .exact⟨bBq,a59 hI m te hP _ (by unfold aCw aCx;simp),rfl,qC (.prd _ _ _ ((hI.v 4 _ (by omega)).2 ⟨hv,hp⟩) h1 h2) g2,λ_ h=>h⟩
 .refine⟨bBp,a59 hI m te hP _ (by unfold aCw aCx;simp),rfl,qC (.prd _ _ _ ((hI.b 4 _ (by omega)).2 ⟨hv,hp⟩) h1 h2) g2,λr h=> ?_⟩;have h':Gm [0] [] (.tup [.agg (vA 0 0 0),Bc]) r:=Gm.ext (λj v h=>by simp at h) (λj v h=>by simp at h) h;exact zF (U:=[0]) (O:=[]) (cs:=[]) (λq hq=>by simp at hq) rfl 0 0 sJ _ (.tup [.agg (vT (uT 3) 5),ES]) r (by kernel_rfl) h'
end
def eE2:=FW prog (glZ m te) (eE1 m te) (xE 0).own (xE 0).top 40 λf=>l59.any λc=>Nat.beq c.f f
def dE2:FuncId->Bool:=λf=>(l59.any λc=>Nat.beq c.f f)||dE1 f
theorem bPs:(tE:gI).all (λf=>vL prog f&&zD prog f)=true:=by kernel_rfl
theorem bEd(hI:Is)(m:Int)(te:fS)(hP:Ip m te):Lay prog (glZ m te) 40 (λ_ =>none) pE2 (eE2 m te) dE2:=
 (aJu hI m te hP).stepZ follows (rC m te) tP (X:=xE 0) (tl:=tE) rfl bPs (l:=l59) (cT.2 ⟨(cT.1 (a59 hI m te hP)).1,cT.2 ⟨(cT.1 (a59 hI m te hP)).2,u59 hI m te hP⟩⟩)
def eE3:=nE gE3 eE2
def dE3:=nD gE3 dE2
theorem bEe(hI:Is)(m:Int)(te:fS)(hP:Ip m te):sG m te (pE3) (eE3 m te) dE3:=go (bEd hI m te hP) [30] rE3 rfl (by kernel_rfl) (by kernel_rfl) ⟨r5,trivial⟩
end
end Go.Proofs.Tryz
namespace Go.Proofs.Tryz
open Go.Ps
theorem rE4:sF prog gE4=true:=by kernel_rfl
theorem rM1:sF prog gM1=true:=by kernel_rfl
variable[Inhabited Prd]
noncomputable section
def eE4:=nE gE4 eE3
def dE4:=nD gE4 dE3
theorem aUc(hI:Is)(m:Int)(te:fS)(hP:Ip m te):sG m te (pN1) (eE4 m te) dE4:=go (bEe hI m te hP) tN rE4 rfl (by kernel_rfl) (by kernel_rfl) ⟨r5,trivial⟩
def eM1:=nE gM1 eE4
def dM1:=nD gM1 dE4
theorem bEu(hI:Is)(m:Int)(te:fS)(hP:Ip m te):sG m te (pM1) (eM1 m te) dM1:=go (aUc hI m te hP) [13,14] rM1 rfl (by kernel_rfl) (by kernel_rfl) ⟨r5,trivial⟩
end
end Go.Proofs.Tryz
namespace Go.Proofs.Tryz
open Go.Ps
end Go.Proofs.Tryz
namespace Go.Ps
section
variable{P:fV}{E:tY}{ee:gB}{yd:gF}{ow:hD}{n:Nat}
def bGe:List T->T
 |[t]=>t|ts=> .tup ts
theorem Nx{f:gV}{fn:Func}{c:Code}{args:fU}{H H':Hp}{t:T}(hf:P.funcs[f]? =some fn)(hb:fn.body=some c)(h:Yu P E ee yd ow n f args H=some (t,H')):
  ∃l,aKw P fn.results.toList (qI P E ee yd ow n none c (args++List.replicate (fn.ntmps-args.length) pV) H)=some l/\t=bGe l:=by
 unfold Yu at h;simp only[hf,hb]at h;generalize qI P E ee yd ow n none c (args++List.replicate (fn.ntmps-args.length) pV) H=o at h⊢;rcases o with _ |⟨x,fr,H1⟩
 .cases h
 .have key:∀{q:Option (List T)},(match q with|some [t]=>some (t,H1)|some ts=>some (.tup ts,H1)|none=>none)=some (t,H')->∃l,q=some l/\t=bGe l:=by
   intro q hq;rcases q with _ |_ |⟨a,_ |⟨b,r⟩⟩
   .cases hq
   .cases hq;exact⟨_,rfl,rfl⟩
   .cases hq;exact⟨_,rfl,rfl⟩
   .cases hq;exact⟨_,rfl,rfl⟩
  cases x<;>first
   |exact key h
   |cases h
theorem Oc{k:Nat}{H:Hp}{t:T}{b:Bool}(h:qJ (k+1) H t=some (.bool b)):t= .bool b:=by
 cases t
 case bool=>cases h;rfl
 all_goals
  simp only[qJ]at h
  repeat' split at h
  all_goals cases h
end
end Go.Ps
namespace Go.Proofs.Tryz
open Go.Ps
variable[Inhabited Prd]
theorem out{m:Int}{te:fS}{pa q:FuncId->List A->Nat->List qV->Option AV}{e:jI}{dom d:iA}(h:sG m te pa (e m te) dom){g:xD}{gs:List xD}
  (h3:sF prog (g::gs)=true) (h2:aHn dom (g::gs)=true) (h1:Ps.MR (λ_ =>none) pa g.1 (g::gs)) (hl:sG m te q (nE (g::gs) e m te) d) {c:rE} (hc:c∈GZ (g::gs)) {ts:fU} (ht:qO [] [] c.pre ts):
  ∃r,pW prog (glZ m te) c.f ts r/\Gm [] [] c.res r:=
 Lay.exZ (X:=g.1) hl (rC m te) tP hc (aVl h tP h1 h2 h3 c hc) ht
variable(m:Int)(te:fS)
theorem aMa{ts:fU}(h:qO [] [] c8.pre ts):∃r,pW prog (glZ m te) 8 ts r/\Gm [] [] c8.res r:=
 out (aUf m te) rW8 (by kernel_rfl) ⟨r5,trivial⟩ (aJv m te) (c:=c8) (aL:c8∈[c8]) h
theorem aXr{ts:fU}(h:qO [] [] c12.pre ts):∃r,pW prog (glZ m te) 12 ts r/\Gm [] [] c12.res r:=
 out (aJv m te) bHj (by kernel_rfl) ⟨r5,trivial⟩ (aXi m te) (c:=c12) (aL:c12∈[c12]) h
noncomputable def ltrI:List A:=[ifull,.slv ifull 0 cBig,ifull,.slv ifull 0 cBig]++vI 4++[txt cBig,txt cBig,ifull]
theorem bCv{es:List A}{x:T}(h:Gm [] [] (.agg es) x):∃ts,x= .agg ts/\qO [] [] es ts:=by
 cases h with
 |agg _ ts h1 h2=>exact⟨ts,rfl,h1,h2⟩
section
variable(hI:Is)(m:Int)(te:fS)(hP:Ip m te)
include hI hP
theorem aKh{ts:fU}(h:qO [] [] c13.pre ts):∃b,pW prog (glZ m te) 13 ts (.bool b)/\pW prog (glZ m te) 14 ts (.bool b):=by
 have ha:=aVl (aUc hI m te hP) tP (X:=xM) (gs:=gM1) ⟨r5,trivial⟩ (by kernel_rfl) rM1;have h13:=ha c13 (aL:c13∈[c13,c14]);have h14:=ha c14 (aG _ aL:c14∈[c13,c14]);obtain⟨r,a1,a2⟩:=h13.2 ts h;obtain⟨r',b1,b2⟩:=h14.2 ts h;obtain⟨b,rfl⟩:=inv_bool a2;obtain⟨b',rfl⟩:=inv_bool b2;have hb:b=b':=by
  obtain⟨k1,m1⟩:=a1;obtain⟨k2,m2⟩:=b1;have e1:=m1 (k1+k2) (k1+k2+1) (by omega) (by omega);have e2:=m2 (k1+k2) (k1+k2+1) (by omega) (by omega);unfold Ps.pureE at e1 e2;split at e1
  .rename_i t1 H1 f1;split at e2
   .rename_i t2 H2 f2;have f1:Yu prog ⟨glZ m te,uH 40 (eE4 m te)⟩ (vH prog ⟨glZ m te,uH 40 (eE4 m te)⟩ xM.own xM.top (k1+k2) (k1+k2)).ee (vH prog ⟨glZ m te,uH 40 (eE4 m te)⟩ xM.own xM.top (k1+k2) (k1+k2)).yd (λ_ =>true) (k1+k2) 13 ts ⟨0,.nl⟩=some (t1,H1):=f1;have f2:Yu prog ⟨glZ m te,uH 40 (eE4 m te)⟩ (vH prog ⟨glZ m te,uH 40 (eE4 m te)⟩ xM.own xM.top (k1+k2) (k1+k2)).ee (vH prog ⟨glZ m te,uH 40 (eE4 m te)⟩ xM.own xM.top (k1+k2) (k1+k2)).yd (λ_ =>true) (k1+k2) 14 ts ⟨0,.nl⟩=some (t2,H2):=f2;obtain⟨l1,g1,rfl⟩:=Nx func13 (c:=qD f13) (by kernel_rfl) f1;obtain⟨l2,g2,rfl⟩:=Nx func14 (c:=qD f14) (by kernel_rfl) f2;have hl:ts.length=2:=h.1.symm;have key:=bRv ⟨glZ m te,uH 40 (eE4 m te)⟩ _ _ (λ_ =>true) _ rfl (ts++List.replicate (72-ts.length) pV) ⟨0,.nl⟩ l1 l2 (by simp[hl]) g1 g2;subst key;have c1:=Oc (k:=39) e1;have c2:=Oc (k:=39) e2;rw[c1]at c2;exact T.bool.inj c2
   .cases e2
  .cases e1
 subst hb;have hp:∀{f:gV},((GZ gM1).any λc=>Nat.beq c.f f)=true->Ans prog (glZ m te) (eE4 m te) xM.own xM.top 40 f ts (.bool b)->pW prog (glZ m te) f ts (.bool b):=λ{f} hf ha=>
  (bEu hI m te hP).pure (rC m te) (XF (tab:=λf=>(GZ gM1).any λc=>Nat.beq c.f f) hf ha) (xL _ λx hx=>by
   obtain⟨a,h1,h2⟩:=xI h.1 h.2 hx
   exact EE sJ a x (rF h13.1 a h1) h2 40 tP)
 exact⟨b,hp (f:=13) (by kernel_rfl) a1,hp (f:=14) (by kernel_rfl) b1⟩
end
noncomputable section
section
variable{U:gJ}{O:fW}
def msA:A:= .agg ([ifull,.slv ifull 0 6,ifull,.slv ifull 0 6]++vA 40 6 4)
theorem aRd{r:T}(h:Gm U O msA r):∃y:Lr,Gm U O msA (.agg y.m)/\∀g v,Rd g v r->Rd g v (.agg y.m):=by
 cases(show Gm U O (.agg [ifull,.slv ifull 0 6,ifull,.slv ifull 0 6,ifull,ifull,ifull,txt 40,.slv (.agg (vA 40 6 3)) 0 6,.slv (.agg (txt 40::vA 40 6 3)) 0 6]) r from h)with
 |agg _ ts h1 h2=>
 obtain⟨x0,r,rfl,g0,k⟩:=(show qO U O _ ts from⟨h1,h2⟩).inv_cons;obtain⟨x1,r,rfl,g1,k⟩:=k.inv_cons;obtain⟨x2,r,rfl,g2,k⟩:=k.inv_cons;obtain⟨x3,r,rfl,g3,k⟩:=k.inv_cons;obtain⟨x4,r,rfl,g4,k⟩:=k.inv_cons;obtain⟨x5,r,rfl,g5,k⟩:=k.inv_cons;obtain⟨x6,r,rfl,g6,k⟩:=k.inv_cons;obtain⟨x7,r,rfl,g7,k⟩:=k.inv_cons;obtain⟨x8,r,rfl,g8,k⟩:=k.inv_cons;obtain⟨x9,r,rfl,g9,k⟩:=k.inv_cons;have e:=k.inv_nil;subst e;obtain⟨a,rfl,_,_⟩:=inv_int g0;obtain⟨b,rfl,_,_⟩:=inv_int g2;obtain⟨c,rfl,_,_⟩:=inv_int g4;obtain⟨d,rfl,_,_⟩:=inv_int g5;obtain⟨e,rfl,_,_⟩:=inv_int g6;obtain⟨s,rfl⟩:=inv_sv g7;obtain⟨n,u,_,_,gu,hu⟩:=GQ id (Gm U O ifull) (λ_ h=>h) (λx hx=>by obtain⟨a,h1,h2⟩:=Uf hx;exact⟨_,h1,h2⟩) g1;obtain⟨o,w,_,_,gw,hw⟩:=GQ id (Gm U O ifull) (λ_ h=>h) (λx hx=>by obtain⟨a,h1,h2⟩:=Uf hx;exact⟨_,h1,h2⟩) g3;obtain⟨p,l,_,_,gl,hl⟩:=GQ id (Gm U O (.agg (vA 40 6 3))) (λ_ h=>h) (Ln λe he=>aBi 12 e (aH.1 (show(vA 40 6 3).all (tDb 12)=true by kernel_rfl) e he)) g8;obtain⟨q,f,_,_,gf,hf⟩:=GQ id (Gm U O (.agg (txt 40::vA 40 6 3))) (λ_ h=>h) (Ln λe he=>aBi 12 e (aH.1 (show(txt 40::vA 40 6 3).all (tDb 12)=true by kernel_rfl) e he)) g9;refine⟨⟨a,n,u,b,o,w,⟨c,d,e,s,p,l,q,f⟩,[],[],0⟩,FM (qC g0 (qC gu (qC g2 (qC gw (qC g4 (qC g5 (qC g6 (qC g7 (qC gl (qC gf vX)))))))))),λg v hr=> ?_⟩;cases hr with
 |agg _ vs k1 k2=>
  refine .agg _ vs k1 λj c t hj ht=> ?_
  match j,ht with
  |0,ht=>cases ht;exact k2 0 c _ hj rfl|1,ht=>cases ht;exact(hu g c (k2 1 c _ hj rfl)).rd|2,ht=>cases ht;exact k2 2 c _ hj rfl|3,ht=>cases ht;exact(hw g c (k2 3 c _ hj rfl)).rd|4,ht=>cases ht;exact k2 4 c _ hj rfl|5,ht=>cases ht;exact k2 5 c _ hj rfl|6,ht=>cases ht;exact k2 6 c _ hj rfl|7,ht=>cases ht;exact k2 7 c _ hj rfl|8,ht=>cases ht;exact(hl g c (k2 8 c _ hj rfl)).rd|9,ht=>cases ht;exact(hf g c (k2 9 c _ hj rfl)).rd|j+10,ht=>cases ht
end
instance:Inhabited Lr:=⟨⟨0,0,λ_ =>pV,0,0,λ_ =>pV,default,[],[],0⟩⟩
section
variable(m:Int)(te:fS)
def cM(f:gV)(x:T):Lr:=
 open Classical in if h:∃y:Lr,Gm [] [] msA (.agg y.m)/\pW prog (glZ m te) f [x] (.agg y.m)then Classical.choose h else default
theorem aTk{f:gV}{x:T}(h:∃r,pW prog (glZ m te) f [x] r/\Gm [] [] msA r):Gm [] [] msA (.agg (cM m te f x).m)/\pW prog (glZ m te) f [x] (.agg (cM m te f x).m):=by
 obtain⟨r,h1,h2⟩:=h;obtain⟨y,k1,k2⟩:=aRd h2;have hex:∃y:Lr,Gm [] [] msA (.agg y.m)/\pW prog (glZ m te) f [x] (.agg y.m):=⟨y,k1,h1.mono k2⟩;unfold cM;rw[dif_pos hex];exact dF hex
def cpy(c:T->Lr)(y:Lr):Lr:={c (.agg y.m)with node:=y.node,text:=y.text,ver:=y.ver}
def bHs(c:T->Lr):List T->Option (T×List Bool)
 |[y]=>some (.agg (c y).m,[pb (pW prog (glZ m te) 37 [y] (.agg (c y).m))])|_ =>none
variable(a:Fl)(n:Nat)(w:iW)(v:iW)(c:T->Lr)
def bAj:Ed:=⟨glZ m te,rT 32 (s32 a n w) (rT 37 (bHs m te c) (λ_ _ _ =>none))⟩
def bPl(k:Nat):Option (T×List Bool):=aAg prog f17 40 (zC prog (bAj m te a n w c) F17 (aUy m te k v) 20 40 (qD f17) ([LX n w,yQ a]++List.replicate 18 pV) ⟨0,.nl⟩ [] [])
def Pk:Nat->Nat->Bool
 |k,0=>pb (Mg prog (glZ m te) 63 (DL a n w) (Wz k v))&&(pb (LX n w=LX n w)&&(pb (yQ a=yQ a)&&true))|k,j+1=>pb (pW prog (glZ m te) 37 [.agg (v j).m] (.agg (c (.agg (v j).m)).m))&&Pk k j
theorem bSi:∀k:Nat,k<=12->(bPl m te a n w v c k).map (λq=>(q.1,qA q.2))=some (rsL k λj=>zI (λj=>cpy c (v j)) j,Pk m te a n w v c k k):=by
 intro n h;rcases n with _ |_ |_ |_ |_ |_ |_ |_ |_ |_ |_ |_ |_ |n<;>first|omega|kernel_rfl
theorem bBz:Cx prog (bAj m te a n w c) F17:=by
 refine⟨follows,?_,rG⟩;refine qN (qN rR λts r cs h hc=> ?_) λts r cs h hc=> ?_
 .unfold bHs at h;split at h
  .cases h;simp only[qA,bC,rD]at hc;exact hc
  .cases h
 .unfold s32 at h;split at h
  .cases h;simp only[qA,bC,aA,rD]at hc;rw[hc.1,hc.2];exact c32 m te a n w
  .cases h
theorem Ri{k:Nat}(hk:k<=12)(hs:Mg prog (glZ m te) 63 (DL a n w) (Wz k v))(h37:∀j,j<k->pW prog (glZ m te) 37 [.agg (v j).m] (.agg (c (.agg (v j).m)).m)):pW prog (glZ m te) 17 [LX n w,yQ a] (.slf false k λi=>zI (λj=>cpy c (v j)) i):=by
 have h:=bSi m te a n w v c k hk;rw[aD]at h;obtain⟨⟨r,log⟩,h1,h2⟩:=h;simp only[aU]at h2;obtain⟨rfl,h2⟩:=h2;have hl:∀j,j<=k->Pk m te a n w v c k j=true:=by
  intro j
  induction j with
  |zero=>intro _;simp[Pk,rD,hs]|succ j ih=>intro hj;simp[Pk,rD,h37 j (by omega),ih (by omega)]
 rw[hl k (aZ k)]at h2;refine pW.mono (pure_ru (bBz m te a n w c) (rC m te) (It:=aUy m te k v) (k:=40) (n:=20) (λf c xs h=> ?_) (by kernel_rfl) (by kernel_rfl) func17 (c:=qD f17) (by kernel_rfl) (L:=18) (by kernel_rfl) (by kernel_rfl) (ds:=[]) h1 h2) λg u h=>EG (λj _ c hc=>by simp[T.cells,zI,Lr.c]at hc;rcases hc with rfl|rfl|rfl|rfl|rfl|rfl|rfl|rfl|rfl|rfl|rfl|rfl|rfl<;>rfl) h;unfold itE aUy at h;split at h
 .rename_i ys cs he;split at he
  .rename_i e;cases he;subst e;split at h
   .rename_i hc;cases h;simp only[qA,bC,rD]at hc;exact⟨by kernel_rfl,hc⟩
   .cases h
  .cases he
 .cases h
end
end
end Go.Proofs.Tryz
namespace Go.Ps
variable{P:fV}{gl:fY}
theorem pW.args{f:gV}{ts ts':fU}{r:T}(h:pW P gl f ts r)(k:∀g vs,RdL g vs ts'->RdL g vs ts):pW P gl f ts' r:=
 ⟨h.1,λg vs hg hN hgl hv=>h.2 g vs hg hN hgl (k g vs hv)⟩
end Go.Ps
namespace Go.Proofs.Tryz
open Go.Ps
variable[Inhabited Prd]
noncomputable section
def aVx:rE:=⟨68,[.slv ifull 0 6],.slv ifull 0 6⟩
variable(m:Int)(te:fS)
def eUl:=Vj prog (glZ m te) aVx (eA4 m te)
def pUl:=qX [aVx] (wQ 5)
def dUl:FuncId->Bool:=λf=>Nat.beq 68 f||dA4 f
theorem bFb(hI:Is)(m:Int)(te:fS):sG m te pUl (eUl m te) dUl:=by
 refine(aTy hI m te).known tP (c:=aVx) (by kernel_rfl) λts h=> ?_;obtain⟨t,r,rfl,g1,g2⟩:=(show qO [] [] [.slv ifull 0 6] ts from h).inv_cons;have e:=g2.inv_nil;subst e;obtain⟨n,u,hn,hu,_,hr⟩:=GQ (λa:Int=>T.int .i64 a) (λa=>Gm [] [] ifull (.int .i64 a)) (λ_ h=>h) (λx hx=>Uf hx) g1;refine⟨aJm n u,(c68 m te (n:=n) (by omega) u).args λg vs hv=> ?_,λI=> ?_⟩
 .match vs,hv with
  |[v],hv=>exact RdL.cons (hr g v hv.inv_cons.1).rd RdL.nil|[],hv=>have:=hv.1;simp at this|_ ::_ ::_,hv=>have:=hv.1;simp at this
 .refine @Gm.slv I [] [] _ _ _ _ ((List.range n).map λi=> .int .i64 (u i)) (.inr (.inr ⟨_,_,_,rfl,rfl⟩)) (by simp) (by simp;omega) λx hx=> ?_;obtain⟨j,hj,rfl⟩:=bQ.1 hx;cases hu j (dJ.1 hj)with
  |ival _ _ _ a h1 h2 h3=>exact @Gm.ival I [] [] _ _ _ _ h1 h2 h3
def c37:rE:=⟨37,[msA],msA⟩
def bBs:rE:=⟨67,[.agg [ifull,.slv ifull 0 6]],.agg [ifull,.slv ifull 0 6]⟩
def gUk:List xD:=[(cV 40 6 4 pUl [67] [],[],[bBs])]
def pUk:=qX [bBs] pUl
def gUm:List xD:=[(cV 40 6 4 pUk [37] [],[],[c37])]
theorem rUk:sF prog gUk=true:=by kernel_rfl
theorem rUm:sF prog gUm=true:=by kernel_rfl
theorem aUe(hI:Is)(m:Int)(te:fS):sG m te pUk (nE gUk eUl m te) (nD gUk dUl):=go (bFb hI m te) [67] rUk rfl (by kernel_rfl) (by kernel_rfl) ⟨r5,trivial⟩
theorem aOt(hI:Is)(m:Int)(te:fS){ts:fU}(h:qO [] [] c37.pre ts):∃r,pW prog (glZ m te) 37 ts r/\Gm [] [] msA r:=
 out (e:=nE gUk eUl) (aUe hI m te) rUm (by kernel_rfl) ⟨r5,trivial⟩ (go (aUe hI m te) [37] rUm rfl (by kernel_rfl) (by kernel_rfl) ⟨r5,trivial⟩) (c:=c37) (aL:c37∈[c37]) h
def zV:Vl:=⟨0,0,0,[],0,λ_ =>pV,0,λ_ =>pV⟩
def kL(e:Int)(nd tx:gU):Lr:=⟨e,1,λ_ => .int .i64 1,1048576,1,λ_ => .int .i64 e,⟨9,0,0,[],0,λ_ =>Ly zV,0,λ_ =>fdT ⟨[],zV⟩⟩,nd,tx,1⟩
def kW:List UInt8:=[119,111,114,107]
def wK(i:Nat):Lr:=match i with
 |0=>kL 4 kW [108,97,116,101]|1=>kL 5 [112,97,121] [116,105,109,101,111,117,116]|_ =>kL 9 kW [108,97,116,101]
def aK0:Fl:=⟨[],[],0,0,false,0,λ_ =>pV⟩
def aK1:Fl:=⟨kW,[],5,0,false,0,λ_ =>pV⟩
def fT(a:Fl):T:= .agg [.str a.nd,.str a.rs,.int .i64 a.fr,.int .i64 a.till,.nils]
def tK:List UInt8:=[110,111,100,101,32,119,111,114,107,32,102,114,111,109,32,53]
section
variable(m:Int)(te:fS)
theorem k24(e:Int)(nd tx:gU):pW prog (glZ m te) 24 [.int .i64 e,.str nd,.str tx] (.agg [.int .i64 e,.sl false [.int .i64 1],.int .i64 1048576,.sl false [.int .i64 e],.int .i64 9,.int .i64 0,.int .i64 0,.str [],.nils,.nils,.str nd,.str tx,.int .i64 1]):=rK m te (by kernel_rfl) (by kernel_rfl)
theorem k21:pW prog (glZ m te) 21 [.str tK] (.tup [fT aK1,.int .i64 0,.int .i64 0,.int .i64 0]):=rK m te (by kernel_rfl) (by kernel_rfl)
def bK(y:T):Bool:=match y with
 | .agg (.int _ e::_)=>e==9|_ =>false
theorem bJs:Ls m te (λ_ =>true) aK0 3 wK:=⟨by omega,λj hj=>by
 rcases j with _ |_ |_ |j
 .exact rK m te (by kernel_rfl) (by kernel_rfl)
 .exact rK m te (by kernel_rfl) (by kernel_rfl)
 .exact rK m te (by kernel_rfl) (by kernel_rfl)
 .omega⟩
theorem bJt:Ls m te bK aK1 3 wK:=⟨by omega,λj hj=>by
 rcases j with _ |_ |_ |j
 .exact rK m te (by kernel_rfl) (by kernel_rfl)
 .exact rK m te (by kernel_rfl) (by kernel_rfl)
 .exact rK m te (by kernel_rfl) (by kernel_rfl)
 .omega⟩
def gK:List Gr:=EM ([0,1,2].map wK) []
def gKT:T:= .slf false gK.length λi=> .agg (UZ gK i).c
def mK:T:= .agg [.int .i64 0,.int .i64 0,.int .i64 0,.nils,.nils,.nils,.nils,.sl true [zI wK 0,zI wK 1,zI wK 2]]
theorem bFq{g:G}{u:gQ}(h:Rd g u mK):Rd g u (LX 3 wK):=by
 refine Vn (n:=3) ?_;cases h with
 |agg _ vs k1 k2=>
  refine .agg _ vs k1 λj c t hc ht=> ?_
  match j,ht with
  |0,ht=>cases ht;exact k2 0 c _ hc rfl|1,ht=>cases ht;exact k2 1 c _ hc rfl|2,ht=>cases ht;exact k2 2 c _ hc rfl|3,ht=>cases ht;exact k2 3 c _ hc rfl|4,ht=>cases ht;exact k2 4 c _ hc rfl|5,ht=>cases ht;exact k2 5 c _ hc rfl|6,ht=>cases ht;exact k2 6 c _ hc rfl
  |7,ht=>
   cases ht;cases k2 7 c _ hc rfl with
   |sl _ xs sz b o cap vs h1 h2 h3 h4 h5 h6 h7 h8=>exact .sl false _ sz b o cap vs h1 h2 h3 h4 (λe=>by cases e) h6 h7 h8
  |j+8,ht=>cases ht
theorem bCo{g:G}{v:gQ}{a:Fl}(ha:a.k=0)(hb:a.fl=false)(h:Rd g v (fT a)):Rd g v (yQ a):=by
 cases h with
 |agg _ vs k1 k2=>
  refine .agg _ vs k1 λj c t hc ht=> ?_
  match j,ht with
  |0,ht=>cases ht;exact k2 0 c _ hc rfl|1,ht=>cases ht;exact k2 1 c _ hc rfl|2,ht=>cases ht;exact k2 2 c _ hc rfl|3,ht=>cases ht;exact k2 3 c _ hc rfl|4,ht=>cases ht;rw[ha,hb];exact EG (n:=0) (λj hj=>by omega) (k2 4 c _ hc rfl)|j+5,ht=>simp at ht
theorem argsK{f:gV}{a:Fl}(ha:a.k=0)(hb:a.fl=false){r:T}(h:pW prog (glZ m te) f [LX 3 wK,yQ a] r):pW prog (glZ m te) f [mK,fT a] r:=
 h.args λg vs hv=>by
  match vs,hv with
  |[u,v],hv=>
   obtain⟨h1,h2⟩:=hv.inv_cons;exact RdL.cons (bFq h1) (RdL.cons (bCo ha hb h2.inv_cons.1) RdL.nil)
  |[],hv=>have:=hv.1;simp at this|[_],hv=>have:=hv.1;simp at this|_ ::_ ::_ ::_,hv=>have:=hv.1;simp at this
theorem k16:pW prog (glZ m te) 16 [mK,fT aK0] gKT:=
 argsK m te rfl rfl (Eh (S:=[0,1,2]) (by simp) (aXd (bJs m te)) (gs:=gK) rfl (λdone h1 h2 h3 i hi=>aAe (aTr (ys:=[0,1,2].map wK) (by simp)).d done h1 h2 h3 i hi))
theorem k17:pW prog (glZ m te) 17 [mK,fT aK1] (.slf false 1 λ_ =>zI wK 2):=
 argsK m te rfl rfl (Ri m te aK1 3 wK (λ_ =>wK 2) (λ_ =>wK 2) (k:=1) (by omega) (aXd (bJt m te)) λj hj=>bLb m te (c68 m te (n:=1) (by omega) λ_ =>1) (c68 m te (n:=1) (by omega) λ_ =>9) (aWb m te rfl rfl))
def s24:List T->Option (T×List Bool)
 |[.int .i64 e,.str nd,.str tx]=>some (.agg (kL e nd tx).c,[])|_ =>none
theorem bOu(e:Int)(nd tx:gU):pW prog (glZ m te) 24 [.int .i64 e,.str nd,.str tx] (.agg (kL e nd tx).c):=(k24 m te e nd tx).mono λg v h=>by
 cases h with
 |agg _ vs k1 k2=>
  refine .agg _ vs k1 λj c t hc ht=> ?_
  match j,ht with
  |0,ht=>cases ht;exact k2 0 c _ hc rfl|1,ht=>cases ht;exact EG (n:=1) (λj hj c hc=>by rw[bV.1 (show c∈[T.int .i64 1]from hc)];rfl) (k2 1 c _ hc rfl)|2,ht=>cases ht;exact k2 2 c _ hc rfl|3,ht=>cases ht;exact EG (n:=1) (λj hj c hc=>by rw[bV.1 (show c∈[T.int .i64 e]from hc)];rfl) (k2 3 c _ hc rfl)|4,ht=>cases ht;exact k2 4 c _ hc rfl|5,ht=>cases ht;exact k2 5 c _ hc rfl|6,ht=>cases ht;exact k2 6 c _ hc rfl|7,ht=>cases ht;exact k2 7 c _ hc rfl|8,ht=>cases ht;exact EG (n:=0) (λj hj=>by omega) (k2 8 c _ hc rfl)|9,ht=>cases ht;exact EG (n:=0) (λj hj=>by omega) (k2 9 c _ hc rfl)|10,ht=>cases ht;exact k2 10 c _ hc rfl|11,ht=>cases ht;exact k2 11 c _ hc rfl|12,ht=>cases ht;exact k2 12 c _ hc rfl|j+13,ht=>cases ht
def DK:Ed:=⟨glZ m te,rT 24 s24 (rT 16 (c2s 16 m te mK (fT aK0) gKT) (rT 21 (c1s 21 m te (.str tK) (.tup [fT aK1,.int .i64 0,.int .i64 0,.int .i64 0])) (rT 17 (c2s 17 m te mK (fT aK1) (.slf false 1 λ_ =>zI wK 2)) (λ_ _ _ =>none))))⟩
theorem cxK:Cx prog (DK m te) F0:=by
 refine⟨follows,?_,rG⟩;refine qN (qN (qN (qN rR λts r cs h hc=>Ie h hc) λts r cs h hc=>Ud h hc) λts r cs h hc=>Ie h hc) λts r cs h hc=> ?_;unfold s24 at h;split at h
 .cases h;exact bOu m te _ _ _
 .cases h
theorem aQg:pW prog (glZ m te) 9 [] (.bool true):=
 u_ok (cxK m te) rfl (f:=9) (by kernel_rfl) (by kernel_rfl) func9 (by kernel_rfl) (ts:=[]) rfl (ds:=List.replicate 33 true) (r:= .bool true)
  (b:=pb (mK=mK)&&(pb (fT aK1=fT aK1)&&(pb (pW prog (glZ m te) 17 [mK,fT aK1] (.slf false 1 λ_ =>zI wK 2))&&(pb (T.str tK= .str tK)&&(pb (pW prog (glZ m te) 21 [.str tK] (.tup [fT aK1,.int .i64 0,.int .i64 0,.int .i64 0]))&&
   (pb (mK=mK)&&(pb (fT aK0=fT aK0)&&(pb (pW prog (glZ m te) 16 [mK,fT aK0] gKT)&&true))))))))
  (by kernel_rfl) (by simp[rD,k16,k17,k21])
end
theorem aLv(b:jM):∀k j,(Ay b k j).length<=k
 |0,_ =>aZ 0
 |k+1,j=>by
  have:=aLv b k (j+1);unfold Ay;split
  .simp only[bL];omega
  .omega
theorem Wk(b:jM):∀k j,∀i∈Ay b k j,i<j+k
 |0,_,i,h=>by simp[Ay]at h
 |k+1,j,i,h=>by
  unfold Ay at h;split at h
  .rcases aR.1 h with h|h
   .omega
   .have:=Wk b k (j+1) i h;omega
  .have:=Wk b k (j+1) i h;omega
section
variable(hI:Is)(m:Int)(te:fS)(hP:Ip m te)
include hI hP
theorem law5_ok{t:T}(ht:qO [] [] c8.pre [t]){fl:Bool}{K:Nat}{x:Nat->Li}(hx:∀j,j<K->qO [] [] ltrI (x j).c):pW prog (glZ m te) 5 [.slf fl K λj=>(x j).t,t] (.bool true):=by
 obtain⟨s,hs,gs⟩:=aMa m te ht;obtain⟨a,ga,ra⟩:=aIw (show Gm [] [] (.agg [txt 100,txt 100,ifull,ifull,.slv (.agg (eA 3)) 0 8]) s from gs);have hs:=hs.mono ra;have hm:∀j,j<K->qO [] [] c12.pre [(x j).m]:=λj hj=>by
  have gl:=hx j hj
  exact qC (FM ⟨rfl,λi a t ha ht=>gl.2 i a t (by
   rw[show ltrI=([ifull,.slv ifull 0 cBig,ifull,.slv ifull 0 cBig]++vI 4)++[txt cBig,txt cBig,ifull]from rfl]
   rw[dL (aO.1 ha).1];exact ha) (by
   have hi:i<10:=(aO.1 ht).1
   rw[show(x j).c=[(x j).p0,(x j).p1,(x j).p2,(x j).p3,(x j).p4,(x j).p5,(x j).p6,(x j).p7,(x j).p8,(x j).p9]++[.str (x j).node,.str (x j).text,.int .i64 (x j).ver]from rfl,dL hi];exact ht)⟩) vX
 generalize hc:cM m te 12=c;have hcm:=λj hj=>hc▸aTk m te (aXr m te (hm j hj));have h15:=Vk m te (c:=c) (x:=x) (K:=K) fl (λj hj=>(hcm j (by omega)).2) (λj hj=>CL (hx j (by omega)) (by kernel_rfl));generalize hn:min K 12=n at h15;generalize hw:(λj=>aOu c (x j))=w at h15;have hmw:∀j,j<n->Gm [] [] msA (.agg (w j).m):=λj hj=>by
  rw[<-hw];exact(hcm j (by omega)).1
 have hlt:∀j,j<n->qO [] [] c13.pre [yQ a,zI w j]:=λj hj=>by
  have g1:=aWw (hcm j (by omega)).1;have gl:=hx j (by omega)
  have g3:qO [] [] [txt cBig,txt cBig,ifull] [.str (x j).node,.str (x j).text,.int .i64 (x j).ver]:=⟨rfl,λi a t ha ht=>gl.2 (10+i) a t (by
   rw[show ltrI=([ifull,.slv ifull 0 cBig,ifull,.slv ifull 0 cBig]++vI 4)++[txt cBig,txt cBig,ifull]from rfl]
   exact(dQ (by exact Nat.le_add_right 10 i)).trans (by rw[show 10+i-([ifull,A.slv ifull 0 cBig,ifull,.slv ifull 0 cBig]++vI 4).length=i from Nat.add_sub_cancel_left 10 i];exact ha)) (by
   rw[show(x j).c=[(x j).p0,(x j).p1,(x j).p2,(x j).p3,(x j).p4,(x j).p5,(x j).p6,(x j).p7,(x j).p8,(x j).p9]++[.str (x j).node,.str (x j).text,.int .i64 (x j).ver]from rfl]
   exact(dQ (by exact Nat.le_add_right 10 i)).trans (by rw[show 10+i-[(x j).p0,(x j).p1,(x j).p2,(x j).p3,(x j).p4,(x j).p5,(x j).p6,(x j).p7,(x j).p8,(x j).p9].length=i from Nat.add_sub_cancel_left 10 i];exact ht))⟩
  refine qC ga (qC (FM (show qO [] [] aXk _ from ?_)) vX);rw[<-hw];exact g1.app g3
 have hb:∀j,j<n->pW prog (glZ m te) 13 [yQ a,zI w j] (.bool (bOf m te (yQ a) (zI w j)))/\pW prog (glZ m te) 14 [yQ a,zI w j] (.bool (bOf m te (yQ a) (zI w j))):=λj hj=>by
  obtain⟨b,h1,h2⟩:=aKh hI m te hP (hlt j hj);cases e:bOf m te (yQ a) (zI w j)with
  |true=>exact rD.1 e
  |false=>
   cases b with
   |false=>exact⟨h1,h2⟩
   |true=>
    have:bOf m te (yQ a) (zI w j)=true:=rD.2 ⟨h1,h2⟩;rw[e]at this;cases this
 have hL:Ls m te (bOf m te (yQ a)) a n w:=⟨by omega,λj hj=>(hb j hj).1⟩;obtain⟨ts,rfl,gt⟩:=bCv (show Gm [] [] (.agg [txt cBig,txt cBig,ifull,ifull,.slv (.agg (eI 3)) 0 cBig]) t from ht.head);have h5:ts.length=5:=by rw[<-gt.1];rfl
 match ts,h5 with
 |[a0,a1,a2,a3,a4],_ =>
 have hit:=aXd hL;generalize hS:Ay (λi=>bOf m te (yQ a) (zI w i)) n 0=S at hit;have hSl:S.length<=n:=hS▸aLv _ n 0;have hSm:∀i∈S,i<n:=λi hi=>by have:=Wk _ n 0 i (hS▸hi);omega
 obtain⟨v,hvj⟩:∃v:Nat->Lr,∀j,v j=w (S.getD j 0):=⟨_,λj=>rfl⟩;have hg:∀j i,S[j]? =some i->v j=w i:=λj i h=>by rw[hvj,aW,h];rfl
 have hxs:S.map (λi=>[zI w i])=Wz S.length v:=by
  refine List.ext_getElem (by simp[Wz]) λi h1 h2=> ?_;have hi:i<S.length:=by simpa using h1
  simp only[Wz,List.getElem_map,List.getElem_range,zI,hg i _ (aB hi)]
 have hit0:=hit;rw[hxs]at hit;have h17:=Ri m te a n w v (cM m te 37) (by omega) hit (λj hj=>(aTk m te (aOt hI m te (qC (by rw[hg j _ (aB hj)];exact hmw _ (hSm _ (cK hj))) vX))).2);have hys:(S.map w).length<=12:=by simp;omega
 have hGI:=aTr hys;have h16:=Eh (m:=m) (te:=te) (a:=a) (n:=n) (w:=w) (S:=S) (by omega) hit0 (gs:=EM (S.map w) []) rfl (G:=UZ (EM (S.map w) [])) (λdone h1 h2 h3 i hi=>aAe hGI.d done h1 h2 h3 i hi);have hng:(EM (S.map w) []).length<=12:=by have:=VW (S.map w) [];simp at this;omega
 exact c5 (q:=⟨⟨fl,K,x,a0,a1,a2,a3,a4,a,n,w,S.length,λj=>cpy (cM m te 37) (v j)⟩,(EM (S.map w) []).length,UZ (EM (S.map w) [])⟩) ⟨by show n<=12;omega,hng,by show S.length<=12;omega,hs,h15,h16,h17,λi hi=>(hb i hi).2,λi hi=>by
  have h:=aAd hGI hi
  exact⟨by show _ =grp _ _ ((Ay (λi=>bOf m te (yQ a) (zI w i)) n 0).map w);rw[hS];exact h.1,h.2.1,by have:=h.2.2;show(UZ (EM (S.map w) []) i).cnt<=12;omega⟩,λi hi=>aXz hGI hi,λi hi=>by have:=aKv hGI hi;simpa using this,by have:=aAf hGI;simpa using this,aQg m te⟩ (by
  have e:mapO (qJ 40 ⟨0,.nl⟩) [.agg [a0,a1,a2,a3,a4]]=some [.agg [a0,a1,a2,a3,a4]]:=xL _ λx hx=>by
   obtain⟨b,h1,h2⟩:=xI ht.1 ht.2 hx;exact EE sJ b x (rF (show DV (qY sJ) c8.pre=true by kernel_rfl) b h1) h2 40 tP
  have e1:qJ 40 ⟨0,.nl⟩ (.agg [a0,a1,a2,a3,a4])=some (.agg [a0,a1,a2,a3,a4]):=by
   simp only[mapO]at e;cases h:qJ 40 ⟨0,.nl⟩ (.agg [a0,a1,a2,a3,a4])with
   |none=>rw[h]at e;cases e|some z=>rw[h]at e;simp at e;rw[e]
  have e0:qJ 40 ⟨0,.nl⟩ (.slf fl K λj=>(x j).t)=some (.slf fl K λj=>(x j).t):=by kernel_rfl
  show mapO (qJ 40 ⟨0,.nl⟩) [.slf fl K λj=>(x j).t,.agg [a0,a1,a2,a3,a4]]=_;simp only[mapO,e0,e1]
  rfl)
end
end
end Go.Proofs.Tryz
