/- Lemmas for the card; no conditions. -/
import Derived.Test.YthfdachbgpjafaaGreatDoorXb6
set_option linter.unusedSimpArgs false
set_option linter.unusedVariables false
set_option linter.unusedSectionVars false
set_option maxRecDepth 100000
namespace Go.Proofs.Tryz
open Go.Ps
theorem rK1:qZ prog gK1=true:=by kernel_rfl
theorem rKq:qZ prog gKq=true:=by kernel_rfl
end Go.Proofs.Tryz
namespace Go.Proofs.Tryz
open Go.Ps
theorem rKr:qZ prog gKr=true:=by kernel_rfl
end Go.Proofs.Tryz
namespace Go.Proofs.Tryz
open Go.Ps
theorem rK3:qZ prog gK3=true:=by kernel_rfl
theorem rK4:qZ prog gK4=true:=by kernel_rfl
end Go.Proofs.Tryz
namespace Go.Proofs.Tryz
open Go.Ps
theorem ry0:∀s∈[Ss 0],pX prog (SL Aw PZ) (Du 0) 4 s=true:=aG.1 (by kernel_rfl)
theorem rx0:∀s∈(Cz 0),pX prog (SL Aw PZ) (Du 0) 4 s=true:=aG.1 (by kernel_rfl)
theorem ry1:∀s∈[Ss 1],pX prog (SL Aw PZ) (Du 1) 4 s=true:=aG.1 (by kernel_rfl)
theorem rx1:∀s∈(Cz 1),pX prog (SL Aw PZ) (Du 1) 4 s=true:=aG.1 (by kernel_rfl)
theorem ry2:∀s∈[Ss 2],pX prog (SL Aw PZ) (Du 2) 4 s=true:=aG.1 (by kernel_rfl)
theorem rx2:∀s∈(Cz 2),pX prog (SL Aw PZ) (Du 2) 4 s=true:=aG.1 (by kernel_rfl)
theorem ry3:∀s∈[Ss 3],pX prog (SL Aw PZ) (Du 3) 4 s=true:=aG.1 (by kernel_rfl)
theorem rx3:∀s∈(Cz 3),pX prog (SL Aw PZ) (Du 3) 4 s=true:=aG.1 (by kernel_rfl)
theorem rk0:∀s∈(aJc 0),pX prog (SL aLi PZ) (Du 1) 4 s=true:=aG.1 (by kernel_rfl)
theorem rk1:∀s∈(aJc 1),pX prog (SL aLi PZ) (Du 2) 4 s=true:=aG.1 (by kernel_rfl)
theorem rk2:∀s∈(aJc 2),pX prog (SL aLi PZ) (Du 3) 4 s=true:=aG.1 (by kernel_rfl)
theorem r28:∀c∈l28,xJ prog (SL Aw PZ) (Du 4) 8 c=true:=aG.1 (by kernel_rfl)
end Go.Proofs.Tryz
namespace Go.Proofs.Tryz
open Go.Ps
theorem bLl:([215,221,228,224,287,301,295]:List Nat).all (fun f=>tY prog f&&zD prog f)=true:=by kernel_rfl
theorem bLm:([222,223,287,301]:List Nat).all (fun f=>tY prog f&&zD prog f)=true:=by kernel_rfl
theorem bLn:([219]:List Nat).all (fun f=>tY prog f&&zD prog f)=true:=by kernel_rfl
theorem bLr:([218,93,141,292]:List Nat).all (fun f=>tY prog f&&zD prog f)=true:=by kernel_rfl
theorem bLq:([217,146,289,140]:List Nat).all (fun f=>tY prog f&&zD prog f)=true:=by kernel_rfl
end Go.Proofs.Tryz
namespace Go.Proofs.Tryz
open Go.Ps
variable[Inhabited Prd]
noncomputable section
theorem rX:qX<=40:=by decide
def dZ:FuncId->Bool:=fun f=>rD f [115,207,208,56,40]
def eZ(m:Int)(te:eX):FuncId->List T->Option T:=peZ
theorem bKm{gl:fD}:GlA gl (fun _ =>none):=fun g a h=>by cases h
theorem bLc(m:Int)(te:eX):Lay prog (glZ m te) 40 (fun _ =>none) peS (eZ m te) dZ:=by
 refine⟨bKm,aVe,aVf m te,fun f ts h=> ?_,aWo _⟩;have hn:∀k,rD k [115,207,208,56,40]=true->f≠k:=fun k hk e=>by subst e;rw[show dZ f=rD f [115,207,208,56,40]from rfl,hk]at h;cases h
 unfold eZ peZ;rw[if_neg (hn 115 rfl),if_neg (hn 207 rfl),if_neg (hn 208 rfl),if_neg (hn 56 rfl),if_neg (hn 40 rfl)]
abbrev rB(m:Int)(te:eX):=Lay prog (glZ m te) 40 (fun _ =>none)
abbrev iA:=Int->TypeId->FuncId->List T->Option T
def nE(gs:List wI)(e:iA)(m:Int)(te:eX):FuncId->List T->Option T:=EF prog (glZ m te) (e m te) (bDi gs) (bEp gs) 40 fun f=>(FD gs).any fun c=>Nat.beq c.f f
def nD(gs:List wI)(d:fZ):FuncId->Bool:=fun f=>((FD gs).any fun c=>Nat.beq c.f f)||d f
theorem go{m:Int}{te:eX}{pa:FuncId->List A->Nat->List pO->Option AV}{e:iA}{dom:fZ}(h:rB m te pa (e m te) dom){g:wI}{gs:List wI}(tl:fN)
  (h3:qZ prog (g::gs)=true) (ht:g.1.top=fun f=>rD f tl) (htl:tl.all (fun f=>tY prog f&&zD prog f)=true) (h2:aEh dom (g::gs)=true) (h1:inG (fun _ =>none) pa g.1 (g::gs)):
  rB m te (pU (FD (g::gs)) pa) (nE (g::gs) e m te) (nD (g::gs) dom):=
 Lay.go h follows (qL m te) rX tl ht htl h1 h2 h3
def eK1:=nE gK1 eZ
def dK1:=nD gK1 dZ
theorem bBq(m:Int)(te:eX):rB m te (pK1) (eK1 m te) dK1:=go (bLc m te) [209] rK1 rfl (by kernel_rfl) (by kernel_rfl) ⟨r5,trivial⟩
def eKq:=nE gKq eK1
def dKq:=nD gKq dK1
theorem bBt(m:Int)(te:eX):rB m te (pKq) (eKq m te) dKq:=go (bBq m te) [270,273,275] rKq rfl (by kernel_rfl) (by kernel_rfl) ⟨r5,trivial⟩
def eKr:=nE gKr eKq
def dKr:=nD gKr dKq
theorem bBu(m:Int)(te:eX):rB m te (pKr) (eKr m te) dKr:=go (bBt m te) [26,27,60,205,317,269,271,272,274,276,277,278,279,280,281] rKr rfl (by kernel_rfl) (by kernel_rfl) ⟨r5,trivial⟩
def eK3:=nE gK3 eKr
def dK3:=nD gK3 dKr
theorem bBr(m:Int)(te:eX):rB m te (pK3) (eK3 m te) dK3:=go (bBu m te) [137,203,204,282,283,92,139,140,197,206,262] rK3 rfl (by kernel_rfl) (by kernel_rfl) ⟨r5,r5,trivial⟩
def eK4:=nE gK4 eK3
def dK4:=nD gK4 dK3
theorem Wi(m:Int)(te:eX):rB m te (PZ) (eK4 m te) dK4:=go (bBr m te) [58,88,89,90,91,93,94,138,141] rK4 rfl (by kernel_rfl) (by kernel_rfl) ⟨r5,r5,trivial⟩
end
end Go.Proofs.Tryz
namespace Go.Proofs.Tryz
open Go.Ps
theorem rZ0:qZ prog gZ0=true:=by kernel_rfl
theorem rZ1:qZ prog gZ1=true:=by kernel_rfl
theorem rZ2:qZ prog gZ2=true:=by kernel_rfl
theorem rZ3:qZ prog gZ3=true:=by kernel_rfl
theorem rZ4:qZ prog gZ4=true:=by kernel_rfl
theorem rW0:qZ prog gW0=true:=by kernel_rfl
theorem rW1:qZ prog gW1=true:=by kernel_rfl
theorem rW2:qZ prog gW2=true:=by kernel_rfl
theorem rW3:qZ prog gW3=true:=by kernel_rfl
theorem rW8:qZ prog gW8=true:=by kernel_rfl
theorem bDy:qZ prog aTt=true:=by kernel_rfl
end Go.Proofs.Tryz
namespace Go.Proofs.Tryz
open Go.Ps
variable[Inhabited Prd]
noncomputable section
def eZ0:=nE gZ0 eK4
def dZ0:=nD gZ0 dK4
theorem bCj(m:Int)(te:eX):rB m te (pZ 1) (eZ0 m te) dZ0:=go (Wi m te) [29] rZ0 rfl (by kernel_rfl) (by kernel_rfl) ⟨r5,trivial⟩
def eZ1:=nE gZ1 eZ0
def dZ1:=nD gZ1 dZ0
theorem bCk(m:Int)(te:eX):rB m te (pZ 2) (eZ1 m te) dZ1:=go (bCj m te) [29] rZ1 rfl (by kernel_rfl) (by kernel_rfl) ⟨r5,r5,trivial⟩
def eZ2:=nE gZ2 eZ1
def dZ2:=nD gZ2 dZ1
theorem bCl(m:Int)(te:eX):rB m te (pZ 3) (eZ2 m te) dZ2:=go (bCk m te) [29] rZ2 rfl (by kernel_rfl) (by kernel_rfl) ⟨r5,r5,r5,trivial⟩
def eZ3:=nE gZ3 eZ2
def dZ3:=nD gZ3 dZ2
theorem bCm(m:Int)(te:eX):rB m te (pZ 4) (eZ3 m te) dZ3:=go (bCl m te) [29] rZ3 rfl (by kernel_rfl) (by kernel_rfl) ⟨r5,r5,r5,r5,trivial⟩
def eZ4:=nE gZ4 eZ3
def dZ4:=nD gZ4 dZ3
theorem bCn(m:Int)(te:eX):rB m te (pZ 5) (eZ4 m te) dZ4:=go (bCm m te) [29] rZ4 rfl (by kernel_rfl) (by kernel_rfl) ⟨r5,r5,r5,r5,r5,trivial⟩
def eW0:=nE gW0 eZ4
def dW0:=nD gW0 dZ4
theorem bCg(m:Int)(te:eX):rB m te (pS3) (eW0 m te) dW0:=go (bCn m te) [55] rW0 rfl (by kernel_rfl) (by kernel_rfl) ⟨r5,trivial⟩
def eW1:=nE gW1 eW0
def dW1:=nD gW1 dW0
theorem bCh(m:Int)(te:eX):rB m te (pS4) (eW1 m te) dW1:=go (bCg m te) [55] rW1 rfl (by kernel_rfl) (by kernel_rfl) ⟨r5,r5,trivial⟩
def eW2:=nE gW2 eW1
def dW2:=nD gW2 dW1
theorem bCi(m:Int)(te:eX):rB m te (pS5) (eW2 m te) dW2:=go (bCh m te) [55] rW2 rfl (by kernel_rfl) (by kernel_rfl) ⟨r5,r5,r5,trivial⟩
def eW3:=nE gW3 eW2
def dW3:=nD gW3 dW2
theorem aRe(m:Int)(te:eX):rB m te (pS6) (eW3 m te) dW3:=go (bCi m te) [55] rW3 rfl (by kernel_rfl) (by kernel_rfl) ⟨r5,r5,r5,r5,trivial⟩
def eW8:=nE gW8 eW3
def dW8:=nD gW8 dW3
theorem aGy(m:Int)(te:eX):rB m te (pS7) (eW8 m te) dW8:=go (aRe m te) [8,23] rW8 rfl (by kernel_rfl) (by kernel_rfl) ⟨r5,trivial⟩
def bIg:=nE aTt eW8
def bId:=nD aTt dW8
theorem aUl(m:Int)(te:eX):rB m te (pS8) (bIg m te) bId:=go (aGy m te) [12] bDy rfl (by kernel_rfl) (by kernel_rfl) ⟨r5,trivial⟩
end
end Go.Proofs.Tryz
namespace Go.Ps
variable[Inhabited Prd]
def CC(x y:T):Prop:=x.cells.length=y.cells.length/\∀(g:G) (j:Nat) (a:fP) (cx cy:T),x.cells[j]? =some cx->y.cells[j]? =some cy->Rd g a cx->FA g a cy
theorem CA{α:Type}[Inhabited α]{ρ:fI}{μ:fB}(mk:α->T)(Q:α->Prop){e:A}(hQ:∀a,Q a->Gm ρ μ e (mk a))(conv:∀x,Gm ρ μ e x->∃a,Q a/\CC x (mk a)){lo hi:Int}{c:T}(h:Gm ρ μ (.slv e lo hi) c):
  ∃(n:Nat) (u:Nat->α),(n:Int)<=hi/\(∀j,j<n->Q (u j))/\Gm ρ μ (.slv e lo hi) (.slf false n fun j=>mk (u j))/\∀g v,Rd g v c->FA g v (.slf false n fun j=>mk (u j)):=by
 cases h with
 |slv _ _ _ _ xs h1 h2 h3 h4=>
  have hex:∃u:Nat->α,∀j (hj:j<xs.length),Q (u j)/\CC xs[j] (mk (u j)):=by
   refine⟨fun j=>if hj:j<xs.length then Classical.choose (conv xs[j] (h4 _ (bV hj)))else default,fun j hj=> ?_⟩;simp only[dif_pos hj];exact cO (conv xs[j] (h4 _ (bV hj)))
  obtain⟨u,hu⟩:=hex;refine⟨xs.length,u,h3,fun j hj=>(hu j hj).1,.slv _ _ _ _ ((List.range xs.length).map fun j=>mk (u j)) (.inr (.inr ⟨_,_,_,rfl,rfl⟩)) (by simpa using h2) (by simpa using h3) (fun x hx=> ?_),fun g v hr=> ?_⟩
  .obtain⟨j,hj,rfl⟩:=bU.1 hx;exact hQ _ (hu j (List.mem_range.1 hj)).1
  rcases h1 with⟨rfl,rfl⟩|⟨f,rfl⟩|⟨full,m,f,rfl,rfl⟩
  .cases hr;exact .slfn false _ none
  .cases hr with
   |sl _ _ sz b o cap vs k1 k2 k3 k4 k5 k6 k7 k8=>
    refine .slf false xs.length _ sz b o cap vs (fun q=>k1 (fun e=>q (by simp[e]))) (fun i hi=> ?_) k3 k4 (fun e=>by cases e) k6 k7 (fun i j w c hi hj hw hc=> ?_)
    .rw[<-(hu i hi).2.1];exact k2 _ (bV hi)
    .have hl:=k2 _ (bV hi);have hx:(xs[i]).cells[j]? =some (xs[i].cells[j]'(by omega)):=aC _;exact(hu i hi).2.2 g j w _ c hx hc (k8 _ w _ hw (EX k2 (aC hi) j _ hx))
  .have hlen:((List.range m).map f).length=m:=by simp
   cases hr with
   |slfn _ _ p=>exact .slfn false _ p
   |slf _ _ _ sz b o cap vs k1 k2 k3 k4 k5 k6 k7 k8=>
    have hg:∀i (hi:i<m),((List.range m).map f)[i]'(by simpa using hi)=f i:=fun i hi=>by simp
    have key:FA g (.slice (some ⟨b,o,none⟩) m cap) (.slf false m fun j=>mk (u j)):=by
     refine .slf false m _ sz b o cap vs k1 (fun i hi=> ?_) k3 k4 (fun e=>by cases e) k6 k7 (fun i j w c hi hj hw hc=> ?_)
     .have:=(hu i (by simpa using hi)).2.1;rw[hg i hi]at this;rw[<-this];exact k2 i hi
     .have hq:=(hu i (by simpa using hi)).2;rw[hg i hi]at hq;have hl:=k2 i hi;have hx:(f i).cells[j]? =some ((f i).cells[j]'(by omega)):=aC _;exact hq.2 g j w _ c hx hc (k8 i j w _ hi hj hw hx).rd
    rw[hlen];exact key
end Go.Ps
namespace Go.Proofs.Tryz
open Go.Ps
variable[Inhabited Prd]
section
variable{ρ:fI}{μ:fB}
instance:Inhabited Vl:=⟨⟨0,0,0,[],0,fun _ =>oL,0,fun _ =>oL⟩⟩
instance:Inhabited Ps.Fd:=⟨⟨[],default⟩⟩
theorem aEf{x:T}(h:Gm ρ μ ifull x):∃a:Int,Gm ρ μ ifull (.int .i64 a)/\CC x (.int .i64 a):=by
 obtain⟨n,rfl,_,_⟩:=inv_int h;refine⟨n,h,rfl,fun g j a cx cy h1 h2 hr=> ?_⟩;have e:cx=cy:=bQ (h1.symm.trans h2);subst e
 match j,h1 with
 |0,h1=>cases h1;cases hr;exact .int _ _
theorem inv_sv{t:Int}{x:T}(h:Gm ρ μ (txt t) x):∃s,x= .str s:=by
 cases h with
 |strv _ _ s _ _ =>exact⟨s,rfl⟩
theorem Qg{n k:Nat}{u:Nat->Vl}{g:jE}{a b c:Int}{s:fV}{l f:T}(hl:∀g' v,Rd g' v l->FA g' v (.slf false n fun j=>tQ (u j)))(hf:∀g' v,Rd g' v f->FA g' v (.slf false k fun j=>OA (g j))):
  CC (.agg [.int .i64 a,.int .i64 b,.int .i64 c,.str s,l,f]) (tQ ⟨a,b,c,s,n,fun j=>tQ (u j),k,fun j=>OA (g j)⟩):=by
 refine⟨rfl,fun g' j w cx cy h1 h2 hr=> ?_⟩
 match j,h1,h2 with
 |0,h1,h2=>cases h1;cases h2;cases hr;exact .int _ _|1,h1,h2=>cases h1;cases h2;cases hr;exact .int _ _|2,h1,h2=>cases h1;cases h2;cases hr;exact .int _ _|3,h1,h2=>cases h1;cases h2;cases hr;exact .str _|4,h1,h2=>cases h1;cases h2;exact hl _ _ hr|5,h1,h2=>cases h1;cases h2;exact hf _ _ hr|j+6,h1,h2=>simp[T.cells]at h1
theorem Qh{t:Int}{c4 c5:A}{x:T}(h:Gm ρ μ (.agg [ifull,ifull,ifull,txt t,c4,c5]) x):∃a b c s l f,x= .agg [.int .i64 a,.int .i64 b,.int .i64 c,.str s,l,f]/\Gm ρ μ c4 l/\Gm ρ μ c5 f/\∀l' f',Gm ρ μ c4 l'->Gm ρ μ c5 f'->Gm ρ μ (.agg [ifull,ifull,ifull,txt t,c4,c5]) (.agg [.int .i64 a,.int .i64 b,.int .i64 c,.str s,l',f']):=by
 cases h with
 |agg _ ts h1 h2=>
 obtain⟨x0,r,rfl,g0,k⟩:=(show pH ρ μ [ifull,ifull,ifull,txt t,c4,c5] ts from⟨h1,h2⟩).inv_cons;obtain⟨x1,r,rfl,g1,k⟩:=k.inv_cons;obtain⟨x2,r,rfl,g2,k⟩:=k.inv_cons;obtain⟨x3,r,rfl,g3,k⟩:=k.inv_cons;obtain⟨x4,r,rfl,g4,k⟩:=k.inv_cons;obtain⟨x5,r,rfl,g5,k⟩:=k.inv_cons;have e:=k.inv_nil;subst e;obtain⟨a,rfl,_,_⟩:=inv_int g0;obtain⟨b,rfl,_,_⟩:=inv_int g1;obtain⟨c,rfl,_,_⟩:=inv_int g2;obtain⟨s,rfl⟩:=inv_sv g3;exact⟨a,b,c,s,x4,x5,rfl,g4,g5,fun l' f' hl hf=>AL (oT g0 (oT g1 (oT g2 (oT g3 (oT hl (oT hf vF))))))⟩
theorem Rb{es ts:_}(h:Gm ρ μ (.agg es) (.agg ts)):pH ρ μ es ts:=by
 cases h with
 |agg _ _ h1 h2=>exact⟨h1,h2⟩
theorem aEe{t:Int}{es:List A}{Q:Vl->Prop}(hQ:∀v,Q v->Gm ρ μ (.agg es) (tQ v))(hv:∀x,Gm ρ μ (.agg es) x->∃v:Vl,Q v/\CC x (tQ v))(x:T)(h:Gm ρ μ (.agg (txt t::es)) x):∃f:Ps.Fd,(Q f.val/\Gm ρ μ (.agg (txt t::es)) (OA f))/\CC x (OA f):=by
 cases h with
 |agg _ ts h1 h2=>
 obtain⟨x0,r,rfl,g0,k⟩:=(show pH ρ μ (txt t::es) ts from⟨h1,h2⟩).inv_cons;obtain⟨s,rfl⟩:=inv_sv g0;obtain⟨v,hq,hc⟩:=hv (.agg r) (.agg _ _ k.1 k.2);refine⟨⟨s,v⟩,⟨hq,AL (oT g0 (Rb (hQ v hq)))⟩,by have:=hc.1;simpa [T.cells,OA,tQ,vlC]using this,fun g' j w cx cy h1 h2 hr=> ?_⟩
 match j,h1,h2 with
 |0,h1,h2=>cases h1;cases h2;cases hr;exact .str _|j+1,h1,h2=>exact hc.2 g' j w cx cy h1 h2 hr
def WG(ρ:fI)(μ:fB)(d:Nat)(v:Vl):Prop:=WB d v/\Gm ρ μ (.agg (vA 40 6 d)) (tQ v)
theorem nv:∀(d:Nat) (x:T),Gm ρ μ (.agg (vA 40 6 d)) x->∃v:Vl,WG ρ μ d v/\CC x (tQ v)
 |0,x,h=>by
  obtain⟨a,b,c,s,l,f,rfl,g4,g5,mk⟩:=Qh (show Gm ρ μ (.agg [ifull,ifull,ifull,txt 40,.slv (.agg a6) 0 0,.slv (.agg (txt 0::a6)) 0 0]) x from h);have hv:∀x,Gm ρ μ (.agg a6) x->∃v:Vl,Gm ρ μ (.agg a6) (tQ v)/\CC x (tQ v):=fun x h=>by
   obtain⟨a,b,c,s,l,f,rfl,g4,g5,mk⟩:=Qh (show Gm ρ μ (.agg [ifull,ifull,ifull,txt 0,.sxv 0 0,.sxv 0 0]) x from h);cases g4 with
   |sxv _ _ fu n f1 q1 q2=>
   cases g5 with
   |sxv _ _ fu' n' f2 q3 q4=>
   have e1:n=0:=by omega
   have e2:n'=0:=by omega
   subst e1 e2;have z:∀{b:Bool} {f f':iC} g' v,Rd g' v (.slf b 0 f)->FA g' v (.slf false 0 f'):=fun g' v hr=>by
    cases hr with
    |slfn _ _ p=>exact .slfn false _ p|slf _ _ _ sz b o cap vs k1 k2 k3 k4 k5 k6 k7 k8=>exact .slf false 0 _ sz b o cap vs k1 (fun i hi=>absurd hi (by omega)) k3 k4 (fun e=>by cases e) k6 k7 (fun i j w c hi=>absurd hi (by omega))
   exact⟨⟨a,b,c,s,0,fun j=>tQ default,0,fun j=>OA default⟩,mk _ _ (.sxv _ _ _ _ _ q1 q2) (.sxv _ _ _ _ _ q3 q4),Qg (u:=fun _ =>default) (g:=fun _ =>default) (fun g' v hr=>z g' v hr) (fun g' v hr=>z g' v hr)⟩
  obtain⟨n,u,hn,_,gl,hL⟩:=CA tQ (fun v=>Gm ρ μ (.agg a6) (tQ v)) (fun v h=>h) hv g4;obtain⟨k,g,hk,_,gf,hF⟩:=CA OA (fun f=>_ /\_) (fun f h=>h.2) (aEe (fun v h=>h) hv) g5;exact⟨⟨a,b,c,s,n,fun j=>tQ (u j),k,fun j=>OA (g j)⟩,⟨⟨show n=0 by omega,show k=0 by omega⟩,mk _ _ gl gf⟩,Qg hL hF⟩
 |d+1,x,h=>by
  obtain⟨a,b,c,s,l,f,rfl,g4,g5,mk⟩:=Qh (show Gm ρ μ (.agg [ifull,ifull,ifull,txt 40,.slv (.agg (vA 40 6 d)) 0 6,.slv (.agg (txt 40::vA 40 6 d)) 0 6]) x from h);obtain⟨n,u,hn,hu,gl,hL⟩:=CA tQ (WG ρ μ d) (fun v h=>h.2) (nv d) g4;obtain⟨k,g,hk,hg,gf,hF⟩:=CA OA (fun f=>WG ρ μ d f.val/\_) (fun f h=>h.2) (aEe (fun v h=>h.2) (nv d)) g5;exact⟨⟨a,b,c,s,n,fun j=>tQ (u j),k,fun j=>OA (g j)⟩,⟨⟨show n<=6 by omega,show k<=6 by omega,u,g,rfl,rfl,fun j hj=>(hu j hj).1,fun j hj=>(hg j hj).1.1⟩,mk _ _ gl gf⟩,Qg hL hF⟩
theorem aHr{r:T}(h:Gm ρ μ (.agg ([ifull,.slv ifull 0 6,ifull,.slv ifull 0 6]++vA 40 6 4)) r)(node text:fV)(ver:Int):∃y:Lr,LB y/\(y.node=node/\y.text=text/\y.ver=ver)/\Gm ρ μ (.agg ([ifull,.slv ifull 0 6,ifull,.slv ifull 0 6]++vA 40 6 4)) (.agg y.m)/\∀g v,Rd g v r->Rd g v (.agg y.m):=by
 cases h with
 |agg _ ts h1 h2=>
 obtain⟨x0,r,rfl,g0,k0⟩:=(show pH ρ μ (ifull:: .slv ifull 0 6::ifull:: .slv ifull 0 6::vA 40 6 4) ts from⟨h1,h2⟩).inv_cons;obtain⟨x1,r,rfl,g1,k3⟩:=k0.inv_cons;obtain⟨x2,r,rfl,g2,k4⟩:=k3.inv_cons;obtain⟨x3,r,rfl,g3,k5⟩:=k4.inv_cons;obtain⟨e,rfl,_,_⟩:=inv_int g0;obtain⟨ms,rfl,_,_⟩:=inv_int g2;obtain⟨np,ps,hn,_,gp,hp⟩:=CA (fun a:Int=>T.int .i64 a) (fun a=>Gm ρ μ ifull (.int .i64 a)) (fun _ h=>h) (fun x hx=>aEf hx) g1;obtain⟨no,os,ho,_,go,hq⟩:=CA (fun a:Int=>T.int .i64 a) (fun a=>Gm ρ μ ifull (.int .i64 a)) (fun _ h=>h) (fun x hx=>aEf hx) g3;obtain⟨v,⟨hb,gv⟩,hc⟩:=nv 4 (.agg r) (.agg _ _ k5.1 k5.2);have hl:r.length=6:=hc.1;refine⟨⟨e,np,fun i=> .int .i64 (ps i),ms,no,fun i=> .int .i64 (os i),v,node,text,ver⟩,⟨show np<=6 by omega,show no<=6 by omega,⟨ps,rfl⟩,⟨os,rfl⟩,hb⟩,⟨rfl,rfl,rfl⟩,AL (oT g0 (oT gp (oT g2 (oT go (Rb gv))))),fun g w hr=> ?_⟩;cases hr with
 |agg _ vs k1 k2=>
  refine .agg _ vs (by rw[k1];simp[Lr.m,hl]) fun j c t hj ht=> ?_
  match j,ht with
  |0,ht=>cases ht;exact k2 0 c _ hj rfl|1,ht=>cases ht;exact(hp g c (k2 1 c _ hj rfl)).rd|2,ht=>cases ht;exact k2 2 c _ hj rfl|3,ht=>cases ht;exact(hq g c (k2 3 c _ hj rfl)).rd
  |j+4,ht=>
   have ht:(vlC v)[j]? =some t:=ht;have hj6:j<r.length:=by have:=(aK.1 ht).1;simp[vlC]at this;omega
   exact(hc.2 g j c _ t (aC hj6) ht (k2 (j+4) c _ hj (aC hj6))).rd
end
end Go.Proofs.Tryz
namespace Go.Proofs.Tryz
open Go.Ps
noncomputable section
structure Li where
 p0:T
 p1:T
 p2:T
 p3:T
 p4:T
 p5:T
 p6:T
 p7:T
 p8:T
 p9:T
 node:List UInt8
 text:List UInt8
 ver:Int
def Li.m(x:Li):T:= .agg [x.p0,x.p1,x.p2,x.p3,x.p4,x.p5,x.p6,x.p7,x.p8,x.p9]
def Li.c(x:Li):List T:=[x.p0,x.p1,x.p2,x.p3,x.p4,x.p5,x.p6,x.p7,x.p8,x.p9,.str x.node,.str x.text,.int .i64 x.ver]
def Li.t(x:Li):T:= .agg x.c
def aMk(c:T->Lr)(x:Li):Lr:={c x.m with node:=x.node,text:=x.text,ver:=x.ver}
section
variable(m:Int)(te:eX)
def s12(c:T->Lr):List T->Option (T×List Bool)
 |[x]=>some (.agg (c x).m,[pb (oK prog (glZ m te) 12 [x] (.agg (c x).m))])|_ =>none
def DJ(c:T->Lr):Ed:=⟨glZ m te,qG 12 (s12 m te c) (fun _ _ _ =>none)⟩
def F15:Fc:=⟨fun s=>Nat.beq s 2||(Nat.beq s 3||Nat.beq s 5),fun _ _ _ =>none⟩
def bIe(n:Nat):List Bool:=(List.replicate n [true,true,true,true]).flatten++[false,false,false,false]
def mcL(n:Nat)(f:iC):T:= .agg [.int .i64 0,.int .i64 0,.int .i64 0,.nils,.nils,.nils,.nils,rsL n f]
def pC(c:T->Lr)(x:Nat->Li)(j:Nat):Bool:=pb (oK prog (glZ m te) 12 [(x j).m] (.agg (c (x j).m).m))
theorem u15(c:T->Lr)(x:Nat->Li)(fl:Bool):∀n:Nat,n<=12->((u (DJ m te c) F15 f15 [.slf fl n fun j=>(x j).t] (bIe n)).map fun q=>(q.1,oQ q.2))=some (mcL n fun j=>xZ (fun j=>aMk c (x j)) j,cj2 (pC m te c x) (fun j=>pY (x j).c) n):=by
 intro n h;rcases n with _ |_ |_ |_ |_ |_ |_ |_ |_ |_ |_ |_ |_ |n<;>first|omega|kernel_rfl
def cj5(p q d:hX):Nat->Bool
 |0=>true|k+1=>p k&&(q k&&(d k&&(d k&&(d k&&(d k&&cj5 p q d k)))))
def aYw:List Bool:=(List.replicate 12 [true,true,true,true]).flatten++[true,true,true,false]
theorem bNi(c:T->Lr)(x:Nat->Li)(fl:Bool)(K:Nat):((u (DJ m te c) F15 f15 [.slf fl K fun j=>(x j).t] aYw).map fun q=>(q.1,oQ q.2))=some (mcL 12 fun j=>xZ (fun j=>aMk c (x j)) j,decide ((12:Int)<K)&&(decide ((12:Int)<K)&&(decide ((12:Int)<K)&&cj5 (pC m te c x) (fun j=>pY (x j).c) (fun j=>decide ((j:Int)<K)) 12))):=by kernel_rfl
end
end
end Go.Proofs.Tryz
namespace Go.Proofs.Tryz
open Go.Ps
variable[Inhabited Prd]
noncomputable section
section
variable{ρ:fI}{μ:fB}
instance:Inhabited T:=⟨oL⟩
def tDb:Nat->A->Bool
 |0,_ =>false
 |d+1,e=>match e with
  | .ival _ _ _ =>true| .strv _ _ =>true| .slv (.agg es) _ _ =>es.all (tDb d)| .sxv _ h=>decide (h<=0)|_ =>false
def Tl(ρ:fI)(μ:fB)(e:A):Prop:=∀x,Gm ρ μ e x->∃y,Gm ρ μ e y/\∀g v,Rd g v x->FA g v y
theorem Dv:∀{es:List A} {ts:eY},(∀e∈es,Tl ρ μ e)->pH ρ μ es ts->∃us,pH ρ μ es us/\∀(j:Nat) (x y:T),ts[j]? =some x->us[j]? =some y->∀g v,Rd g v x->FA g v y
 |[],ts,_,g=>⟨[],vF,fun j x y h1 h2=>by simp at h2⟩
 |e::es,ts,h,g=>by
  obtain⟨x,r,rfl,g0,k⟩:=g.inv_cons;obtain⟨y,q1,q2⟩:=h e (by simp) x g0;obtain⟨us,k1,k2⟩:=Dv (fun e he=>h e (by simp[he])) k;refine⟨y::us,oT q1 k1,fun j a b h1 h2=> ?_⟩
  match j,h1,h2 with
  |0,h1,h2=>cases h1;cases h2;exact q2|j+1,h1,h2=>exact k2 j a b h1 h2
theorem aJz{es:List A}(h:∀e∈es,Tl ρ μ e)(x:T)(hx:Gm ρ μ (.agg es) x):∃y,Gm ρ μ (.agg es) y/\CC x y:=by
 cases hx with
 |agg _ ts h1 h2=>
  obtain⟨us,g,k⟩:=Dv h ⟨h1,h2⟩;exact⟨.agg us,AL g,h1.symm.trans g.1,fun g' j a cx cy q1 q2 hr=>k j cx cy q1 q2 g' a hr⟩
theorem aRn:∀(d:Nat) (e:A),tDb d e=true->Tl ρ μ e
 |0,_,h=>by simp[tDb]at h
 |d+1,e,h=>by
  intro x hx;unfold tDb at h;split at h
  .cases hx with
   |ival _ _ _ n h1 h2 h3=>exact⟨_,.ival _ _ _ n h1 h2 h3,fun g v hr=>by cases hr;exact .int _ _⟩
  .cases hx with
   |strv _ _ s h1 h2=>exact⟨_,.strv _ _ s h1 h2,fun g v hr=>by cases hr;exact .str _⟩
  .obtain⟨n,u,_,_,g1,g2⟩:=CA id (Gm ρ μ _) (fun _ h=>h) (fun x hx=>by
    obtain⟨y,h1,h2⟩:=aJz (fun e he=>aRn d e (aG.1 h e he)) x hx
    exact⟨y,h1,h2⟩) hx
   exact⟨_,g1,g2⟩
  .cases hx with
   |sxv _ _ fu n f1 q1 q2=>
    have h:=of_decide_eq_true h;obtain rfl:n=0:=by omega
    refine⟨_,.sxv _ _ false 0 f1 q1 q2,fun g v hr=> ?_⟩;cases hr with
    |slfn _ _ p=>exact .slfn false _ p|slf _ _ _ sz b o cap vs k1 k2 k3 k4 k5 k6 k7 k8=>exact .slf false 0 _ sz b o cap vs k1 (fun i hi=>absurd hi (by omega)) k3 k4 (fun e=>by cases e) k6 k7 (fun i j w c hi=>absurd hi (by omega))
  .cases h
theorem aFu{x:T}(h:Gm ρ μ (.agg [txt 100,txt 100,ifull,ifull,.slv (.agg (eA 3)) 0 8]) x):∃a:Fl,Gm ρ μ (.agg [txt 100,txt 100,ifull,ifull,.slv (.agg (eA 3)) 0 8]) (xG a)/\∀g v,Rd g v x->Rd g v (xG a):=by
 cases h with
 |agg _ ts h1 h2=>
 obtain⟨x0,r,rfl,g0,k⟩:=(show pH ρ μ [txt 100,txt 100,ifull,ifull,.slv (.agg (eA 3)) 0 8] ts from⟨h1,h2⟩).inv_cons;obtain⟨x1,r,rfl,g1,k⟩:=k.inv_cons;obtain⟨x2,r,rfl,g2,k⟩:=k.inv_cons;obtain⟨x3,r,rfl,g3,k⟩:=k.inv_cons;obtain⟨x4,r,rfl,g4,k⟩:=k.inv_cons;have e:=k.inv_nil;subst e;obtain⟨a,rfl⟩:=inv_sv g0;obtain⟨b,rfl⟩:=inv_sv g1;obtain⟨c,rfl,_,_⟩:=inv_int g2;obtain⟨d,rfl,_,_⟩:=inv_int g3;obtain⟨n,u,_,_,g5,hr5⟩:=CA id (Gm ρ μ (.agg (eA 3))) (fun _ h=>h) (aJz fun e he=>aRn 12 e (aG.1 (show(eA 3).all (tDb 12)=true by kernel_rfl) e he)) g4;refine⟨⟨a,b,c,d,false,n,u⟩,AL (oT g0 (oT g1 (oT g2 (oT g3 (oT g5 vF))))),fun g v hr=> ?_⟩;cases hr with
 |agg _ vs k1 k2=>
  refine .agg _ vs k1 fun j c t hj ht=> ?_
  match j,ht with
  |0,ht=>cases ht;exact k2 0 c _ hj rfl|1,ht=>cases ht;exact k2 1 c _ hj rfl|2,ht=>cases ht;exact k2 2 c _ hj rfl|3,ht=>cases ht;exact k2 3 c _ hj rfl|4,ht=>cases ht;exact(hr5 g c (k2 4 c _ hj rfl)).rd|j+5,ht=>simp at ht
end
section
variable(m:Int)(te:eX)
theorem cxJ(c:T->Lr):Cx prog (DJ m te c) F15:=by
 refine⟨follows,pM rM fun ts r cs h hc=> ?_,qV⟩;unfold s12 at h;split at h
 .cases h;simp only[oQ,bC,pT]at hc;exact hc
 .cases h
theorem aHk{g:G}{u:fP}{n:Nat}{w:hD}(h:Rd g u (mcL n fun j=>xZ w j)):Rd g u (Gi n w):=by
 cases h with
 |agg _ vs k1 k2=>
  refine .agg _ vs k1 fun j c t hc ht=> ?_
  match j,ht with
  |0,ht=>cases ht;exact k2 0 c _ hc rfl|1,ht=>cases ht;exact k2 1 c _ hc rfl|2,ht=>cases ht;exact k2 2 c _ hc rfl|3,ht=>cases ht;exact k2 3 c _ hc rfl|4,ht=>cases ht;exact k2 4 c _ hc rfl|5,ht=>cases ht;exact k2 5 c _ hc rfl|6,ht=>cases ht;exact k2 6 c _ hc rfl|7,ht=>cases ht;exact QE (fun j _ c hc=>by simp[T.cells,xZ,Lr.c]at hc;rcases hc with rfl|rfl|rfl|rfl|rfl|rfl|rfl|rfl|rfl|rfl|rfl|rfl|rfl<;>rfl) (k2 7 c _ hc rfl)
  |j+8,ht=>simp at ht
theorem aEj{p q d:hX}:∀{k:Nat},(∀j,j<k->p j=true/\q j=true/\d j=true)->cj5 p q d k=true
 |0,_ =>rfl
 |k+1,h=>by
  obtain⟨h1,h2,h3⟩:=h k (by omega);simp[cj5,h1,h2,h3,aEj (k:=k) fun j hj=>h j (by omega)]
theorem Ro{c:T->Lr}{x:Nat->Li}{K:Nat}(fl:Bool)(hp:∀j,j<min K 12->oK prog (glZ m te) 12 [(x j).m] (.agg (c (x j).m).m))(ho:∀j,j<min K 12->pY (x j).c=true):
  oK prog (glZ m te) 15 [.slf fl K fun j=>(x j).t] (Gi (min K 12) fun j=>aMk c (x j)):=by
 by_cases h:K<=12
 .rw[Nat.min_eq_left h]at hp ho⊢;exact(u_ok (cxJ m te c) rfl (f:=15) (by kernel_rfl) (by kernel_rfl) func15 (by kernel_rfl) (by kernel_rfl) (u15 m te c x fl K h) (Ep fun j hj=>⟨pT.2 (hp j hj),ho j hj⟩)).mono fun g v=>aHk
 .rw[Nat.min_eq_right (by omega)]at hp ho⊢
  exact(u_ok (cxJ m te c) rfl (f:=15) (by kernel_rfl) (by kernel_rfl) func15 (by kernel_rfl) (by kernel_rfl) (bNi m te c x fl K) (by
   have hk:decide ((12:Int)<K)=true:=decide_eq_true (by omega);simp only[hk,Bool.true_and]
   exact aEj fun j hj=>⟨pT.2 (hp j hj),ho j hj,decide_eq_true (by omega)⟩)).mono fun g v=>aHk
end
end
end Go.Proofs.Tryz
namespace Go.Proofs.Tryz
open Go.Ps
noncomputable section
structure L6 where
 fl:Bool
 K:Nat
 x:Nat->Li
 a0:T
 a1:T
 a2:T
 a3:T
 a4:T
 a:Fl
 n:Nat
 w:Nat->Lr
 k:Nat
 v:Nat->Lr
def L6.t(q:L6):T:= .agg [q.a0,q.a1,q.a2,q.a3,q.a4]
def L6.l(q:L6):T:= .slf q.fl q.K fun j=>(q.x j).t
def L6.g(q:L6):T:= .slf false q.k fun i=>xZ q.v i
def L6.h(q:L6):Hp:=⟨2,.nd (some {elem:=24,sz:=0,cells:=(xG q.a).cells}) (.nd (some {elem:=48,sz:=0,cells:=(Gi q.n q.w).cells}) .nl .nl) .nl⟩
def F6:Fc:=⟨fun s=>Nat.beq s 3||Nat.beq s 5,fun _ _ _ =>none⟩
def s14(m:Int)(te:eX)(f:T):List T->Option (T×List Bool)
 |[x,y]=>some (.bool (YW m te f y),[pb (x=f),pb (oK prog (glZ m te) 14 [f,y] (.bool (YW m te f y)))])|_ =>none
def D6(m:Int)(te:eX)(q:L6):Ed:=⟨glZ m te,qG 8 (c1s 8 m te q.t (xG q.a)) (qG 15 (c1s 15 m te q.l (Gi q.n q.w)) (qG 9 s9 (qG 17 (c2s 17 m te (Gi q.n q.w) (xG q.a) q.g) (qG 14 (s14 m te (xG q.a)) (qG 18 (sR m te 18 (.bool true)) (fun _ _ _ =>none))))))⟩
theorem cx6(m:Int)(te:eX)(q:L6):Cx prog (D6 m te q) F6:=by
 refine⟨follows,?_,qV⟩;refine pM (pM (pM (pM (pM (pM rM fun ts r cs h hc=>aRj m te h hc) fun ts r cs h hc=> ?_) fun ts r cs h hc=>aSv h hc) fun ts r cs h hc=> ?_) fun ts r cs h hc=>aDz h hc) fun ts r cs h hc=>aDz h hc
 .unfold s14 at h;split at h
  .cases h;simp only[oQ,bC,aA,pT]at hc;rw[hc.1];exact hc.2
  .cases h
 .unfold s9 at h;split at h
  .cases h;exact Mv aGw
  .cases h
end
end Go.Proofs.Tryz
namespace Go.Proofs.Tryz
open Go.Ps
noncomputable section
section
variable(m:Int)(te:eX)(q:L6)
def k6:List Nat:=[3,5,6,7,8]
def v6(c i:Int):List T:=[.ptr 0 0,.ptr 1 0,q.g,.int .i64 c,.int .i64 i]
def x6(c i:Int)(fr:eY)(ds:fL):RD Iw:=qC prog (D6 m te q) F6 2000 (.code (qF f6 0).1) (.lp::(qF f6 0).2) 0 (frK k6 (v6 q c i) fr 57) q.h ds []
def b6(i:Nat):Bool:=YW m te (xG q.a) (xZ q.w i)
theorem w6u(c i:Int)(fr:eY):(rE prog f6 20 k6 (x6 m te q c i fr [true,true])).map (fun z=>(z.1,oQ z.2.1,z.2.2))=
  some (.again 0,oQ [!b6 m te q i.toNat,pb (xG q.a=xG q.a),pb (oK prog (glZ m te) 14 [xG q.a,xZ q.w i.toNat] (.bool (b6 m te q i.toNat))),decide (0<=i),decide (i<q.n),decide (i<q.n)],q.h,v6 q c (IntKind.i64.wrap (i+1)),57):=by kernel_rfl
theorem w6s(c i:Int)(fr:eY):(rE prog f6 20 k6 (x6 m te q c i fr (true::List.replicate 14 false))).map (fun z=>(z.1,oQ z.2.1,z.2.2))=
  some (.again 0,oQ (List.replicate 2 (!decide (c>=q.k))++[pb (xZ q.v c.toNat=xZ q.w i.toNat),pb (oK prog (glZ m te) 18 [xZ q.v c.toNat,xZ q.v c.toNat] (.bool true))]++List.replicate 2 (!decide (c>=q.k))++[decide (0<=i),decide (i<q.n)]++List.replicate 5 (!decide (c>=q.k))++[decide (0<=c),decide (c<q.k)]++List.replicate 3 (!decide (c>=q.k))++
   [!!b6 m te q i.toNat,pb (xG q.a=xG q.a),pb (oK prog (glZ m te) 14 [xG q.a,xZ q.w i.toNat] (.bool (b6 m te q i.toNat))),decide (0<=i),decide (i<q.n),decide (i<q.n)]),q.h,v6 q (IntKind.i64.wrap (c+1)) (IntKind.i64.wrap (i+1)),57):=by kernel_rfl
theorem w6e(c i:Int)(fr:eY):(rE prog f6 20 [] (x6 m te q c i fr [false,true,true,true,true,true])).map (fun z=>(z.1,oQ z.2.1))=some (.done (some (.bool (c==q.k))),oQ [!decide (i<q.n)]):=by kernel_rfl
theorem w6b:(rE prog f6 20 k6 (qC prog (D6 m te q) F6 2000 (.code (oZ f6)) [] 0 ([q.l,q.t]++List.replicate 55 oL) ⟨0,.nl⟩ [] [])).map (fun z=>(z.1,oQ z.2.1,z.2.2))=
  some (.loop 0 (qF f6 0).1 (qF f6 0).2,oQ [pb (Gi q.n q.w=Gi q.n q.w),pb (xG q.a=xG q.a),pb (oK prog (glZ m te) 17 [Gi q.n q.w,xG q.a] q.g),pb (q.l=q.l),pb (oK prog (glZ m te) 15 [q.l] (Gi q.n q.w)),pb (q.t=q.t),pb (oK prog (glZ m te) 8 [q.t] (xG q.a))],q.h,v6 q 0 0,57):=by kernel_rfl
structure H6(m:Int)(te:eX)(q:L6):Prop where
 n:q.n<=12
 s8:oK prog (glZ m te) 8 [q.t] (xG q.a)
 s15:oK prog (glZ m te) 15 [q.l] (Gi q.n q.w)
 s17:oK prog (glZ m te) 17 [Gi q.n q.w,xG q.a] q.g
 s14:∀i,i<q.n->oK prog (glZ m te) 14 [xG q.a,xZ q.w i] (.bool (b6 m te q i))
 s18:∀i,i<q.n->oK prog (glZ m te) 18 [xZ q.w i,xZ q.w i] (.bool true)
 k:q.k=(SF (b6 m te q) q.n 0).length
 v:∀c i,(SF (b6 m te q) q.n 0)[c]? =some i->q.v c=q.w i
def I6(s:Nat×Nat):Prop:=s.1<=q.n/\∃pre,SF (b6 m te q) q.n 0=pre++SF (b6 m te q) (q.n-s.1) s.1/\pre.length=s.2
def M6:uF (Nat×Nat) where
 lp:=fun _ =>0
 keep:=fun _ =>k6
 par:=fun _ =>[]
 vs:=fun s=>v6 q s.2 s.1
 hp:=fun _ =>q.h
 len:=57
 step:=fun s=>if pb (I6 m te q s)=true then(if s.1<q.n then(if b6 m te q s.1=true then some (.inl (s.1+1,s.2+1))else some (.inl (s.1+1,s.2)))else some (.inr (.bool true)))else none
variable{m te q}
theorem Ns{b:hX}{n i:Nat}(h:i<n):SF b (n-i) i=if b i then i::SF b (n-(i+1)) (i+1)else SF b (n-(i+1)) (i+1):=by
 rw[show n-i=(n-(i+1))+1 by omega];rfl
theorem I6.next{i c:Nat}(h:I6 m te q (i,c))(hi:i<q.n):I6 m te q (i+1,if b6 m te q i=true then c+1 else c):=by
 obtain⟨h1,pre,h2,h3⟩:=h;refine⟨hi,?_⟩;rw[Ns hi]at h2;by_cases hb:b6 m te q i=true
 .rw[if_pos hb]at h2⊢;exact⟨pre++[i],by simpa using h2,by simpa using h3⟩
 .rw[if_neg hb]at h2⊢;exact⟨pre,h2,h3⟩
theorem bEc:∀(k i c:Nat),q.n-i=k->I6 m te q (i,c)->(M6 m te q).run (k+1) (i,c)=some (.bool true)
 |0,i,c,h,hI=>by
  have e:(M6 m te q).step (i,c)=some (.inr (.bool true)):=by
   show(if pb (I6 m te q (i,c))=true then _ else _)=_;rw[if_pos (pT.2 hI),if_neg (by show¬i<q.n;omega)]
  rw[uF.run_succ,e];rfl
 |k+1,i,c,h,hI=>by
  have hi:i<q.n:=by omega
  have e:(M6 m te q).step (i,c)=some (.inl (i+1,if b6 m te q i=true then c+1 else c)):=by
   show(if pb (I6 m te q (i,c))=true then _ else _)=_;rw[if_pos (pT.2 hI),if_pos hi];by_cases hb:b6 m te q i=true
   .simp only[hb,if_true]
   .simp only[hb,if_false,bA]
  rw[uF.run_succ,e];exact bEc k (i+1) _ (by omega) (hI.next hi)
theorem bEz(H:H6 m te q):(M6 m te q).Ways prog (D6 m te q) F6 f6 20:=by
 intro s o fr h;obtain⟨i,c⟩:=s;have hn:=H.n;have h:(if pb (I6 m te q (i,c))=true then(if i<q.n then(if b6 m te q i=true then some (Sum.inl (i+1,c+1))else some (Sum.inl (i+1,c)))else some (Sum.inr (T.bool true)))else none)=some o:=h;split at h
 .rename_i hI;obtain⟨h1,pre,h2,h3⟩:=pT.1 hI;simp only at h1 h2 h3;have hk:c+(SF (b6 m te q) (q.n-i) i).length=q.k:=by rw[H.k,h2,bK,h3]
  have hw:IntKind.i64.wrap ((i:Int)+1)=((i+1:Nat):Int):=by rw[IntKind.wrap_i64];omega
  split at h
  .rename_i hi;have p14:=H.s14 i hi;split at h
   .rename_i hb;cases h;rw[Ns hi,if_pos hb]at h2 hk;have hck:c<q.k:=by simp only[bL]at hk;omega
    have hkn:q.k<=q.n:=by
     have:∀k j,(SF (b6 m te q) k j).length<=k:=by
      intro k
      induction k with
      |zero=>intro j;exact aZ 0
      |succ k ih=>
       intro j;have:=ih (j+1);unfold SF;split
       .simp only[bL];omega
       .omega
     rw[H.k];exact this _ _
    have hw':IntKind.i64.wrap ((c:Int)+1)=((c+1:Nat):Int):=by rw[IntKind.wrap_i64];omega
    have hv:q.v c=q.w i:=H.v c i (by rw[h2,dL (by omega),h3,Nat.sub_self];rfl);have hl:xZ q.v c=xZ q.w i:=by unfold xZ;rw[hv]
    have hd:=w6s m te q c i fr;rw[aF]at hd;obtain⟨⟨a,log,H',vs,len⟩,e1,e2⟩:=hd;simp only[aQ]at e2;obtain⟨rfl,e2,rfl,rfl,rfl⟩:=e2;rw[hw,hw']at e1;refine .inl ⟨2000,_,log,0,e1,e2.trans ?_,rfl⟩;have p18:=H.s18 i hi;rw[hb]at p14;simp[oQ,List.replicate,pT,hb,hl,hi,hck,p14,p18]
   .rename_i hb;cases h;have hb:b6 m te q i=false:=by simpa using hb
    have hd:=w6u m te q c i fr;rw[aF]at hd;obtain⟨⟨a,log,H',vs,len⟩,e1,e2⟩:=hd;simp only[aQ]at e2;obtain⟨rfl,e2,rfl,rfl,rfl⟩:=e2;rw[hw]at e1;refine .inl ⟨2000,_,log,0,e1,e2.trans ?_,rfl⟩;rw[hb]at p14;simp[oQ,pT,hb,hi,p14]
  .rename_i hi;cases h;have e0:q.n-i=0:=by omega
   rw[e0]at hk;have hck:c=q.k:=by simpa [SF]using hk
   have hd:=w6e m te q c i fr;rw[aF]at hd;obtain⟨⟨a,log,H',vs,len⟩,e1,e2⟩:=hd;simp only[aQ]at e2;obtain⟨rfl,e2⟩:=e2;rw[show((c:Int)==(q.k:Int))=true by rw[hck];simp]at e1;exact⟨2000,_,log,[],H',vs,len,e1,e2.trans (by simp[oQ];omega)⟩
 .cases h
theorem c6(H:H6 m te q)(hf:mapO (pF 40 ⟨0,.nl⟩) [q.l,q.t]=some [q.l,q.t]):oK prog (glZ m te) 6 [q.l,q.t] (.bool true):=by
 have hI:I6 m te q (0,0):=⟨Nat.zero_le _,[],rfl,rfl⟩;have hd:=w6b m te q;rw[aF]at hd;obtain⟨⟨a,log,H',vs,len⟩,e1,e2⟩:=hd;simp only[aQ]at e2;obtain⟨rfl,e2,rfl,rfl,rfl⟩:=e2;refine pure_mach (M:=M6 m te q) (fn:=f6) (k:=20) (d:=40) (c:=oZ f6) (cx6 m te q) (qL m te) (by kernel_rfl) func6 (by kernel_rfl) rfl (by kernel_rfl) hf (L:=55) (by kernel_rfl) (bEz H) (fun σ=>⟨(show codeOk (qF f6 0).1=true by kernel_rfl),(show CE (.lp::(qF f6 0).2)=true by kernel_rfl)⟩) (o:= .inl (0,0)) ?_ (n:=q.n+1) (bEc q.n 0 0 (by omega) hI);refine .inr ⟨2000,_,log,0,e1,e2.trans ?_,rfl⟩;simp[oQ,pT,H.s8,H.s15,H.s17]
end
end
end Go.Proofs.Tryz
namespace Go.Ps
noncomputable section
structure NN where
 step:Fx->Option Fx
 hit:Fx->Bool
 din:Fx->Bool
 want:List T->Bool
 ev:Hp->List T->Option T
 al:Option (Tmp×TypeId)
 dst:Option Tmp
 yl:List T->Option (Nat×List T)
def TY(P:fA)(E:tW)(F:Fc)(ops:fC)(o:Oper):NN:=
 ⟨fun s=>qU P E F ops s o,fun s=>yU ops s o,fun s=>uM s o,fun fr=>oW ops fr o,fun H fr=>oV P E (uW F o) H fr o,rS F o,o.dst,fun fr=>vX E.gl fr o⟩
section
variable{P:fA}{E:tW}{F:Fc}{ops ops':fC}
theorem QZ:∀{l l':fS},l.map (TY P E F ops)=l'.map (TY P E F ops')->∀s,pL P E F ops l s=pL P E F ops' l' s
 |[],[],_,_ =>rfl|[],_ ::_,h,_ =>by simp at h|_ ::_,[],h,_ =>by simp at h
 |o::l,o'::l',h,s=>by
  simp only[cG,dW]at h;have h1:qU P E F ops s o=qU P E F ops' s o':=congrFun (congrArg NN.step h.1) s;simp only[pL,h1];split
  .exact QZ h.2 _
  .rfl
theorem LV(hA:rF ops.toList []=rF ops'.toList [])(hz:ops.size=ops'.size):∀{l l':fS},l.map (TY P E F ops)=l'.map (TY P E F ops')->∀m s,pK P E F ops l m s=pK P E F ops' l' m s
 |[],[],_,_,_ =>rfl|[],_ ::_,h,_,_ =>by simp at h|_ ::_,[],h,_,_ =>by simp at h
 |o::l,o'::l',h,m,s=>by
  have hq:=fun s=>QZ h s;simp only[cG,dW]at h;have h1:yU ops s o=yU ops' s o':=congrFun (congrArg NN.hit h.1) s;have h2:uM s o=uM s o':=congrFun (congrArg NN.din h.1) s;have h3:oW ops s.fr o=oW ops' s.fr o':=congrFun (congrArg NN.want h.1) s.fr;have h4:oV P E (uW F o) s.H s.fr o=oV P E (uW F o') s.H s.fr o':=congrFun (congrFun (congrArg NN.ev h.1) s.H) s.fr;have h5:rS F o=rS F o':=congrArg NN.al h.1;have h6:o.dst=o'.dst:=congrArg NN.dst h.1;have ih:=fun m s=>LV hA hz h.2 m s;simp only[pK,h1,h2,h3,h4,h5,h6,hA,hz,ih,hq]
variable{ee:fE}{yd:fG}{ow:fX}{n:Nat}{ro:gD}
theorem Nt:∀{l l':fS},l.map (TY P E (xY ow ee) ops)=l'.map (TY P E (xY ow ee) ops')->∀s,CG P E ee yd ow ops l s=CG P E ee yd ow ops' l' s
 |[],[],_,_ =>rfl|[],_ ::_,h,_ =>by simp at h|_ ::_,[],h,_ =>by simp at h
 |o::l,o'::l',h,s=>by
  simp only[cG,dW]at h;have h1:qU P E (xY ow ee) ops s o=qU P E (xY ow ee) ops' s o':=congrFun (congrArg NN.step h.1) s;have h3:oW ops s.fr o=oW ops' s.fr o':=congrFun (congrArg NN.want h.1) s.fr;have h6:o.dst=o'.dst:=congrArg NN.dst h.1;have h7:vX E.gl s.fr o=vX E.gl s.fr o':=congrFun (congrArg NN.yl h.1) s.fr;have ih:=fun s=>Nt h.2 s;simp only[CG,h1,h3,h6,h7,ih]
theorem Sk{id id':Nat}(h:ops.toList.map (TY P E (xY ow ee) ops)=ops'.toList.map (TY P E (xY ow ee) ops'))(fr:eY)(H:Hp):
  pD P E ee yd ow n ro (.region id ops false) fr H=pD P E ee yd ow n ro (.region id' ops' false) fr H:=by
 simp only[pD,Nt h,bA,if_false]
def drawn(ops:fC):Bool:= !lkp ops&& !Rn ops
theorem Et{id:Nat}(hl:drawn ops=true)(hw:ow (9000000+id)=true)(fr:eY)(H:Hp):pD P E ee yd ow n ro (.region id ops true) fr H=match pK P E (xY ow ee) ops ops.toList 0 ⟨fr,H,none⟩with
  |some ⟨fr',H',none⟩=>some (.normal,fr',H')|_ =>none:=by
 unfold drawn at hl;simp only[aA,bM]at hl;have e:yH P E (xY ow ee) ops (ow (9000000+id)) fr H=pK P E (xY ow ee) ops ops.toList 0 ⟨fr,H,none⟩:=by
  unfold yH qK;rw[hl.1,hl.2,hw];rfl
 simp only[pD,if_true,e]
 all_goals rfl
theorem aEy{id id':Nat}(hA:rF ops.toList []=rF ops'.toList [])(hz:ops.size=ops'.size)(hl:drawn ops=true)(hl':drawn ops'=true)(hw:ow (9000000+id)=true)(hw':ow (9000000+id')=true)
  (h:ops.toList.map (TY P E (xY ow ee) ops)=ops'.toList.map (TY P E (xY ow ee) ops')) (fr:eY) (H:Hp):pD P E ee yd ow n ro (.region id ops true) fr H=pD P E ee yd ow n ro (.region id' ops' true) fr H:=by
 rw[Et hl hw,Et hl' hw',LV hA hz h]
theorem Dp{s s':Fx}{o:Oper}(h:qU P E F ops s o=some s'):s'.fr.length=s.fr.length:=by
 have hp:∀{s'},rV P E F ops s o=some s'->s'.fr.length=s.fr.length:=fun{s'} h=>by
  unfold rV at h
  repeat' split at h
  all_goals first
   |(cases h;done)
   |(cases h;simp[pP];try(split<;>simp))
 unfold qU at h
 repeat' split at h
 all_goals first
  |exact hp h
  |(cases h;done)
  |(cases h;unfold RM;split<;>simp)
theorem XO:∀{l:fS} {s s':Fx},CG P E ee yd ow ops l s=some s'->s'.fr.length=s.fr.length
 |[],s,s',h=>by cases(show some s=some s' from h);rfl
 |o::l,s,s',h=>by
  unfold CG at h;split at h
  .split at h
   .rw[XO h];simp[pP];split<;>simp
   .cases h
  .split at h
   .rename_i h1;rw[XO h,Dp h1]
   .cases h
theorem RA:∀{l:fS} {s s':Fx},pL P E F ops l s=some s'->s'.fr.length=s.fr.length
 |[],s,s',h=>by
  unfold pL at h
  first
   |(cases h;rfl)
   |(split at h<;>cases h;rfl)
 |o::l,s,s',h=>by
  unfold pL at h;split at h
  .rename_i h1;rw[RA h,Dp h1]
  .cases h
theorem LW:∀{l:fS} {m:Nat} {s s':Fx},pK P E F ops l m s=some s'->s'.fr.length=s.fr.length
 |[],m,s,s',h=>by
  unfold pK at h;split at h<;>cases h;rfl
 |o::l,m,s,s',h=>by
  have hp:∀{v:T},(pP s.fr o.dst v).length=s.fr.length:=fun{v}=>by unfold pP;split<;>simp
  unfold pK at h
  repeat' split at h
  all_goals first
   |(cases h;done)
   |exact RA h
   |(rw[LW h];first|exact hp|simp)
def yV(P:fA)(E:tW)(ee:fE)(yd:fG)(ow:fX)(n:Nat)(c:Code):Prop:=
 ∀fr H fr' H',pD P E ee yd ow n none c fr H=some (.normal,fr',H')->fr'.length=fr.length
theorem yV.skip:yV P E ee yd ow n .skip:=fun fr H fr' H' h=>by cases h;rfl
theorem yV.region{id:Nat}:yV P E ee yd ow n (.region id ops false):=fun fr H fr' H' h=>by
 simp only[pD,bA,if_false]at h;split at h
 .rename_i e;cases h;exact XO e
 .cases h
theorem yV.draw{id:Nat}(hl:drawn ops=true)(hw:ow (9000000+id)=true):yV P E ee yd ow n (.region id ops true):=fun fr H fr' H' h=>by
 rw[Et hl hw]at h;split at h
 .rename_i e;cases h;exact LW e
 .cases h
theorem yV.seq{a b:Code}(ha:yV P E ee yd ow n a)(hb:yV P E ee yd ow n b):yV P E ee yd ow n (.seq a b):=fun fr H fr' H' h=>by
 simp only[pD]at h;split at h
 .rename_i e;rw[hb _ _ _ _ h,ha _ _ _ _ e]
 .exact ha _ _ _ _ h
theorem yV.cond{c:gF}{a b:Code}(ha:yV P E ee yd ow n a)(hb:yV P E ee yd ow n b):yV P E ee yd ow n (.cond c a b):=fun fr H fr' H' h=>by
 simp only[pD]at h
 repeat' split at h
 all_goals first
  |exact ha _ _ _ _ h
  |exact hb _ _ _ _ h
  |cases h
theorem yV.ret{a:Code}:yV P E ee yd ow n (.seq a .ret):=fun fr H fr' H' h=>by
 simp only[pD]at h;split at h
 .cases h
 .rename_i hn;exact absurd h (hn _ _)
def aIg(P:fA)(rs:gU):Option (X×List T×Hp)->Option (List T)
 |some (.normal,fr,H)|some (.ret,fr,H)=>rL P fr H rs|_ =>none
def Tw(P:fA)(E:tW)(ee:fE)(yd:fG)(ow:fX)(n L:Nat)(rs:gU)(c c':Code):Prop:=
 ∀fr H l l',fr.length=L->aIg P rs (pD P E ee yd ow n none c fr H)=some l->aIg P rs (pD P E ee yd ow n none c' fr H)=some l'->l=l'
theorem Tw.seq{L:Nat}{rs:gU}{a a' c c':Code}(h:∀fr H,pD P E ee yd ow n none a fr H=pD P E ee yd ow n none a' fr H)(hl:yV P E ee yd ow n a)(k:Tw P E ee yd ow n L rs c c'):Tw P E ee yd ow n L rs (.seq a c) (.seq a' c'):=by
 intro fr H l l' hL h1 h2;simp only[pD,<-h fr H]at h1 h2;split at h1
 .rename_i e;rw[e]at h2;exact k _ _ l l' (by rw[hl _ _ _ _ e,hL]) h1 h2
 .rename_i x hn;split at h2
  .rename_i e;exact absurd e (hn _ _)
  .rw[h1]at h2;exact bQ h2
end
end
end Go.Ps
namespace Go.Proofs.Tryz
open Go.Ps
noncomputable section
def aAn:Code->List (Array Oper)
 | .region _ ops _ =>[ops]| .seq a b=>aAn a++aAn b| .cond _ a b=>aAn a++aAn b|_ =>[]
noncomputable def r13(i:Nat):Array Oper:=(aAn (oZ f13)).getD i #[]
noncomputable def r14(i:Nat):Array Oper:=(aAn (oZ f14)).getD i #[]
def cdT(r:Nat->Array Oper):Code:= .seq (.region 0 (r 0) false) (.seq (.region 1 (r 1) false) (.seq (.seq (.region 2 (r 2) false) (.cond (.tmp 50) (.seq (.region 3 (r 3) false) .ret) .skip)) (.seq (.seq (.region 4 (r 4) false) (.cond (.tmp 54) (.seq (.region 5 (r 5) false) .ret) .skip)) (.seq (.region 6 (r 6) true) (.seq (.region 7 (r 7) false) .ret)))))
theorem b13:oZ f13=cdT r13:=by kernel_rfl
theorem b14:oZ f14=cdT r14:=by kernel_rfl
theorem tA:rF (r13 6).toList []=rF (r14 6).toList []:=by kernel_rfl
theorem tZ:(r13 6).size=(r14 6).size:=by kernel_rfl
theorem tD:drawn (r13 6)=true/\drawn (r14 6)=true:=⟨by kernel_rfl,by kernel_rfl⟩
section
variable(P:fA)(E:tW)(ee:fE)(ow:fX)
def CO(r:fC):List NN:=r.toList.map (TY P E (xY ow ee) r)
theorem tw0:CO P E ee ow (r13 0)=CO P E ee ow (r14 0):=by kernel_rfl
theorem tw1:CO P E ee ow (r13 1)=CO P E ee ow (r14 1):=by kernel_rfl
theorem tw2:CO P E ee ow (r13 2)=CO P E ee ow (r14 2):=by kernel_rfl
theorem tw3:CO P E ee ow (r13 3)=CO P E ee ow (r14 3):=by kernel_rfl
theorem tw4:CO P E ee ow (r13 4)=CO P E ee ow (r14 4):=by kernel_rfl
theorem tw5:CO P E ee ow (r13 5)=CO P E ee ow (r14 5):=by kernel_rfl
theorem tw6:CO P E ee ow (r13 6)=CO P E ee ow (r14 6):=by kernel_rfl
end
def L72(g:iC)(x y:T):List T:=(List.range 72).map fun i=>cond (Nat.beq i 6) x (cond (Nat.beq i 7) y (g i))
theorem aRz{fr:eY}(h:fr.length=72):∃g x y,fr=L72 g x y:=by
 refine⟨fun i=>fr.getD i oL,fr.getD 6 oL,fr.getD 7 oL,eB fun j=> ?_⟩;unfold L72;rw[aY];by_cases hj:j<72
 .rw[dJ hj,aC (by omega)];simp only[bW,aD];by_cases h6:j=6
  .subst h6;simp[aX,h,show Nat.beq 6 6=true from rfl]
  .by_cases h7:j=7
   .subst h7;simp[aX,h,show Nat.beq 7 6=false from rfl,show Nat.beq 7 7=true from rfl]
   .have e6:Nat.beq j 6=false:=Bool.eq_false_iff.2 fun q=>h6 (aB q);have e7:Nat.beq j 7=false:=Bool.eq_false_iff.2 fun q=>h7 (aB q);rw[e6,e7];simp[aX,h,hj]
 .rw[bH (by omega),bH (by simp;omega)];rfl
section
variable(E:tW)(ee:fE)(yd:fG)(ow:fX)(n:Nat)
def o13(g:iC)(x y:T)(H:Hp):Option (List T):=aIg prog [.tmp 4] (pD prog E ee yd ow n none (.seq (.region 7 (r13 7) false) .ret) (L72 g x y) H)
def o14(g:iC)(x y:T)(H:Hp):Option (List T):=aIg prog [.tmp 4] (pD prog E ee yd ow n none (.seq (.region 7 (r14 7) false) .ret) (L72 g x y) H)
theorem aBx(b:Bool)(g:iC)(y:T)(H:Hp):o13 E ee yd ow n g (.bool b) y H=none\/o14 E ee yd ow n g (.bool b) y H=none\/o13 E ee yd ow n g (.bool b) y H=o14 E ee yd ow n g (.bool b) y H:=by
 cases y with
 |int k m=>cases b<;>cases k<;>rcases m with(_ |j)|j<;>first|exact .inr (.inr (by as_aux_lemma=>kernel_rfl))|exact .inr (.inl (by as_aux_lemma=>kernel_rfl))
 |_ =>exact .inr (.inl (by as_aux_lemma=>kernel_rfl))
theorem tail:Tw prog E ee yd ow n 72 [.tmp 4] (.seq (.region 7 (r13 7) false) .ret) (.seq (.region 7 (r14 7) false) .ret):=by
 intro fr H l l' hL h1 h2;obtain⟨g,x,y,rfl⟩:=aRz hL;have h1:o13 E ee yd ow n g x y H=some l:=h1;have h2:o14 E ee yd ow n g x y H=some l':=h2;have key:o13 E ee yd ow n g x y H=none\/o14 E ee yd ow n g x y H=none\/o13 E ee yd ow n g x y H=o14 E ee yd ow n g x y H:=by
  cases x with
  |bool b=>exact aBx E ee yd ow n b g y H|_ =>exact .inl (by kernel_rfl)
 rcases key with k|k|k
 .rw[k]at h1;cases h1
 .rw[k]at h2;cases h2
 .rw[k,h2]at h1;exact(bQ h1).symm
theorem bNh(hw:ow 9000006=true):Tw prog E ee yd ow n 72 [.tmp 4] (oZ f13) (oZ f14):=by
 rw[b13,b14];have hr:∀{i:Nat} {a b:fC},CO prog E ee ow a=CO prog E ee ow b->∀fr H,pD prog E ee yd ow n none (.region i a false) fr H=pD prog E ee yd ow n none (.region i b false) fr H:=fun h fr H=>Sk h fr H;have hc:∀{i j t:Nat} {a b a' b':fC},CO prog E ee ow a=CO prog E ee ow a'->CO prog E ee ow b=CO prog E ee ow b'->∀fr H,pD prog E ee yd ow n none (.seq (.region i a false) (.cond (.tmp t) (.seq (.region j b false) .ret) .skip)) fr H=pD prog E ee yd ow n none (.seq (.region i a' false) (.cond (.tmp t) (.seq (.region j b' false) .ret) .skip)) fr H:=by
  intro i j t a b a' b' h k fr H;have e1:=hr (i:=i) h fr H;have e2:=hr (i:=j) k;simp only[pD,bA,if_false]at e1 e2⊢;simp only[e1,e2]
 refine Tw.seq (hr (tw0 ..)) .region (Tw.seq (hr (tw1 ..)) .region (Tw.seq (hc (tw2 ..) (tw3 ..)) (.seq .region (.cond .ret .skip)) (Tw.seq (hc (tw4 ..) (tw5 ..)) (.seq .region (.cond .ret .skip)) (Tw.seq (fun fr H=> ?_) (.draw tD.1 hw) (tail E ee yd ow n)))));exact aEy tA tZ tD.1 tD.2 hw hw (tw6 ..) fr H
end
end
end Go.Proofs.Tryz
namespace Go.Proofs.Tryz
open Go.Ps
variable[Inhabited Prd]
noncomputable section
def SK(m:Int)(te:eX)(s:AE):Prop:=FB (fun n d=>(tJ prog ⟨glZ m te,sB 40 (eK4 m te)⟩ (SL Aw PZ).own (SL Aw PZ).top n d).ee) s
theorem aVx{m:Int}{te:eX}{an:FuncId->An}{tab:List AE}(ht:∀s∈tab,SK m te s){s:AE}(hr:pX prog (SL an PZ) tab 4 s=true):SK m te s:=
 Lay.smy (Wi m te) (X:=SL an PZ) rfl rfl (il:=[57,28]) rfl (by kernel_rfl) (tl:=[57,28]) rfl (by kernel_rfl) ht hr (by kernel_rfl) (by kernel_rfl) rX
theorem aVz(hI:Is){m:Int}{te:eX}{d:Nat}(hd:d<=3)(hr:∀s∈Cz d,SK m te s)(hk:∀e,d=e+1->∀s∈aJc e,SK m te s):SK m te (aVu d):=by
 refine Dk fun ts μ hg=> ?_;obtain⟨t,r,rfl,g1,g2⟩:=(show pH [0] μ (.prd (200+d+1) (eA d)::[ifull,.ptr 0 0,.ptr 1 0]) ts from hg).inv_cons;cases g1 with
 |prd _ _ us hq h1 h2=>
 have hb:=((hI.b (d+1) _ (by omega)).1 hq).1;rcases cls hI (by omega) (.agg _ _ h1 h2) hb with⟨x,hx,hg'⟩|⟨e,n,i,rfl,hi,hn,hg'⟩
 .exact⟨sCk (.agg x) YX,hr _ (dI hx),rfl,rfl,pH.cons hg' g2,fun _ h=>h⟩
 .refine⟨sCk (.agg (aNy e n i)) YX,hk e rfl _ ?_,rfl,rfl,pH.cons hg' g2,fun _ h=>h⟩;have hm:(n,i)∈[(1,0),(2,0),(2,1),(3,0),(3,1),(3,2),(4,0),(4,1),(4,2),(4,3)]:=by
   have h1:n=1\/n=2\/n=3\/n=4:=by omega
   have h2:i=0\/i=1\/i=2\/i=3:=by omega
   rcases h1 with rfl|rfl|rfl|rfl<;>rcases h2 with rfl|rfl|rfl|rfl<;>first|(exfalso;omega)|simp
  exact dI (f:=fun q:Nat×Nat=>sCk (.agg (aNy e q.1 q.2)) YX) hm
theorem TH(hI:Is){m:Int}{te:eX}{d:Nat}(hd:d<=3)(ht:∀s∈Du d,SK m te s)(hy:∀s∈[Ss d],pX prog (SL Aw PZ) (Du d) 4 s=true)(hx:∀s∈Cz d,pX prog (SL Aw PZ) (Du d) 4 s=true)
  (hk:∀e,d=e+1->∀s∈aJc e,pX prog (SL aLi PZ) (Du d) 4 s=true):∀s∈Du (d+1),SK m te s:=by
 intro s hs;have hs:s∈[aVu d,Ss d]:=hs;simp only[aU,cB,or_false]at hs;rcases hs with rfl|rfl
 .exact aVz hI hd (fun s h=>aVx ht (hx s h)) fun e he s h=>aVx ht (hk e he s h)
 .exact aVx ht (hy _ (by simp))
theorem aVy(hI:Is)(m:Int)(te:eX):∀s∈Du 4,SK m te s:=by
 have h0:∀s∈Du 0,SK m te s:=fun s h=>by cases h
 have h1:=TH hI (d:=0) (by omega) h0 ry0 rx0 (fun e h=>by cases h);have h2:=TH hI (d:=1) (by omega) h1 ry1 rx1 (fun e h=>by cases h;exact rk0);have h3:=TH hI (d:=2) (by omega) h2 ry2 rx2 (fun e h=>by cases h;exact rk1);exact TH hI (d:=3) (by omega) h3 ry3 rx3 (fun e h=>by cases h;exact rk2)
theorem bLp:([57,28]:List Nat).all (fun f=>tY prog f&&zD prog f)=true:=by kernel_rfl
def eK5(m:Int)(te:eX):=EF prog (glZ m te) (eK4 m te) (SL Aw PZ).own (SL Aw PZ).top 40 fun f=>l28.any fun c=>Nat.beq c.f f
def dK5:FuncId->Bool:=fun f=>(l28.any fun c=>Nat.beq c.f f)||dK4 f
theorem aK5(hI:Is)(m:Int)(te:eX):∀c∈l28,tL prog (glZ m te) (eK4 m te) (SL Aw PZ) 40 c:=fun c hc=>
 ⟨(aG.1 (by kernel_rfl):∀c∈l28,BT (pV qX) c.pre=true) c hc,fun ts ht=>xK ((Wi m te).cn (X:=SL Aw PZ) rfl rfl (l:=[57,28]) rfl (by kernel_rfl)) rX (tab:=Du 4) (aVy hI m te) (r28 c hc) ht⟩
theorem bBs(hI:Is)(m:Int)(te:eX):Lay prog (glZ m te) 40 (fun _ =>none) pK5 (eK5 m te) dK5:=
 (Wi m te).stepZ follows (qL m te) rX (X:=SL Aw PZ) (tl:=[57,28]) rfl bLp (l:=l28) (aK5 hI m te)
end
end Go.Proofs.Tryz
namespace Go.Proofs.Tryz
open Go.Ps
theorem rD1:qZ prog gD1=true:=by kernel_rfl
theorem rD2:qZ prog gD2=true:=by kernel_rfl
theorem rD3:qZ prog gD3=true:=by kernel_rfl
theorem bDr:∀c∈Lc,xJ prog xD4 [] 8 c=true:=aG.1 (by kernel_rfl)
theorem rD5:qZ prog gD5=true:=by kernel_rfl
theorem bDs:∀c∈Le,xJ prog xD6 [] 8 c=true:=aG.1 (by kernel_rfl)
theorem bDt:∀c∈ZH,xJ prog xD9 [] 8 c=true:=aG.1 (by kernel_rfl)
theorem rC1:qZ prog gC1=true:=by kernel_rfl
theorem rC2:qZ prog gC2=true:=by kernel_rfl
theorem rL1:qZ prog gL1=true:=by kernel_rfl
theorem rL2:qZ prog gL2=true:=by kernel_rfl
theorem rL3:qZ prog gL3=true:=by kernel_rfl
theorem rP1:qZ prog gP1=true:=by kernel_rfl
theorem rQ6:qZ prog gQ6=true:=by kernel_rfl
end Go.Proofs.Tryz
namespace Go.Ps
variable[Inhabited Prd]
section
variable{P:fA}{gl:fD}
open Classical in
noncomputable def Wh(P:fA)(gl:fD)(c:qD)(pe:fH):FuncId->List T->Option T:=fun f ts=>
 if Nat.beq c.f f=true then(if h:∃r,oK P gl f ts r/\(∀I:Inhabited Prd, @Gm I [] [] c.res r)then some (Classical.choose h)else none)else pe f ts
theorem aGv{c:qD}{pe:fH}{ts:eY}(h:∃r,oK P gl c.f ts r/\(∀I:Inhabited Prd, @Gm I [] [] c.res r)):∃r,Wh P gl c pe c.f ts=some r/\Gm [] [] c.res r:=by
 refine⟨Classical.choose h,?_,(cO h).2 _⟩;unfold Wh;rw[if_pos (by simp),dif_pos h]
theorem aUj{c:qD}{pe:fH}(hp:PcOk P gl pe):PcOk P gl (Wh P gl c pe):=by
 intro f ts r h;unfold Wh at h;split at h
 .split at h
  .rename_i h';cases h;have q:=(cO h').1;exact⟨q.1,fun g vs hg hal hgl hv=>q.2 g vs hg ⟨0,fun l _ =>hal l⟩ hgl hv⟩
  .cases h
 .exact hp f ts r h
variable{k:Nat}{ga:Nat->Option A}{pa:FuncId->List A->Nat->List pO->Option AV}{pe:fH}{dom:fZ}
theorem Lay.known(h:Lay P gl k ga pa pe dom)(hk:qX<=k){c:qD}(hp:BT (pV qX) c.pre=true)(hc:∀ts,pH [] [] c.pre ts->∃r,oK P gl c.f ts r/\(∀I:Inhabited Prd, @Gm I [] [] c.res r)):
  Lay P gl k ga (pU [c] pa) (Wh P gl c pe) (fun f=>Nat.beq c.f f||dom f):=by
 refine⟨h.gA,?_,aUj h.pc,fun f ts hd=> ?_,h.hx⟩
 .intro f a n cs v hv ρ μ H ts hs hg;unfold pU at hv;split at hv
  .split at hv
   .rename_i c' hf;have hmem:=List.mem_of_find?_eq_some hf;simp only[aU,cB,or_false]at hmem;subst hmem;have hcf:=List.find?_some (p:=fun c:qD=>Nat.beq c.f f&&zE (JC cs 0 0 qX) a c.pre) hf;simp only[aA]at hcf;obtain⟨hcf,hle⟩:=hcf;have hcf:=oM hcf;subst hcf;cases hv;have hgp:pH [] [] c'.pre ts:=by
     have:=zV (fun a t x=>xR hs.cs hs.zero 0 0 qX a t x) hle hg
     rwa [RV,RV]at this
    obtain⟨r,r1,r2⟩:=aGv (pe:=pe) (hc ts hgp);have hfz:mapO (pF k ⟨0,.nl⟩) ts=some ts:=wF _ fun x hx=>by
     obtain⟨a,ha,hga⟩:=wA hgp.1 hgp.2 hx;exact CD qX a x (qB hp a ha) hga k hk
    refine⟨r,?_,rU hs (r2.ext (fun j v h=>by simp at h) (fun j v h=>by simp at h))⟩;unfold sB;rw[hfz];exact r1
   .cases hv
  .rename_i hno;obtain⟨r,r1,r2⟩:=h.pA f a n cs v hv ρ μ H ts hs hg;refine⟨r,?_,r2⟩;have hfn:∀ts,Wh P gl c pe f ts=pe f ts:=fun ts=>by
    unfold Wh;rw[if_neg (fun q=>hno (by simp only[List.any_cons,List.any_nil,Bool.or_false];exact q))]
   unfold sB at r1⊢;simp only[hfn];exact r1
 .simp only[eN]at hd;unfold Wh;rw[if_neg (fun q=>by rw[hd.1]at q;cases q)];exact h.dm f ts hd.2
theorem Lay.exZ{X:AX}{l:List qD}{pb:FuncId->List A->Nat->List pO->Option AV}{dm:fZ}(h:Lay P gl k ga pb (EF P gl pe X.own X.top k fun f=>l.any fun c=>Nat.beq c.f f) dm)(hz:uD gl)(hk:qX<=k){c:qD}(hc:c∈l)(ha:tL P gl pe X k c){ts:eY}(ht:pH [] [] c.pre ts):
  ∃r,oK P gl c.f ts r/\Gm [] [] c.res r:=by
 obtain⟨r,r1,r2⟩:=ha.2 ts ht;refine⟨r,h.pure hz (VB (eK.2 ⟨c,hc,by simp⟩) r1) (wF _ fun x hx=> ?_),r2⟩;obtain⟨a,h1,h2⟩:=wA ht.1 ht.2 hx;exact CD qX a x (qB ha.1 a h1) h2 k hk
end
end Go.Ps
namespace Go.Proofs.Tryz
open Go.Ps
variable[Inhabited Prd]
noncomputable section
def eD0(m:Int)(te:eX):=Wh prog (glZ m te) aSy (eK5 m te)
def dD0:FuncId->Bool:=fun f=>Nat.beq 342 f||dK5 f
theorem bBb(hI:Is)(m:Int)(te:eX):Lay prog (glZ m te) 40 (fun _ =>none) pD0 (eD0 m te) dD0:=by
 refine(bBs hI m te).known rX (c:=aSy) (by kernel_rfl) fun ts h=> ?_;rw[(show pH [] [] [] ts from h).inv_nil];refine⟨_,aAp m te,fun I=> ?_⟩;have e:aVg=[.int .i64 1,.int .i64 10,.int .i64 100,.int .i64 1000,.int .i64 10000,.int .i64 100000,.int .i64 1000000,.int .i64 10000000,.int .i64 100000000,.int .i64 1000000000,.int .i64 10000000000,.int .i64 100000000000,.int .i64 1000000000000]:=by kernel_rfl
 rw[e];have one:∀n:Int,-9223372036854775808<=n->n<=9223372036854775807-> @Gm I [] [] (FI n) (.int .i64 n):=fun n h1 h2=> @Gm.ival I [] [] _ _ _ _ (Int.le_refl _) (Int.le_refl _) ⟨h1,h2⟩;exact AL (oT (one _ (by decide) (by decide)) (oT (one _ (by decide) (by decide)) (oT (one _ (by decide) (by decide)) (oT (one _ (by decide) (by decide)) (oT (one _ (by decide) (by decide)) (oT (one _ (by decide) (by decide)) (oT (one _ (by decide) (by decide)) (oT (one _ (by decide) (by decide)) (oT (one _ (by decide) (by decide)) (oT (one _ (by decide) (by decide)) (oT (one _ (by decide) (by decide)) (oT (one _ (by decide) (by decide)) (oT (one _ (by decide) (by decide)) vF)))))))))))))
def eD1:=nE gD1 eD0
def dD1:=nD gD1 dD0
theorem bBc(hI:Is)(m:Int)(te:eX):rB m te (pD1) (eD1 m te) dD1:=go (bBb hI m te) [323,162,35,243] rD1 rfl (by kernel_rfl) (by kernel_rfl) ⟨r5,trivial⟩
def eD2:=nE gD2 eD1
def dD2:=nD gD2 dD1
theorem bBd(hI:Is)(m:Int)(te:eX):rB m te (pD2) (eD2 m te) dD2:=go (bBc hI m te) [288,296,297,295] rD2 rfl (by kernel_rfl) (by kernel_rfl) ⟨r5,trivial⟩
def eD3:=nE gD3 eD2
def dD3:=nD gD3 dD2
theorem aQz(hI:Is)(m:Int)(te:eX):rB m te (pD3) (eD3 m te) dD3:=go (bBd hI m te) [293,295] rD3 rfl (by kernel_rfl) (by kernel_rfl) ⟨r5,trivial⟩
def eD4(m:Int)(te:eX):=EF prog (glZ m te) (eD3 m te) xD4.own xD4.top 40 fun f=>(Lc++([Ba])).any fun c=>Nat.beq c.f f
def dD4:FuncId->Bool:=fun f=>((Lc++([Ba])).any fun c=>Nat.beq c.f f)||dD3 f
theorem aQf(hI:Is)(m:Int)(te:eX):∀c∈Lc,tL prog (glZ m te) (eD3 m te) xD4 40 c:=fun c hc=>
 ⟨(aG.1 (by kernel_rfl):∀c∈Lc,BT (pV qX) c.pre=true) c hc,fun ts ht=>xK ((aQz hI m te).cn (X:=xD4) rfl rfl (l:=[287,301,295]) rfl (by kernel_rfl)) rX (tab:=[]) (by simp) (bDr c hc) ht⟩
theorem Di{μ:fB}{ρ:fI}{t:T}(h:Gm ρ μ xT t):∃b∈bS,Gm ρ μ (.agg [b,ifull]) t:=by
 cases(show Gm ρ μ (.agg [ifull,ifull]) t from h)with
 |agg _ ts h1 h2=>
 obtain⟨a,r,rfl,g1,g2⟩:=(show pH ρ μ [ifull,ifull] ts from⟨h1,h2⟩).inv_cons;obtain⟨n,rfl,n1,n2⟩:=inv_int g1;have hb:∃b∈bS,Gm ρ μ b (.int .i64 n):=by
  by_cases c1:1<=n
  .exact⟨_,aR,yL c1 n2 n1 n2⟩
  .by_cases c2:n=0
   .subst c2;exact⟨_,aJ _ aR,yL (Int.le_refl _) (Int.le_refl _) n1 n2⟩
   .exact⟨_,aJ _ (aJ _ aR),yL n1 (by omega) n1 n2⟩
 obtain⟨b,hb,hg⟩:=hb;exact⟨b,hb,AL (oT hg g2)⟩
theorem bNq(hI:Is)(m:Int)(te:eX):∀c∈[Ba],tL prog (glZ m te) (eD3 m te) xD4 40 c:=by
 intro c hc;simp only[aU,cB,or_false]at hc;subst hc;refine AF (by kernel_rfl) fun ts ht=> ?_;obtain⟨t1,r1,rfl,g1,g2⟩:=(show pH [] [] [xT,xT,ifull] ts from ht).inv_cons;obtain⟨t2,r2,rfl,g3,g4⟩:=g2.inv_cons;obtain⟨b,hb,hg⟩:=Di g3;exact⟨aXy b,aQf hI m te _ (List.mem_append_right _ (dI hb)),rfl,oT g1 (oT hg g4),fun _ h=>h⟩
theorem aD4(hI:Is)(m:Int)(te:eX):∀c∈Lc++([Ba]),tL prog (glZ m te) (eD3 m te) xD4 40 c:=(cH.2 ⟨(aQf hI m te),(bNq hI m te)⟩)
theorem bBe(hI:Is)(m:Int)(te:eX):Lay prog (glZ m te) 40 (fun _ =>none) (pD4) (eD4 m te) dD4:=
 (aQz hI m te).stepZ follows (qL m te) rX (X:=xD4) (tl:=[215,221,228,224,287,301,295]) rfl bLl (l:=Lc++([Ba])) (aD4 hI m te)
def eD5:=nE gD5 eD4
def dD5:=nD gD5 dD4
theorem aRa(hI:Is)(m:Int)(te:eX):rB m te (pD5) (eD5 m te) dD5:=go (bBe hI m te) [295] rD5 rfl (by kernel_rfl) (by kernel_rfl) ⟨r5,trivial⟩
def eD6(m:Int)(te:eX):=EF prog (glZ m te) (eD5 m te) xD6.own xD6.top 40 fun f=>(Le++([Az])).any fun c=>Nat.beq c.f f
def dD6:FuncId->Bool:=fun f=>((Le++([Az])).any fun c=>Nat.beq c.f f)||dD5 f
theorem aQg(hI:Is)(m:Int)(te:eX):∀c∈Le,tL prog (glZ m te) (eD5 m te) xD6 40 c:=fun c hc=>
 ⟨(aG.1 (by kernel_rfl):∀c∈Le,BT (pV qX) c.pre=true) c hc,fun ts ht=>xK ((aRa hI m te).cn (X:=xD6) rfl rfl (l:=[287,301]) rfl (by kernel_rfl)) rX (tab:=[]) (by simp) (bDs c hc) ht⟩
theorem bNp(hI:Is)(m:Int)(te:eX):∀c∈[Az],tL prog (glZ m te) (eD5 m te) xD6 40 c:=by
 intro c hc;simp only[aU,cB,or_false]at hc;subst hc;refine AF (by kernel_rfl) fun ts ht=> ?_;obtain⟨t1,r1,rfl,g1,g2⟩:=(show pH [] [] [xT,xT] ts from ht).inv_cons;obtain⟨t2,r2,rfl,g3,g4⟩:=g2.inv_cons;obtain⟨b,hb,hg⟩:=Di g3;exact⟨aXx b,aQg hI m te _ (aJ _ (dI hb)),rfl,oT g1 (oT hg g4),fun _ h=>h⟩
theorem aD6(hI:Is)(m:Int)(te:eX):∀c∈Le++([Az]),tL prog (glZ m te) (eD5 m te) xD6 40 c:=(cH.2 ⟨(aQg hI m te),(bNp hI m te)⟩)
theorem bBf(hI:Is)(m:Int)(te:eX):Lay prog (glZ m te) 40 (fun _ =>none) (pD6) (eD6 m te) dD6:=
 (aRa hI m te).stepZ follows (qL m te) rX (X:=xD6) (tl:=[222,223,287,301]) rfl bLm (l:=Le++([Az])) (aD6 hI m te)
theorem SV{ρ:fI}{μ:fB}{t:T}(h:Gm ρ μ xT t):∃n s:Int,t= .agg [.int .i64 n,.int .i64 s]/\(-9223372036854775808<=n/\n<=9223372036854775807)/\(-9223372036854775808<=s/\s<=9223372036854775807):=by
 cases(show Gm ρ μ (.agg [ifull,ifull]) t from h)with
 |agg _ ts h1 h2=>
 obtain⟨a,r,rfl,g1,g2⟩:=(show pH ρ μ [ifull,ifull] ts from⟨h1,h2⟩).inv_cons;obtain⟨b,r,rfl,g3,g4⟩:=g2.inv_cons;rw[g4.inv_nil];obtain⟨n,rfl,n1,n2⟩:=inv_int g1;obtain⟨s,rfl,s1,s2⟩:=inv_int g3;exact⟨n,s,rfl,⟨n1,n2⟩,s1,s2⟩
def eD8(m:Int)(te:eX):=knQ prog (glZ m te) 287 aXl (eD6 m te)
def dD8:FuncId->Bool:=fun f=>Nat.beq 287 f||dD6 f
theorem aPx{l:List qD}{pa:FuncId->List A->Nat->List pO->Option AV}{f:fT}{a:List A}{n:Nat}{cs:List pO}{v:AV}(hv:pU l pa f a n cs=some v){ρ:fI}{μ:fB}{ts:eY}(hs:Sy ρ n cs)(hg:pH ρ μ a ts)(hf:(l.any fun c=>Nat.beq c.f f)=true):
  ∃c∈l,pH [] [] c.pre ts/\v=uK c.res n cs:=by
 unfold pU at hv;split at hv
 .split at hv
  .rename_i c' hf;have hmem:=List.mem_of_find?_eq_some hf;have hcf:=List.find?_some (p:=fun c:qD=>Nat.beq c.f f&&zE (JC cs 0 0 qX) a c.pre) hf;simp only[aA]at hcf;obtain⟨hcf,hle⟩:=hcf;cases hv;refine⟨c',hmem,?_,rfl⟩;have:=zV (fun a t x=>xR hs.cs hs.zero 0 0 qX a t x) hle hg
   rwa [RV,RV]at this
  .cases hv
 .rename_i hno;exact absurd hf hno
theorem aRb(hI:Is)(m:Int)(te:eX):Lay prog (glZ m te) 40 (fun _ =>none) pD8 (eD8 m te) dD8:=by
 refine(bBf hI m te).knownQ (f0:=287) (pq:=bAg) fun a n cs v hv ρ μ ts hs hg=> ?_;obtain⟨c,hc,hgp,rfl⟩:=aPx (show pU [Jm,Uq] (fun _ _ _ _ =>none) 287 a n cs=some v from hv) hs hg rfl;have hp:BT (pV qX) c.pre=true:=(aG.1 (by kernel_rfl):∀c∈[Jm,Uq],BT (pV qX) c.pre=true) c hc;have hfz:mapO (pF 40 ⟨0,.nl⟩) ts=some ts:=wF _ fun x hx=>by
  obtain⟨a,ha,hga⟩:=wA hgp.1 hgp.2 hx;exact CD qX a x (qB hp a ha) hga 40 rX
 have key:∃t xs,ts=[t]/\AK t xs/\(xs.length:Int)<=256/\(∀x∈xs,∃n s:Int,x= .agg [.int .i64 n,.int .i64 s])/\(c=Jm->badNs t)/\(c=Jm\/c=Uq):=by
  simp only[aU,cB,or_false]at hc;rcases hc with rfl|rfl
  .obtain⟨t,r,rfl,g1,g2⟩:=(show pH [] [] [.slpv 20 xT 0 256] ts from hgp).inv_cons;rw[g2.inv_nil];cases g1 with
   |slpv _ _ _ _ _ xs h0 h1 h2 h3 h4=>
    exact⟨t,xs,rfl,h1,h3,fun x hx=>by obtain⟨n,s,e,_⟩:=SV (h4 x hx);exact⟨n,s,e⟩,fun _ =>((hI.n t).1 h0).1,.inl rfl⟩
  .obtain⟨t,r,rfl,g1,g2⟩:=(show pH [] [] [.slv xT 0 256] ts from hgp).inv_cons;rw[g2.inv_nil];obtain⟨xs,h1,h2,h3,h4⟩:=EM g1;exact⟨t,xs,rfl,h1,h3,fun x hx=>by obtain⟨n,s,e,_⟩:=SV (h4 x hx);exact⟨n,s,e⟩,(fun h=>by cases h),.inr rfl⟩
 obtain⟨t,xs,rfl,h1,h2,h3,h4,h5⟩:=key;refine⟨hfz,bMz m te h1 h2 h3,fun r hr=>rU hs ?_⟩;obtain⟨e,rfl,e1,e2,e3⟩:=hr;rcases h5 with rfl|rfl
 .obtain⟨ys,y1,y,y2,y3⟩:=h4 rfl;have:e≠0:=fun he=>y3 (e3 he t ys rfl y1 y y2);exact yL (by omega) e2 (by omega) (by omega)
 .exact yL e1 e2 (by omega) (by omega)
def eD9(m:Int)(te:eX):=EF prog (glZ m te) (eD8 m te) xD9.own xD9.top 40 fun f=>(ZH++([UG])).any fun c=>Nat.beq c.f f
def dD9:FuncId->Bool:=fun f=>((ZH++([UG])).any fun c=>Nat.beq c.f f)||dD8 f
theorem aDo(hI:Is)(m:Int)(te:eX):∀c∈ZH,tL prog (glZ m te) (eD8 m te) xD9 40 c:=fun c hc=>
 ⟨(aG.1 (by kernel_rfl):∀c∈ZH,BT (pV qX) c.pre=true) c hc,fun ts ht=>xK ((aRb hI m te).cn (X:=xD9) rfl rfl (l:=[]) rfl (by kernel_rfl)) rX (tab:=[]) (by simp) (bDt c hc) ht⟩
theorem bNo(hI:Is)(m:Int)(te:eX):∀c∈[UG],tL prog (glZ m te) (eD8 m te) xD9 40 c:=by
 intro c hc;simp only[aU,cB,or_false]at hc;subst hc;have hp:BT (pV qX) UG.pre=true:=by kernel_rfl
 refine AF hp fun ts ht=> ?_;have ht':=ht;obtain⟨t,r,rfl,g1,g2⟩:=(show pH [] [] [.slv xT 0 1000000] ts from ht).inv_cons;have e:=g2.inv_nil;subst e;obtain⟨xs,h1,h2,h3,h4⟩:=EM g1;by_cases hb:badNs t
 .have hpt:pureT t:=MU (a:= .slv xT 0 1000000) (by kernel_rfl) g1;exact⟨aQl,aDo hI m te _ (by unfold ZH;simp),rfl,oT (.slpv _ _ _ _ _ xs ((hI.n t).2 ⟨hb,hpt⟩) h1 h2 h3 h4) vF,fun _ h=>h⟩
 .refine⟨aXw,aDo hI m te _ (by unfold ZH;simp),rfl,oT (.slv _ _ _ _ xs h1 h2 h3 fun x hx=> ?_) vF,fun _ h=>h⟩;obtain⟨n,s,rfl,n1,s1⟩:=SV (h4 x hx);have ho:okN (.agg [.int .i64 n,.int .i64 s]):=cW fun q=>hb ⟨xs,h1,_,hx,q⟩;obtain⟨n',s',e,o1,o2,o3,o4⟩:=ho;cases e;exact AL (oT (yL o1 o2 n1.1 n1.2) (oT (yL o3 o4 s1.1 s1.2) vF))
theorem aD9(hI:Is)(m:Int)(te:eX):∀c∈ZH++([UG]),tL prog (glZ m te) (eD8 m te) xD9 40 c:=(cH.2 ⟨(aDo hI m te),(bNo hI m te)⟩)
theorem bBg(hI:Is)(m:Int)(te:eX):Lay prog (glZ m te) 40 (fun _ =>none) (pD9) (eD9 m te) dD9:=
 (aRb hI m te).stepZ follows (qL m te) rX (X:=xD9) (tl:=[219]) rfl bLn (l:=ZH++([UG])) (aD9 hI m te)
end
end Go.Proofs.Tryz
namespace Go.Proofs.Tryz
open Go.Ps
variable[Inhabited Prd]
noncomputable section
theorem VU{ρ:fI}{μ:fB}{lo hi:Int}{t:T}(h:Gm ρ μ (.strv lo hi) t):∃l:List UInt8,t= .str l/\lo<=(l.length:Int)/\(l.length:Int)<=hi:=by
 cases h with
 |strv _ _ l h1 h2=>exact⟨l,rfl,h1,h2⟩
theorem aUd{ρ:fI}{μ:fB}{lo hi:Int}{k:gB}{t:T}(h:Gm ρ μ (.ival k lo hi) t):∃n:Int,t= .int k n/\lo<=n/\n<=hi/\FK k n:=by
 cases h with
 |ival _ _ _ n h1 h2 h3=>exact⟨n,rfl,h1,h2,h3⟩
def eC9(m:Int)(te:eX):=Wh prog (glZ m te) aLv (eD9 m te)
def dC9:FuncId->Bool:=fun f=>Nat.beq 261 f||dD9 f
theorem bBa(hI:Is)(m:Int)(te:eX):Lay prog (glZ m te) 40 (fun _ =>none) (pU [aLv] pD9) (eC9 m te) dC9:=by
 refine(bBg hI m te).known rX (c:=aLv) (by kernel_rfl) fun ts h=> ?_;obtain⟨t,r,rfl,g1,g2⟩:=(show pH [] [] [.strv 1 cBig] ts from h).inv_cons;have e:=g2.inv_nil;subst e;obtain⟨l,rfl,h1,h2⟩:=VU g1;obtain⟨d1,d2,d3,d4⟩:=aTc l (by omega);refine⟨_,Zb l,fun I=> ?_⟩;have q:= @oT I [] [] _ _ _ _ (@Gm.ival I [] [] .i32 0 1114111 (Yz l) d1 d2 ⟨by simp[IntKind.min,IntKind.bits,IntKind.signed];omega,by simp[IntKind.max,IntKind.bits,IntKind.signed];omega⟩) (@oT I [] [] _ _ _ _ (@Gm.ival I [] [] .i64 1 4 (Za l) d3 d4 (vO (by omega))) (@vF I [] []));exact @Gm.tup I [] [] _ _ q.1 q.2
def eC0(m:Int)(te:eX):=Wh prog (glZ m te) aSx (eC9 m te)
def dC0:FuncId->Bool:=fun f=>Nat.beq 312 f||dC9 f
theorem bAx(hI:Is)(m:Int)(te:eX):Lay prog (glZ m te) 40 (fun _ =>none) pC0 (eC0 m te) dC0:=by
 refine(bBa hI m te).known rX (c:=aSx) (by kernel_rfl) fun ts h=> ?_;obtain⟨t,r,rfl,g1,g2⟩:=(show pH [] [] [.strc [48],.ival .i64 0 100] ts from h).inv_cons;obtain⟨u,r',rfl,g3,g4⟩:=g2.inv_cons;have e:=g4.inv_nil;subst e;cases g1;obtain⟨n,rfl,n1,n2,n3⟩:=aUd g3;have hp:=aIs (m:=m) (te:=te) [48] n.toNat (by omega) (by simp;omega);rw[show((n.toNat:Nat):Int)=n by omega]at hp;refine⟨_,hp,fun I=> @Gm.strv I [] [] 0 100 _ (by omega) ?_⟩;rw[Lib.repeatL_length];simp;omega
def eC1:=nE gC1 eC0
def dC1:=nD gC1 dC0
theorem bAy(hI:Is)(m:Int)(te:eX):rB m te (pC1) (eC1 m te) dC1:=go (bAx hI m te) [226,298,326] rC1 rfl (by kernel_rfl) (by kernel_rfl) ⟨r5,r5,r5,trivial⟩
def eC2:=nE gC2 eC1
def dC2:=nD gC2 dC1
theorem bAz(hI:Is)(m:Int)(te:eX):rB m te (pC2) (eC2 m te) dC2:=go (bAy hI m te) [227,299,300,327,344] rC2 rfl (by kernel_rfl) (by kernel_rfl) ⟨r5,r5,r5,trivial⟩
def eV0(m:Int)(te:eX):=Wh prog (glZ m te) aSw (eC2 m te)
def dV0:FuncId->Bool:=fun f=>Nat.beq 309 f||dC2 f
theorem bCf(hI:Is)(m:Int)(te:eX):Lay prog (glZ m te) 40 (fun _ =>none) pV0 (eV0 m te) dV0:=by
 refine(bAz hI m te).known rX (c:=aSw) (by kernel_rfl) fun ts h=> ?_;obtain⟨t,r,rfl,g1,g2⟩:=(show pH [] [] [ifull] ts from h).inv_cons;have e:=g2.inv_nil;subst e;obtain⟨q,rfl,q1,q2⟩:=inv_int g1;obtain⟨y,k,n,e,hp,⟨y1,y2⟩,⟨k1,k2⟩,⟨n1,n2⟩,e1,e2⟩:=aEi m te q ⟨q1,q2⟩;refine⟨_,hp,fun I=> ?_⟩;have iv:∀(lo hi n:Int),lo<=n->n<=hi->0<=n->n<=10000-> @Gm I [] [] (.ival .i64 lo hi) (.int .i64 n):=fun lo hi n h1 h2 h3 h4=> @Gm.ival I [] [] _ _ _ _ h1 h2 (vO (by omega));have z:= @oT I [] [] _ _ _ _ (iv 0 9999 y y1 y2 (by omega) (by omega)) (@oT I [] [] _ _ _ _ (iv 0 12 k k1 k2 (by omega) (by omega)) (@oT I [] [] _ _ _ _ (iv 0 31 n n1 n2 (by omega) (by omega)) (@oT I [] [] _ _ _ _ (iv 0 255 e e1 e2 (by omega) (by omega)) (@vF I [] []))));exact @Gm.tup I [] [] _ _ z.1 z.2
def eL1:=nE gL1 eV0
def dL1:=nD gL1 dV0
theorem bBv(hI:Is)(m:Int)(te:eX):rB m te (pL1) (eL1 m te) dL1:=go (bCf hI m te) [310,311,329] rL1 rfl (by kernel_rfl) (by kernel_rfl) ⟨r5,trivial⟩
def eL2:=nE gL2 eL1
def dL2:=nD gL2 dL1
theorem bBw(hI:Is)(m:Int)(te:eX):rB m te (pL2) (eL2 m te) dL2:=go (bBv hI m te) [256] rL2 rfl (by kernel_rfl) (by kernel_rfl) ⟨r5,trivial⟩
def eL3:=nE gL3 eL2
def dL3:=nD gL3 dL2
theorem bBx(hI:Is)(m:Int)(te:eX):rB m te (pL3) (eL3 m te) dL3:=go (bBw hI m te) [257] rL3 rfl (by kernel_rfl) (by kernel_rfl) ⟨r5,trivial⟩
def eP9(m:Int)(te:eX):=knQ prog (glZ m te) 302 bGe (eL3 m te)
def dP9:FuncId->Bool:=fun f=>Nat.beq 302 f||dL3 f
theorem bCc(hI:Is)(m:Int)(te:eX):Lay prog (glZ m te) 40 (fun _ =>none) (kq 302 aNx pL3) (eP9 m te) dP9:=by
 refine(bBx hI m te).knownQ (f0:=302) (pq:=aNx) fun a n cs v hv ρ μ ts hs hg=> ?_;unfold aNx at hv;split at hv
 .rename_i s sb cb sd cd;split at hv
  .rename_i x c hl;split at hv
   .rename_i hle;cases hv;obtain⟨t1,r,rfl,g1,g2⟩:=hg.inv_cons;obtain⟨t2,r,rfl,g3,g4⟩:=g2.inv_cons;obtain⟨t3,r,rfl,g5,g6⟩:=g4.inv_cons;have e:=g6.inv_nil;subst e;obtain⟨l,w,rfl,e1,e2⟩:=wD hs.zero g1 hl;have hle:=oS hs.cs hle e1 hs.zero;cases g3 with
    |int _ _ _ vb hb kb=>
    cases g5 with
    |int _ _ _ vd hd kd=>
    have kb1:0<=vb+cb/\vb+cb<=255:=by
     have h1:=kb.1;have h2:=kb.2;simp[IntKind.min,IntKind.max,IntKind.bits,IntKind.signed]at h1 h2;omega
    refine⟨rfl,⟨_,bEl l _ _ kb1.1 kb1.2 (by omega),_,rfl,fun s hs=> ?_⟩,fun r hr=> ?_⟩
    .simp only[List.head?_cons,aD,T.str.injEq]at hs;subst hs;simp
    .obtain⟨s',rfl,q⟩:=hr;have:=q l rfl;exact .here hs (.str _ _ _ _ e1 (by omega))
   .cases hv
  .cases hv
 .cases hv
def eP0(m:Int)(te:eX):=Wh prog (glZ m te) aSu (eP9 m te)
def dP0:FuncId->Bool:=fun f=>Nat.beq 259 f||dP9 f
theorem bBz(hI:Is)(m:Int)(te:eX):Lay prog (glZ m te) 40 (fun _ =>none) pP0 (eP0 m te) dP0:=by
 refine(bCc hI m te).known rX (c:=aSu) (by kernel_rfl) fun ts h=> ?_;obtain⟨t,r,rfl,g1,g2⟩:=(show pH [] [] [xT] ts from h).inv_cons;have e:=g2.inv_nil;subst e;obtain⟨n,s,rfl,n1,s1⟩:=SV g1;obtain⟨t,e,hp,h1,h2,h3⟩:=aHv m te n s n1;refine⟨_,hp,fun I=> ?_⟩;have z:= @oT I [] [] _ _ _ _ (@Gm.strv I [] [] 0 40 t (by omega) (by omega)) (@oT I [] [] _ _ _ _ (@Gm.ival I [] [] .i64 0 255 e h2 h3 (vO (by omega))) (@vF I [] []));exact @Gm.tup I [] [] _ _ z.1 z.2
def eP1:=nE gP1 eP0
def dP1:=nD gP1 dP0
theorem bCa(hI:Is)(m:Int)(te:eX):rB m te (pP1) (eP1 m te) dP1:=go (bBz hI m te) [194] rP1 rfl (by kernel_rfl) (by kernel_rfl) ⟨r5,trivial⟩
end
end Go.Proofs.Tryz
namespace Go.Proofs.Tryz
open Go.Ps
theorem rA0:qZ prog gA0=true:=by kernel_rfl
theorem rA1:qZ prog gA1=true:=by kernel_rfl
theorem rA2:qZ prog gA2=true:=by kernel_rfl
theorem rA3:qZ prog gA3=true:=by kernel_rfl
end Go.Proofs.Tryz
namespace Go.Proofs.Tryz
open Go.Ps
theorem rA4:qZ prog gA4=true:=by kernel_rfl
theorem rA5:qZ prog gA5=true:=by kernel_rfl
theorem rF0:qZ prog gF0=true:=by kernel_rfl
theorem rB0:qZ prog gB0=true:=by kernel_rfl
theorem rF1:qZ prog gF1=true:=by kernel_rfl
theorem rB1:qZ prog gB1=true:=by kernel_rfl
theorem rF2:qZ prog gF2=true:=by kernel_rfl
theorem rB2:qZ prog gB2=true:=by kernel_rfl
theorem rF3:qZ prog gF3=true:=by kernel_rfl
theorem rB3:qZ prog gB3=true:=by kernel_rfl
theorem rF4:qZ prog gF4=true:=by kernel_rfl
theorem rB4:qZ prog gB4=true:=by kernel_rfl
theorem rF5:qZ prog gF5=true:=by kernel_rfl
theorem rB5:qZ prog gB5=true:=by kernel_rfl
theorem rEq:qZ prog gEq=true:=by kernel_rfl
end Go.Proofs.Tryz
namespace Go.Proofs.Tryz
open Go.Ps
variable[Inhabited Prd]
noncomputable section
theorem Ut:∀a b:List UInt8,-1<=Lib.compareBytes a b/\Lib.compareBytes a b<=1
 |[],[]=>by simp[Lib.compareBytes]|[],_ ::_ =>by simp[Lib.compareBytes]|_ ::_,[]=>by simp[Lib.compareBytes]
 |x::a,y::b=>by
  have:=Ut a b;unfold Lib.compareBytes
  repeat' split
  all_goals omega
def eQ5(m:Int)(te:eX):=Wh prog (glZ m te) c66 (eP1 m te)
def dQ5:FuncId->Bool:=fun f=>Nat.beq 66 f||dP1 f
theorem bCd(hI:Is)(m:Int)(te:eX):Lay prog (glZ m te) 40 (fun _ =>none) q5 (eQ5 m te) dQ5:=by
 refine(bCa hI m te).known rX (c:=c66) (by kernel_rfl) fun ts h=> ?_;obtain⟨t,r,rfl,g1,g2⟩:=(show pH [] [] [.strv 0 cBig,.strv 0 cBig] ts from h).inv_cons;obtain⟨u,r',rfl,g3,g4⟩:=g2.inv_cons;have e:=g4.inv_nil;subst e;obtain⟨a,rfl,_,_⟩:=VU g1;obtain⟨b,rfl,_,_⟩:=VU g3;have hp:oK prog (glZ m te) 66 [.str a,.str b] (.int .i64 (Lib.compareBytes a b)):=Mv (Rv (f:=66) (by rfl));have hb:=Ut a b;exact⟨_,hp,fun I=> @Gm.ival I [] [] _ _ _ _ (by omega) (by omega) (vO (by omega))⟩
def eQ6:=nE gQ6 eQ5
def dQ6:=nD gQ6 dQ5
theorem bCe(hI:Is)(m:Int)(te:eX):rB m te (q6) (eQ6 m te) dQ6:=go (bCd hI m te) [36] rQ6 rfl (by kernel_rfl) (by kernel_rfl) ⟨r5,trivial⟩
def eA0:=nE gA0 eQ6
def dA0:=nD gA0 dQ6
theorem bAl(hI:Is)(m:Int)(te:eX):rB m te (vQ 1) (eA0 m te) dA0:=go (bCe hI m te) [62] rA0 rfl (by kernel_rfl) (by kernel_rfl) ⟨r5,r5,r5,trivial⟩
def eA1:=nE gA1 eA0
def dA1:=nD gA1 dA0
theorem bAm(hI:Is)(m:Int)(te:eX):rB m te (vQ 2) (eA1 m te) dA1:=go (bAl hI m te) [62] rA1 rfl (by kernel_rfl) (by kernel_rfl) ⟨r5,r5,r5,r5,r5,r5,trivial⟩
def eA2:=nE gA2 eA1
def dA2:=nD gA2 dA1
theorem bAn(hI:Is)(m:Int)(te:eX):rB m te (vQ 3) (eA2 m te) dA2:=go (bAm hI m te) [62] rA2 rfl (by kernel_rfl) (by kernel_rfl) ⟨r5,r5,r5,r5,r5,r5,r5,r5,r5,trivial⟩
def eA3:=nE gA3 eA2
def dA3:=nD gA3 dA2
theorem bAo(hI:Is)(m:Int)(te:eX):rB m te (vQ 4) (eA3 m te) dA3:=go (bAn hI m te) [62] rA3 rfl (by kernel_rfl) (by kernel_rfl) ⟨r5,r5,r5,r5,r5,r5,r5,r5,r5,r5,r5,r5,trivial⟩
def eA4:=nE gA4 eA3
def dA4:=nD gA4 dA3
theorem bAp(hI:Is)(m:Int)(te:eX):rB m te (vQ 5) (eA4 m te) dA4:=go (bAo hI m te) [62] rA4 rfl (by kernel_rfl) (by kernel_rfl) ⟨r5,r5,r5,r5,r5,r5,r5,r5,r5,r5,r5,r5,r5,r5,r5,trivial⟩
def eA5:=nE gA5 eA4
def dA5:=nD gA5 dA4
theorem bAq(hI:Is)(m:Int)(te:eX):rB m te (vQ 6) (eA5 m te) dA5:=go (bAp hI m te) [62] rA5 rfl (by kernel_rfl) (by kernel_rfl) ⟨r5,r5,r5,r5,r5,r5,r5,r5,r5,r5,r5,r5,r5,r5,r5,r5,r5,r5,trivial⟩
end
end Go.Proofs.Tryz
namespace Go.Proofs.Tryz
open Go.Ps
theorem rPp:qZ prog gPp=true:=by kernel_rfl
theorem rE1:qZ prog gE1=true:=by kernel_rfl
theorem rE3:qZ prog gE3=true:=by kernel_rfl
theorem rPb:∀c∈lPb,xJ prog xPq [] 8 c=true:=aG.1 (by kernel_rfl)
end Go.Proofs.Tryz
namespace Go.Proofs.Tryz
open Go.Ps
variable[Inhabited Prd]
noncomputable section
def eF0:=nE gF0 eA5
def dF0:=nD gF0 dA5
theorem bBk(hI:Is)(m:Int)(te:eX):rB m te ((PY 0)) (eF0 m te) dF0:=go (bAq hI m te) [165,166,167] rF0 rfl (by kernel_rfl) (by kernel_rfl) ⟨r5,trivial⟩
def eB0:=nE gB0 eF0
def dB0:=nD gB0 dF0
theorem bAr(hI:Is)(m:Int)(te:eX):rB m te (wX 1) (eB0 m te) dB0:=go (bBk hI m te) [112] rB0 rfl (by kernel_rfl) (by kernel_rfl) ⟨r5,trivial⟩
def eF1:=nE gF1 eB0
def dF1:=nD gF1 dB0
theorem bBl(hI:Is)(m:Int)(te:eX):rB m te ((PY 1)) (eF1 m te) dF1:=go (bAr hI m te) [165,166,167] rF1 rfl (by kernel_rfl) (by kernel_rfl) ⟨r5,r5,trivial⟩
def eB1:=nE gB1 eF1
def dB1:=nD gB1 dF1
theorem bAs(hI:Is)(m:Int)(te:eX):rB m te (wX 2) (eB1 m te) dB1:=go (bBl hI m te) [112] rB1 rfl (by kernel_rfl) (by kernel_rfl) ⟨r5,r5,trivial⟩
def eF2:=nE gF2 eB1
def dF2:=nD gF2 dB1
theorem bBm(hI:Is)(m:Int)(te:eX):rB m te ((PY 2)) (eF2 m te) dF2:=go (bAs hI m te) [165,166,167] rF2 rfl (by kernel_rfl) (by kernel_rfl) ⟨r5,r5,r5,trivial⟩
def eB2:=nE gB2 eF2
def dB2:=nD gB2 dF2
theorem bAt(hI:Is)(m:Int)(te:eX):rB m te (wX 3) (eB2 m te) dB2:=go (bBm hI m te) [112] rB2 rfl (by kernel_rfl) (by kernel_rfl) ⟨r5,r5,r5,trivial⟩
def eF3:=nE gF3 eB2
def dF3:=nD gF3 dB2
theorem bBn(hI:Is)(m:Int)(te:eX):rB m te ((PY 3)) (eF3 m te) dF3:=go (bAt hI m te) [165,166,167] rF3 rfl (by kernel_rfl) (by kernel_rfl) ⟨r5,r5,r5,r5,trivial⟩
def eB3:=nE gB3 eF3
def dB3:=nD gB3 dF3
theorem bAu(hI:Is)(m:Int)(te:eX):rB m te (wX 4) (eB3 m te) dB3:=go (bBn hI m te) [112] rB3 rfl (by kernel_rfl) (by kernel_rfl) ⟨r5,r5,r5,r5,trivial⟩
def eF4:=nE gF4 eB3
def dF4:=nD gF4 dB3
theorem bBo(hI:Is)(m:Int)(te:eX):rB m te ((PY 4)) (eF4 m te) dF4:=go (bAu hI m te) [165,166,167] rF4 rfl (by kernel_rfl) (by kernel_rfl) ⟨r5,r5,r5,r5,r5,trivial⟩
def eB4:=nE gB4 eF4
def dB4:=nD gB4 dF4
theorem bAv(hI:Is)(m:Int)(te:eX):rB m te (wX 5) (eB4 m te) dB4:=go (bBo hI m te) [112] rB4 rfl (by kernel_rfl) (by kernel_rfl) ⟨r5,r5,r5,r5,r5,trivial⟩
def eF5:=nE gF5 eB4
def dF5:=nD gF5 dB4
theorem bBp(hI:Is)(m:Int)(te:eX):rB m te ((PY 5)) (eF5 m te) dF5:=go (bAv hI m te) [165,166,167] rF5 rfl (by kernel_rfl) (by kernel_rfl) ⟨r5,r5,r5,r5,r5,r5,trivial⟩
def eB5:=nE gB5 eF5
def dB5:=nD gB5 dF5
theorem bAw(hI:Is)(m:Int)(te:eX):rB m te (wX 6) (eB5 m te) dB5:=go (bBp hI m te) [112] rB5 rfl (by kernel_rfl) (by kernel_rfl) ⟨r5,r5,r5,r5,r5,r5,trivial⟩
def eEq:=nE gEq eB5
def dEq:=nD gEq dB5
theorem bBj(hI:Is)(m:Int)(te:eX):rB m te (q71) (eEq m te) dEq:=go (bAw hI m te) [71] rEq rfl (by kernel_rfl) (by kernel_rfl) ⟨r5,trivial⟩
def ePp:=nE gPp eEq
def dPp:=nD gPp dEq
theorem aRd(hI:Is)(m:Int)(te:eX):rB m te (qP0) (ePp m te) dPp:=go (bBj hI m te) tP0 rPp rfl (by kernel_rfl) (by kernel_rfl) ⟨r5,r5,r5,trivial⟩
end
end Go.Proofs.Tryz
namespace Go.Proofs.Tryz
open Go.Ps
theorem bDu:∀c∈[LJ],xJ prog xPn [] 8 c=true:=aG.1 (by kernel_rfl)
theorem bDw:∀c∈[LH],xJ prog xPm [] 8 c=true:=aG.1 (by kernel_rfl)
end Go.Proofs.Tryz
namespace Go.Proofs.Tryz
open Go.Ps
theorem bDv:∀c∈[LK],xJ prog xPn [] 8 c=true:=aG.1 (by kernel_rfl)
theorem bDx:∀c∈[LI],xJ prog xPm [] 8 c=true:=aG.1 (by kernel_rfl)
end Go.Proofs.Tryz
namespace Go.Proofs.Tryz
open Go.Ps
variable[Inhabited Prd]
noncomputable section
def ePq(m:Int)(te:eX):=EF prog (glZ m te) (ePp m te) xPq.own xPq.top 40 fun f=>(lPq).any fun c=>Nat.beq c.f f
def dPq:FuncId->Bool:=fun f=>((lPq).any fun c=>Nat.beq c.f f)||dPp f
structure Ip(m:Int)(te:eX):Prop where
 n:∀t:T,(default:Prd).q 10 t↔Yi prog (glZ m te) (ePp m te) xPq.own xPq.top 40 218 [t] (.bool false)/\pureT t
 y:∀t:T,(default:Prd).q 11 t↔Yi prog (glZ m te) (ePp m te) xPq.own xPq.top 40 218 [t] (.bool true)/\pureT t
theorem aXm(hI:Is)(m:Int)(te:eX):∀c∈lPb,tL prog (glZ m te) (ePp m te) xPq 40 c:=fun c hc=>
 ⟨(aG.1 (by kernel_rfl):∀c∈lPb,BT (pV qX) c.pre=true) c hc,fun ts ht=>xK ((aRd hI m te).cn (X:=xPq) rfl rfl (l:=[93,141,292]) rfl (by kernel_rfl)) rX (tab:=[]) (by simp) (rPb c hc) ht⟩
theorem inv_bool{ρ:fI}{μ:fB}{t:T}(h:Gm ρ μ (.bool rJ) t):∃b,t= .bool b:=by
 cases h with
 |bool _ b _ =>exact⟨b,rfl⟩
theorem aJs{ρ:fI}{μ:fB}{q:Nat}{e:A}{lo hi:Int}{t:T}(h:Gm ρ μ (.slv e lo hi) t)(hq:(default:Prd).q q t):Gm ρ μ (.slpv q e lo hi) t:=by
 obtain⟨xs,h1,h2,h3,h4⟩:=EM h;exact .slpv _ _ _ _ _ xs hq h1 h2 h3 h4
theorem aHx{ρ:fI}{μ:fB}{q:Nat}{e:A}{lo hi:Int}{t:T}(h:Gm ρ μ (.slpv q e lo hi) t):(default:Prd).q q t/\Gm ρ μ (.slv e lo hi) t:=by
 cases h with
 |slpv _ _ _ _ _ xs h0 h1 h2 h3 h4=>exact⟨h0,.slv _ _ _ _ xs h1 h2 h3 h4⟩
theorem WY(hI:Is)(m:Int)(te:eX)(hP:Ip m te){t:T}(h:Gm [] [] XK t):Gm [] [] (.slpv 10 (.agg zO) 0 100) t\/Gm [] [] (.slpv 11 (.agg zO) 0 100) t:=by
 obtain⟨r,r1,r2⟩:=(aXm hI m te aLu (by unfold lPb;simp)).2 [t] (oT h vF);obtain⟨b,rfl⟩:=inv_bool r2;have hp:pureT t:=MU (a:=XK) (by kernel_rfl) h;cases b
 .exact .inl (aJs h ((hP.n t).2 ⟨r1,hp⟩))
 .exact .inr (aJs h ((hP.y t).2 ⟨r1,hp⟩))
theorem bNn(hI:Is)(m:Int)(te:eX)(hP:Ip m te):∀c∈lPq,tL prog (glZ m te) (ePp m te) xPq 40 c:=by
 intro c hc;have hp:=(aG.1 (by kernel_rfl):∀c∈lPq,BT (pV qX) c.pre=true) c hc;simp only[lPq,aU,cB,or_false]at hc;rcases hc with rfl|rfl|rfl
 .refine⟨hp,fun ts ht=> ?_⟩;obtain⟨t,r,rfl,g1,g2⟩:=(show pH [] [] [.slpv 10 (.agg zO) 0 100] ts from ht).inv_cons;have e:=g2.inv_nil;subst e;exact⟨.bool false,((hP.n t).1 (aHx g1).1).1,.bool _ _ rfl⟩
 .refine⟨hp,fun ts ht=> ?_⟩;obtain⟨t,r,rfl,g1,g2⟩:=(show pH [] [] [.slpv 11 (.agg zO) 0 100] ts from ht).inv_cons;have e:=g2.inv_nil;subst e;exact⟨.bool true,((hP.y t).1 (aHx g1).1).1,.bool _ _ rfl⟩
 .exact aXm hI m te aLu (by unfold lPb;simp)
theorem aPq(hI:Is)(m:Int)(te:eX)(hP:Ip m te):∀c∈lPq,tL prog (glZ m te) (ePp m te) xPq 40 c:=(bNn hI m te hP)
theorem Lf(hI:Is)(m:Int)(te:eX)(hP:Ip m te):Lay prog (glZ m te) 40 (fun _ =>none) (qP1) (ePq m te) dPq:=
 (aRd hI m te).stepZ follows (qL m te) rX (X:=xPq) (tl:=[218,93,141,292]) rfl bLr (l:=lPq) (aPq hI m te hP)
def eP2(m:Int)(te:eX):=EF prog (glZ m te) (ePq m te) xPn.own xPn.top 40 fun f=>([LJ]++([LK]++([LH]++([LI]++([UF,UE]))))).any fun c=>Nat.beq c.f f
def dP2:FuncId->Bool:=fun f=>(([LJ]++([LK]++([LH]++([LI]++([UF,UE]))))).any fun c=>Nat.beq c.f f)||dPq f
theorem aQh(hI:Is)(m:Int)(te:eX)(hP:Ip m te):∀c∈[LJ],tL prog (glZ m te) (ePq m te) xPn 40 c:=fun c hc=>
 ⟨(aG.1 (by kernel_rfl):∀c∈[LJ],BT (pV qX) c.pre=true) c hc,fun ts ht=>xK ((Lf hI m te hP).cn (X:=xPn) rfl rfl (l:=[289,140]) rfl (by kernel_rfl)) rX (tab:=[]) (by simp) (bDu c hc) ht⟩
theorem aQi(hI:Is)(m:Int)(te:eX)(hP:Ip m te):∀c∈[LK],tL prog (glZ m te) (ePq m te) xPn 40 c:=fun c hc=>
 ⟨(aG.1 (by kernel_rfl):∀c∈[LK],BT (pV qX) c.pre=true) c hc,fun ts ht=>xK ((Lf hI m te hP).cn (X:=xPn) rfl rfl (l:=[289,140]) rfl (by kernel_rfl)) rX (tab:=[]) (by simp) (bDv c hc) ht⟩
theorem aQj(hI:Is)(m:Int)(te:eX)(hP:Ip m te):∀c∈[LH],tL prog (glZ m te) (ePq m te) xPn 40 c:=fun c hc=>
 ⟨(aG.1 (by kernel_rfl):∀c∈[LH],BT (pV qX) c.pre=true) c hc,fun ts ht=>xK ((Lf hI m te hP).cn (X:=xPm) rfl rfl (l:=[217,289,140]) rfl (by kernel_rfl)) rX (tab:=[]) (by simp) (bDw c hc) ht⟩
theorem aQk(hI:Is)(m:Int)(te:eX)(hP:Ip m te):∀c∈[LI],tL prog (glZ m te) (ePq m te) xPn 40 c:=fun c hc=>
 ⟨(aG.1 (by kernel_rfl):∀c∈[LI],BT (pV qX) c.pre=true) c hc,fun ts ht=>xK ((Lf hI m te hP).cn (X:=xPm) rfl rfl (l:=[217,289,140]) rfl (by kernel_rfl)) rX (tab:=[]) (by simp) (bDx c hc) ht⟩
theorem bNm(hI:Is)(m:Int)(te:eX)(hP:Ip m te):∀c∈[UF,UE],tL prog (glZ m te) (ePq m te) xPn 40 c:=by
 intro c hc;have hp:=(aG.1 (by kernel_rfl):∀c∈[UF,UE],BT (pV qX) c.pre=true) c hc;simp only[aU,cB,or_false]at hc;rcases hc with rfl|rfl
 .refine AF hp fun ts ht=> ?_;obtain⟨v,r,rfl,g1,g2⟩:=(show pH [] [] [vE,XK] ts from ht).inv_cons;obtain⟨t,r,rfl,g3,g4⟩:=g2.inv_cons;rcases WY hI m te hP g3 with h|h
  .exact⟨LJ,aQh hI m te hP _ (by simp),rfl,oT g1 (oT h g4),fun _ h=>h⟩
  .exact⟨LK,aQi hI m te hP _ (by simp),rfl,oT g1 (oT h g4),fun _ h=>h⟩
 .refine AF hp fun ts ht=> ?_;obtain⟨v,r,rfl,g1,g2⟩:=(show pH [] [] [vE,XK] ts from ht).inv_cons;obtain⟨t,r,rfl,g3,g4⟩:=g2.inv_cons;rcases WY hI m te hP g3 with h|h
  .exact⟨LH,aQj hI m te hP _ (by simp),rfl,oT g1 (oT h g4),fun _ h=>h⟩
  .exact⟨LI,aQk hI m te hP _ (by simp),rfl,oT g1 (oT h g4),fun _ h=>h⟩
theorem aP2(hI:Is)(m:Int)(te:eX)(hP:Ip m te):∀c∈[LJ]++([LK]++([LH]++([LI]++([UF,UE])))),tL prog (glZ m te) (ePq m te) xPn 40 c:=(cH.2 ⟨(aQh hI m te hP),(cH.2 ⟨(aQi hI m te hP),(cH.2 ⟨(aQj hI m te hP),(cH.2 ⟨(aQk hI m te hP),(bNm hI m te hP)⟩)⟩)⟩)⟩)
theorem bCb(hI:Is)(m:Int)(te:eX)(hP:Ip m te):Lay prog (glZ m te) 40 (fun _ =>none) (pE0) (eP2 m te) dP2:=
 (Lf hI m te hP).stepZ follows (qL m te) rX (X:=xPn) (tl:=[217,146,289,140]) rfl bLq (l:=[LJ]++([LK]++([LH]++([LI]++([UF,UE]))))) (aP2 hI m te hP)
def eE1:=nE gE1 eP2
def dE1:=nD gE1 dP2
theorem aGx(hI:Is)(m:Int)(te:eX)(hP:Ip m te):rB m te (pE1) (eE1 m te) dE1:=go (bCb hI m te hP) [214,216,144,229,294,225,232,233] rE1 rfl (by kernel_rfl) (by kernel_rfl) ⟨r5,trivial⟩
end
end Go.Proofs.Tryz
namespace Go.Proofs.Tryz
open Go.Ps
theorem rS1:∀s∈[SD],pX prog (xE 0) [] 4 s=true:=aG.1 (by kernel_rfl)
theorem rS2:∀s∈[ZQ],pX prog (xE 0) [SD] 4 s=true:=aG.1 (by kernel_rfl)
theorem rS3:∀s∈[aVo,aVq,aVr,aVp,Sr],pX prog (xE 0) [SD,ZQ] 4 s=true:=aG.1 (by kernel_rfl)
theorem rS4:∀s∈[Hr 0,Hr 1,Hr 2,Hs 0,Hs 1,Hs 2,XI 0,XI 1,XI 2],pX prog (xE 0) [SD,ZQ] 4 s=true:=aG.1 (by kernel_rfl)
theorem rU0:∀s∈(Mr.map (Ni 0)),pX prog (xE 0) [SD,ZQ,XI 0,Sr] 4 s=true:=aG.1 (by kernel_rfl)
theorem rU1:∀s∈(Mr.map (Ni 1)),pX prog (xE 0) [SD,ZQ,XI 1,Sr] 4 s=true:=aG.1 (by kernel_rfl)
theorem rU2:∀s∈(Mr.map (Ni 2)),pX prog (xE 0) [SD,ZQ,XI 2,Sr] 4 s=true:=aG.1 (by kernel_rfl)
theorem rN0:∀s∈[HG 0],pX prog (xE 0) (XJ 0::tE0) 4 s=true:=aG.1 (by kernel_rfl)
theorem rT0:∀s∈[KL 0],pX prog (xE 0) (HG 0::tE0) 4 s=true:=aG.1 (by kernel_rfl)
theorem rN1:∀s∈[HG 1],pX prog (xE 1) (XJ 1::tE0) 4 s=true:=aG.1 (by kernel_rfl)
theorem rT1:∀s∈[KL 1],pX prog (xE 1) (HG 1::tE0) 4 s=true:=aG.1 (by kernel_rfl)
theorem rN2:∀s∈[HG 2],pX prog (xE 2) (XJ 2::tE0) 4 s=true:=aG.1 (by kernel_rfl)
theorem rT2:∀s∈[KL 2],pX prog (xE 2) (HG 2::tE0) 4 s=true:=aG.1 (by kernel_rfl)
end Go.Proofs.Tryz
namespace Go.Proofs.Tryz
open Go.Ps
theorem rV0:∀s∈((GX 0).map (sEv 0)),pX prog (xE 0) (tEv 0) 4 s=true:=aG.1 (by kernel_rfl)
end Go.Proofs.Tryz
namespace Go.Proofs.Tryz
open Go.Ps
theorem rV1:∀s∈((GX 1).map (sEv 1)),pX prog (xE 1) (tEv 1) 4 s=true:=aG.1 (by kernel_rfl)
end Go.Proofs.Tryz
namespace Go.Proofs.Tryz
open Go.Ps
theorem rV2:∀s∈((GX 2).map (sEv 2)),pX prog (xE 2) (tEv 2) 4 s=true:=aG.1 (by kernel_rfl)
end Go.Proofs.Tryz
namespace Go.Proofs.Tryz
open Go.Ps
theorem rV3:∀s∈((GX 3).map (sEv 3)),pX prog (xE 3) (tEv 3) 4 s=true:=aG.1 (by kernel_rfl)
end Go.Proofs.Tryz
namespace Go.Proofs.Tryz
open Go.Ps
theorem r59:∀c∈Zw++Zx,xJ prog (xE 3) [XJ 3] 8 c=true:=aG.1 (by kernel_rfl)
end Go.Proofs.Tryz
namespace Go.Proofs.Tryz
open Go.Ps
variable[Inhabited Prd]
noncomputable section
def SE(m:Int)(te:eX)(s:AE):Prop:=FB (fun n d=>(tJ prog ⟨glZ m te,sB 40 (eE1 m te)⟩ (xE 0).own (xE 0).top n d).ee) s
theorem Nr(hI:Is){m:Int}{te:eX}(hP:Ip m te){d:Nat}{tab:List AE}(ht:∀s∈tab,SE m te s){s:AE}(hr:pX prog (xE d) tab 4 s=true):SE m te s:=
 Lay.smy (aGx hI m te hP) (X:=xE d) rfl rfl (il:=tE) rfl (by kernel_rfl) (tl:=tE) rfl (by kernel_rfl) ht hr (by kernel_rfl) (by kernel_rfl) rX
section
variable(hI:Is)(m:Int)(te:eX)(hP:Ip m te)
include hI hP
theorem se1:∀s∈[SD],SE m te s:=fun s h=>Nr hI hP (d:=0) (tab:=[]) (by simp) (rS1 s h)
theorem se2:∀s∈[SD,ZQ],SE m te s:=fun s h=>by
 simp only[aU,cB,or_false]at h;rcases h with rfl|rfl
 .exact se1 hI m te hP _ (by simp)
 .exact Nr hI hP (d:=0) (se1 hI m te hP) (rS2 _ (by simp))
theorem se3:∀s∈tE0,SE m te s:=fun s h=>by
 have h:s∈[SD,ZQ]++[aVo,aVq,aVr,aVp,Sr]:=h;rcases bZ.1 h with h|h
 .exact se2 hI m te hP s h
 .exact Nr hI hP (d:=0) (se2 hI m te hP) (rS3 s h)
theorem se4:∀s∈[Hr 0,Hr 1,Hr 2,Hs 0,Hs 1,Hs 2,XI 0,XI 1,XI 2],SE m te s:=fun s h=>Nr hI hP (d:=0) (se2 hI m te hP) (rS4 s h)
theorem se5{d:Nat}(h230:SE m te (XI d))(hr:∀s∈Mr.map (Ni d),pX prog (xE 0) [SD,ZQ,XI d,Sr] 4 s=true):∀s∈Mr.map (Ni d),SE m te s:=fun s h=>by
 refine Nr hI hP (d:=0) (fun q hq=> ?_) (hr s h);simp only[aU,cB,or_false]at hq;rcases hq with rfl|rfl|rfl|rfl
 .exact se2 hI m te hP _ (by simp)
 .exact se2 hI m te hP _ (by simp)
 .exact h230
 .exact se3 hI m te hP _ (by unfold tE0;simp)
theorem Hz{d:Nat}(hd:d<=3)(ht:∀s∈tEv d,SE m te s)(hr:∀s∈(GX d).map (sEv d),pX prog (xE d) (tEv d) 4 s=true):SE m te (XJ d):=by
 refine Dk fun ts μ hg=> ?_;obtain⟨p,r,rfl,g1,g2⟩:=(show pH [0] μ (.ptr 0 0::[.prd (100+d+1) (eA d)]) ts from hg).inv_cons;obtain⟨t,r,rfl,g3,g4⟩:=g2.inv_cons;obtain⟨k,hk,hg'⟩:=aTa hI (by omega) g3;exact⟨sEv d k,Nr hI hP ht (hr _ (dI hk)),rfl,rfl,oT g1 (oT hg' g4),fun _ h=>h⟩
theorem Ia{d:Nat}(hE:SE m te (XJ d))(hN:∀s∈[HG d],pX prog (xE d) (XJ d::tE0) 4 s=true)(hT:∀s∈[KL d],pX prog (xE d) (HG d::tE0) 4 s=true)
  (h2:SE m te (Hr d)) (h3:SE m te (Hs d)) (hU:∀s∈Mr.map (Ni d),SE m te s):∀s∈tEv (d+1),SE m te s:=by
 have hn:SE m te (HG d):=Nr hI hP (fun s h=>by
  rcases aU.1 h with rfl|h
  .exact hE
  .exact se3 hI m te hP s h) (hN _ (by simp))
 have ht:SE m te (KL d):=Nr hI hP (fun s h=>by
  rcases aU.1 h with rfl|h
  .exact hn
  .exact se3 hI m te hP s h) (hT _ (by simp))
 intro s h;have h:s∈tE0++[XJ d,HG d,KL d,Hr d,Hs d]++Mr.map (Ni d):=h;rcases bZ.1 h with h|h
 .rcases bZ.1 h with h|h
  .exact se3 hI m te hP s h
  .simp only[aU,cB,or_false]at h;rcases h with rfl|rfl|rfl|rfl|rfl
   .exact hE
   .exact hn
   .exact ht
   .exact h2
   .exact h3
 .exact hU s h
theorem aVw:SE m te (XJ 3):=by
 have m4:=se4 hI m te hP;have u0:=se5 hI m te hP (d:=0) (m4 _ (by simp)) rU0;have u1:=se5 hI m te hP (d:=1) (m4 _ (by simp)) rU1;have u2:=se5 hI m te hP (d:=2) (m4 _ (by simp)) rU2;have v0:=Hz hI m te hP (d:=0) (by omega) (se3 hI m te hP) rV0;have t1:=Ia hI m te hP v0 rN0 rT0 (m4 _ (by simp)) (m4 _ (by simp)) u0;have v1:=Hz hI m te hP (d:=1) (by omega) t1 rV1;have t2:=Ia hI m te hP v1 rN1 rT1 (m4 _ (by simp)) (m4 _ (by simp)) u1;have v2:=Hz hI m te hP (d:=2) (by omega) t2 rV2;have t3:=Ia hI m te hP v2 rN2 rT2 (m4 _ (by simp)) (m4 _ (by simp)) u2;exact Hz hI m te hP (d:=3) (by omega) t3 rV3
theorem a59:∀c∈Zw++Zx,tL prog (glZ m te) (eE1 m te) (xE 0) 40 c:=fun c hc=>
 ⟨(aG.1 (by kernel_rfl):∀c∈Zw++Zx,BT (pV qX) c.pre=true) c hc,fun ts ht=>xK ((aGx hI m te hP).cn (X:=xE 3) rfl rfl (l:=tE) rfl (by kernel_rfl)) rX (tab:=[XJ 3]) (fun s h=>by
  simp only[aU,cB,or_false]at h;subst h
  exact aVw hI m te hP) (r59 c hc) ht⟩
theorem u59:∀c∈[c59],tL prog (glZ m te) (eE1 m te) (xE 0) 40 c:=by
 intro c hc;simp only[aU,cB,or_false]at hc;subst hc;refine AF (by kernel_rfl) fun ts ht=> ?_;obtain⟨e,r,rfl,g1,g2⟩:=(show pH [] [] [.agg (eA 3),vE] ts from ht).inv_cons;have hp:pureT e:=MU (pureE 3 (by omega)) g1;have g1':=g1;cases g1' with
 |agg _ us h1 h2=>
 by_cases hv:VE 4 (.agg us)
 .exact⟨aYo,a59 hI m te hP _ (by unfold Zw Zx;simp),rfl,oT (.prd _ _ _ ((hI.v 4 _ (by omega)).2 ⟨hv,hp⟩) h1 h2) g2,fun _ h=>h⟩
 .refine⟨aYn,a59 hI m te hP _ (by unfold Zw Zx;simp),rfl,oT (.prd _ _ _ ((hI.b 4 _ (by omega)).2 ⟨hv,hp⟩) h1 h2) g2,fun r h=> ?_⟩;have h':Gm [0] [] (.tup [.agg (vA 0 0 0),YX]) r:=Gm.ext (fun j v h=>by simp at h) (fun j v h=>by simp at h) h;exact xR (ρ:=[0]) (μ:=[]) (cs:=[]) (fun q hq=>by simp at hq) rfl 0 0 qX _ (.tup [.agg (vT (uT 3) 5),CT]) r (by kernel_rfl) h'
end
def eE2(m:Int)(te:eX):=EF prog (glZ m te) (eE1 m te) (xE 0).own (xE 0).top 40 fun f=>l59.any fun c=>Nat.beq c.f f
def dE2:FuncId->Bool:=fun f=>(l59.any fun c=>Nat.beq c.f f)||dE1 f
theorem bLo:(tE:fN).all (fun f=>tY prog f&&zD prog f)=true:=by kernel_rfl
theorem bBh(hI:Is)(m:Int)(te:eX)(hP:Ip m te):Lay prog (glZ m te) 40 (fun _ =>none) pE2 (eE2 m te) dE2:=
 (aGx hI m te hP).stepZ follows (qL m te) rX (X:=xE 0) (tl:=tE) rfl bLo (l:=l59) (cH.2 ⟨(cH.1 (a59 hI m te hP)).1,cH.2 ⟨(cH.1 (a59 hI m te hP)).2,u59 hI m te hP⟩⟩)
def eE3:=nE gE3 eE2
def dE3:=nD gE3 dE2
theorem bBi(hI:Is)(m:Int)(te:eX)(hP:Ip m te):rB m te (pE3) (eE3 m te) dE3:=go (bBh hI m te hP) [30] rE3 rfl (by kernel_rfl) (by kernel_rfl) ⟨r5,trivial⟩
end
end Go.Proofs.Tryz
namespace Go.Proofs.Tryz
open Go.Ps
theorem rE4:qZ prog gE4=true:=by kernel_rfl
theorem rM1:qZ prog gM1=true:=by kernel_rfl
end Go.Proofs.Tryz
namespace Go.Proofs.Tryz
open Go.Ps
variable[Inhabited Prd]
noncomputable section
def eE4:=nE gE4 eE3
def dE4:=nD gE4 dE3
theorem aRc(hI:Is)(m:Int)(te:eX)(hP:Ip m te):rB m te (pN1) (eE4 m te) dE4:=go (bBi hI m te hP) tN rE4 rfl (by kernel_rfl) (by kernel_rfl) ⟨r5,trivial⟩
def eM1:=nE gM1 eE4
def dM1:=nD gM1 dE4
theorem bBy(hI:Is)(m:Int)(te:eX)(hP:Ip m te):rB m te (pM1) (eM1 m te) dM1:=go (aRc hI m te hP) [13,14] rM1 rfl (by kernel_rfl) (by kernel_rfl) ⟨r5,trivial⟩
end
end Go.Proofs.Tryz
namespace Go.Proofs.Tryz
open Go.Ps
end Go.Proofs.Tryz
namespace Go.Ps
section
variable{P:fA}{E:tW}{ee:fE}{yd:fG}{ow:fX}{n:Nat}
def bCy:List T->T
 |[t]=>t|ts=> .tup ts
theorem Kj{f:fT}{fn:Func}{c:Code}{args:eY}{H H':Hp}{t:T}(hf:P.funcs[f]? =some fn)(hb:fn.body=some c)(h:Vk P E ee yd ow n f args H=some (t,H')):
  ∃l,aIg P fn.results.toList (pD P E ee yd ow n none c (args++List.replicate (fn.ntmps-args.length) oL) H)=some l/\t=bCy l:=by
 unfold Vk at h;simp only[hf,hb]at h;generalize pD P E ee yd ow n none c (args++List.replicate (fn.ntmps-args.length) oL) H=o at h⊢;rcases o with _ |⟨x,fr,H1⟩
 .cases h
 .have key:∀{q:Option (List T)},(match q with|some [t]=>some (t,H1)|some ts=>some (.tup ts,H1)|none=>none)=some (t,H')->∃l,q=some l/\t=bCy l:=by
   intro q hq;rcases q with _ |_ |⟨a,_ |⟨b,r⟩⟩
   .cases hq
   .cases hq;exact⟨_,rfl,rfl⟩
   .cases hq;exact⟨_,rfl,rfl⟩
   .cases hq;exact⟨_,rfl,rfl⟩
  cases x<;>first
   |exact key h
   |cases h
theorem Ko{k:Nat}{H:Hp}{t:T}{b:Bool}(h:pF (k+1) H t=some (.bool b)):t= .bool b:=by
 cases t
 case bool=>cases h;rfl
 all_goals
  simp only[pF]at h
  repeat' split at h
  all_goals cases h
end
end Go.Ps
namespace Go.Proofs.Tryz
open Go.Ps
variable[Inhabited Prd]
theorem out{m:Int}{te:eX}{pa q:FuncId->List A->Nat->List pO->Option AV}{e:iA}{dom d:fZ}(h:rB m te pa (e m te) dom){g:wI}{gs:List wI}
  (h3:qZ prog (g::gs)=true) (h2:aEh dom (g::gs)=true) (h1:inG (fun _ =>none) pa g.1 (g::gs)) (hl:rB m te q (nE (g::gs) e m te) d) {c:qD} (hc:c∈FD (g::gs)) {ts:eY} (ht:pH [] [] c.pre ts):
  ∃r,oK prog (glZ m te) c.f ts r/\Gm [] [] c.res r:=
 Lay.exZ (X:=g.1) hl (qL m te) rX hc (aSl h rX h1 h2 h3 c hc) ht
theorem aJn(m:Int)(te:eX){ts:eY}(h:pH [] [] c8.pre ts):∃r,oK prog (glZ m te) 8 ts r/\Gm [] [] c8.res r:=
 out (aRe m te) rW8 (by kernel_rfl) ⟨r5,trivial⟩ (aGy m te) (c:=c8) (aR:c8∈[c8]) h
theorem aUu(m:Int)(te:eX){ts:eY}(h:pH [] [] c12.pre ts):∃r,oK prog (glZ m te) 12 ts r/\Gm [] [] c12.res r:=
 out (aGy m te) bDy (by kernel_rfl) ⟨r5,trivial⟩ (aUl m te) (c:=c12) (aR:c12∈[c12]) h
noncomputable def ltrI:List A:=[ifull,.slv ifull 0 cBig,ifull,.slv ifull 0 cBig]++vI 4++[txt cBig,txt cBig,ifull]
theorem aZn{es:List A}{x:T}(h:Gm [] [] (.agg es) x):∃ts,x= .agg ts/\pH [] [] es ts:=by
 cases h with
 |agg _ ts h1 h2=>exact⟨ts,rfl,h1,h2⟩
section
variable(hI:Is)(m:Int)(te:eX)(hP:Ip m te)
include hI hP
theorem aHm{ts:eY}(h:pH [] [] c13.pre ts):∃b,oK prog (glZ m te) 13 ts (.bool b)/\oK prog (glZ m te) 14 ts (.bool b):=by
 have ha:=aSl (aRc hI m te hP) rX (X:=xM) (gs:=gM1) ⟨r5,trivial⟩ (by kernel_rfl) rM1;have h13:=ha c13 (aR:c13∈[c13,c14]);have h14:=ha c14 (aJ _ aR:c14∈[c13,c14]);obtain⟨r,a1,a2⟩:=h13.2 ts h;obtain⟨r',b1,b2⟩:=h14.2 ts h;obtain⟨b,rfl⟩:=inv_bool a2;obtain⟨b',rfl⟩:=inv_bool b2;have hb:b=b':=by
  obtain⟨k1,m1⟩:=a1;obtain⟨k2,m2⟩:=b1;have e1:=m1 (k1+k2) (k1+k2+1) (by omega) (by omega);have e2:=m2 (k1+k2) (k1+k2+1) (by omega) (by omega);unfold Ps.pureE at e1 e2;split at e1
  .rename_i t1 H1 f1;split at e2
   .rename_i t2 H2 f2;have f1:Vk prog ⟨glZ m te,sB 40 (eE4 m te)⟩ (tJ prog ⟨glZ m te,sB 40 (eE4 m te)⟩ xM.own xM.top (k1+k2) (k1+k2)).ee (tJ prog ⟨glZ m te,sB 40 (eE4 m te)⟩ xM.own xM.top (k1+k2) (k1+k2)).yd (fun _ =>true) (k1+k2) 13 ts ⟨0,.nl⟩=some (t1,H1):=f1;have f2:Vk prog ⟨glZ m te,sB 40 (eE4 m te)⟩ (tJ prog ⟨glZ m te,sB 40 (eE4 m te)⟩ xM.own xM.top (k1+k2) (k1+k2)).ee (tJ prog ⟨glZ m te,sB 40 (eE4 m te)⟩ xM.own xM.top (k1+k2) (k1+k2)).yd (fun _ =>true) (k1+k2) 14 ts ⟨0,.nl⟩=some (t2,H2):=f2;obtain⟨l1,g1,rfl⟩:=Kj func13 (c:=oZ f13) (by kernel_rfl) f1;obtain⟨l2,g2,rfl⟩:=Kj func14 (c:=oZ f14) (by kernel_rfl) f2;have hl:ts.length=2:=h.1.symm;have key:=bNh ⟨glZ m te,sB 40 (eE4 m te)⟩ _ _ (fun _ =>true) _ rfl (ts++List.replicate (72-ts.length) oL) ⟨0,.nl⟩ l1 l2 (by simp[hl]) g1 g2;subst key;have c1:=Ko (k:=39) e1;have c2:=Ko (k:=39) e2;rw[c1]at c2;exact T.bool.inj c2
   .cases e2
  .cases e1
 subst hb;have hp:∀{f:fT},((FD gM1).any fun c=>Nat.beq c.f f)=true->Yi prog (glZ m te) (eE4 m te) xM.own xM.top 40 f ts (.bool b)->oK prog (glZ m te) f ts (.bool b):=fun{f} hf ha=>
  (bBy hI m te hP).pure (qL m te) (VB (tab:=fun f=>(FD gM1).any fun c=>Nat.beq c.f f) hf ha) (wF _ fun x hx=>by
   obtain⟨a,h1,h2⟩:=wA h.1 h.2 hx
   exact CD qX a x (qB h13.1 a h1) h2 40 rX)
 exact⟨b,hp (f:=13) (by kernel_rfl) a1,hp (f:=14) (by kernel_rfl) b1⟩
end
end Go.Proofs.Tryz
namespace Go.Proofs.Tryz
open Go.Ps
variable[Inhabited Prd]
noncomputable section
instance:Inhabited Lr:=⟨⟨0,0,fun _ =>oL,0,0,fun _ =>oL,default,[],[],0⟩⟩
theorem aJh(b:hX):∀k j,(SF b k j).length<=k
 |0,_ =>aZ 0
 |k+1,j=>by
  have:=aJh b k (j+1);unfold SF;split
  .simp only[bL];omega
  .omega
theorem Sx(b:hX):∀k j,∀i∈SF b k j,i<j+k
 |0,_,i,h=>by simp[SF]at h
 |k+1,j,i,h=>by
  unfold SF at h;split at h
  .rcases aU.1 h with h|h
   .omega
   .have:=Sx b k (j+1) i h;omega
  .have:=Sx b k (j+1) i h;omega
def cM(m:Int)(te:eX)(x:T):Lr:=
 open Classical in if h:∃y:Lr,LB y/\Gm [] [] (.agg ([ifull,.slv ifull 0 6,ifull,.slv ifull 0 6]++vA 40 6 4)) (.agg y.m)/\oK prog (glZ m te) 12 [x] (.agg y.m)then Classical.choose h else default
theorem aYp(m:Int)(te:eX){x:T}(h:pH [] [] c12.pre [x]):LB (cM m te x)/\Gm [] [] (.agg ([ifull,.slv ifull 0 6,ifull,.slv ifull 0 6]++vA 40 6 4)) (.agg (cM m te x).m)/\oK prog (glZ m te) 12 [x] (.agg (cM m te x).m):=by
 obtain⟨r,h1,h2⟩:=aUu m te h;obtain⟨y,k1,_,k2,k3⟩:=aHr (show Gm [] [] (.agg ([ifull,.slv ifull 0 6,ifull,.slv ifull 0 6]++vA 40 6 4)) r from h2) [] [] 0;have hex:∃y:Lr,LB y/\Gm [] [] (.agg ([ifull,.slv ifull 0 6,ifull,.slv ifull 0 6]++vA 40 6 4)) (.agg y.m)/\oK prog (glZ m te) 12 [x] (.agg y.m):=⟨y,k1,k2,h1.mono k3⟩;unfold cM;rw[dif_pos hex];exact cO hex
section
variable(hI:Is)(m:Int)(te:eX)(hP:Ip m te)
include hI hP
theorem law6_ok{t:T}(ht:pH [] [] c8.pre [t]){fl:Bool}{K:Nat}{x:Nat->Li}(hx:∀j,j<K->pH [] [] ltrI (x j).c):oK prog (glZ m te) 6 [.slf fl K fun j=>(x j).t,t] (.bool true):=by
 obtain⟨s,hs,gs⟩:=aJn m te ht;obtain⟨a,ga,ra⟩:=aFu (show Gm [] [] (.agg [txt 100,txt 100,ifull,ifull,.slv (.agg (eA 3)) 0 8]) s from gs);have hs:=hs.mono ra;have hm:∀j,j<K->pH [] [] c12.pre [(x j).m]:=fun j hj=>by
  have gl:=hx j hj
  exact oT (AL ⟨rfl,fun i a t ha ht=>gl.2 i a t (by
   rw[show ltrI=([ifull,.slv ifull 0 cBig,ifull,.slv ifull 0 cBig]++vI 4)++[txt cBig,txt cBig,ifull]from rfl]
   rw[dD (aK.1 ha).1];exact ha) (by
   have hi:i<10:=(aK.1 ht).1
   rw[show(x j).c=[(x j).p0,(x j).p1,(x j).p2,(x j).p3,(x j).p4,(x j).p5,(x j).p6,(x j).p7,(x j).p8,(x j).p9]++[.str (x j).node,.str (x j).text,.int .i64 (x j).ver]from rfl,dD hi];exact ht)⟩) vF
 generalize hc:cM m te=c;have hcm:=fun j hj=>hc▸aYp m te (hm j hj);have h15:=Ro m te (c:=c) (x:=x) (K:=K) fl (fun j hj=>(hcm j (by omega)).2.2) (fun j hj=>AP (hx j (by omega)) (by kernel_rfl));generalize hn:min K 12=n at h15;generalize hw:(fun j=>aMk c (x j))=w at h15;have hLB:∀j,j<n->LB (w j):=fun j hj=>by
  have h:=(hcm j (by omega)).1;rw[<-hw];exact⟨h.np,h.no,h.p,h.o,h.b⟩
 have hlt:∀j,j<n->pH [] [] c13.pre [xG a,xZ w j]:=fun j hj=>by
  have g1:=Rb (hcm j (by omega)).2.1;have gl:=hx j (by omega)
  have g3:pH [] [] [txt cBig,txt cBig,ifull] [.str (x j).node,.str (x j).text,.int .i64 (x j).ver]:=⟨rfl,fun i a t ha ht=>gl.2 (10+i) a t (by
   rw[show ltrI=([ifull,.slv ifull 0 cBig,ifull,.slv ifull 0 cBig]++vI 4)++[txt cBig,txt cBig,ifull]from rfl]
   exact(dL (by exact Nat.le_add_right 10 i)).trans (by rw[show 10+i-([ifull,A.slv ifull 0 cBig,ifull,.slv ifull 0 cBig]++vI 4).length=i from Nat.add_sub_cancel_left 10 i];exact ha)) (by
   rw[show(x j).c=[(x j).p0,(x j).p1,(x j).p2,(x j).p3,(x j).p4,(x j).p5,(x j).p6,(x j).p7,(x j).p8,(x j).p9]++[.str (x j).node,.str (x j).text,.int .i64 (x j).ver]from rfl]
   exact(dL (by exact Nat.le_add_right 10 i)).trans (by rw[show 10+i-[(x j).p0,(x j).p1,(x j).p2,(x j).p3,(x j).p4,(x j).p5,(x j).p6,(x j).p7,(x j).p8,(x j).p9].length=i from Nat.add_sub_cancel_left 10 i];exact ht))⟩
  refine oT ga (oT (AL (show pH [] [] aUo _ from ?_)) vF);rw[<-hw];exact g1.app g3
 have hb:∀j,j<n->oK prog (glZ m te) 13 [xG a,xZ w j] (.bool (YW m te (xG a) (xZ w j)))/\oK prog (glZ m te) 14 [xG a,xZ w j] (.bool (YW m te (xG a) (xZ w j))):=fun j hj=>by
  obtain⟨b,h1,h2⟩:=aHm hI m te hP (hlt j hj);cases e:YW m te (xG a) (xZ w j)with
  |true=>exact pT.1 e
  |false=>
   cases b with
   |false=>exact⟨h1,h2⟩
   |true=>
    have:YW m te (xG a) (xZ w j)=true:=pT.2 ⟨h1,h2⟩;rw[e]at this;cases this
 have hL:Ls m te a n w:=⟨by omega,fun j hj=>(hb j hj).1⟩;obtain⟨ts,rfl,gt⟩:=aZn (show Gm [] [] (.agg [txt cBig,txt cBig,ifull,ifull,.slv (.agg (eI 3)) 0 cBig]) t from ht.head);have h5:ts.length=5:=by rw[<-gt.1];rfl
 match ts,h5 with
 |[a0,a1,a2,a3,a4],_ =>
 have hit:=bKw hL;generalize hS:SF (fun i=>YW m te (xG a) (xZ w i)) n 0=S at hit;have hSl:S.length<=n:=hS▸aJh _ n 0;have hSm:∀i∈S,i<n:=fun i hi=>by have:=Sx _ n 0 i (hS▸hi);omega
 obtain⟨v,hvj⟩:∃v:Nat->Lr,∀j,v j=w (S.getD j 0):=⟨_,fun j=>rfl⟩;have hg:∀j i,S[j]? =some i->v j=w i:=fun j i h=>by rw[hvj,aX,h];rfl
 have hxs:S.map (fun i=>[xZ w i])=Tn S.length v:=by
  refine List.ext_getElem (by simp[Tn]) fun i h1 h2=> ?_;have hi:i<S.length:=by simpa using h1
  simp only[Tn,List.getElem_map,List.getElem_range,xZ,hg i _ (aC hi)]
 rw[hxs]at hit;have h17:=(aBg m te a n w v (by omega) hit (fun j hj=>aMj m te (by rw[hg j _ (aC hj)];exact hLB _ (hSm _ (bV hj))))).mono (r':= .slf false S.length fun i=>xZ v i) fun g u h=>by
  have e:aIt S.length v=rsL S.length fun i=>xZ v i:=by cases S.length<;>rfl
  rw[e]at h;exact QE (fun j _ c hc=>by simp[T.cells,xZ,Lr.c]at hc;rcases hc with rfl|rfl|rfl|rfl|rfl|rfl|rfl|rfl|rfl|rfl|rfl|rfl|rfl<;>rfl) h
 exact c6 (q:=⟨fl,K,x,a0,a1,a2,a3,a4,a,n,w,S.length,v⟩) ⟨by show n<=12;omega,hs,h15,h17,fun i hi=>(hb i hi).2,fun i hi=>aPl m te (hLB i hi),by rw[<-hS];rfl,fun c i h=>hg c i (by rw[<-hS];exact h)⟩ (by
  have e:mapO (pF 40 ⟨0,.nl⟩) [.agg [a0,a1,a2,a3,a4]]=some [.agg [a0,a1,a2,a3,a4]]:=wF _ fun x hx=>by
   obtain⟨b,h1,h2⟩:=wA ht.1 ht.2 hx;exact CD qX b x (qB (show BT (pV qX) c8.pre=true by kernel_rfl) b h1) h2 40 rX
  have e1:pF 40 ⟨0,.nl⟩ (.agg [a0,a1,a2,a3,a4])=some (.agg [a0,a1,a2,a3,a4]):=by
   simp only[mapO]at e;cases h:pF 40 ⟨0,.nl⟩ (.agg [a0,a1,a2,a3,a4])with
   |none=>rw[h]at e;cases e|some z=>rw[h]at e;simp at e;rw[e]
  have e0:pF 40 ⟨0,.nl⟩ (.slf fl K fun j=>(x j).t)=some (.slf fl K fun j=>(x j).t):=by kernel_rfl
  show mapO (pF 40 ⟨0,.nl⟩) [.slf fl K fun j=>(x j).t,.agg [a0,a1,a2,a3,a4]]=_;simp only[mapO,e0,e1]
  rfl)
end
end
end Go.Proofs.Tryz
