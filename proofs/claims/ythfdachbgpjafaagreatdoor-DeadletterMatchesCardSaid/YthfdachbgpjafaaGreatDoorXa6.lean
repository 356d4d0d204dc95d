/- Texts merged: Mka, Mkb, Mkc, Mkd, Mkt, Mla, Va, Mlb, Mke, Df, Vl, Vs, Cal, Na, N2, Nb, N3, Nc, N4, Nd, N5, N6, N7, Nk, Mld, Sw, Mle, Mkf, Mkg, Mlf, Mkh, Mlg, Mki, Mkj, Mlh, Mkl, Mkm, Mkn, Mko, Mkp, Mkq, Mlk, Mkr, Mlr, Mks, Mls, Lx, Fm2, Lm. -/
import Derived.Test.YthfdachbgpjafaaGreatDoorXa5
import Derived.Test.YthfdachbgpjafaaGreatDoorXa4
import Derived.Test.YthfdachbgpjafaaGreatDoorXa2
import Derived.Shelf.Strings.Repeat
import Derived.Shelf.Unicode.DecodeAny
import Derived.Test.YthfdachbgpjafaaGreatDoorProg
import Derived.KernelRfl
import Derived.Lib.TrimU
import Derived.Test.YthfdachbgpjafaaGreatDoorXa1
import Derived.WalkMore
import Derived.Tactics
import Derived.Tactics2
import Derived.StillTactics
import Derived.Laws.IdiomStrings
import Derived.Laws.OwnMore
import Derived.Laws.Cells
import Derived.Laws.NewBlocks
import Derived.Laws.Rows
set_option linter.unusedSimpArgs false
set_option linter.unusedVariables false
set_option linter.unusedSectionVars false
namespace Go.Proofs.Tryz
open Go.Ps
set_option maxRecDepth 100000
theorem rK1:runG prog gK1=true:=by kernel_rfl
theorem rKq:runG prog gKq=true:=by kernel_rfl
end Go.Proofs.Tryz
namespace Go.Proofs.Tryz
open Go.Ps
set_option maxRecDepth 100000
theorem rKr:runG prog gKr=true:=by kernel_rfl
end Go.Proofs.Tryz
namespace Go.Proofs.Tryz
open Go.Ps
set_option maxRecDepth 100000
theorem rK3:runG prog gK3=true:=by kernel_rfl
theorem rK4:runG prog gK4=true:=by kernel_rfl
end Go.Proofs.Tryz
namespace Go.Proofs.Tryz
open Go.Ps
set_option maxRecDepth 100000
theorem ry0:∀s∈[sAny 0],smyRun prog (cCk anK pK4) (tCk 0) 4 s=true:=List.all_eq_true.1 (by kernel_rfl)
theorem rx0:∀s∈(sRoot 0),smyRun prog (cCk anK pK4) (tCk 0) 4 s=true:=List.all_eq_true.1 (by kernel_rfl)
theorem ry1:∀s∈[sAny 1],smyRun prog (cCk anK pK4) (tCk 1) 4 s=true:=List.all_eq_true.1 (by kernel_rfl)
theorem rx1:∀s∈(sRoot 1),smyRun prog (cCk anK pK4) (tCk 1) 4 s=true:=List.all_eq_true.1 (by kernel_rfl)
theorem ry2:∀s∈[sAny 2],smyRun prog (cCk anK pK4) (tCk 2) 4 s=true:=List.all_eq_true.1 (by kernel_rfl)
theorem rx2:∀s∈(sRoot 2),smyRun prog (cCk anK pK4) (tCk 2) 4 s=true:=List.all_eq_true.1 (by kernel_rfl)
theorem ry3:∀s∈[sAny 3],smyRun prog (cCk anK pK4) (tCk 3) 4 s=true:=List.all_eq_true.1 (by kernel_rfl)
theorem rx3:∀s∈(sRoot 3),smyRun prog (cCk anK pK4) (tCk 3) 4 s=true:=List.all_eq_true.1 (by kernel_rfl)
theorem rk0:∀s∈(sKid 0),smyRun prog (cCk anKu pK4) (tCk 1) 4 s=true:=List.all_eq_true.1 (by kernel_rfl)
theorem rk1:∀s∈(sKid 1),smyRun prog (cCk anKu pK4) (tCk 2) 4 s=true:=List.all_eq_true.1 (by kernel_rfl)
theorem rk2:∀s∈(sKid 2),smyRun prog (cCk anKu pK4) (tCk 3) 4 s=true:=List.all_eq_true.1 (by kernel_rfl)
theorem r28:∀c∈l28,ctRunZ prog (cCk anK pK4) (tCk 4) 8 c=true:=List.all_eq_true.1 (by kernel_rfl)
end Go.Proofs.Tryz
namespace Go.Proofs.Tryz
open Go.Ps
set_option maxRecDepth 100000
theorem okD4:([215,221,228,224,287,301,295]:List Nat).all (fun f=>okFn prog f&&fnOk2 prog f)=true:=by kernel_rfl
theorem okD6:([222,223,287,301]:List Nat).all (fun f=>okFn prog f&&fnOk2 prog f)=true:=by kernel_rfl
theorem okD9:([219]:List Nat).all (fun f=>okFn prog f&&fnOk2 prog f)=true:=by kernel_rfl
theorem okPq:([218,93,141,292]:List Nat).all (fun f=>okFn prog f&&fnOk2 prog f)=true:=by kernel_rfl
theorem okP2:([217,146,289,140]:List Nat).all (fun f=>okFn prog f&&fnOk2 prog f)=true:=by kernel_rfl
end Go.Proofs.Tryz
namespace Go.Proofs.Tryz
open Go.Ps
set_option maxRecDepth 100000
variable[Inhabited Prd]
noncomputable section
theorem dep40:dep≤40:=by decide
def dZ:FuncId→Bool:=fun f=>memN f [115,207,208,56,40]
def eZ(m:Int)(te:TypeId):FuncId→List T→Option T:=peZ
theorem gaNo{gl:Nat→Option T}:GlA gl (fun _ =>none):=fun g a h=>by cases h
theorem layZ(m:Int)(te:TypeId):Lay prog (glZ m te) 40 (fun _ =>none) peS (eZ m te) dZ:=by
 refine⟨gaNo,peS_ok,peZ_ok m te,fun f ts h=> ?_,xeG_ok _⟩;have hn:∀k,memN k [115,207,208,56,40]=true→f≠k:=fun k hk e=>by subst e;rw[show dZ f=memN f [115,207,208,56,40]from rfl,hk]at h;cases h
 unfold eZ peZ;rw[if_neg (hn 115 rfl),if_neg (hn 207 rfl),if_neg (hn 208 rfl),if_neg (hn 56 rfl),if_neg (hn 40 rfl)]
abbrev LayT(m:Int)(te:TypeId):=Lay prog (glZ m te) 40 (fun _ =>none)
def nE(gs:List Grp)(e:Int→TypeId→FuncId→List T→Option T)(m:Int)(te:TypeId):FuncId→List T→Option T:=extP prog (glZ m te) (e m te) (ownG gs) (topG gs) 40 fun f=>(flatG gs).any fun c=>Nat.beq c.f f
def nD(gs:List Grp)(d:FuncId→Bool):FuncId→Bool:=fun f=>((flatG gs).any fun c=>Nat.beq c.f f)||d f
theorem go{m:Int}{te:TypeId}{pa:FuncId→List A→Nat→List Con→Option AV}{e:Int→TypeId→FuncId→List T→Option T}{dom:FuncId→Bool}(h:LayT m te pa (e m te) dom){g:Grp}{gs:List Grp}(tl:List Nat)
  (h3:runG prog (g::gs)=true) (ht:g.1.top=fun f=>memN f tl) (htl:tl.all (fun f=>okFn prog f&&fnOk2 prog f)=true) (h2:chkG dom (g::gs)=true) (h1:inG (fun _ =>none) pa g.1 (g::gs)):
  LayT m te (peTab (flatG (g::gs)) pa) (nE (g::gs) e m te) (nD (g::gs) dom):=
 Lay.go h follows (glZFrz m te) dep40 tl ht htl h1 h2 h3
def eK1:=nE gK1 eZ
def dK1:=nD gK1 dZ
theorem layK1(m:Int)(te:TypeId):LayT m te (pK1) (eK1 m te) dK1:=go (layZ m te) [209] rK1 rfl (by kernel_rfl) (by kernel_rfl) ⟨r5,trivial⟩
def eKq:=nE gKq eK1
def dKq:=nD gKq dK1
theorem layKq(m:Int)(te:TypeId):LayT m te (pKq) (eKq m te) dKq:=go (layK1 m te) [270,273,275] rKq rfl (by kernel_rfl) (by kernel_rfl) ⟨r5,trivial⟩
def eKr:=nE gKr eKq
def dKr:=nD gKr dKq
theorem layKr(m:Int)(te:TypeId):LayT m te (pKr) (eKr m te) dKr:=go (layKq m te) [26,27,60,205,317,269,271,272,274,276,277,278,279,280,281] rKr rfl (by kernel_rfl) (by kernel_rfl) ⟨r5,trivial⟩
def eK3:=nE gK3 eKr
def dK3:=nD gK3 dKr
theorem layK3(m:Int)(te:TypeId):LayT m te (pK3) (eK3 m te) dK3:=go (layKr m te) [137,203,204,282,283,92,139,140,197,206,262] rK3 rfl (by kernel_rfl) (by kernel_rfl) ⟨r5,r5,trivial⟩
def eK4:=nE gK4 eK3
def dK4:=nD gK4 dK3
theorem layK4(m:Int)(te:TypeId):LayT m te (pK4) (eK4 m te) dK4:=go (layK3 m te) [58,88,89,90,91,93,94,138,141] rK4 rfl (by kernel_rfl) (by kernel_rfl) ⟨r5,r5,trivial⟩
end
end Go.Proofs.Tryz
namespace Go.Proofs.Tryz
open Go.Ps
set_option maxRecDepth 100000
def pureT(t:T):Prop:=∀(k:Nat) (H:Hp),20≤k→frzT k H t=some t
def VE:Nat→T→Prop
 |0,_ =>False
 |d+1,t=>∃(k:Int) (x y v a:T) (vs es:List T),t= .agg [.int .i64 k,x,y,v,a]∧IsSl v vs∧IsSl a es∧1≤k∧k≤28∧lowE k≤(es.length:Int)∧(k=1→vs.length=1)∧∀u∈es,VE d u
theorem isSl_eq{t:T}{xs ys:List T}(h:IsSl t xs)(h':IsSl t ys):xs=ys:=by
 rcases h with⟨rfl,rfl⟩|⟨f,rfl⟩|⟨full,n,f,rfl,rfl⟩<;>rcases h' with⟨h,rfl⟩|⟨f',h⟩|⟨full',n',f',h,rfl⟩<;>cases h<;>rfl
variable[Inhabited Prd]
def okN(x:T):Prop:=∃n s:Int,x= .agg [.int .i64 n,.int .i64 s]∧-999999999999999≤n∧n≤999999999999999∧0≤s∧s≤12
def badNs(t:T):Prop:=∃xs,IsSl t xs∧∃x∈xs,¬okN x
structure Is:Prop where
 n:∀t:T,(default:Prd).q 20 t↔badNs t∧pureT t
 v:∀(d:Nat) (t:T),d≤5→((default:Prd).q (100+d) t↔VE d t∧pureT t)
 b:∀(d:Nat) (t:T),d≤5→((default:Prd).q (200+d) t↔¬VE d t∧pureT t)
variable{ρ:List Int}{μ:List (Option Nat)}
theorem pure_of{a:A}{t:T}(h:pureA 20 a=true)(hg:Gm ρ μ a t):pureT t:=fun k H hk=>frz_id 20 a t h hg k hk
theorem agg_of{es:List A}{ts:List T}(h:GmL ρ μ es ts):Gm ρ μ (.agg es) (.agg ts):= .agg es ts h.1 h.2
theorem gml_cons{a:A}{es:List A}{t:T}{ts:List T}(h:Gm ρ μ a t)(h':GmL ρ μ es ts):GmL ρ μ (a::es) (t::ts):=by
 refine⟨by simp[h'.1],fun j x y hx hy=> ?_⟩;cases j with
 |zero=>cases hx;cases hy;exact h
 |succ j=>exact h'.2 j x y (by simpa using hx) (by simpa using hy)
theorem gml_nil:GmL ρ μ [] []:=⟨rfl,fun j x y hx hy=>by simp at hx⟩
theorem inv_e{o sx st va ar:A}{t:T}(h:Gm ρ μ (.agg [o,sx,st,va,ar]) t):∃x0 x1 x2 x3 x4,t= .agg [x0,x1,x2,x3,x4]∧Gm ρ μ o x0∧Gm ρ μ sx x1∧Gm ρ μ st x2∧Gm ρ μ va x3∧Gm ρ μ ar x4:=by
 cases h with
 |agg _ ts h1 h2=>
 obtain⟨a0,r0,rfl,g0,h⟩:=(show GmL ρ μ _ ts from⟨h1,h2⟩).inv_cons;obtain⟨a1,r1,rfl,g1,h⟩:=h.inv_cons;obtain⟨a2,r2,rfl,g2,h⟩:=h.inv_cons;obtain⟨a3,r3,rfl,g3,h⟩:=h.inv_cons;obtain⟨a4,r4,rfl,g4,h⟩:=h.inv_cons;obtain rfl:=h.inv_nil;exact⟨a0,a1,a2,a3,a4,rfl,g0,g1,g2,g3,g4⟩
theorem mk_e{o sx st va ar:A}{x0 x1 x2 x3 x4:T}(g0:Gm ρ μ o x0)(g1:Gm ρ μ sx x1)(g2:Gm ρ μ st x2)(g3:Gm ρ μ va x3)(g4:Gm ρ μ ar x4):Gm ρ μ (.agg [o,sx,st,va,ar]) (.agg [x0,x1,x2,x3,x4]):=
 agg_of (gml_cons g0 (gml_cons g1 (gml_cons g2 (gml_cons g3 (gml_cons g4 gml_nil)))))
theorem inv_int{t:T}(h:Gm ρ μ ifull t):∃n:Int,t= .int .i64 n∧-9223372036854775808≤n∧n≤9223372036854775807:=by
 unfold ifull at h;cases h with
 |ival _ _ _ n h1 h2 h3=>exact⟨n,rfl,h1,h2⟩
theorem mk_int{n lo hi:Int}(h1:lo≤n)(h2:n≤hi)(h3:-9223372036854775808≤n)(h4:n≤9223372036854775807):Gm ρ μ (.ival .i64 lo hi) (.int .i64 n):= .ival _ _ _ _ h1 h2 ⟨h3,h4⟩
theorem inv_slv{e:A}{lo hi:Int}{t:T}(h:Gm ρ μ (.slv e lo hi) t):∃xs,IsSl t xs∧lo≤(xs.length:Int)∧(xs.length:Int)≤hi∧∀x∈xs,Gm ρ μ e x:=by
 cases h with
 |slv _ _ _ _ xs h1 h2 h3 h4=>exact⟨xs,h1,h2,h3,h4⟩
theorem eA_eq(d:Nat):eA d=[ifull,ifull,txt 60,vsl 0 2,argE d 0 4]:=by
 cases d<;>rfl
theorem inv_arg{d:Nat}{t:T}(h:Gm ρ μ (argE d 0 4) t):∃xs,IsSl t xs∧(d=0→xs=[])∧(xs.length:Int)≤4∧∀x∈xs,∀e,d=e+1→Gm ρ μ (.agg (eA e)) x:=by
 cases d with
 |zero=>
  obtain⟨xs,h1,h2,h3,h4⟩:=inv_slv (show Gm ρ μ (.slv (.agg a5) 0 0) t from h);have:xs=[]:=List.length_eq_zero_iff.1 (by omega);exact⟨xs,h1,fun _ =>this,by omega,fun x hx=>by rw[this]at hx;simp at hx⟩
 |succ d=>
  obtain⟨xs,h1,h2,h3,h4⟩:=inv_slv (show Gm ρ μ (.slv (.agg (eA d)) 0 4) t from h);exact⟨xs,h1,(by intro q;cases q),h3,fun x hx e he=>by cases he;exact h4 x hx⟩
theorem mk_arg{d:Nat}{t:T}{xs:List T}{lo hi:Int}(h1:IsSl t xs)(h2:d=0→xs=[])(h3:∀x∈xs,∀e,d=e+1→Gm ρ μ (.agg (eA e)) x)(h4:lo≤(xs.length:Int))(h5:(xs.length:Int)≤hi):Gm ρ μ (argE d lo hi) t:=by
 cases d with
 |zero=>
  have:=h2 rfl;subst this;exact .slv _ _ _ _ [] h1 (by simp) (by simp) (by simp)
 |succ d=>exact .slv _ _ _ _ xs h1 h4 h5 (fun x hx=>h3 x hx d rfl)
theorem pureE0:((List.range 5).all fun d=>pureA 20 (.agg (eA d)))=true:=by kernel_rfl
theorem pureE(d:Nat)(hd:d≤4):pureA 20 (.agg (eA d))=true:=List.all_eq_true.1 pureE0 d (List.mem_range.2 (by omega))
theorem low_mem{k:Int}(h1:1≤k)(h2:k≤28)(h:0<lowE k):k∈opsN:=by
 have hk:k=1∨k=2∨k=3∨k=4∨k=5∨k=6∨k=7∨k=8∨k=9∨k=10∨k=11∨k=12∨k=13∨k=14∨k=15∨k=16∨k=17∨k=18∨k=19∨k=20∨k=21∨k=22∨k=23∨k=24∨k=25∨k=26∨k=27∨k=28:=by omega
 rcases hk with rfl|rfl|rfl|rfl|rfl|rfl|rfl|rfl|rfl|rfl|rfl|rfl|rfl|rfl|rfl|rfl|rfl|rfl|rfl|rfl|rfl|rfl|rfl|rfl|rfl|rfl|rfl|rfl<;>first|exact absurd h (by decide)|(unfold opsN;decide)
theorem cls_ok(hI:Is){d:Nat}(hd:d≤4){t:T}(hg:Gm ρ μ (.prd (100+d+1) (eA d)) t):∃k∈opsAll d,Gm ρ μ (.agg (okE d k)) t:=by
 cases hg with
 |prd _ _ ts hq h1 h2=>
 obtain⟨hv,hp⟩:=(hI.v (d+1) _ (by omega)).1 hq;have hg:Gm ρ μ (.agg (eA d)) (.agg ts):= .agg _ _ h1 h2;rw[eA_eq]at hg;obtain⟨x0,x1,x2,x3,x4,e,g0,g1,g2,g3,g4⟩:=inv_e hg;cases e;obtain⟨vs',v1',v2,v3,v4⟩:=inv_slv (show Gm ρ μ (.slv (.agg (vA 40 6 1)) 0 2) x3 from g3);obtain⟨es',a1',a2,a3,a4⟩:=inv_arg g4;obtain⟨k,y1,y2,y3,y4,vs,es,e,v1,a1,k1,k2,k3,k4,k5⟩:=hv;cases e;obtain rfl:=isSl_eq v1 v1';obtain rfl:=isSl_eq a1 a1';have gv:Gm ρ μ (if k=1 then vsl 1 1 else vsl 0 2) x3:=by
  split
  ·rename_i c;have:=k4 c;exact .slv _ _ _ _ vs v1 (by omega) (by omega) v4
  ·exact g3
 have ga:Gm ρ μ (argV d (lowE k)) x4:=by
  cases d with
  |zero=>
   have:=a2 rfl;subst this;exact .slv _ _ _ _ [] a1 (by simp) (by simp) (by simp)
  |succ e=>
   refine .slv _ _ _ _ es a1 k3 a3 fun x hx=> ?_;have hg:=a4 x hx e rfl;have hq:=(hI.v (e+1) x (by omega)).2 ⟨k5 x hx,pure_of (pureE e (by omega)) hg⟩;cases hg with
   |agg _ ts h1 h2=>exact .prd _ _ _ hq h1 h2
 refine⟨k,?_,mk_e (mk_int (Int.le_refl _) (Int.le_refl _) (by omega) (by omega)) g1 g2 gv ga⟩;have hk:k=1∨k=2∨k=3∨k=4∨k=5∨k=6∨k=7∨k=8∨k=9∨k=10∨k=11∨k=12∨k=13∨k=14∨k=15∨k=16∨k=17∨k=18∨k=19∨k=20∨k=21∨k=22∨k=23∨k=24∨k=25∨k=26∨k=27∨k=28:=by omega
 cases d with
 |zero=>
  rw[a2 rfl]at k3;rcases hk with rfl|rfl|rfl|rfl|rfl|rfl|rfl|rfl|rfl|rfl|rfl|rfl|rfl|rfl|rfl|rfl|rfl|rfl|rfl|rfl|rfl|rfl|rfl|rfl|rfl|rfl|rfl|rfl<;>first|exact absurd k3 (by decide)|(unfold opsAll;decide)
 |succ e=>rcases hk with rfl|rfl|rfl|rfl|rfl|rfl|rfl|rfl|rfl|rfl|rfl|rfl|rfl|rfl|rfl|rfl|rfl|rfl|rfl|rfl|rfl|rfl|rfl|rfl|rfl|rfl|rfl|rfl<;>simp[opsAll]
theorem cls(hI:Is){d:Nat}(hd:d≤4){t:T}(hg:Gm ρ μ (.agg (eA d)) t)(hb:¬VE (d+1) t):
  (∃r∈rootB d,Gm ρ μ (.agg r) t)∨∃e n i,d=e+1∧i<n∧n≤4∧Gm ρ μ (.agg (kidB e n i)) t:=by
 rw[eA_eq]at hg;obtain⟨x0,x1,x2,x3,x4,rfl,g0,g1,g2,g3,g4⟩:=inv_e hg;obtain⟨k,rfl,k1,k2⟩:=inv_int g0;obtain⟨vs,v1,v2,v3,v4⟩:=inv_slv (show Gm ρ μ (.slv (.agg (vA 40 6 1)) 0 2) x3 from g3);obtain⟨es,a1,a2,a3,a4⟩:=inv_arg g4;by_cases c1:k≤0
 ·exact .inl ⟨_,List.mem_cons_self,mk_e (mk_int k1 c1 k1 k2) g1 g2 g3 g4⟩
 by_cases c2:29≤k
 ·exact .inl ⟨_,List.mem_cons_of_mem _ List.mem_cons_self,mk_e (mk_int c2 k2 k1 k2) g1 g2 g3 g4⟩
 by_cases c3:lowE k≤(es.length:Int)
 ·by_cases c4:k=1→vs.length=1
  ·have hu:∃u∈es,¬VE d u:=by
    refine Classical.byContradiction fun hn=>hb ⟨k,x1,x2,x3,x4,vs,es,rfl,v1,a1,by omega,by omega,c3,c4,fun u hu=> ?_⟩;exact Classical.byContradiction fun q=>hn ⟨u,hu,q⟩
   obtain⟨u,hu,hn⟩:=hu;obtain⟨i,hi,rfl⟩:=List.getElem_of_mem hu;cases d with
   |zero=>have:=a2 rfl;subst this;simp at hi
   |succ e=>
    refine .inr ⟨e,es.length,i,rfl,hi,by omega,mk_e g0 g1 g2 g3 (.slk _ _ es a1 (by simp) fun j a t ha ht=> ?_)⟩;obtain⟨hj,rfl⟩:=List.getElem?_eq_some_iff.1 ht;have hg:=a4 _ (List.getElem_mem hj) e rfl;rw[List.getElem?_map,List.getElem?_range hj]at ha;cases ha;by_cases hji:j=i
    ·subst hji;show Gm ρ μ (if Nat.beq j j=true then .prd (200+e+1) (eA e)else .agg (eA e)) _;rw[if_pos (by simp)];have hq:=(hI.b (e+1) es[j] (by omega)).2 ⟨hn,pure_of (pureE e (by omega)) hg⟩;generalize es[j]=u at hg hq;cases hg with
     |agg _ ts h1 h2=>exact .prd _ _ _ hq h1 h2
    ·show Gm ρ μ (if Nat.beq j i=true then .prd (200+e+1) (eA e)else .agg (eA e)) _;rw[if_neg (by simpa using hji)];exact hg
  ·obtain⟨c5,c6⟩:k=1∧¬vs.length=1:=⟨Classical.byContradiction fun q=>c4 fun e=>absurd e q,fun q=>c4 fun _ =>q⟩;subst c5;have:vs.length=0∨vs.length=2:=by omega
   rcases this with c|c
   ·exact .inl ⟨_,List.mem_cons_of_mem _ (List.mem_cons_of_mem _ List.mem_cons_self),mk_e (mk_int (by omega) (by omega) k1 k2) g1 g2 (.slv _ _ _ _ vs v1 (by omega) (by omega) v4) g4⟩
   ·exact .inl ⟨_,List.mem_cons_of_mem _ (List.mem_cons_of_mem _ (List.mem_cons_of_mem _ List.mem_cons_self)),mk_e (mk_int (by omega) (by omega) k1 k2) g1 g2 (.slv _ _ _ _ vs v1 (by omega) (by omega) v4) g4⟩
 ·have hm:=low_mem (k:=k) (by omega) (by omega) (by omega);refine .inl ⟨_,List.mem_cons_of_mem _ (List.mem_cons_of_mem _ (List.mem_cons_of_mem _ (List.mem_cons_of_mem _ (List.mem_map_of_mem hm)))),mk_e (mk_int (by omega) (by omega) k1 k2) g1 g2 g3 (mk_arg a1 a2 a4 (by omega) (by omega))⟩
end Go.Proofs.Tryz
namespace Go.Proofs.Tryz
open Go.Ps
set_option maxRecDepth 100000
variable[Inhabited Prd]
noncomputable section
def SK(m:Int)(te:TypeId)(s:Smy):Prop:=SmyOk (fun n d=>(run2 prog ⟨glZ m te,lend 40 (eK4 m te)⟩ (cCk anK pK4).own (cCk anK pK4).top n d).ee) s
theorem skOf{m:Int}{te:TypeId}{an:FuncId→An}{tab:List Smy}(ht:∀s∈tab,SK m te s){s:Smy}(hr:smyRun prog (cCk an pK4) tab 4 s=true):SK m te s:=
 Lay.smy (layK4 m te) (X:=cCk an pK4) rfl rfl (il:=[57,28]) rfl (by kernel_rfl) (tl:=[57,28]) rfl (by kernel_rfl) ht hr (by kernel_rfl) (by kernel_rfl) dep40
theorem sk_bad(hI:Is){m:Int}{te:TypeId}{d:Nat}(hd:d≤3)(hr:∀s∈sRoot d,SK m te s)(hk:∀e,d=e+1→∀s∈sKid e,SK m te s):SK m te (sBad d):=by
 refine smy_union fun ts μ hg=> ?_;obtain⟨t,r,rfl,g1,g2⟩:=(show GmL [0] μ (.prd (200+d+1) (eA d)::[ifull,.ptr 0 0,.ptr 1 0]) ts from hg).inv_cons;cases g1 with
 |prd _ _ us hq h1 h2=>
 have hb:=((hI.b (d+1) _ (by omega)).1 hq).1;rcases cls hI (by omega) (.agg _ _ h1 h2) hb with⟨x,hx,hg'⟩|⟨e,n,i,rfl,hi,hn,hg'⟩
 ·exact⟨sCk (.agg x) badN,hr _ (List.mem_map_of_mem hx),rfl,rfl,GmL.cons hg' g2,fun _ h=>h⟩
 ·refine⟨sCk (.agg (kidB e n i)) badN,hk e rfl _ ?_,rfl,rfl,GmL.cons hg' g2,fun _ h=>h⟩;have hm:(n,i)∈[(1,0),(2,0),(2,1),(3,0),(3,1),(3,2),(4,0),(4,1),(4,2),(4,3)]:=by
   have h1:n=1∨n=2∨n=3∨n=4:=by omega
   have h2:i=0∨i=1∨i=2∨i=3:=by omega
   rcases h1 with rfl|rfl|rfl|rfl<;>rcases h2 with rfl|rfl|rfl|rfl<;>first|(exfalso;omega)|simp
  exact List.mem_map_of_mem (f:=fun q:Nat×Nat=>sCk (.agg (kidB e q.1 q.2)) badN) hm
theorem sk_step(hI:Is){m:Int}{te:TypeId}{d:Nat}(hd:d≤3)(ht:∀s∈tCk d,SK m te s)(hy:∀s∈[sAny d],smyRun prog (cCk anK pK4) (tCk d) 4 s=true)(hx:∀s∈sRoot d,smyRun prog (cCk anK pK4) (tCk d) 4 s=true)
  (hk:∀e,d=e+1→∀s∈sKid e,smyRun prog (cCk anKu pK4) (tCk d) 4 s=true):∀s∈tCk (d+1),SK m te s:=by
 intro s hs;have hs:s∈[sBad d,sAny d]:=hs;simp only[List.mem_cons,List.not_mem_nil,or_false]at hs;rcases hs with rfl|rfl
 ·exact sk_bad hI hd (fun s h=>skOf ht (hx s h)) fun e he s h=>skOf ht (hk e he s h)
 ·exact skOf ht (hy _ (by simp))
theorem sk_all(hI:Is)(m:Int)(te:TypeId):∀s∈tCk 4,SK m te s:=by
 have h0:∀s∈tCk 0,SK m te s:=fun s h=>by cases h
 have h1:=sk_step hI (d:=0) (by omega) h0 ry0 rx0 (fun e h=>by cases h);have h2:=sk_step hI (d:=1) (by omega) h1 ry1 rx1 (fun e h=>by cases h;exact rk0);have h3:=sk_step hI (d:=2) (by omega) h2 ry2 rx2 (fun e h=>by cases h;exact rk1);exact sk_step hI (d:=3) (by omega) h3 ry3 rx3 (fun e h=>by cases h;exact rk2)
theorem okK5:([57,28]:List Nat).all (fun f=>okFn prog f&&fnOk2 prog f)=true:=by kernel_rfl
def eK5(m:Int)(te:TypeId):=extP prog (glZ m te) (eK4 m te) (cCk anK pK4).own (cCk anK pK4).top 40 fun f=>l28.any fun c=>Nat.beq c.f f
def dK5:FuncId→Bool:=fun f=>(l28.any fun c=>Nat.beq c.f f)||dK4 f
theorem aK5(hI:Is)(m:Int)(te:TypeId):∀c∈l28,AnsOk prog (glZ m te) (eK4 m te) (cCk anK pK4) 40 c:=fun c hc=>
 ⟨(List.all_eq_true.1 (by kernel_rfl):∀c∈l28,lEv (pureA dep) c.pre=true) c hc,fun ts ht=>ctZ_ans ((layK4 m te).cn (X:=cCk anK pK4) rfl rfl (l:=[57,28]) rfl (by kernel_rfl)) dep40 (tab:=tCk 4) (sk_all hI m te) (r28 c hc) ht⟩
theorem layK5(hI:Is)(m:Int)(te:TypeId):Lay prog (glZ m te) 40 (fun _ =>none) pK5 (eK5 m te) dK5:=
 (layK4 m te).stepZ follows (glZFrz m te) dep40 (X:=cCk anK pK4) (tl:=[57,28]) rfl okK5 (l:=l28) (aK5 hI m te)
end
end Go.Proofs.Tryz
namespace Go.Proofs.Tryz
open Go.Ps
set_option maxRecDepth 100000
theorem rD1:runG prog gD1=true:=by kernel_rfl
theorem rD2:runG prog gD2=true:=by kernel_rfl
theorem rD3:runG prog gD3=true:=by kernel_rfl
theorem rD4_0:∀c∈lD4a,ctRunZ prog xD4 [] 8 c=true:=List.all_eq_true.1 (by kernel_rfl)
theorem rD5:runG prog gD5=true:=by kernel_rfl
theorem rD6_0:∀c∈lD6a,ctRunZ prog xD6 [] 8 c=true:=List.all_eq_true.1 (by kernel_rfl)
theorem rD9_0:∀c∈lD9a,ctRunZ prog xD9 [] 8 c=true:=List.all_eq_true.1 (by kernel_rfl)
theorem rC1:runG prog gC1=true:=by kernel_rfl
theorem rC2:runG prog gC2=true:=by kernel_rfl
theorem rL1:runG prog gL1=true:=by kernel_rfl
theorem rL2:runG prog gL2=true:=by kernel_rfl
theorem rL3:runG prog gL3=true:=by kernel_rfl
theorem rP1:runG prog gP1=true:=by kernel_rfl
theorem rQ6:runG prog gQ6=true:=by kernel_rfl
end Go.Proofs.Tryz
namespace Go.Ps
variable[Inhabited Prd]
section
variable{P:Program}{gl:Nat→Option T}
open Classical in
noncomputable def knP(P:Program)(gl:Nat→Option T)(c:Ctr)(pe:FuncId→List T→Option T):FuncId→List T→Option T:=fun f ts=>
 if Nat.beq c.f f=true then(if h:∃r,PureFn P gl f ts r∧(∀I:Inhabited Prd, @Gm I [] [] c.res r)then some (Classical.choose h)else none)else pe f ts
theorem knP_some{c:Ctr}{pe:FuncId→List T→Option T}{ts:List T}(h:∃r,PureFn P gl c.f ts r∧(∀I:Inhabited Prd, @Gm I [] [] c.res r)):∃r,knP P gl c pe c.f ts=some r∧Gm [] [] c.res r:=by
 refine⟨Classical.choose h,?_,(Classical.choose_spec h).2 _⟩;unfold knP;rw[if_pos (by simp),dif_pos h]
theorem knP_pc{c:Ctr}{pe:FuncId→List T→Option T}(hp:PcOk P gl pe):PcOk P gl (knP P gl c pe):=by
 intro f ts r h;unfold knP at h;split at h
 ·split at h
  ·rename_i h';cases h;have q:=(Classical.choose_spec h').1;exact⟨q.1,fun g vs hg hal hgl hv=>q.2 g vs hg ⟨0,fun l _ =>hal l⟩ hgl hv⟩
  ·cases h
 ·exact hp f ts r h
variable{k:Nat}{ga:Nat→Option A}{pa:FuncId→List A→Nat→List Con→Option AV}{pe:FuncId→List T→Option T}{dom:FuncId→Bool}
theorem Lay.known(h:Lay P gl k ga pa pe dom)(hk:dep≤k){c:Ctr}(hp:lEv (pureA dep) c.pre=true)(hc:∀ts,GmL [] [] c.pre ts→∃r,PureFn P gl c.f ts r∧(∀I:Inhabited Prd, @Gm I [] [] c.res r)):
  Lay P gl k ga (peTab [c] pa) (knP P gl c pe) (fun f=>Nat.beq c.f f||dom f):=by
 refine⟨h.gA,?_,knP_pc h.pc,fun f ts hd=> ?_,h.hx⟩
 ·intro f a n cs v hv ρ μ H ts hs hg;unfold peTab at hv;split at hv
  ·split at hv
   ·rename_i c' hf;have hmem:=List.mem_of_find?_eq_some hf;simp only[List.mem_cons,List.not_mem_nil,or_false]at hmem;subst hmem;have hcf:=List.find?_some (p:=fun c:Ctr=>Nat.beq c.f f&&lAll (leT cs 0 0 dep) a c.pre) hf;simp only[Bool.and_eq_true]at hcf;obtain⟨hcf,hle⟩:=hcf;have hcf:=nat_beq hcf;subst hcf;cases hv;have hgp:GmL [] [] c'.pre ts:=by
     have:=lAll_gm (fun a t x=>leT_ok hs.cs hs.zero 0 0 dep a t x) hle hg
     rwa [take0,take0]at this
    obtain⟨r,r1,r2⟩:=knP_some (pe:=pe) (hc ts hgp);have hfz:mapO (frzT k ⟨0,.nl⟩) ts=some ts:=mapO_id _ fun x hx=>by
     obtain⟨a,ha,hga⟩:=gmL_mem hgp.1 hgp.2 hx;exact frz_id dep a x (lEv_mem hp a ha) hga k hk
    refine⟨r,?_,matV_ok hs (r2.ext (fun j v h=>by simp at h) (fun j v h=>by simp at h))⟩;unfold lend;rw[hfz];exact r1
   ·cases hv
  ·rename_i hno;obtain⟨r,r1,r2⟩:=h.pA f a n cs v hv ρ μ H ts hs hg;refine⟨r,?_,r2⟩;have hfn:∀ts,knP P gl c pe f ts=pe f ts:=fun ts=>by
    unfold knP;rw[if_neg (fun q=>hno (by simp only[List.any_cons,List.any_nil,Bool.or_false];exact q))]
   unfold lend at r1⊢;simp only[hfn];exact r1
 ·simp only[Bool.or_eq_false_iff]at hd;unfold knP;rw[if_neg (fun q=>by rw[hd.1]at q;cases q)];exact h.dm f ts hd.2
theorem Lay.exZ{X:AX}{l:List Ctr}{pb:FuncId→List A→Nat→List Con→Option AV}{dm:FuncId→Bool}(h:Lay P gl k ga pb (extP P gl pe X.own X.top k fun f=>l.any fun c=>Nat.beq c.f f) dm)(hz:GlFrz gl)(hk:dep≤k){c:Ctr}(hc:c∈l)(ha:AnsOk P gl pe X k c){ts:List T}(ht:GmL [] [] c.pre ts):
  ∃r,PureFn P gl c.f ts r∧Gm [] [] c.res r:=by
 obtain⟨r,r1,r2⟩:=ha.2 ts ht;refine⟨r,h.pure hz (extP_ans (List.any_eq_true.2 ⟨c,hc,by simp⟩) r1) (mapO_id _ fun x hx=> ?_),r2⟩;obtain⟨a,h1,h2⟩:=gmL_mem ht.1 ht.2 hx;exact frz_id dep a x (lEv_mem ha.1 a h1) h2 k hk
end
end Go.Ps
namespace Go.Proofs.Tryz
open Go.Shelf
def lays105_ren:Go.Shelf.Ren:=⟨fun|105=>312|212=>332|99=>197|165=>77|166=>78|170=>333|169=>79|263=>346|264=>347|206=>262|240=>123|241=>124|276=>183|277=>184|n=>n,fun|9=>9|3=>3|4=>4|20=>20|0=>0|46=>122|109=>354|5=>5|72=>135|76=>139|51=>184|146=>366|53=>186|148=>368|70=>133|37=>128|75=>138|127=>197|164=>252|80=>141|n=>n,fun|n=>n⟩
theorem lays105:Go.Proofs.Lays.n105 prog lays105_ren:={
 mixed:=by kernel_rfl
 f99:=func197.trans (congrArg some (by kernel_rfl))
 f105:=func312.trans (congrArg some (by kernel_rfl))
 f165:=func77.trans (congrArg some (by kernel_rfl))
 f166:=func78.trans (congrArg some (by kernel_rfl))
 f169:=func79.trans (congrArg some (by kernel_rfl))
 f170:=func333.trans (congrArg some (by kernel_rfl))
 f206:=func262.trans (congrArg some (by kernel_rfl))
 f212:=func332.trans (congrArg some (by kernel_rfl))
 f240:=func123.trans (congrArg some (by kernel_rfl))
 f241:=func124.trans (congrArg some (by kernel_rfl))
 f263:=func346.trans (congrArg some (by kernel_rfl))
 f264:=func347.trans (congrArg some (by kernel_rfl))
 f276:=func183.trans (congrArg some (by kernel_rfl))
 f277:=func184.trans (congrArg some (by kernel_rfl))
 t0:=underlying0
 a0:=isAgg0
 z0:=sizeOf0
 v0:=zeroValue0
 t3:=underlying3
 a3:=isAgg3
 z3:=sizeOf3
 v3:=zeroValue3
 t4:=underlying4
 a4:=isAgg4
 z4:=sizeOf4
 v4:=zeroValue4
 t5:=underlying5
 a5:=isAgg5
 z5:=sizeOf5
 v5:=zeroValue5
 t9:=underlying9
 a9:=isAgg9
 z9:=sizeOf9
 v9:=zeroValue9
 t20:=underlying20
 a20:=isAgg20
 z20:=sizeOf20
 v20:=zeroValue20
 t37:=underlying128
 a37:=isAgg128
 z37:=sizeOf128
 v37:=zeroValue128
 t46:=underlying122
 a46:=isAgg122
 z46:=sizeOf122
 v46:=zeroValue122
 t51:=underlying184
 a51:=isAgg184
 z51:=sizeOf184
 v51:=zeroValue184
 t53:=underlying186
 a53:=isAgg186
 z53:=sizeOf186
 v53:=zeroValue186
 t70:=underlying133
 a70:=isAgg133
 z70:=sizeOf133
 v70:=zeroValue133
 t72:=underlying135
 a72:=isAgg135
 z72:=sizeOf135
 v72:=zeroValue135
 t75:=underlying138
 a75:=isAgg138
 z75:=sizeOf138
 v75:=zeroValue138
 t76:=underlying139
 a76:=isAgg139
 z76:=sizeOf139
 v76:=zeroValue139
 t109:=underlying354
 a109:=isAgg354
 z109:=sizeOf354
 v109:=zeroValue354
 t127:=underlying197
 a127:=isAgg197
 z127:=sizeOf197
 v127:=zeroValue197
 t146:=underlying366
 a146:=isAgg366
 z146:=sizeOf366
 v146:=zeroValue366
 t148:=underlying368
 a148:=isAgg368
 z148:=sizeOf368
 v148:=zeroValue368
 t164:=underlying252
 a164:=isAgg252
 z164:=sizeOf252
 v164:=zeroValue252}
theorem Builder_Extra_105:Builder.Extra prog lays105_ren:={
 sizeBuilder:=by kernel_rfl
 liesBuilder:=by kernel_rfl
 t5:=underlying5
 a5:=isAgg5
 z5:=sizeOf5
 v5:=zeroValue5
 infoByte:=by kernel_rfl
 cellsByte:=by kernel_rfl
 sizeByte:=by kernel_rfl
 neB5:=by decide}
def lays197_ren:Go.Shelf.Ren:=⟨fun|197=>261|260=>313|n=>n,fun|9=>9|21=>21|3=>3|4=>4|5=>5|105=>310|119=>153|0=>0|46=>122|139=>156|138=>155|n=>n,fun|3=>0|4=>1|n=>n⟩
theorem lays197:Go.Proofs.Lays.n197 prog lays197_ren:={
 mixed:=by kernel_rfl
 f197:=func261.trans (congrArg some (by kernel_rfl))
 f260:=func313.trans (congrArg some (by kernel_rfl))
 t0:=underlying0
 a0:=isAgg0
 z0:=sizeOf0
 v0:=zeroValue0
 t3:=underlying3
 a3:=isAgg3
 z3:=sizeOf3
 v3:=zeroValue3
 t4:=underlying4
 a4:=isAgg4
 z4:=sizeOf4
 v4:=zeroValue4
 t5:=underlying5
 a5:=isAgg5
 z5:=sizeOf5
 v5:=zeroValue5
 t9:=underlying9
 a9:=isAgg9
 z9:=sizeOf9
 v9:=zeroValue9
 t21:=underlying21
 a21:=isAgg21
 z21:=sizeOf21
 v21:=zeroValue21
 t46:=underlying122
 a46:=isAgg122
 z46:=sizeOf122
 v46:=zeroValue122
 t105:=underlying310
 a105:=isAgg310
 z105:=sizeOf310
 v105:=zeroValue310
 t119:=underlying153
 a119:=isAgg153
 z119:=sizeOf153
 t138:=underlying155
 a138:=isAgg155
 z138:=sizeOf155
 v138:=zeroValue155
 t139:=underlying156
 a139:=isAgg156
 z139:=sizeOf156
 v139:=zeroValue156
 g3:=by kernel_rfl
 g4:=by kernel_rfl}
end Go.Proofs.Tryz
namespace Go.Proofs.Tryz
open Go.Ps Go.RowKit
set_option maxRecDepth 100000
theorem rep_ok{m:Int}{te:TypeId}(s:List UInt8)(c:Nat)(hc:c≤9223372036854775807)(hl:s.length*c≤140737488355328):PureFn prog (glZ m te) 312 [.str s,.int .i64 c] (.str (Lib.repeatL s c)):=by
 refine below_pure (by kernel_rfl) fun g vs hgl hv=> ?_
 match vs,hv with
 |[v,u],hv=>
  have e1:=str_inv (hv.inv_cons).1;have h2:=((hv.inv_cons).2.inv_cons).1;subst e1;generalize hx:T.int .i64 (c:Int)=x at h2;cases h2<;>cases hx;refine⟨.string ⟨(Lib.repeatL s c).toArray⟩,fun g'=> ?_,?_⟩
  rotate_left
  ·have hsz:(⟨s.toArray⟩:ByteArray).size*c≤140737488355328:=by show s.toArray.size*c≤_;simpa using hl
   exact Any.strings_Repeat lays105 Builder_Extra_105 ⟨s.toArray⟩ c g.w hc hsz
  ·have:=Rd.str (g:=g') ⟨(Lib.repeatL s c).toArray⟩;simpa using this
 |[],hv=>have:=hv.1;simp at this
 |[_],hv=>have:=hv.1;simp at this
 |_ ::_ ::_ ::_,hv=>have:=hv.1;simp at this
def dec1(s:List UInt8):Int:=(Lib.decodeGo ⟨s.toArray⟩).1
def dec2(s:List UInt8):Int:=(Lib.decodeGo ⟨s.toArray⟩).2
theorem decode_ok{m:Int}{te:TypeId}(s:List UInt8):PureFn prog (glZ m te) 261 [.str s] (.tup [.int .i32 (dec1 s),.int .i64 (dec2 s)]):=by
 refine below_pure (by kernel_rfl) fun g vs hgl hv=> ?_
 match vs,hv with
 |[v],hv=>
  have e1:=str_inv (hv.inv_cons).1;subst e1;refine⟨.tuple #[.int .i32 (dec1 s),.int .i64 (dec2 s)],fun g'=> ?_,?_⟩
  rotate_left
  ·exact Any.utf8_DecodeRuneInString lays197 ⟨s.toArray⟩ g.w (u8Tabs hgl)
  ·refine .tup _ [_,_] rfl (fun j v c hv hc=> ?_)
   match j with
   |0=>simp at hv hc;subst hv;subst hc;exact .int _ _
   |1=>simp at hv hc;subst hv;subst hc;exact .int _ _
   |k+2=>simp at hv
 |[],hv=>have:=hv.1;simp at this
 |_ ::_ ::_,hv=>have:=hv.1;simp at this
theorem dec_in(s:List UInt8)(h:1≤s.length):0≤dec1 s∧dec1 s≤1114111∧1≤dec2 s∧dec2 s≤4:=by
 have hsz:(⟨s.toArray⟩:ByteArray).size=s.length:=by show s.toArray.size=_;simp
 unfold dec1 dec2 Lib.decodeGo;rw[if_neg (by omega)];have h1:=Lib.width_pos ⟨s.toArray⟩ 0;have h2:(Utf8.decode ⟨s.toArray⟩ 0).2≤4∧(Utf8.decode ⟨s.toArray⟩ 0).1≤1114111:=by
  rw[Lib.decode_at];refine⟨?_,Lib.decodeN_rune_le _ _ _ _ _ (UInt8.toNat_lt _)⟩;unfold Lib.decodeN
  repeat' split
  all_goals simp
 omega
end Go.Proofs.Tryz
namespace Go.Proofs.Tryz
namespace Cal
def bfZ(y:Int):Int:=365*(y-1)+(y-1).tdiv 4-(y-1).tdiv 100+(y-1).tdiv 400
def leap(y:Int):Bool:=decide (y.tmod 4=0)&&(decide (y.tmod 100≠0)||decide (y.tmod 400=0))
theorem bf_one:bfZ 1=0:=by decide
theorem tdiv_nn{a b:Int}(h:0≤a):a.tdiv b=a/b:=Int.tdiv_eq_ediv_of_nonneg h
theorem tmod_nn{a b:Int}(h:0≤a):a.tmod b=a%b:=Int.tmod_eq_emod_of_nonneg h
theorem bf_nn{y:Int}(h:1≤y)(h2:y≤10000):0≤bfZ y∧bfZ y≤4000000:=by
 unfold bfZ;rw[tdiv_nn (by omega),tdiv_nn (by omega),tdiv_nn (by omega)];omega
theorem bf_succ{y:Int}(h:1≤y):bfZ (y+1)=bfZ y+(if leap y then 366 else 365):=by
 unfold bfZ leap;simp only[tdiv_nn (show(0:Int)≤y+1-1 by omega),tdiv_nn (show(0:Int)≤y-1 by omega),tmod_nn (show(0:Int)≤y by omega)];have h4:(y+1-1)/4=(y-1)/4+(if y%4=0 then 1 else 0):=by split<;>omega
 have h100:(y+1-1)/100=(y-1)/100+(if y%100=0 then 1 else 0):=by split<;>omega
 have h400:(y+1-1)/400=(y-1)/400+(if y%400=0 then 1 else 0):=by split<;>omega
 rw[h4,h100,h400];by_cases c4:y%4=0<;>by_cases c100:y%100=0<;>by_cases c400:y%400=0<;>simp only[c4,c100,c400,decide_true,decide_false,if_true,if_false,Bool.and_true,Bool.true_and,Bool.and_false,Bool.false_and,Bool.or_true,Bool.or_false,ne_eq,not_true,not_false_eq_true,Bool.false_eq_true]<;>omega
theorem bf_start{n:Int}(h:0≤n)(h2:n≤3652058):n<bfZ (min (n/365+1) 9999+1):=by
 unfold bfZ;rw[tdiv_nn (by omega),tdiv_nn (by omega),tdiv_nn (by omega)];omega
def remL(l:Bool)(k:Int):Int:=
 if k≤1 then(if l then 366 else 365)else if k≤2 then(if l then 335 else 334)else if k≤3 then 306 else if k≤4 then 275 else if k≤5 then 245 else if k≤6 then 214 else if k≤7 then 184
 else if k≤8 then 153 else if k≤9 then 122 else if k≤10 then 92 else if k≤11 then 61 else if k≤12 then 31 else 0
def mdL(l:Bool)(k:Int):Int:=if k=2 then(if l then 29 else 28)else if k=4∨k=6∨k=9∨k=11 then 30 else 31
theorem rem_step{l:Bool}{k:Int}(h:1≤k)(h2:k≤12):remL l k=mdL l k+remL l (k+1):=by
 have:k=1∨k=2∨k=3∨k=4∨k=5∨k=6∨k=7∨k=8∨k=9∨k=10∨k=11∨k=12:=by omega
 rcases this with rfl|rfl|rfl|rfl|rfl|rfl|rfl|rfl|rfl|rfl|rfl|rfl<;>cases l<;>decide
theorem rem_one(l:Bool):remL l 1=if l then 366 else 365:=by simp[remL]
theorem rem_end(l:Bool){k:Int}(h:13≤k):remL l k=0:=by
 unfold remL;simp only[if_neg (show¬k≤1 by omega),if_neg (show¬k≤2 by omega),if_neg (show¬k≤3 by omega),if_neg (show¬k≤4 by omega),if_neg (show¬k≤5 by omega),if_neg (show¬k≤6 by omega),if_neg (show¬k≤7 by omega),if_neg (show¬k≤8 by omega),if_neg (show¬k≤9 by omega),if_neg (show¬k≤10 by omega),if_neg (show¬k≤11 by omega),if_neg (show¬k≤12 by omega)]
end Cal
end Go.Proofs.Tryz
namespace Go.Proofs.Tryz
open Go.Ps
set_option maxRecDepth 100000
noncomputable section
def pb(p:Prop):Bool:= @decide p (Classical.propDecidable p)
theorem pb_iff{p:Prop}:pb p=true↔p:=by unfold pb;simp
def F0:Fc:=⟨fun _ =>false,fun _ _ _ =>none⟩
def DZ(m:Int)(te:TypeId):Ed:=⟨glZ m te,fun _ _ _ =>none⟩
theorem cxZ(m:Int)(te:TypeId):Cx prog (DZ m te) F0:=⟨follows,pdNone_ok,eeNone_ok⟩
def powL:List T:=(List.range 13).map fun i=>T.int .i64 (10^i:Nat)
theorem xe0_ok:EeOk prog glT (fun _ _ _ =>none):=fun f ts H r H' h=>by cases h
theorem powers_run:frzG ((runF prog glT (fun _ _ _ =>none) 100 30).ee 342 [] ⟨0,.nl⟩)=some (.agg powL):=by kernel_rfl
theorem powers_ok(m:Int)(te:TypeId):PureFn prog (glZ m te) 342 [] (.agg powL):=pure1 (pure_run follows glTFrz xe0_ok powers_run)
abbrev mxN:Int:=999999999999999
def absZ(n:Int):Int:=if n<IntKind.i64.wrap (0-n)then IntKind.i64.wrap (0-n)else n
def chkN(n s:Int):Int:=if absZ n>mxN∨n< -mxN∨s<0∨s>12 then 2 else 0
def s295:List T→Option (T×List Bool)
 |[.int .i64 n]=>some (.int .i64 (absZ n),[])
 |_ =>none
def s301:List T→Option (T×List Bool)
 |[.agg [.int .i64 n,.int .i64 s]]=>some (.int .i64 (chkN n s),[])
 |_ =>none
def inZ(n a b:Int):Bool:=decide (a≤n)&&decide (n≤b)
def s329:List T→Option (T×List Bool)
 |[.int .i64 n,.int .i64 a,.int .i64 b]=>some (.bool (inZ n a b),[])
 |_ =>none
def lpZ(y:Int):Bool:=inZ y 1 9999&&Cal.leap y
def s345:List T→Option (T×List Bool)
 |[.int .i64 y]=>some (.bool (lpZ y),[])
 |_ =>none
def s330:List T→Option (T×List Bool)
 |[.int .i64 y]=>some (.int .i64 (Cal.bfZ y),[decide (1≤y),decide (y≤10000)])
 |_ =>none
def s331:List T→Option (T×List Bool)
 |[.int .i64 y,.int .i64 k]=>some (.int .i64 (Cal.mdL (lpZ y) k),[decide (1≤k),decide (k≤12)])
 |_ =>none
def s40:List T→Option (T×List Bool)
 |[.int .i64 n]=>some (.str (itoaK n),[decide (-9223372036854775808≤n),decide (n≤9223372036854775807)])
 |_ =>none
def s312:List T→Option (T×List Bool)
 |[.str s,.int .i64 n]=>some (.str (Lib.repeatL s n.toNat),[decide (0≤n),decide (n≤100),decide (s.length≤1)])
 |_ =>none
def DP(m:Int)(te:TypeId):Ed:=⟨glZ m te,pdAdd 329 s329 (pdAdd 295 s295 (fun _ _ _ =>none))⟩
def DQ(m:Int)(te:TypeId):Ed:=⟨glZ m te,pdAdd 345 s345 (pdAdd 301 s301 (pdAdd 329 s329 (pdAdd 295 s295 (fun _ _ _ =>none))))⟩
def DR(m:Int)(te:TypeId):Ed:=⟨glZ m te,pdAdd 330 s330 (pdAdd 331 s331 (pdAdd 312 s312 (pdAdd 40 s40 (pdAdd 301 s301 (pdAdd 329 s329 (pdAdd 295 s295 (fun _ _ _ =>none)))))))⟩
end
end Go.Proofs.Tryz
namespace Go.Proofs.Tryz
noncomputable section
open Go.Ps
set_option maxRecDepth 100000
def g295w_s_1(m:Int)(te:TypeId)(q:Int):List Bool:=[]
def V295w_s(m:Int)(te:TypeId)(q:Int):Empty⊕T:=
 (.inr (T.int .i64 (if q<IntKind.i64.wrap (0-q)then IntKind.i64.wrap (0-q)else q)))
def K295w_s(m:Int)(te:TypeId)(q:Int):Bool:=
 (allT (g295w_s_1 m te q))
theorem w295w_s_1(m:Int)(te:TypeId)(q:Int):outK prog f295 20 [] (runK prog (DZ m te) F0 2000 (.code (bodyOf f295)) [] 0 ([.int .i64 q]++List.replicate 6 undefT) ⟨0,.nl⟩ [] [])=wdn (T.int .i64 (if q<IntKind.i64.wrap (0-q)then IntKind.i64.wrap (0-q)else q)) (g295w_s_1 m te q):=by kernel_rfl
theorem c295w(m:Int)(te:TypeId)(q:Int)(n:Nat){r:T}(hk:K295w_s m te q=true)(hr:noM.fin n (V295w_s m te q)=some r):PureFn prog (glZ m te) 295 [.int .i64 q] r:=
 pure_mach (M:=noM) (fn:=f295) (k:=20) (d:=8) (c:=bodyOf f295) (cxZ m te) (glZFrz m te) (by kernel_rfl) func295 (by kernel_rfl) rfl (by kernel_rfl) (by kernel_rfl) (L:=6) (by kernel_rfl) noM_ways (fun σ=>σ.elim) ((kD (w295w_s_1 m te q)) hk _ rfl) hr
def g329w_s_1(m:Int)(te:TypeId)(q a b:Int):List Bool:=let y0:=decide (q≥a);[y0,y0,y0,y0]
def g329w_s_2(m:Int)(te:TypeId)(q a b:Int):List Bool:=let y0:=decide (q≥a);[!y0,!y0,!y0,!y0]
def V329w_s(m:Int)(te:TypeId)(q a b:Int):Empty⊕T:=
 (if decide (q≥a)then(.inr (T.bool (decide (q≤b))))else(.inr (T.bool false)))
def K329w_s(m:Int)(te:TypeId)(q a b:Int):Bool:=
 (if decide (q≥a)then(allT (g329w_s_1 m te q a b))else(allT (g329w_s_2 m te q a b)))
def r329w_s(m:Int)(te:TypeId)(q a b:Int)(ds:List Bool):RD Out:=runK prog (DZ m te) F0 2000 (.code (bodyOf f329)) [] 0 ([.int .i64 q,.int .i64 a,.int .i64 b]++List.replicate 12 undefT) ⟨0,.nl⟩ ds []
theorem w329w_s_1(m:Int)(te:TypeId)(q a b:Int):outK prog f329 20 [] (r329w_s m te q a b (bt 4 15))=wdn (T.bool (decide (q≤b))) (g329w_s_1 m te q a b):=by kernel_rfl
theorem w329w_s_2(m:Int)(te:TypeId)(q a b:Int):outK prog f329 20 [] (r329w_s m te q a b (bt 4 0))=wdn (T.bool false) (g329w_s_2 m te q a b):=by kernel_rfl
theorem c329w(m:Int)(te:TypeId)(q a b:Int)(n:Nat){r:T}(hk:K329w_s m te q a b=true)(hr:noM.fin n (V329w_s m te q a b)=some r):PureFn prog (glZ m te) 329 [.int .i64 q,.int .i64 a,.int .i64 b] r:=
 pure_mach (M:=noM) (fn:=f329) (k:=20) (d:=8) (c:=bodyOf f329) (cxZ m te) (glZFrz m te) (by kernel_rfl) func329 (by kernel_rfl) rfl (by kernel_rfl) (by kernel_rfl) (L:=12) (by kernel_rfl) noM_ways (fun σ=>σ.elim) ((wk_if (kD (w329w_s_1 m te q a b)) (kD (w329w_s_2 m te q a b))) hk _ rfl) hr
def g330w_s_1(m:Int)(te:TypeId)(q:Int):List Bool:=[true,true,true]
def V330w_s(m:Int)(te:TypeId)(q:Int):Empty⊕T:=
 (.inr (T.int .i64 (IntKind.i64.wrap (IntKind.i64.wrap (IntKind.i64.wrap (IntKind.i64.wrap (365*IntKind.i64.wrap (q-1))+IntKind.i64.wrap ((IntKind.i64.wrap (q-1)).tdiv 4))-IntKind.i64.wrap ((IntKind.i64.wrap (q-1)).tdiv 100))+IntKind.i64.wrap ((IntKind.i64.wrap (q-1)).tdiv 400)))))
def K330w_s(m:Int)(te:TypeId)(q:Int):Bool:=
 (allT (g330w_s_1 m te q))
theorem w330w_s_1(m:Int)(te:TypeId)(q:Int):outK prog f330 20 [] (runK prog (DZ m te) F0 2000 (.code (bodyOf f330)) [] 0 ([.int .i64 q]++List.replicate 16 undefT) ⟨0,.nl⟩ [] [])=wdn (T.int .i64 (IntKind.i64.wrap (IntKind.i64.wrap (IntKind.i64.wrap (IntKind.i64.wrap (365*IntKind.i64.wrap (q-1))+IntKind.i64.wrap ((IntKind.i64.wrap (q-1)).tdiv 4))-IntKind.i64.wrap ((IntKind.i64.wrap (q-1)).tdiv 100))+IntKind.i64.wrap ((IntKind.i64.wrap (q-1)).tdiv 400)))) (g330w_s_1 m te q):=by kernel_rfl
theorem c330w(m:Int)(te:TypeId)(q:Int)(n:Nat){r:T}(hk:K330w_s m te q=true)(hr:noM.fin n (V330w_s m te q)=some r):PureFn prog (glZ m te) 330 [.int .i64 q] r:=
 pure_mach (M:=noM) (fn:=f330) (k:=20) (d:=8) (c:=bodyOf f330) (cxZ m te) (glZFrz m te) (by kernel_rfl) func330 (by kernel_rfl) rfl (by kernel_rfl) (by kernel_rfl) (L:=16) (by kernel_rfl) noM_ways (fun σ=>σ.elim) ((kD (w330w_s_1 m te q)) hk _ rfl) hr
end
end Go.Proofs.Tryz
namespace Go.Proofs.Tryz
open Go.Ps
set_option maxRecDepth 100000
theorem w64{x:Int}(h1:-9223372036854775808≤x)(h2:x≤9223372036854775807):IntKind.i64.wrap x=x:=by rw[IntKind.wrap_i64];omega
theorem abs_ok(m:Int)(te:TypeId)(n:Int):PureFn prog (glZ m te) 295 [.int .i64 n] (.int .i64 (absZ n)):=
 c295w m te n 0 (by unfold K295w_s g295w_s_1;rfl) (by unfold V295w_s;rfl)
theorem in_ok(m:Int)(te:TypeId)(n a b:Int):PureFn prog (glZ m te) 329 [.int .i64 n,.int .i64 a,.int .i64 b] (.bool (inZ n a b)):=by
 refine c329w m te n a b 0 ?_ ?_
 ·unfold K329w_s g329w_s_1 g329w_s_2;split<;>simp_all [allT]
 ·unfold V329w_s inZ;by_cases h:a≤n
  ·simp[h,noM,Mch.fin]
  ·simp[h,noM,Mch.fin]
theorem bf_ok(m:Int)(te:TypeId){y:Int}(h1:1≤y)(h2:y≤10000):PureFn prog (glZ m te) 330 [.int .i64 y] (.int .i64 (Cal.bfZ y)):=by
 refine c330w m te y 0 (by unfold K330w_s g330w_s_1;rfl) ?_;unfold V330w_s Cal.bfZ;have e1:IntKind.i64.wrap (y-1)=y-1:=w64 (by omega) (by omega);rw[e1];simp only[Cal.tdiv_nn (show(0:Int)≤y-1 by omega)]
 rw[w64 (x:=365*(y-1)) (by omega) (by omega),w64 (x:=(y-1)/4) (by omega) (by omega),w64 (x:=(y-1)/100) (by omega) (by omega),w64 (x:=(y-1)/400) (by omega) (by omega),
  w64 (x:=365*(y-1)+(y-1)/4) (by omega) (by omega),w64 (x:=365*(y-1)+(y-1)/4-(y-1)/100) (by omega) (by omega),w64 (x:=365*(y-1)+(y-1)/4-(y-1)/100+(y-1)/400) (by omega) (by omega)]
 rfl
theorem cxP(m:Int)(te:TypeId):Cx prog (DP m te) F0:=by
 refine⟨follows,?_,eeNone_ok⟩;refine pdAdd_ok (pdAdd_ok pdNone_ok fun ts r cs h hc=> ?_) fun ts r cs h hc=> ?_
 ·unfold s295 at h;split at h
  ·cases h;exact abs_ok m te _
  ·cases h
 ·unfold s329 at h;split at h
  ·cases h;exact in_ok m te _ _ _
  ·cases h
end Go.Proofs.Tryz
namespace Go.Proofs.Tryz
noncomputable section
open Go.Ps
set_option maxRecDepth 100000
def k301w_s_0(m:Int)(te:TypeId)(q s:Int):List Bool:=let y0:=decide (absZ q>999999999999999);[!y0,!y0,!y0,!y0]
def k301w_s_1(m:Int)(te:TypeId)(q s:Int):List Bool:=let y0:=decide (q< -999999999999999);(!y0)::(!y0)::(!y0)::(!y0)::k301w_s_0 m te q s
def k301w_s_2(m:Int)(te:TypeId)(q s:Int):List Bool:=let y0:=decide (s<0);(!y0)::(!y0)::(!y0)::(!y0)::k301w_s_1 m te q s
def g301w_s_1(m:Int)(te:TypeId)(q s:Int):List Bool:=let y0:=decide (absZ q>999999999999999);[true,true,true,true,true,true,true,true,true,y0,y0,y0,y0]
def g301w_s_2(m:Int)(te:TypeId)(q s:Int):List Bool:=let y0:=decide (q< -999999999999999);true::true::true::true::true::y0::y0::y0::y0::k301w_s_0 m te q s
def g301w_s_3(m:Int)(te:TypeId)(q s:Int):List Bool:=let y0:=decide (s<0);true::y0::y0::y0::y0::k301w_s_1 m te q s
def g301w_s_4(m:Int)(te:TypeId)(q s:Int):List Bool:=(decide (s>12))::k301w_s_2 m te q s
def g301w_s_5(m:Int)(te:TypeId)(q s:Int):List Bool:=(!decide (s>12))::k301w_s_2 m te q s
def V301w_s(m:Int)(te:TypeId)(q s:Int):Empty⊕T:=
 (if decide (absZ q>999999999999999)then(.inr (T.int .i64 2))else(if decide (q< -999999999999999)then(.inr (T.int .i64 2))else(if decide (s<0)then(.inr (T.int .i64 2))else(if decide (s>12)then(.inr (T.int .i64 2))else(.inr (T.int .i64 0))))))
def K301w_s(m:Int)(te:TypeId)(q s:Int):Bool:=
 (if decide (absZ q>999999999999999)then(allT (g301w_s_1 m te q s))else(if decide (q< -999999999999999)then(allT (g301w_s_2 m te q s))else(if decide (s<0)then(allT (g301w_s_3 m te q s))else(if decide (s>12)then(allT (g301w_s_4 m te q s))else(allT (g301w_s_5 m te q s))))))
def r301w_s(m:Int)(te:TypeId)(q s:Int)(ds:List Bool):RD Out:=runK prog (DP m te) F0 2000 (.code (bodyOf f301)) [] 0 ([.agg [.int .i64 q,.int .i64 s]]++List.replicate 21 undefT) ⟨0,.nl⟩ ds []
theorem w301w_s_1(m:Int)(te:TypeId)(q s:Int):outK prog f301 20 [] (r301w_s m te q s (bt 13 8191))=wdn (T.int .i64 2) (g301w_s_1 m te q s):=by kernel_rfl
theorem w301w_s_2(m:Int)(te:TypeId)(q s:Int):outK prog f301 20 [] (r301w_s m te q s (bt 13 8176))=wdn (T.int .i64 2) (g301w_s_2 m te q s):=by kernel_rfl
theorem w301w_s_3(m:Int)(te:TypeId)(q s:Int):outK prog f301 20 [] (r301w_s m te q s (bt 13 7936))=wdn (T.int .i64 2) (g301w_s_3 m te q s):=by kernel_rfl
theorem w301w_s_4(m:Int)(te:TypeId)(q s:Int):outK prog f301 20 [] (r301w_s m te q s (bt 13 4096))=wdn (T.int .i64 2) (g301w_s_4 m te q s):=by kernel_rfl
theorem w301w_s_5(m:Int)(te:TypeId)(q s:Int):outK prog f301 20 [] (r301w_s m te q s (bt 13 0))=wdn (T.int .i64 0) (g301w_s_5 m te q s):=by kernel_rfl
theorem c301w(m:Int)(te:TypeId)(q s:Int)(n:Nat){r:T}(hk:K301w_s m te q s=true)(hr:noM.fin n (V301w_s m te q s)=some r):PureFn prog (glZ m te) 301 [.agg [.int .i64 q,.int .i64 s]] r:=
 pure_mach (M:=noM) (fn:=f301) (k:=20) (d:=8) (c:=bodyOf f301) (cxP m te) (glZFrz m te) (by kernel_rfl) func301 (by kernel_rfl) rfl (by kernel_rfl) (by kernel_rfl) (L:=21) (by kernel_rfl) noM_ways (fun σ=>σ.elim) ((wk_if (kD (w301w_s_1 m te q s)) (wk_if (kD (w301w_s_2 m te q s)) (wk_if (kD (w301w_s_3 m te q s)) (wk_if (kD (w301w_s_4 m te q s)) (kD (w301w_s_5 m te q s)))))) hk _ rfl) hr
def k345w_s_0(m:Int)(te:TypeId)(q:Int):List Bool:=[inZ q 1 9999,inZ q 1 9999,true,inZ q 1 9999,inZ q 1 9999]
def k345w_s_1(m:Int)(te:TypeId)(q:Int):List Bool:=let y0:=q.tmod 4==0;y0::y0::true::y0::y0::k345w_s_0 m te q
def g345w_s_1(m:Int)(te:TypeId)(q:Int):List Bool:=let y0:=q.tmod 4==0;let y1:=q.tmod 100 !=0;y0::y1::y0::y1::y1::y1::k345w_s_1 m te q
def g345w_s_2(m:Int)(te:TypeId)(q:Int):List Bool:=let y0:=q.tmod 4==0;let y1:=q.tmod 100 !=0;y0::(!y1)::y0::(!y1)::true::(!y1)::(!y1)::k345w_s_1 m te q
def g345w_s_3(m:Int)(te:TypeId)(q:Int):List Bool:=let y0:=q.tmod 4==0;(!y0)::(!y0)::(!y0)::(!y0)::(!y0)::(!y0)::k345w_s_0 m te q
def g345w_s_4(m:Int)(te:TypeId)(q:Int):List Bool:=[true,true,true,true,true,true,!inZ q 1 9999,!inZ q 1 9999,!inZ q 1 9999,!inZ q 1 9999]
def V345w_s(m:Int)(te:TypeId)(q:Int):Empty⊕T:=
 (if inZ q 1 9999 then(if q.tmod 4==0 then(if q.tmod 100 !=0 then(.inr (T.bool true))else(.inr (T.bool (q.tmod 400==0))))else(.inr (T.bool false)))else(.inr (T.bool false)))
def K345w_s(m:Int)(te:TypeId)(q:Int):Bool:=
 (if inZ q 1 9999 then(if q.tmod 4==0 then(if q.tmod 100 !=0 then(allT (g345w_s_1 m te q))else(allT (g345w_s_2 m te q)))else(allT (g345w_s_3 m te q)))else(allT (g345w_s_4 m te q)))
def r345w_s(m:Int)(te:TypeId)(q:Int)(ds:List Bool):RD Out:=runK prog (DP m te) F0 2000 (.code (bodyOf f345)) [] 0 ([.int .i64 q]++List.replicate 19 undefT) ⟨0,.nl⟩ ds []
theorem w345w_s_1(m:Int)(te:TypeId)(q:Int):outK prog f345 20 [] (r345w_s m te q (bt 14 16383))=wdn (T.bool true) (g345w_s_1 m te q):=by kernel_rfl
theorem w345w_s_2(m:Int)(te:TypeId)(q:Int):outK prog f345 20 [] (r345w_s m te q (bt 14 10495))=wdn (T.bool (q.tmod 400==0)) (g345w_s_2 m te q):=by kernel_rfl
theorem w345w_s_3(m:Int)(te:TypeId)(q:Int):outK prog f345 20 [] (r345w_s m te q (bt 10 15))=wdn (T.bool false) (g345w_s_3 m te q):=by kernel_rfl
theorem w345w_s_4(m:Int)(te:TypeId)(q:Int):outK prog f345 20 [] (r345w_s m te q (bt 10 0))=wdn (T.bool false) (g345w_s_4 m te q):=by kernel_rfl
theorem c345w(m:Int)(te:TypeId)(q:Int)(n:Nat){r:T}(hk:K345w_s m te q=true)(hr:noM.fin n (V345w_s m te q)=some r):PureFn prog (glZ m te) 345 [.int .i64 q] r:=
 pure_mach (M:=noM) (fn:=f345) (k:=20) (d:=8) (c:=bodyOf f345) (cxP m te) (glZFrz m te) (by kernel_rfl) func345 (by kernel_rfl) rfl (by kernel_rfl) (by kernel_rfl) (L:=19) (by kernel_rfl) noM_ways (fun σ=>σ.elim) ((wk_if (wk_if (wk_if (kD (w345w_s_1 m te q)) (kD (w345w_s_2 m te q))) (kD (w345w_s_3 m te q))) (kD (w345w_s_4 m te q))) hk _ rfl) hr
end
end Go.Proofs.Tryz
namespace Go.Proofs.Tryz
open Go.Ps
set_option maxRecDepth 100000
theorem chkN_ok(m:Int)(te:TypeId)(q s:Int):PureFn prog (glZ m te) 301 [.agg [.int .i64 q,.int .i64 s]] (.int .i64 (chkN q s)):=by
 refine c301w m te q s 0 ?_ ?_
 ·unfold K301w_s g301w_s_1 g301w_s_2 g301w_s_3 g301w_s_4 g301w_s_5 k301w_s_2 k301w_s_1 k301w_s_0
  repeat' split
  all_goals simp_all [allT]
 ·unfold V301w_s chkN mxN;by_cases h1:absZ q>999999999999999
  ·simp[h1,noM,Mch.fin]
  ·by_cases h2:q< -999999999999999
   ·simp[h1,h2,noM,Mch.fin]
   ·by_cases h3:s<0
    ·simp[h1,h2,h3,noM,Mch.fin]
    ·by_cases h4:s>12
     ·simp[h1,h2,h3,h4,noM,Mch.fin]
     ·simp[h1,h2,h3,h4,noM,Mch.fin]
theorem lp_ok(m:Int)(te:TypeId)(y:Int):PureFn prog (glZ m te) 345 [.int .i64 y] (.bool (lpZ y)):=by
 refine c345w m te y 0 ?_ ?_
 ·unfold K345w_s g345w_s_1 g345w_s_2 g345w_s_3 g345w_s_4 k345w_s_1 k345w_s_0
  repeat' split
  all_goals simp_all [allT]
 ·unfold V345w_s lpZ Cal.leap;by_cases h1:inZ y 1 9999=true
  ·by_cases h2:y.tmod 4=0
   ·by_cases h3:y.tmod 100=0
    ·simp only[h1,h2,h3];simp[noM,Mch.fin];rfl
    ·simp[h1,h2,h3,noM,Mch.fin]
   ·simp[h1,h2,noM,Mch.fin]
  ·simp[h1,noM,Mch.fin]
theorem cxQ(m:Int)(te:TypeId):Cx prog (DQ m te) F0:=by
 refine⟨follows,?_,eeNone_ok⟩;refine pdAdd_ok (pdAdd_ok (pdAdd_ok (pdAdd_ok pdNone_ok fun ts r cs h hc=> ?_) fun ts r cs h hc=> ?_) fun ts r cs h hc=> ?_) fun ts r cs h hc=> ?_
 ·unfold s295 at h;split at h
  ·cases h;exact abs_ok m te _
  ·cases h
 ·unfold s329 at h;split at h
  ·cases h;exact in_ok m te _ _ _
  ·cases h
 ·unfold s301 at h;split at h
  ·cases h;exact chkN_ok m te _ _
  ·cases h
 ·unfold s345 at h;split at h
  ·cases h;exact lp_ok m te _
  ·cases h
end Go.Proofs.Tryz
namespace Go.Proofs.Tryz
noncomputable section
open Go.Ps
set_option maxRecDepth 100000
inductive S287w where
 |l0 (x7 x8:Int)
def g287w_s_1(m:Int)(te:TypeId)(fl:Bool)(k:Nat)(f g:Nat→Int):List Bool:=[]
def k287w_0_0(m:Int)(te:TypeId)(fl:Bool)(k:Nat)(f g:Nat→Int)(x7 x8:Int):List Bool:=[true,true,decide (0≤x8),decide (x8<(↑k:Int)),true,decide (x8<x7)]
def g287w_0_1(m:Int)(te:TypeId)(fl:Bool)(k:Nat)(f g:Nat→Int)(x7 x8:Int):List Bool:=(chkN (f x8.toNat) (g x8.toNat) !=0)::k287w_0_0 m te fl k f g x7 x8
def g287w_0_2(m:Int)(te:TypeId)(fl:Bool)(k:Nat)(f g:Nat→Int)(x7 x8:Int):List Bool:=(!chkN (f x8.toNat) (g x8.toNat) !=0)::k287w_0_0 m te fl k f g x7 x8
def g287w_0_3(m:Int)(te:TypeId)(fl:Bool)(k:Nat)(f g:Nat→Int)(x7 x8:Int):List Bool:=[!decide (x8<x7)]
def V287w_0(m:Int)(te:TypeId)(fl:Bool)(k:Nat)(f g:Nat→Int)(x7 x8:Int):S287w⊕T:=
 (if decide (x8<x7)then(if chkN (f x8.toNat) (g x8.toNat) !=0 then(.inr (T.int .i64 (chkN (f x8.toNat) (g x8.toNat))))else(.inl (.l0 x7 (IntKind.i64.wrap (x8+1)))))else(.inr (T.int .i64 0)))
def K287w_0(m:Int)(te:TypeId)(fl:Bool)(k:Nat)(f g:Nat→Int)(x7 x8:Int):Bool:=
 (if decide (x8<x7)then(if chkN (f x8.toNat) (g x8.toNat) !=0 then(allT (g287w_0_1 m te fl k f g x7 x8))else(allT (g287w_0_2 m te fl k f g x7 x8)))else(allT (g287w_0_3 m te fl k f g x7 x8)))
def step287w_0(m:Int)(te:TypeId)(fl:Bool)(k:Nat)(f g:Nat→Int)(x7 x8:Int):Option (S287w⊕T):=if K287w_0 m te fl k f g x7 x8 then some (V287w_0 m te fl k f g x7 x8)else none
theorem T287w_0(m:Int)(te:TypeId)(fl:Bool)(k:Nat)(f g:Nat→Int)(x7 x8:Int)(hk:K287w_0 m te fl k f g x7 x8=true):step287w_0 m te fl k f g x7 x8=some (V287w_0 m te fl k f g x7 x8):=if_pos hk
def V287w_s(m:Int)(te:TypeId)(fl:Bool)(k:Nat)(f g:Nat→Int):S287w⊕T:=
 (.inl (.l0 (↑k:Int) 0))
def K287w_s(m:Int)(te:TypeId)(fl:Bool)(k:Nat)(f g:Nat→Int):Bool:=
 (allT (g287w_s_1 m te fl k f g))
def step287w(m:Int)(te:TypeId)(fl:Bool)(k:Nat)(f g:Nat→Int):S287w→Option (S287w⊕T)
 | .l0 x7 x8=>step287w_0 m te fl k f g x7 x8
def M287w(m:Int)(te:TypeId)(fl:Bool)(k:Nat)(f g:Nat→Int):Mch S287w where
 lp:=fun σ=>match σ with
  | .l0 .. =>0
 keep:=fun ι=>match ι with
  |0=>[6,7,8]
  |_ =>[]
 par:=fun ι=>match ι with
  |0=>[]
  |_ =>[]
 vs:=fun σ=>match σ with
  | .l0 x7 x8=>[T.slf fl k fun i=>T.agg [T.int .i64 (f i),T.int .i64 (g i)],T.int .i64 x7,T.int .i64 x8]
 hp:=fun _ =>⟨0,.nl⟩
 len:=18
 step:=step287w m te fl k f g
def r287w_0(m:Int)(te:TypeId)(fl:Bool)(k:Nat)(f g:Nat→Int)(x7 x8:Int)(fr:List T)(ds:List Bool):RD Out:=(M287w m te fl k f g).rk prog (DQ m te) F0 f287 (.l0 x7 x8) fr ds
theorem w287w_0_1(m:Int)(te:TypeId)(fl:Bool)(k:Nat)(f g:Nat→Int)(x7 x8:Int)(fr:List T):outK prog f287 20 [] (r287w_0 m te fl k f g x7 x8 fr [true,true])=wdn (T.int .i64 (chkN (f x8.toNat) (g x8.toNat))) (g287w_0_1 m te fl k f g x7 x8):=by kernel_rfl
theorem w287w_0_2(m:Int)(te:TypeId)(fl:Bool)(k:Nat)(f g:Nat→Int)(x7 x8:Int)(fr:List T):(M287w m te fl k f g).wa prog f287 (r287w_0 m te fl k f g x7 x8 fr [true,false]) 0 (g287w_0_2 m te fl k f g x7 x8) (.l0 x7 (IntKind.i64.wrap (x8+1))):=by unfold Mch.wa;kernel_rfl
theorem w287w_0_3(m:Int)(te:TypeId)(fl:Bool)(k:Nat)(f g:Nat→Int)(x7 x8:Int)(fr:List T):outK prog f287 20 [] (r287w_0 m te fl k f g x7 x8 fr [false])=wdn (T.int .i64 0) (g287w_0_3 m te fl k f g x7 x8):=by kernel_rfl
theorem w287w_s_1(m:Int)(te:TypeId)(fl:Bool)(k:Nat)(f g:Nat→Int):(M287w m te fl k f g).wl prog f287 (runK prog (DQ m te) F0 2000 (.code (bodyOf f287)) [] 0 ([.slf fl k (fun i=> .agg [.int .i64 (f i),.int .i64 (g i)])]++List.replicate 17 undefT) ⟨0,.nl⟩ [] []) 0 (g287w_s_1 m te fl k f g) (.l0 (↑k:Int) 0):=by unfold Mch.wl;kernel_rfl
theorem ways287w(m:Int)(te:TypeId)(fl:Bool)(k:Nat)(f g:Nat→Int):(M287w m te fl k f g).Ways prog (DQ m te) F0 f287 20:=by
 intro σ o fr h;cases σ with
 |l0 x7 x8=>
  obtain⟨hk,ho⟩:=kv_some (K:=K287w_0 m te fl k f g x7 x8) (V:=V287w_0 m te fl k f g x7 x8) h;exact(wk_if (wk_if (kD (w287w_0_1 m te fl k f g x7 x8 fr)) (kA (w287w_0_2 m te fl k f g x7 x8 fr) rfl)) (kD (w287w_0_3 m te fl k f g x7 x8 fr))) hk o ho
theorem oks287w(m:Int)(te:TypeId)(fl:Bool)(k:Nat)(f g:Nat→Int):∀σ,Ps.codeOk (loopAt f287 ((M287w m te fl k f g).lp σ)).1=true∧ksOk (.lp::(loopAt f287 ((M287w m te fl k f g).lp σ)).2)=true:=oks_of 1 (by kernel_rfl) (by intro σ;cases σ<;>exact Nat.le_of_ble_eq_true rfl)
theorem c287w(m:Int)(te:TypeId)(fl:Bool)(k:Nat)(f g:Nat→Int)(n:Nat){r:T}(hk:K287w_s m te fl k f g=true)(hr:(M287w m te fl k f g).fin n (V287w_s m te fl k f g)=some r):PureFn prog (glZ m te) 287 [.slf fl k (fun i=> .agg [.int .i64 (f i),.int .i64 (g i)])] r:=
 pure_mach (M:=(M287w m te fl k f g)) (fn:=f287) (k:=20) (d:=8) (c:=bodyOf f287) (cxQ m te) (glZFrz m te) (by kernel_rfl) func287 (by kernel_rfl) rfl (by kernel_rfl) (by kernel_rfl) (L:=17) (by kernel_rfl) (ways287w m te fl k f g) (oks287w m te fl k f g) ((kL (w287w_s_1 m te fl k f g) rfl) hk _ rfl) hr
def g331wp1_s_1(m:Int)(te:TypeId)(q:Int):List Bool:=[true,true,true,true,true,true]
def V331wp1_s(m:Int)(te:TypeId)(q:Int):Empty⊕T:=
 (.inr (T.int .i64 31))
def K331wp1_s(m:Int)(te:TypeId)(q:Int):Bool:=
 (allT (g331wp1_s_1 m te q))
theorem w331wp1_s_1(m:Int)(te:TypeId)(q:Int):outK prog f331 20 [] (runK prog (DQ m te) F0 2000 (.code (bodyOf f331)) [] 0 ([.int .i64 q,.int .i64 1]++List.replicate 13 undefT) ⟨0,.nl⟩ (bt 4 0) [])=wdn (T.int .i64 31) (g331wp1_s_1 m te q):=by kernel_rfl
theorem c331wp1(m:Int)(te:TypeId)(q:Int)(n:Nat){r:T}(hk:K331wp1_s m te q=true)(hr:noM.fin n (V331wp1_s m te q)=some r):PureFn prog (glZ m te) 331 [.int .i64 q,.int .i64 1] r:=
 pure_mach (M:=noM) (fn:=f331) (k:=20) (d:=8) (c:=bodyOf f331) (cxQ m te) (glZFrz m te) (by kernel_rfl) func331 (by kernel_rfl) rfl (by kernel_rfl) (by kernel_rfl) (L:=13) (by kernel_rfl) noM_ways (fun σ=>σ.elim) ((kD (w331wp1_s_1 m te q)) hk _ rfl) hr
def g331wp2_s_1(m:Int)(te:TypeId)(q:Int):List Bool:=[lpZ q,true,true,true]
def g331wp2_s_2(m:Int)(te:TypeId)(q:Int):List Bool:=[true,true,!lpZ q,true,true,true]
def V331wp2_s(m:Int)(te:TypeId)(q:Int):Empty⊕T:=
 (if lpZ q then(.inr (T.int .i64 29))else(.inr (T.int .i64 28)))
def K331wp2_s(m:Int)(te:TypeId)(q:Int):Bool:=
 (if lpZ q then(allT (g331wp2_s_1 m te q))else(allT (g331wp2_s_2 m te q)))
def r331wp2_s(m:Int)(te:TypeId)(q:Int)(ds:List Bool):RD Out:=runK prog (DQ m te) F0 2000 (.code (bodyOf f331)) [] 0 ([.int .i64 q,.int .i64 2]++List.replicate 13 undefT) ⟨0,.nl⟩ ds []
theorem w331wp2_s_1(m:Int)(te:TypeId)(q:Int):outK prog f331 20 [] (r331wp2_s m te q (bt 4 15))=wdn (T.int .i64 29) (g331wp2_s_1 m te q):=by kernel_rfl
theorem w331wp2_s_2(m:Int)(te:TypeId)(q:Int):outK prog f331 20 [] (r331wp2_s m te q (bt 4 7))=wdn (T.int .i64 28) (g331wp2_s_2 m te q):=by kernel_rfl
theorem c331wp2(m:Int)(te:TypeId)(q:Int)(n:Nat){r:T}(hk:K331wp2_s m te q=true)(hr:noM.fin n (V331wp2_s m te q)=some r):PureFn prog (glZ m te) 331 [.int .i64 q,.int .i64 2] r:=
 pure_mach (M:=noM) (fn:=f331) (k:=20) (d:=8) (c:=bodyOf f331) (cxQ m te) (glZFrz m te) (by kernel_rfl) func331 (by kernel_rfl) rfl (by kernel_rfl) (by kernel_rfl) (L:=13) (by kernel_rfl) noM_ways (fun σ=>σ.elim) ((wk_if (kD (w331wp2_s_1 m te q)) (kD (w331wp2_s_2 m te q))) hk _ rfl) hr
def g331wp3_s_1(m:Int)(te:TypeId)(q:Int):List Bool:=[true,true,true,true,true,true]
def V331wp3_s(m:Int)(te:TypeId)(q:Int):Empty⊕T:=
 (.inr (T.int .i64 31))
def K331wp3_s(m:Int)(te:TypeId)(q:Int):Bool:=
 (allT (g331wp3_s_1 m te q))
theorem w331wp3_s_1(m:Int)(te:TypeId)(q:Int):outK prog f331 20 [] (runK prog (DQ m te) F0 2000 (.code (bodyOf f331)) [] 0 ([.int .i64 q,.int .i64 3]++List.replicate 13 undefT) ⟨0,.nl⟩ (bt 4 0) [])=wdn (T.int .i64 31) (g331wp3_s_1 m te q):=by kernel_rfl
theorem c331wp3(m:Int)(te:TypeId)(q:Int)(n:Nat){r:T}(hk:K331wp3_s m te q=true)(hr:noM.fin n (V331wp3_s m te q)=some r):PureFn prog (glZ m te) 331 [.int .i64 q,.int .i64 3] r:=
 pure_mach (M:=noM) (fn:=f331) (k:=20) (d:=8) (c:=bodyOf f331) (cxQ m te) (glZFrz m te) (by kernel_rfl) func331 (by kernel_rfl) rfl (by kernel_rfl) (by kernel_rfl) (L:=13) (by kernel_rfl) noM_ways (fun σ=>σ.elim) ((kD (w331wp3_s_1 m te q)) hk _ rfl) hr
def g331wp4_s_1(m:Int)(te:TypeId)(q:Int):List Bool:=[true,true,true,true,true,true]
def V331wp4_s(m:Int)(te:TypeId)(q:Int):Empty⊕T:=
 (.inr (T.int .i64 30))
def K331wp4_s(m:Int)(te:TypeId)(q:Int):Bool:=
 (allT (g331wp4_s_1 m te q))
theorem w331wp4_s_1(m:Int)(te:TypeId)(q:Int):outK prog f331 20 [] (runK prog (DQ m te) F0 2000 (.code (bodyOf f331)) [] 0 ([.int .i64 q,.int .i64 4]++List.replicate 13 undefT) ⟨0,.nl⟩ (bt 4 0) [])=wdn (T.int .i64 30) (g331wp4_s_1 m te q):=by kernel_rfl
theorem c331wp4(m:Int)(te:TypeId)(q:Int)(n:Nat){r:T}(hk:K331wp4_s m te q=true)(hr:noM.fin n (V331wp4_s m te q)=some r):PureFn prog (glZ m te) 331 [.int .i64 q,.int .i64 4] r:=
 pure_mach (M:=noM) (fn:=f331) (k:=20) (d:=8) (c:=bodyOf f331) (cxQ m te) (glZFrz m te) (by kernel_rfl) func331 (by kernel_rfl) rfl (by kernel_rfl) (by kernel_rfl) (L:=13) (by kernel_rfl) noM_ways (fun σ=>σ.elim) ((kD (w331wp4_s_1 m te q)) hk _ rfl) hr
def g331wp5_s_1(m:Int)(te:TypeId)(q:Int):List Bool:=[true,true,true,true,true,true]
def V331wp5_s(m:Int)(te:TypeId)(q:Int):Empty⊕T:=
 (.inr (T.int .i64 31))
def K331wp5_s(m:Int)(te:TypeId)(q:Int):Bool:=
 (allT (g331wp5_s_1 m te q))
theorem w331wp5_s_1(m:Int)(te:TypeId)(q:Int):outK prog f331 20 [] (runK prog (DQ m te) F0 2000 (.code (bodyOf f331)) [] 0 ([.int .i64 q,.int .i64 5]++List.replicate 13 undefT) ⟨0,.nl⟩ (bt 4 0) [])=wdn (T.int .i64 31) (g331wp5_s_1 m te q):=by kernel_rfl
theorem c331wp5(m:Int)(te:TypeId)(q:Int)(n:Nat){r:T}(hk:K331wp5_s m te q=true)(hr:noM.fin n (V331wp5_s m te q)=some r):PureFn prog (glZ m te) 331 [.int .i64 q,.int .i64 5] r:=
 pure_mach (M:=noM) (fn:=f331) (k:=20) (d:=8) (c:=bodyOf f331) (cxQ m te) (glZFrz m te) (by kernel_rfl) func331 (by kernel_rfl) rfl (by kernel_rfl) (by kernel_rfl) (L:=13) (by kernel_rfl) noM_ways (fun σ=>σ.elim) ((kD (w331wp5_s_1 m te q)) hk _ rfl) hr
def g331wp6_s_1(m:Int)(te:TypeId)(q:Int):List Bool:=[true,true,true,true,true,true]
def V331wp6_s(m:Int)(te:TypeId)(q:Int):Empty⊕T:=
 (.inr (T.int .i64 30))
def K331wp6_s(m:Int)(te:TypeId)(q:Int):Bool:=
 (allT (g331wp6_s_1 m te q))
theorem w331wp6_s_1(m:Int)(te:TypeId)(q:Int):outK prog f331 20 [] (runK prog (DQ m te) F0 2000 (.code (bodyOf f331)) [] 0 ([.int .i64 q,.int .i64 6]++List.replicate 13 undefT) ⟨0,.nl⟩ (bt 4 0) [])=wdn (T.int .i64 30) (g331wp6_s_1 m te q):=by kernel_rfl
theorem c331wp6(m:Int)(te:TypeId)(q:Int)(n:Nat){r:T}(hk:K331wp6_s m te q=true)(hr:noM.fin n (V331wp6_s m te q)=some r):PureFn prog (glZ m te) 331 [.int .i64 q,.int .i64 6] r:=
 pure_mach (M:=noM) (fn:=f331) (k:=20) (d:=8) (c:=bodyOf f331) (cxQ m te) (glZFrz m te) (by kernel_rfl) func331 (by kernel_rfl) rfl (by kernel_rfl) (by kernel_rfl) (L:=13) (by kernel_rfl) noM_ways (fun σ=>σ.elim) ((kD (w331wp6_s_1 m te q)) hk _ rfl) hr
def g331wp7_s_1(m:Int)(te:TypeId)(q:Int):List Bool:=[true,true,true,true,true,true]
def V331wp7_s(m:Int)(te:TypeId)(q:Int):Empty⊕T:=
 (.inr (T.int .i64 31))
def K331wp7_s(m:Int)(te:TypeId)(q:Int):Bool:=
 (allT (g331wp7_s_1 m te q))
theorem w331wp7_s_1(m:Int)(te:TypeId)(q:Int):outK prog f331 20 [] (runK prog (DQ m te) F0 2000 (.code (bodyOf f331)) [] 0 ([.int .i64 q,.int .i64 7]++List.replicate 13 undefT) ⟨0,.nl⟩ (bt 4 0) [])=wdn (T.int .i64 31) (g331wp7_s_1 m te q):=by kernel_rfl
theorem c331wp7(m:Int)(te:TypeId)(q:Int)(n:Nat){r:T}(hk:K331wp7_s m te q=true)(hr:noM.fin n (V331wp7_s m te q)=some r):PureFn prog (glZ m te) 331 [.int .i64 q,.int .i64 7] r:=
 pure_mach (M:=noM) (fn:=f331) (k:=20) (d:=8) (c:=bodyOf f331) (cxQ m te) (glZFrz m te) (by kernel_rfl) func331 (by kernel_rfl) rfl (by kernel_rfl) (by kernel_rfl) (L:=13) (by kernel_rfl) noM_ways (fun σ=>σ.elim) ((kD (w331wp7_s_1 m te q)) hk _ rfl) hr
def g331wp8_s_1(m:Int)(te:TypeId)(q:Int):List Bool:=[true,true,true,true,true,true]
def V331wp8_s(m:Int)(te:TypeId)(q:Int):Empty⊕T:=
 (.inr (T.int .i64 31))
def K331wp8_s(m:Int)(te:TypeId)(q:Int):Bool:=
 (allT (g331wp8_s_1 m te q))
theorem w331wp8_s_1(m:Int)(te:TypeId)(q:Int):outK prog f331 20 [] (runK prog (DQ m te) F0 2000 (.code (bodyOf f331)) [] 0 ([.int .i64 q,.int .i64 8]++List.replicate 13 undefT) ⟨0,.nl⟩ (bt 4 0) [])=wdn (T.int .i64 31) (g331wp8_s_1 m te q):=by kernel_rfl
theorem c331wp8(m:Int)(te:TypeId)(q:Int)(n:Nat){r:T}(hk:K331wp8_s m te q=true)(hr:noM.fin n (V331wp8_s m te q)=some r):PureFn prog (glZ m te) 331 [.int .i64 q,.int .i64 8] r:=
 pure_mach (M:=noM) (fn:=f331) (k:=20) (d:=8) (c:=bodyOf f331) (cxQ m te) (glZFrz m te) (by kernel_rfl) func331 (by kernel_rfl) rfl (by kernel_rfl) (by kernel_rfl) (L:=13) (by kernel_rfl) noM_ways (fun σ=>σ.elim) ((kD (w331wp8_s_1 m te q)) hk _ rfl) hr
def g331wp9_s_1(m:Int)(te:TypeId)(q:Int):List Bool:=[true,true,true,true,true,true]
def V331wp9_s(m:Int)(te:TypeId)(q:Int):Empty⊕T:=
 (.inr (T.int .i64 30))
def K331wp9_s(m:Int)(te:TypeId)(q:Int):Bool:=
 (allT (g331wp9_s_1 m te q))
theorem w331wp9_s_1(m:Int)(te:TypeId)(q:Int):outK prog f331 20 [] (runK prog (DQ m te) F0 2000 (.code (bodyOf f331)) [] 0 ([.int .i64 q,.int .i64 9]++List.replicate 13 undefT) ⟨0,.nl⟩ (bt 4 0) [])=wdn (T.int .i64 30) (g331wp9_s_1 m te q):=by kernel_rfl
theorem c331wp9(m:Int)(te:TypeId)(q:Int)(n:Nat){r:T}(hk:K331wp9_s m te q=true)(hr:noM.fin n (V331wp9_s m te q)=some r):PureFn prog (glZ m te) 331 [.int .i64 q,.int .i64 9] r:=
 pure_mach (M:=noM) (fn:=f331) (k:=20) (d:=8) (c:=bodyOf f331) (cxQ m te) (glZFrz m te) (by kernel_rfl) func331 (by kernel_rfl) rfl (by kernel_rfl) (by kernel_rfl) (L:=13) (by kernel_rfl) noM_ways (fun σ=>σ.elim) ((kD (w331wp9_s_1 m te q)) hk _ rfl) hr
def g331wp10_s_1(m:Int)(te:TypeId)(q:Int):List Bool:=[true,true,true,true,true,true]
def V331wp10_s(m:Int)(te:TypeId)(q:Int):Empty⊕T:=
 (.inr (T.int .i64 31))
def K331wp10_s(m:Int)(te:TypeId)(q:Int):Bool:=
 (allT (g331wp10_s_1 m te q))
theorem w331wp10_s_1(m:Int)(te:TypeId)(q:Int):outK prog f331 20 [] (runK prog (DQ m te) F0 2000 (.code (bodyOf f331)) [] 0 ([.int .i64 q,.int .i64 10]++List.replicate 13 undefT) ⟨0,.nl⟩ (bt 4 0) [])=wdn (T.int .i64 31) (g331wp10_s_1 m te q):=by kernel_rfl
theorem c331wp10(m:Int)(te:TypeId)(q:Int)(n:Nat){r:T}(hk:K331wp10_s m te q=true)(hr:noM.fin n (V331wp10_s m te q)=some r):PureFn prog (glZ m te) 331 [.int .i64 q,.int .i64 10] r:=
 pure_mach (M:=noM) (fn:=f331) (k:=20) (d:=8) (c:=bodyOf f331) (cxQ m te) (glZFrz m te) (by kernel_rfl) func331 (by kernel_rfl) rfl (by kernel_rfl) (by kernel_rfl) (L:=13) (by kernel_rfl) noM_ways (fun σ=>σ.elim) ((kD (w331wp10_s_1 m te q)) hk _ rfl) hr
def g331wp11_s_1(m:Int)(te:TypeId)(q:Int):List Bool:=[true,true,true,true,true,true]
def V331wp11_s(m:Int)(te:TypeId)(q:Int):Empty⊕T:=
 (.inr (T.int .i64 30))
def K331wp11_s(m:Int)(te:TypeId)(q:Int):Bool:=
 (allT (g331wp11_s_1 m te q))
theorem w331wp11_s_1(m:Int)(te:TypeId)(q:Int):outK prog f331 20 [] (runK prog (DQ m te) F0 2000 (.code (bodyOf f331)) [] 0 ([.int .i64 q,.int .i64 11]++List.replicate 13 undefT) ⟨0,.nl⟩ (bt 4 0) [])=wdn (T.int .i64 30) (g331wp11_s_1 m te q):=by kernel_rfl
theorem c331wp11(m:Int)(te:TypeId)(q:Int)(n:Nat){r:T}(hk:K331wp11_s m te q=true)(hr:noM.fin n (V331wp11_s m te q)=some r):PureFn prog (glZ m te) 331 [.int .i64 q,.int .i64 11] r:=
 pure_mach (M:=noM) (fn:=f331) (k:=20) (d:=8) (c:=bodyOf f331) (cxQ m te) (glZFrz m te) (by kernel_rfl) func331 (by kernel_rfl) rfl (by kernel_rfl) (by kernel_rfl) (L:=13) (by kernel_rfl) noM_ways (fun σ=>σ.elim) ((kD (w331wp11_s_1 m te q)) hk _ rfl) hr
def g331wp12_s_1(m:Int)(te:TypeId)(q:Int):List Bool:=[true,true,true,true,true,true]
def V331wp12_s(m:Int)(te:TypeId)(q:Int):Empty⊕T:=
 (.inr (T.int .i64 31))
def K331wp12_s(m:Int)(te:TypeId)(q:Int):Bool:=
 (allT (g331wp12_s_1 m te q))
theorem w331wp12_s_1(m:Int)(te:TypeId)(q:Int):outK prog f331 20 [] (runK prog (DQ m te) F0 2000 (.code (bodyOf f331)) [] 0 ([.int .i64 q,.int .i64 12]++List.replicate 13 undefT) ⟨0,.nl⟩ (bt 4 0) [])=wdn (T.int .i64 31) (g331wp12_s_1 m te q):=by kernel_rfl
theorem c331wp12(m:Int)(te:TypeId)(q:Int)(n:Nat){r:T}(hk:K331wp12_s m te q=true)(hr:noM.fin n (V331wp12_s m te q)=some r):PureFn prog (glZ m te) 331 [.int .i64 q,.int .i64 12] r:=
 pure_mach (M:=noM) (fn:=f331) (k:=20) (d:=8) (c:=bodyOf f331) (cxQ m te) (glZFrz m te) (by kernel_rfl) func331 (by kernel_rfl) rfl (by kernel_rfl) (by kernel_rfl) (L:=13) (by kernel_rfl) noM_ways (fun σ=>σ.elim) ((kD (w331wp12_s_1 m te q)) hk _ rfl) hr
end
end Go.Proofs.Tryz
namespace Go.Proofs.Tryz
open Go.Ps
set_option maxRecDepth 100000
theorem tree_eq{α:Type}{b:Bool}{x y z:α}(h1:b=true→x=z)(h2:b=false→y=z):(if b=true then x else y)=z:=by
 cases b
 ·exact h2 rfl
 ·exact h1 rfl
theorem chkN_zero{q s:Int}:chkN q s=0↔absZ q≤mxN∧-mxN≤q∧0≤s∧s≤12:=by
 unfold chkN;split<;>constructor<;>intro h<;>first|omega|(constructor<;>omega)
theorem chkL_ok(m:Int)(te:TypeId)(fl:Bool)(k:Nat)(hk:k<9223372036854775807)(f g:Nat→Int):
  ∃e,PureFn prog (glZ m te) 287 [.slf fl k (fun i=> .agg [.int .i64 (f i),.int .i64 (g i)])] (.int .i64 e)∧(0≤e∧e≤255)∧(e=0→∀i,i<k→chkN (f i) (g i)=0):=by
 have key:∀(d j:Nat),j+d=k→∃e,(M287w m te fl k f g).run (d+1) (.l0 k j)=some (.int .i64 e)∧(0≤e∧e≤255)∧(e=0→∀i,j≤i→i<k→chkN (f i) (g i)=0):=by
  intro d
  induction d with
  |zero=>
   intro j hj;refine⟨0,?_,by omega,fun _ i h1 h2=>by omega⟩;have hK:K287w_0 m te fl k f g k j=true:=by
    unfold K287w_0;rw[if_neg (by simp;omega)];simp[g287w_0_3,allT];omega
   rw[Mch.run_succ,show(M287w m te fl k f g).step (.l0 k j)=some (V287w_0 m te fl k f g k j)from T287w_0 m te fl k f g k j hK];show(M287w m te fl k f g).fin 0 (V287w_0 m te fl k f g k j)=_;unfold V287w_0;rw[if_neg (by simp;omega)];rfl
  |succ d ih=>
   intro j hj;obtain⟨e,h1,hb,h2⟩:=ih (j+1) (by omega);have hlt:decide ((j:Int)<(k:Int))=true:=decide_eq_true (by omega);have hw:IntKind.i64.wrap ((j:Int)+1)=((j+1:Nat):Int):=by
    rw[IntKind.wrap_i64];omega
   have hK:K287w_0 m te fl k f g k j=true:=by
    unfold K287w_0;rw[if_pos hlt];refine tree_eq (fun e=> ?_) (fun e=> ?_)
    ·simp only[g287w_0_1,allT,e,hlt,k287w_0_0];simp
    ·simp only[g287w_0_2,allT,e,hlt,k287w_0_0];simp
   rw[Mch.run_succ,show(M287w m te fl k f g).step (.l0 k j)=some (V287w_0 m te fl k f g k j)from T287w_0 m te fl k f g k j hK];show∃e,(M287w m te fl k f g).fin (d+1) (V287w_0 m te fl k f g k j)=_ ∧_;unfold V287w_0;rw[if_pos hlt];by_cases hc:chkN (f j) (g j)=0
   ·refine⟨e,?_,hb,fun he i h3 h4=> ?_⟩
    ·rw[if_neg (by simp[hc]),Mch.fin_inl,hw];exact h1
    ·by_cases hij:i=j
     ·subst hij;exact hc
     ·exact h2 he i (by omega) h4
   ·refine⟨chkN (f j) (g j),?_,by unfold chkN;split<;>omega,fun he=>absurd he hc⟩;rw[if_pos (by simp[hc])];rfl
 obtain⟨e,h1,hb,h2⟩:=key k 0 (by omega);refine⟨e,c287w m te fl k f g (k+1) (by unfold K287w_s g287w_s_1;rfl) ?_,hb,fun he i hi=>h2 he i (by omega) hi⟩;unfold V287w_s;rw[Mch.fin_inl];exact h1
theorem md_ok(m:Int)(te:TypeId)(y:Int){k:Int}(h1:1≤k)(h2:k≤12):PureFn prog (glZ m te) 331 [.int .i64 y,.int .i64 k] (.int .i64 (Cal.mdL (lpZ y) k)):=by
 have hk:k=1∨k=2∨k=3∨k=4∨k=5∨k=6∨k=7∨k=8∨k=9∨k=10∨k=11∨k=12:=by omega
 rcases hk with rfl|rfl|rfl|rfl|rfl|rfl|rfl|rfl|rfl|rfl|rfl|rfl
 ·exact c331wp1 m te y 0 (by unfold K331wp1_s g331wp1_s_1;rfl) (by unfold V331wp1_s;simp[Cal.mdL,noM,Mch.fin])
 ·refine c331wp2 m te y 0 ?_ ?_
  ·unfold K331wp2_s g331wp2_s_1 g331wp2_s_2;split<;>simp_all [allT]
  ·unfold V331wp2_s Cal.mdL;by_cases h:lpZ y=true
   ·simp[h,noM,Mch.fin]
   ·simp[h,noM,Mch.fin]
 ·exact c331wp3 m te y 0 (by unfold K331wp3_s g331wp3_s_1;rfl) (by unfold V331wp3_s;simp[Cal.mdL,noM,Mch.fin])
 ·exact c331wp4 m te y 0 (by unfold K331wp4_s g331wp4_s_1;rfl) (by unfold V331wp4_s;simp[Cal.mdL,noM,Mch.fin])
 ·exact c331wp5 m te y 0 (by unfold K331wp5_s g331wp5_s_1;rfl) (by unfold V331wp5_s;simp[Cal.mdL,noM,Mch.fin])
 ·exact c331wp6 m te y 0 (by unfold K331wp6_s g331wp6_s_1;rfl) (by unfold V331wp6_s;simp[Cal.mdL,noM,Mch.fin])
 ·exact c331wp7 m te y 0 (by unfold K331wp7_s g331wp7_s_1;rfl) (by unfold V331wp7_s;simp[Cal.mdL,noM,Mch.fin])
 ·exact c331wp8 m te y 0 (by unfold K331wp8_s g331wp8_s_1;rfl) (by unfold V331wp8_s;simp[Cal.mdL,noM,Mch.fin])
 ·exact c331wp9 m te y 0 (by unfold K331wp9_s g331wp9_s_1;rfl) (by unfold V331wp9_s;simp[Cal.mdL,noM,Mch.fin])
 ·exact c331wp10 m te y 0 (by unfold K331wp10_s g331wp10_s_1;rfl) (by unfold V331wp10_s;simp[Cal.mdL,noM,Mch.fin])
 ·exact c331wp11 m te y 0 (by unfold K331wp11_s g331wp11_s_1;rfl) (by unfold V331wp11_s;simp[Cal.mdL,noM,Mch.fin])
 ·exact c331wp12 m te y 0 (by unfold K331wp12_s g331wp12_s_1;rfl) (by unfold V331wp12_s;simp[Cal.mdL,noM,Mch.fin])
theorem itoa_ok(m:Int)(te:TypeId)(n:Int)(hn:-9223372036854775808≤n∧n≤9223372036854775807):PureFn prog (glZ m te) 40 [.int .i64 n] (.str (itoaK n)):=by
 refine peZ_pure ?_;unfold peZ;rw[if_neg (by decide),if_neg (by decide),if_neg (by decide),if_neg (by decide),if_pos rfl];exact if_pos hn
theorem cxR(m:Int)(te:TypeId):Cx prog (DR m te) F0:=by
 refine⟨follows,?_,eeNone_ok⟩;refine pdAdd_ok (pdAdd_ok (pdAdd_ok (pdAdd_ok (pdAdd_ok (pdAdd_ok (pdAdd_ok pdNone_ok fun ts r cs h hc=> ?_) fun ts r cs h hc=> ?_) fun ts r cs h hc=> ?_) fun ts r cs h hc=> ?_) fun ts r cs h hc=> ?_) fun ts r cs h hc=> ?_) fun ts r cs h hc=> ?_
 ·unfold s295 at h;split at h
  ·cases h;exact abs_ok m te _
  ·cases h
 ·unfold s329 at h;split at h
  ·cases h;exact in_ok m te _ _ _
  ·cases h
 ·unfold s301 at h;split at h
  ·cases h;exact chkN_ok m te _ _
  ·cases h
 ·unfold s40 at h;split at h
  ·cases h;simp only[allT,Bool.and_true,Bool.and_eq_true,decide_eq_true_eq]at hc;exact itoa_ok m te _ hc
  ·cases h
 ·unfold s312 at h;split at h
  ·cases h;rename_i s n;simp only[allT,Bool.and_true,Bool.and_eq_true,decide_eq_true_eq]at hc;have:=rep_ok (m:=m) (te:=te) s n.toNat (by omega) (by have:=Nat.mul_le_mul hc.2.2 (show n.toNat≤100 by omega);omega)
   rwa [show((n.toNat:Nat):Int)=n by omega]at this
  ·cases h
 ·unfold s331 at h;split at h
  ·cases h;simp only[allT,Bool.and_true,Bool.and_eq_true,decide_eq_true_eq]at hc;exact md_ok m te _ hc.1 hc.2
  ·cases h
 ·unfold s330 at h;split at h
  ·cases h;simp only[allT,Bool.and_true,Bool.and_eq_true,decide_eq_true_eq]at hc;exact bf_ok m te hc.1 hc.2
  ·cases h
end Go.Proofs.Tryz
namespace Go.Proofs.Tryz
noncomputable section
open Go.Ps
set_option maxRecDepth 100000
inductive S309w where
 |l0 (x2 x6:Int)
 |l1 (x2 x3 x6:Int)
def g309w_s_1(m:Int)(te:TypeId)(q:Int):List Bool:=[!inZ q (-719162) 2932896]
def g309w_s_2(m:Int)(te:TypeId)(q:Int):List Bool:=[true,!!inZ q (-719162) 2932896]
def g309w_0_1(m:Int)(te:TypeId)(q x2 x6:Int):List Bool:=[decide (Cal.bfZ x2>x6),decide (1≤x2),decide (x2≤10000)]
def g309w_0_2(m:Int)(te:TypeId)(q x2 x6:Int):List Bool:=let y0:=decide (1≤x2);let y1:=decide (x2≤10000);[y0,y1,!decide (Cal.bfZ x2>x6),y0,y1]
def g309w_1_1(m:Int)(te:TypeId)(q x2 x3 x6:Int):List Bool:=let y0:=decide (1≤x3);let y1:=decide (x3≤12);[y0,y1,decide (x6≥Cal.mdL (lpZ x2) x3),y0,y1]
def g309w_1_2(m:Int)(te:TypeId)(q x2 x3 x6:Int):List Bool:=[!decide (x6≥Cal.mdL (lpZ x2) x3),decide (1≤x3),decide (x3≤12)]
def V309w_0(m:Int)(te:TypeId)(q x2 x6:Int):S309w⊕T:=
 (if decide (Cal.bfZ x2>x6)then(.inl (.l0 (IntKind.i64.wrap (x2-1)) x6))else(.inl (.l1 x2 1 (IntKind.i64.wrap (x6-Cal.bfZ x2)))))
def K309w_0(m:Int)(te:TypeId)(q x2 x6:Int):Bool:=
 (if decide (Cal.bfZ x2>x6)then(allT (g309w_0_1 m te q x2 x6))else(allT (g309w_0_2 m te q x2 x6)))
def step309w_0(m:Int)(te:TypeId)(q x2 x6:Int):Option (S309w⊕T):=if K309w_0 m te q x2 x6 then some (V309w_0 m te q x2 x6)else none
theorem T309w_0(m:Int)(te:TypeId)(q x2 x6:Int)(hk:K309w_0 m te q x2 x6=true):step309w_0 m te q x2 x6=some (V309w_0 m te q x2 x6):=if_pos hk
def V309w_1(m:Int)(te:TypeId)(q x2 x3 x6:Int):S309w⊕T:=
 (if decide (x6≥Cal.mdL (lpZ x2) x3)then(.inl (.l1 x2 (IntKind.i64.wrap (x3+1)) (IntKind.i64.wrap (x6-Cal.mdL (lpZ x2) x3))))else(.inr (T.tup [T.int .i64 x2,T.int .i64 x3,T.int .i64 (IntKind.i64.wrap (x6+1)),T.int .i64 0])))
def K309w_1(m:Int)(te:TypeId)(q x2 x3 x6:Int):Bool:=
 (if decide (x6≥Cal.mdL (lpZ x2) x3)then(allT (g309w_1_1 m te q x2 x3 x6))else(allT (g309w_1_2 m te q x2 x3 x6)))
def step309w_1(m:Int)(te:TypeId)(q x2 x3 x6:Int):Option (S309w⊕T):=if K309w_1 m te q x2 x3 x6 then some (V309w_1 m te q x2 x3 x6)else none
theorem T309w_1(m:Int)(te:TypeId)(q x2 x3 x6:Int)(hk:K309w_1 m te q x2 x3 x6=true):step309w_1 m te q x2 x3 x6=some (V309w_1 m te q x2 x3 x6):=if_pos hk
def V309w_s(m:Int)(te:TypeId)(q:Int):S309w⊕T:=
 (if !inZ q (-719162) 2932896 then(.inr (T.tup [T.int .i64 0,T.int .i64 0,T.int .i64 0,T.int .i64 2]))else(.inl (.l0 (if 9999<IntKind.i64.wrap (IntKind.i64.wrap ((IntKind.i64.wrap (q- -719162)).tdiv 365)+1)then 9999 else IntKind.i64.wrap (IntKind.i64.wrap ((IntKind.i64.wrap (q- -719162)).tdiv 365)+1)) (IntKind.i64.wrap (q- -719162)))))
def K309w_s(m:Int)(te:TypeId)(q:Int):Bool:=
 (if !inZ q (-719162) 2932896 then(allT (g309w_s_1 m te q))else(allT (g309w_s_2 m te q)))
def step309w(m:Int)(te:TypeId)(q:Int):S309w→Option (S309w⊕T)
 | .l0 x2 x6=>step309w_0 m te q x2 x6
 | .l1 x2 x3 x6=>step309w_1 m te q x2 x3 x6
def M309w(m:Int)(te:TypeId)(q:Int):Mch S309w where
 lp:=fun σ=>match σ with
  | .l0 .. =>0
  | .l1 .. =>1
 keep:=fun ι=>match ι with
  |0=>[2,6]
  |1=>[2,3,6]
  |_ =>[]
 par:=fun ι=>match ι with
  |0=>[]
  |1=>[]
  |_ =>[]
 vs:=fun σ=>match σ with
  | .l0 x2 x6=>[T.int .i64 x2,T.int .i64 x6]
  | .l1 x2 x3 x6=>[T.int .i64 x2,T.int .i64 x3,T.int .i64 x6]
 hp:=fun _ =>⟨0,.nl⟩
 len:=42
 step:=step309w m te q
def r309w_0(m:Int)(te:TypeId)(q x2 x6:Int)(fr:List T)(ds:List Bool):RD Out:=(M309w m te q).rk prog (DR m te) F0 f309 (.l0 x2 x6) fr ds
theorem w309w_0_1(m:Int)(te:TypeId)(q x2 x6:Int)(fr:List T):(M309w m te q).wa prog f309 (r309w_0 m te q x2 x6 fr [true]) 0 (g309w_0_1 m te q x2 x6) (.l0 (IntKind.i64.wrap (x2-1)) x6):=by unfold Mch.wa;kernel_rfl
theorem w309w_0_2(m:Int)(te:TypeId)(q x2 x6:Int)(fr:List T):(M309w m te q).wl prog f309 (r309w_0 m te q x2 x6 fr [false]) 1 (g309w_0_2 m te q x2 x6) (.l1 x2 1 (IntKind.i64.wrap (x6-Cal.bfZ x2))):=by unfold Mch.wl;kernel_rfl
def r309w_1(m:Int)(te:TypeId)(q x2 x3 x6:Int)(fr:List T)(ds:List Bool):RD Out:=(M309w m te q).rk prog (DR m te) F0 f309 (.l1 x2 x3 x6) fr ds
theorem w309w_1_1(m:Int)(te:TypeId)(q x2 x3 x6:Int)(fr:List T):(M309w m te q).wa prog f309 (r309w_1 m te q x2 x3 x6 fr [true]) 0 (g309w_1_1 m te q x2 x3 x6) (.l1 x2 (IntKind.i64.wrap (x3+1)) (IntKind.i64.wrap (x6-Cal.mdL (lpZ x2) x3))):=by unfold Mch.wa;kernel_rfl
theorem w309w_1_2(m:Int)(te:TypeId)(q x2 x3 x6:Int)(fr:List T):outK prog f309 20 [] (r309w_1 m te q x2 x3 x6 fr [false])=wdn (T.tup [T.int .i64 x2,T.int .i64 x3,T.int .i64 (IntKind.i64.wrap (x6+1)),T.int .i64 0]) (g309w_1_2 m te q x2 x3 x6):=by kernel_rfl
def r309w_s(m:Int)(te:TypeId)(q:Int)(ds:List Bool):RD Out:=runK prog (DR m te) F0 2000 (.code (bodyOf f309)) [] 0 ([.int .i64 q]++List.replicate 41 undefT) ⟨0,.nl⟩ ds []
theorem w309w_s_1(m:Int)(te:TypeId)(q:Int):outK prog f309 20 [] (r309w_s m te q [true])=wdn (T.tup [T.int .i64 0,T.int .i64 0,T.int .i64 0,T.int .i64 2]) (g309w_s_1 m te q):=by kernel_rfl
theorem w309w_s_2(m:Int)(te:TypeId)(q:Int):(M309w m te q).wl prog f309 (r309w_s m te q [false]) 0 (g309w_s_2 m te q) (.l0 (if 9999<IntKind.i64.wrap (IntKind.i64.wrap ((IntKind.i64.wrap (q- -719162)).tdiv 365)+1)then 9999 else IntKind.i64.wrap (IntKind.i64.wrap ((IntKind.i64.wrap (q- -719162)).tdiv 365)+1)) (IntKind.i64.wrap (q- -719162))):=by unfold Mch.wl;kernel_rfl
theorem ways309w(m:Int)(te:TypeId)(q:Int):(M309w m te q).Ways prog (DR m te) F0 f309 20:=by
 intro σ o fr h;cases σ with
 |l0 x2 x6=>
  obtain⟨hk,ho⟩:=kv_some (K:=K309w_0 m te q x2 x6) (V:=V309w_0 m te q x2 x6) h;exact(wk_if (kA (w309w_0_1 m te q x2 x6 fr) rfl) (kL (w309w_0_2 m te q x2 x6 fr) rfl)) hk o ho
 |l1 x2 x3 x6=>
  obtain⟨hk,ho⟩:=kv_some (K:=K309w_1 m te q x2 x3 x6) (V:=V309w_1 m te q x2 x3 x6) h;exact(wk_if (kA (w309w_1_1 m te q x2 x3 x6 fr) rfl) (kD (w309w_1_2 m te q x2 x3 x6 fr))) hk o ho
theorem oks309w(m:Int)(te:TypeId)(q:Int):∀σ,Ps.codeOk (loopAt f309 ((M309w m te q).lp σ)).1=true∧ksOk (.lp::(loopAt f309 ((M309w m te q).lp σ)).2)=true:=oks_of 2 (by kernel_rfl) (by intro σ;cases σ<;>exact Nat.le_of_ble_eq_true rfl)
theorem c309w(m:Int)(te:TypeId)(q:Int)(n:Nat){r:T}(hk:K309w_s m te q=true)(hr:(M309w m te q).fin n (V309w_s m te q)=some r):PureFn prog (glZ m te) 309 [.int .i64 q] r:=
 pure_mach (M:=(M309w m te q)) (fn:=f309) (k:=20) (d:=8) (c:=bodyOf f309) (cxR m te) (glZFrz m te) (by kernel_rfl) func309 (by kernel_rfl) rfl (by kernel_rfl) (by kernel_rfl) (L:=41) (by kernel_rfl) (ways309w m te q) (oks309w m te q) ((wk_if (kD (w309w_s_1 m te q)) (kL (w309w_s_2 m te q) rfl)) hk _ rfl) hr
def k259w_s_0(m:Int)(te:TypeId)(q s:Int):List Bool:=[decide (-9223372036854775808≤absZ q),decide (absZ q≤9223372036854775807),!chkN q s !=0]
def k259w_s_1(m:Int)(te:TypeId)(q s:Int):List Bool:=let y0:=decide (0≤IntKind.i64.wrap ((↑(Lib.repeatL [48] (if 0<IntKind.i64.wrap (IntKind.i64.wrap (s+1)-(↑(itoaK (absZ q)).length:Int))then IntKind.i64.wrap (IntKind.i64.wrap (s+1)-(↑(itoaK (absZ q)).length:Int))else 0).toNat++itoaK (absZ q)).length:Int)-s));let y1:=decide (IntKind.i64.wrap ((↑(Lib.repeatL [48] (if 0<IntKind.i64.wrap (IntKind.i64.wrap (s+1)-(↑(itoaK (absZ q)).length:Int))then IntKind.i64.wrap (IntKind.i64.wrap (s+1)-(↑(itoaK (absZ q)).length:Int))else 0).toNat++itoaK (absZ q)).length:Int)-s)≤(↑(Lib.repeatL [48] (if 0<IntKind.i64.wrap (IntKind.i64.wrap (s+1)-(↑(itoaK (absZ q)).length:Int))then IntKind.i64.wrap (IntKind.i64.wrap (s+1)-(↑(itoaK (absZ q)).length:Int))else 0).toNat++itoaK (absZ q)).length:Int));(decide ((List.drop 0 (List.take (IntKind.i64.wrap ((↑(Lib.repeatL [48] (if 0<IntKind.i64.wrap (IntKind.i64.wrap (s+1)-(↑(itoaK (absZ q)).length:Int))then IntKind.i64.wrap (IntKind.i64.wrap (s+1)-(↑(itoaK (absZ q)).length:Int))else 0).toNat++itoaK (absZ q)).length:Int)-s)).toNat (Lib.repeatL [48] (if 0<IntKind.i64.wrap (IntKind.i64.wrap (s+1)-(↑(itoaK (absZ q)).length:Int))then IntKind.i64.wrap (IntKind.i64.wrap (s+1)-(↑(itoaK (absZ q)).length:Int))else 0).toNat++itoaK (absZ q)))++[46]).length+(List.drop (IntKind.i64.wrap ((↑(Lib.repeatL [48] (if 0<IntKind.i64.wrap (IntKind.i64.wrap (s+1)-(↑(itoaK (absZ q)).length:Int))then IntKind.i64.wrap (IntKind.i64.wrap (s+1)-(↑(itoaK (absZ q)).length:Int))else 0).toNat++itoaK (absZ q)).length:Int)-s)).toNat (List.take (Lib.repeatL [48] (if 0<IntKind.i64.wrap (IntKind.i64.wrap (s+1)-(↑(itoaK (absZ q)).length:Int))then IntKind.i64.wrap (IntKind.i64.wrap (s+1)-(↑(itoaK (absZ q)).length:Int))else 0).toNat++itoaK (absZ q)).length (Lib.repeatL [48] (if 0<IntKind.i64.wrap (IntKind.i64.wrap (s+1)-(↑(itoaK (absZ q)).length:Int))then IntKind.i64.wrap (IntKind.i64.wrap (s+1)-(↑(itoaK (absZ q)).length:Int))else 0).toNat++itoaK (absZ q)))).length≤maxStr))::y0::y1::(decide ((List.drop 0 (List.take (IntKind.i64.wrap ((↑(Lib.repeatL [48] (if 0<IntKind.i64.wrap (IntKind.i64.wrap (s+1)-(↑(itoaK (absZ q)).length:Int))then IntKind.i64.wrap (IntKind.i64.wrap (s+1)-(↑(itoaK (absZ q)).length:Int))else 0).toNat++itoaK (absZ q)).length:Int)-s)).toNat (Lib.repeatL [48] (if 0<IntKind.i64.wrap (IntKind.i64.wrap (s+1)-(↑(itoaK (absZ q)).length:Int))then IntKind.i64.wrap (IntKind.i64.wrap (s+1)-(↑(itoaK (absZ q)).length:Int))else 0).toNat++itoaK (absZ q)))).length+1≤maxStr))::y0::y1::(decide ((Lib.repeatL [48] (if 0<IntKind.i64.wrap (IntKind.i64.wrap (s+1)-(↑(itoaK (absZ q)).length:Int))then IntKind.i64.wrap (IntKind.i64.wrap (s+1)-(↑(itoaK (absZ q)).length:Int))else 0).toNat).length+(itoaK (absZ q)).length≤maxStr))::(decide (0≤if 0<IntKind.i64.wrap (IntKind.i64.wrap (s+1)-(↑(itoaK (absZ q)).length:Int))then IntKind.i64.wrap (IntKind.i64.wrap (s+1)-(↑(itoaK (absZ q)).length:Int))else 0))::(decide ((if 0<IntKind.i64.wrap (IntKind.i64.wrap (s+1)-(↑(itoaK (absZ q)).length:Int))then IntKind.i64.wrap (IntKind.i64.wrap (s+1)-(↑(itoaK (absZ q)).length:Int))else 0)≤100))::true::(decide (s>0))::k259w_s_0 m te q s
def g259w_s_1(m:Int)(te:TypeId)(q s:Int):List Bool:=[chkN q s !=0]
def g259w_s_2(m:Int)(te:TypeId)(q s:Int):List Bool:=(decide (1+(List.drop 0 (List.take (IntKind.i64.wrap ((↑(Lib.repeatL [48] (if 0<IntKind.i64.wrap (IntKind.i64.wrap (s+1)-(↑(itoaK (absZ q)).length:Int))then IntKind.i64.wrap (IntKind.i64.wrap (s+1)-(↑(itoaK (absZ q)).length:Int))else 0).toNat++itoaK (absZ q)).length:Int)-s)).toNat (Lib.repeatL [48] (if 0<IntKind.i64.wrap (IntKind.i64.wrap (s+1)-(↑(itoaK (absZ q)).length:Int))then IntKind.i64.wrap (IntKind.i64.wrap (s+1)-(↑(itoaK (absZ q)).length:Int))else 0).toNat++itoaK (absZ q)))++[46]++List.drop (IntKind.i64.wrap ((↑(Lib.repeatL [48] (if 0<IntKind.i64.wrap (IntKind.i64.wrap (s+1)-(↑(itoaK (absZ q)).length:Int))then IntKind.i64.wrap (IntKind.i64.wrap (s+1)-(↑(itoaK (absZ q)).length:Int))else 0).toNat++itoaK (absZ q)).length:Int)-s)).toNat (List.take (Lib.repeatL [48] (if 0<IntKind.i64.wrap (IntKind.i64.wrap (s+1)-(↑(itoaK (absZ q)).length:Int))then IntKind.i64.wrap (IntKind.i64.wrap (s+1)-(↑(itoaK (absZ q)).length:Int))else 0).toNat++itoaK (absZ q)).length (Lib.repeatL [48] (if 0<IntKind.i64.wrap (IntKind.i64.wrap (s+1)-(↑(itoaK (absZ q)).length:Int))then IntKind.i64.wrap (IntKind.i64.wrap (s+1)-(↑(itoaK (absZ q)).length:Int))else 0).toNat++itoaK (absZ q)))).length≤maxStr))::(decide (q<0))::k259w_s_1 m te q s
def g259w_s_3(m:Int)(te:TypeId)(q s:Int):List Bool:=(!decide (q<0))::k259w_s_1 m te q s
def g259w_s_4(m:Int)(te:TypeId)(q s:Int):List Bool:=(decide (1+(itoaK (absZ q)).length≤maxStr))::(decide (q<0))::(!decide (s>0))::k259w_s_0 m te q s
def g259w_s_5(m:Int)(te:TypeId)(q s:Int):List Bool:=(!decide (q<0))::(!decide (s>0))::k259w_s_0 m te q s
def V259w_s(m:Int)(te:TypeId)(q s:Int):Empty⊕T:=
 (if chkN q s !=0 then(.inr (T.tup [T.str [],T.int .i64 (chkN q s)]))else(if decide (s>0)then(if decide (q<0)then(.inr (T.tup [T.str (45::(List.drop 0 (List.take (IntKind.i64.wrap ((↑(Lib.repeatL [48] (if 0<IntKind.i64.wrap (IntKind.i64.wrap (s+1)-(↑(itoaK (absZ q)).length:Int))then IntKind.i64.wrap (IntKind.i64.wrap (s+1)-(↑(itoaK (absZ q)).length:Int))else 0).toNat++itoaK (absZ q)).length:Int)-s)).toNat (Lib.repeatL [48] (if 0<IntKind.i64.wrap (IntKind.i64.wrap (s+1)-(↑(itoaK (absZ q)).length:Int))then IntKind.i64.wrap (IntKind.i64.wrap (s+1)-(↑(itoaK (absZ q)).length:Int))else 0).toNat++itoaK (absZ q)))++[46]++List.drop (IntKind.i64.wrap ((↑(Lib.repeatL [48] (if 0<IntKind.i64.wrap (IntKind.i64.wrap (s+1)-(↑(itoaK (absZ q)).length:Int))then IntKind.i64.wrap (IntKind.i64.wrap (s+1)-(↑(itoaK (absZ q)).length:Int))else 0).toNat++itoaK (absZ q)).length:Int)-s)).toNat (List.take (Lib.repeatL [48] (if 0<IntKind.i64.wrap (IntKind.i64.wrap (s+1)-(↑(itoaK (absZ q)).length:Int))then IntKind.i64.wrap (IntKind.i64.wrap (s+1)-(↑(itoaK (absZ q)).length:Int))else 0).toNat++itoaK (absZ q)).length (Lib.repeatL [48] (if 0<IntKind.i64.wrap (IntKind.i64.wrap (s+1)-(↑(itoaK (absZ q)).length:Int))then IntKind.i64.wrap (IntKind.i64.wrap (s+1)-(↑(itoaK (absZ q)).length:Int))else 0).toNat++itoaK (absZ q))))),T.int .i64 0]))else(.inr (T.tup [T.str (List.drop 0 (List.take (IntKind.i64.wrap ((↑(Lib.repeatL [48] (if 0<IntKind.i64.wrap (IntKind.i64.wrap (s+1)-(↑(itoaK (absZ q)).length:Int))then IntKind.i64.wrap (IntKind.i64.wrap (s+1)-(↑(itoaK (absZ q)).length:Int))else 0).toNat++itoaK (absZ q)).length:Int)-s)).toNat (Lib.repeatL [48] (if 0<IntKind.i64.wrap (IntKind.i64.wrap (s+1)-(↑(itoaK (absZ q)).length:Int))then IntKind.i64.wrap (IntKind.i64.wrap (s+1)-(↑(itoaK (absZ q)).length:Int))else 0).toNat++itoaK (absZ q)))++[46]++List.drop (IntKind.i64.wrap ((↑(Lib.repeatL [48] (if 0<IntKind.i64.wrap (IntKind.i64.wrap (s+1)-(↑(itoaK (absZ q)).length:Int))then IntKind.i64.wrap (IntKind.i64.wrap (s+1)-(↑(itoaK (absZ q)).length:Int))else 0).toNat++itoaK (absZ q)).length:Int)-s)).toNat (List.take (Lib.repeatL [48] (if 0<IntKind.i64.wrap (IntKind.i64.wrap (s+1)-(↑(itoaK (absZ q)).length:Int))then IntKind.i64.wrap (IntKind.i64.wrap (s+1)-(↑(itoaK (absZ q)).length:Int))else 0).toNat++itoaK (absZ q)).length (Lib.repeatL [48] (if 0<IntKind.i64.wrap (IntKind.i64.wrap (s+1)-(↑(itoaK (absZ q)).length:Int))then IntKind.i64.wrap (IntKind.i64.wrap (s+1)-(↑(itoaK (absZ q)).length:Int))else 0).toNat++itoaK (absZ q)))),T.int .i64 0])))else(if decide (q<0)then(.inr (T.tup [T.str (45::(itoaK (absZ q))),T.int .i64 0]))else(.inr (T.tup [T.str (itoaK (absZ q)),T.int .i64 0])))))
def K259w_s(m:Int)(te:TypeId)(q s:Int):Bool:=
 (if chkN q s !=0 then(allT (g259w_s_1 m te q s))else(if decide (s>0)then(if decide (q<0)then(allT (g259w_s_2 m te q s))else(allT (g259w_s_3 m te q s)))else(if decide (q<0)then(allT (g259w_s_4 m te q s))else(allT (g259w_s_5 m te q s)))))
def r259w_s(m:Int)(te:TypeId)(q s:Int)(ds:List Bool):RD Out:=runK prog (DR m te) F0 2000 (.code (bodyOf f259)) [] 0 ([.agg [.int .i64 q,.int .i64 s]]++List.replicate 49 undefT) ⟨0,.nl⟩ ds []
theorem w259w_s_1(m:Int)(te:TypeId)(q s:Int):outK prog f259 20 [] (r259w_s m te q s [true])=wdn (T.tup [T.str [],T.int .i64 (chkN q s)]) (g259w_s_1 m te q s):=by kernel_rfl
theorem w259w_s_2(m:Int)(te:TypeId)(q s:Int):outK prog f259 20 [] (r259w_s m te q s [false,true,true])=wdn (T.tup [T.str (45::(List.drop 0 (List.take (IntKind.i64.wrap ((↑(Lib.repeatL [48] (if 0<IntKind.i64.wrap (IntKind.i64.wrap (s+1)-(↑(itoaK (absZ q)).length:Int))then IntKind.i64.wrap (IntKind.i64.wrap (s+1)-(↑(itoaK (absZ q)).length:Int))else 0).toNat++itoaK (absZ q)).length:Int)-s)).toNat (Lib.repeatL [48] (if 0<IntKind.i64.wrap (IntKind.i64.wrap (s+1)-(↑(itoaK (absZ q)).length:Int))then IntKind.i64.wrap (IntKind.i64.wrap (s+1)-(↑(itoaK (absZ q)).length:Int))else 0).toNat++itoaK (absZ q)))++[46]++List.drop (IntKind.i64.wrap ((↑(Lib.repeatL [48] (if 0<IntKind.i64.wrap (IntKind.i64.wrap (s+1)-(↑(itoaK (absZ q)).length:Int))then IntKind.i64.wrap (IntKind.i64.wrap (s+1)-(↑(itoaK (absZ q)).length:Int))else 0).toNat++itoaK (absZ q)).length:Int)-s)).toNat (List.take (Lib.repeatL [48] (if 0<IntKind.i64.wrap (IntKind.i64.wrap (s+1)-(↑(itoaK (absZ q)).length:Int))then IntKind.i64.wrap (IntKind.i64.wrap (s+1)-(↑(itoaK (absZ q)).length:Int))else 0).toNat++itoaK (absZ q)).length (Lib.repeatL [48] (if 0<IntKind.i64.wrap (IntKind.i64.wrap (s+1)-(↑(itoaK (absZ q)).length:Int))then IntKind.i64.wrap (IntKind.i64.wrap (s+1)-(↑(itoaK (absZ q)).length:Int))else 0).toNat++itoaK (absZ q))))),T.int .i64 0]) (g259w_s_2 m te q s):=by kernel_rfl
theorem w259w_s_3(m:Int)(te:TypeId)(q s:Int):outK prog f259 20 [] (r259w_s m te q s [false,true,false])=wdn (T.tup [T.str (List.drop 0 (List.take (IntKind.i64.wrap ((↑(Lib.repeatL [48] (if 0<IntKind.i64.wrap (IntKind.i64.wrap (s+1)-(↑(itoaK (absZ q)).length:Int))then IntKind.i64.wrap (IntKind.i64.wrap (s+1)-(↑(itoaK (absZ q)).length:Int))else 0).toNat++itoaK (absZ q)).length:Int)-s)).toNat (Lib.repeatL [48] (if 0<IntKind.i64.wrap (IntKind.i64.wrap (s+1)-(↑(itoaK (absZ q)).length:Int))then IntKind.i64.wrap (IntKind.i64.wrap (s+1)-(↑(itoaK (absZ q)).length:Int))else 0).toNat++itoaK (absZ q)))++[46]++List.drop (IntKind.i64.wrap ((↑(Lib.repeatL [48] (if 0<IntKind.i64.wrap (IntKind.i64.wrap (s+1)-(↑(itoaK (absZ q)).length:Int))then IntKind.i64.wrap (IntKind.i64.wrap (s+1)-(↑(itoaK (absZ q)).length:Int))else 0).toNat++itoaK (absZ q)).length:Int)-s)).toNat (List.take (Lib.repeatL [48] (if 0<IntKind.i64.wrap (IntKind.i64.wrap (s+1)-(↑(itoaK (absZ q)).length:Int))then IntKind.i64.wrap (IntKind.i64.wrap (s+1)-(↑(itoaK (absZ q)).length:Int))else 0).toNat++itoaK (absZ q)).length (Lib.repeatL [48] (if 0<IntKind.i64.wrap (IntKind.i64.wrap (s+1)-(↑(itoaK (absZ q)).length:Int))then IntKind.i64.wrap (IntKind.i64.wrap (s+1)-(↑(itoaK (absZ q)).length:Int))else 0).toNat++itoaK (absZ q)))),T.int .i64 0]) (g259w_s_3 m te q s):=by kernel_rfl
theorem w259w_s_4(m:Int)(te:TypeId)(q s:Int):outK prog f259 20 [] (r259w_s m te q s [false,false,true])=wdn (T.tup [T.str (45::(itoaK (absZ q))),T.int .i64 0]) (g259w_s_4 m te q s):=by kernel_rfl
theorem w259w_s_5(m:Int)(te:TypeId)(q s:Int):outK prog f259 20 [] (r259w_s m te q s [false,false,false])=wdn (T.tup [T.str (itoaK (absZ q)),T.int .i64 0]) (g259w_s_5 m te q s):=by kernel_rfl
theorem c259w(m:Int)(te:TypeId)(q s:Int)(n:Nat){r:T}(hk:K259w_s m te q s=true)(hr:noM.fin n (V259w_s m te q s)=some r):PureFn prog (glZ m te) 259 [.agg [.int .i64 q,.int .i64 s]] r:=
 pure_mach (M:=noM) (fn:=f259) (k:=20) (d:=8) (c:=bodyOf f259) (cxR m te) (glZFrz m te) (by kernel_rfl) func259 (by kernel_rfl) rfl (by kernel_rfl) (by kernel_rfl) (L:=49) (by kernel_rfl) noM_ways (fun σ=>σ.elim) ((wk_if (kD (w259w_s_1 m te q s)) (wk_if (wk_if (kD (w259w_s_2 m te q s)) (kD (w259w_s_3 m te q s))) (wk_if (kD (w259w_s_4 m te q s)) (kD (w259w_s_5 m te q s))))) hk _ rfl) hr
end
end Go.Proofs.Tryz
namespace Go.Proofs.Tryz
open Go.Ps
set_option maxRecDepth 100000
theorem md_in(l:Bool)(k:Int):28≤Cal.mdL l k∧Cal.mdL l k≤31:=by
 unfold Cal.mdL;repeat' split
 all_goals omega
theorem rem_le(l:Bool)(k:Int):Cal.remL l k≤366:=by
 unfold Cal.remL;repeat' split
 all_goals omega
theorem civ_month(m:Int)(te:TypeId)(q:Int){y:Int}(hy1:1≤y)(hy2:y≤9999):∀(d:Nat) (k n:Int),(13-k).toNat≤d→1≤k→k≤12→0≤n→n<Cal.remL (lpZ y) k→
  ∃k' n',(M309w m te q).run (d+1) (.l1 y k n)=some (.tup [.int .i64 y,.int .i64 k',.int .i64 n',.int .i64 0])∧1≤k'∧k'≤12∧1≤n'∧n'≤31
 |d,k,n,hd,h1,h2,h3,h4=>by
  have hm:=md_in (lpZ y) k;have hrl:=rem_le (lpZ y) k;have hK:K309w_1 m te q y k n=true:=by
   unfold K309w_1;refine tree_eq (fun e=> ?_) (fun e=> ?_)
   ·simp only[g309w_1_1,allT,e];simp[h1,h2]
   ·simp only[g309w_1_2,allT,e];simp[h1,h2]
  rw[Mch.run_succ,show(M309w m te q).step (.l1 y k n)=some (V309w_1 m te q y k n)from T309w_1 m te q y k n hK];show∃k' n',(M309w m te q).fin d (V309w_1 m te q y k n)=_ ∧_;unfold V309w_1;have hs:=Cal.rem_step (l:=lpZ y) h1 h2;by_cases hc:n≥Cal.mdL (lpZ y) k
  ·rw[if_pos (by simpa using hc),Mch.fin_inl,w64 (by omega) (by omega),w64 (by omega) (by omega)];have hk:k+1≤12:=by
    refine Classical.byContradiction fun hn=> ?_;rw[Cal.rem_end _ (k:=k+1) (by omega)]at hs;omega
   obtain⟨d',rfl⟩:∃d',d=d'+1:=⟨d-1,by omega⟩;exact civ_month m te q hy1 hy2 d' (k+1) (n-Cal.mdL (lpZ y) k) (by omega) (by omega) hk (by omega) (by omega)
  ·rw[if_neg (by simpa using hc),w64 (by omega) (by omega)];exact⟨k,n+1,rfl,h1,h2,by omega,by omega⟩
 termination_by d=>d
theorem lpZ_leap{y:Int}(h1:1≤y)(h2:y≤9999):lpZ y=Cal.leap y:=by
 unfold lpZ inZ;rw[decide_eq_true h1,decide_eq_true h2];rfl
theorem civ_year(m:Int)(te:TypeId)(q n:Int)(hn:0≤n)(hn2:n≤4000000):∀(d:Nat) (y:Int),y.toNat=d→1≤y→y≤9999→n<Cal.bfZ (y+1)→
  ∃y' k' n',(M309w m te q).run (d+20) (.l0 y n)=some (.tup [.int .i64 y',.int .i64 k',.int .i64 n',.int .i64 0])∧1≤y'∧y'≤9999∧1≤k'∧k'≤12∧1≤n'∧n'≤31
 |d,y,hd,h1,h2,h3=>by
  have hb:=Cal.bf_nn h1 (by omega);have hK:K309w_0 m te q y n=true:=by
   unfold K309w_0;have hy3:y≤10000:=by omega
   refine tree_eq (fun e=> ?_) (fun e=> ?_)
   ·simp only[g309w_0_1,allT,e];simp[h1,hy3]
   ·simp only[g309w_0_2,allT,e];simp[h1,hy3]
  rw[show d+20=(d+19)+1 by omega,Mch.run_succ,show(M309w m te q).step (.l0 y n)=some (V309w_0 m te q y n)from T309w_0 m te q y n hK];show∃y' k' n',(M309w m te q).fin (d+19) (V309w_0 m te q y n)=_ ∧_;unfold V309w_0;by_cases hc:Cal.bfZ y>n
  ·rw[if_pos (by simpa using hc),Mch.fin_inl,w64 (by omega) (by omega)];have hy:2≤y:=by
    refine Classical.byContradiction fun hq=> ?_;obtain rfl:y=1:=by omega
    rw[Cal.bf_one]at hc;omega
   obtain⟨d',rfl⟩:∃d',d=d'+1:=⟨d-1,by omega⟩;have:=civ_year m te q n hn hn2 d' (y-1) (by omega) (by omega) (by omega) (by rw[Int.sub_add_cancel];exact hc)
   rwa [show d'+1+19=d'+20 by omega]
  ·rw[if_neg (by simpa using hc),Mch.fin_inl,w64 (by omega) (by omega)];have hs:=Cal.bf_succ h1
   obtain⟨k',n',e,q1,q2,q3,q4⟩:=civ_month m te q h1 h2 (d+18) 1 (n-Cal.bfZ y) (by omega) (by omega) (by omega) (by omega) (by
    rw[Cal.rem_one,lpZ_leap h1 h2]
    omega)
   exact⟨y,k',n',e,h1,h2,q1,q2,q3,q4⟩
 termination_by d=>d
theorem civil_ok(m:Int)(te:TypeId)(q:Int)(hq:-9223372036854775808≤q∧q≤9223372036854775807):
  ∃y k n e,PureFn prog (glZ m te) 309 [.int .i64 q] (.tup [.int .i64 y,.int .i64 k,.int .i64 n,.int .i64 e])∧(0≤y∧y≤9999)∧(0≤k∧k≤12)∧(0≤n∧n≤31)∧0≤e∧e≤255:=by
 have hK:K309w_s m te q=true:=by
  unfold K309w_s;refine tree_eq (fun e=> ?_) (fun e=> ?_)
  ·simp only[g309w_s_1,allT,e];rfl
  ·simp only[g309w_s_2,allT,e];rfl
 by_cases hi:inZ q (-719162) 2932896=true
 ·have hi':=hi;unfold inZ at hi';simp only[Bool.and_eq_true,decide_eq_true_eq]at hi';have e1:IntKind.i64.wrap (q- -719162)=q+719162:=by rw[w64 (by omega) (by omega)];omega
  have e2:(q+719162).tdiv 365=(q+719162)/365:=Cal.tdiv_nn (by omega);have hst:=Cal.bf_start (n:=q+719162) (by omega) (by omega);obtain⟨Y,hY⟩:∃Y,min ((q+719162)/365+1) 9999=Y:=⟨_,rfl⟩;rw[hY]at hst;obtain⟨y',k',n',e,p1,p2,p3,p4,p5,p6⟩:=civ_year m te q (q+719162) (by omega) (by omega) Y.toNat Y rfl (by omega) (by omega) hst;refine⟨y',k',n',0,c309w m te q _ hK (?_ :(M309w m te q).fin (Y.toNat+20) _ =_),⟨by omega,p2⟩,⟨by omega,p4⟩,⟨by omega,p6⟩,by omega,by omega⟩;unfold V309w_s;rw[if_neg (by simp[hi]),Mch.fin_inl,e1,e2,w64 (x:=(q+719162)/365) (by omega) (by omega),w64 (x:=(q+719162)/365+1) (by omega) (by omega)];rw[show(if 9999<(q+719162)/365+1 then 9999 else(q+719162)/365+1)=Y by rw[←hY];split<;>omega];exact e
 ·refine⟨0,0,0,2,c309w m te q 0 hK ?_,by omega,by omega,by omega,by omega,by omega⟩;unfold V309w_s;rw[if_pos (by simpa using hi)];rfl
end Go.Proofs.Tryz
namespace Go.Proofs.Tryz
open Go.Ps
variable[Inhabited Prd]
set_option maxRecDepth 100000
theorem ntext_ok(m:Int)(te:TypeId)(q s:Int)(hq:-9223372036854775808≤q∧q≤9223372036854775807):
  ∃t e,PureFn prog (glZ m te) 259 [.agg [.int .i64 q,.int .i64 s]] (.tup [.str t,.int .i64 e])∧t.length≤40∧0≤e∧e≤255:=by
 by_cases hc:chkN q s=0
 ·obtain⟨h1,h2,h3,h4⟩:=chkN_zero.1 hc;have ha0:-9223372036854775808≤absZ q:=by
   unfold absZ;split
   ·rw[IntKind.wrap_i64];omega
   ·omega
  have ha1:absZ q≤9223372036854775807:=by unfold mxN at h1;omega
  have hl:=itoaK_len (absZ q);have hK:K259w_s m te q s=true∧∃t,V259w_s m te q s= .inr (.tup [.str t,.int .i64 0])∧t.length≤40:=by
   unfold K259w_s V259w_s g259w_s_1 g259w_s_2 g259w_s_3 g259w_s_4 g259w_s_5 k259w_s_1 k259w_s_0;have hd1:decide (-9223372036854775808≤absZ q)=true:=decide_eq_true ha0;have hd2:decide (absZ q≤9223372036854775807)=true:=decide_eq_true ha1;simp only[hd1,hd2,hc];generalize itoaK (absZ q)=A at hl;have e1:IntKind.i64.wrap (s+1)=s+1:=w64 (by omega) (by omega);have e2:IntKind.i64.wrap (s+1-(A.length:Int))=s+1-(A.length:Int):=w64 (by omega) (by omega);simp only[e1,e2];obtain⟨c,hcc⟩:∃c,(if 0<s+1-(A.length:Int)then s+1-(A.length:Int)else 0)=c:=⟨_,rfl⟩;have hc0:0≤c∧c≤13∧s+1≤c+(A.length:Int):=by rw[←hcc];split<;>omega
   simp only[hcc];have hZ:(Lib.repeatL [48] c.toNat).length=c.toNat:=by rw[Lib.repeatL_length];simp
   generalize Lib.repeatL [48] c.toNat=Z at hZ;have hS:(Z++A).length=Z.length+A.length:=List.length_append;have e3:IntKind.i64.wrap (((Z++A).length:Int)-s)=((Z++A).length:Int)-s:=w64 (by omega) (by omega);simp only[e3];have hlen:(Z.length:Int)=c:=by omega
   simp only[show((0:Int) !=0)=false from rfl,Bool.false_eq_true,if_false];by_cases p1:s>0
   ·simp only[show decide (s>0)=true from decide_eq_true p1,if_true];generalize Z++A=S at hS;have b1:0≤(S.length:Int)-s:=by omega
    have b2:(S.length:Int)-s≤(S.length:Int):=by omega
    have l1:(List.drop 0 (List.take ((S.length:Int)-s).toNat S)).length=((S.length:Int)-s).toNat:=by simp;omega
    have l2:(List.drop ((S.length:Int)-s).toNat (List.take S.length S)).length=s.toNat:=by simp;omega
    have l3:(List.drop 0 (List.take ((S.length:Int)-s).toNat S)++[46]).length=((S.length:Int)-s).toNat+1:=by rw[List.length_append,l1];rfl
    have l4:(List.drop 0 (List.take ((S.length:Int)-s).toNat S)++[46]++List.drop ((S.length:Int)-s).toNat (List.take S.length S)).length=((S.length:Int)-s).toNat+1+s.toNat:=by rw[List.length_append,l3,l2]
    by_cases p2:q<0
    ·simp only[show decide (q<0)=true from decide_eq_true p2,if_true];refine⟨?_,_,rfl,?_⟩
     ·simp only[allT,l1,l2,l3,l4,Bool.and_eq_true,decide_eq_true_eq];simp[maxStr,p1,p2];omega
     ·simp only[List.length_cons,l4];omega
    ·simp only[show decide (q<0)=false from decide_eq_false p2,Bool.false_eq_true,if_false];refine⟨?_,_,rfl,?_⟩
     ·simp only[allT,l1,l2,l3,l4,Bool.and_eq_true,decide_eq_true_eq];simp[maxStr,p1,p2];omega
     ·rw[l4];omega
   ·simp only[show decide (s>0)=false from decide_eq_false p1,Bool.false_eq_true,if_false];by_cases p2:q<0
    ·simp only[show decide (q<0)=true from decide_eq_true p2,if_true];refine⟨?_,_,rfl,?_⟩
     ·simp only[allT,Bool.and_eq_true,decide_eq_true_eq];simp[maxStr,p1,p2];omega
     ·simp only[List.length_cons];omega
    ·simp only[show decide (q<0)=false from decide_eq_false p2,Bool.false_eq_true,if_false];refine⟨?_,_,rfl,?_⟩
     ·simp only[allT,Bool.and_eq_true,decide_eq_true_eq];simp[maxStr,p1,p2]
     ·omega
  obtain⟨k1,t,k2,k3⟩:=hK;exact⟨t,0,c259w m te q s 0 k1 (by rw[k2];rfl),k3,by omega,by omega⟩
 ·refine⟨[],chkN q s,c259w m te q s 0 ?_ ?_,by simp,?_⟩
  ·unfold K259w_s g259w_s_1;rw[if_pos (by simpa using hc)];simp[allT,hc]
  ·unfold V259w_s;rw[if_pos (by simpa using hc)];rfl
  ·unfold chkN;split<;>omega
end Go.Proofs.Tryz
namespace Go.Ps
def pl1:T→Bool
 | .int .. | .bool _ | .str _ | .nilp| .nils| .nilf| .nili| .nilm| .slf .. =>true
 |_ =>false
theorem pl1_rdI{g:G}{u:Value}{c:T}(h:pl1 c=true)(hr:Rd g u c):RdI g u c:=by
 cases hr with
 |int k n=>exact .int k n
 |bool b=>exact .bool b
 |str s=>exact .str s
 |nilp=>exact .nilp
 |nils=>exact .nils
 |nilf=>exact .nilf
 |nili=>exact .nili
 |nilm=>exact .nilm
 |slfn full f p=>exact .slfn full f p
 |slf full n f sz b o cap vs h1 h2 h3 h4 h5 h6 h7 h8=>exact .slf full n f sz b o cap vs h1 h2 h3 h4 h5 h6 h7 h8
 |_ =>simp[pl1]at h
def flT:T→Bool
 | .sl b _ =>b
 | .slf b _ _ =>b
 |_ =>true
theorem rd_isSl{g:G}{v:Value}{t:T}{xs:List T}{f:Nat→T}(hx:IsSl t xs)(h:Rd g v t)(hs:∀x∈xs,∀c∈x.cells,pl1 c=true)(hf:∀i,i<xs.length→xs[i]? =some (f i)):Rd g v (.slf (flT t) xs.length f):=by
 rcases hx with⟨rfl,rfl⟩|⟨full,rfl⟩|⟨full,n,f',rfl,rfl⟩
 ·cases h;exact .slfn true f _
 ·cases h with
  |sl _ _ sz b o cap vs h1 h2 h3 h4 h5 h6 h7 h8=>
   refine .slf full xs.length f sz b o cap vs (fun q=>h1 (fun e=>q (by simp[e]))) (fun i hi=>h2 _ (List.mem_of_getElem? (hf i hi))) h3 h4 h5 h6 h7 (fun i j u c hi hj hu hc=> ?_);have hm:=List.mem_of_getElem? (hf i hi);have hr:=h8 _ u c hu (rows_at h2 (hf i hi) j c hc);exact pl1_rdI (hs _ hm c (List.mem_of_getElem? hc)) hr
 ·have hl:((List.range n).map f').length=n:=by simp
  have he:∀i,i<n→f i=f' i:=fun i hi=>by
   have:=hf i (by omega);rw[List.getElem?_map,List.getElem?_range hi]at this;exact(Option.some.inj this).symm
  rw[hl];cases h with
  |slfn _ _ p=>exact .slfn full f p
  |slf _ _ _ sz b o cap vs h1 h2 h3 h4 h5 h6 h7 h8=>
   exact .slf full n f sz b o cap vs h1 (fun i hi=>by rw[he i hi];exact h2 i hi) h3 h4 h5 h6 h7 (fun i j u c hi hj hu hc=>by rw[he i hi]at hc;exact h8 i j u c hi hj hu hc)
end Go.Ps
namespace Go.Proofs.Tryz
open Go.Ps
variable[Inhabited Prd]
set_option maxRecDepth 100000
theorem okN_iff(n s:Int)(h:chkN n s=0):okN (.agg [.int .i64 n,.int .i64 s]):=by
 obtain⟨h1,h2,h3,h4⟩:=chkN_zero.1 h;refine⟨n,s,rfl,h2,?_,h3,h4⟩;unfold absZ mxN at h1;split at h1<;>omega
def Q287(ts:List T)(r:T):Prop:=∃e:Int,r= .int .i64 e∧0≤e∧e≤255∧(e=0→∀t xs,ts=[t]→IsSl t xs→∀x∈xs,okN x)
theorem q287(m:Int)(te:TypeId){t:T}{xs:List T}(hx:IsSl t xs)(hl:(xs.length:Int)≤256)(hn:∀x∈xs,∃n s:Int,x= .agg [.int .i64 n,.int .i64 s]):∃r,PureFn prog (glZ m te) 287 [t] r∧Q287 [t] r:=by
 have hex:∃f g:Nat→Int,∀i,i<xs.length→xs[i]? =some (.agg [.int .i64 (f i),.int .i64 (g i)]):=by
  refine⟨fun i=>(match xs[i]? with|some (.agg [.int _ n,_])=>n|_ =>0),fun i=>(match xs[i]? with|some (.agg [_,.int _ s])=>s|_ =>0),fun i hi=> ?_⟩;obtain⟨n,s,e⟩:=hn xs[i] (List.getElem_mem hi);have:xs[i]? =some (.agg [.int .i64 n,.int .i64 s]):=by rw[List.getElem?_eq_getElem hi,e]
  simp only[this]
 obtain⟨f,g,hfg⟩:=hex;have hp:∀x∈xs,∀c∈x.cells,pl1 c=true:=fun x h c hc=>by
  obtain⟨n,s,rfl⟩:=hn x h;have hc:c∈[T.int .i64 n,T.int .i64 s]:=hc;simp only[List.mem_cons,List.not_mem_nil,or_false]at hc;rcases hc with rfl|rfl<;>rfl
 obtain⟨e,he,hb,h2⟩:=chkL_ok m te (flT t) xs.length (by omega) f g;refine⟨.int .i64 e,⟨he.1,fun G vs hg hN hgl hv=> ?_⟩,e,rfl,hb.1,hb.2,fun hz t' xs' ht hx' x hm=> ?_⟩
 ·obtain⟨v,rfl,hr⟩:∃v,vs=[v]∧Rd G v t:=by
   match vs,hv with
   |[v],hv=>exact⟨v,rfl,hv.2 0 v t rfl rfl⟩
   |[],hv=>have:=hv.1;simp at this
   |_ ::_ ::_,hv=>have:=hv.1;simp at this
  exact he.2 G [v] hg hN hgl (RdL.cons (rd_isSl hx hr hp hfg) RdL.nil)
 ·cases ht;obtain rfl:=isSl_eq hx' hx;obtain⟨i,hi,rfl⟩:=List.getElem_of_mem hm;have:=hfg i hi;rw[List.getElem?_eq_getElem hi]at this;rw[Option.some.inj this];exact okN_iff _ _ (h2 hz i hi)
end Go.Proofs.Tryz
namespace Go.Proofs.Tryz
open Go.Ps
set_option maxRecDepth 100000
variable[Inhabited Prd]
noncomputable section
def eD0(m:Int)(te:TypeId):=knP prog (glZ m te) c342 (eK5 m te)
def dD0:FuncId→Bool:=fun f=>Nat.beq 342 f||dK5 f
theorem layD0(hI:Is)(m:Int)(te:TypeId):Lay prog (glZ m te) 40 (fun _ =>none) pD0 (eD0 m te) dD0:=by
 refine(layK5 hI m te).known dep40 (c:=c342) (by kernel_rfl) fun ts h=> ?_;rw[(show GmL [] [] [] ts from h).inv_nil];refine⟨_,powers_ok m te,fun I=> ?_⟩;have e:powL=[.int .i64 1,.int .i64 10,.int .i64 100,.int .i64 1000,.int .i64 10000,.int .i64 100000,.int .i64 1000000,.int .i64 10000000,.int .i64 100000000,.int .i64 1000000000,.int .i64 10000000000,.int .i64 100000000000,.int .i64 1000000000000]:=by kernel_rfl
 rw[e];have one:∀n:Int,-9223372036854775808≤n→n≤9223372036854775807→ @Gm I [] [] (cOne n) (.int .i64 n):=fun n h1 h2=> @Gm.ival I [] [] _ _ _ _ (Int.le_refl _) (Int.le_refl _) ⟨h1,h2⟩;exact agg_of (gml_cons (one _ (by decide) (by decide)) (gml_cons (one _ (by decide) (by decide)) (gml_cons (one _ (by decide) (by decide)) (gml_cons (one _ (by decide) (by decide)) (gml_cons (one _ (by decide) (by decide)) (gml_cons (one _ (by decide) (by decide)) (gml_cons (one _ (by decide) (by decide)) (gml_cons (one _ (by decide) (by decide)) (gml_cons (one _ (by decide) (by decide)) (gml_cons (one _ (by decide) (by decide)) (gml_cons (one _ (by decide) (by decide)) (gml_cons (one _ (by decide) (by decide)) (gml_cons (one _ (by decide) (by decide)) gml_nil)))))))))))))
def eD1:=nE gD1 eD0
def dD1:=nD gD1 dD0
theorem layD1(hI:Is)(m:Int)(te:TypeId):LayT m te (pD1) (eD1 m te) dD1:=go (layD0 hI m te) [323,162,35,243] rD1 rfl (by kernel_rfl) (by kernel_rfl) ⟨r5,trivial⟩
def eD2:=nE gD2 eD1
def dD2:=nD gD2 dD1
theorem layD2(hI:Is)(m:Int)(te:TypeId):LayT m te (pD2) (eD2 m te) dD2:=go (layD1 hI m te) [288,296,297,295] rD2 rfl (by kernel_rfl) (by kernel_rfl) ⟨r5,trivial⟩
def eD3:=nE gD3 eD2
def dD3:=nD gD3 dD2
theorem layD3(hI:Is)(m:Int)(te:TypeId):LayT m te (pD3) (eD3 m te) dD3:=go (layD2 hI m te) [293,295] rD3 rfl (by kernel_rfl) (by kernel_rfl) ⟨r5,trivial⟩
def eD4(m:Int)(te:TypeId):=extP prog (glZ m te) (eD3 m te) xD4.own xD4.top 40 fun f=>(lD4a++([c224u])).any fun c=>Nat.beq c.f f
def dD4:FuncId→Bool:=fun f=>((lD4a++([c224u])).any fun c=>Nat.beq c.f f)||dD3 f
theorem aD4_0(hI:Is)(m:Int)(te:TypeId):∀c∈lD4a,AnsOk prog (glZ m te) (eD3 m te) xD4 40 c:=fun c hc=>
 ⟨(List.all_eq_true.1 (by kernel_rfl):∀c∈lD4a,lEv (pureA dep) c.pre=true) c hc,fun ts ht=>ctZ_ans ((layD3 hI m te).cn (X:=xD4) rfl rfl (l:=[287,301,295]) rfl (by kernel_rfl)) dep40 (tab:=[]) (by simp) (rD4_0 c hc) ht⟩
theorem sgn_cases{μ:List (Option Nat)}{ρ:List Int}{t:T}(h:Gm ρ μ nAny t):∃b∈bS,Gm ρ μ (.agg [b,ifull]) t:=by
 cases(show Gm ρ μ (.agg [ifull,ifull]) t from h)with
 |agg _ ts h1 h2=>
 obtain⟨a,r,rfl,g1,g2⟩:=(show GmL ρ μ [ifull,ifull] ts from⟨h1,h2⟩).inv_cons;obtain⟨n,rfl,n1,n2⟩:=inv_int g1;have hb:∃b∈bS,Gm ρ μ b (.int .i64 n):=by
  by_cases c1:1≤n
  ·exact⟨_,List.mem_cons_self,mk_int c1 n2 n1 n2⟩
  ·by_cases c2:n=0
   ·subst c2;exact⟨_,List.mem_cons_of_mem _ List.mem_cons_self,mk_int (Int.le_refl _) (Int.le_refl _) n1 n2⟩
   ·exact⟨_,List.mem_cons_of_mem _ (List.mem_cons_of_mem _ List.mem_cons_self),mk_int n1 (by omega) n1 n2⟩
 obtain⟨b,hb,hg⟩:=hb;exact⟨b,hb,agg_of (gml_cons hg g2)⟩
theorem u224(hI:Is)(m:Int)(te:TypeId):∀c∈[c224u],AnsOk prog (glZ m te) (eD3 m te) xD4 40 c:=by
 intro c hc;simp only[List.mem_cons,List.not_mem_nil,or_false]at hc;subst hc;refine ans_union (by kernel_rfl) fun ts ht=> ?_;obtain⟨t1,r1,rfl,g1,g2⟩:=(show GmL [] [] [nAny,nAny,ifull] ts from ht).inv_cons;obtain⟨t2,r2,rfl,g3,g4⟩:=g2.inv_cons;obtain⟨b,hb,hg⟩:=sgn_cases g3;exact⟨c224 b,aD4_0 hI m te _ (List.mem_append_right _ (List.mem_map_of_mem hb)),rfl,gml_cons g1 (gml_cons hg g4),fun _ h=>h⟩
theorem aD4(hI:Is)(m:Int)(te:TypeId):∀c∈lD4a++([c224u]),AnsOk prog (glZ m te) (eD3 m te) xD4 40 c:=(List.forall_mem_append.2 ⟨(aD4_0 hI m te),(u224 hI m te)⟩)
theorem layD4(hI:Is)(m:Int)(te:TypeId):Lay prog (glZ m te) 40 (fun _ =>none) (pD4) (eD4 m te) dD4:=
 (layD3 hI m te).stepZ follows (glZFrz m te) dep40 (X:=xD4) (tl:=[215,221,228,224,287,301,295]) rfl okD4 (l:=lD4a++([c224u])) (aD4 hI m te)
def eD5:=nE gD5 eD4
def dD5:=nD gD5 dD4
theorem layD5(hI:Is)(m:Int)(te:TypeId):LayT m te (pD5) (eD5 m te) dD5:=go (layD4 hI m te) [295] rD5 rfl (by kernel_rfl) (by kernel_rfl) ⟨r5,trivial⟩
def eD6(m:Int)(te:TypeId):=extP prog (glZ m te) (eD5 m te) xD6.own xD6.top 40 fun f=>(lD6a++([c223u])).any fun c=>Nat.beq c.f f
def dD6:FuncId→Bool:=fun f=>((lD6a++([c223u])).any fun c=>Nat.beq c.f f)||dD5 f
theorem aD6_0(hI:Is)(m:Int)(te:TypeId):∀c∈lD6a,AnsOk prog (glZ m te) (eD5 m te) xD6 40 c:=fun c hc=>
 ⟨(List.all_eq_true.1 (by kernel_rfl):∀c∈lD6a,lEv (pureA dep) c.pre=true) c hc,fun ts ht=>ctZ_ans ((layD5 hI m te).cn (X:=xD6) rfl rfl (l:=[287,301]) rfl (by kernel_rfl)) dep40 (tab:=[]) (by simp) (rD6_0 c hc) ht⟩
theorem u223(hI:Is)(m:Int)(te:TypeId):∀c∈[c223u],AnsOk prog (glZ m te) (eD5 m te) xD6 40 c:=by
 intro c hc;simp only[List.mem_cons,List.not_mem_nil,or_false]at hc;subst hc;refine ans_union (by kernel_rfl) fun ts ht=> ?_;obtain⟨t1,r1,rfl,g1,g2⟩:=(show GmL [] [] [nAny,nAny] ts from ht).inv_cons;obtain⟨t2,r2,rfl,g3,g4⟩:=g2.inv_cons;obtain⟨b,hb,hg⟩:=sgn_cases g3;exact⟨c223 b,aD6_0 hI m te _ (List.mem_cons_of_mem _ (List.mem_map_of_mem hb)),rfl,gml_cons g1 (gml_cons hg g4),fun _ h=>h⟩
theorem aD6(hI:Is)(m:Int)(te:TypeId):∀c∈lD6a++([c223u]),AnsOk prog (glZ m te) (eD5 m te) xD6 40 c:=(List.forall_mem_append.2 ⟨(aD6_0 hI m te),(u223 hI m te)⟩)
theorem layD6(hI:Is)(m:Int)(te:TypeId):Lay prog (glZ m te) 40 (fun _ =>none) (pD6) (eD6 m te) dD6:=
 (layD5 hI m te).stepZ follows (glZFrz m te) dep40 (X:=xD6) (tl:=[222,223,287,301]) rfl okD6 (l:=lD6a++([c223u])) (aD6 hI m te)
theorem inv_num{ρ:List Int}{μ:List (Option Nat)}{t:T}(h:Gm ρ μ nAny t):∃n s:Int,t= .agg [.int .i64 n,.int .i64 s]∧(-9223372036854775808≤n∧n≤9223372036854775807)∧(-9223372036854775808≤s∧s≤9223372036854775807):=by
 cases(show Gm ρ μ (.agg [ifull,ifull]) t from h)with
 |agg _ ts h1 h2=>
 obtain⟨a,r,rfl,g1,g2⟩:=(show GmL ρ μ [ifull,ifull] ts from⟨h1,h2⟩).inv_cons;obtain⟨b,r,rfl,g3,g4⟩:=g2.inv_cons;rw[g4.inv_nil];obtain⟨n,rfl,n1,n2⟩:=inv_int g1;obtain⟨s,rfl,s1,s2⟩:=inv_int g3;exact⟨n,s,rfl,⟨n1,n2⟩,s1,s2⟩
def eD8(m:Int)(te:TypeId):=knQ prog (glZ m te) 287 Q287 (eD6 m te)
def dD8:FuncId→Bool:=fun f=>Nat.beq 287 f||dD6 f
theorem tab_inv{l:List Ctr}{pa:FuncId→List A→Nat→List Con→Option AV}{f:FuncId}{a:List A}{n:Nat}{cs:List Con}{v:AV}(hv:peTab l pa f a n cs=some v){ρ:List Int}{μ:List (Option Nat)}{ts:List T}(hs:Sy ρ n cs)(hg:GmL ρ μ a ts)(hf:(l.any fun c=>Nat.beq c.f f)=true):
  ∃c∈l,GmL [] [] c.pre ts∧v=matV c.res n cs:=by
 unfold peTab at hv;split at hv
 ·split at hv
  ·rename_i c' hf;have hmem:=List.mem_of_find?_eq_some hf;have hcf:=List.find?_some (p:=fun c:Ctr=>Nat.beq c.f f&&lAll (leT cs 0 0 dep) a c.pre) hf;simp only[Bool.and_eq_true]at hcf;obtain⟨hcf,hle⟩:=hcf;cases hv;refine⟨c',hmem,?_,rfl⟩;have:=lAll_gm (fun a t x=>leT_ok hs.cs hs.zero 0 0 dep a t x) hle hg
   rwa [take0,take0]at this
  ·cases hv
 ·rename_i hno;exact absurd hf hno
theorem layD8(hI:Is)(m:Int)(te:TypeId):Lay prog (glZ m te) 40 (fun _ =>none) pD8 (eD8 m te) dD8:=by
 refine(layD6 hI m te).knownQ (f0:=287) (pq:=k287) fun a n cs v hv ρ μ ts hs hg=> ?_;obtain⟨c,hc,hgp,rfl⟩:=tab_inv (show peTab [c287b,c287a] (fun _ _ _ _ =>none) 287 a n cs=some v from hv) hs hg rfl;have hp:lEv (pureA dep) c.pre=true:=(List.all_eq_true.1 (by kernel_rfl):∀c∈[c287b,c287a],lEv (pureA dep) c.pre=true) c hc;have hfz:mapO (frzT 40 ⟨0,.nl⟩) ts=some ts:=mapO_id _ fun x hx=>by
  obtain⟨a,ha,hga⟩:=gmL_mem hgp.1 hgp.2 hx;exact frz_id dep a x (lEv_mem hp a ha) hga 40 dep40
 have key:∃t xs,ts=[t]∧IsSl t xs∧(xs.length:Int)≤256∧(∀x∈xs,∃n s:Int,x= .agg [.int .i64 n,.int .i64 s])∧(c=c287b→badNs t)∧(c=c287b∨c=c287a):=by
  simp only[List.mem_cons,List.not_mem_nil,or_false]at hc;rcases hc with rfl|rfl
  ·obtain⟨t,r,rfl,g1,g2⟩:=(show GmL [] [] [.slpv 20 nAny 0 256] ts from hgp).inv_cons;rw[g2.inv_nil];cases g1 with
   |slpv _ _ _ _ _ xs h0 h1 h2 h3 h4=>
    exact⟨t,xs,rfl,h1,h3,fun x hx=>by obtain⟨n,s,e,_⟩:=inv_num (h4 x hx);exact⟨n,s,e⟩,fun _ =>((hI.n t).1 h0).1,.inl rfl⟩
  ·obtain⟨t,r,rfl,g1,g2⟩:=(show GmL [] [] [.slv nAny 0 256] ts from hgp).inv_cons;rw[g2.inv_nil];obtain⟨xs,h1,h2,h3,h4⟩:=inv_slv g1;exact⟨t,xs,rfl,h1,h3,fun x hx=>by obtain⟨n,s,e,_⟩:=inv_num (h4 x hx);exact⟨n,s,e⟩,(fun h=>by cases h),.inr rfl⟩
 obtain⟨t,xs,rfl,h1,h2,h3,h4,h5⟩:=key;refine⟨hfz,q287 m te h1 h2 h3,fun r hr=>matV_ok hs ?_⟩;obtain⟨e,rfl,e1,e2,e3⟩:=hr;rcases h5 with rfl|rfl
 ·obtain⟨ys,y1,y,y2,y3⟩:=h4 rfl;have:e≠0:=fun he=>y3 (e3 he t ys rfl y1 y y2);exact mk_int (by omega) e2 (by omega) (by omega)
 ·exact mk_int e1 e2 (by omega) (by omega)
def eD9(m:Int)(te:TypeId):=extP prog (glZ m te) (eD8 m te) xD9.own xD9.top 40 fun f=>(lD9a++([c219u])).any fun c=>Nat.beq c.f f
def dD9:FuncId→Bool:=fun f=>((lD9a++([c219u])).any fun c=>Nat.beq c.f f)||dD8 f
theorem aD9_0(hI:Is)(m:Int)(te:TypeId):∀c∈lD9a,AnsOk prog (glZ m te) (eD8 m te) xD9 40 c:=fun c hc=>
 ⟨(List.all_eq_true.1 (by kernel_rfl):∀c∈lD9a,lEv (pureA dep) c.pre=true) c hc,fun ts ht=>ctZ_ans ((layD8 hI m te).cn (X:=xD9) rfl rfl (l:=[]) rfl (by kernel_rfl)) dep40 (tab:=[]) (by simp) (rD9_0 c hc) ht⟩
theorem u219(hI:Is)(m:Int)(te:TypeId):∀c∈[c219u],AnsOk prog (glZ m te) (eD8 m te) xD9 40 c:=by
 intro c hc;simp only[List.mem_cons,List.not_mem_nil,or_false]at hc;subst hc;have hp:lEv (pureA dep) c219u.pre=true:=by kernel_rfl
 refine ans_union hp fun ts ht=> ?_;have ht':=ht;obtain⟨t,r,rfl,g1,g2⟩:=(show GmL [] [] [.slv nAny 0 1000000] ts from ht).inv_cons;have e:=g2.inv_nil;subst e;obtain⟨xs,h1,h2,h3,h4⟩:=inv_slv g1;by_cases hb:badNs t
 ·have hpt:pureT t:=pure_of (a:= .slv nAny 0 1000000) (by kernel_rfl) g1;exact⟨c219b,aD9_0 hI m te _ (by unfold lD9a;simp),rfl,gml_cons (.slpv _ _ _ _ _ xs ((hI.n t).2 ⟨hb,hpt⟩) h1 h2 h3 h4) gml_nil,fun _ h=>h⟩
 ·refine⟨c219,aD9_0 hI m te _ (by unfold lD9a;simp),rfl,gml_cons (.slv _ _ _ _ xs h1 h2 h3 fun x hx=> ?_) gml_nil,fun _ h=>h⟩;obtain⟨n,s,rfl,n1,s1⟩:=inv_num (h4 x hx);have ho:okN (.agg [.int .i64 n,.int .i64 s]):=Classical.byContradiction fun q=>hb ⟨xs,h1,_,hx,q⟩;obtain⟨n',s',e,o1,o2,o3,o4⟩:=ho;cases e;exact agg_of (gml_cons (mk_int o1 o2 n1.1 n1.2) (gml_cons (mk_int o3 o4 s1.1 s1.2) gml_nil))
theorem aD9(hI:Is)(m:Int)(te:TypeId):∀c∈lD9a++([c219u]),AnsOk prog (glZ m te) (eD8 m te) xD9 40 c:=(List.forall_mem_append.2 ⟨(aD9_0 hI m te),(u219 hI m te)⟩)
theorem layD9(hI:Is)(m:Int)(te:TypeId):Lay prog (glZ m te) 40 (fun _ =>none) (pD9) (eD9 m te) dD9:=
 (layD8 hI m te).stepZ follows (glZFrz m te) dep40 (X:=xD9) (tl:=[219]) rfl okD9 (l:=lD9a++([c219u])) (aD9 hI m te)
end
end Go.Proofs.Tryz
namespace Go.Proofs.Tryz
open Go.RowKit Go.Ps
def shB(b d:Int)(c:UInt8):UInt8:=if b≤(c.toNat:Int)∧((c.toNat:Int)-b)%256<26 then UInt8.ofNat (wrap64 ((c.toNat:Int)+d)%256).toNat else c
def rowI(s:ByteArray)(b d:Int)(i:Nat)(C:Array Value):Prop:=s.size≤C.size∧∀j (hj:j<s.size),C[j]? =some (.int .u8 (((if j<i then shB b d s[j]else s[j]):UInt8).toNat:Int))
theorem rowI.same{s:ByteArray}{b d:Int}{i:Nat}{C:Array Value}(h:rowI s b d i C)(hi:i<s.size){x:UInt8}(hx:s[i]=x)(hs:shB b d x=x):rowI s b d (i+1) C:=by
 refine⟨h.1,fun j hj=> ?_⟩;rw[h.2 j hj];by_cases h1:j<i
 ·rw[if_pos h1,if_pos (by omega)]
 ·by_cases h2:j=i
  ·subst h2;rw[if_neg h1,if_pos (by omega),hx,hs]
  ·rw[if_neg h1,if_neg (by omega)]
theorem rowI.step{s:ByteArray}{b d:Int}{i:Nat}{C:Array Value}(h:rowI s b d i C)(hi:i<s.size){x:UInt8}(hx:s[i]=x){v:Int}(hv:((shB b d x).toNat:Int)=v):rowI s b d (i+1) (C.setIfInBounds i (.int .u8 v)):=by
 refine⟨by rw[Array.size_setIfInBounds];exact h.1,fun j hj=> ?_⟩;have:=h.1;by_cases h2:j=i
 ·subst h2;rw[Array.getElem?_setIfInBounds_self_of_lt (by omega),if_pos (by omega),hx,hv]
 ·rw[Array.getElem?_setIfInBounds_ne (by omega),h.2 j hj];by_cases h1:j<i
  ·rw[if_pos h1,if_pos (by omega)]
  ·rw[if_neg h1,if_neg (by omega)]
theorem add0(b o i:Nat):(⟨b,o,none⟩:Addr).add i=⟨b,o+i,none⟩:=by unfold Addr.add;split<;>simp_all
set_option maxHeartbeats 4000000 in
set_option maxRecDepth 1000000 in
theorem sh_walk(s:ByteArray)(b d:Int)(w:World)(hb0:0≤b)(hb1:b≤255)(hsz:s.size≤4000000000):Calls prog 302 #[.string s,.int .u8 b,.int .i64 d] w fun e w'=>e= .returned (.string ⟨(s.data.toList.map (shB b d)).toArray⟩)∧Below w.heap.size w w':=by
 have hconv:=run_bytes_of_string (P:=prog) w 9 128 5 s (by kernel_rfl) (by kernel_rfl) (by kernel_rfl);obtain⟨cap,hcap⟩:∃cap,grownCap w s.size 0 5=cap:=⟨_,rfl⟩;rw[hcap]at hconv;obtain⟨C0,hC0⟩:∃C0,bytesRow s cap=C0:=⟨_,rfl⟩;have hrow:rowI s b d 0 C0:=by
  refine⟨?_,fun j hj=> ?_⟩
  ·rw[←hC0];simp[bytesRow];
  ·rw[←hC0,bytesRow_at s cap j hj];simp;rfl
 rw[hC0]at hconv;obtain⟨w1,hw1⟩:∃w1,w.drew.alloc (.cells C0 5 (C0.size,C0.size+1))=w1:=⟨_,rfl⟩;have hb:Below w.heap.size w w1:=by rw[←hw1];exact((Below.refl _ w).drew).alloc (Nat.le_refl _) _
 have hblk:w1.heap[w.heap.size]? =some (.cells C0 5 (C0.size,C0.size+1)):=by
  rw[←hw1];show(w.heap.push _)[w.heap.size]? =_;simp
 rw[hw1]at hconv;clear hw1 hC0 hcap
 go_enter func302,ntmps302
 go_wp2
 have HR:Aside (rowI s b d 0 C0):=hrow;clear hrow
 go_loopg [8,9,14] s.size (fun g _ _ s14 wx=>∃i:Nat,i+g=s.size∧s14= .int .i64 (i:Int)∧Below w.heap.size w wx∧∃C,wx.heap[w.heap.size]? =some (.cells C 5 (C.size,C.size+1))∧rowI s b d i C)
 case atStart=>exact⟨0,by omega,rfl,hb,C0,hblk,HR.out⟩
 case round=>
  obtain⟨i,hig,rfl,hbw,C,hC,hR⟩:=hrel;have HR2:Aside (rowI s b d i C):=hR;clear hR HR;have hcell:∀j,wr.cell? ⟨w.heap.size,j,none⟩=C[j]? :=fun j=>by unfold World.cell?;rw[hC];rfl
  have hfrz:∀j,wr.frozen? ⟨w.heap.size,j,none⟩=(decide (C.size≤j)&&decide (j<C.size+1)):=fun j=>by unfold World.frozen?;rw[hC]
  cases gk with
  |zero=>
   obtain rfl:i=s.size:=by omega
   have hback:(convert 128 9 (.slice (some ⟨w.heap.size,0,none⟩) s.size cap)).run prog wr= .ok (.string ⟨(s.data.toList.map (shB b d)).toArray⟩) wr:=by
    have hl:(s.data.toList.map (shB b d)).length=s.size:=by rw[List.length_map];exact(Lib.size_eq s).symm
    have:=run_convert_bytes_back (P:=prog) wr 128 9 5 ⟨w.heap.size,0,none⟩ cap (s.data.toList.map (shB b d)) (by kernel_rfl) (by kernel_rfl) (by kernel_rfl) (fun j hj=>by
     rw[add0,Nat.zero_add,hcell];have hj':j<s.size:=by omega
     rw[HR2.out.2 j hj',if_pos hj'];simp
     rfl)
    rwa [hl]at this
   go_wp2
   go_ret
   exact⟨rfl,hbw⟩
  |succ g=>
   have hi:i<s.size:=by omega
   obtain⟨x,hx⟩:∃x:UInt8,s[i]'hi=x:=⟨_,rfl⟩;have hxc:wr.cell? ⟨w.heap.size,i,none⟩=some (.int .u8 (x.toNat:Int)):=by
    rw[hcell,HR2.out.2 i hi,if_neg (by omega),hx]
   have hxz:wr.frozen? ⟨w.heap.size,i,none⟩=false:=by
    have:=HR2.out.1;rw[hfrz,decide_eq_false (by omega)];rfl
   have hil:(i:Int)<(s.size:Int):=by omega
   have hwi:wrap64 ((i:Int)+1)=((i+1:Nat):Int):=by unfold wrap64;omega
   have hwx:wrap64 (x.toNat:Int)=(x.toNat:Int):=by have:=x.toNat_lt;unfold wrap64;omega
   clear hcell hfrz;by_cases h1:b≤(x.toNat:Int)
   ·by_cases h2:((x.toNat:Int)-b)%256<26
    ·go_wp2
     go_roundg g
     case measure=>omega
     case rel=>
      refine⟨i+1,by omega,rfl,hbw.setCell (p:=⟨w.heap.size,i,none⟩) (Nat.le_refl _) _,C.setIfInBounds i (.int .u8 (wrap64 ((x.toNat:Int)+d)%256)),?_,HR2.out.step hi hx (by rw[shB,if_pos ⟨h1,h2⟩];simp;omega)⟩;rw[Array.size_setIfInBounds];simp only[World.setCell,Array.getElem?_modify,if_true,hC];rfl
    ·go_wp2
     go_roundg g
     case measure=>omega
     case rel=>exact⟨i+1,by omega,rfl,hbw,C,hC,HR2.out.same hi hx (by rw[shB,if_neg (fun q=>by omega)])⟩
   ·go_wp2
    go_roundg g
    case measure=>omega
    case rel=>exact⟨i+1,by omega,rfl,hbw,C,hC,HR2.out.same hi hx (by rw[shB,if_neg (fun q=>by omega)])⟩
def Q302(ts:List T)(r:T):Prop:=∃s',r= .str s'∧∀s,ts.head? =some (.str s)→s'.length=s.length
theorem sh_ok{m:Int}{te:TypeId}(s:List UInt8)(b d:Int)(hb0:0≤b)(hb1:b≤255)(hs:s.length≤4000000000):PureFn prog (glZ m te) 302 [.str s,.int .u8 b,.int .i64 d] (.str (s.map (shB b d))):=by
 refine below_pure (by kernel_rfl) fun g vs hgl hv=> ?_
 match vs,hv with
 |[v,u,z],hv=>
  have e1:=str_inv (hv.inv_cons).1;have h2:=((hv.inv_cons).2.inv_cons).1;have h3:=(((hv.inv_cons).2.inv_cons).2.inv_cons).1;subst e1;cases h2;cases h3;refine⟨.string ⟨(s.map (shB b d)).toArray⟩,fun g'=> ?_,?_⟩
  rotate_left
  ·have:=sh_walk ⟨s.toArray⟩ b d g.w hb0 hb1 (by show s.toArray.size≤_;simpa using hs);simpa using this
  ·have:=Rd.str (g:=g') ⟨(s.map (shB b d)).toArray⟩;simpa using this
 |[],hv=>have:=hv.1;simp at this
 |[_],hv=>have:=hv.1;simp at this
 |[_,_],hv=>have:=hv.1;simp at this
 |_ ::_ ::_ ::_ ::_,hv=>have:=hv.1;simp at this
end Go.Proofs.Tryz
namespace Go.Proofs.Tryz
open Go.Ps
set_option maxRecDepth 100000
variable[Inhabited Prd]
noncomputable section
theorem inv_strv{ρ:List Int}{μ:List (Option Nat)}{lo hi:Int}{t:T}(h:Gm ρ μ (.strv lo hi) t):∃l:List UInt8,t= .str l∧lo≤(l.length:Int)∧(l.length:Int)≤hi:=by
 cases h with
 |strv _ _ l h1 h2=>exact⟨l,rfl,h1,h2⟩
theorem inv_iv{ρ:List Int}{μ:List (Option Nat)}{lo hi:Int}{k:IntKind}{t:T}(h:Gm ρ μ (.ival k lo hi) t):∃n:Int,t= .int k n∧lo≤n∧n≤hi∧InK k n:=by
 cases h with
 |ival _ _ _ n h1 h2 h3=>exact⟨n,rfl,h1,h2,h3⟩
def eC9(m:Int)(te:TypeId):=knP prog (glZ m te) c261 (eD9 m te)
def dC9:FuncId→Bool:=fun f=>Nat.beq 261 f||dD9 f
theorem layC9(hI:Is)(m:Int)(te:TypeId):Lay prog (glZ m te) 40 (fun _ =>none) (peTab [c261] pD9) (eC9 m te) dC9:=by
 refine(layD9 hI m te).known dep40 (c:=c261) (by kernel_rfl) fun ts h=> ?_;obtain⟨t,r,rfl,g1,g2⟩:=(show GmL [] [] [.strv 1 cBig] ts from h).inv_cons;have e:=g2.inv_nil;subst e;obtain⟨l,rfl,h1,h2⟩:=inv_strv g1;obtain⟨d1,d2,d3,d4⟩:=dec_in l (by omega);refine⟨_,decode_ok l,fun I=> ?_⟩;have q:= @gml_cons I [] [] _ _ _ _ (@Gm.ival I [] [] .i32 0 1114111 (dec1 l) d1 d2 ⟨by simp[IntKind.min,IntKind.bits,IntKind.signed];omega,by simp[IntKind.max,IntKind.bits,IntKind.signed];omega⟩) (@gml_cons I [] [] _ _ _ _ (@Gm.ival I [] [] .i64 1 4 (dec2 l) d3 d4 (i64_of (by omega))) (@gml_nil I [] []));exact @Gm.tup I [] [] _ _ q.1 q.2
def eC0(m:Int)(te:TypeId):=knP prog (glZ m te) c312 (eC9 m te)
def dC0:FuncId→Bool:=fun f=>Nat.beq 312 f||dC9 f
theorem layC0(hI:Is)(m:Int)(te:TypeId):Lay prog (glZ m te) 40 (fun _ =>none) pC0 (eC0 m te) dC0:=by
 refine(layC9 hI m te).known dep40 (c:=c312) (by kernel_rfl) fun ts h=> ?_;obtain⟨t,r,rfl,g1,g2⟩:=(show GmL [] [] [.strc [48],.ival .i64 0 100] ts from h).inv_cons;obtain⟨u,r',rfl,g3,g4⟩:=g2.inv_cons;have e:=g4.inv_nil;subst e;cases g1;obtain⟨n,rfl,n1,n2,n3⟩:=inv_iv g3;have hp:=rep_ok (m:=m) (te:=te) [48] n.toNat (by omega) (by simp;omega);rw[show((n.toNat:Nat):Int)=n by omega]at hp;refine⟨_,hp,fun I=> @Gm.strv I [] [] 0 100 _ (by omega) ?_⟩;rw[Lib.repeatL_length];simp;omega
def eC1:=nE gC1 eC0
def dC1:=nD gC1 dC0
theorem layC1(hI:Is)(m:Int)(te:TypeId):LayT m te (pC1) (eC1 m te) dC1:=go (layC0 hI m te) [226,298,326] rC1 rfl (by kernel_rfl) (by kernel_rfl) ⟨r5,r5,r5,trivial⟩
def eC2:=nE gC2 eC1
def dC2:=nD gC2 dC1
theorem layC2(hI:Is)(m:Int)(te:TypeId):LayT m te (pC2) (eC2 m te) dC2:=go (layC1 hI m te) [227,299,300,327,344] rC2 rfl (by kernel_rfl) (by kernel_rfl) ⟨r5,r5,r5,trivial⟩
def eV0(m:Int)(te:TypeId):=knP prog (glZ m te) c309 (eC2 m te)
def dV0:FuncId→Bool:=fun f=>Nat.beq 309 f||dC2 f
theorem layV0(hI:Is)(m:Int)(te:TypeId):Lay prog (glZ m te) 40 (fun _ =>none) pV0 (eV0 m te) dV0:=by
 refine(layC2 hI m te).known dep40 (c:=c309) (by kernel_rfl) fun ts h=> ?_;obtain⟨t,r,rfl,g1,g2⟩:=(show GmL [] [] [ifull] ts from h).inv_cons;have e:=g2.inv_nil;subst e;obtain⟨q,rfl,q1,q2⟩:=inv_int g1;obtain⟨y,k,n,e,hp,⟨y1,y2⟩,⟨k1,k2⟩,⟨n1,n2⟩,e1,e2⟩:=civil_ok m te q ⟨q1,q2⟩;refine⟨_,hp,fun I=> ?_⟩;have iv:∀(lo hi n:Int),lo≤n→n≤hi→0≤n→n≤10000→ @Gm I [] [] (.ival .i64 lo hi) (.int .i64 n):=fun lo hi n h1 h2 h3 h4=> @Gm.ival I [] [] _ _ _ _ h1 h2 (i64_of (by omega));have z:= @gml_cons I [] [] _ _ _ _ (iv 0 9999 y y1 y2 (by omega) (by omega)) (@gml_cons I [] [] _ _ _ _ (iv 0 12 k k1 k2 (by omega) (by omega)) (@gml_cons I [] [] _ _ _ _ (iv 0 31 n n1 n2 (by omega) (by omega)) (@gml_cons I [] [] _ _ _ _ (iv 0 255 e e1 e2 (by omega) (by omega)) (@gml_nil I [] []))));exact @Gm.tup I [] [] _ _ z.1 z.2
def eL1:=nE gL1 eV0
def dL1:=nD gL1 dV0
theorem layL1(hI:Is)(m:Int)(te:TypeId):LayT m te (pL1) (eL1 m te) dL1:=go (layV0 hI m te) [310,311,329] rL1 rfl (by kernel_rfl) (by kernel_rfl) ⟨r5,trivial⟩
def eL2:=nE gL2 eL1
def dL2:=nD gL2 dL1
theorem layL2(hI:Is)(m:Int)(te:TypeId):LayT m te (pL2) (eL2 m te) dL2:=go (layL1 hI m te) [256] rL2 rfl (by kernel_rfl) (by kernel_rfl) ⟨r5,trivial⟩
def eL3:=nE gL3 eL2
def dL3:=nD gL3 dL2
theorem layL3(hI:Is)(m:Int)(te:TypeId):LayT m te (pL3) (eL3 m te) dL3:=go (layL2 hI m te) [257] rL3 rfl (by kernel_rfl) (by kernel_rfl) ⟨r5,trivial⟩
def eP9(m:Int)(te:TypeId):=knQ prog (glZ m te) 302 Q302 (eL3 m te)
def dP9:FuncId→Bool:=fun f=>Nat.beq 302 f||dL3 f
theorem layP9(hI:Is)(m:Int)(te:TypeId):Lay prog (glZ m te) 40 (fun _ =>none) (kq 302 k302 pL3) (eP9 m te) dP9:=by
 refine(layL3 hI m te).knownQ (f0:=302) (pq:=k302) fun a n cs v hv ρ μ ts hs hg=> ?_;unfold k302 at hv;split at hv
 ·rename_i s sb cb sd cd;split at hv
  ·rename_i x c hl;split at hv
   ·rename_i hle;cases hv;obtain⟨t1,r,rfl,g1,g2⟩:=hg.inv_cons;obtain⟨t2,r,rfl,g3,g4⟩:=g2.inv_cons;obtain⟨t3,r,rfl,g5,g6⟩:=g4.inv_cons;have e:=g6.inv_nil;subst e;obtain⟨l,w,rfl,e1,e2⟩:=lenS_ok hs.zero g1 hl;have hle:=leq_ok hs.cs hle e1 hs.zero;cases g3 with
    |int _ _ _ vb hb kb=>
    cases g5 with
    |int _ _ _ vd hd kd=>
    have kb1:0≤vb+cb∧vb+cb≤255:=by
     have h1:=kb.1;have h2:=kb.2;simp[IntKind.min,IntKind.max,IntKind.bits,IntKind.signed]at h1 h2;omega
    refine⟨rfl,⟨_,sh_ok l _ _ kb1.1 kb1.2 (by omega),_,rfl,fun s hs=> ?_⟩,fun r hr=> ?_⟩
    ·simp only[List.head?_cons,Option.some.injEq,T.str.injEq]at hs;subst hs;simp
    ·obtain⟨s',rfl,q⟩:=hr;have:=q l rfl;exact .here hs (.str _ _ _ _ e1 (by omega))
   ·cases hv
  ·cases hv
 ·cases hv
def eP0(m:Int)(te:TypeId):=knP prog (glZ m te) c259 (eP9 m te)
def dP0:FuncId→Bool:=fun f=>Nat.beq 259 f||dP9 f
theorem layP0(hI:Is)(m:Int)(te:TypeId):Lay prog (glZ m te) 40 (fun _ =>none) pP0 (eP0 m te) dP0:=by
 refine(layP9 hI m te).known dep40 (c:=c259) (by kernel_rfl) fun ts h=> ?_;obtain⟨t,r,rfl,g1,g2⟩:=(show GmL [] [] [nAny] ts from h).inv_cons;have e:=g2.inv_nil;subst e;obtain⟨n,s,rfl,n1,s1⟩:=inv_num g1;obtain⟨t,e,hp,h1,h2,h3⟩:=ntext_ok m te n s n1;refine⟨_,hp,fun I=> ?_⟩;have z:= @gml_cons I [] [] _ _ _ _ (@Gm.strv I [] [] 0 40 t (by omega) (by omega)) (@gml_cons I [] [] _ _ _ _ (@Gm.ival I [] [] .i64 0 255 e h2 h3 (i64_of (by omega))) (@gml_nil I [] []));exact @Gm.tup I [] [] _ _ z.1 z.2
def eP1:=nE gP1 eP0
def dP1:=nD gP1 dP0
theorem layP1(hI:Is)(m:Int)(te:TypeId):LayT m te (pP1) (eP1 m te) dP1:=go (layP0 hI m te) [194] rP1 rfl (by kernel_rfl) (by kernel_rfl) ⟨r5,trivial⟩
end
end Go.Proofs.Tryz
namespace Go.Proofs.Tryz
open Go.Ps
set_option maxRecDepth 100000
theorem rA0:runG prog gA0=true:=by kernel_rfl
theorem rA1:runG prog gA1=true:=by kernel_rfl
theorem rA2:runG prog gA2=true:=by kernel_rfl
theorem rA3:runG prog gA3=true:=by kernel_rfl
end Go.Proofs.Tryz
namespace Go.Proofs.Tryz
open Go.Ps
set_option maxRecDepth 100000
theorem rA4:runG prog gA4=true:=by kernel_rfl
theorem rA5:runG prog gA5=true:=by kernel_rfl
theorem rF0:runG prog gF0=true:=by kernel_rfl
theorem rB0:runG prog gB0=true:=by kernel_rfl
theorem rF1:runG prog gF1=true:=by kernel_rfl
theorem rB1:runG prog gB1=true:=by kernel_rfl
theorem rF2:runG prog gF2=true:=by kernel_rfl
theorem rB2:runG prog gB2=true:=by kernel_rfl
theorem rF3:runG prog gF3=true:=by kernel_rfl
theorem rB3:runG prog gB3=true:=by kernel_rfl
theorem rF4:runG prog gF4=true:=by kernel_rfl
theorem rB4:runG prog gB4=true:=by kernel_rfl
theorem rF5:runG prog gF5=true:=by kernel_rfl
theorem rB5:runG prog gB5=true:=by kernel_rfl
theorem rEq:runG prog gEq=true:=by kernel_rfl
end Go.Proofs.Tryz
namespace Go.Proofs.Tryz
open Go.Ps
set_option maxRecDepth 100000
variable[Inhabited Prd]
noncomputable section
theorem cmpB_in:∀a b:List UInt8,-1≤Lib.compareBytes a b∧Lib.compareBytes a b≤1
 |[],[]=>by simp[Lib.compareBytes]
 |[],_ ::_ =>by simp[Lib.compareBytes]
 |_ ::_,[]=>by simp[Lib.compareBytes]
 |x::a,y::b=>by
  have:=cmpB_in a b;unfold Lib.compareBytes
  repeat' split
  all_goals omega
def eQ5(m:Int)(te:TypeId):=knP prog (glZ m te) c66 (eP1 m te)
def dQ5:FuncId→Bool:=fun f=>Nat.beq 66 f||dP1 f
theorem layQ5(hI:Is)(m:Int)(te:TypeId):Lay prog (glZ m te) 40 (fun _ =>none) q5 (eQ5 m te) dQ5:=by
 refine(layP1 hI m te).known dep40 (c:=c66) (by kernel_rfl) fun ts h=> ?_;obtain⟨t,r,rfl,g1,g2⟩:=(show GmL [] [] [.strv 0 cBig,.strv 0 cBig] ts from h).inv_cons;obtain⟨u,r',rfl,g3,g4⟩:=g2.inv_cons;have e:=g4.inv_nil;subst e;obtain⟨a,rfl,_,_⟩:=inv_strv g1;obtain⟨b,rfl,_,_⟩:=inv_strv g3;have hp:PureFn prog (glZ m te) 66 [.str a,.str b] (.int .i64 (Lib.compareBytes a b)):=pure1 (peT_ok (f:=66) (by rfl));have hb:=cmpB_in a b;exact⟨_,hp,fun I=> @Gm.ival I [] [] _ _ _ _ (by omega) (by omega) (i64_of (by omega))⟩
def eQ6:=nE gQ6 eQ5
def dQ6:=nD gQ6 dQ5
theorem layQ6(hI:Is)(m:Int)(te:TypeId):LayT m te (q6) (eQ6 m te) dQ6:=go (layQ5 hI m te) [36] rQ6 rfl (by kernel_rfl) (by kernel_rfl) ⟨r5,trivial⟩
def eA0:=nE gA0 eQ6
def dA0:=nD gA0 dQ6
theorem layA0(hI:Is)(m:Int)(te:TypeId):LayT m te (p62 1) (eA0 m te) dA0:=go (layQ6 hI m te) [62] rA0 rfl (by kernel_rfl) (by kernel_rfl) ⟨r5,r5,r5,trivial⟩
def eA1:=nE gA1 eA0
def dA1:=nD gA1 dA0
theorem layA1(hI:Is)(m:Int)(te:TypeId):LayT m te (p62 2) (eA1 m te) dA1:=go (layA0 hI m te) [62] rA1 rfl (by kernel_rfl) (by kernel_rfl) ⟨r5,r5,r5,r5,r5,r5,trivial⟩
def eA2:=nE gA2 eA1
def dA2:=nD gA2 dA1
theorem layA2(hI:Is)(m:Int)(te:TypeId):LayT m te (p62 3) (eA2 m te) dA2:=go (layA1 hI m te) [62] rA2 rfl (by kernel_rfl) (by kernel_rfl) ⟨r5,r5,r5,r5,r5,r5,r5,r5,r5,trivial⟩
def eA3:=nE gA3 eA2
def dA3:=nD gA3 dA2
theorem layA3(hI:Is)(m:Int)(te:TypeId):LayT m te (p62 4) (eA3 m te) dA3:=go (layA2 hI m te) [62] rA3 rfl (by kernel_rfl) (by kernel_rfl) ⟨r5,r5,r5,r5,r5,r5,r5,r5,r5,r5,r5,r5,trivial⟩
def eA4:=nE gA4 eA3
def dA4:=nD gA4 dA3
theorem layA4(hI:Is)(m:Int)(te:TypeId):LayT m te (p62 5) (eA4 m te) dA4:=go (layA3 hI m te) [62] rA4 rfl (by kernel_rfl) (by kernel_rfl) ⟨r5,r5,r5,r5,r5,r5,r5,r5,r5,r5,r5,r5,r5,r5,r5,trivial⟩
def eA5:=nE gA5 eA4
def dA5:=nD gA5 dA4
theorem layA5(hI:Is)(m:Int)(te:TypeId):LayT m te (p62 6) (eA5 m te) dA5:=go (layA4 hI m te) [62] rA5 rfl (by kernel_rfl) (by kernel_rfl) ⟨r5,r5,r5,r5,r5,r5,r5,r5,r5,r5,r5,r5,r5,r5,r5,r5,r5,r5,trivial⟩
end
end Go.Proofs.Tryz
namespace Go.Proofs.Tryz
open Go.Ps
set_option maxRecDepth 100000
theorem rPp:runG prog gPp=true:=by kernel_rfl
theorem rE1:runG prog gE1=true:=by kernel_rfl
theorem rE3:runG prog gE3=true:=by kernel_rfl
theorem rPb:∀c∈lPb,ctRunZ prog xPq [] 8 c=true:=List.all_eq_true.1 (by kernel_rfl)
end Go.Proofs.Tryz
namespace Go.Proofs.Tryz
open Go.Ps
set_option maxRecDepth 100000
variable[Inhabited Prd]
noncomputable section
def eF0:=nE gF0 eA5
def dF0:=nD gF0 dA5
theorem layF0(hI:Is)(m:Int)(te:TypeId):LayT m te ((pCf 0)) (eF0 m te) dF0:=go (layA5 hI m te) [165,166,167] rF0 rfl (by kernel_rfl) (by kernel_rfl) ⟨r5,trivial⟩
def eB0:=nE gB0 eF0
def dB0:=nD gB0 dF0
theorem layB0(hI:Is)(m:Int)(te:TypeId):LayT m te (p112 1) (eB0 m te) dB0:=go (layF0 hI m te) [112] rB0 rfl (by kernel_rfl) (by kernel_rfl) ⟨r5,trivial⟩
def eF1:=nE gF1 eB0
def dF1:=nD gF1 dB0
theorem layF1(hI:Is)(m:Int)(te:TypeId):LayT m te ((pCf 1)) (eF1 m te) dF1:=go (layB0 hI m te) [165,166,167] rF1 rfl (by kernel_rfl) (by kernel_rfl) ⟨r5,r5,trivial⟩
def eB1:=nE gB1 eF1
def dB1:=nD gB1 dF1
theorem layB1(hI:Is)(m:Int)(te:TypeId):LayT m te (p112 2) (eB1 m te) dB1:=go (layF1 hI m te) [112] rB1 rfl (by kernel_rfl) (by kernel_rfl) ⟨r5,r5,trivial⟩
def eF2:=nE gF2 eB1
def dF2:=nD gF2 dB1
theorem layF2(hI:Is)(m:Int)(te:TypeId):LayT m te ((pCf 2)) (eF2 m te) dF2:=go (layB1 hI m te) [165,166,167] rF2 rfl (by kernel_rfl) (by kernel_rfl) ⟨r5,r5,r5,trivial⟩
def eB2:=nE gB2 eF2
def dB2:=nD gB2 dF2
theorem layB2(hI:Is)(m:Int)(te:TypeId):LayT m te (p112 3) (eB2 m te) dB2:=go (layF2 hI m te) [112] rB2 rfl (by kernel_rfl) (by kernel_rfl) ⟨r5,r5,r5,trivial⟩
def eF3:=nE gF3 eB2
def dF3:=nD gF3 dB2
theorem layF3(hI:Is)(m:Int)(te:TypeId):LayT m te ((pCf 3)) (eF3 m te) dF3:=go (layB2 hI m te) [165,166,167] rF3 rfl (by kernel_rfl) (by kernel_rfl) ⟨r5,r5,r5,r5,trivial⟩
def eB3:=nE gB3 eF3
def dB3:=nD gB3 dF3
theorem layB3(hI:Is)(m:Int)(te:TypeId):LayT m te (p112 4) (eB3 m te) dB3:=go (layF3 hI m te) [112] rB3 rfl (by kernel_rfl) (by kernel_rfl) ⟨r5,r5,r5,r5,trivial⟩
def eF4:=nE gF4 eB3
def dF4:=nD gF4 dB3
theorem layF4(hI:Is)(m:Int)(te:TypeId):LayT m te ((pCf 4)) (eF4 m te) dF4:=go (layB3 hI m te) [165,166,167] rF4 rfl (by kernel_rfl) (by kernel_rfl) ⟨r5,r5,r5,r5,r5,trivial⟩
def eB4:=nE gB4 eF4
def dB4:=nD gB4 dF4
theorem layB4(hI:Is)(m:Int)(te:TypeId):LayT m te (p112 5) (eB4 m te) dB4:=go (layF4 hI m te) [112] rB4 rfl (by kernel_rfl) (by kernel_rfl) ⟨r5,r5,r5,r5,r5,trivial⟩
def eF5:=nE gF5 eB4
def dF5:=nD gF5 dB4
theorem layF5(hI:Is)(m:Int)(te:TypeId):LayT m te ((pCf 5)) (eF5 m te) dF5:=go (layB4 hI m te) [165,166,167] rF5 rfl (by kernel_rfl) (by kernel_rfl) ⟨r5,r5,r5,r5,r5,r5,trivial⟩
def eB5:=nE gB5 eF5
def dB5:=nD gB5 dF5
theorem layB5(hI:Is)(m:Int)(te:TypeId):LayT m te (p112 6) (eB5 m te) dB5:=go (layF5 hI m te) [112] rB5 rfl (by kernel_rfl) (by kernel_rfl) ⟨r5,r5,r5,r5,r5,r5,trivial⟩
def eEq:=nE gEq eB5
def dEq:=nD gEq dB5
theorem layEq(hI:Is)(m:Int)(te:TypeId):LayT m te (q71) (eEq m te) dEq:=go (layB5 hI m te) [71] rEq rfl (by kernel_rfl) (by kernel_rfl) ⟨r5,trivial⟩
def ePp:=nE gPp eEq
def dPp:=nD gPp dEq
theorem layPp(hI:Is)(m:Int)(te:TypeId):LayT m te (qP0) (ePp m te) dPp:=go (layEq hI m te) tP0 rPp rfl (by kernel_rfl) (by kernel_rfl) ⟨r5,r5,r5,trivial⟩
end
end Go.Proofs.Tryz
namespace Go.Proofs.Tryz
open Go.Ps
set_option maxRecDepth 100000
theorem rP2_0:∀c∈[c217n],ctRunZ prog xPn [] 8 c=true:=List.all_eq_true.1 (by kernel_rfl)
theorem rP2_2:∀c∈[c146n],ctRunZ prog xPm [] 8 c=true:=List.all_eq_true.1 (by kernel_rfl)
end Go.Proofs.Tryz
namespace Go.Proofs.Tryz
open Go.Ps
set_option maxRecDepth 100000
theorem rP2_1:∀c∈[c217y],ctRunZ prog xPn [] 8 c=true:=List.all_eq_true.1 (by kernel_rfl)
theorem rP2_3:∀c∈[c146y],ctRunZ prog xPm [] 8 c=true:=List.all_eq_true.1 (by kernel_rfl)
end Go.Proofs.Tryz
namespace Go.Proofs.Tryz
open Go.Ps
set_option maxRecDepth 100000
variable[Inhabited Prd]
noncomputable section
def ePq(m:Int)(te:TypeId):=extP prog (glZ m te) (ePp m te) xPq.own xPq.top 40 fun f=>(lPq).any fun c=>Nat.beq c.f f
def dPq:FuncId→Bool:=fun f=>((lPq).any fun c=>Nat.beq c.f f)||dPp f
structure Ip(m:Int)(te:TypeId):Prop where
 n:∀t:T,(default:Prd).q 10 t↔Ans prog (glZ m te) (ePp m te) xPq.own xPq.top 40 218 [t] (.bool false)∧pureT t
 y:∀t:T,(default:Prd).q 11 t↔Ans prog (glZ m te) (ePp m te) xPq.own xPq.top 40 218 [t] (.bool true)∧pureT t
theorem a218(hI:Is)(m:Int)(te:TypeId):∀c∈lPb,AnsOk prog (glZ m te) (ePp m te) xPq 40 c:=fun c hc=>
 ⟨(List.all_eq_true.1 (by kernel_rfl):∀c∈lPb,lEv (pureA dep) c.pre=true) c hc,fun ts ht=>ctZ_ans ((layPp hI m te).cn (X:=xPq) rfl rfl (l:=[93,141,292]) rfl (by kernel_rfl)) dep40 (tab:=[]) (by simp) (rPb c hc) ht⟩
theorem inv_bool{ρ:List Int}{μ:List (Option Nat)}{t:T}(h:Gm ρ μ (.bool boTop) t):∃b,t= .bool b:=by
 cases h with
 |bool _ b _ =>exact⟨b,rfl⟩
theorem slp_of{ρ:List Int}{μ:List (Option Nat)}{q:Nat}{e:A}{lo hi:Int}{t:T}(h:Gm ρ μ (.slv e lo hi) t)(hq:(default:Prd).q q t):Gm ρ μ (.slpv q e lo hi) t:=by
 obtain⟨xs,h1,h2,h3,h4⟩:=inv_slv h;exact .slpv _ _ _ _ _ xs hq h1 h2 h3 h4
theorem of_slp{ρ:List Int}{μ:List (Option Nat)}{q:Nat}{e:A}{lo hi:Int}{t:T}(h:Gm ρ μ (.slpv q e lo hi) t):(default:Prd).q q t∧Gm ρ μ (.slv e lo hi) t:=by
 cases h with
 |slpv _ _ _ _ _ xs h0 h1 h2 h3 h4=>exact⟨h0,.slv _ _ _ _ xs h1 h2 h3 h4⟩
theorem path_cases(hI:Is)(m:Int)(te:TypeId)(hP:Ip m te){t:T}(h:Gm [] [] sPart t):Gm [] [] (.slpv 10 (.agg partP) 0 100) t∨Gm [] [] (.slpv 11 (.agg partP) 0 100) t:=by
 obtain⟨r,r1,r2⟩:=(a218 hI m te c218 (by unfold lPb;simp)).2 [t] (gml_cons h gml_nil);obtain⟨b,rfl⟩:=inv_bool r2;have hp:pureT t:=pure_of (a:=sPart) (by kernel_rfl) h;cases b
 ·exact .inl (slp_of h ((hP.n t).2 ⟨r1,hp⟩))
 ·exact .inr (slp_of h ((hP.y t).2 ⟨r1,hp⟩))
theorem u218(hI:Is)(m:Int)(te:TypeId)(hP:Ip m te):∀c∈lPq,AnsOk prog (glZ m te) (ePp m te) xPq 40 c:=by
 intro c hc;have hp:=(List.all_eq_true.1 (by kernel_rfl):∀c∈lPq,lEv (pureA dep) c.pre=true) c hc;simp only[lPq,List.mem_cons,List.not_mem_nil,or_false]at hc;rcases hc with rfl|rfl|rfl
 ·refine⟨hp,fun ts ht=> ?_⟩;obtain⟨t,r,rfl,g1,g2⟩:=(show GmL [] [] [.slpv 10 (.agg partP) 0 100] ts from ht).inv_cons;have e:=g2.inv_nil;subst e;exact⟨.bool false,((hP.n t).1 (of_slp g1).1).1,.bool _ _ rfl⟩
 ·refine⟨hp,fun ts ht=> ?_⟩;obtain⟨t,r,rfl,g1,g2⟩:=(show GmL [] [] [.slpv 11 (.agg partP) 0 100] ts from ht).inv_cons;have e:=g2.inv_nil;subst e;exact⟨.bool true,((hP.y t).1 (of_slp g1).1).1,.bool _ _ rfl⟩
 ·exact a218 hI m te c218 (by unfold lPb;simp)
theorem aPq(hI:Is)(m:Int)(te:TypeId)(hP:Ip m te):∀c∈lPq,AnsOk prog (glZ m te) (ePp m te) xPq 40 c:=(u218 hI m te hP)
theorem layPq(hI:Is)(m:Int)(te:TypeId)(hP:Ip m te):Lay prog (glZ m te) 40 (fun _ =>none) (qP1) (ePq m te) dPq:=
 (layPp hI m te).stepZ follows (glZFrz m te) dep40 (X:=xPq) (tl:=[218,93,141,292]) rfl okPq (l:=lPq) (aPq hI m te hP)
def eP2(m:Int)(te:TypeId):=extP prog (glZ m te) (ePq m te) xPn.own xPn.top 40 fun f=>([c217n]++([c217y]++([c146n]++([c146y]++([c217u,c146u]))))).any fun c=>Nat.beq c.f f
def dP2:FuncId→Bool:=fun f=>(([c217n]++([c217y]++([c146n]++([c146y]++([c217u,c146u]))))).any fun c=>Nat.beq c.f f)||dPq f
theorem aP2_0(hI:Is)(m:Int)(te:TypeId)(hP:Ip m te):∀c∈[c217n],AnsOk prog (glZ m te) (ePq m te) xPn 40 c:=fun c hc=>
 ⟨(List.all_eq_true.1 (by kernel_rfl):∀c∈[c217n],lEv (pureA dep) c.pre=true) c hc,fun ts ht=>ctZ_ans ((layPq hI m te hP).cn (X:=xPn) rfl rfl (l:=[289,140]) rfl (by kernel_rfl)) dep40 (tab:=[]) (by simp) (rP2_0 c hc) ht⟩
theorem aP2_1(hI:Is)(m:Int)(te:TypeId)(hP:Ip m te):∀c∈[c217y],AnsOk prog (glZ m te) (ePq m te) xPn 40 c:=fun c hc=>
 ⟨(List.all_eq_true.1 (by kernel_rfl):∀c∈[c217y],lEv (pureA dep) c.pre=true) c hc,fun ts ht=>ctZ_ans ((layPq hI m te hP).cn (X:=xPn) rfl rfl (l:=[289,140]) rfl (by kernel_rfl)) dep40 (tab:=[]) (by simp) (rP2_1 c hc) ht⟩
theorem aP2_2(hI:Is)(m:Int)(te:TypeId)(hP:Ip m te):∀c∈[c146n],AnsOk prog (glZ m te) (ePq m te) xPn 40 c:=fun c hc=>
 ⟨(List.all_eq_true.1 (by kernel_rfl):∀c∈[c146n],lEv (pureA dep) c.pre=true) c hc,fun ts ht=>ctZ_ans ((layPq hI m te hP).cn (X:=xPm) rfl rfl (l:=[217,289,140]) rfl (by kernel_rfl)) dep40 (tab:=[]) (by simp) (rP2_2 c hc) ht⟩
theorem aP2_3(hI:Is)(m:Int)(te:TypeId)(hP:Ip m te):∀c∈[c146y],AnsOk prog (glZ m te) (ePq m te) xPn 40 c:=fun c hc=>
 ⟨(List.all_eq_true.1 (by kernel_rfl):∀c∈[c146y],lEv (pureA dep) c.pre=true) c hc,fun ts ht=>ctZ_ans ((layPq hI m te hP).cn (X:=xPm) rfl rfl (l:=[217,289,140]) rfl (by kernel_rfl)) dep40 (tab:=[]) (by simp) (rP2_3 c hc) ht⟩
theorem u217(hI:Is)(m:Int)(te:TypeId)(hP:Ip m te):∀c∈[c217u,c146u],AnsOk prog (glZ m te) (ePq m te) xPn 40 c:=by
 intro c hc;have hp:=(List.all_eq_true.1 (by kernel_rfl):∀c∈[c217u,c146u],lEv (pureA dep) c.pre=true) c hc;simp only[List.mem_cons,List.not_mem_nil,or_false]at hc;rcases hc with rfl|rfl
 ·refine ans_union hp fun ts ht=> ?_;obtain⟨v,r,rfl,g1,g2⟩:=(show GmL [] [] [vE,sPart] ts from ht).inv_cons;obtain⟨t,r,rfl,g3,g4⟩:=g2.inv_cons;rcases path_cases hI m te hP g3 with h|h
  ·exact⟨c217n,aP2_0 hI m te hP _ (by simp),rfl,gml_cons g1 (gml_cons h g4),fun _ h=>h⟩
  ·exact⟨c217y,aP2_1 hI m te hP _ (by simp),rfl,gml_cons g1 (gml_cons h g4),fun _ h=>h⟩
 ·refine ans_union hp fun ts ht=> ?_;obtain⟨v,r,rfl,g1,g2⟩:=(show GmL [] [] [vE,sPart] ts from ht).inv_cons;obtain⟨t,r,rfl,g3,g4⟩:=g2.inv_cons;rcases path_cases hI m te hP g3 with h|h
  ·exact⟨c146n,aP2_2 hI m te hP _ (by simp),rfl,gml_cons g1 (gml_cons h g4),fun _ h=>h⟩
  ·exact⟨c146y,aP2_3 hI m te hP _ (by simp),rfl,gml_cons g1 (gml_cons h g4),fun _ h=>h⟩
theorem aP2(hI:Is)(m:Int)(te:TypeId)(hP:Ip m te):∀c∈[c217n]++([c217y]++([c146n]++([c146y]++([c217u,c146u])))),AnsOk prog (glZ m te) (ePq m te) xPn 40 c:=(List.forall_mem_append.2 ⟨(aP2_0 hI m te hP),(List.forall_mem_append.2 ⟨(aP2_1 hI m te hP),(List.forall_mem_append.2 ⟨(aP2_2 hI m te hP),(List.forall_mem_append.2 ⟨(aP2_3 hI m te hP),(u217 hI m te hP)⟩)⟩)⟩)⟩)
theorem layP2(hI:Is)(m:Int)(te:TypeId)(hP:Ip m te):Lay prog (glZ m te) 40 (fun _ =>none) (pE0) (eP2 m te) dP2:=
 (layPq hI m te hP).stepZ follows (glZFrz m te) dep40 (X:=xPn) (tl:=[217,146,289,140]) rfl okP2 (l:=[c217n]++([c217y]++([c146n]++([c146y]++([c217u,c146u]))))) (aP2 hI m te hP)
def eE1:=nE gE1 eP2
def dE1:=nD gE1 dP2
theorem layE1(hI:Is)(m:Int)(te:TypeId)(hP:Ip m te):LayT m te (pE1) (eE1 m te) dE1:=go (layP2 hI m te hP) [214,216,144,229,294,225,232,233] rE1 rfl (by kernel_rfl) (by kernel_rfl) ⟨r5,trivial⟩
end
end Go.Proofs.Tryz
namespace Go.Proofs.Tryz
open Go.Ps
set_option maxRecDepth 100000
theorem rS1:∀s∈[s147],smyRun prog (xE 0) [] 4 s=true:=List.all_eq_true.1 (by kernel_rfl)
theorem rS2:∀s∈[s220],smyRun prog (xE 0) [s147] 4 s=true:=List.all_eq_true.1 (by kernel_rfl)
theorem rS3:∀s∈[s145,s150,s151,s148,s231],smyRun prog (xE 0) [s147,s220] 4 s=true:=List.all_eq_true.1 (by kernel_rfl)
theorem rS4:∀s∈[s152 0,s152 1,s152 2,s153 0,s153 1,s153 2,s230 0,s230 1,s230 2],smyRun prog (xE 0) [s147,s220] 4 s=true:=List.all_eq_true.1 (by kernel_rfl)
theorem rU0:∀s∈(opsU.map (s154 0)),smyRun prog (xE 0) [s147,s220,s230 0,s231] 4 s=true:=List.all_eq_true.1 (by kernel_rfl)
theorem rU1:∀s∈(opsU.map (s154 1)),smyRun prog (xE 0) [s147,s220,s230 1,s231] 4 s=true:=List.all_eq_true.1 (by kernel_rfl)
theorem rU2:∀s∈(opsU.map (s154 2)),smyRun prog (xE 0) [s147,s220,s230 2,s231] 4 s=true:=List.all_eq_true.1 (by kernel_rfl)
theorem rN0:∀s∈[sNeed 0],smyRun prog (xE 0) (sEvV 0::tE0) 4 s=true:=List.all_eq_true.1 (by kernel_rfl)
theorem rT0:∀s∈[sTruth 0],smyRun prog (xE 0) (sNeed 0::tE0) 4 s=true:=List.all_eq_true.1 (by kernel_rfl)
theorem rN1:∀s∈[sNeed 1],smyRun prog (xE 1) (sEvV 1::tE0) 4 s=true:=List.all_eq_true.1 (by kernel_rfl)
theorem rT1:∀s∈[sTruth 1],smyRun prog (xE 1) (sNeed 1::tE0) 4 s=true:=List.all_eq_true.1 (by kernel_rfl)
theorem rN2:∀s∈[sNeed 2],smyRun prog (xE 2) (sEvV 2::tE0) 4 s=true:=List.all_eq_true.1 (by kernel_rfl)
theorem rT2:∀s∈[sTruth 2],smyRun prog (xE 2) (sNeed 2::tE0) 4 s=true:=List.all_eq_true.1 (by kernel_rfl)
end Go.Proofs.Tryz
namespace Go.Proofs.Tryz
open Go.Ps
set_option maxRecDepth 100000
theorem rV0:∀s∈((opsAll 0).map (sEv 0)),smyRun prog (xE 0) (tEv 0) 4 s=true:=List.all_eq_true.1 (by kernel_rfl)
end Go.Proofs.Tryz
namespace Go.Proofs.Tryz
open Go.Ps
set_option maxRecDepth 100000
theorem rV1:∀s∈((opsAll 1).map (sEv 1)),smyRun prog (xE 1) (tEv 1) 4 s=true:=List.all_eq_true.1 (by kernel_rfl)
end Go.Proofs.Tryz
namespace Go.Proofs.Tryz
open Go.Ps
set_option maxRecDepth 100000
theorem rV2:∀s∈((opsAll 2).map (sEv 2)),smyRun prog (xE 2) (tEv 2) 4 s=true:=List.all_eq_true.1 (by kernel_rfl)
end Go.Proofs.Tryz
namespace Go.Proofs.Tryz
open Go.Ps
set_option maxRecDepth 100000
theorem rV3:∀s∈((opsAll 3).map (sEv 3)),smyRun prog (xE 3) (tEv 3) 4 s=true:=List.all_eq_true.1 (by kernel_rfl)
end Go.Proofs.Tryz
namespace Go.Proofs.Tryz
open Go.Ps
set_option maxRecDepth 100000
theorem r59:∀c∈l59a++l59b,ctRunZ prog (xE 3) [sEvV 3] 8 c=true:=List.all_eq_true.1 (by kernel_rfl)
end Go.Proofs.Tryz
namespace Go.Proofs.Tryz
open Go.Ps
set_option maxRecDepth 100000
variable[Inhabited Prd]
noncomputable section
def SE(m:Int)(te:TypeId)(s:Smy):Prop:=SmyOk (fun n d=>(run2 prog ⟨glZ m te,lend 40 (eE1 m te)⟩ (xE 0).own (xE 0).top n d).ee) s
theorem seOf(hI:Is){m:Int}{te:TypeId}(hP:Ip m te){d:Nat}{tab:List Smy}(ht:∀s∈tab,SE m te s){s:Smy}(hr:smyRun prog (xE d) tab 4 s=true):SE m te s:=
 Lay.smy (layE1 hI m te hP) (X:=xE d) rfl rfl (il:=tE) rfl (by kernel_rfl) (tl:=tE) rfl (by kernel_rfl) ht hr (by kernel_rfl) (by kernel_rfl) dep40
section
variable(hI:Is)(m:Int)(te:TypeId)(hP:Ip m te)
include hI hP
theorem se1:∀s∈[s147],SE m te s:=fun s h=>seOf hI hP (d:=0) (tab:=[]) (by simp) (rS1 s h)
theorem se2:∀s∈[s147,s220],SE m te s:=fun s h=>by
 simp only[List.mem_cons,List.not_mem_nil,or_false]at h;rcases h with rfl|rfl
 ·exact se1 hI m te hP _ (by simp)
 ·exact seOf hI hP (d:=0) (se1 hI m te hP) (rS2 _ (by simp))
theorem se3:∀s∈tE0,SE m te s:=fun s h=>by
 have h:s∈[s147,s220]++[s145,s150,s151,s148,s231]:=h;rcases List.mem_append.1 h with h|h
 ·exact se2 hI m te hP s h
 ·exact seOf hI hP (d:=0) (se2 hI m te hP) (rS3 s h)
theorem se4:∀s∈[s152 0,s152 1,s152 2,s153 0,s153 1,s153 2,s230 0,s230 1,s230 2],SE m te s:=fun s h=>seOf hI hP (d:=0) (se2 hI m te hP) (rS4 s h)
theorem se5{d:Nat}(h230:SE m te (s230 d))(hr:∀s∈opsU.map (s154 d),smyRun prog (xE 0) [s147,s220,s230 d,s231] 4 s=true):∀s∈opsU.map (s154 d),SE m te s:=fun s h=>by
 refine seOf hI hP (d:=0) (fun q hq=> ?_) (hr s h);simp only[List.mem_cons,List.not_mem_nil,or_false]at hq;rcases hq with rfl|rfl|rfl|rfl
 ·exact se2 hI m te hP _ (by simp)
 ·exact se2 hI m te hP _ (by simp)
 ·exact h230
 ·exact se3 hI m te hP _ (by unfold tE0;simp)
theorem se_lvl{d:Nat}(hd:d≤3)(ht:∀s∈tEv d,SE m te s)(hr:∀s∈(opsAll d).map (sEv d),smyRun prog (xE d) (tEv d) 4 s=true):SE m te (sEvV d):=by
 refine smy_union fun ts μ hg=> ?_;obtain⟨p,r,rfl,g1,g2⟩:=(show GmL [0] μ (.ptr 0 0::[.prd (100+d+1) (eA d)]) ts from hg).inv_cons;obtain⟨t,r,rfl,g3,g4⟩:=g2.inv_cons;obtain⟨k,hk,hg'⟩:=cls_ok hI (by omega) g3;exact⟨sEv d k,seOf hI hP ht (hr _ (List.mem_map_of_mem hk)),rfl,rfl,gml_cons g1 (gml_cons hg' g4),fun _ h=>h⟩
theorem se_next{d:Nat}(hE:SE m te (sEvV d))(hN:∀s∈[sNeed d],smyRun prog (xE d) (sEvV d::tE0) 4 s=true)(hT:∀s∈[sTruth d],smyRun prog (xE d) (sNeed d::tE0) 4 s=true)
  (h2:SE m te (s152 d)) (h3:SE m te (s153 d)) (hU:∀s∈opsU.map (s154 d),SE m te s):∀s∈tEv (d+1),SE m te s:=by
 have hn:SE m te (sNeed d):=seOf hI hP (fun s h=>by
  rcases List.mem_cons.1 h with rfl|h
  ·exact hE
  ·exact se3 hI m te hP s h) (hN _ (by simp))
 have ht:SE m te (sTruth d):=seOf hI hP (fun s h=>by
  rcases List.mem_cons.1 h with rfl|h
  ·exact hn
  ·exact se3 hI m te hP s h) (hT _ (by simp))
 intro s h;have h:s∈tE0++[sEvV d,sNeed d,sTruth d,s152 d,s153 d]++opsU.map (s154 d):=h;rcases List.mem_append.1 h with h|h
 ·rcases List.mem_append.1 h with h|h
  ·exact se3 hI m te hP s h
  ·simp only[List.mem_cons,List.not_mem_nil,or_false]at h;rcases h with rfl|rfl|rfl|rfl|rfl
   ·exact hE
   ·exact hn
   ·exact ht
   ·exact h2
   ·exact h3
 ·exact hU s h
theorem se_all:SE m te (sEvV 3):=by
 have m4:=se4 hI m te hP;have u0:=se5 hI m te hP (d:=0) (m4 _ (by simp)) rU0;have u1:=se5 hI m te hP (d:=1) (m4 _ (by simp)) rU1;have u2:=se5 hI m te hP (d:=2) (m4 _ (by simp)) rU2;have v0:=se_lvl hI m te hP (d:=0) (by omega) (se3 hI m te hP) rV0;have t1:=se_next hI m te hP v0 rN0 rT0 (m4 _ (by simp)) (m4 _ (by simp)) u0;have v1:=se_lvl hI m te hP (d:=1) (by omega) t1 rV1;have t2:=se_next hI m te hP v1 rN1 rT1 (m4 _ (by simp)) (m4 _ (by simp)) u1;have v2:=se_lvl hI m te hP (d:=2) (by omega) t2 rV2;have t3:=se_next hI m te hP v2 rN2 rT2 (m4 _ (by simp)) (m4 _ (by simp)) u2;exact se_lvl hI m te hP (d:=3) (by omega) t3 rV3
theorem a59:∀c∈l59a++l59b,AnsOk prog (glZ m te) (eE1 m te) (xE 0) 40 c:=fun c hc=>
 ⟨(List.all_eq_true.1 (by kernel_rfl):∀c∈l59a++l59b,lEv (pureA dep) c.pre=true) c hc,fun ts ht=>ctZ_ans ((layE1 hI m te hP).cn (X:=xE 3) rfl rfl (l:=tE) rfl (by kernel_rfl)) dep40 (tab:=[sEvV 3]) (fun s h=>by
  simp only[List.mem_cons,List.not_mem_nil,or_false]at h;subst h
  exact se_all hI m te hP) (r59 c hc) ht⟩
theorem u59:∀c∈[c59],AnsOk prog (glZ m te) (eE1 m te) (xE 0) 40 c:=by
 intro c hc;simp only[List.mem_cons,List.not_mem_nil,or_false]at hc;subst hc;refine ans_union (by kernel_rfl) fun ts ht=> ?_;obtain⟨e,r,rfl,g1,g2⟩:=(show GmL [] [] [.agg (eA 3),vE] ts from ht).inv_cons;have hp:pureT e:=pure_of (pureE 3 (by omega)) g1;have g1':=g1;cases g1' with
 |agg _ us h1 h2=>
 by_cases hv:VE 4 (.agg us)
 ·exact⟨c59v,a59 hI m te hP _ (by unfold l59a l59b;simp),rfl,gml_cons (.prd _ _ _ ((hI.v 4 _ (by omega)).2 ⟨hv,hp⟩) h1 h2) g2,fun _ h=>h⟩
 ·refine⟨c59b,a59 hI m te hP _ (by unfold l59a l59b;simp),rfl,gml_cons (.prd _ _ _ ((hI.b 4 _ (by omega)).2 ⟨hv,hp⟩) h1 h2) g2,fun r h=> ?_⟩;have h':Gm [0] [] (.tup [.agg (vA 0 0 0),badN]) r:=Gm.ext (fun j v h=>by simp at h) (fun j v h=>by simp at h) h;exact leT_ok (ρ:=[0]) (μ:=[]) (cs:=[]) (fun q hq=>by simp at hq) rfl 0 0 dep _ (.tup [.agg (vT (uT 3) 5),err]) r (by kernel_rfl) h'
end
def eE2(m:Int)(te:TypeId):=extP prog (glZ m te) (eE1 m te) (xE 0).own (xE 0).top 40 fun f=>l59.any fun c=>Nat.beq c.f f
def dE2:FuncId→Bool:=fun f=>(l59.any fun c=>Nat.beq c.f f)||dE1 f
theorem okE2:(tE:List Nat).all (fun f=>okFn prog f&&fnOk2 prog f)=true:=by kernel_rfl
theorem layE2(hI:Is)(m:Int)(te:TypeId)(hP:Ip m te):Lay prog (glZ m te) 40 (fun _ =>none) pE2 (eE2 m te) dE2:=
 (layE1 hI m te hP).stepZ follows (glZFrz m te) dep40 (X:=xE 0) (tl:=tE) rfl okE2 (l:=l59) (List.forall_mem_append.2 ⟨(List.forall_mem_append.1 (a59 hI m te hP)).1,List.forall_mem_append.2 ⟨(List.forall_mem_append.1 (a59 hI m te hP)).2,u59 hI m te hP⟩⟩)
def eE3:=nE gE3 eE2
def dE3:=nD gE3 dE2
theorem layE3(hI:Is)(m:Int)(te:TypeId)(hP:Ip m te):LayT m te (pE3) (eE3 m te) dE3:=go (layE2 hI m te hP) [30] rE3 rfl (by kernel_rfl) (by kernel_rfl) ⟨r5,trivial⟩
end
end Go.Proofs.Tryz
namespace Go.Proofs.Tryz
open Go.Ps
set_option maxRecDepth 100000
theorem rE4:runG prog gE4=true:=by kernel_rfl
theorem rM1:runG prog gM1=true:=by kernel_rfl
end Go.Proofs.Tryz
namespace Go.Proofs.Tryz
open Go.Ps
set_option maxRecDepth 100000
variable[Inhabited Prd]
noncomputable section
def eE4:=nE gE4 eE3
def dE4:=nD gE4 dE3
theorem layE4(hI:Is)(m:Int)(te:TypeId)(hP:Ip m te):LayT m te (pN1) (eE4 m te) dE4:=go (layE3 hI m te hP) tN rE4 rfl (by kernel_rfl) (by kernel_rfl) ⟨r5,trivial⟩
def eM1:=nE gM1 eE4
def dM1:=nD gM1 dE4
theorem layM1(hI:Is)(m:Int)(te:TypeId)(hP:Ip m te):LayT m te (pM1) (eM1 m te) dM1:=go (layE4 hI m te hP) [13,14] rM1 rfl (by kernel_rfl) (by kernel_rfl) ⟨r5,trivial⟩
end
end Go.Proofs.Tryz
namespace Go.Proofs.Tryz
open Go.Ps
set_option maxRecDepth 100000
theorem rZ0:runG prog gZ0=true:=by kernel_rfl
theorem rZ1:runG prog gZ1=true:=by kernel_rfl
theorem rZ2:runG prog gZ2=true:=by kernel_rfl
theorem rZ3:runG prog gZ3=true:=by kernel_rfl
theorem rZ4:runG prog gZ4=true:=by kernel_rfl
theorem rW0:runG prog gW0=true:=by kernel_rfl
theorem rW1:runG prog gW1=true:=by kernel_rfl
theorem rW2:runG prog gW2=true:=by kernel_rfl
theorem rW3:runG prog gW3=true:=by kernel_rfl
theorem rW8:runG prog gW8=true:=by kernel_rfl
theorem rW12:runG prog gW12=true:=by kernel_rfl
end Go.Proofs.Tryz
namespace Go.Proofs.Tryz
open Go.Ps
set_option maxRecDepth 100000
variable[Inhabited Prd]
noncomputable section
def eZ0:=nE gZ0 eK4
def dZ0:=nD gZ0 dK4
theorem layZ0(m:Int)(te:TypeId):LayT m te (pZ 1) (eZ0 m te) dZ0:=go (layK4 m te) [29] rZ0 rfl (by kernel_rfl) (by kernel_rfl) ⟨r5,trivial⟩
def eZ1:=nE gZ1 eZ0
def dZ1:=nD gZ1 dZ0
theorem layZ1(m:Int)(te:TypeId):LayT m te (pZ 2) (eZ1 m te) dZ1:=go (layZ0 m te) [29] rZ1 rfl (by kernel_rfl) (by kernel_rfl) ⟨r5,r5,trivial⟩
def eZ2:=nE gZ2 eZ1
def dZ2:=nD gZ2 dZ1
theorem layZ2(m:Int)(te:TypeId):LayT m te (pZ 3) (eZ2 m te) dZ2:=go (layZ1 m te) [29] rZ2 rfl (by kernel_rfl) (by kernel_rfl) ⟨r5,r5,r5,trivial⟩
def eZ3:=nE gZ3 eZ2
def dZ3:=nD gZ3 dZ2
theorem layZ3(m:Int)(te:TypeId):LayT m te (pZ 4) (eZ3 m te) dZ3:=go (layZ2 m te) [29] rZ3 rfl (by kernel_rfl) (by kernel_rfl) ⟨r5,r5,r5,r5,trivial⟩
def eZ4:=nE gZ4 eZ3
def dZ4:=nD gZ4 dZ3
theorem layZ4(m:Int)(te:TypeId):LayT m te (pZ 5) (eZ4 m te) dZ4:=go (layZ3 m te) [29] rZ4 rfl (by kernel_rfl) (by kernel_rfl) ⟨r5,r5,r5,r5,r5,trivial⟩
def eW0:=nE gW0 eZ4
def dW0:=nD gW0 dZ4
theorem layW0(m:Int)(te:TypeId):LayT m te (pS3) (eW0 m te) dW0:=go (layZ4 m te) [55] rW0 rfl (by kernel_rfl) (by kernel_rfl) ⟨r5,trivial⟩
def eW1:=nE gW1 eW0
def dW1:=nD gW1 dW0
theorem layW1(m:Int)(te:TypeId):LayT m te (pS4) (eW1 m te) dW1:=go (layW0 m te) [55] rW1 rfl (by kernel_rfl) (by kernel_rfl) ⟨r5,r5,trivial⟩
def eW2:=nE gW2 eW1
def dW2:=nD gW2 dW1
theorem layW2(m:Int)(te:TypeId):LayT m te (pS5) (eW2 m te) dW2:=go (layW1 m te) [55] rW2 rfl (by kernel_rfl) (by kernel_rfl) ⟨r5,r5,r5,trivial⟩
def eW3:=nE gW3 eW2
def dW3:=nD gW3 dW2
theorem layW3(m:Int)(te:TypeId):LayT m te (pS6) (eW3 m te) dW3:=go (layW2 m te) [55] rW3 rfl (by kernel_rfl) (by kernel_rfl) ⟨r5,r5,r5,r5,trivial⟩
def eW8:=nE gW8 eW3
def dW8:=nD gW8 dW3
theorem layW8(m:Int)(te:TypeId):LayT m te (pS7) (eW8 m te) dW8:=go (layW3 m te) [8,23] rW8 rfl (by kernel_rfl) (by kernel_rfl) ⟨r5,trivial⟩
def eW12:=nE gW12 eW8
def dW12:=nD gW12 dW8
theorem layW12(m:Int)(te:TypeId):LayT m te (pS8) (eW12 m te) dW12:=go (layW8 m te) [12] rW12 rfl (by kernel_rfl) (by kernel_rfl) ⟨r5,trivial⟩
end
end Go.Proofs.Tryz
namespace Go.Proofs.Tryz
open Go.Ps
set_option maxRecDepth 100000
noncomputable section
structure L4 where
 a0:T
 a1:T
 a2:T
 a3:T
 a4:T
 b0:T
 b1:T
 b2:T
 b3:T
 b4:T
 c0:T
 c1:T
 c2:T
 c3:T
 c4:T
 c5:T
 c6:T
 c7:T
 c8:T
 c9:T
 d0:T
 d1:T
 d2:T
 d3:T
 d4:T
 d5:T
 d6:T
 d7:T
 d8:T
 d9:T
 e0:T
 e1:T
 e2:T
 r:Bool
def L4.t(q:L4):T:= .agg [q.a0,q.a1,q.a2,q.a3,q.a4]
def L4.s(q:L4):T:= .agg [q.b0,q.b1,q.b2,q.b3,q.b4]
def L4.m(q:L4):T:= .agg [q.c0,q.c1,q.c2,q.c3,q.c4,q.c5,q.c6,q.c7,q.c8,q.c9]
def L4.n(q:L4):T:= .agg [q.d0,q.d1,q.d2,q.d3,q.d4,q.d5,q.d6,q.d7,q.d8,q.d9]
def L4.l(q:L4):T:= .agg [q.d0,q.d1,q.d2,q.d3,q.d4,q.d5,q.d6,q.d7,q.d8,q.d9,q.e0,q.e1,q.e2]
def F4:Fc:=⟨fun s=>Nat.beq s 2||Nat.beq s 3,fun _ _ _ =>none⟩
def c1s(f:FuncId)(m:Int)(te:TypeId)(x r:T):List T→Option (T×List Bool)
 |[y]=>some (r,[pb (y=x),pb (PureFn prog (glZ m te) f [x] r)])
 |_ =>none
def c2s(f:FuncId)(m:Int)(te:TypeId)(x z r:T):List T→Option (T×List Bool)
 |[y,u]=>some (r,[pb (y=x),pb (u=z),pb (PureFn prog (glZ m te) f [x,z] r)])
 |_ =>none
def s9:List T→Option (T×List Bool)
 |[]=>some (.bool true,[])
 |_ =>none
def D4(m:Int)(te:TypeId)(q:L4):Ed:=⟨glZ m te,pdAdd 8 (c1s 8 m te q.t q.s) (pdAdd 12 (c1s 12 m te q.m q.n) (pdAdd 9 s9 (pdAdd 13 (c2s 13 m te q.s q.l (.bool q.r)) (pdAdd 14 (c2s 14 m te q.s q.l (.bool q.r)) (fun _ _ _ =>none)))))⟩
theorem c1s_ok{f:FuncId}{m:Int}{te:TypeId}{x r:T}{ts:List T}{r':T}{cs:List Bool}(h:c1s f m te x r ts=some (r',cs))(hc:allT cs=true):PureFn prog (glZ m te) f ts r':=by
 unfold c1s at h;split at h
 ·cases h;simp only[allT,Bool.and_true,Bool.and_eq_true,pb_iff]at hc;rw[hc.1];exact hc.2
 ·cases h
theorem c2s_ok{f:FuncId}{m:Int}{te:TypeId}{x z r:T}{ts:List T}{r':T}{cs:List Bool}(h:c2s f m te x z r ts=some (r',cs))(hc:allT cs=true):PureFn prog (glZ m te) f ts r':=by
 unfold c2s at h;split at h
 ·cases h;simp only[allT,Bool.and_true,Bool.and_eq_true,pb_iff]at hc;rw[hc.1,hc.2.1];exact hc.2.2
 ·cases h
theorem cx4(m:Int)(te:TypeId)(q:L4):Cx prog (D4 m te q) F4:=by
 refine⟨follows,?_,eeNone_ok⟩;refine pdAdd_ok (pdAdd_ok (pdAdd_ok (pdAdd_ok (pdAdd_ok pdNone_ok fun ts r cs h hc=>c2s_ok h hc) fun ts r cs h hc=>c2s_ok h hc) fun ts r cs h hc=> ?_) fun ts r cs h hc=>c1s_ok h hc) fun ts r cs h hc=>c1s_ok h hc;unfold s9 at h;split at h
 ·cases h;exact pure1 known_ok
 ·cases h
end
end Go.Proofs.Tryz
namespace Go.Proofs.Tryz
open Go.Ps
set_option maxRecDepth 100000
noncomputable def g4w_s_1(m:Int)(te:TypeId)(q:L4):List Bool:=let y0:=pb (T.agg [q.b0,q.b1,q.b2,q.b3,q.b4]=T.agg [q.b0,q.b1,q.b2,q.b3,q.b4]);let y1:=pb (T.agg [q.d0,q.d1,q.d2,q.d3,q.d4,q.d5,q.d6,q.d7,q.d8,q.d9,q.e0,q.e1,q.e2]=T.agg [q.d0,q.d1,q.d2,q.d3,q.d4,q.d5,q.d6,q.d7,q.d8,q.d9,q.e0,q.e1,q.e2]);[true,true,y0,y1,pb (PureFn prog (glZ m te) 14 [T.agg [q.b0,q.b1,q.b2,q.b3,q.b4],T.agg [q.d0,q.d1,q.d2,q.d3,q.d4,q.d5,q.d6,q.d7,q.d8,q.d9,q.e0,q.e1,q.e2]] (T.bool q.r)),true,true,true,y0,y1,pb (PureFn prog (glZ m te) 13 [T.agg [q.b0,q.b1,q.b2,q.b3,q.b4],T.agg [q.d0,q.d1,q.d2,q.d3,q.d4,q.d5,q.d6,q.d7,q.d8,q.d9,q.e0,q.e1,q.e2]] (T.bool q.r)),true,true,true,true,true,allOne [q.d0,q.d1,q.d2,q.d3,q.d4,q.d5,q.d6,q.d7,q.d8,q.d9],pb (T.agg [q.c0,q.c1,q.c2,q.c3,q.c4,q.c5,q.c6,q.c7,q.c8,q.c9]=T.agg [q.c0,q.c1,q.c2,q.c3,q.c4,q.c5,q.c6,q.c7,q.c8,q.c9]),pb (PureFn prog (glZ m te) 12 [T.agg [q.c0,q.c1,q.c2,q.c3,q.c4,q.c5,q.c6,q.c7,q.c8,q.c9]] (T.agg [q.d0,q.d1,q.d2,q.d3,q.d4,q.d5,q.d6,q.d7,q.d8,q.d9])),true,true,allOne [q.b0,q.b1,q.b2,q.b3,q.b4],pb (T.agg [q.a0,q.a1,q.a2,q.a3,q.a4]=T.agg [q.a0,q.a1,q.a2,q.a3,q.a4]),pb (PureFn prog (glZ m te) 8 [T.agg [q.a0,q.a1,q.a2,q.a3,q.a4]] (T.agg [q.b0,q.b1,q.b2,q.b3,q.b4]))]
noncomputable def V4w_s(m:Int)(te:TypeId)(q:L4):Empty⊕T:=
 (.inr (T.bool (q.r==q.r)))
noncomputable def K4w_s(m:Int)(te:TypeId)(q:L4):Bool:=
 (allT (g4w_s_1 m te q))
theorem w4w_s_1(m:Int)(te:TypeId)(q:L4):outK prog f4 20 [] (runK prog (D4 m te q) F4 2000 (.code (bodyOf f4)) [] 0 ([.agg [q.a0,q.a1,q.a2,q.a3,q.a4],.agg [q.c0,q.c1,q.c2,q.c3,q.c4,q.c5,q.c6,q.c7,q.c8,q.c9,q.e0,q.e1,q.e2]]++List.replicate 19 undefT) ⟨0,.nl⟩ (bt 8 255) [])=wdn (T.bool (q.r==q.r)) (g4w_s_1 m te q):=by kernel_rfl
theorem c4w(m:Int)(te:TypeId)(q:L4)(hf:mapO (frzT 40 ⟨0,.nl⟩) [.agg [q.a0,q.a1,q.a2,q.a3,q.a4],.agg [q.c0,q.c1,q.c2,q.c3,q.c4,q.c5,q.c6,q.c7,q.c8,q.c9,q.e0,q.e1,q.e2]]=some [.agg [q.a0,q.a1,q.a2,q.a3,q.a4],.agg [q.c0,q.c1,q.c2,q.c3,q.c4,q.c5,q.c6,q.c7,q.c8,q.c9,q.e0,q.e1,q.e2]])(n:Nat){r:T}(hk:K4w_s m te q=true)(hr:noM.fin n (V4w_s m te q)=some r):PureFn prog (glZ m te) 4 [.agg [q.a0,q.a1,q.a2,q.a3,q.a4],.agg [q.c0,q.c1,q.c2,q.c3,q.c4,q.c5,q.c6,q.c7,q.c8,q.c9,q.e0,q.e1,q.e2]] r:=
 pure_mach (M:=noM) (fn:=f4) (k:=20) (d:=40) (c:=bodyOf f4) (cx4 m te q) (glZFrz m te) (by kernel_rfl) func4 (by kernel_rfl) rfl (by kernel_rfl) hf (L:=19) (by kernel_rfl) noM_ways (fun σ=>σ.elim) ((kD (w4w_s_1 m te q)) hk _ rfl) hr
end Go.Proofs.Tryz
namespace Go.Ps
section
variable{P:Program}{E:Env}{ee:FuncId→List T→Hp→Option (T×Hp)}{yd:Nat→List T→Hp→Option (Bool×Hp)}{ow:Tmp→Bool}{n:Nat}
def oneT:List T→T
 |[t]=>t
 |ts=> .tup ts
theorem fn2_outR{f:FuncId}{fn:Func}{c:Code}{args:List T}{H H':Hp}{t:T}(hf:P.funcs[f]? =some fn)(hb:fn.body=some c)(h:fn2 P E ee yd ow n f args H=some (t,H')):
  ∃l,outR P fn.results.toList (code2 P E ee yd ow n none c (args++List.replicate (fn.ntmps-args.length) undefT) H)=some l∧t=oneT l:=by
 unfold fn2 at h;simp only[hf,hb]at h;generalize code2 P E ee yd ow n none c (args++List.replicate (fn.ntmps-args.length) undefT) H=o at h⊢;rcases o with _ |⟨x,fr,H1⟩
 ·cases h
 ·have key:∀{q:Option (List T)},(match q with|some [t]=>some (t,H1)|some ts=>some (.tup ts,H1)|none=>none)=some (t,H')→∃l,q=some l∧t=oneT l:=by
   intro q hq;rcases q with _ |_ |⟨a,_ |⟨b,r⟩⟩
   ·cases hq
   ·cases hq;exact⟨_,rfl,rfl⟩
   ·cases hq;exact⟨_,rfl,rfl⟩
   ·cases hq;exact⟨_,rfl,rfl⟩
  cases x<;>first
   |exact key h
   |cases h
theorem frz_bool{k:Nat}{H:Hp}{t:T}{b:Bool}(h:frzT (k+1) H t=some (.bool b)):t= .bool b:=by
 cases t
 case bool=>cases h;rfl
 all_goals
  simp only[frzT]at h
  repeat' split at h
  all_goals cases h
end
end Go.Ps
namespace Go.Proofs.Tryz
open Go.Ps
set_option maxRecDepth 100000
variable[Inhabited Prd]
theorem out{m:Int}{te:TypeId}{pa q:FuncId→List A→Nat→List Con→Option AV}{e:Int→TypeId→FuncId→List T→Option T}{dom d:FuncId→Bool}(h:LayT m te pa (e m te) dom){g:Grp}{gs:List Grp}
  (h3:runG prog (g::gs)=true) (h2:chkG dom (g::gs)=true) (h1:inG (fun _ =>none) pa g.1 (g::gs)) (hl:LayT m te q (nE (g::gs) e m te) d) {c:Ctr} (hc:c∈flatG (g::gs)) {ts:List T} (ht:GmL [] [] c.pre ts):
  ∃r,PureFn prog (glZ m te) c.f ts r∧Gm [] [] c.res r:=
 Lay.exZ (X:=g.1) hl (glZFrz m te) dep40 hc (ansG h dep40 h1 h2 h3 c hc) ht
theorem short_ex(m:Int)(te:TypeId){ts:List T}(h:GmL [] [] Tryz.c8.pre ts):∃r,PureFn prog (glZ m te) 8 ts r∧Gm [] [] Tryz.c8.res r:=
 out (layW3 m te) rW8 (by kernel_rfl) ⟨r5,trivial⟩ (layW8 m te) (c:=Tryz.c8) (List.mem_cons_self:Tryz.c8∈[Tryz.c8]) h
theorem msg_ex(m:Int)(te:TypeId){ts:List T}(h:GmL [] [] c12.pre ts):∃r,PureFn prog (glZ m te) 12 ts r∧Gm [] [] c12.res r:=
 out (layW8 m te) rW12 (by kernel_rfl) ⟨r5,trivial⟩ (layW12 m te) (c:=c12) (List.mem_cons_self:c12∈[c12]) h
noncomputable def ltrI:List A:=[ifull,.slv ifull 0 cBig,ifull,.slv ifull 0 cBig]++vI 4++[txt cBig,txt cBig,ifull]
theorem gmAgg{es:List A}{x:T}(h:Gm [] [] (.agg es) x):∃ts,x= .agg ts∧GmL [] [] es ts:=by
 cases h with
 |agg _ ts h1 h2=>exact⟨ts,rfl,h1,h2⟩
section
variable(hI:Is)(m:Int)(te:TypeId)(hP:Ip m te)
include hI hP
theorem match_ex{ts:List T}(h:GmL [] [] c13.pre ts):∃b,PureFn prog (glZ m te) 13 ts (.bool b)∧PureFn prog (glZ m te) 14 ts (.bool b):=by
 have ha:=ansG (layE4 hI m te hP) dep40 (X:=xM) (gs:=gM1) ⟨r5,trivial⟩ (by kernel_rfl) rM1;have h13:=ha c13 (List.mem_cons_self:c13∈[c13,c14]);have h14:=ha c14 (List.mem_cons_of_mem _ List.mem_cons_self:c14∈[c13,c14]);obtain⟨r,a1,a2⟩:=h13.2 ts h;obtain⟨r',b1,b2⟩:=h14.2 ts h;obtain⟨b,rfl⟩:=inv_bool a2;obtain⟨b',rfl⟩:=inv_bool b2;have hb:b=b':=by
  obtain⟨k1,m1⟩:=a1;obtain⟨k2,m2⟩:=b1;have e1:=m1 (k1+k2) (k1+k2+1) (by omega) (by omega);have e2:=m2 (k1+k2) (k1+k2+1) (by omega) (by omega);unfold Ps.pureE at e1 e2;split at e1
  ·rename_i t1 H1 f1;split at e2
   ·rename_i t2 H2 f2;have f1:fn2 prog ⟨glZ m te,lend 40 (eE4 m te)⟩ (run2 prog ⟨glZ m te,lend 40 (eE4 m te)⟩ xM.own xM.top (k1+k2) (k1+k2)).ee (run2 prog ⟨glZ m te,lend 40 (eE4 m te)⟩ xM.own xM.top (k1+k2) (k1+k2)).yd (fun _ =>true) (k1+k2) 13 ts ⟨0,.nl⟩=some (t1,H1):=f1;have f2:fn2 prog ⟨glZ m te,lend 40 (eE4 m te)⟩ (run2 prog ⟨glZ m te,lend 40 (eE4 m te)⟩ xM.own xM.top (k1+k2) (k1+k2)).ee (run2 prog ⟨glZ m te,lend 40 (eE4 m te)⟩ xM.own xM.top (k1+k2) (k1+k2)).yd (fun _ =>true) (k1+k2) 14 ts ⟨0,.nl⟩=some (t2,H2):=f2;obtain⟨l1,g1,rfl⟩:=fn2_outR func13 (c:=bodyOf f13) (by kernel_rfl) f1;obtain⟨l2,g2,rfl⟩:=fn2_outR func14 (c:=bodyOf f14) (by kernel_rfl) f2;have hl:ts.length=2:=h.1.symm;have key:=twin ⟨glZ m te,lend 40 (eE4 m te)⟩ _ _ (fun _ =>true) _ rfl (ts++List.replicate (72-ts.length) undefT) ⟨0,.nl⟩ l1 l2 (by simp[hl]) g1 g2;subst key;have c1:=frz_bool (k:=39) e1;have c2:=frz_bool (k:=39) e2;rw[c1]at c2;exact T.bool.inj c2
   ·cases e2
  ·cases e1
 subst hb;have hp:∀{f:FuncId},((flatG gM1).any fun c=>Nat.beq c.f f)=true→Ans prog (glZ m te) (eE4 m te) xM.own xM.top 40 f ts (.bool b)→PureFn prog (glZ m te) f ts (.bool b):=fun{f} hf ha=>
  (layM1 hI m te hP).pure (glZFrz m te) (extP_ans (tab:=fun f=>(flatG gM1).any fun c=>Nat.beq c.f f) hf ha) (mapO_id _ fun x hx=>by
   obtain⟨a,h1,h2⟩:=gmL_mem h.1 h.2 hx
   exact frz_id dep a x (lEv_mem h13.1 a h1) h2 40 dep40)
 exact⟨b,hp (f:=13) (by kernel_rfl) a1,hp (f:=14) (by kernel_rfl) b1⟩
theorem law4_ok{t l:T}(ht:GmL [] [] Tryz.c8.pre [t])(hl:Gm [] [] (.agg ltrI) l):PureFn prog (glZ m te) 4 [t,l] (.bool true):=by
 obtain⟨s,hs,gs⟩:=short_ex m te ht;obtain⟨ts,rfl,gt⟩:=gmAgg (show Gm [] [] (.agg [txt cBig,txt cBig,ifull,ifull,.slv (.agg (eI 3)) 0 cBig]) t from ht.head);obtain⟨us,rfl,gl⟩:=gmAgg hl;obtain⟨ss,rfl,gs'⟩:=gmAgg (show Gm [] [] (.agg [txt 100,txt 100,ifull,ifull,.slv (.agg (eA 3)) 0 8]) s from gs);have h13:us.length=13:=by rw[←gl.1];rfl
 have h5:ts.length=5:=by rw[←gt.1];rfl
 have h5':ss.length=5:=by rw[←gs'.1];rfl
 match ts,h5,us,h13,ss,h5' with
 |[a0,a1,a2,a3,a4],_,[c0,c1,c2,c3,c4,c5,c6,c7,c8,c9,e0,e1,e2],_,[b0,b1,b2,b3,b4],_ =>
  have gm:GmL [] [] c12.pre [.agg [c0,c1,c2,c3,c4,c5,c6,c7,c8,c9]]:=gml_cons (agg_of ⟨rfl,fun j a t ha ht=>gl.2 j a t (by
   rw[show ltrI=([ifull,.slv ifull 0 cBig,ifull,.slv ifull 0 cBig]++vI 4)++[txt cBig,txt cBig,ifull]from rfl]
   rw[List.getElem?_append_left (List.getElem?_eq_some_iff.1 ha).1];exact ha) (by
   have hj:j<10:=(List.getElem?_eq_some_iff.1 ht).1
   rw[show [c0,c1,c2,c3,c4,c5,c6,c7,c8,c9,e0,e1,e2]=[c0,c1,c2,c3,c4,c5,c6,c7,c8,c9]++[e0,e1,e2]from rfl,List.getElem?_append_left hj];exact ht)⟩) gml_nil
  obtain⟨n,hn,gn⟩:=msg_ex m te gm;obtain⟨ds,rfl,gd⟩:=gmAgg (show Gm [] [] (.agg ([ifull,.slv ifull 0 6,ifull,.slv ifull 0 6]++vA 40 6 4)) n from gn);have h10:ds.length=10:=by rw[←gd.1];rfl
  match ds,h10 with
  |[d0,d1,d2,d3,d4,d5,d6,d7,d8,d9],_ =>
   have gl':GmL [] [] letA [d0,d1,d2,d3,d4,d5,d6,d7,d8,d9,e0,e1,e2]:=by
    have g3:GmL [] [] [txt cBig,txt cBig,ifull] [e0,e1,e2]:=⟨rfl,fun j a t ha ht=>gl.2 (10+j) a t (by
     rw[show ltrI=([ifull,.slv ifull 0 cBig,ifull,.slv ifull 0 cBig]++vI 4)++[txt cBig,txt cBig,ifull]from rfl]
     exact(List.getElem?_append_right (by exact Nat.le_add_right 10 j)).trans (by rw[show 10+j-([ifull,A.slv ifull 0 cBig,ifull,.slv ifull 0 cBig]++vI 4).length=j from Nat.add_sub_cancel_left 10 j];exact ha)) (by
     rw[show [c0,c1,c2,c3,c4,c5,c6,c7,c8,c9,e0,e1,e2]=[c0,c1,c2,c3,c4,c5,c6,c7,c8,c9]++[e0,e1,e2]from rfl]
     exact(List.getElem?_append_right (by exact Nat.le_add_right 10 j)).trans (by rw[show 10+j-[c0,c1,c2,c3,c4,c5,c6,c7,c8,c9].length=j from Nat.add_sub_cancel_left 10 j];exact ht))⟩
    exact gd.app g3
   obtain⟨b,hb1,hb2⟩:=match_ex hI m te hP (ts:=[.agg [b0,b1,b2,b3,b4],.agg [d0,d1,d2,d3,d4,d5,d6,d7,d8,d9,e0,e1,e2]]) (gml_cons gs (gml_cons (agg_of gl') gml_nil));have ho:∀{es:List A} {ts:List T},GmL [] [] es ts→lEv (pureA dep) es=true→mapO (frzT 40 ⟨0,.nl⟩) ts=some ts:=fun h hp=>mapO_id _ fun x hx=>by
    obtain⟨a,h1,h2⟩:=gmL_mem h.1 h.2 hx;exact frz_id dep a x (lEv_mem hp a h1) h2 40 dep40
   refine c4w m te ⟨a0,a1,a2,a3,a4,b0,b1,b2,b3,b4,c0,c1,c2,c3,c4,c5,c6,c7,c8,c9,d0,d1,d2,d3,d4,d5,d6,d7,d8,d9,e0,e1,e2,b⟩ (ho (es:=[_,.agg ltrI]) (gml_cons ht.head (gml_cons hl gml_nil)) (by kernel_rfl)) 0 ?_ ?_
   ·unfold K4w_s g4w_s_1;simp only[allT,Bool.and_true,Bool.and_eq_true,pb_iff];have o1:=allOneA_ok gt (by kernel_rfl);have o2:=allOneA_ok gs' (by kernel_rfl);have o3:=allOneA_ok gl (by kernel_rfl);have o4:=allOneA_ok gd (by kernel_rfl);have o5:=allOneA_ok gl' (by kernel_rfl);simp only[allOne,Bool.and_true,Bool.and_eq_true]at o1 o2 o3 o4 o5⊢;simp[hs,hn,hb1,hb2,o1,o2,o3,o4,o5]
   ·unfold V4w_s;simp
end
end Go.Proofs.Tryz
