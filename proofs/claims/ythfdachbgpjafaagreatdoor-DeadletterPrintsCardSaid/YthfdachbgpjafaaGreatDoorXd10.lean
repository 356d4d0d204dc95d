/- Lemmas for the card; no conditions. -/
import Derived.Test.YthfdachbgpjafaaGreatDoorXd7
import Derived.Test.YthfdachbgpjafaaGreatDoorXd8
import Derived.Test.YthfdachbgpjafaaGreatDoorXd9
import Derived.Laws.Cover4
import Derived.Lib.QuoteLoop
set_option linter.all false
set_option maxRecDepth 100000
namespace Go.Proofs.Tryz
open Go.Ps
variable[Inhabited gy]
noncomputable section
theorem xV:qZ<=40:=by decide
def dZ:FuncId->Bool:=λf=>sA f [115,207,208,56,40]
def eZ(m:Int)(C:gB):FuncId->List T->Option T:=j7
variable(m:Int)(C:gB)
theorem Am:lZ (fo m C) Tn:=by
 intro g a h;unfold Tn at h;split at h;rename_i e;have e:=aD e;subst e;cases h;refine⟨.ref g9 0,rfl,λV U f=> .ref _ _ _ rfl (.agg _ _ rfl λj c t d b=> ?_)⟩
 match j with
 |0=>cases d;cases b;exact .gh _|1=>cases d;cases b;exact .gh _|2=>cases d;cases b;exact .gh _|3=>cases d;cases b;exact .gh _|4=>cases d;cases b;exact .gh _|j+5=>simp[g9]at b
 cases h
theorem bOj:iu prog (fo m C) 40 Tn mZ (eZ m C) dZ:=by
 refine⟨(Am m C),aZx,aZz m C,λf c h=> ?_,RU _⟩;have a:∀k,sA k [115,207,208,56,40]=true->f≠k:=λk b e=>by subst e;rw[show dZ f=sA f [115,207,208,56,40]from rfl,b]at h;cases h
 unfold eZ j7;rw[aH (a 115 rfl),aH (a 207 rfl),aH (a 208 rfl),aH (a 56 rfl),aH (a 40 rfl)]
abbrev xE:=iu prog (fo m C) 40 Tn
abbrev jG:=Int->TypeId->FuncId->List T->Option T
def nE(g:List DI)(e:jG)(m:Int)(C:gB):FuncId->List T->Option T:=LN prog (fo m C) (e m C) (bGy g) (bIy g) 40 λf=>(CB g).any λc=>Nat.beq c.f f
def nD(g:List DI)(d:hC):FuncId->Bool:=λf=>((CB g).any λc=>Nat.beq c.f f)||d f
theorem go{m:Int}{C:gB}{p:FuncId->List A->Nat->List pR->Option AV}{e:jG}{d:hC}(h:xE m C p (e m C) d){g:DI}{a:List DI}(c:gU)
  (j:yD prog (g::a)=true) (i:g.1.top=λf=>sA f c) (b:c.all (λf=>uQ prog f&&zN prog f)=true) (n:aGk d (g::a)=true) (o:mW Tn p g.1 (g::a)):
  xE m C (pY (CB (g::a)) p) (nE (g::a) e m C) (nD (g::a) d):=
 iu.go h follows (qN m C) xV c i b o n j
def tO:=nE pt eZ
def ua:=nD pt dZ
theorem bFj:xE m C (oO) (tO m C) ua:=go (bOj m C) [209] y7 rfl (by kernel_rfl) (by kernel_rfl) ⟨r5,trivial⟩
def uc:=nE pu tO
def ud:=nD pu ua
theorem aVo:xE m C (oP) (uc m C) ud:=go (bFj m C) [270,273,275] y8 rfl (by kernel_rfl) (by kernel_rfl) ⟨r5,trivial⟩
def ue:=nE mB uc
def uf:=nD mB ud
theorem aVp:xE m C (nW) (ue m C) uf:=go (aVo m C) [26,27,60,205,317,269,271,272,274,276,277,278,279,280,281] tz rfl (by kernel_rfl) (by kernel_rfl) ⟨r5,trivial⟩
def ug:=nE pv ue
def uh:=nD pv uf
theorem bFk:xE m C (oQ) (ug m C) uh:=go (aVp m C) [137,203,204,282,283,92,139,140,197,206,262] y9 rfl (by kernel_rfl) (by kernel_rfl) ⟨r5,r5,trivial⟩
def mG:=nE pw ug
def oa:=nD pw uh
theorem XN:xE m C (DK) (mG m C) oa:=go (bFk m C) [58,88,89,90,91,93,94,138,141] za rfl (by kernel_rfl) (by kernel_rfl) ⟨r5,r5,trivial⟩
def SK(s:MS):Prop:=HG (λn d=>(qW prog ⟨fo m C,sR 40 (mG m C)⟩ (GV KN DK).own (GV KN DK).top n d).ee) s
theorem aLj{m:Int}{C:gB}{a:FuncId->An}{gz:List MS}(h:∀s∈gz,SK m C s){s:MS}(b:sB prog (GV a DK) gz 4 s=true):SK m C s:=
 iu.fi (XN m C) (X:=GV a DK) rfl rfl (il:=[57,28]) rfl (by kernel_rfl) (tl:=[57,28]) rfl (by kernel_rfl) h b (by kernel_rfl) (by kernel_rfl) (by kernel_rfl) xV
theorem bAq(hI:Is){m:Int}{C:gB}{d:Nat}(F:d<=3)(v:∀s∈Ec d,SK m C s)(D:∀e,d=e+1->∀s∈aLb e,SK m C s):SK m C (bAk d):=by
 refine aDo λu U w=> ?_;obtain⟨t,r,rfl,y,j⟩:=(show pT [0] U (.ia (200+d+1) (eA d)::[fk,.ptr 0 0,.ptr 1 0]) u from w).I;cases y with
 |ia _ _ H B g c=>
 have p:=((hI.b (d+1) _ (by omega)).1 B).1;rcases cls hI (by omega) (.agg _ _ g c) p with⟨x,z,a⟩|⟨e,n,i,rfl,I,E,a⟩
 exact⟨l7 (.agg x) Ln,v _ (eM z),rfl,rfl,pT.cons a j,λ_ h=>h⟩;refine⟨l7 (.agg (aQy e n i)) Ln,D e rfl _ ?_,rfl,rfl,pT.cons a j,λ_ h=>h⟩;have o:(n,i)∈[(1,0),(2,0),(2,1),(3,0),(3,1),(3,2),(4,0),(4,1),(4,2),(4,3)]:=by
  have g:n=1\/n=2\/n=3\/n=4:=by omega
  have c:i=0\/i=1\/i=2\/i=3:=by omega
  rcases g with rfl|rfl|rfl|rfl<;>rcases c with rfl|rfl|rfl|rfl<;>first|(exfalso;omega)|simp
 exact eM (f:=λq:Nat×Nat=>l7 (.agg (aQy e q.1 q.2)) Ln) o
theorem UM(hI:Is){m:Int}{C:gB}{d:Nat}(f:d<=3)(b:∀s∈Eu d,SK m C s)(j:∀s∈[Vc d],sB prog (GV KN DK) (Eu d) 4 s=true)(g:∀s∈Ec d,sB prog (GV KN DK) (Eu d) 4 s=true)
  (i:∀e,d=e+1->∀s∈aLb e,sB prog (GV aOd DK) (Eu d) 4 s=true):∀s∈Eu (d+1),SK m C s:=by
 intro s a;have a:s∈[bAk d,Vc d]:=a;simp only[aY,dF,fQ]at a;rcases a with rfl|rfl
 exact bAq hI f (λs h=>aLj b (g s h)) λe c s h=>aLj b (i e c s h);exact aLj b (j _ (by simp))
theorem bAp(hI:Is)(m:Int)(C:gB):∀s∈Eu 4,SK m C s:=by
 have f:∀s∈Eu 0,SK m C s:=λs h=>by cases h
 have c:=UM hI (d:=0) (by omega) f zb zf (λe h=>by cases h);have b:=UM hI (d:=1) (by omega) c zg zh (λe h=>by cases h;exact zn);have a:=UM hI (d:=2) (by omega) b zi zj (λe h=>by cases h;exact zo);exact UM hI (d:=3) (by omega) a zk zm (λe h=>by cases h;exact zp)
theorem bIm:∀s∈[Kt 1],SK m C s:=by
 have st:∀{a b:Int} {t:List MS},t=[Kt b]->(∀s∈[Kt b],SK m C s)->(∀s∈[Kt a],sB prog (GV KN DK) t 4 s=true)->∀s∈[Kt a],SK m C s:=λe h q s c=>aLj (by rw[e];exact h) (q s c);have p:∀s∈[Kt 9],SK m C s:=λs c=>aLj (gz:=[]) (by simp) (zq s c);have d:=st (a:=8) rfl p zr;have i:=st (a:=7) rfl d zu;have j:=st (a:=6) rfl i zw;have o:=st (a:=5) rfl j zx;have n:=st (a:=4) rfl o zy;have f:=st (a:=3) rfl n zz;have g:=st (a:=2) rfl f z6;exact st (a:=1) rfl g z7
theorem bOu:([57,28]:List Nat).all (λf=>uQ prog f&&zN prog f)=true:=by kernel_rfl
def ui:=LN prog (fo m C) (mG m C) (GV KN DK).own (GV KN DK).top 40 λf=>Nx.any λc=>Nat.beq c.f f
def uj:FuncId->Bool:=λf=>(Nx.any λc=>Nat.beq c.f f)||oa f
theorem uk(hI:Is)(m:Int)(C:gB):∀c∈Nx,Ar prog (fo m C) (mG m C) (GV KN DK) 40 c:=List.forall_mem_append.2 ⟨λc h=>
 ⟨(aP.1 (by kernel_rfl):∀c∈m5,HD (qT qZ) c.pre=true) c h,λb a=>Gq ((XN m C).cn (X:=GV KN DK) rfl rfl (l:=[57,28]) rfl (by kernel_rfl)) xV (gz:=Eu 4) (bAp hI m C) (z8 c h) a⟩,λc h=>by
 rw[bR.1 h]
 exact⟨by kernel_rfl,λb a=>Gq ((XN m C).cn (X:=GV KN DK) rfl rfl (l:=[57,28]) rfl (by kernel_rfl)) xV (gz:=[Kt 1]) (bIm m C) bPu a⟩⟩
theorem aVn(hI:Is)(m:Int)(C:gB):iu prog (fo m C) 40 Tn kI (ui m C) uj:=
 (XN m C).ct follows (qN m C) xV (X:=GV KN DK) (tl:=[57,28]) rfl bOu (l:=Nx) (uk hI m C)
end
end Go.Proofs.Tryz
namespace Go.Proofs.Tryz
open Go.Ps
theorem ul:yD prog px=true:=by kernel_rfl
theorem AM:yD prog py=true:=by kernel_rfl
theorem AN:yD prog pz=true:=by kernel_rfl
theorem AT:yD prog pI=true:=by kernel_rfl
theorem um:yD prog n6=true:=by kernel_rfl
theorem A0:yD prog p0=true:=by kernel_rfl
theorem A3:yD prog qa=true:=by kernel_rfl
theorem A4:yD prog qb=true:=by kernel_rfl
theorem un:yD prog qc=true:=by kernel_rfl
theorem A5:yD prog qn=true:=by kernel_rfl
end Go.Proofs.Tryz
namespace Go.Ps
variable[Inhabited gy]
section
variable{P:gD}{gl:gG}
open Classical in
noncomputable def Yq(P:gD)(gl:gG)(c:tW)(p:gI):FuncId->List T->Option T:=λf a=>
 if Nat.beq c.f f=true then(if h:∃r,fj P gl f a r/\(∀I:Inhabited gy, @Gm I [] [] c.res r)then some (Classical.choose h)else none)else p f a
theorem aIu{c:tW}{pe:gI}{a:gC}(h:∃r,fj P gl c.f a r/\(∀I:Inhabited gy, @Gm I [] [] c.res r)):∃r,Yq P gl c pe c.f a=some r/\Gm [] [] c.res r:=by
 refine⟨Classical.choose h,?_,(cO h).2 _⟩;unfold Yq;rw[aJ (by simp),dif_pos h]
theorem aYw{c:tW}{p:gI}(n:iq P gl p):iq P gl (Yq P gl c p):=by
 intro f i r h;unfold Yq at h;split at h;split at h;rename_i e;cases h;have q:=(cO e).1;exact⟨q.1,λg v d b a j=>q.2 g v d ⟨0,λl _ =>b l⟩ a j⟩;cases h;exact n f i r h
variable{k:Nat}{ga:Nat->Option A}{pa:FuncId->List A->Nat->List pR->Option AV}{pe:gI}{dom:hC}
theorem iu.known(h:iu P gl k ga pa pe dom)(Q:qZ<=k){c:tW}(N:HD (qT qZ) c.pre=true)(R:∀b,pT [] [] c.pre b->∃r,fj P gl c.f b r/\(∀I:Inhabited gy, @Gm I [] [] c.res r)):
  iu P gl k ga (pY [c] pa) (Yq P gl c pe) (λf=>Nat.beq c.f f||dom f):=by
 refine⟨h.gA,?_,aYw h.pc,λf b E=> ?_,h.hx⟩;intro f a n J v i V U H b o K;unfold pY at i;split at i;split at i;rename_i M F;have e:=eO F;simp only[aY,dF,fQ]at e;subst e;have d:=List.find?_some (p:=λc:tW=>Nat.beq c.f f&&yW (GM J 0 0 qZ) a c.pre) F;simp only[aA]at d;obtain⟨d,w⟩:=d;have d:=oT d;subst d;cases i;have g:pT [] [] M.pre b:=by
  have:=AC (λa t x=>wW o.cs o.zero 0 0 qZ a t x) w K
  rwa [TE,TE]at this
 obtain⟨r,s,z⟩:=aIu (pe:=pe) (R b g);have y:qJ (pM k ⟨0,.nl⟩) b=some b:=yY _ λx O=>by
  obtain⟨a,L,B⟩:=yU g.1 g.2 O;exact FK qZ a x (qM N a L) B k Q
 refine⟨r,?_,rB o (z.ext (λj v h=>by simp at h) (λj v h=>by simp at h))⟩;unfold sR;rw[y];exact s;cases i;rename_i u;obtain⟨r,s,z⟩:=h.pA f a n J v i V U H b o K;refine⟨r,?_,z⟩;have D:∀b,Yq P gl c pe f b=pe f b:=λb=>by
  unfold Yq;rw[aH (λq=>u (by simp only[List.any_cons,List.any_nil,Bool.or_false];exact q))]
 unfold sR at s⊢;simp only[D];exact s;simp only[fI]at E;unfold Yq;rw[aH (λq=>by rw[E.1]at q;cases q)];exact h.dm f b E.2
theorem iu.e8{X:AX}{l:List tW}{pb:FuncId->List A->Nat->List pR->Option AV}{o:hC}(h:iu P gl k ga pb (LN P gl pe X.own X.top k λf=>l.any λc=>Nat.beq c.f f) o)(p:wO gl)(q:qZ<=k){c:tW}(s:c∈l)(d:Ar P gl pe X k c){ts:gC}(b:pT [] [] c.pre ts):
  ∃r,fj P gl c.f ts r/\Gm [] [] c.res r:=by
 obtain⟨r,n,i⟩:=d.2 ts b;refine⟨r,h.pure p (Mt (eP.2 ⟨c,s,by simp⟩) n) (yY _ λx j=> ?_),i⟩;obtain⟨a,g,e⟩:=yU b.1 b.2 j;exact FK qZ a x (qM d.1 a g) e k q
end
end Go.Ps
namespace Go.Proofs.Tryz
open Go.RowKit Go.Ps
theorem bMg{m:Int}{C:gB}(s:gH)(c:Int):fj prog (fo m C) 72 [.str s,.int .u8 c] (.int .i64 (Lib.indexByte s c.toNat.toUInt8)):=by
 refine vL (by kernel_rfl) λg j i h=> ?_
 match j,h with
 |[v,u],h=>
  have f:=vQ (h.I).1;have d:=((h.I).2.I).1.gm;subst f d;refine⟨.int .i64 (Lib.indexByte s c.toNat.toUInt8),λn=> .int _ _,?_⟩;refine(Any.strings_IndexByte (ρ:=IM) {Ys with} ⟨s.toArray⟩ c g.w).mono λe o ⟨a,b⟩=> ?_;subst b;exact⟨a,Below.refl _ _⟩
 |[],h=>have:=h.1;simp at this|[_],h=>have:=h.1;simp at this|_ ::_ ::_ ::_,h=>have:=h.1;simp at this
set_option maxHeartbeats 1000000 in
theorem aGm(s:iL)(w:iG):Calls prog 199 #[.string s,.string ⟨#[10]⟩] w λe b=>e= .returned (.int .i64 (Lib.countByte s.data.toList 10))/\b=w:=by
 have a:prog.follows .mixedOrders=true:=follows
 go_enter func199,ntmps199
 go_wp2
 rw[run_callFunc_extern func264 (by kernel_rfl) (by kernel_rfl) (by kernel_rfl) (e:=Extern.BytealgCount.count) (by kernel_rfl),Lib.run_countString];simp only[Result.andThen];rw[Oper.upon_value]
 go_wp2
 go_ret
 exact⟨rfl,rfl⟩
theorem bDc{m:Int}{C:gB}(s:gH):fj prog (fo m C) 199 [.str s,.str [10]] (.int .i64 (Lib.countByte s 10)):=by
 refine vL (by kernel_rfl) λg i f h=> ?_
 match i,h with
 |[v,u],h=>
  have d:=vQ (h.I).1;have c:=vQ ((h.I).2.I).1;subst d c;refine⟨.int .i64 (Lib.countByte s 10),λj=> .int _ _,?_⟩;refine(aGm ⟨s.toArray⟩ g.w).mono λe n ⟨a,b⟩=> ?_;subst b;exact⟨a,Below.refl _ _⟩
 |[],h=>have:=h.1;simp at this|[_],h=>have:=h.1;simp at this|_ ::_ ::_ ::_,h=>have:=h.1;simp at this
theorem aGz(p:Int):∃(s:iL) (x:Int),s.size<=4/\0<=x/\x<=255/\∀w:World,Calls prog 260 #[.int .i64 p] w λe d=>e= .returned (.tuple #[.string s,.int .i64 x])/\d=w:=by
 have a:prog.follows .mixedOrders=true:=follows;have c:∀n w,(convert 21 9 (.int .i32 n)).run prog w= .ok (.string (Utf8.encode n)) w:=λn w=>run_convert_int_string w _ _ _ _ (by kernel_rfl) (by kernel_rfl);have b:=encode_size_le;by_cases h:0<=p/\p<=1114111/\(p<55296\/57343<p)
 .refine⟨Utf8.encode p,0,b _,by omega,by omega,λw=> ?_⟩
  go_enter func260,ntmps260
  go_wp2
  all_goals first
   |(go_ret2;exact⟨rfl,rfl⟩)
   |(exfalso;simp_all;omega)
   |trace_state
 .refine⟨⟨#[]⟩,2,by decide,by omega,by omega,λw=> ?_⟩
  go_enter func260,ntmps260
  go_wp2
  all_goals first
   |(go_ret2;exact⟨rfl,rfl⟩)
   |(exfalso;simp_all;omega)
   |trace_state
theorem bDe{m:Int}{C:gB}(p:Int):∃(l:gH) (x:Int),l.length<=4/\0<=x/\x<=255/\fj prog (fo m C) 260 [.int .i64 p] (.fm [.str l,.int .i64 x]):=by
 obtain⟨s,x,n,o,i,b⟩:=aGz p;refine⟨s.data.toList,x,n,o,i,vL (by kernel_rfl) λg q y h=> ?_⟩
 match q,h with
 |[v],h=>
  have f:=((h.I).1).gm;subst f;refine⟨.tuple #[.string s,.int .i64 x],λu=> ?_,?_⟩;refine .fm _ [_,_] rfl (λj v c h a=> ?_)
  match j with
  |0=>simp at h a;subst h;subst a;exact Rd.str (g:=u) s|1=>simp at h a;subst h;subst a;exact .int _ _|k+2=>simp at h
  refine(b g.w).mono λe z ⟨d,b⟩=> ?_;subst b;exact⟨d,Below.refl _ _⟩
 |[],h=>have:=h.1;simp at this|_ ::_ ::_,h=>have:=h.1;simp at this
theorem OC(c:UInt8):∀l:List UInt8,Lib.indexByte l c+1<=l.length
 |[]=>by simp[Lib.indexByte]
 |b::l=>by
  have i:=OC c l;simp only[Lib.indexByte,aZ];split;omega;split<;>omega
theorem Gl(c:UInt8)(l:gH):Lib.countByte l c<=l.length:=List.count_le_length
theorem aPi(s:gH)(h:1<=s.length):Sr s<=s.length:=by
 have a:(⟨s.toArray⟩:ByteArray).size=s.length:=by show s.toArray.size=_;simp
 have:=Lib.width_le ⟨s.toArray⟩ (by omega);unfold Sr Lib.decodeGo;rw[aH (by omega)];omega
set_option maxHeartbeats 4000000 in
set_option maxHeartbeats 8000000 in
theorem aPx(n:Int)(D:0<=n)(F:n<=127):∃s:ByteArray,1<=s.size/\s.size<=2/\∀w:World,w.cell? ⟨6,15,none⟩=some (.int .u8 4)->6<w.heap.size->Calls prog 172 #[.slice none 0 0,.int .u64 n,.int .i64 16,.bool false,.bool false] w λe B=>e= .returned (.tuple #[.slice none 0 0,.string s])/\Below w.heap.size w B:=by
 have u:prog.follows .mixedOrders=true:=follows;have y:Go.bits BinOp.and IntKind.i64 16 15=0:=by kernel_rfl
 have E:IntKind.u64.wrap (Go.bits BinOp.and IntKind.u64 16 (IntKind.u64.wrap (-16))*285870213051353865)/288230376151711744=15:=by kernel_rfl
 have o:(⟨#[48,49,50,51,52,53,54,55,56,57,97,98,99,100,101,102,103,104,105,106,107,108,109,110,111,112,113,114,115,116,117,118,119,120,121,122]⟩:ByteArray).size=36:=rfl
 have b:∀w:World,(∀c:UInt8,(convert 128 9 (.slice (some ⟨w.heap.size,64,none⟩) 1 1)).run prog (w.alloc (.cells (zeroCells302.setIfInBounds 64 (.int .u8 c.toNat)) 302))= .ok (.string ⟨#[c]⟩) (w.alloc (.cells (zeroCells302.setIfInBounds 64 (.int .u8 c.toNat)) 302)))/\(∀c d:UInt8,(convert 128 9 (.slice (some ⟨w.heap.size,63,none⟩) 2 2)).run prog (w.alloc (.cells ((zeroCells302.setIfInBounds 64 (.int .u8 c.toNat)).setIfInBounds 63 (.int .u8 d.toNat)) 302))= .ok (.string ⟨#[d,c]⟩) (w.alloc (.cells ((zeroCells302.setIfInBounds 64 (.int .u8 c.toNat)).setIfInBounds 63 (.int .u8 d.toNat)) 302))):=λw=>⟨λc=>
  run_convert_bytes_back _ 128 9 5 ⟨w.heap.size,64,none⟩ 1 [c] (by kernel_rfl) (by kernel_rfl) (by kernel_rfl) (λj g=>by
   have:j=0:=by simp at g;omega
   subst this
   exact World.cell?_alloc_new w _ _ 64),λc d=>
  run_convert_bytes_back _ 128 9 5 ⟨w.heap.size,63,none⟩ 2 [d,c] (by kernel_rfl) (by kernel_rfl) (by kernel_rfl) (λj g=>by
   have:j=0\/j=1:=by simp at g;omega
   rcases this with rfl|rfl;exact World.cell?_alloc_new w _ _ 63
   exact World.cell?_alloc_new w _ _ 64)⟩
 have z:Go.bits BinOp.and IntKind.u64 n 15=n%16:=by
  have h:∀k:Fin 128,Go.bits BinOp.and IntKind.u64 ((k.val:Nat):Int) 15=((k.val:Nat):Int)%16:=by decide+kernel
  have:=h ⟨n.toNat,by omega⟩
  rwa [show((n.toNat:Nat):Int)=n by omega]at this
 by_cases H:n<16;refine⟨⟨#[(⟨#[48,49,50,51,52,53,54,55,56,57,97,98,99,100,101,102,103,104,105,106,107,108,109,110,111,112,113,114,115,116,117,118,119,120,121,122]⟩:ByteArray)[n.toNat]'(by rw[o];omega)]⟩,by show 1<=1;omega,by show 1<=2;omega,λw v p=> ?_⟩;obtain⟨f,a⟩:=b w;have q:(w.alloc (.cells zeroCells302 302)).cell? ⟨6,15,none⟩=some (.int .u8 4):=by rw[World.cell?_alloc_lt _ _ _ p];exact v
 go_enter func172,ntmps172
 go_wp2
 refine wp_loop_rounds 1 ?_;rw[rounds_succ];have i:¬16<=n:=by omega
 go_wp2
 go_ret2
 exact⟨rfl,(Below.refl _ w).alloc (bB _) _⟩;refine⟨⟨#[(⟨#[48,49,50,51,52,53,54,55,56,57,97,98,99,100,101,102,103,104,105,106,107,108,109,110,111,112,113,114,115,116,117,118,119,120,121,122]⟩:ByteArray)[(n/16).toNat]'(by rw[o];omega),(⟨#[48,49,50,51,52,53,54,55,56,57,97,98,99,100,101,102,103,104,105,106,107,108,109,110,111,112,113,114,115,116,117,118,119,120,121,122]⟩:ByteArray)[(n%16).toNat]'(by rw[o];omega)]⟩,by show 1<=2;omega,by show 2<=2;omega,λw v p=> ?_⟩;obtain⟨f,a⟩:=b w;have q:(w.alloc (.cells zeroCells302 302)).cell? ⟨6,15,none⟩=some (.int .u8 4):=by rw[World.cell?_alloc_lt _ _ _ p];exact v
 go_enter func172,ntmps172
 go_wp2
 refine wp_loop_rounds 2 ?_;rw[rounds_succ];have i:16<=n:=by omega
 have x:¬16<=n/16:=by omega
 go_wp2
 rw[rounds_succ]
 go_wp2
 go_ret2
 exact⟨rfl,(Below.refl _ w).alloc (bB _) _⟩
set_option maxHeartbeats 8000000 in
theorem aPy(n:Int)(p:0<=n)(i:n<=127):∃s:ByteArray,1<=s.size/\s.size<=2/\∀w:World,w.cell? ⟨6,15,none⟩=some (.int .u8 4)->6<w.heap.size->Calls prog 114 #[.int .i64 n,.int .i64 16] w λe b=>e= .returned (.string s)/\Below w.heap.size w b:=by
 have a:prog.follows .mixedOrders=true:=follows;have q:¬n<0:=by omega
 obtain⟨s,f,j,c⟩:=aPx n p i;refine⟨s,f,j,λw o h=> ?_⟩;have g:IntKind.u64.wrap n=n:=by rw[IntKind.wrap_u64];omega
 go_enter func114,ntmps114
 go_wp2_with (fail)
 refine(c _ o h).mono ?_;rintro e b ⟨rfl,d⟩
 go_wp2
 go_ret
 exact⟨rfl,d⟩
set_option maxHeartbeats 8000000 in
theorem aQb(n:Int)(o:0<=n)(f:n<=127):∃s:ByteArray,1<=s.size/\s.size<=2/\∀w:World,w.cell? ⟨6,15,none⟩=some (.int .u8 4)->6<w.heap.size->Calls prog 73 #[.int .i64 n,.int .i64 16] w λe b=>e= .returned (.string s)/\Below w.heap.size w b:=by
 have a:prog.follows .mixedOrders=true:=follows;obtain⟨s,d,i,c⟩:=aPy n o f;refine⟨s,d,i,λw j h=> ?_⟩
 go_enter func73,ntmps73
 go_wp2_with (fail)
 refine(c _ j h).mono ?_;rintro e b ⟨rfl,g⟩
 go_wp2
 go_ret
 exact⟨rfl,g⟩
theorem bMh{m:Int}{C:gB}(n:Int)(c:0<=n)(i:n<=127):∃l:List UInt8,1<=l.length/\l.length<=2/\fj prog (fo m C) 73 [.int .i64 n,.int .i64 16] (.str l):=by
 obtain⟨s,x,q,d⟩:=aQb n c i;have z:s.data.toList.length=s.size:=rfl;refine⟨s.data.toList,by omega,by omega,vL (by kernel_rfl) λg j a h=> ?_⟩
 match j,h with
 |[v,u],h=>
  have f:=((h.I).1).gm;have o:=((h.I).2.I).1.gm;subst f o;refine⟨.string s,λp=> ?_,?_⟩;have:=Rd.str (g:=p) s;exact this;obtain⟨e,y,b⟩:=aMd (ik:= .u8) (zs:=kZ) (a 6 (.ref kh 0) rfl);refine d g.w ?_ (aX.1 b).1;unfold World.cell?;simp only[b];rfl
 |[],h=>have:=h.1;simp at this|[_],h=>have:=h.1;simp at this|_ ::_ ::_ ::_,h=>have:=h.1;simp at this
end Go.Proofs.Tryz
