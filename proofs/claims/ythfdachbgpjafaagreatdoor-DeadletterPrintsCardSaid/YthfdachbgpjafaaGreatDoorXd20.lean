/- What comes in is a tree within the first function's bounds; what the row's list gives. -/
import Derived.Test.YthfdachbgpjafaaGreatDoorCards
import Derived.Test.YthfdachbgpjafaaGreatDoorTie
import Derived.Test.YthfdachbgpjafaaGreatDoorXd19
import Derived.WalkKit
import Derived.ProofKit
import Derived.OpenShut
import Derived.Deep.DeepHandedRow
import Derived.Lib.LaidU8T
import Derived.Stop.LaidErr
import Derived.LaidMore
import Derived.LaidLaws
import Derived.Shelf.Vars
set_option linter.all false
set_option maxRecDepth 100000
namespace Go.Ps
theorem WZ{W:iG}{k:Nat}{x:T}{v:gZ}{d:hP}{e:gB}{m:Nat×Nat}(f:x.cells=[x])(i:W.heap[k]? =some (.cells d e m))(o:d.size=1)(p:d[0]? =some v)(n:Rd (G.start W) v x):KL (G.start W) k (.ref x 0):=by
 have h:k<W.heap.size:=(aX.1 i).1;refine⟨?_,h,d,e,m,i,by simp[T.bm,f,o]⟩;refine Rd.ref (g:=G.start W) x 0 k 0 [v] h (by rw[f];rfl) (λj w a=> ?_) (λj w c a b=> ?_)
 match j with
 |0=>
  cases a;unfold World.cell?;show(match W.heap[k]? with|some (.cells c _ _)=>if(none:Option _).isSome then none else c[0+0]? |_ =>none)=some v;rw[i];simpa using p
 |j+1=>cases a
 rw[f]at b
 match j with
 |0=>cases a;cases b;exact n|j+1=>cases a
theorem LS{W:iG}{k:Nat}{ik:iC}{zs:gN}{d:hP}{e:gB}{m:Nat×Nat}(f:W.heap[k]? =some (.cells d e m))(n:d.size=zs.length)
  (o:∀(i:Nat) (z:Int),zs[i]? =some z->W.cell? ⟨k,i,none⟩=some (.int ik z)):KL (G.start W) k (.ref (.agg (zs.map (T.int ik))) 0):=by
 have b:k<W.heap.size:=(aX.1 f).1;refine⟨?_,b,d,e,m,f,by simp[T.bm,T.cells,n]⟩;refine Rd.ref (g:=G.start W) (.agg (zs.map (T.int ik))) 0 k 0 (zs.map λz=>Value.int ik z) b (by simp[T.cells]) (λj v h=> ?_) (λj v c h a=> ?_);simp only[bA]at h;cases hz:zs[j]? with
 |none=>rw[hz]at h;simp at h
 |some z=>
  rw[hz]at h;have:v= .int ik z:=by simpa using h.symm
  subst this;show W.cell? ⟨k,0+j,none⟩=_;rw[cG];exact o j z hz
 simp only[T.cells,bA]at h a;cases hz:zs[j]? with
 |none=>rw[hz]at h;simp at h|some z=>rw[hz]at h a;simp at h a;subst h;subst a;exact .int ik z
theorem Tp{W:iG}{k:Nat}{zs:jT}{f:hP}{e:gB}{n:Nat×Nat}(m:W.heap[k]? =some (.cells f e n))(p:f.size=zs.length)
  (q:∀(i:Nat) (z:gH),zs[i]? =some z->∃b:ByteArray,W.cell? ⟨k,i,none⟩=some (.string b)/\b.data.toList=z):KL (G.start W) k (.ref (.agg (zs.map T.str)) 0):=by
 have d:k<W.heap.size:=(aX.1 m).1;refine⟨?_,d,f,e,n,m,by simp[T.bm,T.cells,p]⟩;refine Rd.ref (g:=G.start W) (.agg (zs.map T.str)) 0 k 0 (zs.map λz=>Value.string ⟨z.toArray⟩) d (by simp[T.cells]) (λj v h=> ?_) (λj v c h a=> ?_);simp only[bA]at h;cases hz:zs[j]? with
 |none=>rw[hz]at h;simp at h
 |some z=>
  rw[hz]at h;have:v= .string ⟨z.toArray⟩:=by simpa using h.symm
  subst this;obtain⟨b,o,rfl⟩:=q j z hz;show W.cell? ⟨k,0+j,none⟩=_;rw[cG,o]
 simp only[T.cells,bA]at h a;cases hz:zs[j]? with
 |none=>rw[hz]at h;simp at h|some z=>rw[hz]at h a;simp at h a;subst h;subst a;exact .str ⟨z.toArray⟩
end Go.Ps
namespace Go.Proofs.YthfdachbgpjafaaGreatDoor
open Go.ChangeShapes Go.WideShapes Go.ChangeAt Go.RowKit Go.Ps
variable[Inhabited gy]
theorem bPb:ownKnob Tryz.prog.godebug=none:=by kernel_rfl
section
variable{H:Type}{enc:TypeId×Value->H}{W:iG}
def ZR(enc:TypeId×Value->H)(W:iG)(t:gB)(q:List A):Prop:=tL enc Tryz.prog W t (A:={ts:List T//ts.length=q.length}) (λa=>a.1) (λa=>pT [] [] q a.1)
theorem Ga{n:Nat}(h:n<=maxLen):(n:Int)<=Tryz.gO:=by
 have e:maxLen=9223372036854775807:=by decide+kernel
 show(n:Int)<=9223372036854775807;omega
theorem YG:ZR enc W 3 [Tryz.fk]:=λn d y h=>by
 obtain⟨a,e,c,b⟩:=tL.int (enc:=enc) (P:=Tryz.prog) (W:=W) (t:=3) (k:= .i64) (by kernel_rfl) n d y h;exact⟨⟨[.int .i64 a],rfl⟩,e,.cons (.ft .i64 _ _ a c b ⟨c,b⟩) .nil⟩
theorem Pf:ZR enc W 9 [Tryz.txt Tryz.gO]:=λn c y h=>by
 obtain⟨a,b,ok⟩:=tL.str (enc:=enc) (P:=Tryz.prog) (W:=W) (t:=9) (by kernel_rfl) n c y h;exact⟨⟨[.str a],rfl⟩,b,.cons (.fy 0 _ a (by omega) (Ga ok)) .nil⟩
instance{q:List A}:Inhabited {ts:List T//ts.length=q.length}:=⟨⟨List.replicate q.length oS,by simp⟩⟩
theorem aJw{t e:gB}{q:List A}(j:Tryz.prog.underlying t=some (.slice e))(d:Tryz.prog.cellsOf e=q.length)(b:0<q.length)(m:ZR enc W e q):ZR enc W t [.gp (.agg q) 0 Tryz.gO]:=λn g y h=>by
 obtain⟨⟨k,f⟩,s,p,o⟩:=tL.slice (sz:=q.length) (A:={ts:List T//ts.length=q.length}) (mk:=λa=>a.1) (ok:=λa=>pT [] [] q a.1) (λa=>T.agg a.1) j d b (λa=>a.2) (λa=>rfl) m n g y h;refine⟨⟨[_],rfl⟩,s,.cons ?_ .nil⟩;have u:((List.range k).map λi=>T.agg (f i).1).length=k:=by simp
 refine .gp (.agg q) 0 Tryz.gO _ ((List.range k).map λi=>T.agg (f i).1) ?_ (by omega) (by rw[u];exact Ga p) (λx c=> ?_);exact .inr (.inr ⟨_,_,_,rfl,rfl⟩);obtain⟨i,v,rfl⟩:=bS.1 c;have:=o i (by simpa using v);exact .agg _ _ this.1 this.2
theorem aZr{t e:gB}{q:List A}(g:Tryz.prog.underlying t=some (.slice e))(c:Tryz.prog.cellsOf e=q.length)(b:0<q.length)(i:ZR enc W e q):ZR enc W t [.ig 0 Tryz.gO]:=λn d y h=>by
 obtain⟨⟨k,f⟩,m,j,o⟩:=tL.slice (sz:=q.length) (A:={ts:List T//ts.length=q.length}) (mk:=λa=>a.1) (ok:=λa=>pT [] [] q a.1) (λa=>T.agg a.1) g c b (λa=>a.2) (λa=>rfl) i n d y h;exact⟨⟨[_],rfl⟩,m,.cons (.ig 0 _ _ k _ (by omega) (Ga j)) .nil⟩
inductive lB(enc:TypeId×Value->H)(W:iG)(t:gB):Nat->Nat->List A->Prop
 |nil (i o:Nat):Tryz.prog.cellsOf t=o->lB enc W t i o []
 |cons (i o:Nat) (u:gB) (s:Nat) (qs bs:List A):fieldAt Tryz.prog t i=some (u,o,s)->ZR enc W u qs->lB enc W t (i+1) (o+s) bs->lB enc W t i o (qs++bs)
theorem F9{t:gB}{i o:Nat}{q:List A}(f:lB enc W t i o q):∀(n:Nat) (c:gV) (y:DataW H×List MemPlace),c.length=Tryz.prog.cellsOf t->DataW.trod enc Tryz.prog W 0 (λ_ =>true) true n t c=some y->
  ∃b:List T,xG (G.start W) (c.drop o) b/\pT [] [] q b:=by
 induction f with
 |nil i o h=>intro n c y e d;exact⟨[],xG.end_ (e.trans h),.nil⟩
 |cons i o u s q x v p w k=>
  intro n c y e d;obtain⟨a,g,ga⟩:=tL.field p d v;obtain⟨b,j,m⟩:=k n c y e d;exact⟨a.1++b,g.cut j,ga.app m⟩
theorem iw{t:gB}{q:List A}{k:Nat×Nat×Nat}(h:∃u s,fieldAt Tryz.prog t 0=some (u,0,s))(e:lB enc W t 0 0 q):ZR enc W t q:=λn d y c=>by
 obtain⟨u,s,h⟩:=h;obtain⟨f,b,a⟩:=F9 e n d y (Qj c h).1 c;rw[fD]at b;exact⟨⟨f,a.1.symm⟩,b,a⟩
theorem bJf:aWt Tryz.prog 36 3 9 33 114 34:=by constructor<;>kernel_rfl
theorem bMv:bCt Tryz.prog 66 3 9 33 22:=by constructor<;>kernel_rfl
theorem Yd{ts:gC}:pT [] [] (List.replicate ts.length A.top) ts:=
 ⟨by simp,λj a t h b=>by
  rw[List.getElem?_replicate]at h;split at h;cases h;exact .top _
  cases h⟩
theorem bGv:ZR enc W 36 (List.replicate 6 A.top):=λn c y h=>by
 obtain⟨v,a,_⟩:=aVw bJf n c y h;exact⟨⟨lr v,rfl⟩,a,Yd (ts:=lr v)⟩
theorem bOx:ZR enc W 66 (List.replicate 5 A.top):=λn c y h=>by
 obtain⟨v,a,_⟩:=bGw bJf bMv n c y h;exact⟨⟨(ls v).cells,rfl⟩,a,Yd (ts:=(ls v).cells)⟩
theorem bGs{q:List A}(h:ZR enc W 36 q):ZR enc W 114 (Tryz.txt Tryz.gO::q):=by
 have:=lB.cons (enc:=enc) (W:=W) (t:=114) 0 0 9 1 [Tryz.txt Tryz.gO] (q++[]) (by kernel_rfl) Pf (.cons 1 1 36 6 q [] (by kernel_rfl) h (.nil _ _ (by kernel_rfl)));rw[List.append_nil]at this;exact iw (k:=(0,0,0)) ⟨9,1,by kernel_rfl⟩ this
theorem bGt{x y:A}(h:ZR enc W 33 [x])(a:ZR enc W 34 [y]):ZR enc W 36 [Tryz.fk,Tryz.fk,Tryz.fk,Tryz.txt Tryz.gO,x,y]:=
 iw (k:=(0,0,0)) ⟨3,1,by kernel_rfl⟩ (lB.cons 0 0 3 1 [Tryz.fk] _ (by kernel_rfl) YG (.cons 1 1 3 1 [Tryz.fk] _ (by kernel_rfl) YG (.cons 2 2 3 1 [Tryz.fk] _ (by kernel_rfl) YG
  (.cons 3 3 9 1 [Tryz.txt Tryz.gO] _ (by kernel_rfl) Pf (.cons 4 4 33 1 [x] _ (by kernel_rfl) h (.cons 5 5 34 1 [y] [] (by kernel_rfl) a (.nil _ _ (by kernel_rfl))))))))
theorem bGr{x y:A}(h:ZR enc W 33 [x])(a:ZR enc W 22 [y]):ZR enc W 66 [Tryz.fk,Tryz.fk,Tryz.txt Tryz.gO,x,y]:=
 iw (k:=(0,0,0)) ⟨3,1,by kernel_rfl⟩ (lB.cons 0 0 3 1 [Tryz.fk] _ (by kernel_rfl) YG (.cons 1 1 3 1 [Tryz.fk] _ (by kernel_rfl) YG
  (.cons 2 2 9 1 [Tryz.txt Tryz.gO] _ (by kernel_rfl) Pf (.cons 3 3 33 1 [x] _ (by kernel_rfl) h (.cons 4 4 22 1 [y] [] (by kernel_rfl) a (.nil _ _ (by kernel_rfl)))))))
theorem RT(d:Nat):(Tryz.vI d).length=6:=by cases d<;>rfl
theorem Gt(d:Nat):(Tryz.eI d).length=5:=by cases d<;>rfl
theorem ru:∀d,ZR enc W 36 (Tryz.vI d)
 |0=>bGt (aZr (e:=36) (by kernel_rfl) (by kernel_rfl) (by decide) bGv) (aZr (e:=114) (by kernel_rfl) (by kernel_rfl) (by decide) (bGs bGv))|d+1=>bGt (aJw (e:=36) (by kernel_rfl) (by rw[RT];kernel_rfl) (by rw[RT];decide) (ru d)) (aJw (e:=114) (by kernel_rfl) (by rw[aZ,RT];kernel_rfl) (by rw[aZ,RT];decide) (bGs (ru d)))
theorem bGu:ZR enc W 33 [.gp (.agg (Tryz.vI 1)) 0 Tryz.gO]:=aJw (e:=36) (by kernel_rfl) (by rw[RT];kernel_rfl) (by rw[RT];decide) (ru 1)
theorem xt:∀d,ZR enc W 66 (Tryz.eI d)
 |0=>bGr bGu (aZr (e:=66) (by kernel_rfl) (by kernel_rfl) (by decide) bOx)|d+1=>bGr bGu (aJw (e:=66) (by kernel_rfl) (by rw[Gt];kernel_rfl) (by rw[Gt];decide) (xt d))
theorem aJv:ZR enc W 24 [Tryz.txt Tryz.gO,Tryz.txt Tryz.gO,Tryz.fk,Tryz.fk,.gp (.agg (Tryz.eI 3)) 0 Tryz.gO]:=
 iw (k:=(0,0,0)) ⟨9,1,by kernel_rfl⟩ (lB.cons 0 0 9 1 [Tryz.txt Tryz.gO] _ (by kernel_rfl) Pf (.cons 1 1 9 1 [Tryz.txt Tryz.gO] _ (by kernel_rfl) Pf
  (.cons 2 2 3 1 [Tryz.fk] _ (by kernel_rfl) YG (.cons 3 3 3 1 [Tryz.fk] _ (by kernel_rfl) YG
  (.cons 4 4 22 1 [.gp (.agg (Tryz.eI 3)) 0 Tryz.gO] [] (by kernel_rfl) (aJw (e:=66) (by kernel_rfl) (by rw[Gt];kernel_rfl) (by rw[Gt];decide) (xt 3)) (.nil _ _ (by kernel_rfl)))))))
theorem aSf{f:Nat}{v:gZ}{d:DataW H}{p:List MemPlace}(b:Value.okWide Tryz.prog W .any f 24 v)(h:DataW.Trod enc Tryz.prog W 0 (λ_ =>true) true 24 v d p):∃t:T,Rd (G.start W) v t/\pT [] [] Tryz.c8.pre [t]:=by
 obtain⟨n,h⟩:=h;obtain⟨c,j,ok⟩:=aJv n _ _ h;have a:∃g,Tryz.prog.underlying 24=some (.struct g):=by
  have i:(match Tryz.prog.underlying 24 with|some (.struct _)=>true|_ =>false)=true:=by kernel_rfl
  split at i;rename_i g e;exact⟨g,e⟩;cases i
 obtain⟨g,a⟩:=a;obtain⟨k,rfl,e⟩:=aCv a b;rw[e]at j;exact⟨.agg c.1,bAc j,.cons (.agg _ _ ok.1 ok.2) .nil⟩
end
theorem aFx{g a:G}(h:fx g a):Below g.w.heap.size g.w a.w:=⟨h.os,h.tape,h.output,h.size,h.block⟩
theorem aAf: "*" ++ "errors.errorString" = "*errors.errorString" :=by decide
theorem bAe(u:gB)(h:Tryz.prog.typeName? 3 u=some "*errors.errorString"):u=372:=
 typeName_ptr_named (nm:= "errors.errorString") (by rw[aAf];kernel_rfl) (by kernel_rfl) (by decide) u (by rw[aAf];exact h)
theorem aCe{W:iG}(h:W.ShapedOpen Tryz.prog):∃m,KL (G.start W) 2 (.ref (.int .i64 m) 0):=by
 obtain⟨m,a⟩:=cell_of_shapedOpen_int (g:=2) (t:=3) (k:= .i64) h (cH (by kernel_rfl)) (zero:= #[.int .i64 0]) (by kernel_rfl) rfl (by kernel_rfl) (by kernel_rfl) Tryz.underlying3;obtain⟨d,b,c,_⟩:=h.1 2 #[.int .i64 0] 3 (cH (by kernel_rfl)) (by kernel_rfl);refine⟨m,WZ rfl b c ?_ (Rd.int .i64 m)⟩;unfold World.cell? at a;rw[b]at a;simpa using a
theorem aHh{W:iG}{n:String}{k:Nat}{f:gH}{r:List (String×DataW Unit)}(p:Tryz.prog.globalNamed n=some k)(u:(Tryz.prog.globals[k]?).map (·.type)=some 138)
  (h:laidMet Tryz.prog ((n,.iface "*errors.errorString" (.ptr (.agg [.lit (.string f)])))::r) W):KL (G.start W) k (.ref (Tryz.iT 372) 0):=by
 obtain⟨a,s,d,i,_,_⟩:=laid_sentinel h p u Tryz.underlying138 bAe Tryz.underlying372 Tryz.underlying374 rfl rfl Tryz.underlying9 (by kernel_rfl) (by kernel_rfl);unfold World.var? at d;rw[p,eD]at d;split at d
 .rename_i x e z q;cases d;refine WZ rfl q rfl rfl (.iface 372 _ _ ?_);obtain⟨b,o,w⟩:=a;unfold World.cell? at i;split at i
  rename_i y B f2 m;cases w with
  |some w=>simp at i|none=>exact Rd.ref (g:=G.start W) (.agg []) 0 b o [] (aX.1 m).1 rfl (λj v d=>by cases d) (λj v c d i=>by cases d)
  all_goals cases i
 cases d
theorem NG{W:iG}{n:String}{k:Nat}{c:hP}(d:Tryz.prog.globalNamed n=some k)(h:W.var? Tryz.prog n=some c):∃e f,W.heap[k]? =some (.cells c e f):=by
 unfold World.var? at h;rw[d,eD]at h;split at h;rename_i b e f a;cases h;exact⟨e,f,a⟩;cases h
theorem aHt:(Go.Pinned.utf8First:DataW Unit)=Lib.tabData .u8 ((List.range 256).map λc=>(Lib.firstT c:Int)):=by kernel_rfl
theorem aHs{W:iG}(h:Lib.VarReads Tryz.prog W "unicode/utf8.first" Go.Pinned.utf8First):KL (G.start W) 0 (.ref Tryz.iy 0):=by
 rw[aHt]at h;obtain⟨g,t,u,f,p,a,o,b,s⟩:=h;obtain rfl:=bV ((show Tryz.prog.globalNamed "unicode/utf8.first" =some 0 by kernel_rfl).symm.trans a);obtain rfl:=bV ((show(Tryz.prog.globals[0]?).map (·.type)=some 153 by kernel_rfl).symm.trans o);have d:=Lib.cells_of_tab (n:=256) (e:=5) (by kernel_rfl) (by kernel_rfl) (by kernel_rfl) (by kernel_rfl) s;obtain⟨e,v,j⟩:=NG a b
 have k:=LS (ik:= .u8) (zs:=(List.range 256).map λc=>(Lib.firstT c:Int)) j (by rw[<-cW,d];simp) (λi z m=>by
  rw[World.var?_cell a b i,<-dW,d,bA,m];rfl)
 have q:Tryz.iy= .agg (((List.range 256).map λc=>(Lib.firstT c:Int)).map (T.int .u8)):=by
  unfold Tryz.iy;rw[List.map_map];rfl
 rw[q];exact k
theorem aWy{W:iG}(h:Lib.VarReads Tryz.prog W "unicode/utf8.acceptRanges" Lib.acceptData):KL (G.start W) 1 (.ref Tryz.jq 0):=by
 obtain⟨g,t,u,b,p,v,Q,D,o⟩:=h;obtain rfl:=bV ((show Tryz.prog.globalNamed "unicode/utf8.acceptRanges" =some 1 by kernel_rfl).symm.trans v);obtain rfl:=bV ((show(Tryz.prog.globals[1]?).map (·.type)=some 156 by kernel_rfl).symm.trans Q);obtain⟨e,Y,K⟩:=NG v D;have J:u.toList.length=32:=by
  cases b with
  |zero=>simp[DataW.trod]at o
  |succ b=>
   simp only[DataW.trod,show Tryz.prog.underlying 156=some (.array 16 155) by kernel_rfl]at o;split at o;rename_i y;rw[y];kernel_rfl;cases o
 have cell:∀i,i<16->u.toList[2*i]? =some (.int .u8 (Lib.accLo i))/\u.toList[2*i+1]? =some (.int .u8 (Lib.accHi i)):=by
  intro i k;obtain⟨w,d,q,m,C⟩:=Lib.array_elem (n:=16) (e:=155) (by kernel_rfl) o i k;simp only[bA,List.getElem?_range k,cK,aI]at m;subst m;rw[show Tryz.prog.cellsOf 155=2 by kernel_rfl]at C;have x:∃f0 f1:Field,Tryz.prog.underlying 155=some (.struct #[f0,f1])/\(f0.type=5/\f0.offset=0)/\(f1.type=5/\f1.offset=1):=⟨_,_,Tryz.underlying155,⟨rfl,rfl⟩,⟨rfl,rfl⟩⟩;obtain⟨f0,f1,V,⟨L,I⟩,⟨O,b1⟩⟩:=x
  have c:=Lib.ints_of_struct V (λj f a=>by
   match j,a with
   |0,a=>simp at a;subst a;rw[L];exact⟨Tryz.underlying5,I,by kernel_rfl⟩|1,a=>simp at a;subst a;rw[O];exact⟨Tryz.underlying5,b1,by kernel_rfl⟩|j+2,a=>simp at a) (by kernel_rfl) C
  have B:=bG (·[0]?) c;have E:=bG (·[1]?) c;simp only[bJ,cD]at B E;exact⟨by simpa [Nat.mul_comm]using B,by simpa [Nat.mul_comm]using E⟩
 have U:Tryz.jq= .agg (((List.range 16).flatMap λi=>[(Lib.accLo i:Int),(Lib.accHi i:Int)]).map (T.int .u8)):=by
  unfold Tryz.jq;rw[List.map_flatMap];rfl
 have N:∀(n:Nat) (f g:Nat->Int) (j:Nat) (z:Int),((List.range n).flatMap λi=>[f i,g i])[j]? =some z->∃i,i<n/\((j=2*i/\z=f i)\/(j=2*i+1/\z=g i)):=by
  intro n f g
  induction n with
  |zero=>intro j z h;simp at h
  |succ n s=>
   intro j z h;have y:∀n,((List.range n).flatMap λi=>[f i,g i]).length=2*n:=by
    intro n
    induction n with
    |zero=>rfl|succ n s=>rw[fU,dG,aU,s];simp;omega
   rw[fU,dG,dP,y n]at h;split at h;obtain⟨i,k,S⟩:=s j z h;exact⟨i,by omega,S⟩;rename_i a;refine⟨n,by omega,?_⟩;rcases hq:j-2*n with _ |_ |q
   rw[hq]at h;simp at h;exact .inl ⟨by omega,h.symm⟩;rw[hq]at h;simp at h;exact .inr ⟨by omega,h.symm⟩;rw[hq]at h;simp at h
 rw[U];refine LS (ik:= .u8) K (by rw[<-cW,J];rfl) (λj z M=> ?_);obtain⟨i,k,R⟩:=N 16 (λi=>(Lib.accLo i:Int)) (λi=>(Lib.accHi i:Int)) j z M;obtain⟨F,P⟩:=cell i k;rw[World.var?_cell v D j,<-dW];rcases R with⟨rfl,rfl⟩|⟨rfl,rfl⟩
 exact F;exact P
theorem bEc:(Rows.laid_math_bits_deBruijn64tab:DataW Unit)=Lib.tabData .u8 Tryz.kZ:=by kernel_rfl
theorem bEb{W:iG}(h:Lib.VarReads Tryz.prog W "math/bits.deBruijn64tab" Rows.laid_math_bits_deBruijn64tab):KL (G.start W) 6 (.ref Tryz.kh 0):=by
 rw[bEc]at h;obtain⟨g,t,o,f,p,a,d,b,m⟩:=h;obtain rfl:=bV ((show Tryz.prog.globalNamed "math/bits.deBruijn64tab" =some 6 by kernel_rfl).symm.trans a);obtain rfl:=bV ((show(Tryz.prog.globals[6]?).map (·.type)=some 352 by kernel_rfl).symm.trans d);have c:=Lib.cells_of_tab (n:=64) (e:=5) (by kernel_rfl) (by kernel_rfl) (by kernel_rfl) (by kernel_rfl) m;obtain⟨e,q,j⟩:=NG a b
 exact LS (ik:= .u8) (zs:=Tryz.kZ) j (by rw[<-cW,c];simp) (λi z k=>by
  rw[World.var?_cell a b i,<-dW,c,bA,k];rfl)
def xu:List (List UInt8):=[[45,62],[33,61],[60,61],[62,61],[46,46]]
theorem bAa{W:iG}(h:Lib.VarReads Tryz.prog W "manifold/lexer.pairs" Rows.laid_manifold_lexer_pairs):KL (G.start W) 3 (.ref Tryz.g9 0):=by
 obtain⟨g,t,E,f,p,o,F,w,c⟩:=h;obtain rfl:=bV ((show Tryz.prog.globalNamed "manifold/lexer.pairs" =some 3 by kernel_rfl).symm.trans o);obtain rfl:=bV ((show(Tryz.prog.globals[3]?).map (·.type)=some 264 by kernel_rfl).symm.trans F);obtain⟨e,J,C⟩:=NG o w;have B:E.toList.length=5:=by
  cases f with
  |zero=>simp[DataW.trod]at c
  |succ f=>
   simp only[DataW.trod,show Tryz.prog.underlying 264=some (.array 5 9) by kernel_rfl]at c;split at c;rename_i I;rw[I];kernel_rfl;cases c
 refine Tp (zs:=xu) C (by rw[<-cW,B];rfl) (λi z y=> ?_);have D:i<5:=(aQ.1 y).1;obtain⟨s,d,q,k,v⟩:=Lib.array_elem (n:=5) (e:=9) (by kernel_rfl) c i D;rw[show Tryz.prog.cellsOf 9=1 by kernel_rfl,Nat.mul_one]at v;obtain⟨b,j,m,_⟩:=DataW.trod_string Tryz.underlying9 v;have x:(xu.map λz=>(DataW.lit (.string z):DataW Unit))[i]? =some d:=k;rw[bA,y]at x;have a:=(bV x).trans (Prod.mk.inj m).1;injection a with a
 injection a with a
 have u:=bG (·[0]?) j;simp only[bJ,cD]at u;refine⟨b,?_,a.symm⟩;rw[World.var?_cell o w i,<-dW];simpa using u
theorem bEp{W:iG}(h:laidMet Tryz.prog Rows.deadletterPrintsRow.laid W)(u:W.ShapedOpen Tryz.prog):∃m,gn (Tryz.fo m 372) (G.start W):=by
 obtain⟨m,p⟩:=aCe u;have j:laidMet Tryz.prog (("internal/strconv.uint64pow10",Lib.tabData .u64 Lib.pow10Tab)::_) W:=h.tail.tail;have f:=Lib.tabIs_of_head (g:=4) (t:=301) (e:=186) (n:=20) (by kernel_rfl) (by kernel_rfl) (by kernel_rfl) (by kernel_rfl) (by kernel_rfl) (by kernel_rfl) j;have q:KL (G.start W) 8 (.ref (Tryz.iT 372) 0):=aHh (by kernel_rfl) (by kernel_rfl) (h.tail.tail.tail.tail);have b:KL (G.start W) 7 (.ref (Tryz.iT 372) 0):=aHh (by kernel_rfl) (by kernel_rfl) (h.tail.tail.tail.tail.tail);have c:=aHs (Lib.laidMet.reads h (n:= "unicode/utf8.first") (d:=Go.Pinned.utf8First) (by simp[Rows.deadletterPrintsRow,Rows.laid_unicode_utf8_first]))
 have o:=aWy (Lib.laidMet.reads h (n:= "unicode/utf8.acceptRanges") (d:=Lib.acceptData) (by
  have:(Rows.laid_unicode_utf8_acceptRanges:DataW Unit)=Lib.acceptData:=by kernel_rfl
  rw[<-this];simp[Rows.deadletterPrintsRow]))
 have i:=bEb (Lib.laidMet.reads h (n:= "math/bits.deBruijn64tab") (d:=Rows.laid_math_bits_deBruijn64tab) (by simp[Rows.deadletterPrintsRow]));have s:=bAa (Lib.laidMet.reads h (n:= "manifold/lexer.pairs") (d:=Rows.laid_manifold_lexer_pairs) (by simp[Rows.deadletterPrintsRow]));refine⟨m,λk t a=> ?_⟩;unfold Tryz.fo at a
 repeat' split at a
 all_goals first|(rename_i e;subst e;cases a;first|exact aBs (by kernel_rfl) f|exact p|exact b|exact q|exact c|exact o|exact s|exact i)|cases a
end Go.Proofs.YthfdachbgpjafaaGreatDoor
