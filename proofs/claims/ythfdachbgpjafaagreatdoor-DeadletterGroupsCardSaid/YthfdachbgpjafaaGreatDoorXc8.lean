/- What comes in is a tree within the first function's bounds; what the row's list gives. -/
import Derived.Test.YthfdachbgpjafaaGreatDoorCards
import Derived.Test.YthfdachbgpjafaaGreatDoorTie
import Derived.Test.YthfdachbgpjafaaGreatDoorXc7
import Derived.WalkKit
import Derived.ProofKit
import Derived.OpenShut
import Derived.Deep.DeepHandedRow
import Derived.Lib.LaidU8T
import Derived.Stop.LaidErr
import Derived.LaidMore
import Derived.LaidLaws
import Derived.Shelf.Vars
set_option linter.unusedSimpArgs false
set_option linter.unusedVariables false
set_option linter.unusedSectionVars false
set_option maxRecDepth 100000
namespace Go.Ps
theorem XQ{W:iK}{k:Nat}{x:T}{v:gQ}{cs:gX}{e:fS}{fz:Nat×Nat}(hx:x.cells=[x])(hb:W.heap[k]? =some (.cells cs e fz))(hs:cs.size=1)(hc:cs[0]? =some v)(hv:Rd (G.start W) v x):PQ (G.start W) k (.ref x 0):=by
 have hlt:k<W.heap.size:=(aK.1 hb).1;refine⟨?_,hlt,cs,e,fz,hb,by simp[T.refLen,hx,hs]⟩;refine Rd.ref (g:=G.start W) x 0 k 0 [v] hlt (by rw[hx];rfl) (λj w hw=> ?_) (λj w c hw hc'=> ?_)
 .match j with
  |0=>
   cases hw;unfold World.cell?;show(match W.heap[k]? with|some (.cells c _ _)=>if(none:Option _).isSome then none else c[0+0]? |_ =>none)=some v;rw[hb];simpa using hc
  |j+1=>cases hw
 .rw[hx]at hc'
  match j with
  |0=>cases hw;cases hc';exact hv|j+1=>cases hw
theorem XR{W:iK}{k:Nat}{ik:iE}{zs:gJ}{cs:gX}{e:fS}{fz:Nat×Nat}(hb:W.heap[k]? =some (.cells cs e fz))(hs:cs.size=zs.length)
  (hc:∀(i:Nat) (z:Int),zs[i]? =some z->W.cell? ⟨k,i,none⟩=some (.int ik z)):PQ (G.start W) k (.ref (.agg (zs.map (T.int ik))) 0):=by
 have hlt:k<W.heap.size:=(aK.1 hb).1;refine⟨?_,hlt,cs,e,fz,hb,by simp[T.refLen,T.cells,hs]⟩;refine Rd.ref (g:=G.start W) (.agg (zs.map (T.int ik))) 0 k 0 (zs.map λz=>Value.int ik z) hlt (by simp[T.cells]) (λj v hv=> ?_) (λj v c hv hc'=> ?_)
 .simp only[bA]at hv;cases hz:zs[j]? with
  |none=>rw[hz]at hv;simp at hv
  |some z=>
   rw[hz]at hv;have:v= .int ik z:=by simpa using hv.symm
   subst this;show W.cell? ⟨k,0+j,none⟩=_;rw[bP];exact hc j z hz
 .simp only[T.cells,bA]at hv hc';cases hz:zs[j]? with
  |none=>rw[hz]at hv;simp at hv|some z=>rw[hz]at hv hc';simp at hv hc';subst hv;subst hc';exact .int ik z
end Go.Ps
namespace Go.Proofs.YthfdachbgpjafaaGreatDoor
open Go.ChangeShapes Go.WideShapes Go.ChangeAt Go.RowKit Go.Ps
variable[Inhabited Prd]
theorem bQb:ownKnob Tryz.prog.godebug=none:=by kernel_rfl
section
variable{H:Type}{enc:TypeId×Value->H}{W:iK}
def SS(enc:TypeId×Value->H)(W:iK)(t:fS)(qs:List A):Prop:=sU enc Tryz.prog W t (A:={ts:List T//ts.length=qs.length}) (λa=>a.1) (λa=>qO [] [] qs a.1)
theorem UH{n:Nat}(h:n<=maxLen):(n:Int)<=Tryz.cBig:=by
 have e:maxLen=9223372036854775807:=by decide+kernel
 show(n:Int)<=9223372036854775807;omega
theorem KX:SS enc W 3 [Tryz.ifull]:=λn cs y h=>by
 obtain⟨a,ha,h1,h2⟩:=sU.int (enc:=enc) (P:=Tryz.prog) (W:=W) (t:=3) (k:= .i64) (by kernel_rfl) n cs y h;exact⟨⟨[.int .i64 a],rfl⟩,ha,.cons (.ival .i64 _ _ a h1 h2 ⟨h1,h2⟩) .nil⟩
theorem YX:SS enc W 9 [Tryz.txt Tryz.cBig]:=λn cs y h=>by
 obtain⟨a,ha,ok⟩:=sU.str (enc:=enc) (P:=Tryz.prog) (W:=W) (t:=9) (by kernel_rfl) n cs y h;exact⟨⟨[.str a],rfl⟩,ha,.cons (.strv 0 _ a (by omega) (UH ok)) .nil⟩
instance{qs:List A}:Inhabited {ts:List T//ts.length=qs.length}:=⟨⟨List.replicate qs.length pV,by simp⟩⟩
theorem aKt{t e:fS}{qs:List A}(ht:Tryz.prog.underlying t=some (.slice e))(hsz:Tryz.prog.cellsOf e=qs.length)(hpos:0<qs.length)(he:SS enc W e qs):SS enc W t [.slv (.agg qs) 0 Tryz.cBig]:=λn cs y h=>by
 obtain⟨⟨k,f⟩,hx,h1,h2⟩:=sU.slice (sz:=qs.length) (A:={ts:List T//ts.length=qs.length}) (mk:=λa=>a.1) (ok:=λa=>qO [] [] qs a.1) (λa=>T.agg a.1) ht hsz hpos (λa=>a.2) (λa=>rfl) he n cs y h;refine⟨⟨[_],rfl⟩,hx,.cons ?_ .nil⟩;have hl:((List.range k).map λi=>T.agg (f i).1).length=k:=by simp
 refine .slv (.agg qs) 0 Tryz.cBig _ ((List.range k).map λi=>T.agg (f i).1) ?_ (by omega) (by rw[hl];exact UH h1) (λx hxm=> ?_)
 .exact .inr (.inr ⟨_,_,_,rfl,rfl⟩)
 .obtain⟨i,hi,rfl⟩:=bQ.1 hxm;have:=h2 i (by simpa using hi);exact .agg _ _ this.1 this.2
theorem aXw{t e:fS}{qs:List A}(ht:Tryz.prog.underlying t=some (.slice e))(hsz:Tryz.prog.cellsOf e=qs.length)(hpos:0<qs.length)(he:SS enc W e qs):SS enc W t [.sxv 0 Tryz.cBig]:=λn cs y h=>by
 obtain⟨⟨k,f⟩,hx,h1,h2⟩:=sU.slice (sz:=qs.length) (A:={ts:List T//ts.length=qs.length}) (mk:=λa=>a.1) (ok:=λa=>qO [] [] qs a.1) (λa=>T.agg a.1) ht hsz hpos (λa=>a.2) (λa=>rfl) he n cs y h;exact⟨⟨[_],rfl⟩,hx,.cons (.sxv 0 _ _ k _ (by omega) (UH h1)) .nil⟩
inductive OpF(enc:TypeId×Value->H)(W:iK)(t:fS):Nat->Nat->List A->Prop
 |nil (i o:Nat):Tryz.prog.cellsOf t=o->OpF enc W t i o []
 |cons (i o:Nat) (u:fS) (s:Nat) (qs bs:List A):fieldAt Tryz.prog t i=some (u,o,s)->SS enc W u qs->OpF enc W t (i+1) (o+s) bs->OpF enc W t i o (qs++bs)
theorem opF{t:fS}{i o:Nat}{qs:List A}(hf:OpF enc W t i o qs):∀(n:Nat) (cs:gM) (y:DataW H×List MemPlace),cs.length=Tryz.prog.cellsOf t->DataW.trod enc Tryz.prog W 0 (λ_ =>true) true n t cs=some y->
  ∃ts:List T,wS (G.start W) (cs.drop o) ts/\qO [] [] qs ts:=by
 induction hf with
 |nil i o h=>intro n cs y hl hy;exact⟨[],wS.end_ (hl.trans h),.nil⟩
 |cons i o u s qs bs h1 h2 h3 ih=>
  intro n cs y hl hy;obtain⟨a,ha,ga⟩:=sU.field h2 hy h1;obtain⟨ts,hb,gb⟩:=ih n cs y hl hy;exact⟨a.1++ts,ha.cut hb,ga.app gb⟩
theorem opStruct{t:fS}{qs:List A}{k:Nat×Nat×Nat}(h0:∃u s,fieldAt Tryz.prog t 0=some (u,0,s))(hf:OpF enc W t 0 0 qs):SS enc W t qs:=λn cs y hy=>by
 obtain⟨u,s,h0⟩:=h0;obtain⟨ts,h1,h2⟩:=opF hf n cs y (Rq hy h0).1 hy;rw[fK]at h1;exact⟨⟨ts,h2.1.symm⟩,h1,h2⟩
theorem bIg:aVf Tryz.prog 36 3 9 33 114 34:=by constructor<;>kernel_rfl
theorem bMl:bAl Tryz.prog 66 3 9 33 22:=by constructor<;>kernel_rfl
theorem Za{ts:fU}:qO [] [] (List.replicate ts.length A.top) ts:=
 ⟨by simp,λj a t ha ht=>by
  rw[List.getElem?_replicate]at ha;split at ha
  .cases ha;exact .top _
  .cases ha⟩
theorem bGl:SS enc W 36 (List.replicate 6 A.top):=λn cs y h=>by
 obtain⟨v,h1,_⟩:=aUi bIg n cs y h;exact⟨⟨vlC v,rfl⟩,h1,Za (ts:=vlC v)⟩
theorem bPx:SS enc W 66 (List.replicate 5 A.top):=λn cs y h=>by
 obtain⟨v,h1,_⟩:=bGm bIg bMl n cs y h;exact⟨⟨(exT v).cells,rfl⟩,h1,Za (ts:=(exT v).cells)⟩
theorem bGh{qs:List A}(h:SS enc W 36 qs):SS enc W 114 (Tryz.txt Tryz.cBig::qs):=by
 have:=OpF.cons (enc:=enc) (W:=W) (t:=114) 0 0 9 1 [Tryz.txt Tryz.cBig] (qs++[]) (by kernel_rfl) YX (.cons 1 1 36 6 qs [] (by kernel_rfl) h (.nil _ _ (by kernel_rfl)));rw[fP]at this;exact opStruct (k:=(0,0,0)) ⟨9,1,by kernel_rfl⟩ this
theorem bGj{x y:A}(hx:SS enc W 33 [x])(hy:SS enc W 34 [y]):SS enc W 36 [Tryz.ifull,Tryz.ifull,Tryz.ifull,Tryz.txt Tryz.cBig,x,y]:=
 opStruct (k:=(0,0,0)) ⟨3,1,by kernel_rfl⟩ (OpF.cons 0 0 3 1 [Tryz.ifull] _ (by kernel_rfl) KX (.cons 1 1 3 1 [Tryz.ifull] _ (by kernel_rfl) KX (.cons 2 2 3 1 [Tryz.ifull] _ (by kernel_rfl) KX
  (.cons 3 3 9 1 [Tryz.txt Tryz.cBig] _ (by kernel_rfl) YX (.cons 4 4 33 1 [x] _ (by kernel_rfl) hx (.cons 5 5 34 1 [y] [] (by kernel_rfl) hy (.nil _ _ (by kernel_rfl))))))))
theorem bGg{x y:A}(hx:SS enc W 33 [x])(hy:SS enc W 22 [y]):SS enc W 66 [Tryz.ifull,Tryz.ifull,Tryz.txt Tryz.cBig,x,y]:=
 opStruct (k:=(0,0,0)) ⟨3,1,by kernel_rfl⟩ (OpF.cons 0 0 3 1 [Tryz.ifull] _ (by kernel_rfl) KX (.cons 1 1 3 1 [Tryz.ifull] _ (by kernel_rfl) KX
  (.cons 2 2 9 1 [Tryz.txt Tryz.cBig] _ (by kernel_rfl) YX (.cons 3 3 33 1 [x] _ (by kernel_rfl) hx (.cons 4 4 22 1 [y] [] (by kernel_rfl) hy (.nil _ _ (by kernel_rfl)))))))
theorem SP(d:Nat):(Tryz.vI d).length=6:=by cases d<;>rfl
theorem Il(d:Nat):(Tryz.eI d).length=5:=by cases d<;>rfl
theorem opV:∀d,SS enc W 36 (Tryz.vI d)
 |0=>bGj (aXw (e:=36) (by kernel_rfl) (by kernel_rfl) (by decide) bGl) (aXw (e:=114) (by kernel_rfl) (by kernel_rfl) (by decide) (bGh bGl))|d+1=>bGj (aKt (e:=36) (by kernel_rfl) (by rw[SP];kernel_rfl) (by rw[SP];decide) (opV d)) (aKt (e:=114) (by kernel_rfl) (by rw[bL,SP];kernel_rfl) (by rw[bL,SP];decide) (bGh (opV d)))
theorem bGk:SS enc W 33 [.slv (.agg (Tryz.vI 1)) 0 Tryz.cBig]:=aKt (e:=36) (by kernel_rfl) (by rw[SP];kernel_rfl) (by rw[SP];decide) (opV 1)
theorem opE:∀d,SS enc W 66 (Tryz.eI d)
 |0=>bGg bGk (aXw (e:=66) (by kernel_rfl) (by kernel_rfl) (by decide) bPx)|d+1=>bGg bGk (aKt (e:=66) (by kernel_rfl) (by rw[Il];kernel_rfl) (by rw[Il];decide) (opE d))
theorem aKq:SS enc W 24 [Tryz.txt Tryz.cBig,Tryz.txt Tryz.cBig,Tryz.ifull,Tryz.ifull,.slv (.agg (Tryz.eI 3)) 0 Tryz.cBig]:=
 opStruct (k:=(0,0,0)) ⟨9,1,by kernel_rfl⟩ (OpF.cons 0 0 9 1 [Tryz.txt Tryz.cBig] _ (by kernel_rfl) YX (.cons 1 1 9 1 [Tryz.txt Tryz.cBig] _ (by kernel_rfl) YX
  (.cons 2 2 3 1 [Tryz.ifull] _ (by kernel_rfl) KX (.cons 3 3 3 1 [Tryz.ifull] _ (by kernel_rfl) KX
  (.cons 4 4 22 1 [.slv (.agg (Tryz.eI 3)) 0 Tryz.cBig] [] (by kernel_rfl) (aKt (e:=66) (by kernel_rfl) (by rw[Il];kernel_rfl) (by rw[Il];decide) (opE 3)) (.nil _ _ (by kernel_rfl)))))))
theorem aRn{base:Nat}{v:gQ}{d:DataW H}{p:List MemPlace}(hval:Value.okWide Tryz.prog W .any base 24 v)(h:DataW.Trod enc Tryz.prog W 0 (λ_ =>true) true 24 v d p):∃t:T,Rd (G.start W) v t/\qO [] [] Tryz.c8.pre [t]:=by
 obtain⟨n,h⟩:=h;obtain⟨c,hc,ok⟩:=aKq n _ _ h;have hst:∃fs,Tryz.prog.underlying 24=some (.struct fs):=by
  have hu:(match Tryz.prog.underlying 24 with|some (.struct _)=>true|_ =>false)=true:=by kernel_rfl
  split at hu
  .rename_i fs e;exact⟨fs,e⟩
  .cases hu
 obtain⟨fs,hst⟩:=hst;obtain⟨cs,rfl,e⟩:=aDy hst hval;rw[e]at hc;exact⟨.agg c.1,aYf hc,.cons (.agg _ _ ok.1 ok.2) .nil⟩
end
section
variable{H:Type}{enc:TypeId×Value->H}{W:iK}
theorem aKr:SS enc W 30 [.slv Tryz.ifull 0 Tryz.cBig]:=λn cs y h=>by
 obtain⟨⟨k,f⟩,hx,h1,h2⟩:=sU.slice (sz:=1) (A:=Int) (mk:=λa=>[T.int .i64 a]) (ok:=λa=>-9223372036854775808<=a/\a<=9223372036854775807) (λa=>T.int .i64 a) (t:=30) (e:=3) (by kernel_rfl) (by kernel_rfl) (by decide) (λa=>rfl) (λa=>rfl) (sU.int (enc:=enc) (P:=Tryz.prog) (W:=W) (t:=3) (k:= .i64) (by kernel_rfl)) n cs y h;refine⟨⟨[_],rfl⟩,hx,.cons ?_ .nil⟩;have hl:((List.range k).map λi=>T.int .i64 (f i)).length=k:=by simp
 refine .slv Tryz.ifull 0 Tryz.cBig _ ((List.range k).map λi=>T.int .i64 (f i)) (.inr (.inr ⟨_,_,_,rfl,rfl⟩)) (by omega) (by rw[hl];exact UH h1) (λx hxm=> ?_);obtain⟨i,hi,rfl⟩:=bQ.1 hxm;have:=h2 i (by simpa using hi);exact .ival .i64 _ _ (f i) this.1 this.2 ⟨this.1,this.2⟩
theorem aRm:SS enc W 32 [Tryz.ifull,.slv Tryz.ifull 0 Tryz.cBig]:=
 opStruct (k:=(0,0,0)) ⟨3,1,by kernel_rfl⟩ (OpF.cons 0 0 3 1 [Tryz.ifull] _ (by kernel_rfl) KX (.cons 1 1 30 1 [.slv Tryz.ifull 0 Tryz.cBig] [] (by kernel_rfl) aKr (.nil _ _ (by kernel_rfl))))
theorem bGi:SS enc W 38 ([Tryz.ifull,.slv Tryz.ifull 0 Tryz.cBig,Tryz.ifull,.slv Tryz.ifull 0 Tryz.cBig]++Tryz.vI 4):=by
 have h:=OpF.cons (enc:=enc) (W:=W) (t:=38) 0 0 32 2 [Tryz.ifull,.slv Tryz.ifull 0 Tryz.cBig] _ (by kernel_rfl) aRm (.cons 1 2 3 1 [Tryz.ifull] _ (by kernel_rfl) KX (.cons 2 3 30 1 [.slv Tryz.ifull 0 Tryz.cBig] _ (by kernel_rfl) aKr (.cons 3 4 36 6 (Tryz.vI 4) [] (by kernel_rfl) (opV 4) (.nil _ _ (by kernel_rfl)))));rw[fP]at h;exact opStruct (k:=(0,0,0)) ⟨32,2,by kernel_rfl⟩ h
theorem aKs:SS enc W 40 Tryz.ltrI:=by
 have h:=OpF.cons (enc:=enc) (W:=W) (t:=40) 0 0 38 10 _ _ (by kernel_rfl) bGi (.cons 1 10 9 1 [Tryz.txt Tryz.cBig] _ (by kernel_rfl) YX (.cons 2 11 9 1 [Tryz.txt Tryz.cBig] _ (by kernel_rfl) YX (.cons 3 12 3 1 [Tryz.ifull] [] (by kernel_rfl) KX (.nil _ _ (by kernel_rfl)))));exact opStruct (k:=(0,0,0)) ⟨38,10,by kernel_rfl⟩ h
theorem bFn{ts:fU}(h:qO [] [] Tryz.ltrI ts):∃x:Tryz.Li,x.c=ts:=by
 obtain⟨x0,r,rfl,_,h⟩:=(show qO [] [] (Tryz.ifull:: .slv Tryz.ifull 0 Tryz.cBig::Tryz.ifull:: .slv Tryz.ifull 0 Tryz.cBig::([Tryz.ifull,Tryz.ifull,Tryz.ifull,Tryz.txt Tryz.cBig,.slv (.agg (Tryz.vI 3)) 0 Tryz.cBig,.slv (.agg (Tryz.txt Tryz.cBig::Tryz.vI 3)) 0 Tryz.cBig]++[Tryz.txt Tryz.cBig,Tryz.txt Tryz.cBig,Tryz.ifull])) ts from h).inv_cons;obtain⟨x1,r,rfl,_,h⟩:=h.inv_cons;obtain⟨x2,r,rfl,_,h⟩:=h.inv_cons;obtain⟨x3,r,rfl,_,h⟩:=h.inv_cons;obtain⟨x4,r,rfl,_,h⟩:=h.inv_cons;obtain⟨x5,r,rfl,_,h⟩:=h.inv_cons;obtain⟨x6,r,rfl,_,h⟩:=h.inv_cons;obtain⟨x7,r,rfl,_,h⟩:=h.inv_cons;obtain⟨x8,r,rfl,_,h⟩:=h.inv_cons;obtain⟨x9,r,rfl,_,h⟩:=h.inv_cons;obtain⟨y0,r,rfl,g0,h⟩:=h.inv_cons;obtain⟨y1,r,rfl,g1,h⟩:=h.inv_cons;obtain⟨y2,r,rfl,g2,h⟩:=h.inv_cons;have e:=h.inv_nil;subst e;obtain⟨a,rfl⟩:=Tryz.inv_sv g0;obtain⟨b,rfl⟩:=Tryz.inv_sv g1;obtain⟨c,rfl,_,_⟩:=Tryz.inv_int g2;exact⟨⟨x0,x1,x2,x3,x4,x5,x6,x7,x8,x9,a,b,c⟩,rfl⟩
instance:Inhabited Tryz.Li:=⟨⟨pV,pV,pV,pV,pV,pV,pV,pV,pV,pV,[],[],0⟩⟩
theorem bPy:sU enc Tryz.prog W 40 (λx:Tryz.Li=>x.c) (λx=>qO [] [] Tryz.ltrI x.c):=λn cs y h=>by
 obtain⟨a,ha,g⟩:=aKs n cs y h;obtain⟨x,e⟩:=bFn g;exact⟨x,(by show wS (G.start W) cs x.c;rw[e];exact ha),(by show qO [] [] Tryz.ltrI x.c;rw[e];exact g)⟩
theorem aXx{base:Nat}{v:gQ}{d:DataW H}{p:List MemPlace}(hval:Value.okWide Tryz.prog W .any base 43 v)(h:DataW.Trod enc Tryz.prog W 0 (λ_ =>true) true 43 v d p):∃(K:Nat) (x:Nat->Tryz.Li),Rd (G.start W) v (.slf false K λj=>(x j).t)/\∀j,j<K->qO [] [] Tryz.ltrI (x j).c:=by
 obtain⟨n,h⟩:=h;have hu:Tryz.prog.underlying 43=some (.slice 40):=by kernel_rfl
 obtain⟨⟨K,x⟩,hx,_,h2⟩:=sU.slice (sz:=13) (A:=Tryz.Li) (mk:=λx=>x.c) (ok:=λx=>qO [] [] Tryz.ltrI x.c) Tryz.Li.t hu (by kernel_rfl) (by decide) (λa=>rfl) (λa=>rfl) bPy n _ _ h;have hc:v.cells.toList=[v]:=by
  unfold Value.okWide at hval;rw[hu]at hval;cases v with
  |agg cs=>exfalso;simp[Cell.okWide,hu,Cell.ok]at hval|_ =>rfl
 rw[hc]at hx;exact⟨K,x,(hx.2 0 v _ rfl rfl).rd,h2⟩
end
theorem Ms{g g':G}(h:PStep g g'):Below g.w.heap.size g.w g'.w:=⟨h.os,h.tape,h.output,h.size,h.block⟩
theorem aBb: "*" ++ "errors.errorString" = "*errors.errorString" :=by decide
theorem aYk(u:fS)(h:Tryz.prog.typeName? 3 u=some "*errors.errorString"):u=372:=
 typeName_ptr_named (nm:= "errors.errorString") (by rw[aBb];kernel_rfl) (by kernel_rfl) (by decide) u (by rw[aBb];exact h)
theorem aDi{W:iK}(h:W.ShapedOpen Tryz.prog):∃m,PQ (G.start W) 2 (.ref (.int .i64 m) 0):=by
 obtain⟨m,hm⟩:=cell_of_shapedOpen_int (g:=2) (t:=3) (k:= .i64) h (of_decide_eq_true (by kernel_rfl)) (zero:= #[.int .i64 0]) (by kernel_rfl) rfl (by kernel_rfl) (by kernel_rfl) Tryz.underlying3;obtain⟨cs,hh,hs,_⟩:=h.1 2 #[.int .i64 0] 3 (of_decide_eq_true (by kernel_rfl)) (by kernel_rfl);refine⟨m,XQ rfl hh hs ?_ (Rd.int .i64 m)⟩;unfold World.cell? at hm;rw[hh]at hm;simpa using hm
theorem aIk{W:iK}{n:String}{k:Nat}{text:gU}{r:List (String×DataW Unit)}(hk:Tryz.prog.globalNamed n=some k)(ht:(Tryz.prog.globals[k]?).map (·.type)=some 138)
  (h:laidMet Tryz.prog ((n,.iface "*errors.errorString" (.ptr (.agg [.lit (.string text)])))::r) W):PQ (G.start W) k (.ref (Tryz.errT 372) 0):=by
 obtain⟨a,s,hv,hc,_,_⟩:=laid_sentinel h hk ht Tryz.underlying138 aYk Tryz.underlying372 Tryz.underlying374 rfl rfl Tryz.underlying9 (by kernel_rfl) (by kernel_rfl);unfold World.var? at hv;rw[hk,eL]at hv;split at hv
 .rename_i cs e fz hb;cases hv;refine XQ rfl hb rfl rfl (.iface 372 _ _ ?_);obtain⟨b,o,w⟩:=a;unfold World.cell? at hc;split at hc
  .rename_i c2 e2 f2 hb2;cases w with
   |some w=>simp at hc|none=>exact Rd.ref (g:=G.start W) (.agg []) 0 b o [] (aK.1 hb2).1 rfl (λj v hv=>by cases hv) (λj v c hv hc=>by cases hv)
  all_goals cases hc
 .cases hv
theorem Mu{W:iK}{n:String}{k:Nat}{cs:gX}(hk:Tryz.prog.globalNamed n=some k)(hv:W.var? Tryz.prog n=some cs):∃e fz,W.heap[k]? =some (.cells cs e fz):=by
 unfold World.var? at hv;rw[hk,eL]at hv;split at hv
 .rename_i cs' e fz hb;cases hv;exact⟨e,fz,hb⟩
 .cases hv
theorem aIu:(Go.Pinned.utf8First:DataW Unit)=Lib.tabData .u8 ((List.range 256).map λc=>(Lib.firstT c:Int)):=by kernel_rfl
theorem aIt{W:iK}(h:Lib.VarReads Tryz.prog W "unicode/utf8.first" Go.Pinned.utf8First):PQ (G.start W) 0 (.ref Tryz.firstA 0):=by
 rw[aIu]at h;obtain⟨g,t,cs,fuel,p,hg,ht,hv,hd⟩:=h;obtain rfl:=bX ((show Tryz.prog.globalNamed "unicode/utf8.first" =some 0 by kernel_rfl).symm.trans hg);obtain rfl:=bX ((show(Tryz.prog.globals[0]?).map (·.type)=some 153 by kernel_rfl).symm.trans ht);have hc:=Lib.cells_of_tab (n:=256) (e:=5) (by kernel_rfl) (by kernel_rfl) (by kernel_rfl) (by kernel_rfl) hd;obtain⟨e,fz,hb⟩:=Mu hg hv
 have key:=XR (ik:= .u8) (zs:=(List.range 256).map λc=>(Lib.firstT c:Int)) hb (by rw[<-dH,hc];simp) (λi z hz=>by
  rw[World.var?_cell hg hv i,<-fF,hc,bA,hz];rfl)
 have e2:Tryz.firstA= .agg (((List.range 256).map λc=>(Lib.firstT c:Int)).map (T.int .u8)):=by
  unfold Tryz.firstA;rw[List.map_map];rfl
 rw[e2];exact key
theorem aVi{W:iK}(h:Lib.VarReads Tryz.prog W "unicode/utf8.acceptRanges" Lib.acceptData):PQ (G.start W) 1 (.ref Tryz.accA 0):=by
 obtain⟨g,t,cs,fuel,p,hg,ht,hv,hd⟩:=h;obtain rfl:=bX ((show Tryz.prog.globalNamed "unicode/utf8.acceptRanges" =some 1 by kernel_rfl).symm.trans hg);obtain rfl:=bX ((show(Tryz.prog.globals[1]?).map (·.type)=some 156 by kernel_rfl).symm.trans ht);obtain⟨e,fz,hb⟩:=Mu hg hv;have hs:cs.toList.length=32:=by
  cases fuel with
  |zero=>simp[DataW.trod]at hd
  |succ fuel=>
   simp only[DataW.trod,show Tryz.prog.underlying 156=some (.array 16 155) by kernel_rfl]at hd;split at hd
   .rename_i hl;rw[hl];kernel_rfl
   .cases hd
 have cell:∀i,i<16->cs.toList[2*i]? =some (.int .u8 (Lib.accLo i))/\cs.toList[2*i+1]? =some (.int .u8 (Lib.accHi i)):=by
  intro i hi;obtain⟨fuel',d,q,hdi,he⟩:=Lib.array_elem (n:=16) (e:=155) (by kernel_rfl) hd i hi;simp only[bA,dP hi,cH,aC]at hdi;subst hdi;rw[show Tryz.prog.cellsOf 155=2 by kernel_rfl]at he;have hst:∃f0 f1:Field,Tryz.prog.underlying 155=some (.struct #[f0,f1])/\(f0.type=5/\f0.offset=0)/\(f1.type=5/\f1.offset=1):=⟨_,_,Tryz.underlying155,⟨rfl,rfl⟩,⟨rfl,rfl⟩⟩;obtain⟨f0,f1,hu,⟨a0,b0⟩,⟨a1,b1⟩⟩:=hst
  have hcs:=Lib.ints_of_struct hu (λj f hj=>by
   match j,hj with
   |0,hj=>simp at hj;subst hj;rw[a0];exact⟨Tryz.underlying5,b0,by kernel_rfl⟩|1,hj=>simp at hj;subst hj;rw[a1];exact⟨Tryz.underlying5,b1,by kernel_rfl⟩|j+2,hj=>simp at hj) (by kernel_rfl) he
  have e0:=congrArg (·[0]?) hcs;have e1:=congrArg (·[1]?) hcs;simp only[bD,bZ]at e0 e1;exact⟨by simpa [Nat.mul_comm]using e0,by simpa [Nat.mul_comm]using e1⟩
 have e2:Tryz.accA= .agg (((List.range 16).flatMap λi=>[(Lib.accLo i:Int),(Lib.accHi i:Int)]).map (T.int .u8)):=by
  unfold Tryz.accA;rw[List.map_flatMap];rfl
 have hh:∀(n:Nat) (f g:Tryz.iG) (j:Nat) (z:Int),((List.range n).flatMap λi=>[f i,g i])[j]? =some z->∃i,i<n/\((j=2*i/\z=f i)\/(j=2*i+1/\z=g i)):=by
  intro n f g
  induction n with
  |zero=>intro j z h;simp at h
  |succ n ih=>
   intro j z h;have hl:∀n,((List.range n).flatMap λi=>[f i,g i]).length=2*n:=by
    intro n
    induction n with
    |zero=>rfl|succ n ih=>rw[fG,dY,bI,ih];simp;omega
   rw[fG,dY,dT,hl n]at h;split at h
   .obtain⟨i,hi,h2⟩:=ih j z h;exact⟨i,by omega,h2⟩
   .rename_i hj;refine⟨n,by omega,?_⟩;rcases hq:j-2*n with _ |_ |q
    .rw[hq]at h;simp at h;exact .inl ⟨by omega,h.symm⟩
    .rw[hq]at h;simp at h;exact .inr ⟨by omega,h.symm⟩
    .rw[hq]at h;simp at h
 rw[e2];refine XR (ik:= .u8) hb (by rw[<-dH,hs];rfl) (λj z hz=> ?_);obtain⟨i,hi,h3⟩:=hh 16 (λi=>(Lib.accLo i:Int)) (λi=>(Lib.accHi i:Int)) j z hz;obtain⟨c1,c2⟩:=cell i hi;rw[World.var?_cell hg hv j,<-fF];rcases h3 with⟨rfl,rfl⟩|⟨rfl,rfl⟩
 .exact c1
 .exact c2
theorem bCu{W:iK}(h:laidMet Tryz.prog Rows.deadletterGroupsRow.laid W)(hS:W.ShapedOpen Tryz.prog):∃m,GlOk (Tryz.glZ m 372) (G.start W):=by
 obtain⟨m,hm⟩:=aDi hS;have h2:laidMet Tryz.prog (("internal/strconv.uint64pow10",Lib.tabData .u64 Lib.pow10Tab)::_) W:=h.tail.tail;have h3:=Lib.tabIs_of_head (g:=4) (t:=301) (e:=186) (n:=20) (by kernel_rfl) (by kernel_rfl) (by kernel_rfl) (by kernel_rfl) (by kernel_rfl) (by kernel_rfl) h2;have e8:PQ (G.start W) 8 (.ref (Tryz.errT 372) 0):=aIk (by kernel_rfl) (by kernel_rfl) (h.tail.tail.tail.tail);have e7:PQ (G.start W) 7 (.ref (Tryz.errT 372) 0):=aIk (by kernel_rfl) (by kernel_rfl) (h.tail.tail.tail.tail.tail);have e0:=aIt (Lib.laidMet.reads h (n:= "unicode/utf8.first") (d:=Go.Pinned.utf8First) (by simp[Rows.deadletterGroupsRow,Rows.laid_unicode_utf8_first]))
 have e1:=aVi (Lib.laidMet.reads h (n:= "unicode/utf8.acceptRanges") (d:=Lib.acceptData) (by
  have:(Rows.laid_unicode_utf8_acceptRanges:DataW Unit)=Lib.acceptData:=by kernel_rfl
  rw[<-this];simp[Rows.deadletterGroupsRow]))
 refine⟨m,λk t ht=> ?_⟩;unfold Tryz.glZ at ht;split at ht
 .rename_i e;subst e;cases ht;exact aCo (by kernel_rfl) h3
 .split at ht
  .rename_i e;subst e;cases ht;exact hm
  .split at ht
   .rename_i e;subst e;cases ht;exact e7
   .split at ht
    .rename_i e;subst e;cases ht;exact e8
    .split at ht
     .rename_i e;subst e;cases ht;exact e0
     .split at ht
      .rename_i e;subst e;cases ht;exact e1
      .cases ht
end Go.Proofs.YthfdachbgpjafaaGreatDoor
