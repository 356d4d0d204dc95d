/- DeadletterPrints returns true at every input, and its argument reads as it did: the call's contract, and a world that meets the row's conditions. -/
import Derived.Test.YthfdachbgpjafaaGreatDoorXd20
set_option linter.all false
namespace Go.Proofs.YthfdachbgpjafaaGreatDoor
open Go.ChangeShapes Go.WideShapes Go.ChangeAt Go.RowKit
set_option maxRecDepth 100000
namespace Prints
open Go.Ps in
noncomputable def ia:gy:=gy.of (λj t=>¬Tryz.VE (j-200) t/\Tryz.kn t) λj t h=>h.2
noncomputable instance anyPrd:Inhabited Ps.gy:=⟨ia⟩
theorem bHc:Tryz.Is:=Tryz.Is.mk λd t h=>by
 show(if 200+d=30 then _ else _)↔_;rw[aH (by omega),aH (by omega),aH (by omega),aH (by omega)];show¬Tryz.VE (200+d-200) t/\_ ↔_;rw[Nat.add_sub_cancel_left]
theorem bNy{W:Ps.iG}(h:laidMetH Tryz.prog Rows.deadletterPrintsRow.laid W)(a:W.ShapedOpen Tryz.prog):∃m,Ps.gn (Tryz.fo m 372) (Ps.G.start W):=by
 have b:laidMet Tryz.prog Rows.deadletterPrintsRow.laid W:=h;exact bEp b a
theorem aGn(H:Type)(f:TypeId×Value->H)(W:Ps.iG)(g:Nat)(a:Ps.hP)(ds M:List (DataW H))(b:List MemPlace)
  (c:∀(j:Nat) t v,Tryz.f7.params[j]? =some t->a[j]? =some v->Value.okWide Tryz.prog W .any g t v)
  (B:DataW.Whole f Tryz.prog Tryz.f7.params.toList Rows.deadletterPrintsSpec.vars false W a.toList ds M b) (N:laidMetH Tryz.prog Rows.deadletterPrintsRow.laid W) (J:W.ShapedOpen Tryz.prog):
  Calls Tryz.prog 7 a W λe o=>∃v,e= .returned v/\Rows.deadletterPrintsSpec.post f Tryz.prog Tryz.f7 false true false false W a v o:=by
 have d:=B;obtain⟨p,q,n,F,rfl,O,S⟩:=B;have u:DataW.TrodAll f Tryz.prog W 0 (λ_ =>true) true Tryz.f7.params.toList a.toList ds p:=n;have L:Tryz.f7.params= #[24]:=by kernel_rfl
 rw[L]at u c;obtain⟨s,P,d0,U,y,Y,i,rfl,rfl,w,I⟩:=trodAll_cons u;obtain⟨rfl,rfl,rfl⟩:=trodAll_nil I;obtain rfl:a= #[s]:=by cases a;simp_all
 obtain⟨rfl,rfl⟩:=trodVars_none F;obtain⟨t,V,ok⟩:=aSf (c 0 24 s rfl rfl) w;have k:∀x∈y,x.block<W.heap.size:=λx Q=>d.lt x (by simpa using Q);simp only[List.append_nil]at d;obtain⟨m,D⟩:=bNy N J;refine(Ps.jt (Tryz.lA (m:=m) (C:=372) bHc (Tryz.lw m 372) ok) D (Ps.fv.cons V Ps.fv.nil)).mono λe o ⟨v,Z,K,R,z,E⟩=> ?_;subst R;cases E;have again:=Below.trod (by kernel_rfl) (by kernel_rfl) (cH (by kernel_rfl)) w (aFx z) k;refine⟨_,K,_,_,_,[],y++[],[],d,trodAll_cons_mk (shut_bool Tryz.underlying4 _) trodAll_mk0,trodAll_cons_mk again trodAll_mk0,rfl,Ps.lg z _,λh=>by cases h⟩
abbrev aXd:Value:= .agg #[.string ⟨#[]⟩,.string ⟨#[]⟩,.int .i64 0,.int .i64 0,.slice none 0 0]
noncomputable def aXu(a:Os):World:=
 {World.doorLaid Tryz.prog 77 a with
  heap:=(World.doorLaid Tryz.prog 77 a).heap.modify 0 λo=>match o with
   | .cells _ t f=> .cells (Go.Pinned.utf8FirstZ.map λn:Nat=>Value.int .u8 (n:Int)).toArray t f|o=>o}
theorem aGu(o:Os)(a:Ps.hP):laidMet Tryz.prog Rows.deadletterPrintsRow.laid ((aXu o).forCall (λ_ _ =>0) ⟨#[],a,[]⟩).memory:=
 laidMet_of_run' 8 (by kernel_rfl) (by kernel_rfl)
theorem reads(o:Os){H:Type}(e:TypeId×Value->H):∃p,DataW.whole e Tryz.prog ((aXu o).forCall (λ_ _ =>0) ⟨#[], #[aXd],[]⟩).memory Tryz.f7.params.toList Rows.deadletterPrintsSpec.vars false #[aXd].toList 8
  =some ([.agg [.lit (.string []),.lit (.string []),.lit (.int .i64 0),.lit (.int .i64 0),.nil]],[],p):=
 ⟨[],by kernel_rfl⟩
theorem aZg(o:Os)(a:o.Started)(H:Type)(e:TypeId×Value->H)(F:Stop.Interp):
  ReturnsInHanded {} Tryz.checked o 7 .any ((OpenSpec.ofChange Rows.deadletterPrintsSpec).preRow e Tryz.prog Tryz.f7 Rows.deadletterPrintsRow.domain false Rows.deadletterPrintsRow.laid) (((OpenSpec.ofChange Rows.deadletterPrintsSpec).at F).post e Tryz.prog Tryz.f7 false true false false):=by
 obtain⟨p,g⟩:=reads o e;refine returnsInHanded_of_row (C:=Tryz.checked) (s:=OpenSpec.ofChange Rows.deadletterPrintsSpec) bPb a (by kernel_rfl) Tryz.func7
  (witness_row_at (enc:=e) (C:=Tryz.checked) false (aXu o) #[aXd] rfl (by kernel_rfl) (by kernel_rfl) (by kernel_rfl)
   (OpenSpec.preRow_of_cond 8 g (by kernel_rfl) (λk n=>by cases n) (by kernel_rfl) (aGu o _))) ?_
 intro W d c ds j b h i _ _ _ m f _;exact aGn H e W d c ds j b h i m f
end Prints
end Go.Proofs.YthfdachbgpjafaaGreatDoor
