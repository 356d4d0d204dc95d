/- DeadletterSelects returns true at every input, and its arguments read as they did: the call's contract, and a world that meets the row's conditions. -/
import Derived.Test.YthfdachbgpjafaaGreatDoorXb8
set_option linter.unusedSimpArgs false
set_option linter.unusedVariables false
set_option linter.unusedSectionVars false
namespace Go.Proofs.YthfdachbgpjafaaGreatDoor
open Go.ChangeShapes Go.WideShapes Go.ChangeAt Go.RowKit
set_option maxRecDepth 100000
namespace Selects
open Go.Ps in
open Go.Ps in
noncomputable def prd(m:Int):Prd where
 q j t:=(if j=10 then Yi Tryz.prog (Tryz.glZ m 372) (Tryz.ePp m 372) Tryz.xPq.own Tryz.xPq.top 40 218 [t] (.bool false)else if j=11 then Yi Tryz.prog (Tryz.glZ m 372) (Tryz.ePp m 372) Tryz.xPq.own Tryz.xPq.top 40 218 [t] (.bool true)
  else if j=20 then Tryz.badNs t else if 200<=j then¬Tryz.VE (j-200) t else Tryz.VE (j-100) t)/\Tryz.pureT t
 pure j t h:=h.2
open Go.Ps in
theorem bDo(m:Int): @Tryz.Is ⟨prd m⟩:=by
 refine @Tryz.Is.mk ⟨prd m⟩ (fun t=> ?_) (fun d t hd=> ?_) (fun d t hd=> ?_)
 .show(if(20:Nat)=10 then _ else _)/\_ ↔_;simp
 .show(if 100+d=10 then _ else _)/\_ ↔_;rw[if_neg (by omega),if_neg (by omega),if_neg (by omega),if_neg (by omega),show 100+d-100=d by omega]
 .show(if 200+d=10 then _ else _)/\_ ↔_;rw[if_neg (by omega),if_neg (by omega),if_neg (by omega),if_pos (by omega),show 200+d-200=d by omega]
open Go.Ps in
theorem bDn(m:Int): @Tryz.Ip ⟨prd m⟩ m 372:= @Tryz.Ip.mk ⟨prd m⟩ m 372 (fun t=>by show(if(10:Nat)=10 then _ else _)/\_ ↔_;simp) (fun t=>by show(if(11:Nat)=10 then _ else _)/\_ ↔_;simp)
noncomputable instance anyPrd:Inhabited Ps.Prd:=⟨prd 0⟩
theorem bKn{W:Ps.gI}(h:laidMetH Tryz.prog Rows.deadletterSelectsRow.laid W)(hS:W.ShapedOpen Tryz.prog):∃m,Ps.GlOk (Tryz.glZ m 372) (Ps.G.start W):=by
 have h1:laidMet Tryz.prog Rows.deadletterSelectsRow.laid W:=h;exact aZm h1 hS
theorem aEo(H:Type)(enc:TypeId×Value->H)(W:Ps.gI)(base:Nat)(args:Ps.fU)(ds gs:List (DataW H))(before:List MemPlace)
  (hval:∀(j:Nat) t v,Tryz.f6.params[j]? =some t->args[j]? =some v->Value.okWide Tryz.prog W .any base t v)
  (hW:DataW.Whole enc Tryz.prog Tryz.f6.params.toList Rows.deadletterSelectsSpec.vars false W args.toList ds gs before) (hL:laidMetH Tryz.prog Rows.deadletterSelectsRow.laid W) (hS:W.ShapedOpen Tryz.prog):
  Calls Tryz.prog 6 args W fun e W'=>∃v,e= .returned v/\Rows.deadletterSelectsSpec.post enc Tryz.prog Tryz.f6 false true false false W args v W':=by
 have hW':=hW;obtain⟨p,q,hA0,hV,rfl,hfz,hnd⟩:=hW;have hA:DataW.TrodAll enc Tryz.prog W 0 (fun _ =>true) true Tryz.f6.params.toList args.toList ds p:=hA0;have hp:Tryz.f6.params= #[43,24]:=by kernel_rfl
 rw[hp]at hA hval;obtain⟨v0,vs0,d0,ds0,p0,q0,hargs,rfl,rfl,h0,r0⟩:=trodAll_cons hA;obtain⟨v1,vs1,d1,ds1,p1,q1,rfl,rfl,rfl,h1,r1⟩:=trodAll_cons r0;obtain⟨rfl,rfl,rfl⟩:=trodAll_nil r1;obtain rfl:args= #[v0,v1]:=by cases args;simp_all
 obtain⟨rfl,rfl⟩:=trodVars_none hV;obtain⟨m,hG⟩:=bKn hL hS
 letI:Inhabited Ps.Prd:=⟨prd m⟩
 obtain⟨K,x,hc,ok⟩:=aVb (hval 0 43 v0 rfl rfl) h0;obtain⟨t,hc1,ok1⟩:=aPb (hval 1 24 v1 rfl rfl) h1;have hlt0:∀x∈p0,x.block<W.heap.size:=fun x hx=>hW'.lt x (by simp[hx]);have hlt1:∀x∈p1,x.block<W.heap.size:=fun x hx=>hW'.lt x (by simp[hx]);simp only[List.append_nil]at hW';refine(Ps.run_start (Tryz.law6_ok (bDo m) m 372 (bDn m) ok1 ok) hG (Ps.RdL.cons hc (Ps.RdL.cons hc1 Ps.RdL.nil))).mono fun e W' ⟨v,g',e1,e2,e3,e4⟩=> ?_;subst e2;cases e4;have again0:=Below.trod (by kernel_rfl) (by kernel_rfl) (of_decide_eq_true (by kernel_rfl)) h0 (Jj e3) hlt0;have again1:=Below.trod (by kernel_rfl) (by kernel_rfl) (of_decide_eq_true (by kernel_rfl)) h1 (Jj e3) hlt1;refine⟨_,e1,_,_,_,[],p0++(p1++[]),[],hW',trodAll_cons_mk (shut_bool Tryz.underlying4 _) trodAll_mk0,trodAll_cons_mk again0 (trodAll_cons_mk again1 trodAll_mk0),rfl,Ps.kept_of e3 _,fun h=>by cases h⟩
abbrev aSm:Value:= .slice none 0 0
abbrev aSn:Value:= .agg #[.string ⟨#[]⟩,.string ⟨#[]⟩,.int .i64 0,.int .i64 0,.slice none 0 0]
noncomputable def aTe(os:Os):World:=
 {World.doorLaid Tryz.prog 77 os with
  heap:=(World.doorLaid Tryz.prog 77 os).heap.modify 0 fun o=>match o with
   | .cells _ t f=> .cells (Go.Pinned.utf8FirstZ.map fun n:Nat=>Value.int .u8 (n:Int)).toArray t f|o=>o}
theorem aEu(os:Os)(args:Ps.fU):laidMet Tryz.prog Rows.deadletterSelectsRow.laid ((aTe os).forCall (fun _ _ =>0) ⟨#[],args,[]⟩).memory:=
 laidMet_of_run' 8 (by kernel_rfl) (by kernel_rfl)
theorem reads(os:Os){H:Type}(enc:TypeId×Value->H):∃places,DataW.whole enc Tryz.prog ((aTe os).forCall (fun _ _ =>0) ⟨#[], #[aSm,aSn],[]⟩).memory Tryz.f6.params.toList Rows.deadletterSelectsSpec.vars false #[aSm,aSn].toList 8
  =some ([.nil,.agg [.lit (.string []),.lit (.string []),.lit (.int .i64 0),.lit (.int .i64 0),.nil]],[],places):=
 ⟨[],by kernel_rfl⟩
theorem aUp(os:Os)(started:os.Started)(H:Type)(enc:TypeId×Value->H)(F:Stop.Interp):
  ReturnsInHanded {} Tryz.checked os 6 .any ((OpenSpec.ofChange Rows.deadletterSelectsSpec).preRow enc Tryz.prog Tryz.f6 Rows.deadletterSelectsRow.domain false Rows.deadletterSelectsRow.laid) (((OpenSpec.ofChange Rows.deadletterSelectsSpec).at F).post enc Tryz.prog Tryz.f6 false true false false):=by
 obtain⟨places,hx⟩:=reads os enc;refine returnsInHanded_of_row (C:=Tryz.checked) (s:=OpenSpec.ofChange Rows.deadletterSelectsSpec) bLw started (by kernel_rfl) Tryz.func6
  (witness_row_at (enc:=enc) (C:=Tryz.checked) false (aTe os) #[aSm,aSn] rfl (by kernel_rfl) (by kernel_rfl) (by kernel_rfl)
   (OpenSpec.preRow_of_cond 8 hx (by kernel_rfl) (fun k hk=>by cases hk) (by kernel_rfl) (aEu os _))) ?_
 intro W base args ds gs before hval hW _ _ _ hL hS _;exact aEo H enc W base args ds gs before hval hW hL hS
end Selects
end Go.Proofs.YthfdachbgpjafaaGreatDoor
