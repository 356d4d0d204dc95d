/- DeadletterSelects: the row's statement and the tied card. Conditions: the row's own (the listed variables hold what the program's text lays). -/
import Derived.Test.YthfdachbgpjafaaGreatDoorXb9
import Derived.Test.YthfdachbgpjafaaGreatDoorXb10
set_option linter.unusedSimpArgs false
set_option linter.unusedVariables false
set_option linter.unusedSectionVars false
namespace Go.Proofs.YthfdachbgpjafaaGreatDoor
open Go.ChangeShapes Go.WideShapes Go.ChangeAt Go.RowKit
set_option maxRecDepth 100000
namespace Selects
theorem aFn:(Rows.deadletterSelectsRow.inPlace==Tryz.pinned.checked.prog.inPlace 6)=true:=by kernel_rfl
theorem bIm:(Rows.deadletterSelectsRow.unfollowed==Tryz.pinned.checked.prog.unfollowed 6)=true:=by kernel_rfl
theorem bIj:(Rows.deadletterSelectsRow.recurses==Tryz.pinned.checked.prog.recurses 6)=true:=by kernel_rfl
theorem aZj:(Rows.deadletterSelectsRow.named==Tryz.pinned.checked.prog.varsNamed 6)=true:=by kernel_rfl
theorem aZh:laidOutB Tryz.pinned.checked.prog=true:=by kernel_rfl
theorem aZi:mapsRowed Tryz.pinned.checked.prog=true:=by kernel_rfl
theorem aTl:true=Tryz.pinned.checked.prog.looks []:=by kernel_rfl
theorem bGi{a b:Bool}(h:a=true)(k:b=true):(a&&b)=true:=by rw[h,k];rfl
theorem closed:joinedFacts Tryz.pinned.checked.prog 6 Tryz.f6 (OpenSpec.ofChange Rows.deadletterSelectsSpec).bare Rows.deadletterSelectsRow=true:=by
  unfold joinedFacts
  repeat'(with_reducible apply bGi)
  all_goals(first|with_reducible exact aFn|with_reducible exact bIm|with_reducible exact bIj|with_reducible exact aZj|with_reducible exact aZh|with_reducible exact aZi|kernel_rfl)
theorem said:Rows.DeadletterSelectsSaid:=
  OpenClaim.holds_of_cond 6 Tryz.f6 rfl rfl rfl rfl rfl rfl rfl ⟨rfl,rfl,rfl,rfl,rfl⟩ rfl rfl rfl rfl rfl (by kernel_rfl) Tryz.func6 closed
    (of_decide_eq_true (by kernel_rfl)) (by unfold Func.isWrapper;first|(rw[if_pos (by decide+kernel)];kernel_rfl)|(rw[if_neg (by decide+kernel)];exact⟨rfl,rfl⟩))
    (fun os started H enc _ F=>by rw[OpenClaim.pre_eq_preRow];exact aUp os started H enc F)
theorem plain(f:Ps.fT)(fn:Func)(hf:Tryz.pinned.checked.prog.funcNamed Rows.deadletterSelectsRow.func=some f)(hfn:Tryz.pinned.checked.prog.funcs[f]? =some fn):
    true=Tryz.pinned.checked.prog.looks []/\∀(j:Nat) t,fn.params[j]? =some t->Tryz.pinned.checked.prog.wantsStandIn t=false:=by
  obtain rfl:f=6:=bQ ((show Tryz.prog.funcNamed Rows.deadletterSelectsRow.func=some 6 by kernel_rfl).symm.trans hf)|>.symm;obtain rfl:fn=Tryz.f6:=(bQ (Tryz.func6.symm.trans hfn)).symm;refine⟨aTl,fun j t ht=> ?_⟩;have hp:Tryz.f6.params= #[43,24]:=by kernel_rfl
  rw[hp]at ht;have h2:t=43\/t=24:=by simpa using Array.mem_of_getElem? ht
  rcases h2 with rfl|rfl
  . exact(show Tryz.prog.wantsStandIn 43=false by kernel_rfl)
  . exact(show Tryz.prog.wantsStandIn 24=false by kernel_rfl)
theorem card:Rows.DeadletterSelectsCardSaid:=
  Claim7.holds_tied_plain_at .later [] _ _ _ _ said (fun _ h=>by cases h) (by kernel_rfl) (fun _ h=>by cases h) deadletterSelects_row_tie rfl ⟨rfl,rfl⟩ (by kernel_rfl) rfl plain aNi
end Selects
#print axioms Selects.card
end Go.Proofs.YthfdachbgpjafaaGreatDoor
