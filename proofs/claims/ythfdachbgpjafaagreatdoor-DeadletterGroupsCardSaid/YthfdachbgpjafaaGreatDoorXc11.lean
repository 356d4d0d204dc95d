/- DeadletterGroups: the row's statement and the tied card. Conditions: the row's own (the listed variables hold what the program's text lays). -/
import Derived.Test.YthfdachbgpjafaaGreatDoorXc9
import Derived.Test.YthfdachbgpjafaaGreatDoorXc10
set_option linter.unusedSimpArgs false
set_option linter.unusedVariables false
set_option linter.unusedSectionVars false
namespace Go.Proofs.YthfdachbgpjafaaGreatDoor
open Go.ChangeShapes Go.WideShapes Go.ChangeAt Go.RowKit
set_option maxRecDepth 100000
namespace Groups
theorem aIp:(Rows.deadletterGroupsRow.inPlace==Tryz.pinned.checked.prog.inPlace 5)=true:=by kernel_rfl
theorem bMq:(Rows.deadletterGroupsRow.unfollowed==Tryz.pinned.checked.prog.unfollowed 5)=true:=by kernel_rfl
theorem bMn:(Rows.deadletterGroupsRow.recurses==Tryz.pinned.checked.prog.recurses 5)=true:=by kernel_rfl
theorem bCp:(Rows.deadletterGroupsRow.named==Tryz.pinned.checked.prog.varsNamed 5)=true:=by kernel_rfl
theorem bCm:laidOutB Tryz.pinned.checked.prog=true:=by kernel_rfl
theorem bCn:mapsRowed Tryz.pinned.checked.prog=true:=by kernel_rfl
theorem aWn:true=Tryz.pinned.checked.prog.looks []:=by kernel_rfl
theorem bJy{a b:Bool}(h:a=true)(k:b=true):(a&&b)=true:=by rw[h,k];rfl
theorem closed:joinedFacts Tryz.pinned.checked.prog 5 Tryz.f5 (OpenSpec.ofChange Rows.deadletterGroupsSpec).bare Rows.deadletterGroupsRow=true:=by
  unfold joinedFacts
  repeat'(with_reducible apply bJy)
  all_goals(first|with_reducible exact aIp|with_reducible exact bMq|with_reducible exact bMn|with_reducible exact bCp|with_reducible exact bCm|with_reducible exact bCn|kernel_rfl)
theorem said:Rows.DeadletterGroupsSaid:=
  OpenClaim.holds_of_cond 5 Tryz.f5 rfl rfl rfl rfl rfl rfl rfl ⟨rfl,rfl,rfl,rfl,rfl⟩ rfl rfl rfl rfl rfl (by kernel_rfl) Tryz.func5 closed
    (of_decide_eq_true (by kernel_rfl)) (by unfold Func.isWrapper;first|(rw[if_pos (by decide+kernel)];kernel_rfl)|(rw[if_neg (by decide+kernel)];exact⟨rfl,rfl⟩))
    (λos started H enc _ F=>by rw[OpenClaim.pre_eq_preRow];exact aXl os started H enc F)
theorem plain(f:Ps.gV)(fn:Func)(hf:Tryz.pinned.checked.prog.funcNamed Rows.deadletterGroupsRow.func=some f)(hfn:Tryz.pinned.checked.prog.funcs[f]? =some fn):
    true=Tryz.pinned.checked.prog.looks []/\∀(j:Nat) t,fn.params[j]? =some t->Tryz.pinned.checked.prog.wantsStandIn t=false:=by
  obtain rfl:f=5:=bX ((show Tryz.prog.funcNamed Rows.deadletterGroupsRow.func=some 5 by kernel_rfl).symm.trans hf)|>.symm;obtain rfl:fn=Tryz.f5:=(bX (Tryz.func5.symm.trans hfn)).symm;refine⟨aWn,λj t ht=> ?_⟩;have hp:Tryz.f5.params= #[43,24]:=by kernel_rfl
  rw[hp]at ht;have h2:t=43\/t=24:=by simpa using Array.mem_of_getElem? ht
  rcases h2 with rfl|rfl
  . exact(show Tryz.prog.wantsStandIn 43=false by kernel_rfl)
  . exact(show Tryz.prog.wantsStandIn 24=false by kernel_rfl)
theorem card:Rows.DeadletterGroupsCardSaid:=
  Claim7.holds_tied_plain_at .later [] _ _ _ _ said (λ_ h=>by cases h) (by kernel_rfl) (λ_ h=>by cases h) deadletterGroups_row_tie rfl ⟨rfl,rfl⟩ (by kernel_rfl) rfl plain aPo
end Groups
#print axioms Groups.card
end Go.Proofs.YthfdachbgpjafaaGreatDoor
