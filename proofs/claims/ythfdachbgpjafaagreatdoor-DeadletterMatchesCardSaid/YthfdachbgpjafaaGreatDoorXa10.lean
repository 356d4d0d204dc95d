/- DeadletterMatches: the row's statement and the tied card. Conditions: the row's own (the listed variables hold what the program's text lays). -/
import Derived.Test.YthfdachbgpjafaaGreatDoorXa8
import Derived.Test.YthfdachbgpjafaaGreatDoorXa9
set_option linter.unusedSimpArgs false
set_option linter.unusedVariables false
set_option linter.unusedSectionVars false
namespace Go.Proofs.YthfdachbgpjafaaGreatDoor
open Go.ChangeShapes Go.WideShapes Go.ChangeAt Go.RowKit
set_option maxRecDepth 100000
namespace Matches
theorem fInPlace:(Rows.deadletterMatchesRow.inPlace==Tryz.pinned.checked.prog.inPlace 4)=true:=by kernel_rfl
theorem fUnf:(Rows.deadletterMatchesRow.unfollowed==Tryz.pinned.checked.prog.unfollowed 4)=true:=by kernel_rfl
theorem fRec:(Rows.deadletterMatchesRow.recurses==Tryz.pinned.checked.prog.recurses 4)=true:=by kernel_rfl
theorem fVars:(Rows.deadletterMatchesRow.named==Tryz.pinned.checked.prog.varsNamed 4)=true:=by kernel_rfl
theorem fLaid:laidOutB Tryz.pinned.checked.prog=true:=by kernel_rfl
theorem fMaps:mapsRowed Tryz.pinned.checked.prog=true:=by kernel_rfl
theorem fLooks:true=Tryz.pinned.checked.prog.looks []:=by kernel_rfl
theorem and2{a b:Bool}(h:a=true)(k:b=true):(a&&b)=true:=by rw[h,k];rfl
theorem closed:joinedFacts Tryz.pinned.checked.prog 4 Tryz.f4 (OpenSpec.ofChange Rows.deadletterMatchesSpec).bare Rows.deadletterMatchesRow=true:=by
  unfold joinedFacts
  repeat'(with_reducible apply and2)
  all_goals(first|with_reducible exact fInPlace|with_reducible exact fUnf|with_reducible exact fRec|with_reducible exact fVars|with_reducible exact fLaid|with_reducible exact fMaps|kernel_rfl)
theorem said:Rows.DeadletterMatchesSaid:=
  OpenClaim.holds_of_cond 4 Tryz.f4 rfl rfl rfl rfl rfl rfl rfl ⟨rfl,rfl,rfl,rfl,rfl⟩ rfl rfl rfl rfl rfl (by kernel_rfl) Tryz.func4 closed
    (of_decide_eq_true (by kernel_rfl)) (by unfold Func.isWrapper;first|(rw[if_pos (by decide+kernel)];kernel_rfl)|(rw[if_neg (by decide+kernel)];exact⟨rfl,rfl⟩))
    (fun os started H enc _ F=>by rw[OpenClaim.pre_eq_preRow];exact lifted os started H enc F)
theorem plain(f:FuncId)(fn:Func)(hf:Tryz.pinned.checked.prog.funcNamed Rows.deadletterMatchesRow.func=some f)(hfn:Tryz.pinned.checked.prog.funcs[f]? =some fn):
    true=Tryz.pinned.checked.prog.looks []∧∀(j:Nat) t,fn.params[j]? =some t→Tryz.pinned.checked.prog.wantsStandIn t=false:=by
  obtain rfl:f=4:=Option.some.inj ((show Tryz.prog.funcNamed Rows.deadletterMatchesRow.func=some 4 by kernel_rfl).symm.trans hf)|>.symm;obtain rfl:fn=Tryz.f4:=(Option.some.inj (Tryz.func4.symm.trans hfn)).symm;refine⟨fLooks,fun j t ht=> ?_⟩;have hp:Tryz.f4.params= #[24,40]:=by kernel_rfl
  rw[hp]at ht;have h2:t=24∨t=40:=by simpa using Array.mem_of_getElem? ht
  rcases h2 with rfl|rfl
  · exact(show Tryz.prog.wantsStandIn 24=false by kernel_rfl)
  · exact(show Tryz.prog.wantsStandIn 40=false by kernel_rfl)
theorem card:Rows.DeadletterMatchesCardSaid:=
  Claim7.holds_tied_plain_at .later [] _ _ _ _ said (fun _ h=>by cases h) (by kernel_rfl) (fun _ h=>by cases h) deadletterMatches_row_tie rfl ⟨rfl,rfl⟩ (by kernel_rfl) rfl plain goesNot
end Matches
#print axioms Matches.card
end Go.Proofs.YthfdachbgpjafaaGreatDoor
