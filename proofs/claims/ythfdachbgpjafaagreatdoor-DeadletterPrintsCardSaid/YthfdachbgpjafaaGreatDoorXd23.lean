/- DeadletterPrints: the row's statement and the tied card. Conditions: the row's own (the listed variables hold what the program's text lays). -/
import Derived.Test.YthfdachbgpjafaaGreatDoorXd21
import Derived.Test.YthfdachbgpjafaaGreatDoorXd22
set_option linter.all false
namespace Go.Proofs.YthfdachbgpjafaaGreatDoor
open Go.ChangeShapes Go.WideShapes Go.ChangeAt Go.RowKit
set_option maxRecDepth 100000
namespace Prints
theorem aHn:(Rows.deadletterPrintsRow.inPlace==Tryz.pinned.checked.prog.inPlace 7)=true:=by kernel_rfl
theorem bMx:(Rows.deadletterPrintsRow.unfollowed==Tryz.pinned.checked.prog.unfollowed 7)=true:=by kernel_rfl
theorem bMw:(Rows.deadletterPrintsRow.recurses==Tryz.pinned.checked.prog.recurses 7)=true:=by kernel_rfl
theorem bEj:(Rows.deadletterPrintsRow.named==Tryz.pinned.checked.prog.varsNamed 7)=true:=by kernel_rfl
theorem bEh:laidOutB Tryz.pinned.checked.prog=true:=by kernel_rfl
theorem bEi:mapsRowed Tryz.pinned.checked.prog=true:=by kernel_rfl
theorem aYd:true=Tryz.pinned.checked.prog.looks []:=by kernel_rfl
theorem bLi{a b:Bool}(h:a=true)(k:b=true):(a&&b)=true:=by rw[h,k];rfl
theorem closed:joinedFacts Tryz.pinned.checked.prog 7 Tryz.f7 (OpenSpec.ofChange Rows.deadletterPrintsSpec).bare Rows.deadletterPrintsRow=true:=by
  unfold joinedFacts
  repeat'(with_reducible apply bLi)
  all_goals(first|with_reducible exact aHn|with_reducible exact bMx|with_reducible exact bMw|with_reducible exact bEj|with_reducible exact bEh|with_reducible exact bEi|kernel_rfl)
theorem said:Rows.DeadletterPrintsSaid:=
  OpenClaim.holds_of_cond 7 Tryz.f7 rfl rfl rfl rfl rfl rfl rfl ⟨rfl,rfl,rfl,rfl,rfl⟩ rfl rfl rfl rfl rfl (by kernel_rfl) Tryz.func7 closed
    (cH (by kernel_rfl)) (by unfold Func.isWrapper;first|(rw[aJ (by decide+kernel)];kernel_rfl)|(rw[aH (by decide+kernel)];exact⟨rfl,rfl⟩))
    (λo s H e _ F=>by rw[OpenClaim.pre_eq_preRow];exact aZg o s H e F)
theorem plain(f:Ps.gX)(a:Func)(c:Tryz.pinned.checked.prog.funcNamed Rows.deadletterPrintsRow.func=some f)(h:Tryz.pinned.checked.prog.funcs[f]? =some a):
    true=Tryz.pinned.checked.prog.looks []/\∀(j:Nat) t,a.params[j]? =some t->Tryz.pinned.checked.prog.wantsStandIn t=false:=by
  obtain rfl:f=7:=bV ((show Tryz.prog.funcNamed Rows.deadletterPrintsRow.func=some 7 by kernel_rfl).symm.trans c)|>.symm;obtain rfl:a=Tryz.f7:=(bV (Tryz.func7.symm.trans h)).symm;refine⟨aYd,λj t b=> ?_⟩;have d:Tryz.f7.params= #[24]:=by kernel_rfl
  rw[d]at b;obtain rfl:t=24:=by simpa using Array.mem_of_getElem? b
  exact(show Tryz.prog.wantsStandIn 24=false by kernel_rfl)
theorem card:Rows.DeadletterPrintsCardSaid:=
  Claim7.holds_tied_plain_at .later [] _ _ _ _ said (λ_ h=>by cases h) (by kernel_rfl) (λ_ h=>by cases h) deadletterPrints_row_tie rfl ⟨rfl,rfl⟩ (by kernel_rfl) rfl plain aQe
end Prints
#print axioms Prints.card
end Go.Proofs.YthfdachbgpjafaaGreatDoor
