/- DeadletterChecks: the row's statement and the tied card. Conditions: the row's own (the listed variables hold what the program's text lays). -/
import Derived.Test.YthfdachbgpjafaaGreatDoorCa7
import Derived.Test.YthfdachbgpjafaaGreatDoorCa8
set_option linter.unusedSimpArgs false
set_option linter.unusedVariables false
set_option linter.unusedSectionVars false
namespace Go.Proofs.YthfdachbgpjafaaGreatDoor
open Go.ChangeShapes Go.WideShapes Go.ChangeAt Go.RowKit
set_option maxRecDepth 100000

namespace Checks
theorem fInPlace : (Rows.deadletterChecksRow.inPlace == Tryz.pinned.checked.prog.inPlace 3) = true := by kernel_rfl
theorem fUnf : (Rows.deadletterChecksRow.unfollowed == Tryz.pinned.checked.prog.unfollowed 3) = true := by kernel_rfl
theorem fRec : (Rows.deadletterChecksRow.recurses == Tryz.pinned.checked.prog.recurses 3) = true := by kernel_rfl
theorem fVars : (Rows.deadletterChecksRow.named == Tryz.pinned.checked.prog.varsNamed 3) = true := by kernel_rfl
theorem fLaid : laidOutB Tryz.pinned.checked.prog = true := by kernel_rfl
theorem fMaps : mapsRowed Tryz.pinned.checked.prog = true := by kernel_rfl
theorem fLooks : true = Tryz.pinned.checked.prog.looks [] := by kernel_rfl
theorem and2 {a b : Bool} (h : a = true) (k : b = true) : (a && b) = true := by rw [h, k]; rfl
theorem closed : joinedFacts Tryz.pinned.checked.prog 3 Tryz.f3 (OpenSpec.ofChange Rows.deadletterChecksSpec).bare Rows.deadletterChecksRow = true := by
  unfold joinedFacts
  repeat' (with_reducible apply and2)
  all_goals (first | with_reducible exact fInPlace | with_reducible exact fUnf | with_reducible exact fRec | with_reducible exact fVars | with_reducible exact fLaid | with_reducible exact fMaps | kernel_rfl)
theorem said : Rows.DeadletterChecksSaid :=
  OpenClaim.holds_of_cond 3 Tryz.f3 rfl rfl rfl rfl rfl rfl rfl ⟨rfl, rfl, rfl, rfl, rfl⟩ rfl rfl rfl rfl rfl (by kernel_rfl) Tryz.func3 closed
    (of_decide_eq_true (by kernel_rfl)) (by unfold Func.isWrapper; first | (rw [if_pos (by decide +kernel)]; kernel_rfl) | (rw [if_neg (by decide +kernel)]; exact ⟨rfl, rfl⟩))
    (fun os started H enc _ F => by rw [OpenClaim.pre_eq_preRow]; exact lifted os started H enc F)

theorem plain (f : FuncId) (fn : Func) (hf : Tryz.pinned.checked.prog.funcNamed Rows.deadletterChecksRow.func = some f) (hfn : Tryz.pinned.checked.prog.funcs[f]? = some fn) :
    true = Tryz.pinned.checked.prog.looks [] ∧ ∀ (j : Nat) t, fn.params[j]? = some t → Tryz.pinned.checked.prog.wantsStandIn t = false := by
  obtain rfl : f = 3 := Option.some.inj ((show Tryz.prog.funcNamed Rows.deadletterChecksRow.func = some 3 by kernel_rfl).symm.trans hf) |>.symm
  obtain rfl : fn = Tryz.f3 := (Option.some.inj (Tryz.func3.symm.trans hfn)).symm
  refine ⟨fLooks, fun j t ht => ?_⟩
  have hp : Tryz.f3.params = #[24] := by kernel_rfl
  rw [hp] at ht
  obtain rfl : t = 24 := by simpa using Array.mem_of_getElem? ht
  exact (show Tryz.prog.wantsStandIn 24 = false by kernel_rfl)

/-- The card. -/
theorem card : Rows.DeadletterChecksCardSaid :=
  Claim7.holds_tied_plain_at .later [] _ _ _ _ said (fun _ h => by cases h) (by kernel_rfl) (fun _ h => by cases h) deadletterChecks_row_tie rfl ⟨rfl, rfl⟩ (by kernel_rfl) rfl plain goesNot
end Checks
#print axioms Checks.card
end Go.Proofs.YthfdachbgpjafaaGreatDoor
