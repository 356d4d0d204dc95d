/- The row goes by no hidden way: a closed fact of the program, alone in its file for the memory's sake. -/
import Derived.Test.YthfdachbgpjafaaGreatDoorCards
import Derived.KernelRfl
set_option linter.unusedSimpArgs false
set_option linter.unusedVariables false
set_option linter.unusedSectionVars false
set_option maxRecDepth 100000
namespace Go.Proofs.YthfdachbgpjafaaGreatDoor.Groups
theorem aPo:false=Rows.deadletterGroupsRow.goesBy Tryz.pinned.checked.prog:=by kernel_rfl
end Go.Proofs.YthfdachbgpjafaaGreatDoor.Groups
