/- The row goes by no hidden way: a closed fact of the program, alone in its file for the memory's sake. -/
import Derived.Test.YthfdachbgpjafaaGreatDoorCards
import Derived.KernelRfl
set_option linter.all false
set_option maxRecDepth 100000
namespace Go.Proofs.YthfdachbgpjafaaGreatDoor.Prints
theorem aQe:false=Rows.deadletterPrintsRow.goesBy Tryz.pinned.checked.prog:=by kernel_rfl
end Go.Proofs.YthfdachbgpjafaaGreatDoor.Prints
