/- Lemmas for the card; no conditions. -/
import Derived.Test.YthfdachbgpjafaaGreatDoorXd6
set_option linter.all false
set_option maxRecDepth 100000
namespace Go.Proofs.Tryz
open Go.Ps
theorem y7:yD prog pt=true:=by kernel_rfl
theorem y8:yD prog pu=true:=by kernel_rfl
theorem tz:yD prog mB=true:=by kernel_rfl
end Go.Proofs.Tryz
