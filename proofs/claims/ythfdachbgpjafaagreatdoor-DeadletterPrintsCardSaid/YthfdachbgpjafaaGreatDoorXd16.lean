/- Lemmas for the card; no conditions. -/
import Derived.Test.YthfdachbgpjafaaGreatDoorXd6
set_option linter.all false
set_option maxRecDepth 100000
namespace Go.Proofs.Tryz
open Go.Ps
theorem bHk:qS prog xS (mz) 0 8 (Vd 125)=true:=by kernel_rfl
theorem bHl:qS prog xS (mz) 0 8 (Vd 126)=true:=by kernel_rfl
theorem bHn:qS prog xS (mz) 0 8 (Vd 128)=true:=by kernel_rfl
theorem bHm:qS prog xS (mz) 0 8 (Vd 127)=true:=by kernel_rfl
theorem bHo:qS prog xS (mz) 0 8 (Vd 129)=true:=by kernel_rfl
theorem E7:Gp prog xS aWb 8 m7=true:=by kernel_rfl
end Go.Proofs.Tryz
