/- Runs in bounds, by the kernel. -/
import Derived.Test.YthfdachbgpjafaaGreatDoorXd6
set_option linter.all false
namespace Go.Proofs.Tryz
open Go.Ps
set_option maxRecDepth 100000
theorem Be:yD prog qd=true:=by kernel_rfl
theorem Bk:yD prog qe=true:=by kernel_rfl
theorem Bl:yD prog qf=true:=by kernel_rfl
theorem Bs:yD prog qg=true:=by kernel_rfl
theorem BE:yD prog qh=true:=by kernel_rfl
theorem BY:yD prog qi=true:=by kernel_rfl
theorem B1:yD prog qj=true:=by kernel_rfl
theorem B4:yD prog qk=true:=by kernel_rfl
theorem B5:yD prog ql=true:=by kernel_rfl
theorem vx:yD prog qm=true:=by kernel_rfl
end Go.Proofs.Tryz
