/- Lemmas for the card; no conditions. -/
import Derived.Test.YthfdachbgpjafaaGreatDoorXd6
set_option linter.all false
set_option maxRecDepth 100000
namespace Go.Proofs.Tryz
open Go.Ps
theorem rT:aDd prog (λ_ =>xQ) [] lT.reverse=true:=by kernel_rfl
theorem rF:aDd prog xF lT fF.reverse=true:=by kernel_rfl
theorem rZ:aDd prog xF (fF++lT) fZ.reverse=true:=by kernel_rfl
theorem rC:∀s∈lC,qS prog xQ tq 0 8 s=true:=aP.1 (by kernel_rfl)
theorem E8:qS prog xQ ((fK.map (·.1)++fF++fZ++lT).map λs=>(s,none)) 0 8 n4=true:=by kernel_rfl
theorem bPw:qS prog (xF (AF 0).1.f) tK (AF 0).2 8 (AF 0).1=true:=by kernel_rfl
theorem bPz:qS prog (xF (AF 3).1.f) tK (AF 3).2 8 (AF 3).1=true:=by kernel_rfl
theorem bQc:qS prog (xF (AF 6).1.f) tK (AF 6).2 8 (AF 6).1=true:=by kernel_rfl
theorem bQf:qS prog (xF (AF 9).1.f) tK (AF 9).2 8 (AF 9).1=true:=by kernel_rfl
theorem bHg:qS prog (xF (AF 12).1.f) tK (AF 12).2 8 (AF 12).1=true:=by kernel_rfl
theorem bHj:qS prog (xF (AF 15).1.f) tK (AF 15).2 8 (AF 15).1=true:=by kernel_rfl
theorem bPx:qS prog (xF (AF 1).1.f) tK (AF 1).2 8 (AF 1).1=true:=by kernel_rfl
theorem bQa:qS prog (xF (AF 4).1.f) tK (AF 4).2 8 (AF 4).1=true:=by kernel_rfl
theorem bQd:qS prog (xF (AF 7).1.f) tK (AF 7).2 8 (AF 7).1=true:=by kernel_rfl
theorem bHe:qS prog (xF (AF 10).1.f) tK (AF 10).2 8 (AF 10).1=true:=by kernel_rfl
theorem bHh:qS prog (xF (AF 13).1.f) tK (AF 13).2 8 (AF 13).1=true:=by kernel_rfl
theorem bPy:qS prog (xF (AF 2).1.f) tK (AF 2).2 8 (AF 2).1=true:=by kernel_rfl
theorem bQb:qS prog (xF (AF 5).1.f) tK (AF 5).2 8 (AF 5).1=true:=by kernel_rfl
theorem bQe:qS prog (xF (AF 8).1.f) tK (AF 8).2 8 (AF 8).1=true:=by kernel_rfl
theorem bHf:qS prog (xF (AF 11).1.f) tK (AF 11).2 8 (AF 11).1=true:=by kernel_rfl
theorem bHi:qS prog (xF (AF 14).1.f) tK (AF 14).2 8 (AF 14).1=true:=by kernel_rfl
theorem xo:Gp prog xQ tt 8 c21=true:=by kernel_rfl
end Go.Proofs.Tryz
