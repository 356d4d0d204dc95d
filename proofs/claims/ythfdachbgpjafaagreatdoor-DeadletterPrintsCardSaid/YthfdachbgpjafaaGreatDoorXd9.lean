/- Lemmas for the card; no conditions. -/
import Derived.Test.YthfdachbgpjafaaGreatDoorXd6
set_option linter.all false
set_option maxRecDepth 100000
namespace Go.Proofs.Tryz
open Go.Ps
theorem y9:yD prog pv=true:=by kernel_rfl
theorem za:yD prog pw=true:=by kernel_rfl
theorem zb:∀s∈[Vc 0],sB prog (GV KN DK) (Eu 0) 4 s=true:=aP.1 (by kernel_rfl)
theorem zf:∀s∈(Ec 0),sB prog (GV KN DK) (Eu 0) 4 s=true:=aP.1 (by kernel_rfl)
theorem zg:∀s∈[Vc 1],sB prog (GV KN DK) (Eu 1) 4 s=true:=aP.1 (by kernel_rfl)
theorem zh:∀s∈(Ec 1),sB prog (GV KN DK) (Eu 1) 4 s=true:=aP.1 (by kernel_rfl)
theorem zi:∀s∈[Vc 2],sB prog (GV KN DK) (Eu 2) 4 s=true:=aP.1 (by kernel_rfl)
theorem zj:∀s∈(Ec 2),sB prog (GV KN DK) (Eu 2) 4 s=true:=aP.1 (by kernel_rfl)
theorem zk:∀s∈[Vc 3],sB prog (GV KN DK) (Eu 3) 4 s=true:=aP.1 (by kernel_rfl)
theorem zm:∀s∈(Ec 3),sB prog (GV KN DK) (Eu 3) 4 s=true:=aP.1 (by kernel_rfl)
theorem zn:∀s∈(aLb 0),sB prog (GV aOd DK) (Eu 1) 4 s=true:=aP.1 (by kernel_rfl)
theorem zo:∀s∈(aLb 1),sB prog (GV aOd DK) (Eu 2) 4 s=true:=aP.1 (by kernel_rfl)
theorem zp:∀s∈(aLb 2),sB prog (GV aOd DK) (Eu 3) 4 s=true:=aP.1 (by kernel_rfl)
theorem zq:∀s∈[Kt 9],sB prog (GV KN DK) (lu 9) 4 s=true:=aP.1 (by kernel_rfl)
theorem zr:∀s∈[Kt 8],sB prog (GV KN DK) (lu 8) 4 s=true:=aP.1 (by kernel_rfl)
theorem zu:∀s∈[Kt 7],sB prog (GV KN DK) (lu 7) 4 s=true:=aP.1 (by kernel_rfl)
theorem zw:∀s∈[Kt 6],sB prog (GV KN DK) (lu 6) 4 s=true:=aP.1 (by kernel_rfl)
theorem zx:∀s∈[Kt 5],sB prog (GV KN DK) (lu 5) 4 s=true:=aP.1 (by kernel_rfl)
theorem zy:∀s∈[Kt 4],sB prog (GV KN DK) (lu 4) 4 s=true:=aP.1 (by kernel_rfl)
theorem zz:∀s∈[Kt 3],sB prog (GV KN DK) (lu 3) 4 s=true:=aP.1 (by kernel_rfl)
theorem z6:∀s∈[Kt 2],sB prog (GV KN DK) (lu 2) 4 s=true:=aP.1 (by kernel_rfl)
theorem z7:∀s∈[Kt 1],sB prog (GV KN DK) (lu 1) 4 s=true:=aP.1 (by kernel_rfl)
theorem z8:∀c∈m5,PO prog (GV KN DK) (Eu 4) 8 c=true:=aP.1 (by kernel_rfl)
theorem bPu:PO prog (GV KN DK) [Kt 1] 8 bDg=true:=by kernel_rfl
end Go.Proofs.Tryz
