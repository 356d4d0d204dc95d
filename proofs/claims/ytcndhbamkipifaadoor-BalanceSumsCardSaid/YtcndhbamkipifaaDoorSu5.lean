/- Texts merged: K22, Kd, Ns, N11, Ms, M17, Mh, Mc, Md, Me, Os, O8, Oc, Nc, Nd, Pe, Qs, Q5. -/
import Derived.Test.YtcndhbamkipifaaDoorSu4
import Derived.Test.YtcndhbamkipifaaDoorSu1
/- fourth of the law as a machine, by program (gen2). -/
namespace Go.Proofs.Tryd
open Go.Ps
set_option maxRecDepth 100000
set_option linter.unusedVariables false
set_option linter.unusedSimpArgs false

/-! ### 22 -/
inductive S22 where
  | l0 (x7 : Int)
  | l1 (x9 : Int)
noncomputable def g22_s_1 (c : Ct) (i : Int) : List Bool := [(↑(kids c.n c.line (c.line i.toNat).st).length : Int) == 0, (c.line i.toNat).fate == 1, isV (T.slf false c.n fun i => lnT (c.line i)) (lsT c.n c.line), isV (spT (c.line i.toNat).st) (spT (c.line i.toNat).st), smallLB c.n c.line, true, true, decide (0 ≤ i), decide (i < (↑c.n : Int)), true]
theorem w22_s_1 (c : Ct) (i : Int) : outK prog f22 20 [] (runK prog D15 F0 2000 (.code (bodyOf f22)) [] 0 ([ctT c, .int .i64 i] ++ List.replicate 120 undefT) ⟨0, []⟩ [true, true] [])
    = some (OutT.done (some (T.int .i64 10)), g22_s_1 c i, { next := 0, objs := [] }, [], 0) := by kernel_rfl
noncomputable def g22_s_2 (c : Ct) (i : Int) : List Bool := [!(↑(kids c.n c.line (c.line i.toNat).st).length : Int) == 0, (c.line i.toNat).fate == 1, isV (T.slf false c.n fun i => lnT (c.line i)) (lsT c.n c.line), isV (spT (c.line i.toNat).st) (spT (c.line i.toNat).st), smallLB c.n c.line, true, true, decide (0 ≤ i), decide (i < (↑c.n : Int)), true]
theorem w22_s_2 (c : Ct) (i : Int) : outK prog f22 20 [2, 5, 6, 7] (runK prog D15 F0 2000 (.code (bodyOf f22)) [] 0 ([ctT c, .int .i64 i] ++ List.replicate 120 undefT) ⟨0, []⟩ [true, false] [])
    = some (OutT.loop 0 (loopAt f22 0).1 (loopAt f22 0).2, g22_s_2 c i, { next := 0, objs := [] }, [(ctT c).ref 0, (lnT (c.line i.toNat)).ref 0, T.slf false (kids c.n c.line (c.line i.toNat).st).length fun j => T.int .i64 ((kids c.n c.line (c.line i.toNat).st).getD j 0), T.int .i64 0], 122) := by kernel_rfl
noncomputable def g22_s_3 (c : Ct) (i : Int) : List Bool := [(↑(kids c.n c.line (c.line i.toNat).st).length : Int) != 1, (c.line i.toNat).fate == 2, !(c.line i.toNat).fate == 1, isV (T.slf false c.n fun i => lnT (c.line i)) (lsT c.n c.line), isV (spT (c.line i.toNat).st) (spT (c.line i.toNat).st), smallLB c.n c.line, true, true, decide (0 ≤ i), decide (i < (↑c.n : Int)), true]
theorem w22_s_3 (c : Ct) (i : Int) : outK prog f22 20 [] (runK prog D15 F0 2000 (.code (bodyOf f22)) [] 0 ([ctT c, .int .i64 i] ++ List.replicate 120 undefT) ⟨0, []⟩ [false, true, true] [])
    = some (OutT.done (some (T.int .i64 10)), g22_s_3 c i, { next := 0, objs := [] }, [], 0) := by kernel_rfl
noncomputable def g22_s_4 (c : Ct) (i : Int) : List Bool := [!(↑(kids c.n c.line (c.line i.toNat).st).length : Int) != 1, (c.line i.toNat).fate == 2, !(c.line i.toNat).fate == 1, isV (T.slf false c.n fun i => lnT (c.line i)) (lsT c.n c.line), isV (spT (c.line i.toNat).st) (spT (c.line i.toNat).st), smallLB c.n c.line, true, true, decide (0 ≤ i), decide (i < (↑c.n : Int)), true]
theorem w22_s_4 (c : Ct) (i : Int) : outK prog f22 20 [] (runK prog D15 F0 2000 (.code (bodyOf f22)) [] 0 ([ctT c, .int .i64 i] ++ List.replicate 120 undefT) ⟨0, []⟩ [false, true, false] [])
    = some (OutT.done (some (T.int .i64 0)), g22_s_4 c i, { next := 0, objs := [] }, [], 0) := by kernel_rfl
noncomputable def g22_s_5 (c : Ct) (i : Int) : List Bool := [true, true, true, true, true, true, true, true, true, true, true, true, (↑(kids c.n c.line (c.line i.toNat).st).length : Int) != 1, (↑(kids c.n c.line (c.line i.toNat).st).length : Int) != 1, (↑(kids c.n c.line (c.line i.toNat).st).length : Int) != 1, (↑(kids c.n c.line (c.line i.toNat).st).length : Int) != 1, (↑(kids c.n c.line (c.line i.toNat).st).length : Int) != 1, (↑(kids c.n c.line (c.line i.toNat).st).length : Int) != 1, (↑(kids c.n c.line (c.line i.toNat).st).length : Int) != 1, (↑(kids c.n c.line (c.line i.toNat).st).length : Int) != 1, (↑(kids c.n c.line (c.line i.toNat).st).length : Int) != 1, (↑(kids c.n c.line (c.line i.toNat).st).length : Int) != 1, (↑(kids c.n c.line (c.line i.toNat).st).length : Int) != 1, (c.line i.toNat).closed == 5, !(c.line i.toNat).fate == 2, !(c.line i.toNat).fate == 1, isV (T.slf false c.n fun i => lnT (c.line i)) (lsT c.n c.line), isV (spT (c.line i.toNat).st) (spT (c.line i.toNat).st), smallLB c.n c.line, true, true, decide (0 ≤ i), decide (i < (↑c.n : Int)), true]
theorem w22_s_5 (c : Ct) (i : Int) : outK prog f22 20 [] (runK prog D15 F0 2000 (.code (bodyOf f22)) [] 0 ([ctT c, .int .i64 i] ++ List.replicate 120 undefT) ⟨0, []⟩ (bt 26 67108860) [])
    = some (OutT.done (some (T.int .i64 10)), g22_s_5 c i, { next := 0, objs := [] }, [], 0) := by kernel_rfl
noncomputable def g22_s_6 (c : Ct) (i : Int) : List Bool := [true, (↑(c.line ((kids c.n c.line (c.line i.toNat).st).getD 0 0).toNat).k : Int) != 1, (↑(c.line ((kids c.n c.line (c.line i.toNat).st).getD 0 0).toNat).k : Int) != 1, (↑(c.line ((kids c.n c.line (c.line i.toNat).st).getD 0 0).toNat).k : Int) != 1, (↑(c.line ((kids c.n c.line (c.line i.toNat).st).getD 0 0).toNat).k : Int) != 1, (↑(c.line ((kids c.n c.line (c.line i.toNat).st).getD 0 0).toNat).k : Int) != 1, (↑(c.line ((kids c.n c.line (c.line i.toNat).st).getD 0 0).toNat).k : Int) != 1, (↑(c.line ((kids c.n c.line (c.line i.toNat).st).getD 0 0).toNat).k : Int) != 1, (↑(c.line ((kids c.n c.line (c.line i.toNat).st).getD 0 0).toNat).k : Int) != 1, (↑(c.line ((kids c.n c.line (c.line i.toNat).st).getD 0 0).toNat).k : Int) != 1, (↑(c.line ((kids c.n c.line (c.line i.toNat).st).getD 0 0).toNat).k : Int) != 1, (↑(c.line ((kids c.n c.line (c.line i.toNat).st).getD 0 0).toNat).k : Int) != 1, !(↑(kids c.n c.line (c.line i.toNat).st).length : Int) != 1, !(↑(kids c.n c.line (c.line i.toNat).st).length : Int) != 1, !(↑(kids c.n c.line (c.line i.toNat).st).length : Int) != 1, !(↑(kids c.n c.line (c.line i.toNat).st).length : Int) != 1, !(↑(kids c.n c.line (c.line i.toNat).st).length : Int) != 1, decide (0 ≤ (kids c.n c.line (c.line i.toNat).st).getD 0 0), decide ((kids c.n c.line (c.line i.toNat).st).getD 0 0 < (↑c.n : Int)), true, !(↑(kids c.n c.line (c.line i.toNat).st).length : Int) != 1, !(↑(kids c.n c.line (c.line i.toNat).st).length : Int) != 1, true, decide (0 < (↑(kids c.n c.line (c.line i.toNat).st).length : Int)), true, !(↑(kids c.n c.line (c.line i.toNat).st).length : Int) != 1, !(↑(kids c.n c.line (c.line i.toNat).st).length : Int) != 1, !(↑(kids c.n c.line (c.line i.toNat).st).length : Int) != 1, !(↑(kids c.n c.line (c.line i.toNat).st).length : Int) != 1, (c.line i.toNat).closed == 5, !(c.line i.toNat).fate == 2, !(c.line i.toNat).fate == 1, isV (T.slf false c.n fun i => lnT (c.line i)) (lsT c.n c.line), isV (spT (c.line i.toNat).st) (spT (c.line i.toNat).st), smallLB c.n c.line, true, true, decide (0 ≤ i), decide (i < (↑c.n : Int)), true]
theorem w22_s_6 (c : Ct) (i : Int) : outK prog f22 20 [] (runK prog D15 F0 2000 (.code (bodyOf f22)) [] 0 ([ctT c, .int .i64 i] ++ List.replicate 120 undefT) ⟨0, []⟩ (bt 26 67092484) [])
    = some (OutT.done (some (T.int .i64 10)), g22_s_6 c i, { next := 0, objs := [] }, [], 0) := by kernel_rfl
noncomputable def g22_s_7 (c : Ct) (i : Int) : List Bool := [!arr (c.line ((kids c.n c.line (c.line i.toNat).st).getD 0 0).toNat).st, !(↑(c.line ((kids c.n c.line (c.line i.toNat).st).getD 0 0).toNat).k : Int) != 1, !(↑(c.line ((kids c.n c.line (c.line i.toNat).st).getD 0 0).toNat).k : Int) != 1, isV (spT (c.line ((kids c.n c.line (c.line i.toNat).st).getD 0 0).toNat).st) (spT (c.line ((kids c.n c.line (c.line i.toNat).st).getD 0 0).toNat).st), !(↑(c.line ((kids c.n c.line (c.line i.toNat).st).getD 0 0).toNat).k : Int) != 1, !(↑(c.line ((kids c.n c.line (c.line i.toNat).st).getD 0 0).toNat).k : Int) != 1, !(↑(c.line ((kids c.n c.line (c.line i.toNat).st).getD 0 0).toNat).k : Int) != 1, decide (0 ≤ (kids c.n c.line (c.line i.toNat).st).getD 0 0), decide ((kids c.n c.line (c.line i.toNat).st).getD 0 0 < (↑c.n : Int)), true, !(↑(c.line ((kids c.n c.line (c.line i.toNat).st).getD 0 0).toNat).k : Int) != 1, !(↑(c.line ((kids c.n c.line (c.line i.toNat).st).getD 0 0).toNat).k : Int) != 1, true, decide (0 < (↑(kids c.n c.line (c.line i.toNat).st).length : Int)), true, !(↑(c.line ((kids c.n c.line (c.line i.toNat).st).getD 0 0).toNat).k : Int) != 1, !(↑(c.line ((kids c.n c.line (c.line i.toNat).st).getD 0 0).toNat).k : Int) != 1, !(↑(c.line ((kids c.n c.line (c.line i.toNat).st).getD 0 0).toNat).k : Int) != 1, !(↑(c.line ((kids c.n c.line (c.line i.toNat).st).getD 0 0).toNat).k : Int) != 1, !(↑(kids c.n c.line (c.line i.toNat).st).length : Int) != 1, !(↑(kids c.n c.line (c.line i.toNat).st).length : Int) != 1, !(↑(kids c.n c.line (c.line i.toNat).st).length : Int) != 1, !(↑(kids c.n c.line (c.line i.toNat).st).length : Int) != 1, !(↑(kids c.n c.line (c.line i.toNat).st).length : Int) != 1, decide (0 ≤ (kids c.n c.line (c.line i.toNat).st).getD 0 0), decide ((kids c.n c.line (c.line i.toNat).st).getD 0 0 < (↑c.n : Int)), true, !(↑(kids c.n c.line (c.line i.toNat).st).length : Int) != 1, !(↑(kids c.n c.line (c.line i.toNat).st).length : Int) != 1, true, decide (0 < (↑(kids c.n c.line (c.line i.toNat).st).length : Int)), true, !(↑(kids c.n c.line (c.line i.toNat).st).length : Int) != 1, !(↑(kids c.n c.line (c.line i.toNat).st).length : Int) != 1, !(↑(kids c.n c.line (c.line i.toNat).st).length : Int) != 1, !(↑(kids c.n c.line (c.line i.toNat).st).length : Int) != 1, (c.line i.toNat).closed == 5, !(c.line i.toNat).fate == 2, !(c.line i.toNat).fate == 1, isV (T.slf false c.n fun i => lnT (c.line i)) (lsT c.n c.line), isV (spT (c.line i.toNat).st) (spT (c.line i.toNat).st), smallLB c.n c.line, true, true, decide (0 ≤ i), decide (i < (↑c.n : Int)), true]
theorem w22_s_7 (c : Ct) (i : Int) : outK prog f22 20 [] (runK prog D15 F0 2000 (.code (bodyOf f22)) [] 0 ([ctT c, .int .i64 i] ++ List.replicate 120 undefT) ⟨0, []⟩ (bt 26 33554436) [])
    = some (OutT.done (some (T.int .i64 10)), g22_s_7 c i, { next := 0, objs := [] }, [], 0) := by kernel_rfl
noncomputable def g22_s_8 (c : Ct) (i : Int) : List Bool := [(c.line ((kids c.n c.line (c.line i.toNat).st).getD 0 0).toNat).mass != (c.line i.toNat).mass, decide (0 ≤ (kids c.n c.line (c.line i.toNat).st).getD 0 0), decide ((kids c.n c.line (c.line i.toNat).st).getD 0 0 < (↑c.n : Int)), true, true, decide (0 < (↑(kids c.n c.line (c.line i.toNat).st).length : Int)), true, !!arr (c.line ((kids c.n c.line (c.line i.toNat).st).getD 0 0).toNat).st, !(↑(c.line ((kids c.n c.line (c.line i.toNat).st).getD 0 0).toNat).k : Int) != 1, !(↑(c.line ((kids c.n c.line (c.line i.toNat).st).getD 0 0).toNat).k : Int) != 1, isV (spT (c.line ((kids c.n c.line (c.line i.toNat).st).getD 0 0).toNat).st) (spT (c.line ((kids c.n c.line (c.line i.toNat).st).getD 0 0).toNat).st), !(↑(c.line ((kids c.n c.line (c.line i.toNat).st).getD 0 0).toNat).k : Int) != 1, !(↑(c.line ((kids c.n c.line (c.line i.toNat).st).getD 0 0).toNat).k : Int) != 1, !(↑(c.line ((kids c.n c.line (c.line i.toNat).st).getD 0 0).toNat).k : Int) != 1, decide (0 ≤ (kids c.n c.line (c.line i.toNat).st).getD 0 0), decide ((kids c.n c.line (c.line i.toNat).st).getD 0 0 < (↑c.n : Int)), true, !(↑(c.line ((kids c.n c.line (c.line i.toNat).st).getD 0 0).toNat).k : Int) != 1, !(↑(c.line ((kids c.n c.line (c.line i.toNat).st).getD 0 0).toNat).k : Int) != 1, true, decide (0 < (↑(kids c.n c.line (c.line i.toNat).st).length : Int)), true, !(↑(c.line ((kids c.n c.line (c.line i.toNat).st).getD 0 0).toNat).k : Int) != 1, !(↑(c.line ((kids c.n c.line (c.line i.toNat).st).getD 0 0).toNat).k : Int) != 1, !(↑(c.line ((kids c.n c.line (c.line i.toNat).st).getD 0 0).toNat).k : Int) != 1, !(↑(c.line ((kids c.n c.line (c.line i.toNat).st).getD 0 0).toNat).k : Int) != 1, !(↑(kids c.n c.line (c.line i.toNat).st).length : Int) != 1, !(↑(kids c.n c.line (c.line i.toNat).st).length : Int) != 1, !(↑(kids c.n c.line (c.line i.toNat).st).length : Int) != 1, !(↑(kids c.n c.line (c.line i.toNat).st).length : Int) != 1, !(↑(kids c.n c.line (c.line i.toNat).st).length : Int) != 1, decide (0 ≤ (kids c.n c.line (c.line i.toNat).st).getD 0 0), decide ((kids c.n c.line (c.line i.toNat).st).getD 0 0 < (↑c.n : Int)), true, !(↑(kids c.n c.line (c.line i.toNat).st).length : Int) != 1, !(↑(kids c.n c.line (c.line i.toNat).st).length : Int) != 1, true, decide (0 < (↑(kids c.n c.line (c.line i.toNat).st).length : Int)), true, !(↑(kids c.n c.line (c.line i.toNat).st).length : Int) != 1, !(↑(kids c.n c.line (c.line i.toNat).st).length : Int) != 1, !(↑(kids c.n c.line (c.line i.toNat).st).length : Int) != 1, !(↑(kids c.n c.line (c.line i.toNat).st).length : Int) != 1, (c.line i.toNat).closed == 5, !(c.line i.toNat).fate == 2, !(c.line i.toNat).fate == 1, isV (T.slf false c.n fun i => lnT (c.line i)) (lsT c.n c.line), isV (spT (c.line i.toNat).st) (spT (c.line i.toNat).st), smallLB c.n c.line, true, true, decide (0 ≤ i), decide (i < (↑c.n : Int)), true]
theorem w22_s_8 (c : Ct) (i : Int) : outK prog f22 20 [] (runK prog D15 F0 2000 (.code (bodyOf f22)) [] 0 ([ctT c, .int .i64 i] ++ List.replicate 120 undefT) ⟨0, []⟩ (bt 27 67108868) [])
    = some (OutT.done (some (T.int .i64 38)), g22_s_8 c i, { next := 0, objs := [] }, [], 0) := by kernel_rfl
noncomputable def g22_s_9 (c : Ct) (i : Int) : List Bool := [!(c.line ((kids c.n c.line (c.line i.toNat).st).getD 0 0).toNat).mass != (c.line i.toNat).mass, decide (0 ≤ (kids c.n c.line (c.line i.toNat).st).getD 0 0), decide ((kids c.n c.line (c.line i.toNat).st).getD 0 0 < (↑c.n : Int)), true, true, decide (0 < (↑(kids c.n c.line (c.line i.toNat).st).length : Int)), true, !!arr (c.line ((kids c.n c.line (c.line i.toNat).st).getD 0 0).toNat).st, !(↑(c.line ((kids c.n c.line (c.line i.toNat).st).getD 0 0).toNat).k : Int) != 1, !(↑(c.line ((kids c.n c.line (c.line i.toNat).st).getD 0 0).toNat).k : Int) != 1, isV (spT (c.line ((kids c.n c.line (c.line i.toNat).st).getD 0 0).toNat).st) (spT (c.line ((kids c.n c.line (c.line i.toNat).st).getD 0 0).toNat).st), !(↑(c.line ((kids c.n c.line (c.line i.toNat).st).getD 0 0).toNat).k : Int) != 1, !(↑(c.line ((kids c.n c.line (c.line i.toNat).st).getD 0 0).toNat).k : Int) != 1, !(↑(c.line ((kids c.n c.line (c.line i.toNat).st).getD 0 0).toNat).k : Int) != 1, decide (0 ≤ (kids c.n c.line (c.line i.toNat).st).getD 0 0), decide ((kids c.n c.line (c.line i.toNat).st).getD 0 0 < (↑c.n : Int)), true, !(↑(c.line ((kids c.n c.line (c.line i.toNat).st).getD 0 0).toNat).k : Int) != 1, !(↑(c.line ((kids c.n c.line (c.line i.toNat).st).getD 0 0).toNat).k : Int) != 1, true, decide (0 < (↑(kids c.n c.line (c.line i.toNat).st).length : Int)), true, !(↑(c.line ((kids c.n c.line (c.line i.toNat).st).getD 0 0).toNat).k : Int) != 1, !(↑(c.line ((kids c.n c.line (c.line i.toNat).st).getD 0 0).toNat).k : Int) != 1, !(↑(c.line ((kids c.n c.line (c.line i.toNat).st).getD 0 0).toNat).k : Int) != 1, !(↑(c.line ((kids c.n c.line (c.line i.toNat).st).getD 0 0).toNat).k : Int) != 1, !(↑(kids c.n c.line (c.line i.toNat).st).length : Int) != 1, !(↑(kids c.n c.line (c.line i.toNat).st).length : Int) != 1, !(↑(kids c.n c.line (c.line i.toNat).st).length : Int) != 1, !(↑(kids c.n c.line (c.line i.toNat).st).length : Int) != 1, !(↑(kids c.n c.line (c.line i.toNat).st).length : Int) != 1, decide (0 ≤ (kids c.n c.line (c.line i.toNat).st).getD 0 0), decide ((kids c.n c.line (c.line i.toNat).st).getD 0 0 < (↑c.n : Int)), true, !(↑(kids c.n c.line (c.line i.toNat).st).length : Int) != 1, !(↑(kids c.n c.line (c.line i.toNat).st).length : Int) != 1, true, decide (0 < (↑(kids c.n c.line (c.line i.toNat).st).length : Int)), true, !(↑(kids c.n c.line (c.line i.toNat).st).length : Int) != 1, !(↑(kids c.n c.line (c.line i.toNat).st).length : Int) != 1, !(↑(kids c.n c.line (c.line i.toNat).st).length : Int) != 1, !(↑(kids c.n c.line (c.line i.toNat).st).length : Int) != 1, (c.line i.toNat).closed == 5, !(c.line i.toNat).fate == 2, !(c.line i.toNat).fate == 1, isV (T.slf false c.n fun i => lnT (c.line i)) (lsT c.n c.line), isV (spT (c.line i.toNat).st) (spT (c.line i.toNat).st), smallLB c.n c.line, true, true, decide (0 ≤ i), decide (i < (↑c.n : Int)), true]
theorem w22_s_9 (c : Ct) (i : Int) : outK prog f22 20 [] (runK prog D15 F0 2000 (.code (bodyOf f22)) [] 0 ([ctT c, .int .i64 i] ++ List.replicate 120 undefT) ⟨0, []⟩ (bt 27 4) [])
    = some (OutT.done (some (T.int .i64 0)), g22_s_9 c i, { next := 0, objs := [] }, [], 0) := by kernel_rfl
noncomputable def g22_s_10 (c : Ct) (i : Int) : List Bool := [decide ((↑(kids c.n c.line (c.line i.toNat).st).length : Int) > 0), !(c.line i.toNat).closed == 5, !(c.line i.toNat).fate == 2, !(c.line i.toNat).fate == 1, isV (T.slf false c.n fun i => lnT (c.line i)) (lsT c.n c.line), isV (spT (c.line i.toNat).st) (spT (c.line i.toNat).st), smallLB c.n c.line, true, true, decide (0 ≤ i), decide (i < (↑c.n : Int)), true]
theorem w22_s_10 (c : Ct) (i : Int) : outK prog f22 20 [] (runK prog D15 F0 2000 (.code (bodyOf f22)) [] 0 ([ctT c, .int .i64 i] ++ List.replicate 120 undefT) ⟨0, []⟩ (bt 4 8) [])
    = some (OutT.done (some (T.int .i64 10)), g22_s_10 c i, { next := 0, objs := [] }, [], 0) := by kernel_rfl
noncomputable def g22_s_11 (c : Ct) (i : Int) : List Bool := [!decide ((↑(kids c.n c.line (c.line i.toNat).st).length : Int) > 0), !(c.line i.toNat).closed == 5, !(c.line i.toNat).fate == 2, !(c.line i.toNat).fate == 1, isV (T.slf false c.n fun i => lnT (c.line i)) (lsT c.n c.line), isV (spT (c.line i.toNat).st) (spT (c.line i.toNat).st), smallLB c.n c.line, true, true, decide (0 ≤ i), decide (i < (↑c.n : Int)), true]
theorem w22_s_11 (c : Ct) (i : Int) : outK prog f22 20 [] (runK prog D15 F0 2000 (.code (bodyOf f22)) [] 0 ([ctT c, .int .i64 i] ++ List.replicate 120 undefT) ⟨0, []⟩ (bt 4 0) [])
    = some (OutT.done (some (T.int .i64 0)), g22_s_11 c i, { next := 0, objs := [] }, [], 0) := by kernel_rfl
noncomputable def g22_0_1 (c : Ct) (i : Int) (x7 : Int) : List Bool := [(↑(c.line ((kids c.n c.line (c.line i.toNat).st).getD x7.toNat 0).toNat).k : Int) != 1, decide (0 ≤ (kids c.n c.line (c.line i.toNat).st).getD x7.toNat 0), decide ((kids c.n c.line (c.line i.toNat).st).getD x7.toNat 0 < (↑c.n : Int)), true, decide (0 ≤ x7), decide (x7 < (↑(kids c.n c.line (c.line i.toNat).st).length : Int)), true, decide (x7 < (↑(kids c.n c.line (c.line i.toNat).st).length : Int))]
theorem w22_0_1 (c : Ct) (i : Int) (x7 : Int) (fr : List T) : outK prog f22 20 [] (runK prog D15 F0 2000 (.code (loopAt f22 0).1) (.lp :: (loopAt f22 0).2) 0 (frK [2, 5, 6, 7] [(ctT c).ref 0, (lnT (c.line i.toNat)).ref 0, T.slf false (kids c.n c.line (c.line i.toNat).st).length fun j => T.int .i64 ((kids c.n c.line (c.line i.toNat).st).getD j 0), T.int .i64 x7] fr 122) ⟨0, []⟩ [true, true] [])
    = some (OutT.done (some (T.int .i64 10)), g22_0_1 c i x7, { next := 0, objs := [] }, [], 0) := by kernel_rfl
noncomputable def g22_0_2 (c : Ct) (i : Int) (x7 : Int) : List Bool := [!(↑(c.line ((kids c.n c.line (c.line i.toNat).st).getD x7.toNat 0).toNat).k : Int) != 1, decide (0 ≤ (kids c.n c.line (c.line i.toNat).st).getD x7.toNat 0), decide ((kids c.n c.line (c.line i.toNat).st).getD x7.toNat 0 < (↑c.n : Int)), true, decide (0 ≤ x7), decide (x7 < (↑(kids c.n c.line (c.line i.toNat).st).length : Int)), true, decide (x7 < (↑(kids c.n c.line (c.line i.toNat).st).length : Int))]
theorem w22_0_2 (c : Ct) (i : Int) (x7 : Int) (fr : List T) : outK prog f22 20 [2, 5, 6, 7] (runK prog D15 F0 2000 (.code (loopAt f22 0).1) (.lp :: (loopAt f22 0).2) 0 (frK [2, 5, 6, 7] [(ctT c).ref 0, (lnT (c.line i.toNat)).ref 0, T.slf false (kids c.n c.line (c.line i.toNat).st).length fun j => T.int .i64 ((kids c.n c.line (c.line i.toNat).st).getD j 0), T.int .i64 x7] fr 122) ⟨0, []⟩ [true, false] [])
    = some (OutT.again 0, g22_0_2 c i x7, { next := 0, objs := [] }, [(ctT c).ref 0, (lnT (c.line i.toNat)).ref 0, T.slf false (kids c.n c.line (c.line i.toNat).st).length fun j => T.int .i64 ((kids c.n c.line (c.line i.toNat).st).getD j 0), T.int .i64 (IntKind.i64.wrap (x7 + 1))], 122) := by kernel_rfl
noncomputable def g22_0_3 (c : Ct) (i : Int) (x7 : Int) : List Bool := [!decide (x7 < (↑(kids c.n c.line (c.line i.toNat).st).length : Int))]
theorem w22_0_3 (c : Ct) (i : Int) (x7 : Int) (fr : List T) : outK prog f22 20 [2, 6, 8, 9] (runK prog D15 F0 2000 (.code (loopAt f22 0).1) (.lp :: (loopAt f22 0).2) 0 (frK [2, 5, 6, 7] [(ctT c).ref 0, (lnT (c.line i.toNat)).ref 0, T.slf false (kids c.n c.line (c.line i.toNat).st).length fun j => T.int .i64 ((kids c.n c.line (c.line i.toNat).st).getD j 0), T.int .i64 x7] fr 122) ⟨0, []⟩ [false] [])
    = some (OutT.loop 1 (loopAt f22 1).1 (loopAt f22 1).2, g22_0_3 c i x7, { next := 0, objs := [] }, [(ctT c).ref 0, T.slf false (kids c.n c.line (c.line i.toNat).st).length fun j => T.int .i64 ((kids c.n c.line (c.line i.toNat).st).getD j 0), T.slf false (shN (c.line i.toNat).mass (↑(kids c.n c.line (c.line i.toNat).st).length : Int)) fun i_1 => T.int .i64 (shI (c.line i.toNat).mass (↑(kids c.n c.line (c.line i.toNat).st).length : Int) i_1), T.int .i64 0], 122) := by kernel_rfl
noncomputable def g22_1_1 (c : Ct) (i : Int) (x9 : Int) : List Bool := [(c.line ((kids c.n c.line (c.line i.toNat).st).getD x9.toNat 0).toNat).mass != shI (c.line i.toNat).mass (↑(kids c.n c.line (c.line i.toNat).st).length : Int) x9.toNat, decide (0 ≤ x9), decide (x9 < (↑(shN (c.line i.toNat).mass (↑(kids c.n c.line (c.line i.toNat).st).length : Int)) : Int)), true, decide (0 ≤ (kids c.n c.line (c.line i.toNat).st).getD x9.toNat 0), decide ((kids c.n c.line (c.line i.toNat).st).getD x9.toNat 0 < (↑c.n : Int)), true, decide (0 ≤ x9), decide (x9 < (↑(kids c.n c.line (c.line i.toNat).st).length : Int)), true, decide (x9 < (↑(kids c.n c.line (c.line i.toNat).st).length : Int))]
theorem w22_1_1 (c : Ct) (i : Int) (x9 : Int) (fr : List T) : outK prog f22 20 [] (runK prog D15 F0 2000 (.code (loopAt f22 1).1) (.lp :: (loopAt f22 1).2) 0 (frK [2, 6, 8, 9] [(ctT c).ref 0, T.slf false (kids c.n c.line (c.line i.toNat).st).length fun j => T.int .i64 ((kids c.n c.line (c.line i.toNat).st).getD j 0), T.slf false (shN (c.line i.toNat).mass (↑(kids c.n c.line (c.line i.toNat).st).length : Int)) fun i_1 => T.int .i64 (shI (c.line i.toNat).mass (↑(kids c.n c.line (c.line i.toNat).st).length : Int) i_1), T.int .i64 x9] fr 122) ⟨0, []⟩ [true, true] [])
    = some (OutT.done (some (T.int .i64 38)), g22_1_1 c i x9, { next := 0, objs := [] }, [], 0) := by kernel_rfl
noncomputable def g22_1_2 (c : Ct) (i : Int) (x9 : Int) : List Bool := [!(c.line ((kids c.n c.line (c.line i.toNat).st).getD x9.toNat 0).toNat).mass != shI (c.line i.toNat).mass (↑(kids c.n c.line (c.line i.toNat).st).length : Int) x9.toNat, decide (0 ≤ x9), decide (x9 < (↑(shN (c.line i.toNat).mass (↑(kids c.n c.line (c.line i.toNat).st).length : Int)) : Int)), true, decide (0 ≤ (kids c.n c.line (c.line i.toNat).st).getD x9.toNat 0), decide ((kids c.n c.line (c.line i.toNat).st).getD x9.toNat 0 < (↑c.n : Int)), true, decide (0 ≤ x9), decide (x9 < (↑(kids c.n c.line (c.line i.toNat).st).length : Int)), true, decide (x9 < (↑(kids c.n c.line (c.line i.toNat).st).length : Int))]
theorem w22_1_2 (c : Ct) (i : Int) (x9 : Int) (fr : List T) : outK prog f22 20 [2, 6, 8, 9] (runK prog D15 F0 2000 (.code (loopAt f22 1).1) (.lp :: (loopAt f22 1).2) 0 (frK [2, 6, 8, 9] [(ctT c).ref 0, T.slf false (kids c.n c.line (c.line i.toNat).st).length fun j => T.int .i64 ((kids c.n c.line (c.line i.toNat).st).getD j 0), T.slf false (shN (c.line i.toNat).mass (↑(kids c.n c.line (c.line i.toNat).st).length : Int)) fun i_1 => T.int .i64 (shI (c.line i.toNat).mass (↑(kids c.n c.line (c.line i.toNat).st).length : Int) i_1), T.int .i64 x9] fr 122) ⟨0, []⟩ [true, false] [])
    = some (OutT.again 0, g22_1_2 c i x9, { next := 0, objs := [] }, [(ctT c).ref 0, T.slf false (kids c.n c.line (c.line i.toNat).st).length fun j => T.int .i64 ((kids c.n c.line (c.line i.toNat).st).getD j 0), T.slf false (shN (c.line i.toNat).mass (↑(kids c.n c.line (c.line i.toNat).st).length : Int)) fun i_1 => T.int .i64 (shI (c.line i.toNat).mass (↑(kids c.n c.line (c.line i.toNat).st).length : Int) i_1), T.int .i64 (IntKind.i64.wrap (x9 + 1))], 122) := by kernel_rfl
noncomputable def g22_1_3 (c : Ct) (i : Int) (x9 : Int) : List Bool := [!decide (x9 < (↑(kids c.n c.line (c.line i.toNat).st).length : Int))]
theorem w22_1_3 (c : Ct) (i : Int) (x9 : Int) (fr : List T) : outK prog f22 20 [] (runK prog D15 F0 2000 (.code (loopAt f22 1).1) (.lp :: (loopAt f22 1).2) 0 (frK [2, 6, 8, 9] [(ctT c).ref 0, T.slf false (kids c.n c.line (c.line i.toNat).st).length fun j => T.int .i64 ((kids c.n c.line (c.line i.toNat).st).getD j 0), T.slf false (shN (c.line i.toNat).mass (↑(kids c.n c.line (c.line i.toNat).st).length : Int)) fun i_1 => T.int .i64 (shI (c.line i.toNat).mass (↑(kids c.n c.line (c.line i.toNat).st).length : Int) i_1), T.int .i64 x9] fr 122) ⟨0, []⟩ [false] [])
    = some (OutT.done (some (T.int .i64 0)), g22_1_3 c i x9, { next := 0, objs := [] }, [], 0) := by kernel_rfl
noncomputable def step22_0 (c : Ct) (i : Int) (x7 : Int) : Option (S22 ⊕ T) :=
  (if decide (x7 < (↑(kids c.n c.line (c.line i.toNat).st).length : Int)) then (if (↑(c.line ((kids c.n c.line (c.line i.toNat).st).getD x7.toNat 0).toNat).k : Int) != 1 then (if allT (g22_0_1 c i x7) then some (.inr ((T.int .i64 10))) else none) else (if allT (g22_0_2 c i x7) then some (.inl (.l0 (IntKind.i64.wrap (x7 + 1)))) else none)) else (if allT (g22_0_3 c i x7) then some (.inl (.l1 0)) else none))
noncomputable def V22_0 (c : Ct) (i : Int) (x7 : Int) : S22 ⊕ T :=
  (if decide (x7 < (↑(kids c.n c.line (c.line i.toNat).st).length : Int)) then (if (↑(c.line ((kids c.n c.line (c.line i.toNat).st).getD x7.toNat 0).toNat).k : Int) != 1 then (.inr ((T.int .i64 10))) else (.inl (.l0 (IntKind.i64.wrap (x7 + 1))))) else (.inl (.l1 0)))
noncomputable def K22_0 (c : Ct) (i : Int) (x7 : Int) : Bool :=
  (if decide (x7 < (↑(kids c.n c.line (c.line i.toNat).st).length : Int)) then (if (↑(c.line ((kids c.n c.line (c.line i.toNat).st).getD x7.toNat 0).toNat).k : Int) != 1 then (allT (g22_0_1 c i x7)) else (allT (g22_0_2 c i x7))) else (allT (g22_0_3 c i x7)))
theorem T22_0 (c : Ct) (i : Int) (x7 : Int) (hk : K22_0 c i x7 = true) : step22_0 c i x7 = some (V22_0 c i x7) :=
  (tree_if (tree_if tree_leaf tree_leaf) tree_leaf) hk
noncomputable def step22_1 (c : Ct) (i : Int) (x9 : Int) : Option (S22 ⊕ T) :=
  (if decide (x9 < (↑(kids c.n c.line (c.line i.toNat).st).length : Int)) then (if (c.line ((kids c.n c.line (c.line i.toNat).st).getD x9.toNat 0).toNat).mass != shI (c.line i.toNat).mass (↑(kids c.n c.line (c.line i.toNat).st).length : Int) x9.toNat then (if allT (g22_1_1 c i x9) then some (.inr ((T.int .i64 38))) else none) else (if allT (g22_1_2 c i x9) then some (.inl (.l1 (IntKind.i64.wrap (x9 + 1)))) else none)) else (if allT (g22_1_3 c i x9) then some (.inr ((T.int .i64 0))) else none))
noncomputable def V22_1 (c : Ct) (i : Int) (x9 : Int) : S22 ⊕ T :=
  (if decide (x9 < (↑(kids c.n c.line (c.line i.toNat).st).length : Int)) then (if (c.line ((kids c.n c.line (c.line i.toNat).st).getD x9.toNat 0).toNat).mass != shI (c.line i.toNat).mass (↑(kids c.n c.line (c.line i.toNat).st).length : Int) x9.toNat then (.inr ((T.int .i64 38))) else (.inl (.l1 (IntKind.i64.wrap (x9 + 1))))) else (.inr ((T.int .i64 0))))
noncomputable def K22_1 (c : Ct) (i : Int) (x9 : Int) : Bool :=
  (if decide (x9 < (↑(kids c.n c.line (c.line i.toNat).st).length : Int)) then (if (c.line ((kids c.n c.line (c.line i.toNat).st).getD x9.toNat 0).toNat).mass != shI (c.line i.toNat).mass (↑(kids c.n c.line (c.line i.toNat).st).length : Int) x9.toNat then (allT (g22_1_1 c i x9)) else (allT (g22_1_2 c i x9))) else (allT (g22_1_3 c i x9)))
theorem T22_1 (c : Ct) (i : Int) (x9 : Int) (hk : K22_1 c i x9 = true) : step22_1 c i x9 = some (V22_1 c i x9) :=
  (tree_if (tree_if tree_leaf tree_leaf) tree_leaf) hk
noncomputable def o22 (c : Ct) (i : Int) : Option (S22 ⊕ T) :=
  (if (c.line i.toNat).fate == 1 then (if (↑(kids c.n c.line (c.line i.toNat).st).length : Int) == 0 then (if allT (g22_s_1 c i) then some (.inr ((T.int .i64 10))) else none) else (if allT (g22_s_2 c i) then some (.inl (.l0 0)) else none)) else (if (c.line i.toNat).fate == 2 then (if (↑(kids c.n c.line (c.line i.toNat).st).length : Int) != 1 then (if allT (g22_s_3 c i) then some (.inr ((T.int .i64 10))) else none) else (if allT (g22_s_4 c i) then some (.inr ((T.int .i64 0))) else none)) else (if (c.line i.toNat).closed == 5 then (if (↑(kids c.n c.line (c.line i.toNat).st).length : Int) != 1 then (if allT (g22_s_5 c i) then some (.inr ((T.int .i64 10))) else none) else (if (↑(c.line ((kids c.n c.line (c.line i.toNat).st).getD 0 0).toNat).k : Int) != 1 then (if allT (g22_s_6 c i) then some (.inr ((T.int .i64 10))) else none) else (if !arr (c.line ((kids c.n c.line (c.line i.toNat).st).getD 0 0).toNat).st then (if allT (g22_s_7 c i) then some (.inr ((T.int .i64 10))) else none) else (if (c.line ((kids c.n c.line (c.line i.toNat).st).getD 0 0).toNat).mass != (c.line i.toNat).mass then (if allT (g22_s_8 c i) then some (.inr ((T.int .i64 38))) else none) else (if allT (g22_s_9 c i) then some (.inr ((T.int .i64 0))) else none))))) else (if decide ((↑(kids c.n c.line (c.line i.toNat).st).length : Int) > 0) then (if allT (g22_s_10 c i) then some (.inr ((T.int .i64 10))) else none) else (if allT (g22_s_11 c i) then some (.inr ((T.int .i64 0))) else none)))))
noncomputable def V22_s (c : Ct) (i : Int) : S22 ⊕ T :=
  (if (c.line i.toNat).fate == 1 then (if (↑(kids c.n c.line (c.line i.toNat).st).length : Int) == 0 then (.inr ((T.int .i64 10))) else (.inl (.l0 0))) else (if (c.line i.toNat).fate == 2 then (if (↑(kids c.n c.line (c.line i.toNat).st).length : Int) != 1 then (.inr ((T.int .i64 10))) else (.inr ((T.int .i64 0)))) else (if (c.line i.toNat).closed == 5 then (if (↑(kids c.n c.line (c.line i.toNat).st).length : Int) != 1 then (.inr ((T.int .i64 10))) else (if (↑(c.line ((kids c.n c.line (c.line i.toNat).st).getD 0 0).toNat).k : Int) != 1 then (.inr ((T.int .i64 10))) else (if !arr (c.line ((kids c.n c.line (c.line i.toNat).st).getD 0 0).toNat).st then (.inr ((T.int .i64 10))) else (if (c.line ((kids c.n c.line (c.line i.toNat).st).getD 0 0).toNat).mass != (c.line i.toNat).mass then (.inr ((T.int .i64 38))) else (.inr ((T.int .i64 0))))))) else (if decide ((↑(kids c.n c.line (c.line i.toNat).st).length : Int) > 0) then (.inr ((T.int .i64 10))) else (.inr ((T.int .i64 0)))))))
noncomputable def K22_s (c : Ct) (i : Int) : Bool :=
  (if (c.line i.toNat).fate == 1 then (if (↑(kids c.n c.line (c.line i.toNat).st).length : Int) == 0 then (allT (g22_s_1 c i)) else (allT (g22_s_2 c i))) else (if (c.line i.toNat).fate == 2 then (if (↑(kids c.n c.line (c.line i.toNat).st).length : Int) != 1 then (allT (g22_s_3 c i)) else (allT (g22_s_4 c i))) else (if (c.line i.toNat).closed == 5 then (if (↑(kids c.n c.line (c.line i.toNat).st).length : Int) != 1 then (allT (g22_s_5 c i)) else (if (↑(c.line ((kids c.n c.line (c.line i.toNat).st).getD 0 0).toNat).k : Int) != 1 then (allT (g22_s_6 c i)) else (if !arr (c.line ((kids c.n c.line (c.line i.toNat).st).getD 0 0).toNat).st then (allT (g22_s_7 c i)) else (if (c.line ((kids c.n c.line (c.line i.toNat).st).getD 0 0).toNat).mass != (c.line i.toNat).mass then (allT (g22_s_8 c i)) else (allT (g22_s_9 c i)))))) else (if decide ((↑(kids c.n c.line (c.line i.toNat).st).length : Int) > 0) then (allT (g22_s_10 c i)) else (allT (g22_s_11 c i))))))
theorem T22_s (c : Ct) (i : Int) (hk : K22_s c i = true) : o22 c i = some (V22_s c i) :=
  (tree_if (tree_if tree_leaf tree_leaf) (tree_if (tree_if tree_leaf tree_leaf) (tree_if (tree_if tree_leaf (tree_if tree_leaf (tree_if tree_leaf (tree_if tree_leaf tree_leaf)))) (tree_if tree_leaf tree_leaf)))) hk
noncomputable def step22 (c : Ct) (i : Int) : S22 → Option (S22 ⊕ T)
  | .l0 x7 => step22_0 c i x7
  | .l1 x9 => step22_1 c i x9
noncomputable def M22 (c : Ct) (i : Int) : Mch S22 where
  lp := fun σ => match σ with
    | .l0 .. => 0
    | .l1 .. => 1
  keep := fun ι => match ι with
    | 0 => [2, 5, 6, 7]
    | 1 => [2, 6, 8, 9]
    | _ => []
  par := fun ι => match ι with
    | 0 => []
    | 1 => []
    | _ => []
  vs := fun σ => match σ with
    | .l0 x7 => [(ctT c).ref 0, (lnT (c.line i.toNat)).ref 0, T.slf false (kids c.n c.line (c.line i.toNat).st).length fun j => T.int .i64 ((kids c.n c.line (c.line i.toNat).st).getD j 0), T.int .i64 x7]
    | .l1 x9 => [(ctT c).ref 0, T.slf false (kids c.n c.line (c.line i.toNat).st).length fun j => T.int .i64 ((kids c.n c.line (c.line i.toNat).st).getD j 0), T.slf false (shN (c.line i.toNat).mass (↑(kids c.n c.line (c.line i.toNat).st).length : Int)) fun i_1 => T.int .i64 (shI (c.line i.toNat).mass (↑(kids c.n c.line (c.line i.toNat).st).length : Int) i_1), T.int .i64 x9]
  hp := fun σ => match σ with
    | .l0 _ => ⟨0, []⟩
    | .l1 _ => ⟨0, []⟩
  len := 122
  step := step22 c i
theorem ways22 (c : Ct) (i : Int) : (M22 c i).Ways prog D15 F0 f22 20 := by
  intro σ o fr h
  cases σ with
  | l0 x7 =>
    change step22_0 c i x7 = some o at h
    exact (ways_if (ways_if (ways_leaf fun hk => ⟨2000, _, _, _, _, _, _, w22_0_1 c i x7 fr, hk⟩) (ways_leaf fun hk => .inl ⟨2000, _, _, _, w22_0_2 c i x7 fr, hk, rfl⟩)) (ways_leaf fun hk => .inr ⟨2000, _, _, _, w22_0_3 c i x7 fr, hk, rfl⟩)) o h
  | l1 x9 =>
    change step22_1 c i x9 = some o at h
    exact (ways_if (ways_if (ways_leaf fun hk => ⟨2000, _, _, _, _, _, _, w22_1_1 c i x9 fr, hk⟩) (ways_leaf fun hk => .inl ⟨2000, _, _, _, w22_1_2 c i x9 fr, hk, rfl⟩)) (ways_leaf fun hk => ⟨2000, _, _, _, _, _, _, w22_1_3 c i x9 fr, hk⟩)) o h
theorem oks22 (c : Ct) (i : Int) : ∀ σ, codeOk (loopAt f22 ((M22 c i).lp σ)).1 = true ∧ ksOk (.lp :: (loopAt f22 ((M22 c i).lp σ)).2) = true := by
  intro σ
  cases σ
  · exact ⟨(show codeOk (loopAt f22 0).1 = true by kernel_rfl), (show ksOk (.lp :: (loopAt f22 0).2) = true by kernel_rfl)⟩
  · exact ⟨(show codeOk (loopAt f22 1).1 = true by kernel_rfl), (show ksOk (.lp :: (loopAt f22 1).2) = true by kernel_rfl)⟩
theorem run22 (c : Ct) (i : Int) {n : Nat} {o : S22 ⊕ T} {r : T} (h : o22 c i = some o) (hr : (M22 c i).fin n o = some r) : PureFn prog gl 22 [ctT c, .int .i64 i] r := by
  refine pure_mach (M := (M22 c i)) (fn := f22) (k := 20) (d := 8) (c := bodyOf f22) cx15 glFrz (by kernel_rfl) func22 (by kernel_rfl) rfl (by kernel_rfl) (by kernel_rfl) (L := 120) (by kernel_rfl) (ways22 c i) (oks22 c i) ?_ hr
  exact (ways_if (ways_if (ways_leaf fun hk => ⟨2000, _, _, _, _, _, _, w22_s_1 c i, hk⟩) (ways_leaf fun hk => .inr ⟨2000, _, _, _, w22_s_2 c i, hk, rfl⟩)) (ways_if (ways_if (ways_leaf fun hk => ⟨2000, _, _, _, _, _, _, w22_s_3 c i, hk⟩) (ways_leaf fun hk => ⟨2000, _, _, _, _, _, _, w22_s_4 c i, hk⟩)) (ways_if (ways_if (ways_leaf fun hk => ⟨2000, _, _, _, _, _, _, w22_s_5 c i, hk⟩) (ways_if (ways_leaf fun hk => ⟨2000, _, _, _, _, _, _, w22_s_6 c i, hk⟩) (ways_if (ways_leaf fun hk => ⟨2000, _, _, _, _, _, _, w22_s_7 c i, hk⟩) (ways_if (ways_leaf fun hk => ⟨2000, _, _, _, _, _, _, w22_s_8 c i, hk⟩) (ways_leaf fun hk => ⟨2000, _, _, _, _, _, _, w22_s_9 c i, hk⟩))))) (ways_if (ways_leaf fun hk => ⟨2000, _, _, _, _, _, _, w22_s_10 c i, hk⟩) (ways_leaf fun hk => ⟨2000, _, _, _, _, _, _, w22_s_11 c i, hk⟩))))) o h
theorem c22 (c : Ct) (i : Int) (n : Nat) {r : T} (hk : K22_s c i = true) (hr : (M22 c i).fin n (V22_s c i) = some r) : PureFn prog gl 22 [ctT c, .int .i64 i] r := run22 c i (T22_s c i hk) hr
end Go.Proofs.Tryd

/- The fourth rule of the law: proved. -/
namespace Go.Proofs
open Go.Ps
set_option maxRecDepth 100000
set_option linter.unusedSimpArgs false
set_option linter.unusedSectionVars false

theorem Tryd.kidR_mem (f : Nat → Ln) (s : Sp) (i : Nat) (B : Int) (hB : (i : Int) < B) : ∀ (q k : Nat) (xs : List Int), (∀ z ∈ xs, 0 ≤ z ∧ z < B) → ∀ z ∈ Tryd.kidR f s i q k xs, 0 ≤ z ∧ z < B
  | 0, _, xs, h => h
  | q + 1, k, xs, h => by
    unfold Tryd.kidR
    refine Tryd.kidR_mem f s i B hB q (k + 1) _ ?_
    intro z hz
    split at hz
    · rcases List.mem_append.1 hz with hz | hz
      · exact h z hz
      · simp at hz; omega
    · exact h z hz
theorem Tryd.kidO_mem (f : Nat → Ln) (s : Sp) (B : Int) : ∀ (q i : Nat) (xs : List Int), ((q + i : Nat) : Int) ≤ B → (∀ z ∈ xs, 0 ≤ z ∧ z < B) → ∀ z ∈ Tryd.kidO f s q i xs, 0 ≤ z ∧ z < B
  | 0, _, xs, _, h => h
  | q + 1, i, xs, hb, h => by
    unfold Tryd.kidO
    exact Tryd.kidO_mem f s B q (i + 1) _ (by omega) (Tryd.kidR_mem f s i B (by omega) _ _ _ h)
theorem Tryd.kids_mem (m : Nat) (f : Nat → Ln) (s : Sp) (z : Int) (h : z ∈ Tryd.kids m f s) : 0 ≤ z ∧ z < m :=
  Tryd.kidO_mem f s m m 0 [] (by omega) (by simp) z h
theorem Tryd.kids_getD (m : Nat) (f : Nat → Ln) (s : Sp) (j : Nat) (h : j < (Tryd.kids m f s).length) : 0 ≤ (Tryd.kids m f s).getD j 0 ∧ (Tryd.kids m f s).getD j 0 < m := by
  rw [List.getD_eq_getElem?_getD, List.getElem?_eq_getElem h]
  exact Tryd.kids_mem m f s _ (List.getElem_mem h)
theorem Tryd.kidR_len (f : Nat → Ln) (s : Sp) (i : Nat) : ∀ (q k : Nat) (xs : List Int), (Tryd.kidR f s i q k xs).length ≤ xs.length + q
  | 0, _, xs => by simp [Tryd.kidR]
  | q + 1, k, xs => by
    unfold Tryd.kidR
    have := Tryd.kidR_len f s i q (k + 1) (if Tryd.eqS ((f i).from_ k) s then xs ++ [(i : Int)] else xs)
    split at this
    · rename_i h; rw [if_pos h]; simp at this; omega
    · rename_i h; rw [if_neg h]; omega
theorem Tryd.kidO_len (f : Nat → Ln) (s : Sp) (m : Nat) (hs : Tryd.smallL m f) : ∀ (q i : Nat) (xs : List Int), q + i = m → (Tryd.kidO f s q i xs).length ≤ xs.length + 10 * q
  | 0, _, xs, _ => by simp [Tryd.kidO]
  | q + 1, i, xs, h => by
    unfold Tryd.kidO
    have h1 := Tryd.kidO_len f s m hs q (i + 1) (Tryd.kidR f s i (f i).k 0 xs) (by omega)
    have h2 := Tryd.kidR_len f s i (f i).k 0 xs
    have h3 := (hs.2 i (by omega)).1
    omega
theorem Tryd.kids_len (f : Nat → Ln) (s : Sp) (m : Nat) (hs : Tryd.smallL m f) : (Tryd.kids m f s).length ≤ 300 := by
  have := Tryd.kidO_len f s m hs m 0 [] (by omega)
  have := hs.1
  unfold Tryd.kids
  simp at *
  omega

theorem Tryd.fin_if {S : Type} {M : Mch S} {n : Nat} {a : Bool} {x y : S ⊕ T} {r : Option T} (h : a = true → M.fin n x = r) (h' : a = false → M.fin n y = r) : M.fin n (if a = true then x else y) = r := by
  cases a
  · exact h' rfl
  · exact h rfl
/-- The fourth rule at a line with these children. -/
def Tryd.fo (ks : List Int) (c : Ct) (x : Ln) : Int :=
  if x.fate = 1 then (if ks.length = 0 then 10 else if Tryd.exR (fun j => ((c.line (ks.getD j 0).toNat).k : Int) != 1) ks.length 0 then 10 else if Tryd.exR (fun j => (c.line (ks.getD j 0).toNat).mass != Tryd.shI x.mass ks.length j) ks.length 0 then 38 else 0)
  else if x.fate = 2 then (if ks.length ≠ 1 then 10 else 0)
  else if x.closed = 5 then (if ks.length ≠ 1 ∨ (c.line (ks.getD 0 0).toNat).k ≠ 1 ∨ Tryd.arr (c.line (ks.getD 0 0).toNat).st = false then 10 else if (c.line (ks.getD 0 0).toNat).mass ≠ x.mass then 38 else 0)
  else if ks.length > 0 then 10 else 0

section
variable (c : Ct) (hs : Tryd.small c) (i : Nat) (hi : i < c.n)
include hs hi
abbrev Tryd.kl (c : Ct) (i : Nat) : List Int := Tryd.kids c.n c.line (c.line i).st

theorem Tryd.st22_0 (k : Nat) (hk : k < (Tryd.kl c i).length) : (Tryd.M22 c i).step (.l0 k) = some (if ((c.line ((Tryd.kl c i).getD k 0).toNat).k : Int) != 1 then .inr (.int .i64 10) else .inl (.l0 (k + 1 : Nat))) := by
  show Tryd.step22_0 c i k = _
  have hlen := Tryd.kids_len c.line (c.line i).st c.n hs
  obtain ⟨h1, h2⟩ := Tryd.kids_getD c.n c.line (c.line i).st k hk
  have b2 : decide ((k : Int) < ((Tryd.kl c i).length : Nat)) = true := decide_eq_true (by omega)
  have b3 : decide ((0 : Int) ≤ k) = true := decide_eq_true (by omega)
  have b4 := decide_eq_true h1
  have b5 := decide_eq_true h2
  have b6 := Tryd.wsucc k (by unfold Tryd.kl at hk; omega)
  rw [Tryd.T22_0 c i k ?_]
  · congr 1
    unfold Tryd.V22_0
    simp only [Int.toNat_natCast]
    rw [if_pos b2, b6]
  · unfold Tryd.K22_0
    simp only [Int.toNat_natCast]
    rw [if_pos b2]
    refine Tryd.tree_eq (fun e => ?_) (fun e => ?_)
    all_goals (simp only [Tryd.g22_0_1, Tryd.g22_0_2, Tryd.g22_0_3, Int.toNat_natCast] at *; simp only [e, allT, isV_self, b2, b3, b4, b5, Bool.not_false, Bool.and_true])

theorem Tryd.st22_0e : (Tryd.M22 c i).step (.l0 ((Tryd.kl c i).length : Nat)) = some (.inl (.l1 (0 : Nat))) := by
  show Tryd.step22_0 c i (Tryd.kl c i).length = _
  rw [Tryd.T22_0 c i (Tryd.kl c i).length (by unfold Tryd.K22_0; simp only [Int.toNat_natCast]; rw [if_neg (by simp)]; simp [Tryd.g22_0_1, Tryd.g22_0_2, Tryd.g22_0_3, allT])]
  unfold Tryd.V22_0
  simp only [Int.toNat_natCast]
  rw [if_neg (by simp)]
  rfl

theorem Tryd.st22_1 (hm : 0 ≤ (c.line i).mass) (k : Nat) (hk : k < (Tryd.kl c i).length) : (Tryd.M22 c i).step (.l1 k) = some (if (c.line ((Tryd.kl c i).getD k 0).toNat).mass != Tryd.shI (c.line i).mass (Tryd.kl c i).length k then .inr (.int .i64 38) else .inl (.l1 (k + 1 : Nat))) := by
  show Tryd.step22_1 c i k = _
  have hlen := Tryd.kids_len c.line (c.line i).st c.n hs
  obtain ⟨h1, h2⟩ := Tryd.kids_getD c.n c.line (c.line i).st k hk
  have b2 : decide ((k : Int) < ((Tryd.kl c i).length : Nat)) = true := decide_eq_true (by omega)
  have b3 : decide ((0 : Int) ≤ k) = true := decide_eq_true (by omega)
  have b4 := decide_eq_true h1
  have b5 := decide_eq_true h2
  have b6 := Tryd.wsucc k (by unfold Tryd.kl at hk; omega)
  have hsh : Tryd.shN (c.line i).mass (Tryd.kl c i).length = (Tryd.kl c i).length := by
    unfold Tryd.shN
    rw [if_neg (by unfold Tryd.kl at *; omega)]
    omega
  have b7 : decide ((k : Int) < (Tryd.shN (c.line i).mass (Tryd.kl c i).length : Nat)) = true := decide_eq_true (by rw [hsh]; omega)
  rw [Tryd.T22_1 c i k ?_]
  · congr 1
    unfold Tryd.V22_1
    simp only [Int.toNat_natCast]
    rw [if_pos b2, b6]
  · unfold Tryd.K22_1
    simp only [Int.toNat_natCast]
    rw [if_pos b2]
    refine Tryd.tree_eq (fun e => ?_) (fun e => ?_)
    all_goals (simp only [Tryd.g22_1_1, Tryd.g22_1_2, Tryd.g22_1_3, Int.toNat_natCast] at *; simp only [e, allT, isV_self, b2, b3, b4, b5, b7, Bool.not_false, Bool.and_true])

theorem Tryd.st22_1e : (Tryd.M22 c i).step (.l1 ((Tryd.kl c i).length : Nat)) = some (.inr (.int .i64 0)) := by
  show Tryd.step22_1 c i (Tryd.kl c i).length = _
  rw [Tryd.T22_1 c i (Tryd.kl c i).length (by unfold Tryd.K22_1; simp only [Int.toNat_natCast]; rw [if_neg (by simp)]; simp [Tryd.g22_1_1, Tryd.g22_1_2, Tryd.g22_1_3, allT])]
  unfold Tryd.V22_1
  simp only [Int.toNat_natCast]
  rw [if_neg (by simp)]

theorem Tryd.K22_ok : Tryd.K22_s c i = true := by
  have hlen := Tryd.kids_len c.line (c.line i).st c.n hs
  have hsl : Tryd.smallLB c.n c.line = true := Tryd.smallLB_iff.2 hs
  have b3 : decide ((0 : Int) ≤ i) = true := decide_eq_true (by omega)
  have b4 : decide ((i : Int) < c.n) = true := decide_eq_true (by omega)
  by_cases h1 : (Tryd.kl c i).length = 1
  · obtain ⟨q1, q2⟩ := Tryd.kids_getD c.n c.line (c.line i).st 0 (by unfold Tryd.kl at h1; omega)
    have b5 := decide_eq_true q1
    have b6 := decide_eq_true q2
    have b7 : decide ((0 : Int) < ((Tryd.kl c i).length : Nat)) = true := decide_eq_true (by omega)
    unfold Tryd.K22_s
    repeat' (refine Tryd.tree_eq (fun _ => ?_) (fun _ => ?_))
    all_goals (simp only [Tryd.g22_s_1, Tryd.g22_s_2, Tryd.g22_s_3, Tryd.g22_s_4, Tryd.g22_s_5, Tryd.g22_s_6, Tryd.g22_s_7, Tryd.g22_s_8, Tryd.g22_s_9, Tryd.g22_s_10, Tryd.g22_s_11, Int.toNat_natCast] at *; first | (simp only [*, allT, lsT, isV_self, decide_true, Bool.not_false, Bool.not_true, Bool.and_true]; done) | simp_all [allT, lsT])
  · have h1' : ((((Tryd.kl c i).length : Nat) : Int) != 1) = true := by simp; omega
    unfold Tryd.K22_s
    repeat' (refine Tryd.tree_eq (fun _ => ?_) (fun _ => ?_))
    all_goals (simp only [Tryd.g22_s_1, Tryd.g22_s_2, Tryd.g22_s_3, Tryd.g22_s_4, Tryd.g22_s_5, Tryd.g22_s_6, Tryd.g22_s_7, Tryd.g22_s_8, Tryd.g22_s_9, Tryd.g22_s_10, Tryd.g22_s_11, Int.toNat_natCast] at *; first | (simp only [*, allT, lsT, isV_self, decide_true, Bool.not_false, Bool.not_true, Bool.and_true]; done) | simp_all [allT, lsT])

theorem Tryd.fourth_ok (hm : 0 ≤ (c.line i).mass) : PureFn Tryd.prog Tryd.gl 22 [ctT c, .int .i64 i] (.int .i64 (Tryd.fo (Tryd.kl c i) c (c.line i))) := by
  have h2 : ∀ (q k : Nat), q + k = (Tryd.kl c i).length → Tryd.Runs (Tryd.M22 c i) (.l1 k) (.int .i64 (if Tryd.exR (fun j => (c.line ((Tryd.kl c i).getD j 0).toNat).mass != Tryd.shI (c.line i).mass (Tryd.kl c i).length j) q k then 38 else 0)) := by
    intro q
    induction q with
    | zero =>
      intro k hk
      have : k = (Tryd.kl c i).length := by omega
      subst this
      exact .done (Tryd.st22_1e c hs i hi)
    | succ q ih =>
      intro k hk
      have hst := Tryd.st22_1 c hs i hi hm k (by omega)
      rw [Tryd.exR.eq_2]
      cases h : ((c.line ((Tryd.kl c i).getD k 0).toNat).mass != Tryd.shI (c.line i).mass (Tryd.kl c i).length k)
      · rw [h] at hst; exact .next hst (ih (k + 1) (by omega))
      · rw [h] at hst; exact .done hst
  have h1 : ∀ (q k : Nat), q + k = (Tryd.kl c i).length → Tryd.Runs (Tryd.M22 c i) (.l0 k) (.int .i64 (if Tryd.exR (fun j => ((c.line ((Tryd.kl c i).getD j 0).toNat).k : Int) != 1) q k then 10 else if Tryd.exR (fun j => (c.line ((Tryd.kl c i).getD j 0).toNat).mass != Tryd.shI (c.line i).mass (Tryd.kl c i).length j) (Tryd.kl c i).length 0 then 38 else 0)) := by
    intro q
    induction q with
    | zero =>
      intro k hk
      have : k = (Tryd.kl c i).length := by omega
      subst this
      exact .next (Tryd.st22_0e c hs i hi) (h2 (Tryd.kl c i).length 0 (by omega))
    | succ q ih =>
      intro k hk
      have hst := Tryd.st22_0 c hs i hi k (by omega)
      rw [Tryd.exR.eq_2]
      cases h : (((c.line ((Tryd.kl c i).getD k 0).toNat).k : Int) != 1)
      · rw [h] at hst; exact .next hst (ih (k + 1) (by omega))
      · rw [h] at hst; exact .done hst
  obtain ⟨n, hn⟩ := h1 (Tryd.kl c i).length 0 (by omega)
  refine Tryd.c22 c i n (Tryd.K22_ok c hs i hi) ?_
  unfold Tryd.V22_s
  simp only [Int.toNat_natCast]
  refine Tryd.fin_if (fun e1 => ?_) (fun e1 => ?_)
  · have e1' : (c.line i).fate = 1 := by simpa using e1
    refine Tryd.fin_if (fun e2 => ?_) (fun e2 => ?_)
    · have : (Tryd.kl c i).length = 0 := by simpa using e2
      simp only [reduceIte, Mch.fin_inr, Tryd.fo, e1', this]
    · have : ¬ (Tryd.kl c i).length = 0 := by simpa using e2
      have hfo : Tryd.fo (Tryd.kl c i) c (c.line i) = (if Tryd.exR (fun j => ((c.line ((Tryd.kl c i).getD j 0).toNat).k : Int) != 1) (Tryd.kl c i).length 0 then 10 else if Tryd.exR (fun j => (c.line ((Tryd.kl c i).getD j 0).toNat).mass != Tryd.shI (c.line i).mass (Tryd.kl c i).length j) (Tryd.kl c i).length 0 then 38 else 0) := by
        unfold Tryd.fo
        rw [if_pos e1', if_neg this]
      rw [hfo]
      exact hn
  · have e1' : ¬ (c.line i).fate = 1 := by simpa using e1
    repeat' (refine Tryd.fin_if (fun _ => ?_) (fun _ => ?_))
    all_goals (simp only [Mch.fin_inr, Option.some.injEq, T.int.injEq, true_and]; unfold Tryd.fo Tryd.kl; grind)
end
end Go.Proofs

/- The contracts of the law's rules. -/
namespace Go.Proofs
open Go.Ps
noncomputable def Tryd.pB (p : Prop) : Bool := @decide p (Classical.propDecidable _)
theorem Tryd.pB_iff {p : Prop} : Tryd.pB p = true ↔ p := by unfold Tryd.pB; simp
/-- All parents are found, as the law finds. -/
def Tryd.allFl (c : Ct) : Prop := ∀ i, i < c.n → ∀ k, k < (c.line i).k → Tryd.fl c ((c.line i).from_ k) = true
theorem Tryd.allFl_linked {c : Ct} (h : Tryd.allFl c) : Tryd.linked (Tryd.al c) c := by
  intro i hi k hk
  have h1 := h i hi k hk
  unfold Tryd.fl at h1
  unfold Tryd.al
  simp only [Bool.not_eq_true', decide_eq_false_iff_not] at h1
  rcases Tryd.idx_found c.n (fun j => Tryd.eqS (c.line j).st ((c.line i).from_ k)) with ⟨e, _⟩ | ⟨j, hj, _, _, e⟩
  · rw [e] at h1; omega
  · rw [e]; simpa using hj

noncomputable def Tryd.s20 : List T → Option (T × List Bool)
  | [t, .int .i64 i] => some (.int .i64 (Tryd.fe (ctv t) i.toNat), [isV t (ctT (ctv t)), Tryd.pB (Tryd.small (ctv t)), decide (0 ≤ i), decide (i < (ctv t).n)])
  | _ => none
noncomputable def Tryd.s21 : List T → Option (T × List Bool)
  | [t, .int .i64 i] => some (.int .i64 (Tryd.te (Tryd.fl (ctv t)) (ctv t) i.toNat), [isV t (ctT (ctv t)), Tryd.pB (Tryd.small (ctv t)), decide (0 ≤ i), decide (i < (ctv t).n)])
  | _ => none
noncomputable def Tryd.s22 : List T → Option (T × List Bool)
  | [t, .int .i64 i] => some (.int .i64 (Tryd.fo (Tryd.kl (ctv t) i.toNat) (ctv t) ((ctv t).line i.toNat)), [isV t (ctT (ctv t)), Tryd.pB (Tryd.small (ctv t)), decide (0 ≤ i), decide (i < (ctv t).n), decide (0 ≤ ((ctv t).line i.toNat).mass)])
  | _ => none
noncomputable def Tryd.s23 : List T → Option (T × List Bool)
  | [t, .int .i64 i] => some (.int .i64 (Tryd.me (Tryd.al (ctv t)) (ctv t) i.toNat), [isV t (ctT (ctv t)), Tryd.pB (Tryd.small (ctv t)), decide (0 ≤ i), decide (i < (ctv t).n), Tryd.pB (Tryd.allFl (ctv t))])
  | _ => none
noncomputable def Tryd.s24 : List T → Option (T × List Bool)
  | [t] => some (ctT (Tryd.ltot (ctv t)), [isV t (ctT (ctv t)), decide ((ctv t).n ≤ 281474976710656)])
  | _ => none

theorem Tryd.cast_toNat {i : Int} (h : 0 ≤ i) : ((i.toNat : Nat) : Int) = i := by omega
theorem Tryd.s20_ok (ts : List T) (r : T) (cs : List Bool) (h : Tryd.s20 ts = some (r, cs)) (k : allT cs = true) : PureFn Tryd.prog Tryd.gl 20 ts r := by
  unfold Tryd.s20 at h; split at h
  · rename_i t i
    cases h
    simp only [allT, Bool.and_true, Bool.and_eq_true, isV_iff, Tryd.pB_iff, decide_eq_true_eq] at k
    have := Tryd.second_ok (ctv t) i.toNat (by omega) k.2.1
    rw [Tryd.cast_toNat k.2.2.1] at this
    rw [k.1]; exact this
  · cases h
theorem Tryd.s21_ok (ts : List T) (r : T) (cs : List Bool) (h : Tryd.s21 ts = some (r, cs)) (k : allT cs = true) : PureFn Tryd.prog Tryd.gl 21 ts r := by
  unfold Tryd.s21 at h; split at h
  · rename_i t i
    cases h
    simp only [allT, Bool.and_true, Bool.and_eq_true, isV_iff, Tryd.pB_iff, decide_eq_true_eq] at k
    have := Tryd.third_ok (ctv t) k.2.1 i.toNat (by omega)
    rw [Tryd.cast_toNat k.2.2.1] at this
    rw [k.1]; exact this
  · cases h
theorem Tryd.s22_ok (ts : List T) (r : T) (cs : List Bool) (h : Tryd.s22 ts = some (r, cs)) (k : allT cs = true) : PureFn Tryd.prog Tryd.gl 22 ts r := by
  unfold Tryd.s22 at h; split at h
  · rename_i t i
    cases h
    simp only [allT, Bool.and_true, Bool.and_eq_true, isV_iff, Tryd.pB_iff, decide_eq_true_eq] at k
    have := Tryd.fourth_ok (ctv t) k.2.1 i.toNat (by omega) k.2.2.2.2
    rw [Tryd.cast_toNat k.2.2.1] at this
    rw [k.1]; exact this
  · cases h
theorem Tryd.s23_ok (ts : List T) (r : T) (cs : List Bool) (h : Tryd.s23 ts = some (r, cs)) (k : allT cs = true) : PureFn Tryd.prog Tryd.gl 23 ts r := by
  unfold Tryd.s23 at h; split at h
  · rename_i t i
    cases h
    simp only [allT, Bool.and_true, Bool.and_eq_true, isV_iff, Tryd.pB_iff, decide_eq_true_eq] at k
    have := Tryd.fifth_ok (ctv t) k.2.1 (Tryd.allFl_linked k.2.2.2.2) k.2.2.2.2 i.toNat (by omega)
    rw [Tryd.cast_toNat k.2.2.1] at this
    rw [k.1]; exact this
  · cases h
theorem Tryd.s24_ok (ts : List T) (r : T) (cs : List Bool) (h : Tryd.s24 ts = some (r, cs)) (k : allT cs = true) : PureFn Tryd.prog Tryd.gl 24 ts r := by
  unfold Tryd.s24 at h; split at h
  · rename_i t
    cases h
    simp only [allT, Bool.and_true, Bool.and_eq_true, isV_iff, decide_eq_true_eq] at k
    rw [k.1]; exact Tryd.ltotals_ok _ k.2
  · cases h
noncomputable def Tryd.D16 : Ed := ⟨Tryd.gl, pdAdd 20 Tryd.s20 (pdAdd 21 Tryd.s21 (pdAdd 22 Tryd.s22 (pdAdd 23 Tryd.s23 (pdAdd 24 Tryd.s24 Tryd.D15.pd))))⟩
theorem Tryd.cx16 : Cx Tryd.prog Tryd.D16 Tryd.F0 := ⟨Tryd.follows, pdAdd_ok (pdAdd_ok (pdAdd_ok (pdAdd_ok (pdAdd_ok Tryd.cx15.hE Tryd.s24_ok) Tryd.s23_ok) Tryd.s22_ok) Tryd.s21_ok) Tryd.s20_ok, Tryd.F0ok⟩
end Go.Proofs

/- check of the law as a machine, by program (gen2). -/
namespace Go.Proofs.Tryd
open Go.Ps
set_option maxRecDepth 100000
set_option linter.unusedVariables false
set_option linter.unusedSimpArgs false

/-! ### 11 -/
inductive S11 where
  | l0 (x3 : Int)
  | l1 (x3 : Int) (x4 : Int)
  | l2 (x6 : Int) (x7 : Int)
noncomputable def g11_s_1 (c : Ct) : List Bool := [true, decide (c.entries < 0), decide (c.entries < 0), decide (c.entries < 0), decide (c.entries < 0)]
theorem w11_s_1 (c : Ct) : outK prog f11 20 [] (runK prog D16 F0 2000 (.code (bodyOf f11)) [] 0 ([ctT c] ++ List.replicate 104 undefT) ⟨0, []⟩ (bt 5 31) [])
    = some (OutT.done (some (T.int .i64 2)), g11_s_1 c, { next := 0, objs := [] }, [], 0) := by kernel_rfl
noncomputable def g11_s_2 (c : Ct) : List Bool := [decide (c.entries > 1048576), !decide (c.entries < 0), !decide (c.entries < 0), !decide (c.entries < 0), !decide (c.entries < 0)]
theorem w11_s_2 (c : Ct) : outK prog f11 20 [] (runK prog D16 F0 2000 (.code (bodyOf f11)) [] 0 ([ctT c] ++ List.replicate 104 undefT) ⟨0, []⟩ (bt 5 16) [])
    = some (OutT.done (some (T.int .i64 2)), g11_s_2 c, { next := 0, objs := [] }, [], 0) := by kernel_rfl
noncomputable def g11_s_3 (c : Ct) : List Bool := [decide ((↑c.n : Int) > 65536), !decide (c.entries > 1048576), !decide (c.entries < 0), !decide (c.entries < 0), !decide (c.entries < 0), !decide (c.entries < 0)]
theorem w11_s_3 (c : Ct) : outK prog f11 20 [] (runK prog D16 F0 2000 (.code (bodyOf f11)) [] 0 ([ctT c] ++ List.replicate 104 undefT) ⟨0, []⟩ (bt 6 32) [])
    = some (OutT.done (some (T.int .i64 9)), g11_s_3 c, { next := 0, objs := [] }, [], 0) := by kernel_rfl
noncomputable def g11_s_4 (c : Ct) : List Bool := [!decide ((↑c.n : Int) > 65536), !decide (c.entries > 1048576), !decide (c.entries < 0), !decide (c.entries < 0), !decide (c.entries < 0), !decide (c.entries < 0)]
theorem w11_s_4 (c : Ct) : outK prog f11 20 [1, 3] (runK prog D16 F0 2000 (.code (bodyOf f11)) [] 0 ([ctT c] ++ List.replicate 104 undefT) ⟨0, []⟩ (bt 6 0) [])
    = some (OutT.loop 0 (loopAt f11 0).1 (loopAt f11 0).2, g11_s_4 c, { next := 0, objs := [] }, [(ctT c).ref 0, T.int .i64 2], 105) := by kernel_rfl
noncomputable def g11_0_1 (c : Ct) (x3 : Int) : List Bool := [decide (x3 ≤ 5)]
theorem w11_0_1 (c : Ct) (x3 : Int) (fr : List T) : outK prog f11 20 [1, 3, 4] (runK prog D16 F0 2000 (.code (loopAt f11 0).1) (.lp :: (loopAt f11 0).2) 0 (frK [1, 3] [(ctT c).ref 0, T.int .i64 x3] fr 105) ⟨0, []⟩ [true] [])
    = some (OutT.loop 0 (loopAt f11 1).1 (loopAt f11 1).2, g11_0_1 c x3, { next := 0, objs := [] }, [(ctT c).ref 0, T.int .i64 x3, T.int .i64 0], 105) := by kernel_rfl
noncomputable def g11_0_2 (c : Ct) (x3 : Int) : List Bool := [!decide (x3 ≤ 5)]
theorem w11_0_2 (c : Ct) (x3 : Int) (fr : List T) : outK prog f11 20 [1, 6, 7] (runK prog D16 F0 2000 (.code (loopAt f11 0).1) (.lp :: (loopAt f11 0).2) 0 (frK [1, 3] [(ctT c).ref 0, T.int .i64 x3] fr 105) ⟨0, []⟩ [false] [])
    = some (OutT.loop 1 (loopAt f11 2).1 (loopAt f11 2).2, g11_0_2 c x3, { next := 0, objs := [] }, [(ctT c).ref 0, T.int .i64 0, T.int .i64 0], 105) := by kernel_rfl
noncomputable def g11_1_1 (c : Ct) (x3 : Int) (x4 : Int) : List Bool := [fe c x4.toNat != 0, isV (ctT c) (ctT c), pB (small c), decide (0 ≤ x4), decide (x4 < (↑c.n : Int)), x3 == 2, decide (x4 < (↑c.n : Int))]
theorem w11_1_1 (c : Ct) (x3 : Int) (x4 : Int) (fr : List T) : outK prog f11 20 [] (runK prog D16 F0 2000 (.code (loopAt f11 1).1) (.lp :: (loopAt f11 1).2) 0 (frK [1, 3, 4] [(ctT c).ref 0, T.int .i64 x3, T.int .i64 x4] fr 105) ⟨0, []⟩ [true, true, true] [])
    = some (OutT.done (some (T.int .i64 (fe c x4.toNat))), g11_1_1 c x3 x4, { next := 0, objs := [] }, [], 0) := by kernel_rfl
noncomputable def g11_1_2 (c : Ct) (x3 : Int) (x4 : Int) : List Bool := [!fe c x4.toNat != 0, isV (ctT c) (ctT c), pB (small c), decide (0 ≤ x4), decide (x4 < (↑c.n : Int)), x3 == 2, decide (x4 < (↑c.n : Int))]
theorem w11_1_2 (c : Ct) (x3 : Int) (x4 : Int) (fr : List T) : outK prog f11 20 [1, 3, 4] (runK prog D16 F0 2000 (.code (loopAt f11 1).1) (.lp :: (loopAt f11 1).2) 0 (frK [1, 3, 4] [(ctT c).ref 0, T.int .i64 x3, T.int .i64 x4] fr 105) ⟨0, []⟩ [true, true, false] [])
    = some (OutT.again 0, g11_1_2 c x3 x4, { next := 0, objs := [] }, [(ctT c).ref 0, T.int .i64 x3, T.int .i64 (IntKind.i64.wrap (x4 + 1))], 105) := by kernel_rfl
noncomputable def g11_1_3 (c : Ct) (x3 : Int) (x4 : Int) : List Bool := [te (fl c) c x4.toNat != 0, isV (ctT c) (ctT c), pB (small c), decide (0 ≤ x4), decide (x4 < (↑c.n : Int)), x3 == 3, !x3 == 2, decide (x4 < (↑c.n : Int))]
theorem w11_1_3 (c : Ct) (x3 : Int) (x4 : Int) (fr : List T) : outK prog f11 20 [] (runK prog D16 F0 2000 (.code (loopAt f11 1).1) (.lp :: (loopAt f11 1).2) 0 (frK [1, 3, 4] [(ctT c).ref 0, T.int .i64 x3, T.int .i64 x4] fr 105) ⟨0, []⟩ (bt 4 13) [])
    = some (OutT.done (some (T.int .i64 (te (fl c) c x4.toNat))), g11_1_3 c x3 x4, { next := 0, objs := [] }, [], 0) := by kernel_rfl
noncomputable def g11_1_4 (c : Ct) (x3 : Int) (x4 : Int) : List Bool := [!te (fl c) c x4.toNat != 0, isV (ctT c) (ctT c), pB (small c), decide (0 ≤ x4), decide (x4 < (↑c.n : Int)), x3 == 3, !x3 == 2, decide (x4 < (↑c.n : Int))]
theorem w11_1_4 (c : Ct) (x3 : Int) (x4 : Int) (fr : List T) : outK prog f11 20 [1, 3, 4] (runK prog D16 F0 2000 (.code (loopAt f11 1).1) (.lp :: (loopAt f11 1).2) 0 (frK [1, 3, 4] [(ctT c).ref 0, T.int .i64 x3, T.int .i64 x4] fr 105) ⟨0, []⟩ (bt 4 5) [])
    = some (OutT.again 0, g11_1_4 c x3 x4, { next := 0, objs := [] }, [(ctT c).ref 0, T.int .i64 x3, T.int .i64 (IntKind.i64.wrap (x4 + 1))], 105) := by kernel_rfl
noncomputable def g11_1_5 (c : Ct) (x3 : Int) (x4 : Int) : List Bool := [fo (kl c x4.toNat) c (c.line x4.toNat) != 0, isV (ctT c) (ctT c), pB (small c), decide (0 ≤ x4), decide (x4 < (↑c.n : Int)), decide (0 ≤ (c.line x4.toNat).mass), x3 == 4, !x3 == 3, !x3 == 2, decide (x4 < (↑c.n : Int))]
theorem w11_1_5 (c : Ct) (x3 : Int) (x4 : Int) (fr : List T) : outK prog f11 20 [] (runK prog D16 F0 2000 (.code (loopAt f11 1).1) (.lp :: (loopAt f11 1).2) 0 (frK [1, 3, 4] [(ctT c).ref 0, T.int .i64 x3, T.int .i64 x4] fr 105) ⟨0, []⟩ (bt 5 25) [])
    = some (OutT.done (some (T.int .i64 (fo (kl c x4.toNat) c (c.line x4.toNat)))), g11_1_5 c x3 x4, { next := 0, objs := [] }, [], 0) := by kernel_rfl
noncomputable def g11_1_6 (c : Ct) (x3 : Int) (x4 : Int) : List Bool := [!fo (kl c x4.toNat) c (c.line x4.toNat) != 0, isV (ctT c) (ctT c), pB (small c), decide (0 ≤ x4), decide (x4 < (↑c.n : Int)), decide (0 ≤ (c.line x4.toNat).mass), x3 == 4, !x3 == 3, !x3 == 2, decide (x4 < (↑c.n : Int))]
theorem w11_1_6 (c : Ct) (x3 : Int) (x4 : Int) (fr : List T) : outK prog f11 20 [1, 3, 4] (runK prog D16 F0 2000 (.code (loopAt f11 1).1) (.lp :: (loopAt f11 1).2) 0 (frK [1, 3, 4] [(ctT c).ref 0, T.int .i64 x3, T.int .i64 x4] fr 105) ⟨0, []⟩ (bt 5 9) [])
    = some (OutT.again 0, g11_1_6 c x3 x4, { next := 0, objs := [] }, [(ctT c).ref 0, T.int .i64 x3, T.int .i64 (IntKind.i64.wrap (x4 + 1))], 105) := by kernel_rfl
noncomputable def g11_1_7 (c : Ct) (x3 : Int) (x4 : Int) : List Bool := [me (al c) c x4.toNat != 0, isV (ctT c) (ctT c), pB (small c), decide (0 ≤ x4), decide (x4 < (↑c.n : Int)), pB (allFl c), !x3 == 4, !x3 == 3, !x3 == 2, decide (x4 < (↑c.n : Int))]
theorem w11_1_7 (c : Ct) (x3 : Int) (x4 : Int) (fr : List T) : outK prog f11 20 [] (runK prog D16 F0 2000 (.code (loopAt f11 1).1) (.lp :: (loopAt f11 1).2) 0 (frK [1, 3, 4] [(ctT c).ref 0, T.int .i64 x3, T.int .i64 x4] fr 105) ⟨0, []⟩ (bt 5 17) [])
    = some (OutT.done (some (T.int .i64 (me (al c) c x4.toNat))), g11_1_7 c x3 x4, { next := 0, objs := [] }, [], 0) := by kernel_rfl
noncomputable def g11_1_8 (c : Ct) (x3 : Int) (x4 : Int) : List Bool := [!me (al c) c x4.toNat != 0, isV (ctT c) (ctT c), pB (small c), decide (0 ≤ x4), decide (x4 < (↑c.n : Int)), pB (allFl c), !x3 == 4, !x3 == 3, !x3 == 2, decide (x4 < (↑c.n : Int))]
theorem w11_1_8 (c : Ct) (x3 : Int) (x4 : Int) (fr : List T) : outK prog f11 20 [1, 3, 4] (runK prog D16 F0 2000 (.code (loopAt f11 1).1) (.lp :: (loopAt f11 1).2) 0 (frK [1, 3, 4] [(ctT c).ref 0, T.int .i64 x3, T.int .i64 x4] fr 105) ⟨0, []⟩ (bt 5 1) [])
    = some (OutT.again 0, g11_1_8 c x3 x4, { next := 0, objs := [] }, [(ctT c).ref 0, T.int .i64 x3, T.int .i64 (IntKind.i64.wrap (x4 + 1))], 105) := by kernel_rfl
noncomputable def g11_1_9 (c : Ct) (x3 : Int) (x4 : Int) : List Bool := [!decide (x4 < (↑c.n : Int))]
theorem w11_1_9 (c : Ct) (x3 : Int) (x4 : Int) (fr : List T) : outK prog f11 20 [1, 3] (runK prog D16 F0 2000 (.code (loopAt f11 1).1) (.lp :: (loopAt f11 1).2) 0 (frK [1, 3, 4] [(ctT c).ref 0, T.int .i64 x3, T.int .i64 x4] fr 105) ⟨0, []⟩ [false] [])
    = some (OutT.again 1, g11_1_9 c x3 x4, { next := 0, objs := [] }, [(ctT c).ref 0, T.int .i64 (IntKind.i64.wrap (x3 + 1))], 105) := by kernel_rfl
noncomputable def g11_2_1 (c : Ct) (x6 : Int) (x7 : Int) : List Bool := [(↑(c.line x7.toNat).k : Int) == 0, decide (0 ≤ x7), decide (x7 < (↑c.n : Int)), true, decide (x7 < (↑c.n : Int))]
theorem w11_2_1 (c : Ct) (x6 : Int) (x7 : Int) (fr : List T) : outK prog f11 20 [1, 6, 7] (runK prog D16 F0 2000 (.code (loopAt f11 2).1) (.lp :: (loopAt f11 2).2) 0 (frK [1, 6, 7] [(ctT c).ref 0, T.int .i64 x6, T.int .i64 x7] fr 105) ⟨0, []⟩ [true, true] [])
    = some (OutT.again 0, g11_2_1 c x6 x7, { next := 0, objs := [] }, [(ctT c).ref 0, T.int .i64 (IntKind.i64.wrap (x6 + 1048576)), T.int .i64 (IntKind.i64.wrap (x7 + 1))], 105) := by kernel_rfl
noncomputable def g11_2_2 (c : Ct) (x6 : Int) (x7 : Int) : List Bool := [!(↑(c.line x7.toNat).k : Int) == 0, decide (0 ≤ x7), decide (x7 < (↑c.n : Int)), true, decide (x7 < (↑c.n : Int))]
theorem w11_2_2 (c : Ct) (x6 : Int) (x7 : Int) (fr : List T) : outK prog f11 20 [1, 6, 7] (runK prog D16 F0 2000 (.code (loopAt f11 2).1) (.lp :: (loopAt f11 2).2) 0 (frK [1, 6, 7] [(ctT c).ref 0, T.int .i64 x6, T.int .i64 x7] fr 105) ⟨0, []⟩ [true, false] [])
    = some (OutT.again 0, g11_2_2 c x6 x7, { next := 0, objs := [] }, [(ctT c).ref 0, T.int .i64 x6, T.int .i64 (IntKind.i64.wrap (x7 + 1))], 105) := by kernel_rfl
noncomputable def g11_2_3 (c : Ct) (x6 : Int) (x7 : Int) : List Bool := [true, true, true, true, true, true, true, true, true, true, true, true, true, true, true, true, true, true, true, c.accepted != x6, c.accepted != x6, c.accepted != x6, c.accepted != x6, c.accepted != x6, c.accepted != x6, true, true, isV (ctT c) (ctT c), decide (c.n ≤ 281474976710656), !decide (x7 < (↑c.n : Int))]
theorem w11_2_3 (c : Ct) (x6 : Int) (x7 : Int) (fr : List T) : outK prog f11 20 [] (runK prog D16 F0 2000 (.code (loopAt f11 2).1) (.lp :: (loopAt f11 2).2) 0 (frK [1, 6, 7] [(ctT c).ref 0, T.int .i64 x6, T.int .i64 x7] fr 105) ⟨0, []⟩ (bt 26 67108862) [])
    = some (OutT.done (some (T.int .i64 38)), g11_2_3 c x6 x7, { next := 0, objs := [] }, [], 0) := by kernel_rfl
noncomputable def g11_2_4 (c : Ct) (x6 : Int) (x7 : Int) : List Bool := [true, true, true, true, true, true, true, true, true, true, true, true, true, c.delivered != (ltR c.line c.n 0 0 0 0 0).fst, c.delivered != (ltR c.line c.n 0 0 0 0 0).fst, c.delivered != (ltR c.line c.n 0 0 0 0 0).fst, c.delivered != (ltR c.line c.n 0 0 0 0 0).fst, c.delivered != (ltR c.line c.n 0 0 0 0 0).fst, c.delivered != (ltR c.line c.n 0 0 0 0 0).fst, !c.accepted != x6, !c.accepted != x6, !c.accepted != x6, !c.accepted != x6, !c.accepted != x6, !c.accepted != x6, true, true, isV (ctT c) (ctT c), decide (c.n ≤ 281474976710656), !decide (x7 < (↑c.n : Int))]
theorem w11_2_4 (c : Ct) (x6 : Int) (x7 : Int) (fr : List T) : outK prog f11 20 [] (runK prog D16 F0 2000 (.code (loopAt f11 2).1) (.lp :: (loopAt f11 2).2) 0 (frK [1, 6, 7] [(ctT c).ref 0, T.int .i64 x6, T.int .i64 x7] fr 105) ⟨0, []⟩ (bt 26 67108736) [])
    = some (OutT.done (some (T.int .i64 38)), g11_2_4 c x6 x7, { next := 0, objs := [] }, [], 0) := by kernel_rfl
noncomputable def g11_2_5 (c : Ct) (x6 : Int) (x7 : Int) : List Bool := [true, true, true, true, true, true, true, c.waiting != (ltR c.line c.n 0 0 0 0 0).snd.fst, c.waiting != (ltR c.line c.n 0 0 0 0 0).snd.fst, c.waiting != (ltR c.line c.n 0 0 0 0 0).snd.fst, c.waiting != (ltR c.line c.n 0 0 0 0 0).snd.fst, c.waiting != (ltR c.line c.n 0 0 0 0 0).snd.fst, c.waiting != (ltR c.line c.n 0 0 0 0 0).snd.fst, !c.delivered != (ltR c.line c.n 0 0 0 0 0).fst, !c.delivered != (ltR c.line c.n 0 0 0 0 0).fst, !c.delivered != (ltR c.line c.n 0 0 0 0 0).fst, !c.delivered != (ltR c.line c.n 0 0 0 0 0).fst, !c.delivered != (ltR c.line c.n 0 0 0 0 0).fst, !c.delivered != (ltR c.line c.n 0 0 0 0 0).fst, !c.accepted != x6, !c.accepted != x6, !c.accepted != x6, !c.accepted != x6, !c.accepted != x6, !c.accepted != x6, true, true, isV (ctT c) (ctT c), decide (c.n ≤ 281474976710656), !decide (x7 < (↑c.n : Int))]
theorem w11_2_5 (c : Ct) (x6 : Int) (x7 : Int) (fr : List T) : outK prog f11 20 [] (runK prog D16 F0 2000 (.code (loopAt f11 2).1) (.lp :: (loopAt f11 2).2) 0 (frK [1, 6, 7] [(ctT c).ref 0, T.int .i64 x6, T.int .i64 x7] fr 105) ⟨0, []⟩ (bt 26 67100672) [])
    = some (OutT.done (some (T.int .i64 38)), g11_2_5 c x6 x7, { next := 0, objs := [] }, [], 0) := by kernel_rfl
noncomputable def g11_2_6 (c : Ct) (x6 : Int) (x7 : Int) : List Bool := [true, c.letters != (ltR c.line c.n 0 0 0 0 0).snd.snd.fst, c.letters != (ltR c.line c.n 0 0 0 0 0).snd.snd.fst, c.letters != (ltR c.line c.n 0 0 0 0 0).snd.snd.fst, c.letters != (ltR c.line c.n 0 0 0 0 0).snd.snd.fst, c.letters != (ltR c.line c.n 0 0 0 0 0).snd.snd.fst, c.letters != (ltR c.line c.n 0 0 0 0 0).snd.snd.fst, !c.waiting != (ltR c.line c.n 0 0 0 0 0).snd.fst, !c.waiting != (ltR c.line c.n 0 0 0 0 0).snd.fst, !c.waiting != (ltR c.line c.n 0 0 0 0 0).snd.fst, !c.waiting != (ltR c.line c.n 0 0 0 0 0).snd.fst, !c.waiting != (ltR c.line c.n 0 0 0 0 0).snd.fst, !c.waiting != (ltR c.line c.n 0 0 0 0 0).snd.fst, !c.delivered != (ltR c.line c.n 0 0 0 0 0).fst, !c.delivered != (ltR c.line c.n 0 0 0 0 0).fst, !c.delivered != (ltR c.line c.n 0 0 0 0 0).fst, !c.delivered != (ltR c.line c.n 0 0 0 0 0).fst, !c.delivered != (ltR c.line c.n 0 0 0 0 0).fst, !c.delivered != (ltR c.line c.n 0 0 0 0 0).fst, !c.accepted != x6, !c.accepted != x6, !c.accepted != x6, !c.accepted != x6, !c.accepted != x6, !c.accepted != x6, true, true, isV (ctT c) (ctT c), decide (c.n ≤ 281474976710656), !decide (x7 < (↑c.n : Int))]
theorem w11_2_6 (c : Ct) (x6 : Int) (x7 : Int) (fr : List T) : outK prog f11 20 [] (runK prog D16 F0 2000 (.code (loopAt f11 2).1) (.lp :: (loopAt f11 2).2) 0 (frK [1, 6, 7] [(ctT c).ref 0, T.int .i64 x6, T.int .i64 x7] fr 105) ⟨0, []⟩ (bt 26 66584576) [])
    = some (OutT.done (some (T.int .i64 38)), g11_2_6 c x6 x7, { next := 0, objs := [] }, [], 0) := by kernel_rfl
noncomputable def g11_2_7 (c : Ct) (x6 : Int) (x7 : Int) : List Bool := [c.discarded != (ltR c.line c.n 0 0 0 0 0).snd.snd.snd, !c.letters != (ltR c.line c.n 0 0 0 0 0).snd.snd.fst, !c.letters != (ltR c.line c.n 0 0 0 0 0).snd.snd.fst, !c.letters != (ltR c.line c.n 0 0 0 0 0).snd.snd.fst, !c.letters != (ltR c.line c.n 0 0 0 0 0).snd.snd.fst, !c.letters != (ltR c.line c.n 0 0 0 0 0).snd.snd.fst, !c.letters != (ltR c.line c.n 0 0 0 0 0).snd.snd.fst, !c.waiting != (ltR c.line c.n 0 0 0 0 0).snd.fst, !c.waiting != (ltR c.line c.n 0 0 0 0 0).snd.fst, !c.waiting != (ltR c.line c.n 0 0 0 0 0).snd.fst, !c.waiting != (ltR c.line c.n 0 0 0 0 0).snd.fst, !c.waiting != (ltR c.line c.n 0 0 0 0 0).snd.fst, !c.waiting != (ltR c.line c.n 0 0 0 0 0).snd.fst, !c.delivered != (ltR c.line c.n 0 0 0 0 0).fst, !c.delivered != (ltR c.line c.n 0 0 0 0 0).fst, !c.delivered != (ltR c.line c.n 0 0 0 0 0).fst, !c.delivered != (ltR c.line c.n 0 0 0 0 0).fst, !c.delivered != (ltR c.line c.n 0 0 0 0 0).fst, !c.delivered != (ltR c.line c.n 0 0 0 0 0).fst, !c.accepted != x6, !c.accepted != x6, !c.accepted != x6, !c.accepted != x6, !c.accepted != x6, !c.accepted != x6, true, true, isV (ctT c) (ctT c), decide (c.n ≤ 281474976710656), !decide (x7 < (↑c.n : Int))]
theorem w11_2_7 (c : Ct) (x6 : Int) (x7 : Int) (fr : List T) : outK prog f11 20 [] (runK prog D16 F0 2000 (.code (loopAt f11 2).1) (.lp :: (loopAt f11 2).2) 0 (frK [1, 6, 7] [(ctT c).ref 0, T.int .i64 x6, T.int .i64 x7] fr 105) ⟨0, []⟩ (bt 26 33554432) [])
    = some (OutT.done (some (T.int .i64 38)), g11_2_7 c x6 x7, { next := 0, objs := [] }, [], 0) := by kernel_rfl
noncomputable def g11_2_8 (c : Ct) (x6 : Int) (x7 : Int) : List Bool := [!c.discarded != (ltR c.line c.n 0 0 0 0 0).snd.snd.snd, !c.letters != (ltR c.line c.n 0 0 0 0 0).snd.snd.fst, !c.letters != (ltR c.line c.n 0 0 0 0 0).snd.snd.fst, !c.letters != (ltR c.line c.n 0 0 0 0 0).snd.snd.fst, !c.letters != (ltR c.line c.n 0 0 0 0 0).snd.snd.fst, !c.letters != (ltR c.line c.n 0 0 0 0 0).snd.snd.fst, !c.letters != (ltR c.line c.n 0 0 0 0 0).snd.snd.fst, !c.waiting != (ltR c.line c.n 0 0 0 0 0).snd.fst, !c.waiting != (ltR c.line c.n 0 0 0 0 0).snd.fst, !c.waiting != (ltR c.line c.n 0 0 0 0 0).snd.fst, !c.waiting != (ltR c.line c.n 0 0 0 0 0).snd.fst, !c.waiting != (ltR c.line c.n 0 0 0 0 0).snd.fst, !c.waiting != (ltR c.line c.n 0 0 0 0 0).snd.fst, !c.delivered != (ltR c.line c.n 0 0 0 0 0).fst, !c.delivered != (ltR c.line c.n 0 0 0 0 0).fst, !c.delivered != (ltR c.line c.n 0 0 0 0 0).fst, !c.delivered != (ltR c.line c.n 0 0 0 0 0).fst, !c.delivered != (ltR c.line c.n 0 0 0 0 0).fst, !c.delivered != (ltR c.line c.n 0 0 0 0 0).fst, !c.accepted != x6, !c.accepted != x6, !c.accepted != x6, !c.accepted != x6, !c.accepted != x6, !c.accepted != x6, true, true, isV (ctT c) (ctT c), decide (c.n ≤ 281474976710656), !decide (x7 < (↑c.n : Int))]
theorem w11_2_8 (c : Ct) (x6 : Int) (x7 : Int) (fr : List T) : outK prog f11 20 [] (runK prog D16 F0 2000 (.code (loopAt f11 2).1) (.lp :: (loopAt f11 2).2) 0 (frK [1, 6, 7] [(ctT c).ref 0, T.int .i64 x6, T.int .i64 x7] fr 105) ⟨0, []⟩ (bt 26 0) [])
    = some (OutT.done (some (T.int .i64 0)), g11_2_8 c x6 x7, { next := 0, objs := [] }, [], 0) := by kernel_rfl
noncomputable def step11_0 (c : Ct) (x3 : Int) : Option (S11 ⊕ T) :=
  (if decide (x3 ≤ 5) then (if allT (g11_0_1 c x3) then some (.inl (.l1 x3 0)) else none) else (if allT (g11_0_2 c x3) then some (.inl (.l2 0 0)) else none))
noncomputable def V11_0 (c : Ct) (x3 : Int) : S11 ⊕ T :=
  (if decide (x3 ≤ 5) then (.inl (.l1 x3 0)) else (.inl (.l2 0 0)))
noncomputable def K11_0 (c : Ct) (x3 : Int) : Bool :=
  (if decide (x3 ≤ 5) then (allT (g11_0_1 c x3)) else (allT (g11_0_2 c x3)))
theorem T11_0 (c : Ct) (x3 : Int) (hk : K11_0 c x3 = true) : step11_0 c x3 = some (V11_0 c x3) :=
  (tree_if tree_leaf tree_leaf) hk
noncomputable def step11_1 (c : Ct) (x3 : Int) (x4 : Int) : Option (S11 ⊕ T) :=
  (if decide (x4 < (↑c.n : Int)) then (if x3 == 2 then (if fe c x4.toNat != 0 then (if allT (g11_1_1 c x3 x4) then some (.inr ((T.int .i64 (fe c x4.toNat)))) else none) else (if allT (g11_1_2 c x3 x4) then some (.inl (.l1 x3 (IntKind.i64.wrap (x4 + 1)))) else none)) else (if x3 == 3 then (if te (fl c) c x4.toNat != 0 then (if allT (g11_1_3 c x3 x4) then some (.inr ((T.int .i64 (te (fl c) c x4.toNat)))) else none) else (if allT (g11_1_4 c x3 x4) then some (.inl (.l1 x3 (IntKind.i64.wrap (x4 + 1)))) else none)) else (if x3 == 4 then (if fo (kl c x4.toNat) c (c.line x4.toNat) != 0 then (if allT (g11_1_5 c x3 x4) then some (.inr ((T.int .i64 (fo (kl c x4.toNat) c (c.line x4.toNat))))) else none) else (if allT (g11_1_6 c x3 x4) then some (.inl (.l1 x3 (IntKind.i64.wrap (x4 + 1)))) else none)) else (if me (al c) c x4.toNat != 0 then (if allT (g11_1_7 c x3 x4) then some (.inr ((T.int .i64 (me (al c) c x4.toNat)))) else none) else (if allT (g11_1_8 c x3 x4) then some (.inl (.l1 x3 (IntKind.i64.wrap (x4 + 1)))) else none))))) else (if allT (g11_1_9 c x3 x4) then some (.inl (.l0 (IntKind.i64.wrap (x3 + 1)))) else none))
noncomputable def V11_1 (c : Ct) (x3 : Int) (x4 : Int) : S11 ⊕ T :=
  (if decide (x4 < (↑c.n : Int)) then (if x3 == 2 then (if fe c x4.toNat != 0 then (.inr ((T.int .i64 (fe c x4.toNat)))) else (.inl (.l1 x3 (IntKind.i64.wrap (x4 + 1))))) else (if x3 == 3 then (if te (fl c) c x4.toNat != 0 then (.inr ((T.int .i64 (te (fl c) c x4.toNat)))) else (.inl (.l1 x3 (IntKind.i64.wrap (x4 + 1))))) else (if x3 == 4 then (if fo (kl c x4.toNat) c (c.line x4.toNat) != 0 then (.inr ((T.int .i64 (fo (kl c x4.toNat) c (c.line x4.toNat))))) else (.inl (.l1 x3 (IntKind.i64.wrap (x4 + 1))))) else (if me (al c) c x4.toNat != 0 then (.inr ((T.int .i64 (me (al c) c x4.toNat)))) else (.inl (.l1 x3 (IntKind.i64.wrap (x4 + 1)))))))) else (.inl (.l0 (IntKind.i64.wrap (x3 + 1)))))
noncomputable def K11_1 (c : Ct) (x3 : Int) (x4 : Int) : Bool :=
  (if decide (x4 < (↑c.n : Int)) then (if x3 == 2 then (if fe c x4.toNat != 0 then (allT (g11_1_1 c x3 x4)) else (allT (g11_1_2 c x3 x4))) else (if x3 == 3 then (if te (fl c) c x4.toNat != 0 then (allT (g11_1_3 c x3 x4)) else (allT (g11_1_4 c x3 x4))) else (if x3 == 4 then (if fo (kl c x4.toNat) c (c.line x4.toNat) != 0 then (allT (g11_1_5 c x3 x4)) else (allT (g11_1_6 c x3 x4))) else (if me (al c) c x4.toNat != 0 then (allT (g11_1_7 c x3 x4)) else (allT (g11_1_8 c x3 x4)))))) else (allT (g11_1_9 c x3 x4)))
theorem T11_1 (c : Ct) (x3 : Int) (x4 : Int) (hk : K11_1 c x3 x4 = true) : step11_1 c x3 x4 = some (V11_1 c x3 x4) :=
  (tree_if (tree_if (tree_if tree_leaf tree_leaf) (tree_if (tree_if tree_leaf tree_leaf) (tree_if (tree_if tree_leaf tree_leaf) (tree_if tree_leaf tree_leaf)))) tree_leaf) hk
noncomputable def step11_2 (c : Ct) (x6 : Int) (x7 : Int) : Option (S11 ⊕ T) :=
  (if decide (x7 < (↑c.n : Int)) then (if (↑(c.line x7.toNat).k : Int) == 0 then (if allT (g11_2_1 c x6 x7) then some (.inl (.l2 (IntKind.i64.wrap (x6 + 1048576)) (IntKind.i64.wrap (x7 + 1)))) else none) else (if allT (g11_2_2 c x6 x7) then some (.inl (.l2 x6 (IntKind.i64.wrap (x7 + 1)))) else none)) else (if c.accepted != x6 then (if allT (g11_2_3 c x6 x7) then some (.inr ((T.int .i64 38))) else none) else (if c.delivered != (ltR c.line c.n 0 0 0 0 0).fst then (if allT (g11_2_4 c x6 x7) then some (.inr ((T.int .i64 38))) else none) else (if c.waiting != (ltR c.line c.n 0 0 0 0 0).snd.fst then (if allT (g11_2_5 c x6 x7) then some (.inr ((T.int .i64 38))) else none) else (if c.letters != (ltR c.line c.n 0 0 0 0 0).snd.snd.fst then (if allT (g11_2_6 c x6 x7) then some (.inr ((T.int .i64 38))) else none) else (if c.discarded != (ltR c.line c.n 0 0 0 0 0).snd.snd.snd then (if allT (g11_2_7 c x6 x7) then some (.inr ((T.int .i64 38))) else none) else (if allT (g11_2_8 c x6 x7) then some (.inr ((T.int .i64 0))) else none)))))))
noncomputable def V11_2 (c : Ct) (x6 : Int) (x7 : Int) : S11 ⊕ T :=
  (if decide (x7 < (↑c.n : Int)) then (if (↑(c.line x7.toNat).k : Int) == 0 then (.inl (.l2 (IntKind.i64.wrap (x6 + 1048576)) (IntKind.i64.wrap (x7 + 1)))) else (.inl (.l2 x6 (IntKind.i64.wrap (x7 + 1))))) else (if c.accepted != x6 then (.inr ((T.int .i64 38))) else (if c.delivered != (ltR c.line c.n 0 0 0 0 0).fst then (.inr ((T.int .i64 38))) else (if c.waiting != (ltR c.line c.n 0 0 0 0 0).snd.fst then (.inr ((T.int .i64 38))) else (if c.letters != (ltR c.line c.n 0 0 0 0 0).snd.snd.fst then (.inr ((T.int .i64 38))) else (if c.discarded != (ltR c.line c.n 0 0 0 0 0).snd.snd.snd then (.inr ((T.int .i64 38))) else (.inr ((T.int .i64 0)))))))))
noncomputable def K11_2 (c : Ct) (x6 : Int) (x7 : Int) : Bool :=
  (if decide (x7 < (↑c.n : Int)) then (if (↑(c.line x7.toNat).k : Int) == 0 then (allT (g11_2_1 c x6 x7)) else (allT (g11_2_2 c x6 x7))) else (if c.accepted != x6 then (allT (g11_2_3 c x6 x7)) else (if c.delivered != (ltR c.line c.n 0 0 0 0 0).fst then (allT (g11_2_4 c x6 x7)) else (if c.waiting != (ltR c.line c.n 0 0 0 0 0).snd.fst then (allT (g11_2_5 c x6 x7)) else (if c.letters != (ltR c.line c.n 0 0 0 0 0).snd.snd.fst then (allT (g11_2_6 c x6 x7)) else (if c.discarded != (ltR c.line c.n 0 0 0 0 0).snd.snd.snd then (allT (g11_2_7 c x6 x7)) else (allT (g11_2_8 c x6 x7))))))))
theorem T11_2 (c : Ct) (x6 : Int) (x7 : Int) (hk : K11_2 c x6 x7 = true) : step11_2 c x6 x7 = some (V11_2 c x6 x7) :=
  (tree_if (tree_if tree_leaf tree_leaf) (tree_if tree_leaf (tree_if tree_leaf (tree_if tree_leaf (tree_if tree_leaf (tree_if tree_leaf tree_leaf)))))) hk
noncomputable def o11 (c : Ct) : Option (S11 ⊕ T) :=
  (if decide (c.entries < 0) then (if allT (g11_s_1 c) then some (.inr ((T.int .i64 2))) else none) else (if decide (c.entries > 1048576) then (if allT (g11_s_2 c) then some (.inr ((T.int .i64 2))) else none) else (if decide ((↑c.n : Int) > 65536) then (if allT (g11_s_3 c) then some (.inr ((T.int .i64 9))) else none) else (if allT (g11_s_4 c) then some (.inl (.l0 2)) else none))))
noncomputable def V11_s (c : Ct) : S11 ⊕ T :=
  (if decide (c.entries < 0) then (.inr ((T.int .i64 2))) else (if decide (c.entries > 1048576) then (.inr ((T.int .i64 2))) else (if decide ((↑c.n : Int) > 65536) then (.inr ((T.int .i64 9))) else (.inl (.l0 2)))))
noncomputable def K11_s (c : Ct) : Bool :=
  (if decide (c.entries < 0) then (allT (g11_s_1 c)) else (if decide (c.entries > 1048576) then (allT (g11_s_2 c)) else (if decide ((↑c.n : Int) > 65536) then (allT (g11_s_3 c)) else (allT (g11_s_4 c)))))
theorem T11_s (c : Ct) (hk : K11_s c = true) : o11 c = some (V11_s c) :=
  (tree_if tree_leaf (tree_if tree_leaf (tree_if tree_leaf tree_leaf))) hk
noncomputable def step11 (c : Ct) : S11 → Option (S11 ⊕ T)
  | .l0 x3 => step11_0 c x3
  | .l1 x3 x4 => step11_1 c x3 x4
  | .l2 x6 x7 => step11_2 c x6 x7
noncomputable def M11 (c : Ct) : Mch S11 where
  lp := fun σ => match σ with
    | .l0 .. => 0
    | .l1 .. => 1
    | .l2 .. => 2
  keep := fun ι => match ι with
    | 0 => [1, 3]
    | 1 => [1, 3, 4]
    | 2 => [1, 6, 7]
    | _ => []
  par := fun ι => match ι with
    | 0 => []
    | 1 => [0]
    | 2 => []
    | _ => []
  vs := fun σ => match σ with
    | .l0 x3 => [(ctT c).ref 0, T.int .i64 x3]
    | .l1 x3 x4 => [(ctT c).ref 0, T.int .i64 x3, T.int .i64 x4]
    | .l2 x6 x7 => [(ctT c).ref 0, T.int .i64 x6, T.int .i64 x7]
  hp := fun σ => match σ with
    | .l0 _ => ⟨0, []⟩
    | .l1 _ _ => ⟨0, []⟩
    | .l2 _ _ => ⟨0, []⟩
  len := 105
  step := step11 c
theorem ways11 (c : Ct) : (M11 c).Ways prog D16 F0 f11 20 := by
  intro σ o fr h
  cases σ with
  | l0 x3 =>
    change step11_0 c x3 = some o at h
    exact (ways_if (ways_leaf fun hk => .inr ⟨2000, _, _, _, w11_0_1 c x3 fr, hk, rfl⟩) (ways_leaf fun hk => .inr ⟨2000, _, _, _, w11_0_2 c x3 fr, hk, rfl⟩)) o h
  | l1 x3 x4 =>
    change step11_1 c x3 x4 = some o at h
    exact (ways_if (ways_if (ways_if (ways_leaf fun hk => ⟨2000, _, _, _, _, _, _, w11_1_1 c x3 x4 fr, hk⟩) (ways_leaf fun hk => .inl ⟨2000, _, _, _, w11_1_2 c x3 x4 fr, hk, rfl⟩)) (ways_if (ways_if (ways_leaf fun hk => ⟨2000, _, _, _, _, _, _, w11_1_3 c x3 x4 fr, hk⟩) (ways_leaf fun hk => .inl ⟨2000, _, _, _, w11_1_4 c x3 x4 fr, hk, rfl⟩)) (ways_if (ways_if (ways_leaf fun hk => ⟨2000, _, _, _, _, _, _, w11_1_5 c x3 x4 fr, hk⟩) (ways_leaf fun hk => .inl ⟨2000, _, _, _, w11_1_6 c x3 x4 fr, hk, rfl⟩)) (ways_if (ways_leaf fun hk => ⟨2000, _, _, _, _, _, _, w11_1_7 c x3 x4 fr, hk⟩) (ways_leaf fun hk => .inl ⟨2000, _, _, _, w11_1_8 c x3 x4 fr, hk, rfl⟩))))) (ways_leaf fun hk => .inl ⟨2000, _, _, _, w11_1_9 c x3 x4 fr, hk, rfl⟩)) o h
  | l2 x6 x7 =>
    change step11_2 c x6 x7 = some o at h
    exact (ways_if (ways_if (ways_leaf fun hk => .inl ⟨2000, _, _, _, w11_2_1 c x6 x7 fr, hk, rfl⟩) (ways_leaf fun hk => .inl ⟨2000, _, _, _, w11_2_2 c x6 x7 fr, hk, rfl⟩)) (ways_if (ways_leaf fun hk => ⟨2000, _, _, _, _, _, _, w11_2_3 c x6 x7 fr, hk⟩) (ways_if (ways_leaf fun hk => ⟨2000, _, _, _, _, _, _, w11_2_4 c x6 x7 fr, hk⟩) (ways_if (ways_leaf fun hk => ⟨2000, _, _, _, _, _, _, w11_2_5 c x6 x7 fr, hk⟩) (ways_if (ways_leaf fun hk => ⟨2000, _, _, _, _, _, _, w11_2_6 c x6 x7 fr, hk⟩) (ways_if (ways_leaf fun hk => ⟨2000, _, _, _, _, _, _, w11_2_7 c x6 x7 fr, hk⟩) (ways_leaf fun hk => ⟨2000, _, _, _, _, _, _, w11_2_8 c x6 x7 fr, hk⟩))))))) o h
theorem oks11 (c : Ct) : ∀ σ, codeOk (loopAt f11 ((M11 c).lp σ)).1 = true ∧ ksOk (.lp :: (loopAt f11 ((M11 c).lp σ)).2) = true := by
  intro σ
  cases σ
  · exact ⟨(show codeOk (loopAt f11 0).1 = true by kernel_rfl), (show ksOk (.lp :: (loopAt f11 0).2) = true by kernel_rfl)⟩
  · exact ⟨(show codeOk (loopAt f11 1).1 = true by kernel_rfl), (show ksOk (.lp :: (loopAt f11 1).2) = true by kernel_rfl)⟩
  · exact ⟨(show codeOk (loopAt f11 2).1 = true by kernel_rfl), (show ksOk (.lp :: (loopAt f11 2).2) = true by kernel_rfl)⟩
theorem run11 (c : Ct) {n : Nat} {o : S11 ⊕ T} {r : T} (h : o11 c = some o) (hr : (M11 c).fin n o = some r) : PureFn prog gl 11 [ctT c] r := by
  refine pure_mach (M := (M11 c)) (fn := f11) (k := 20) (d := 8) (c := bodyOf f11) cx16 glFrz (by kernel_rfl) func11 (by kernel_rfl) rfl (by kernel_rfl) (by kernel_rfl) (L := 104) (by kernel_rfl) (ways11 c) (oks11 c) ?_ hr
  exact (ways_if (ways_leaf fun hk => ⟨2000, _, _, _, _, _, _, w11_s_1 c, hk⟩) (ways_if (ways_leaf fun hk => ⟨2000, _, _, _, _, _, _, w11_s_2 c, hk⟩) (ways_if (ways_leaf fun hk => ⟨2000, _, _, _, _, _, _, w11_s_3 c, hk⟩) (ways_leaf fun hk => .inr ⟨2000, _, _, _, w11_s_4 c, hk, rfl⟩)))) o h
theorem c11 (c : Ct) (n : Nat) {r : T} (hk : K11_s c = true) (hr : (M11 c).fin n (V11_s c) = some r) : PureFn prog gl 11 [ctT c] r := run11 c (T11_s c hk) hr
end Go.Proofs.Tryd

/- The rows of children, as the program keeps them; the frame for the function. -/
namespace Go.Proofs
open Go.Ps
def Tryd.F17 : Fc := ⟨fun d => d == 47, fun _ _ _ => none⟩
theorem Tryd.cx17 : Cx Tryd.prog Tryd.D15 Tryd.F17 := ⟨Tryd.follows, Tryd.cx15.hE, eeNone_ok⟩

def Tryd.rowT (H : Hp) : T → List Int
  | .osl l _ _ _ => (match H.get l with | some o => o.cells.map intv | none => [])
  | _ => []
def Tryd.rowsOf (H : Hp) (k : Nat) : List Int := Tryd.rowT H ((obv H 0).cells.getD k undefT)
def Tryd.rowsOk (n : Nat) (H : Hp) : Prop := ∃ C, H.get 0 = some ⟨29, 1, C⟩ ∧ C.length = n ∧ ∀ t ∈ C, t = .nils ∨ ∃ l xs, t = .osl l 1 0 (xs : List Int).length ∧ H.get l = some ⟨3, 1, Tryd.ints xs⟩

def Tryd.frzR (H : Hp) (t : T) : T := match t with
  | .osl .. => .sl false (Tryd.ints (Tryd.rowT H t))
  | t => t
theorem Tryd.rowT_osl {H : Hp} {l : Nat} {xs : List Int} (h : H.get l = some ⟨3, 1, Tryd.ints xs⟩) (n : Nat) : Tryd.rowT H (.osl l 1 0 n) = xs := by
  simp only [Tryd.rowT, h, Tryd.ints, List.map_map]
  have : (intv ∘ T.int .i64) = id := rfl
  rw [this, List.map_id]

theorem Tryd.frzR_map {H : Hp} : ∀ (C : List T), (∀ t ∈ C, t = .nils ∨ ∃ l xs, t = .osl l 1 0 (xs : List Int).length ∧ H.get l = some ⟨3, 1, Tryd.ints xs⟩) → mapO (frzT 19 H) C = some (C.map (Tryd.frzR H))
  | [], _ => rfl
  | t :: C, h => by
    have e : frzT 19 H t = some (Tryd.frzR H t) := by
      rcases h t (by simp) with rfl | ⟨l, xs, rfl, hl⟩
      · rfl
      · rw [frz_row (d := 17) hl rfl (by simp [Tryd.ints]) (by simp [Tryd.ints, scal1])]
        simp only [Tryd.frzR, Tryd.rowT_osl hl]
    simp only [mapO, e, Tryd.frzR_map C (fun t ht => h t (by simp [ht])), List.map_cons]

theorem Tryd.rdI_ints {g : G} {v : Value} {xs : List Int} (h : Rd g v (.sl false (Tryd.ints xs))) : RdI g v (.slf false xs.length (fun j => .int .i64 (xs.getD j 0))) := by
  have hl : (Tryd.ints xs).length = xs.length := by simp [Tryd.ints]
  generalize hy : Tryd.ints xs = ys at h hl
  cases h with
  | sl _ _ sz b o cap vs h1 h2 h3 h4 h5 h6 h7 h8 =>
    have hat : ∀ i, i < xs.length → ys[i]? = some (T.int .i64 (xs.getD i 0)) := fun i hi => by
      rw [← hy]
      unfold Tryd.ints
      rw [List.getElem?_map, List.getElem?_eq_getElem hi, List.getD_eq_getElem?_getD, List.getElem?_eq_getElem hi]
      rfl
    rw [hl] at h3 h5 h6 ⊢
    refine .slf false xs.length _ sz b o cap vs (fun q => h1 (fun e => q (by rw [← hl, e]; rfl))) (fun i hi => h2 _ (List.mem_of_getElem? (hat i hi))) h3 h4 h5 h6 h7 (fun i j u c hi hj hu hc => ?_)
    have hr := h8 _ u c hu (rows_at h2 (hat i hi) j c hc)
    simp only [T.cells] at hc
    cases j with
    | zero => simp at hc; subst hc; exact rdI_scal rfl hr
    | succ j => simp at hc

theorem Tryd.rows_frz {n : Nat} {H : Hp} (hb : Tryd.pB (Tryd.rowsOk n H) = true) : ∃ t0, frzT 20 H (.osl 0 1 0 n) = some t0 ∧ ∀ g v, Rd g v t0 → Rd g v (.slf false n fun k => .slf false (Tryd.rowsOf H k).length fun j => .int .i64 ((Tryd.rowsOf H k).getD j 0)) := by
  obtain ⟨C, h0, hn, hC⟩ := Tryd.pB_iff.1 hb
  have hna : ((C.map (Tryd.frzR H)).all fun c => !c.isAgg) = true := by
    rw [List.all_eq_true]
    intro x hx
    obtain ⟨t, ht, rfl⟩ := List.mem_map.1 hx
    rcases hC t ht with rfl | ⟨l, xs, rfl, hl⟩ <;> rfl
  refine ⟨.sl false (C.map (Tryd.frzR H)), ?_, fun g v hv => ?_⟩
  · show (match H.get 0 with
      | some o => if 1 ≠ 0 ∧ o.sz = 1 ∧ (0 + n) * 1 ≤ o.cells.length then
          match mapO (frzT 19 H) ((o.cells.drop (0 * 1)).take (n * 1)) with
          | some cs => if 1 = 1 then (if (cs.all fun c => !c.isAgg) then some (T.sl false cs) else none) else some (T.sl false (chunk 1 n cs))
          | none => none
        else none
      | none => none) = _
    rw [h0]
    simp only
    have e : (C.drop (0 * 1)).take (n * 1) = C := by simp [← hn]
    rw [if_pos ⟨by decide, trivial, by omega⟩, e, Tryd.frzR_map C hC]
    simp only [if_true, hna]
  · have hl : (C.map (Tryd.frzR H)).length = n := by simp [hn]
    have hat : ∀ i, i < n → ∃ t, C[i]? = some t ∧ (C.map (Tryd.frzR H))[i]? = some (Tryd.frzR H t) ∧ Tryd.rowsOf H i = Tryd.rowT H t ∧ t ∈ C := fun i hi => by
      have hi' : i < C.length := by omega
      refine ⟨C[i], List.getElem?_eq_getElem hi', by rw [List.getElem?_map, List.getElem?_eq_getElem hi']; rfl, ?_, List.getElem_mem hi'⟩
      unfold Tryd.rowsOf obv
      rw [h0]
      simp only
      rw [List.getD_eq_getElem?_getD, List.getElem?_eq_getElem hi']
      rfl
    generalize hy : C.map (Tryd.frzR H) = ys at hv hl hat
    cases hv with
    | sl _ _ sz b o cap vs h1 h2 h3 h4 h5 h6 h7 h8 =>
      have hsz : ∀ i, i < n → sz = 1 := fun i hi => by
        obtain ⟨t, _, e2, _, e4⟩ := hat i hi
        rw [← h2 _ (List.mem_of_getElem? e2)]
        rcases hC t e4 with rfl | ⟨l, xs, rfl, hl⟩ <;> rfl
      rw [hl] at h3 h5 h6 ⊢
      refine .slf false n _ sz b o cap vs (fun q => h1 (fun e => q (by rw [← hl, e]; rfl))) (fun i hi => by rw [hsz i hi]; rfl) h3 h4 h5 h6 h7 (fun i j u c hi hj hu hc => ?_)
      obtain ⟨t, e1, e2, e3, e4⟩ := hat i hi
      simp only [T.cells] at hc
      cases j with
      | succ j => simp at hc
      | zero =>
        simp at hc
        subst hc
        have hcell : (Tryd.frzR H t).cells = [Tryd.frzR H t] := by rcases hC t e4 with rfl | ⟨l, xs, rfl, hl⟩ <;> rfl
        have hr := h8 _ u (Tryd.frzR H t) hu (rows_at h2 e2 0 _ (by rw [hcell]; rfl))
        rw [e3]
        rcases hC t e4 with rfl | ⟨l, xs, rfl, hlx⟩
        · simp only [Tryd.frzR] at hr
          cases hr
          exact .slfn _ _ _
        · simp only [Tryd.frzR, Tryd.rowT_osl hlx] at hr
          rw [Tryd.rowT_osl hlx]
          exact Tryd.rdI_ints hr
end Go.Proofs

/- children of the program as a machine, by program (gen2). -/
namespace Go.Proofs.Tryd
open Go.Ps
set_option maxRecDepth 100000
set_option linter.unusedVariables false
set_option linter.unusedSimpArgs false

/-! ### 17 -/
inductive S17 where
  | l0 (x22 : Int) (x23 : Int) (H : Hp)
  | l1 (x4 : Int) (x22 : Int) (x23 : Int) (x30 : Int) (x31 : Int) (H : Hp)
  | l2 (x56 : Int) (x57 : Int) (rows : Nat → List Int) (NX : Nat)
  | l3f (x10 : Int) (x56 : Int) (x57 : Int) (x138 : Int) (x139 : Int) (rows : Nat → List Int) (NX : Nat)
  | l3n0_0 (x10 : Int) (x56 : Int) (x57 : Int) (rows : Nat → List Int) (NX : Nat)
  | l3s1_0 (x10 : Int) (x56 : Int) (x57 : Int) (rows : Nat → List Int) (NX : Nat)
  | l3s1_1 (x10 : Int) (x56 : Int) (x57 : Int) (rows : Nat → List Int) (NX : Nat)
noncomputable def g17_s_1 (c : Ct) : List Bool := [true, decide ((↑c.n : Int) = (↑c.n : Int)), decide (c.n * 24 ≤ 70368744177664), decide ((↑c.n : Int) ≤ 70368744177664)]
theorem w17_s_1 (c : Ct) : outK prog f17 20 [1, 3, 21, 22, 23] (runK prog D15 F17 2000 (.code (bodyOf f17)) [] 0 ([ctT c] ++ List.replicate 159 undefT) ⟨0, []⟩ [] [])
    = some (OutT.loop 0 (loopAt f17 0).1 (loopAt f17 0).2, g17_s_1 c, { next := 1, objs := [(0, { elem := 29, sz := 1, cells := List.flatMap T.cells (List.replicate c.n T.nils) })] }, [(ctT c).ref 0, T.osl 0 1 0 c.n, T.slf false c.n fun i => lnT (c.line i), T.int .i64 (↑c.n : Int), T.int .i64 0], 160) := by kernel_rfl
noncomputable def g17_0_1 (c : Ct) (x22 : Int) (x23 : Int) (H : Hp) : List Bool := [true, true, decide (0 ≤ x23), decide (x23 < (↑c.n : Int)), true, decide (x23 < x22)]
theorem w17_0_1 (c : Ct) (x22 : Int) (x23 : Int) (H : Hp) (fr : List T) : outK prog f17 20 [1, 3, 4, 21, 22, 23, 29, 30, 31] (runK prog D15 F17 2000 (.code (loopAt f17 0).1) (.lp :: (loopAt f17 0).2) 0 (frK [1, 3, 21, 22, 23] [(ctT c).ref 0, T.osl 0 1 0 c.n, T.slf false c.n fun i => lnT (c.line i), T.int .i64 x22, T.int .i64 x23] fr 160) H [true] [])
    = some (OutT.loop 0 (loopAt f17 1).1 (loopAt f17 1).2, g17_0_1 c x22 x23 H, H, [(ctT c).ref 0, T.osl 0 1 0 c.n, T.int .i64 x23, T.slf false c.n fun i => lnT (c.line i), T.int .i64 x22, T.int .i64 x23, T.slf false (c.line x23.toNat).k fun i => spT ((c.line x23.toNat).from_ i), T.int .i64 (↑(c.line x23.toNat).k : Int), T.int .i64 0], 160) := by kernel_rfl
noncomputable def g17_0_2 (c : Ct) (x22 : Int) (x23 : Int) (H : Hp) : List Bool := [!decide (x23 < x22)]
theorem w17_0_2 (c : Ct) (x22 : Int) (x23 : Int) (H : Hp) (fr : List T) : outK prog f17 20 [1, 3, 55, 56, 57] (runK prog D15 F17 2000 (.code (loopAt f17 0).1) (.lp :: (loopAt f17 0).2) 0 (frK [1, 3, 21, 22, 23] [(ctT c).ref 0, T.osl 0 1 0 c.n, T.slf false c.n fun i => lnT (c.line i), T.int .i64 x22, T.int .i64 x23] fr 160) H [false] [])
    = some (OutT.loop 1 (loopAt f17 2).1 (loopAt f17 2).2, g17_0_2 c x22 x23 H, H, [(ctT c).ref 0, T.osl 0 1 0 c.n, T.slf false c.n fun i => lnT (c.line i), T.int .i64 (↑c.n : Int), T.int .i64 0], 160) := by kernel_rfl
noncomputable def g17_1_1 (c : Ct) (x4 : Int) (x22 : Int) (x23 : Int) (x30 : Int) (x31 : Int) (H : Hp) : List Bool := [true, obIn (H.new { elem := 3, sz := 1, cells := [T.int .i64 x4] }) 0 ((0 + bs c.n fun i => cmpS (c.line i).st ((c.line x23.toNat).from_ x31.toNat)) * 1 + 1), true, true, decide ((↑(bs c.n fun i => cmpS (c.line i).st ((c.line x23.toNat).from_ x31.toNat)) : Int) < (↑c.n : Int)), true, true, true, isNils ((obv H 0).cells.getD ((0 + bs c.n fun i => cmpS (c.line i).st ((c.line x23.toNat).from_ x31.toNat)) * 1) undefT), obIn H 0 ((0 + bs c.n fun i => cmpS (c.line i).st ((c.line x23.toNat).from_ x31.toNat)) * 1 + 1), true, true, decide ((↑(bs c.n fun i => cmpS (c.line i).st ((c.line x23.toNat).from_ x31.toNat)) : Int) < (↑c.n : Int)), isV (T.slf false c.n fun i => lnT (c.line i)) (lsT c.n c.line), isV (spT ((c.line x23.toNat).from_ x31.toNat)) (spT ((c.line x23.toNat).from_ x31.toNat)), modestB c.n c.line, true, true, decide (0 ≤ x31), decide (x31 < (↑(c.line x23.toNat).k : Int)), true, decide (x31 < x30)]
theorem w17_1_1 (c : Ct) (x4 : Int) (x22 : Int) (x23 : Int) (x30 : Int) (x31 : Int) (H : Hp) (fr : List T) : outK prog f17 20 [1, 3, 4, 21, 22, 23, 29, 30, 31] (runK prog D15 F17 2000 (.code (loopAt f17 1).1) (.lp :: (loopAt f17 1).2) 0 (frK [1, 3, 4, 21, 22, 23, 29, 30, 31] [(ctT c).ref 0, T.osl 0 1 0 c.n, T.int .i64 x4, T.slf false c.n fun i => lnT (c.line i), T.int .i64 x22, T.int .i64 x23, T.slf false (c.line x23.toNat).k fun i => spT ((c.line x23.toNat).from_ i), T.int .i64 x30, T.int .i64 x31] fr 160) H [true, true] [])
    = some (OutT.again 0, g17_1_1 c x4 x22 x23 x30 x31 H, { next := H.next + 1, objs := setOb ((H.next, { elem := 3, sz := 1, cells := [T.int .i64 x4] }) :: H.objs) 0 (have __src := obv (H.new { elem := 3, sz := 1, cells := [T.int .i64 x4] }) 0; { elem := __src.elem, sz := __src.sz, cells := spliceT (obv (H.new { elem := 3, sz := 1, cells := [T.int .i64 x4] }) 0).cells ((0 + bs c.n fun i => cmpS (c.line i).st ((c.line x23.toNat).from_ x31.toNat)) * 1) [T.osl H.next 1 0 1] }) }, [(ctT c).ref 0, T.osl 0 1 0 c.n, T.int .i64 x4, T.slf false c.n fun i => lnT (c.line i), T.int .i64 x22, T.int .i64 x23, T.slf false (c.line x23.toNat).k fun i => spT ((c.line x23.toNat).from_ i), T.int .i64 x30, T.int .i64 (IntKind.i64.wrap (x31 + 1))], 160) := by kernel_rfl
noncomputable def g17_1_2 (c : Ct) (x4 : Int) (x22 : Int) (x23 : Int) (x30 : Int) (x31 : Int) (H : Hp) : List Bool := [true, obIn ((H.drop (oslL ((obv H 0).cells.getD ((0 + bs c.n fun i => cmpS (c.line i).st ((c.line x23.toNat).from_ x31.toNat)) * 1) undefT))).new { elem := 3, sz := 1, cells := (obv H (oslL ((obv H 0).cells.getD ((0 + bs c.n fun i => cmpS (c.line i).st ((c.line x23.toNat).from_ x31.toNat)) * 1) undefT))).cells ++ [T.int .i64 x4] }) 0 ((0 + bs c.n fun i => cmpS (c.line i).st ((c.line x23.toNat).from_ x31.toNat)) * 1 + 1), true, true, decide ((↑(bs c.n fun i => cmpS (c.line i).st ((c.line x23.toNat).from_ x31.toNat)) : Int) < (↑c.n : Int)), true, true, obApp H (oslL ((obv H 0).cells.getD ((0 + bs c.n fun i => cmpS (c.line i).st ((c.line x23.toNat).from_ x31.toNat)) * 1) undefT)) 3 1 (oslN ((obv H 0).cells.getD ((0 + bs c.n fun i => cmpS (c.line i).st ((c.line x23.toNat).from_ x31.toNat)) * 1) undefT)), roomT (oslN ((obv H 0).cells.getD ((0 + bs c.n fun i => cmpS (c.line i).st ((c.line x23.toNat).from_ x31.toNat)) * 1) undefT) + 1) 8, isOsl1 ((obv H 0).cells.getD ((0 + bs c.n fun i => cmpS (c.line i).st ((c.line x23.toNat).from_ x31.toNat)) * 1) undefT), obIn H 0 ((0 + bs c.n fun i => cmpS (c.line i).st ((c.line x23.toNat).from_ x31.toNat)) * 1 + 1), true, true, decide ((↑(bs c.n fun i => cmpS (c.line i).st ((c.line x23.toNat).from_ x31.toNat)) : Int) < (↑c.n : Int)), isV (T.slf false c.n fun i => lnT (c.line i)) (lsT c.n c.line), isV (spT ((c.line x23.toNat).from_ x31.toNat)) (spT ((c.line x23.toNat).from_ x31.toNat)), modestB c.n c.line, true, true, decide (0 ≤ x31), decide (x31 < (↑(c.line x23.toNat).k : Int)), true, decide (x31 < x30)]
theorem w17_1_2 (c : Ct) (x4 : Int) (x22 : Int) (x23 : Int) (x30 : Int) (x31 : Int) (H : Hp) (fr : List T) : outK prog f17 20 [1, 3, 4, 21, 22, 23, 29, 30, 31] (runK prog D15 F17 2000 (.code (loopAt f17 1).1) (.lp :: (loopAt f17 1).2) 0 (frK [1, 3, 4, 21, 22, 23, 29, 30, 31] [(ctT c).ref 0, T.osl 0 1 0 c.n, T.int .i64 x4, T.slf false c.n fun i => lnT (c.line i), T.int .i64 x22, T.int .i64 x23, T.slf false (c.line x23.toNat).k fun i => spT ((c.line x23.toNat).from_ i), T.int .i64 x30, T.int .i64 x31] fr 160) H [true, false] [])
    = some (OutT.again 0, g17_1_2 c x4 x22 x23 x30 x31 H, { next := H.next + 1, objs := setOb ((H.next, { elem := 3, sz := 1, cells := (obv H (oslL ((obv H 0).cells.getD ((0 + bs c.n fun i => cmpS (c.line i).st ((c.line x23.toNat).from_ x31.toNat)) * 1) undefT))).cells ++ [T.int .i64 x4] }) :: dropOb H.objs (oslL ((obv H 0).cells.getD ((0 + bs c.n fun i => cmpS (c.line i).st ((c.line x23.toNat).from_ x31.toNat)) * 1) undefT))) 0 (have __src := obv ((H.drop (oslL ((obv H 0).cells.getD ((0 + bs c.n fun i => cmpS (c.line i).st ((c.line x23.toNat).from_ x31.toNat)) * 1) undefT))).new { elem := 3, sz := 1, cells := (obv H (oslL ((obv H 0).cells.getD ((0 + bs c.n fun i => cmpS (c.line i).st ((c.line x23.toNat).from_ x31.toNat)) * 1) undefT))).cells ++ [T.int .i64 x4] }) 0; { elem := __src.elem, sz := __src.sz, cells := spliceT (obv ((H.drop (oslL ((obv H 0).cells.getD ((0 + bs c.n fun i => cmpS (c.line i).st ((c.line x23.toNat).from_ x31.toNat)) * 1) undefT))).new { elem := 3, sz := 1, cells := (obv H (oslL ((obv H 0).cells.getD ((0 + bs c.n fun i => cmpS (c.line i).st ((c.line x23.toNat).from_ x31.toNat)) * 1) undefT))).cells ++ [T.int .i64 x4] }) 0).cells ((0 + bs c.n fun i => cmpS (c.line i).st ((c.line x23.toNat).from_ x31.toNat)) * 1) [T.osl H.next 1 0 (oslN ((obv H 0).cells.getD ((0 + bs c.n fun i => cmpS (c.line i).st ((c.line x23.toNat).from_ x31.toNat)) * 1) undefT) + 1)] }) }, [(ctT c).ref 0, T.osl 0 1 0 c.n, T.int .i64 x4, T.slf false c.n fun i => lnT (c.line i), T.int .i64 x22, T.int .i64 x23, T.slf false (c.line x23.toNat).k fun i => spT ((c.line x23.toNat).from_ i), T.int .i64 x30, T.int .i64 (IntKind.i64.wrap (x31 + 1))], 160) := by kernel_rfl
noncomputable def g17_1_3 (c : Ct) (x4 : Int) (x22 : Int) (x23 : Int) (x30 : Int) (x31 : Int) (H : Hp) : List Bool := [!decide (x31 < x30)]
theorem w17_1_3 (c : Ct) (x4 : Int) (x22 : Int) (x23 : Int) (x30 : Int) (x31 : Int) (H : Hp) (fr : List T) : outK prog f17 20 [1, 3, 21, 22, 23] (runK prog D15 F17 2000 (.code (loopAt f17 1).1) (.lp :: (loopAt f17 1).2) 0 (frK [1, 3, 4, 21, 22, 23, 29, 30, 31] [(ctT c).ref 0, T.osl 0 1 0 c.n, T.int .i64 x4, T.slf false c.n fun i => lnT (c.line i), T.int .i64 x22, T.int .i64 x23, T.slf false (c.line x23.toNat).k fun i => spT ((c.line x23.toNat).from_ i), T.int .i64 x30, T.int .i64 x31] fr 160) H [false] [])
    = some (OutT.again 1, g17_1_3 c x4 x22 x23 x30 x31 H, H, [(ctT c).ref 0, T.osl 0 1 0 c.n, T.slf false c.n fun i => lnT (c.line i), T.int .i64 x22, T.int .i64 (IntKind.i64.wrap (x23 + 1))], 160) := by kernel_rfl
noncomputable def g17_2_1 (c : Ct) (x56 : Int) (x57 : Int) (rows : Nat → List Int) (NX : Nat) : List Bool := [true, (↑(rows x57.toNat).length : Int) == 0, (↑(rows x57.toNat).length : Int) == 0, decide (0 ≤ x57), decide (x57 < (↑c.n : Int)), true, (c.line x57.toNat).fate == 1, isV (T.slf false (rows x57.toNat).length fun j => T.int .i64 ((rows x57.toNat).getD j 0)) (isT (rows x57.toNat).length fun i => (rows x57.toNat).getD i 0), isV (ctT c) (ctT c), decide ((rows x57.toNat).length ≤ 281474976710656), decide (∀ (i : Nat), i < (rows x57.toNat).length → 0 ≤ (rows x57.toNat).getD i 0 ∧ (rows x57.toNat).getD i 0 < (↑c.n : Int)), decide (0 ≤ x57), decide (x57 < (↑c.n : Int)), true, true, true, decide (0 ≤ x57), decide (x57 < (↑c.n : Int)), true, decide (x57 < x56)]
theorem w17_2_1 (c : Ct) (x56 : Int) (x57 : Int) (rows : Nat → List Int) (NX : Nat) (fr : List T) : outK prog f17 20 [] (runK prog D15 F17 2000 (.code (loopAt f17 2).1) (.lp :: (loopAt f17 2).2) 0 (frK [1, 3, 55, 56, 57] [(ctT c).ref 0, T.slf false c.n fun k => T.slf false (rows k).length fun j => T.int .i64 ((rows k).getD j 0), T.slf false c.n fun i => lnT (c.line i), T.int .i64 x56, T.int .i64 x57] fr 160) { next := NX, objs := [] } (bt 5 31) [])
    = some (OutT.done (some (T.int .i64 10)), g17_2_1 c x56 x57 rows NX, { next := 0, objs := [] }, [], 0) := by kernel_rfl
noncomputable def g17_2_2 (c : Ct) (x56 : Int) (x57 : Int) (rows : Nat → List Int) (NX : Nat) : List Bool := [any (rows x57.toNat).length fun i => (↑(c.line ((rows x57.toNat).getD i 0).toNat).k : Int) != 1, !(↑(rows x57.toNat).length : Int) == 0, !(↑(rows x57.toNat).length : Int) == 0, decide (0 ≤ x57), decide (x57 < (↑c.n : Int)), true, (c.line x57.toNat).fate == 1, isV (T.slf false (rows x57.toNat).length fun j => T.int .i64 ((rows x57.toNat).getD j 0)) (isT (rows x57.toNat).length fun i => (rows x57.toNat).getD i 0), isV (ctT c) (ctT c), decide ((rows x57.toNat).length ≤ 281474976710656), decide (∀ (i : Nat), i < (rows x57.toNat).length → 0 ≤ (rows x57.toNat).getD i 0 ∧ (rows x57.toNat).getD i 0 < (↑c.n : Int)), decide (0 ≤ x57), decide (x57 < (↑c.n : Int)), true, true, true, decide (0 ≤ x57), decide (x57 < (↑c.n : Int)), true, decide (x57 < x56)]
theorem w17_2_2 (c : Ct) (x56 : Int) (x57 : Int) (rows : Nat → List Int) (NX : Nat) (fr : List T) : outK prog f17 20 [] (runK prog D15 F17 2000 (.code (loopAt f17 2).1) (.lp :: (loopAt f17 2).2) 0 (frK [1, 3, 55, 56, 57] [(ctT c).ref 0, T.slf false c.n fun k => T.slf false (rows k).length fun j => T.int .i64 ((rows k).getD j 0), T.slf false c.n fun i => lnT (c.line i), T.int .i64 x56, T.int .i64 x57] fr 160) { next := NX, objs := [] } (bt 5 19) [])
    = some (OutT.done (some (T.int .i64 10)), g17_2_2 c x56 x57 rows NX, { next := 0, objs := [] }, [], 0) := by kernel_rfl
noncomputable def g17_2_3 (c : Ct) (x56 : Int) (x57 : Int) (rows : Nat → List Int) (NX : Nat) : List Bool := [decide (0 ≤ x57), decide (x57 < (↑c.n : Int)), true, !any (rows x57.toNat).length fun i => (↑(c.line ((rows x57.toNat).getD i 0).toNat).k : Int) != 1, !(↑(rows x57.toNat).length : Int) == 0, !(↑(rows x57.toNat).length : Int) == 0, decide (0 ≤ x57), decide (x57 < (↑c.n : Int)), true, (c.line x57.toNat).fate == 1, isV (T.slf false (rows x57.toNat).length fun j => T.int .i64 ((rows x57.toNat).getD j 0)) (isT (rows x57.toNat).length fun i => (rows x57.toNat).getD i 0), isV (ctT c) (ctT c), decide ((rows x57.toNat).length ≤ 281474976710656), decide (∀ (i : Nat), i < (rows x57.toNat).length → 0 ≤ (rows x57.toNat).getD i 0 ∧ (rows x57.toNat).getD i 0 < (↑c.n : Int)), decide (0 ≤ x57), decide (x57 < (↑c.n : Int)), true, true, true, decide (0 ≤ x57), decide (x57 < (↑c.n : Int)), true, decide (x57 < x56)]
theorem w17_2_3 (c : Ct) (x56 : Int) (x57 : Int) (rows : Nat → List Int) (NX : Nat) (fr : List T) : outK prog f17 20 [1, 3, 10, 55, 56, 57, 137, 138, 139] (runK prog D15 F17 2000 (.code (loopAt f17 2).1) (.lp :: (loopAt f17 2).2) 0 (frK [1, 3, 55, 56, 57] [(ctT c).ref 0, T.slf false c.n fun k => T.slf false (rows k).length fun j => T.int .i64 ((rows k).getD j 0), T.slf false c.n fun i => lnT (c.line i), T.int .i64 x56, T.int .i64 x57] fr 160) { next := NX, objs := [] } (bt 5 3) [])
    = some (OutT.loop 0 (loopAt f17 3).1 (loopAt f17 3).2, g17_2_3 c x56 x57 rows NX, { next := NX, objs := [] }, [(ctT c).ref 0, T.slf false c.n fun k => T.slf false (rows k).length fun j => T.int .i64 ((rows k).getD j 0), T.int .i64 x57, T.slf false c.n fun i => lnT (c.line i), T.int .i64 x56, T.int .i64 x57, T.slf false (shN (c.line x57.toNat).mass (↑(rows x57.toNat).length : Int)) fun i => T.int .i64 (shI (c.line x57.toNat).mass (↑(rows x57.toNat).length : Int) i), T.int .i64 (↑(shN (c.line x57.toNat).mass (↑(rows x57.toNat).length : Int)) : Int), T.int .i64 0], 160) := by kernel_rfl
noncomputable def g17_2_4 (c : Ct) (x56 : Int) (x57 : Int) (rows : Nat → List Int) (NX : Nat) : List Bool := [true, true, true, true, true, true, true, true, true, true, true, true, true, true, true, (↑(rows x57.toNat).length : Int) != 1, (↑(rows x57.toNat).length : Int) != 1, decide (0 ≤ x57), decide (x57 < (↑c.n : Int)), true, (c.line x57.toNat).closed == 5, !(c.line x57.toNat).fate == 1, isV (T.slf false (rows x57.toNat).length fun j => T.int .i64 ((rows x57.toNat).getD j 0)) (isT (rows x57.toNat).length fun i => (rows x57.toNat).getD i 0), isV (ctT c) (ctT c), decide ((rows x57.toNat).length ≤ 281474976710656), decide (∀ (i : Nat), i < (rows x57.toNat).length → 0 ≤ (rows x57.toNat).getD i 0 ∧ (rows x57.toNat).getD i 0 < (↑c.n : Int)), decide (0 ≤ x57), decide (x57 < (↑c.n : Int)), true, true, true, decide (0 ≤ x57), decide (x57 < (↑c.n : Int)), true, decide (x57 < x56)]
theorem w17_2_4 (c : Ct) (x56 : Int) (x57 : Int) (rows : Nat → List Int) (NX : Nat) (fr : List T) : outK prog f17 20 [] (runK prog D15 F17 2000 (.code (loopAt f17 2).1) (.lp :: (loopAt f17 2).2) 0 (frK [1, 3, 55, 56, 57] [(ctT c).ref 0, T.slf false c.n fun k => T.slf false (rows k).length fun j => T.int .i64 ((rows k).getD j 0), T.slf false c.n fun i => lnT (c.line i), T.int .i64 x56, T.int .i64 x57] fr 160) { next := NX, objs := [] } (bt 20 1048573) [])
    = some (OutT.done (some (T.int .i64 10)), g17_2_4 c x56 x57 rows NX, { next := 0, objs := [] }, [], 0) := by kernel_rfl
noncomputable def g17_2_5 (c : Ct) (x56 : Int) (x57 : Int) (rows : Nat → List Int) (NX : Nat) : List Bool := [true, any (rows x57.toNat).length fun i => (↑(c.line ((rows x57.toNat).getD i 0).toNat).k : Int) != 1, any (rows x57.toNat).length fun i => (↑(c.line ((rows x57.toNat).getD i 0).toNat).k : Int) != 1, any (rows x57.toNat).length fun i => (↑(c.line ((rows x57.toNat).getD i 0).toNat).k : Int) != 1, any (rows x57.toNat).length fun i => (↑(c.line ((rows x57.toNat).getD i 0).toNat).k : Int) != 1, any (rows x57.toNat).length fun i => (↑(c.line ((rows x57.toNat).getD i 0).toNat).k : Int) != 1, any (rows x57.toNat).length fun i => (↑(c.line ((rows x57.toNat).getD i 0).toNat).k : Int) != 1, any (rows x57.toNat).length fun i => (↑(c.line ((rows x57.toNat).getD i 0).toNat).k : Int) != 1, any (rows x57.toNat).length fun i => (↑(c.line ((rows x57.toNat).getD i 0).toNat).k : Int) != 1, any (rows x57.toNat).length fun i => (↑(c.line ((rows x57.toNat).getD i 0).toNat).k : Int) != 1, any (rows x57.toNat).length fun i => (↑(c.line ((rows x57.toNat).getD i 0).toNat).k : Int) != 1, any (rows x57.toNat).length fun i => (↑(c.line ((rows x57.toNat).getD i 0).toNat).k : Int) != 1, any (rows x57.toNat).length fun i => (↑(c.line ((rows x57.toNat).getD i 0).toNat).k : Int) != 1, any (rows x57.toNat).length fun i => (↑(c.line ((rows x57.toNat).getD i 0).toNat).k : Int) != 1, any (rows x57.toNat).length fun i => (↑(c.line ((rows x57.toNat).getD i 0).toNat).k : Int) != 1, !(↑(rows x57.toNat).length : Int) != 1, !(↑(rows x57.toNat).length : Int) != 1, decide (0 ≤ x57), decide (x57 < (↑c.n : Int)), true, (c.line x57.toNat).closed == 5, !(c.line x57.toNat).fate == 1, isV (T.slf false (rows x57.toNat).length fun j => T.int .i64 ((rows x57.toNat).getD j 0)) (isT (rows x57.toNat).length fun i => (rows x57.toNat).getD i 0), isV (ctT c) (ctT c), decide ((rows x57.toNat).length ≤ 281474976710656), decide (∀ (i : Nat), i < (rows x57.toNat).length → 0 ≤ (rows x57.toNat).getD i 0 ∧ (rows x57.toNat).getD i 0 < (↑c.n : Int)), decide (0 ≤ x57), decide (x57 < (↑c.n : Int)), true, true, true, decide (0 ≤ x57), decide (x57 < (↑c.n : Int)), true, decide (x57 < x56)]
theorem w17_2_5 (c : Ct) (x56 : Int) (x57 : Int) (rows : Nat → List Int) (NX : Nat) (fr : List T) : outK prog f17 20 [] (runK prog D15 F17 2000 (.code (loopAt f17 2).1) (.lp :: (loopAt f17 2).2) 0 (frK [1, 3, 55, 56, 57] [(ctT c).ref 0, T.slf false c.n fun k => T.slf false (rows k).length fun j => T.int .i64 ((rows k).getD j 0), T.slf false c.n fun i => lnT (c.line i), T.int .i64 x56, T.int .i64 x57] fr 160) { next := NX, objs := [] } (bt 20 1048549) [])
    = some (OutT.done (some (T.int .i64 10)), g17_2_5 c x56 x57 rows NX, { next := 0, objs := [] }, [], 0) := by kernel_rfl
noncomputable def g17_2_6 (c : Ct) (x56 : Int) (x57 : Int) (rows : Nat → List Int) (NX : Nat) : List Bool := [!arr (c.line ((rows x57.toNat).getD 0 0).toNat).st, !any (rows x57.toNat).length fun i => (↑(c.line ((rows x57.toNat).getD i 0).toNat).k : Int) != 1, !any (rows x57.toNat).length fun i => (↑(c.line ((rows x57.toNat).getD i 0).toNat).k : Int) != 1, isV (spT (c.line ((rows x57.toNat).getD 0 0).toNat).st) (spT (c.line ((rows x57.toNat).getD 0 0).toNat).st), !any (rows x57.toNat).length fun i => (↑(c.line ((rows x57.toNat).getD i 0).toNat).k : Int) != 1, !any (rows x57.toNat).length fun i => (↑(c.line ((rows x57.toNat).getD i 0).toNat).k : Int) != 1, !any (rows x57.toNat).length fun i => (↑(c.line ((rows x57.toNat).getD i 0).toNat).k : Int) != 1, decide (0 ≤ (rows x57.toNat).getD 0 0), decide ((rows x57.toNat).getD 0 0 < (↑c.n : Int)), true, !any (rows x57.toNat).length fun i => (↑(c.line ((rows x57.toNat).getD i 0).toNat).k : Int) != 1, !any (rows x57.toNat).length fun i => (↑(c.line ((rows x57.toNat).getD i 0).toNat).k : Int) != 1, true, decide (0 < (↑(rows x57.toNat).length : Int)), true, !any (rows x57.toNat).length fun i => (↑(c.line ((rows x57.toNat).getD i 0).toNat).k : Int) != 1, !any (rows x57.toNat).length fun i => (↑(c.line ((rows x57.toNat).getD i 0).toNat).k : Int) != 1, decide (0 ≤ x57), decide (x57 < (↑c.n : Int)), true, !any (rows x57.toNat).length fun i => (↑(c.line ((rows x57.toNat).getD i 0).toNat).k : Int) != 1, !any (rows x57.toNat).length fun i => (↑(c.line ((rows x57.toNat).getD i 0).toNat).k : Int) != 1, !any (rows x57.toNat).length fun i => (↑(c.line ((rows x57.toNat).getD i 0).toNat).k : Int) != 1, !any (rows x57.toNat).length fun i => (↑(c.line ((rows x57.toNat).getD i 0).toNat).k : Int) != 1, !any (rows x57.toNat).length fun i => (↑(c.line ((rows x57.toNat).getD i 0).toNat).k : Int) != 1, !(↑(rows x57.toNat).length : Int) != 1, !(↑(rows x57.toNat).length : Int) != 1, decide (0 ≤ x57), decide (x57 < (↑c.n : Int)), true, (c.line x57.toNat).closed == 5, !(c.line x57.toNat).fate == 1, isV (T.slf false (rows x57.toNat).length fun j => T.int .i64 ((rows x57.toNat).getD j 0)) (isT (rows x57.toNat).length fun i => (rows x57.toNat).getD i 0), isV (ctT c) (ctT c), decide ((rows x57.toNat).length ≤ 281474976710656), decide (∀ (i : Nat), i < (rows x57.toNat).length → 0 ≤ (rows x57.toNat).getD i 0 ∧ (rows x57.toNat).getD i 0 < (↑c.n : Int)), decide (0 ≤ x57), decide (x57 < (↑c.n : Int)), true, true, true, decide (0 ≤ x57), decide (x57 < (↑c.n : Int)), true, decide (x57 < x56)]
theorem w17_2_6 (c : Ct) (x56 : Int) (x57 : Int) (rows : Nat → List Int) (NX : Nat) (fr : List T) : outK prog f17 20 [] (runK prog D15 F17 2000 (.code (loopAt f17 2).1) (.lp :: (loopAt f17 2).2) 0 (frK [1, 3, 55, 56, 57] [(ctT c).ref 0, T.slf false c.n fun k => T.slf false (rows k).length fun j => T.int .i64 ((rows k).getD j 0), T.slf false c.n fun i => lnT (c.line i), T.int .i64 x56, T.int .i64 x57] fr 160) { next := NX, objs := [] } (bt 20 524293) [])
    = some (OutT.done (some (T.int .i64 10)), g17_2_6 c x56 x57 rows NX, { next := 0, objs := [] }, [], 0) := by kernel_rfl
noncomputable def g17_2_7 (c : Ct) (x56 : Int) (x57 : Int) (rows : Nat → List Int) (NX : Nat) : List Bool := [!!arr (c.line ((rows x57.toNat).getD 0 0).toNat).st, !any (rows x57.toNat).length fun i => (↑(c.line ((rows x57.toNat).getD i 0).toNat).k : Int) != 1, !any (rows x57.toNat).length fun i => (↑(c.line ((rows x57.toNat).getD i 0).toNat).k : Int) != 1, isV (spT (c.line ((rows x57.toNat).getD 0 0).toNat).st) (spT (c.line ((rows x57.toNat).getD 0 0).toNat).st), !any (rows x57.toNat).length fun i => (↑(c.line ((rows x57.toNat).getD i 0).toNat).k : Int) != 1, !any (rows x57.toNat).length fun i => (↑(c.line ((rows x57.toNat).getD i 0).toNat).k : Int) != 1, !any (rows x57.toNat).length fun i => (↑(c.line ((rows x57.toNat).getD i 0).toNat).k : Int) != 1, decide (0 ≤ (rows x57.toNat).getD 0 0), decide ((rows x57.toNat).getD 0 0 < (↑c.n : Int)), true, !any (rows x57.toNat).length fun i => (↑(c.line ((rows x57.toNat).getD i 0).toNat).k : Int) != 1, !any (rows x57.toNat).length fun i => (↑(c.line ((rows x57.toNat).getD i 0).toNat).k : Int) != 1, true, decide (0 < (↑(rows x57.toNat).length : Int)), true, !any (rows x57.toNat).length fun i => (↑(c.line ((rows x57.toNat).getD i 0).toNat).k : Int) != 1, !any (rows x57.toNat).length fun i => (↑(c.line ((rows x57.toNat).getD i 0).toNat).k : Int) != 1, decide (0 ≤ x57), decide (x57 < (↑c.n : Int)), true, !any (rows x57.toNat).length fun i => (↑(c.line ((rows x57.toNat).getD i 0).toNat).k : Int) != 1, !any (rows x57.toNat).length fun i => (↑(c.line ((rows x57.toNat).getD i 0).toNat).k : Int) != 1, !any (rows x57.toNat).length fun i => (↑(c.line ((rows x57.toNat).getD i 0).toNat).k : Int) != 1, !any (rows x57.toNat).length fun i => (↑(c.line ((rows x57.toNat).getD i 0).toNat).k : Int) != 1, !any (rows x57.toNat).length fun i => (↑(c.line ((rows x57.toNat).getD i 0).toNat).k : Int) != 1, !(↑(rows x57.toNat).length : Int) != 1, !(↑(rows x57.toNat).length : Int) != 1, decide (0 ≤ x57), decide (x57 < (↑c.n : Int)), true, (c.line x57.toNat).closed == 5, !(c.line x57.toNat).fate == 1, isV (T.slf false (rows x57.toNat).length fun j => T.int .i64 ((rows x57.toNat).getD j 0)) (isT (rows x57.toNat).length fun i => (rows x57.toNat).getD i 0), isV (ctT c) (ctT c), decide ((rows x57.toNat).length ≤ 281474976710656), decide (∀ (i : Nat), i < (rows x57.toNat).length → 0 ≤ (rows x57.toNat).getD i 0 ∧ (rows x57.toNat).getD i 0 < (↑c.n : Int)), decide (0 ≤ x57), decide (x57 < (↑c.n : Int)), true, true, true, decide (0 ≤ x57), decide (x57 < (↑c.n : Int)), true, decide (x57 < x56)]
theorem w17_2_7 (c : Ct) (x56 : Int) (x57 : Int) (rows : Nat → List Int) (NX : Nat) (fr : List T) : outK prog f17 20 [1, 3, 10, 55, 56, 57, 137, 138, 139] (runK prog D15 F17 2000 (.code (loopAt f17 2).1) (.lp :: (loopAt f17 2).2) 0 (frK [1, 3, 55, 56, 57] [(ctT c).ref 0, T.slf false c.n fun k => T.slf false (rows k).length fun j => T.int .i64 ((rows k).getD j 0), T.slf false c.n fun i => lnT (c.line i), T.int .i64 x56, T.int .i64 x57] fr 160) { next := NX, objs := [] } (bt 20 5) [])
    = some (OutT.loop 0 (loopAt f17 3).1 (loopAt f17 3).2, g17_2_7 c x56 x57 rows NX, { next := NX, objs := [] }, [(ctT c).ref 0, T.slf false c.n fun k => T.slf false (rows k).length fun j => T.int .i64 ((rows k).getD j 0), T.int .i64 x57, T.slf false c.n fun i => lnT (c.line i), T.int .i64 x56, T.int .i64 x57, T.sl true [T.int .i64 (c.line x57.toNat).mass], T.int .i64 (↑1 : Int), T.int .i64 0], 160) := by kernel_rfl
noncomputable def g17_2_8 (c : Ct) (x56 : Int) (x57 : Int) (rows : Nat → List Int) (NX : Nat) : List Bool := [(↑(rows x57.toNat).length : Int) != 1, decide (0 ≤ x57), decide (x57 < (↑c.n : Int)), true, (c.line x57.toNat).fate == 2, !(c.line x57.toNat).closed == 5, !(c.line x57.toNat).fate == 1, isV (T.slf false (rows x57.toNat).length fun j => T.int .i64 ((rows x57.toNat).getD j 0)) (isT (rows x57.toNat).length fun i => (rows x57.toNat).getD i 0), isV (ctT c) (ctT c), decide ((rows x57.toNat).length ≤ 281474976710656), decide (∀ (i : Nat), i < (rows x57.toNat).length → 0 ≤ (rows x57.toNat).getD i 0 ∧ (rows x57.toNat).getD i 0 < (↑c.n : Int)), decide (0 ≤ x57), decide (x57 < (↑c.n : Int)), true, true, true, decide (0 ≤ x57), decide (x57 < (↑c.n : Int)), true, decide (x57 < x56)]
theorem w17_2_8 (c : Ct) (x56 : Int) (x57 : Int) (rows : Nat → List Int) (NX : Nat) (fr : List T) : outK prog f17 20 [] (runK prog D15 F17 2000 (.code (loopAt f17 2).1) (.lp :: (loopAt f17 2).2) 0 (frK [1, 3, 55, 56, 57] [(ctT c).ref 0, T.slf false c.n fun k => T.slf false (rows k).length fun j => T.int .i64 ((rows k).getD j 0), T.slf false c.n fun i => lnT (c.line i), T.int .i64 x56, T.int .i64 x57] fr 160) { next := NX, objs := [] } (bt 5 25) [])
    = some (OutT.done (some (T.int .i64 10)), g17_2_8 c x56 x57 rows NX, { next := 0, objs := [] }, [], 0) := by kernel_rfl
noncomputable def g17_2_9 (c : Ct) (x56 : Int) (x57 : Int) (rows : Nat → List Int) (NX : Nat) : List Bool := [!(↑(rows x57.toNat).length : Int) != 1, decide (0 ≤ x57), decide (x57 < (↑c.n : Int)), true, (c.line x57.toNat).fate == 2, !(c.line x57.toNat).closed == 5, !(c.line x57.toNat).fate == 1, isV (T.slf false (rows x57.toNat).length fun j => T.int .i64 ((rows x57.toNat).getD j 0)) (isT (rows x57.toNat).length fun i => (rows x57.toNat).getD i 0), isV (ctT c) (ctT c), decide ((rows x57.toNat).length ≤ 281474976710656), decide (∀ (i : Nat), i < (rows x57.toNat).length → 0 ≤ (rows x57.toNat).getD i 0 ∧ (rows x57.toNat).getD i 0 < (↑c.n : Int)), decide (0 ≤ x57), decide (x57 < (↑c.n : Int)), true, true, true, decide (0 ≤ x57), decide (x57 < (↑c.n : Int)), true, decide (x57 < x56)]
theorem w17_2_9 (c : Ct) (x56 : Int) (x57 : Int) (rows : Nat → List Int) (NX : Nat) (fr : List T) : outK prog f17 20 [1, 3, 10, 55, 56, 57, 137, 138, 139] (runK prog D15 F17 2000 (.code (loopAt f17 2).1) (.lp :: (loopAt f17 2).2) 0 (frK [1, 3, 55, 56, 57] [(ctT c).ref 0, T.slf false c.n fun k => T.slf false (rows k).length fun j => T.int .i64 ((rows k).getD j 0), T.slf false c.n fun i => lnT (c.line i), T.int .i64 x56, T.int .i64 x57] fr 160) { next := NX, objs := [] } (bt 5 9) [])
    = some (OutT.loop 0 (loopAt f17 3).1 (loopAt f17 3).2, g17_2_9 c x56 x57 rows NX, { next := NX, objs := [] }, [(ctT c).ref 0, T.slf false c.n fun k => T.slf false (rows k).length fun j => T.int .i64 ((rows k).getD j 0), T.int .i64 x57, T.slf false c.n fun i => lnT (c.line i), T.int .i64 x56, T.int .i64 x57, T.nils, T.int .i64 0, T.int .i64 0], 160) := by kernel_rfl
noncomputable def g17_2_10 (c : Ct) (x56 : Int) (x57 : Int) (rows : Nat → List Int) (NX : Nat) : List Bool := [decide ((↑(rows x57.toNat).length : Int) > 0), decide (0 ≤ x57), decide (x57 < (↑c.n : Int)), true, !(c.line x57.toNat).fate == 2, !(c.line x57.toNat).closed == 5, !(c.line x57.toNat).fate == 1, isV (T.slf false (rows x57.toNat).length fun j => T.int .i64 ((rows x57.toNat).getD j 0)) (isT (rows x57.toNat).length fun i => (rows x57.toNat).getD i 0), isV (ctT c) (ctT c), decide ((rows x57.toNat).length ≤ 281474976710656), decide (∀ (i : Nat), i < (rows x57.toNat).length → 0 ≤ (rows x57.toNat).getD i 0 ∧ (rows x57.toNat).getD i 0 < (↑c.n : Int)), decide (0 ≤ x57), decide (x57 < (↑c.n : Int)), true, true, true, decide (0 ≤ x57), decide (x57 < (↑c.n : Int)), true, decide (x57 < x56)]
theorem w17_2_10 (c : Ct) (x56 : Int) (x57 : Int) (rows : Nat → List Int) (NX : Nat) (fr : List T) : outK prog f17 20 [] (runK prog D15 F17 2000 (.code (loopAt f17 2).1) (.lp :: (loopAt f17 2).2) 0 (frK [1, 3, 55, 56, 57] [(ctT c).ref 0, T.slf false c.n fun k => T.slf false (rows k).length fun j => T.int .i64 ((rows k).getD j 0), T.slf false c.n fun i => lnT (c.line i), T.int .i64 x56, T.int .i64 x57] fr 160) { next := NX, objs := [] } (bt 5 17) [])
    = some (OutT.done (some (T.int .i64 10)), g17_2_10 c x56 x57 rows NX, { next := 0, objs := [] }, [], 0) := by kernel_rfl
noncomputable def g17_2_11 (c : Ct) (x56 : Int) (x57 : Int) (rows : Nat → List Int) (NX : Nat) : List Bool := [!decide ((↑(rows x57.toNat).length : Int) > 0), decide (0 ≤ x57), decide (x57 < (↑c.n : Int)), true, !(c.line x57.toNat).fate == 2, !(c.line x57.toNat).closed == 5, !(c.line x57.toNat).fate == 1, isV (T.slf false (rows x57.toNat).length fun j => T.int .i64 ((rows x57.toNat).getD j 0)) (isT (rows x57.toNat).length fun i => (rows x57.toNat).getD i 0), isV (ctT c) (ctT c), decide ((rows x57.toNat).length ≤ 281474976710656), decide (∀ (i : Nat), i < (rows x57.toNat).length → 0 ≤ (rows x57.toNat).getD i 0 ∧ (rows x57.toNat).getD i 0 < (↑c.n : Int)), decide (0 ≤ x57), decide (x57 < (↑c.n : Int)), true, true, true, decide (0 ≤ x57), decide (x57 < (↑c.n : Int)), true, decide (x57 < x56)]
theorem w17_2_11 (c : Ct) (x56 : Int) (x57 : Int) (rows : Nat → List Int) (NX : Nat) (fr : List T) : outK prog f17 20 [1, 3, 10, 55, 56, 57, 137, 138, 139] (runK prog D15 F17 2000 (.code (loopAt f17 2).1) (.lp :: (loopAt f17 2).2) 0 (frK [1, 3, 55, 56, 57] [(ctT c).ref 0, T.slf false c.n fun k => T.slf false (rows k).length fun j => T.int .i64 ((rows k).getD j 0), T.slf false c.n fun i => lnT (c.line i), T.int .i64 x56, T.int .i64 x57] fr 160) { next := NX, objs := [] } (bt 5 1) [])
    = some (OutT.loop 0 (loopAt f17 3).1 (loopAt f17 3).2, g17_2_11 c x56 x57 rows NX, { next := NX, objs := [] }, [(ctT c).ref 0, T.slf false c.n fun k => T.slf false (rows k).length fun j => T.int .i64 ((rows k).getD j 0), T.int .i64 x57, T.slf false c.n fun i => lnT (c.line i), T.int .i64 x56, T.int .i64 x57, T.nils, T.int .i64 0, T.int .i64 0], 160) := by kernel_rfl
noncomputable def g17_2_12 (c : Ct) (x56 : Int) (x57 : Int) (rows : Nat → List Int) (NX : Nat) : List Bool := [!decide (x57 < x56)]
theorem w17_2_12 (c : Ct) (x56 : Int) (x57 : Int) (rows : Nat → List Int) (NX : Nat) (fr : List T) : outK prog f17 20 [] (runK prog D15 F17 2000 (.code (loopAt f17 2).1) (.lp :: (loopAt f17 2).2) 0 (frK [1, 3, 55, 56, 57] [(ctT c).ref 0, T.slf false c.n fun k => T.slf false (rows k).length fun j => T.int .i64 ((rows k).getD j 0), T.slf false c.n fun i => lnT (c.line i), T.int .i64 x56, T.int .i64 x57] fr 160) { next := NX, objs := [] } [false] [])
    = some (OutT.done (some (T.int .i64 0)), g17_2_12 c x56 x57 rows NX, { next := 0, objs := [] }, [], 0) := by kernel_rfl
noncomputable def g17_3f_1 (c : Ct) (x10 : Int) (x56 : Int) (x57 : Int) (x138 : Int) (x139 : Int) (rows : Nat → List Int) (NX : Nat) : List Bool := [(c.line ((rows x10.toNat).getD x139.toNat 0).toNat).mass != shI (c.line x57.toNat).mass (↑(rows x57.toNat).length : Int) x139.toNat, decide (0 ≤ (rows x10.toNat).getD x139.toNat 0), decide ((rows x10.toNat).getD x139.toNat 0 < (↑c.n : Int)), true, decide (0 ≤ x139), decide (x139 < (↑(rows x10.toNat).length : Int)), true, decide (0 ≤ x10), decide (x10 < (↑c.n : Int)), true, decide (0 ≤ x139), decide (x139 < (↑(shN (c.line x57.toNat).mass (↑(rows x57.toNat).length : Int)) : Int)), true, decide (x139 < x138)]
theorem w17_3f_1 (c : Ct) (x10 : Int) (x56 : Int) (x57 : Int) (x138 : Int) (x139 : Int) (rows : Nat → List Int) (NX : Nat) (fr : List T) : outK prog f17 20 [] (runK prog D15 F17 2000 (.code (loopAt f17 3).1) (.lp :: (loopAt f17 3).2) 0 (frK [1, 3, 10, 55, 56, 57, 137, 138, 139] [(ctT c).ref 0, T.slf false c.n fun k => T.slf false (rows k).length fun j => T.int .i64 ((rows k).getD j 0), T.int .i64 x10, T.slf false c.n fun i => lnT (c.line i), T.int .i64 x56, T.int .i64 x57, T.slf false (shN (c.line x57.toNat).mass (↑(rows x57.toNat).length : Int)) fun i => T.int .i64 (shI (c.line x57.toNat).mass (↑(rows x57.toNat).length : Int) i), T.int .i64 x138, T.int .i64 x139] fr 160) { next := NX, objs := [] } [true, true] [])
    = some (OutT.done (some (T.int .i64 38)), g17_3f_1 c x10 x56 x57 x138 x139 rows NX, { next := 0, objs := [] }, [], 0) := by kernel_rfl
noncomputable def g17_3f_2 (c : Ct) (x10 : Int) (x56 : Int) (x57 : Int) (x138 : Int) (x139 : Int) (rows : Nat → List Int) (NX : Nat) : List Bool := [!(c.line ((rows x10.toNat).getD x139.toNat 0).toNat).mass != shI (c.line x57.toNat).mass (↑(rows x57.toNat).length : Int) x139.toNat, decide (0 ≤ (rows x10.toNat).getD x139.toNat 0), decide ((rows x10.toNat).getD x139.toNat 0 < (↑c.n : Int)), true, decide (0 ≤ x139), decide (x139 < (↑(rows x10.toNat).length : Int)), true, decide (0 ≤ x10), decide (x10 < (↑c.n : Int)), true, decide (0 ≤ x139), decide (x139 < (↑(shN (c.line x57.toNat).mass (↑(rows x57.toNat).length : Int)) : Int)), true, decide (x139 < x138)]
theorem w17_3f_2 (c : Ct) (x10 : Int) (x56 : Int) (x57 : Int) (x138 : Int) (x139 : Int) (rows : Nat → List Int) (NX : Nat) (fr : List T) : outK prog f17 20 [1, 3, 10, 55, 56, 57, 137, 138, 139] (runK prog D15 F17 2000 (.code (loopAt f17 3).1) (.lp :: (loopAt f17 3).2) 0 (frK [1, 3, 10, 55, 56, 57, 137, 138, 139] [(ctT c).ref 0, T.slf false c.n fun k => T.slf false (rows k).length fun j => T.int .i64 ((rows k).getD j 0), T.int .i64 x10, T.slf false c.n fun i => lnT (c.line i), T.int .i64 x56, T.int .i64 x57, T.slf false (shN (c.line x57.toNat).mass (↑(rows x57.toNat).length : Int)) fun i => T.int .i64 (shI (c.line x57.toNat).mass (↑(rows x57.toNat).length : Int) i), T.int .i64 x138, T.int .i64 x139] fr 160) { next := NX, objs := [] } [true, false] [])
    = some (OutT.again 0, g17_3f_2 c x10 x56 x57 x138 x139 rows NX, { next := NX, objs := [] }, [(ctT c).ref 0, T.slf false c.n fun k => T.slf false (rows k).length fun j => T.int .i64 ((rows k).getD j 0), T.int .i64 x10, T.slf false c.n fun i => lnT (c.line i), T.int .i64 x56, T.int .i64 x57, T.slf false (shN (c.line x57.toNat).mass (↑(rows x57.toNat).length : Int)) fun i => T.int .i64 (shI (c.line x57.toNat).mass (↑(rows x57.toNat).length : Int) i), T.int .i64 x138, T.int .i64 (IntKind.i64.wrap (x139 + 1))], 160) := by kernel_rfl
noncomputable def g17_3f_3 (c : Ct) (x10 : Int) (x56 : Int) (x57 : Int) (x138 : Int) (x139 : Int) (rows : Nat → List Int) (NX : Nat) : List Bool := [!decide (x139 < x138)]
theorem w17_3f_3 (c : Ct) (x10 : Int) (x56 : Int) (x57 : Int) (x138 : Int) (x139 : Int) (rows : Nat → List Int) (NX : Nat) (fr : List T) : outK prog f17 20 [1, 3, 55, 56, 57] (runK prog D15 F17 2000 (.code (loopAt f17 3).1) (.lp :: (loopAt f17 3).2) 0 (frK [1, 3, 10, 55, 56, 57, 137, 138, 139] [(ctT c).ref 0, T.slf false c.n fun k => T.slf false (rows k).length fun j => T.int .i64 ((rows k).getD j 0), T.int .i64 x10, T.slf false c.n fun i => lnT (c.line i), T.int .i64 x56, T.int .i64 x57, T.slf false (shN (c.line x57.toNat).mass (↑(rows x57.toNat).length : Int)) fun i => T.int .i64 (shI (c.line x57.toNat).mass (↑(rows x57.toNat).length : Int) i), T.int .i64 x138, T.int .i64 x139] fr 160) { next := NX, objs := [] } [false] [])
    = some (OutT.again 1, g17_3f_3 c x10 x56 x57 x138 x139 rows NX, { next := NX, objs := [] }, [(ctT c).ref 0, T.slf false c.n fun k => T.slf false (rows k).length fun j => T.int .i64 ((rows k).getD j 0), T.slf false c.n fun i => lnT (c.line i), T.int .i64 x56, T.int .i64 (IntKind.i64.wrap (x57 + 1))], 160) := by kernel_rfl
noncomputable def g17_3s1_0_1 (c : Ct) (x10 : Int) (x56 : Int) (x57 : Int) (rows : Nat → List Int) (NX : Nat) : List Bool := [(c.line ((rows x10.toNat).getD 0 0).toNat).mass != (c.line x57.toNat).mass, decide (0 ≤ (rows x10.toNat).getD 0 0), decide ((rows x10.toNat).getD 0 0 < (↑c.n : Int)), true, true, decide (0 < (↑(rows x10.toNat).length : Int)), true, decide (0 ≤ x10), decide (x10 < (↑c.n : Int)), true, true, true, true, true]
theorem w17_3s1_0_1 (c : Ct) (x10 : Int) (x56 : Int) (x57 : Int) (rows : Nat → List Int) (NX : Nat) (fr : List T) : outK prog f17 20 [] (runK prog D15 F17 2000 (.code (loopAt f17 3).1) (.lp :: (loopAt f17 3).2) 0 (frK [1, 3, 10, 55, 56, 57, 137, 138, 139] [(ctT c).ref 0, T.slf false c.n fun k => T.slf false (rows k).length fun j => T.int .i64 ((rows k).getD j 0), T.int .i64 x10, T.slf false c.n fun i => lnT (c.line i), T.int .i64 x56, T.int .i64 x57, T.sl true [T.int .i64 (c.line x57.toNat).mass], T.int .i64 1, T.int .i64 0] fr 160) { next := NX, objs := [] } [true, true] [])
    = some (OutT.done (some (T.int .i64 38)), g17_3s1_0_1 c x10 x56 x57 rows NX, { next := 0, objs := [] }, [], 0) := by kernel_rfl
noncomputable def g17_3s1_0_2 (c : Ct) (x10 : Int) (x56 : Int) (x57 : Int) (rows : Nat → List Int) (NX : Nat) : List Bool := [!(c.line ((rows x10.toNat).getD 0 0).toNat).mass != (c.line x57.toNat).mass, decide (0 ≤ (rows x10.toNat).getD 0 0), decide ((rows x10.toNat).getD 0 0 < (↑c.n : Int)), true, true, decide (0 < (↑(rows x10.toNat).length : Int)), true, decide (0 ≤ x10), decide (x10 < (↑c.n : Int)), true, true, true, true, true]
theorem w17_3s1_0_2 (c : Ct) (x10 : Int) (x56 : Int) (x57 : Int) (rows : Nat → List Int) (NX : Nat) (fr : List T) : outK prog f17 20 [1, 3, 10, 55, 56, 57, 137, 138, 139] (runK prog D15 F17 2000 (.code (loopAt f17 3).1) (.lp :: (loopAt f17 3).2) 0 (frK [1, 3, 10, 55, 56, 57, 137, 138, 139] [(ctT c).ref 0, T.slf false c.n fun k => T.slf false (rows k).length fun j => T.int .i64 ((rows k).getD j 0), T.int .i64 x10, T.slf false c.n fun i => lnT (c.line i), T.int .i64 x56, T.int .i64 x57, T.sl true [T.int .i64 (c.line x57.toNat).mass], T.int .i64 1, T.int .i64 0] fr 160) { next := NX, objs := [] } [true, false] [])
    = some (OutT.again 0, g17_3s1_0_2 c x10 x56 x57 rows NX, { next := NX, objs := [] }, [(ctT c).ref 0, T.slf false c.n fun k => T.slf false (rows k).length fun j => T.int .i64 ((rows k).getD j 0), T.int .i64 x10, T.slf false c.n fun i => lnT (c.line i), T.int .i64 x56, T.int .i64 x57, T.sl true [T.int .i64 (c.line x57.toNat).mass], T.int .i64 1, T.int .i64 (IntKind.i64.wrap (0 + 1))], 160) := by kernel_rfl
noncomputable def g17_3n0_0_1 (c : Ct) (x10 : Int) (x56 : Int) (x57 : Int) (rows : Nat → List Int) (NX : Nat) : List Bool := [true]
theorem w17_3n0_0_1 (c : Ct) (x10 : Int) (x56 : Int) (x57 : Int) (rows : Nat → List Int) (NX : Nat) (fr : List T) : outK prog f17 20 [1, 3, 55, 56, 57] (runK prog D15 F17 2000 (.code (loopAt f17 3).1) (.lp :: (loopAt f17 3).2) 0 (frK [1, 3, 10, 55, 56, 57, 137, 138, 139] [(ctT c).ref 0, T.slf false c.n fun k => T.slf false (rows k).length fun j => T.int .i64 ((rows k).getD j 0), T.int .i64 x10, T.slf false c.n fun i => lnT (c.line i), T.int .i64 x56, T.int .i64 x57, T.nils, T.int .i64 0, T.int .i64 0] fr 160) { next := NX, objs := [] } [false] [])
    = some (OutT.again 1, g17_3n0_0_1 c x10 x56 x57 rows NX, { next := NX, objs := [] }, [(ctT c).ref 0, T.slf false c.n fun k => T.slf false (rows k).length fun j => T.int .i64 ((rows k).getD j 0), T.slf false c.n fun i => lnT (c.line i), T.int .i64 x56, T.int .i64 (IntKind.i64.wrap (x57 + 1))], 160) := by kernel_rfl
noncomputable def g17_3s1_1_1 (c : Ct) (x10 : Int) (x56 : Int) (x57 : Int) (rows : Nat → List Int) (NX : Nat) : List Bool := [true]
theorem w17_3s1_1_1 (c : Ct) (x10 : Int) (x56 : Int) (x57 : Int) (rows : Nat → List Int) (NX : Nat) (fr : List T) : outK prog f17 20 [1, 3, 55, 56, 57] (runK prog D15 F17 2000 (.code (loopAt f17 3).1) (.lp :: (loopAt f17 3).2) 0 (frK [1, 3, 10, 55, 56, 57, 137, 138, 139] [(ctT c).ref 0, T.slf false c.n fun k => T.slf false (rows k).length fun j => T.int .i64 ((rows k).getD j 0), T.int .i64 x10, T.slf false c.n fun i => lnT (c.line i), T.int .i64 x56, T.int .i64 x57, T.sl true [T.int .i64 (c.line x57.toNat).mass], T.int .i64 1, T.int .i64 1] fr 160) { next := NX, objs := [] } [false] [])
    = some (OutT.again 1, g17_3s1_1_1 c x10 x56 x57 rows NX, { next := NX, objs := [] }, [(ctT c).ref 0, T.slf false c.n fun k => T.slf false (rows k).length fun j => T.int .i64 ((rows k).getD j 0), T.slf false c.n fun i => lnT (c.line i), T.int .i64 x56, T.int .i64 (IntKind.i64.wrap (x57 + 1))], 160) := by kernel_rfl
noncomputable def step17_0 (c : Ct) (x22 : Int) (x23 : Int) (H : Hp) : Option (S17 ⊕ T) :=
  (if decide (x23 < x22) then (if allT (g17_0_1 c x22 x23 H) then some (.inl (.l1 x23 x22 x23 (↑(c.line x23.toNat).k : Int) 0 H)) else none) else (if (allT (g17_0_2 c x22 x23 H) && pB (rowsOk c.n H)) then some (.inl (.l2 (↑c.n : Int) 0 (rowsOf H) H.next)) else none))
noncomputable def V17_0 (c : Ct) (x22 : Int) (x23 : Int) (H : Hp) : S17 ⊕ T :=
  (if decide (x23 < x22) then (.inl (.l1 x23 x22 x23 (↑(c.line x23.toNat).k : Int) 0 H)) else (.inl (.l2 (↑c.n : Int) 0 (rowsOf H) H.next)))
noncomputable def K17_0 (c : Ct) (x22 : Int) (x23 : Int) (H : Hp) : Bool :=
  (if decide (x23 < x22) then (allT (g17_0_1 c x22 x23 H)) else (allT (g17_0_2 c x22 x23 H) && pB (rowsOk c.n H)))
theorem T17_0 (c : Ct) (x22 : Int) (x23 : Int) (H : Hp) (hk : K17_0 c x22 x23 H = true) : step17_0 c x22 x23 H = some (V17_0 c x22 x23 H) :=
  (tree_if tree_leaf tree_leaf) hk
noncomputable def step17_1 (c : Ct) (x4 : Int) (x22 : Int) (x23 : Int) (x30 : Int) (x31 : Int) (H : Hp) : Option (S17 ⊕ T) :=
  (if decide (x31 < x30) then (if isNils ((obv H 0).cells.getD ((0 + bs c.n fun i => cmpS (c.line i).st ((c.line x23.toNat).from_ x31.toNat)) * 1) undefT) then (if allT (g17_1_1 c x4 x22 x23 x30 x31 H) then some (.inl (.l1 x4 x22 x23 x30 (IntKind.i64.wrap (x31 + 1)) ({ next := H.next + 1, objs := setOb ((H.next, { elem := 3, sz := 1, cells := [T.int .i64 x4] }) :: H.objs) 0 (have __src := obv (H.new { elem := 3, sz := 1, cells := [T.int .i64 x4] }) 0; { elem := __src.elem, sz := __src.sz, cells := spliceT (obv (H.new { elem := 3, sz := 1, cells := [T.int .i64 x4] }) 0).cells ((0 + bs c.n fun i => cmpS (c.line i).st ((c.line x23.toNat).from_ x31.toNat)) * 1) [T.osl H.next 1 0 1] }) }))) else none) else (if allT (g17_1_2 c x4 x22 x23 x30 x31 H) then some (.inl (.l1 x4 x22 x23 x30 (IntKind.i64.wrap (x31 + 1)) ({ next := H.next + 1, objs := setOb ((H.next, { elem := 3, sz := 1, cells := (obv H (oslL ((obv H 0).cells.getD ((0 + bs c.n fun i => cmpS (c.line i).st ((c.line x23.toNat).from_ x31.toNat)) * 1) undefT))).cells ++ [T.int .i64 x4] }) :: dropOb H.objs (oslL ((obv H 0).cells.getD ((0 + bs c.n fun i => cmpS (c.line i).st ((c.line x23.toNat).from_ x31.toNat)) * 1) undefT))) 0 (have __src := obv ((H.drop (oslL ((obv H 0).cells.getD ((0 + bs c.n fun i => cmpS (c.line i).st ((c.line x23.toNat).from_ x31.toNat)) * 1) undefT))).new { elem := 3, sz := 1, cells := (obv H (oslL ((obv H 0).cells.getD ((0 + bs c.n fun i => cmpS (c.line i).st ((c.line x23.toNat).from_ x31.toNat)) * 1) undefT))).cells ++ [T.int .i64 x4] }) 0; { elem := __src.elem, sz := __src.sz, cells := spliceT (obv ((H.drop (oslL ((obv H 0).cells.getD ((0 + bs c.n fun i => cmpS (c.line i).st ((c.line x23.toNat).from_ x31.toNat)) * 1) undefT))).new { elem := 3, sz := 1, cells := (obv H (oslL ((obv H 0).cells.getD ((0 + bs c.n fun i => cmpS (c.line i).st ((c.line x23.toNat).from_ x31.toNat)) * 1) undefT))).cells ++ [T.int .i64 x4] }) 0).cells ((0 + bs c.n fun i => cmpS (c.line i).st ((c.line x23.toNat).from_ x31.toNat)) * 1) [T.osl H.next 1 0 (oslN ((obv H 0).cells.getD ((0 + bs c.n fun i => cmpS (c.line i).st ((c.line x23.toNat).from_ x31.toNat)) * 1) undefT) + 1)] }) }))) else none)) else (if allT (g17_1_3 c x4 x22 x23 x30 x31 H) then some (.inl (.l0 x22 (IntKind.i64.wrap (x23 + 1)) H)) else none))
noncomputable def V17_1 (c : Ct) (x4 : Int) (x22 : Int) (x23 : Int) (x30 : Int) (x31 : Int) (H : Hp) : S17 ⊕ T :=
  (if decide (x31 < x30) then (if isNils ((obv H 0).cells.getD ((0 + bs c.n fun i => cmpS (c.line i).st ((c.line x23.toNat).from_ x31.toNat)) * 1) undefT) then (.inl (.l1 x4 x22 x23 x30 (IntKind.i64.wrap (x31 + 1)) ({ next := H.next + 1, objs := setOb ((H.next, { elem := 3, sz := 1, cells := [T.int .i64 x4] }) :: H.objs) 0 (have __src := obv (H.new { elem := 3, sz := 1, cells := [T.int .i64 x4] }) 0; { elem := __src.elem, sz := __src.sz, cells := spliceT (obv (H.new { elem := 3, sz := 1, cells := [T.int .i64 x4] }) 0).cells ((0 + bs c.n fun i => cmpS (c.line i).st ((c.line x23.toNat).from_ x31.toNat)) * 1) [T.osl H.next 1 0 1] }) }))) else (.inl (.l1 x4 x22 x23 x30 (IntKind.i64.wrap (x31 + 1)) ({ next := H.next + 1, objs := setOb ((H.next, { elem := 3, sz := 1, cells := (obv H (oslL ((obv H 0).cells.getD ((0 + bs c.n fun i => cmpS (c.line i).st ((c.line x23.toNat).from_ x31.toNat)) * 1) undefT))).cells ++ [T.int .i64 x4] }) :: dropOb H.objs (oslL ((obv H 0).cells.getD ((0 + bs c.n fun i => cmpS (c.line i).st ((c.line x23.toNat).from_ x31.toNat)) * 1) undefT))) 0 (have __src := obv ((H.drop (oslL ((obv H 0).cells.getD ((0 + bs c.n fun i => cmpS (c.line i).st ((c.line x23.toNat).from_ x31.toNat)) * 1) undefT))).new { elem := 3, sz := 1, cells := (obv H (oslL ((obv H 0).cells.getD ((0 + bs c.n fun i => cmpS (c.line i).st ((c.line x23.toNat).from_ x31.toNat)) * 1) undefT))).cells ++ [T.int .i64 x4] }) 0; { elem := __src.elem, sz := __src.sz, cells := spliceT (obv ((H.drop (oslL ((obv H 0).cells.getD ((0 + bs c.n fun i => cmpS (c.line i).st ((c.line x23.toNat).from_ x31.toNat)) * 1) undefT))).new { elem := 3, sz := 1, cells := (obv H (oslL ((obv H 0).cells.getD ((0 + bs c.n fun i => cmpS (c.line i).st ((c.line x23.toNat).from_ x31.toNat)) * 1) undefT))).cells ++ [T.int .i64 x4] }) 0).cells ((0 + bs c.n fun i => cmpS (c.line i).st ((c.line x23.toNat).from_ x31.toNat)) * 1) [T.osl H.next 1 0 (oslN ((obv H 0).cells.getD ((0 + bs c.n fun i => cmpS (c.line i).st ((c.line x23.toNat).from_ x31.toNat)) * 1) undefT) + 1)] }) })))) else (.inl (.l0 x22 (IntKind.i64.wrap (x23 + 1)) H)))
noncomputable def K17_1 (c : Ct) (x4 : Int) (x22 : Int) (x23 : Int) (x30 : Int) (x31 : Int) (H : Hp) : Bool :=
  (if decide (x31 < x30) then (if isNils ((obv H 0).cells.getD ((0 + bs c.n fun i => cmpS (c.line i).st ((c.line x23.toNat).from_ x31.toNat)) * 1) undefT) then (allT (g17_1_1 c x4 x22 x23 x30 x31 H)) else (allT (g17_1_2 c x4 x22 x23 x30 x31 H))) else (allT (g17_1_3 c x4 x22 x23 x30 x31 H)))
theorem T17_1 (c : Ct) (x4 : Int) (x22 : Int) (x23 : Int) (x30 : Int) (x31 : Int) (H : Hp) (hk : K17_1 c x4 x22 x23 x30 x31 H = true) : step17_1 c x4 x22 x23 x30 x31 H = some (V17_1 c x4 x22 x23 x30 x31 H) :=
  (tree_if (tree_if tree_leaf tree_leaf) tree_leaf) hk
noncomputable def step17_2 (c : Ct) (x56 : Int) (x57 : Int) (rows : Nat → List Int) (NX : Nat) : Option (S17 ⊕ T) :=
  (if decide (x57 < x56) then (if (c.line x57.toNat).fate == 1 then (if (↑(rows x57.toNat).length : Int) == 0 then (if allT (g17_2_1 c x56 x57 rows NX) then some (.inr ((T.int .i64 10))) else none) else (if any (rows x57.toNat).length fun i => (↑(c.line ((rows x57.toNat).getD i 0).toNat).k : Int) != 1 then (if allT (g17_2_2 c x56 x57 rows NX) then some (.inr ((T.int .i64 10))) else none) else (if allT (g17_2_3 c x56 x57 rows NX) then some (.inl (.l3f x57 x56 x57 (↑(shN (c.line x57.toNat).mass (↑(rows x57.toNat).length : Int)) : Int) 0 rows NX)) else none))) else (if (c.line x57.toNat).closed == 5 then (if (↑(rows x57.toNat).length : Int) != 1 then (if allT (g17_2_4 c x56 x57 rows NX) then some (.inr ((T.int .i64 10))) else none) else (if any (rows x57.toNat).length fun i => (↑(c.line ((rows x57.toNat).getD i 0).toNat).k : Int) != 1 then (if allT (g17_2_5 c x56 x57 rows NX) then some (.inr ((T.int .i64 10))) else none) else (if !arr (c.line ((rows x57.toNat).getD 0 0).toNat).st then (if allT (g17_2_6 c x56 x57 rows NX) then some (.inr ((T.int .i64 10))) else none) else (if allT (g17_2_7 c x56 x57 rows NX) then some (.inl (.l3s1_0 x57 x56 x57 rows NX)) else none)))) else (if (c.line x57.toNat).fate == 2 then (if (↑(rows x57.toNat).length : Int) != 1 then (if allT (g17_2_8 c x56 x57 rows NX) then some (.inr ((T.int .i64 10))) else none) else (if allT (g17_2_9 c x56 x57 rows NX) then some (.inl (.l3n0_0 x57 x56 x57 rows NX)) else none)) else (if decide ((↑(rows x57.toNat).length : Int) > 0) then (if allT (g17_2_10 c x56 x57 rows NX) then some (.inr ((T.int .i64 10))) else none) else (if allT (g17_2_11 c x56 x57 rows NX) then some (.inl (.l3n0_0 x57 x56 x57 rows NX)) else none))))) else (if allT (g17_2_12 c x56 x57 rows NX) then some (.inr ((T.int .i64 0))) else none))
noncomputable def V17_2 (c : Ct) (x56 : Int) (x57 : Int) (rows : Nat → List Int) (NX : Nat) : S17 ⊕ T :=
  (if decide (x57 < x56) then (if (c.line x57.toNat).fate == 1 then (if (↑(rows x57.toNat).length : Int) == 0 then (.inr ((T.int .i64 10))) else (if any (rows x57.toNat).length fun i => (↑(c.line ((rows x57.toNat).getD i 0).toNat).k : Int) != 1 then (.inr ((T.int .i64 10))) else (.inl (.l3f x57 x56 x57 (↑(shN (c.line x57.toNat).mass (↑(rows x57.toNat).length : Int)) : Int) 0 rows NX)))) else (if (c.line x57.toNat).closed == 5 then (if (↑(rows x57.toNat).length : Int) != 1 then (.inr ((T.int .i64 10))) else (if any (rows x57.toNat).length fun i => (↑(c.line ((rows x57.toNat).getD i 0).toNat).k : Int) != 1 then (.inr ((T.int .i64 10))) else (if !arr (c.line ((rows x57.toNat).getD 0 0).toNat).st then (.inr ((T.int .i64 10))) else (.inl (.l3s1_0 x57 x56 x57 rows NX))))) else (if (c.line x57.toNat).fate == 2 then (if (↑(rows x57.toNat).length : Int) != 1 then (.inr ((T.int .i64 10))) else (.inl (.l3n0_0 x57 x56 x57 rows NX))) else (if decide ((↑(rows x57.toNat).length : Int) > 0) then (.inr ((T.int .i64 10))) else (.inl (.l3n0_0 x57 x56 x57 rows NX)))))) else (.inr ((T.int .i64 0))))
noncomputable def K17_2 (c : Ct) (x56 : Int) (x57 : Int) (rows : Nat → List Int) (NX : Nat) : Bool :=
  (if decide (x57 < x56) then (if (c.line x57.toNat).fate == 1 then (if (↑(rows x57.toNat).length : Int) == 0 then (allT (g17_2_1 c x56 x57 rows NX)) else (if any (rows x57.toNat).length fun i => (↑(c.line ((rows x57.toNat).getD i 0).toNat).k : Int) != 1 then (allT (g17_2_2 c x56 x57 rows NX)) else (allT (g17_2_3 c x56 x57 rows NX)))) else (if (c.line x57.toNat).closed == 5 then (if (↑(rows x57.toNat).length : Int) != 1 then (allT (g17_2_4 c x56 x57 rows NX)) else (if any (rows x57.toNat).length fun i => (↑(c.line ((rows x57.toNat).getD i 0).toNat).k : Int) != 1 then (allT (g17_2_5 c x56 x57 rows NX)) else (if !arr (c.line ((rows x57.toNat).getD 0 0).toNat).st then (allT (g17_2_6 c x56 x57 rows NX)) else (allT (g17_2_7 c x56 x57 rows NX))))) else (if (c.line x57.toNat).fate == 2 then (if (↑(rows x57.toNat).length : Int) != 1 then (allT (g17_2_8 c x56 x57 rows NX)) else (allT (g17_2_9 c x56 x57 rows NX))) else (if decide ((↑(rows x57.toNat).length : Int) > 0) then (allT (g17_2_10 c x56 x57 rows NX)) else (allT (g17_2_11 c x56 x57 rows NX)))))) else (allT (g17_2_12 c x56 x57 rows NX)))
theorem T17_2 (c : Ct) (x56 : Int) (x57 : Int) (rows : Nat → List Int) (NX : Nat) (hk : K17_2 c x56 x57 rows NX = true) : step17_2 c x56 x57 rows NX = some (V17_2 c x56 x57 rows NX) :=
  (tree_if (tree_if (tree_if tree_leaf (tree_if tree_leaf tree_leaf)) (tree_if (tree_if tree_leaf (tree_if tree_leaf (tree_if tree_leaf tree_leaf))) (tree_if (tree_if tree_leaf tree_leaf) (tree_if tree_leaf tree_leaf)))) tree_leaf) hk
noncomputable def step17_3f (c : Ct) (x10 : Int) (x56 : Int) (x57 : Int) (x138 : Int) (x139 : Int) (rows : Nat → List Int) (NX : Nat) : Option (S17 ⊕ T) :=
  (if decide (x139 < x138) then (if (c.line ((rows x10.toNat).getD x139.toNat 0).toNat).mass != shI (c.line x57.toNat).mass (↑(rows x57.toNat).length : Int) x139.toNat then (if allT (g17_3f_1 c x10 x56 x57 x138 x139 rows NX) then some (.inr ((T.int .i64 38))) else none) else (if allT (g17_3f_2 c x10 x56 x57 x138 x139 rows NX) then some (.inl (.l3f x10 x56 x57 x138 (IntKind.i64.wrap (x139 + 1)) rows NX)) else none)) else (if allT (g17_3f_3 c x10 x56 x57 x138 x139 rows NX) then some (.inl (.l2 x56 (IntKind.i64.wrap (x57 + 1)) rows NX)) else none))
noncomputable def V17_3f (c : Ct) (x10 : Int) (x56 : Int) (x57 : Int) (x138 : Int) (x139 : Int) (rows : Nat → List Int) (NX : Nat) : S17 ⊕ T :=
  (if decide (x139 < x138) then (if (c.line ((rows x10.toNat).getD x139.toNat 0).toNat).mass != shI (c.line x57.toNat).mass (↑(rows x57.toNat).length : Int) x139.toNat then (.inr ((T.int .i64 38))) else (.inl (.l3f x10 x56 x57 x138 (IntKind.i64.wrap (x139 + 1)) rows NX))) else (.inl (.l2 x56 (IntKind.i64.wrap (x57 + 1)) rows NX)))
noncomputable def K17_3f (c : Ct) (x10 : Int) (x56 : Int) (x57 : Int) (x138 : Int) (x139 : Int) (rows : Nat → List Int) (NX : Nat) : Bool :=
  (if decide (x139 < x138) then (if (c.line ((rows x10.toNat).getD x139.toNat 0).toNat).mass != shI (c.line x57.toNat).mass (↑(rows x57.toNat).length : Int) x139.toNat then (allT (g17_3f_1 c x10 x56 x57 x138 x139 rows NX)) else (allT (g17_3f_2 c x10 x56 x57 x138 x139 rows NX))) else (allT (g17_3f_3 c x10 x56 x57 x138 x139 rows NX)))
theorem T17_3f (c : Ct) (x10 : Int) (x56 : Int) (x57 : Int) (x138 : Int) (x139 : Int) (rows : Nat → List Int) (NX : Nat) (hk : K17_3f c x10 x56 x57 x138 x139 rows NX = true) : step17_3f c x10 x56 x57 x138 x139 rows NX = some (V17_3f c x10 x56 x57 x138 x139 rows NX) :=
  (tree_if (tree_if tree_leaf tree_leaf) tree_leaf) hk
noncomputable def step17_3n0_0 (c : Ct) (x10 : Int) (x56 : Int) (x57 : Int) (rows : Nat → List Int) (NX : Nat) : Option (S17 ⊕ T) :=
  (if allT (g17_3n0_0_1 c x10 x56 x57 rows NX) then some (.inl (.l2 x56 (IntKind.i64.wrap (x57 + 1)) rows NX)) else none)
noncomputable def V17_3n0_0 (c : Ct) (x10 : Int) (x56 : Int) (x57 : Int) (rows : Nat → List Int) (NX : Nat) : S17 ⊕ T :=
  (.inl (.l2 x56 (IntKind.i64.wrap (x57 + 1)) rows NX))
noncomputable def K17_3n0_0 (c : Ct) (x10 : Int) (x56 : Int) (x57 : Int) (rows : Nat → List Int) (NX : Nat) : Bool :=
  (allT (g17_3n0_0_1 c x10 x56 x57 rows NX))
theorem T17_3n0_0 (c : Ct) (x10 : Int) (x56 : Int) (x57 : Int) (rows : Nat → List Int) (NX : Nat) (hk : K17_3n0_0 c x10 x56 x57 rows NX = true) : step17_3n0_0 c x10 x56 x57 rows NX = some (V17_3n0_0 c x10 x56 x57 rows NX) :=
  tree_leaf hk
noncomputable def step17_3s1_0 (c : Ct) (x10 : Int) (x56 : Int) (x57 : Int) (rows : Nat → List Int) (NX : Nat) : Option (S17 ⊕ T) :=
  (if (c.line ((rows x10.toNat).getD 0 0).toNat).mass != (c.line x57.toNat).mass then (if allT (g17_3s1_0_1 c x10 x56 x57 rows NX) then some (.inr ((T.int .i64 38))) else none) else (if allT (g17_3s1_0_2 c x10 x56 x57 rows NX) then some (.inl (.l3s1_1 x10 x56 x57 rows NX)) else none))
noncomputable def V17_3s1_0 (c : Ct) (x10 : Int) (x56 : Int) (x57 : Int) (rows : Nat → List Int) (NX : Nat) : S17 ⊕ T :=
  (if (c.line ((rows x10.toNat).getD 0 0).toNat).mass != (c.line x57.toNat).mass then (.inr ((T.int .i64 38))) else (.inl (.l3s1_1 x10 x56 x57 rows NX)))
noncomputable def K17_3s1_0 (c : Ct) (x10 : Int) (x56 : Int) (x57 : Int) (rows : Nat → List Int) (NX : Nat) : Bool :=
  (if (c.line ((rows x10.toNat).getD 0 0).toNat).mass != (c.line x57.toNat).mass then (allT (g17_3s1_0_1 c x10 x56 x57 rows NX)) else (allT (g17_3s1_0_2 c x10 x56 x57 rows NX)))
theorem T17_3s1_0 (c : Ct) (x10 : Int) (x56 : Int) (x57 : Int) (rows : Nat → List Int) (NX : Nat) (hk : K17_3s1_0 c x10 x56 x57 rows NX = true) : step17_3s1_0 c x10 x56 x57 rows NX = some (V17_3s1_0 c x10 x56 x57 rows NX) :=
  (tree_if tree_leaf tree_leaf) hk
noncomputable def step17_3s1_1 (c : Ct) (x10 : Int) (x56 : Int) (x57 : Int) (rows : Nat → List Int) (NX : Nat) : Option (S17 ⊕ T) :=
  (if allT (g17_3s1_1_1 c x10 x56 x57 rows NX) then some (.inl (.l2 x56 (IntKind.i64.wrap (x57 + 1)) rows NX)) else none)
noncomputable def V17_3s1_1 (c : Ct) (x10 : Int) (x56 : Int) (x57 : Int) (rows : Nat → List Int) (NX : Nat) : S17 ⊕ T :=
  (.inl (.l2 x56 (IntKind.i64.wrap (x57 + 1)) rows NX))
noncomputable def K17_3s1_1 (c : Ct) (x10 : Int) (x56 : Int) (x57 : Int) (rows : Nat → List Int) (NX : Nat) : Bool :=
  (allT (g17_3s1_1_1 c x10 x56 x57 rows NX))
theorem T17_3s1_1 (c : Ct) (x10 : Int) (x56 : Int) (x57 : Int) (rows : Nat → List Int) (NX : Nat) (hk : K17_3s1_1 c x10 x56 x57 rows NX = true) : step17_3s1_1 c x10 x56 x57 rows NX = some (V17_3s1_1 c x10 x56 x57 rows NX) :=
  tree_leaf hk
noncomputable def o17 (c : Ct) : Option (S17 ⊕ T) :=
  (if allT (g17_s_1 c) then some (.inl (.l0 (↑c.n : Int) 0 ({ next := 1, objs := [(0, { elem := 29, sz := 1, cells := List.flatMap T.cells (List.replicate c.n T.nils) })] }))) else none)
noncomputable def V17_s (c : Ct) : S17 ⊕ T :=
  (.inl (.l0 (↑c.n : Int) 0 ({ next := 1, objs := [(0, { elem := 29, sz := 1, cells := List.flatMap T.cells (List.replicate c.n T.nils) })] })))
noncomputable def K17_s (c : Ct) : Bool :=
  (allT (g17_s_1 c))
theorem T17_s (c : Ct) (hk : K17_s c = true) : o17 c = some (V17_s c) :=
  tree_leaf hk
noncomputable def step17 (c : Ct) : S17 → Option (S17 ⊕ T)
  | .l0 x22 x23 H => step17_0 c x22 x23 H
  | .l1 x4 x22 x23 x30 x31 H => step17_1 c x4 x22 x23 x30 x31 H
  | .l2 x56 x57 rows NX => step17_2 c x56 x57 rows NX
  | .l3f x10 x56 x57 x138 x139 rows NX => step17_3f c x10 x56 x57 x138 x139 rows NX
  | .l3n0_0 x10 x56 x57 rows NX => step17_3n0_0 c x10 x56 x57 rows NX
  | .l3s1_0 x10 x56 x57 rows NX => step17_3s1_0 c x10 x56 x57 rows NX
  | .l3s1_1 x10 x56 x57 rows NX => step17_3s1_1 c x10 x56 x57 rows NX
noncomputable def M17 (c : Ct) : Mch S17 where
  lp := fun σ => match σ with
    | .l0 .. => 0
    | .l1 .. => 1
    | .l2 .. => 2
    | .l3f .. => 3
    | .l3n0_0 .. => 3
    | .l3s1_0 .. => 3
    | .l3s1_1 .. => 3
  keep := fun ι => match ι with
    | 0 => [1, 3, 21, 22, 23]
    | 1 => [1, 3, 4, 21, 22, 23, 29, 30, 31]
    | 2 => [1, 3, 55, 56, 57]
    | 3 => [1, 3, 10, 55, 56, 57, 137, 138, 139]
    | _ => []
  par := fun ι => match ι with
    | 0 => []
    | 1 => [0]
    | 2 => []
    | 3 => [2]
    | _ => []
  vs := fun σ => match σ with
    | .l0 x22 x23 H => [(ctT c).ref 0, T.osl 0 1 0 c.n, T.slf false c.n fun i => lnT (c.line i), T.int .i64 x22, T.int .i64 x23]
    | .l1 x4 x22 x23 x30 x31 H => [(ctT c).ref 0, T.osl 0 1 0 c.n, T.int .i64 x4, T.slf false c.n fun i => lnT (c.line i), T.int .i64 x22, T.int .i64 x23, T.slf false (c.line x23.toNat).k fun i => spT ((c.line x23.toNat).from_ i), T.int .i64 x30, T.int .i64 x31]
    | .l2 x56 x57 rows NX => [(ctT c).ref 0, T.slf false c.n fun k => T.slf false (rows k).length fun j => T.int .i64 ((rows k).getD j 0), T.slf false c.n fun i => lnT (c.line i), T.int .i64 x56, T.int .i64 x57]
    | .l3f x10 x56 x57 x138 x139 rows NX => [(ctT c).ref 0, T.slf false c.n fun k => T.slf false (rows k).length fun j => T.int .i64 ((rows k).getD j 0), T.int .i64 x10, T.slf false c.n fun i => lnT (c.line i), T.int .i64 x56, T.int .i64 x57, T.slf false (shN (c.line x57.toNat).mass (↑(rows x57.toNat).length : Int)) fun i => T.int .i64 (shI (c.line x57.toNat).mass (↑(rows x57.toNat).length : Int) i), T.int .i64 x138, T.int .i64 x139]
    | .l3n0_0 x10 x56 x57 rows NX => [(ctT c).ref 0, T.slf false c.n fun k => T.slf false (rows k).length fun j => T.int .i64 ((rows k).getD j 0), T.int .i64 x10, T.slf false c.n fun i => lnT (c.line i), T.int .i64 x56, T.int .i64 x57, T.nils, T.int .i64 0, T.int .i64 0]
    | .l3s1_0 x10 x56 x57 rows NX => [(ctT c).ref 0, T.slf false c.n fun k => T.slf false (rows k).length fun j => T.int .i64 ((rows k).getD j 0), T.int .i64 x10, T.slf false c.n fun i => lnT (c.line i), T.int .i64 x56, T.int .i64 x57, T.sl true [T.int .i64 (c.line x57.toNat).mass], T.int .i64 1, T.int .i64 0]
    | .l3s1_1 x10 x56 x57 rows NX => [(ctT c).ref 0, T.slf false c.n fun k => T.slf false (rows k).length fun j => T.int .i64 ((rows k).getD j 0), T.int .i64 x10, T.slf false c.n fun i => lnT (c.line i), T.int .i64 x56, T.int .i64 x57, T.sl true [T.int .i64 (c.line x57.toNat).mass], T.int .i64 1, T.int .i64 1]
  hp := fun σ => match σ with
    | .l0 _ _ H => H
    | .l1 _ _ _ _ _ H => H
    | .l2 _ _ _ NX => { next := NX, objs := [] }
    | .l3f _ _ _ _ _ _ NX => { next := NX, objs := [] }
    | .l3n0_0 _ _ _ _ NX => { next := NX, objs := [] }
    | .l3s1_0 _ _ _ _ NX => { next := NX, objs := [] }
    | .l3s1_1 _ _ _ _ NX => { next := NX, objs := [] }
  len := 160
  step := step17 c
theorem ways17 (c : Ct) : (M17 c).WaysF prog D15 F17 f17 20 := by
  intro σ o fr h
  cases σ with
  | l0 x22 x23 H =>
    change step17_0 c x22 x23 H = some o at h
    exact (ways_if (ways_leaf fun hk => .inl (.inr ⟨2000, _, _, _, w17_0_1 c x22 x23 H fr, hk, rfl⟩)) (ways_leaf fun hk => by
      rw [Bool.and_eq_true] at hk
      obtain ⟨t0, z1, z2⟩ := rows_frz hk.2
      exact .inr ⟨_, rfl, 2000, _, _, _, _, _, 1, 3, 20, t0, _, w17_0_2 c x22 x23 H fr, hk.1, rfl, z1, z2, rfl, (show 3 < 160 by decide), (show (List.Nodup [1, 3, 55, 56, 57]) by decide), rfl, rfl⟩)) o h
  | l1 x4 x22 x23 x30 x31 H =>
    change step17_1 c x4 x22 x23 x30 x31 H = some o at h
    exact (ways_if (ways_if (ways_leaf fun hk => .inl (.inl ⟨2000, _, _, _, w17_1_1 c x4 x22 x23 x30 x31 H fr, hk, rfl⟩)) (ways_leaf fun hk => .inl (.inl ⟨2000, _, _, _, w17_1_2 c x4 x22 x23 x30 x31 H fr, hk, rfl⟩))) (ways_leaf fun hk => .inl (.inl ⟨2000, _, _, _, w17_1_3 c x4 x22 x23 x30 x31 H fr, hk, rfl⟩))) o h
  | l2 x56 x57 rows NX =>
    change step17_2 c x56 x57 rows NX = some o at h
    exact (ways_if (ways_if (ways_if (ways_leaf fun hk => .inl (⟨2000, _, _, _, _, _, _, w17_2_1 c x56 x57 rows NX fr, hk⟩)) (ways_if (ways_leaf fun hk => .inl (⟨2000, _, _, _, _, _, _, w17_2_2 c x56 x57 rows NX fr, hk⟩)) (ways_leaf fun hk => .inl (.inr ⟨2000, _, _, _, w17_2_3 c x56 x57 rows NX fr, hk, rfl⟩)))) (ways_if (ways_if (ways_leaf fun hk => .inl (⟨2000, _, _, _, _, _, _, w17_2_4 c x56 x57 rows NX fr, hk⟩)) (ways_if (ways_leaf fun hk => .inl (⟨2000, _, _, _, _, _, _, w17_2_5 c x56 x57 rows NX fr, hk⟩)) (ways_if (ways_leaf fun hk => .inl (⟨2000, _, _, _, _, _, _, w17_2_6 c x56 x57 rows NX fr, hk⟩)) (ways_leaf fun hk => .inl (.inr ⟨2000, _, _, _, w17_2_7 c x56 x57 rows NX fr, hk, rfl⟩))))) (ways_if (ways_if (ways_leaf fun hk => .inl (⟨2000, _, _, _, _, _, _, w17_2_8 c x56 x57 rows NX fr, hk⟩)) (ways_leaf fun hk => .inl (.inr ⟨2000, _, _, _, w17_2_9 c x56 x57 rows NX fr, hk, rfl⟩))) (ways_if (ways_leaf fun hk => .inl (⟨2000, _, _, _, _, _, _, w17_2_10 c x56 x57 rows NX fr, hk⟩)) (ways_leaf fun hk => .inl (.inr ⟨2000, _, _, _, w17_2_11 c x56 x57 rows NX fr, hk, rfl⟩)))))) (ways_leaf fun hk => .inl (⟨2000, _, _, _, _, _, _, w17_2_12 c x56 x57 rows NX fr, hk⟩))) o h
  | l3f x10 x56 x57 x138 x139 rows NX =>
    change step17_3f c x10 x56 x57 x138 x139 rows NX = some o at h
    exact (ways_if (ways_if (ways_leaf fun hk => .inl (⟨2000, _, _, _, _, _, _, w17_3f_1 c x10 x56 x57 x138 x139 rows NX fr, hk⟩)) (ways_leaf fun hk => .inl (.inl ⟨2000, _, _, _, w17_3f_2 c x10 x56 x57 x138 x139 rows NX fr, hk, rfl⟩))) (ways_leaf fun hk => .inl (.inl ⟨2000, _, _, _, w17_3f_3 c x10 x56 x57 x138 x139 rows NX fr, hk, rfl⟩))) o h
  | l3n0_0 x10 x56 x57 rows NX =>
    change step17_3n0_0 c x10 x56 x57 rows NX = some o at h
    exact (ways_leaf fun hk => .inl (.inl ⟨2000, _, _, _, w17_3n0_0_1 c x10 x56 x57 rows NX fr, hk, rfl⟩)) o h
  | l3s1_0 x10 x56 x57 rows NX =>
    change step17_3s1_0 c x10 x56 x57 rows NX = some o at h
    exact (ways_if (ways_leaf fun hk => .inl (⟨2000, _, _, _, _, _, _, w17_3s1_0_1 c x10 x56 x57 rows NX fr, hk⟩)) (ways_leaf fun hk => .inl (.inl ⟨2000, _, _, _, w17_3s1_0_2 c x10 x56 x57 rows NX fr, hk, rfl⟩))) o h
  | l3s1_1 x10 x56 x57 rows NX =>
    change step17_3s1_1 c x10 x56 x57 rows NX = some o at h
    exact (ways_leaf fun hk => .inl (.inl ⟨2000, _, _, _, w17_3s1_1_1 c x10 x56 x57 rows NX fr, hk, rfl⟩)) o h
theorem oks17 (c : Ct) : ∀ σ, codeOk (loopAt f17 ((M17 c).lp σ)).1 = true ∧ ksOk (.lp :: (loopAt f17 ((M17 c).lp σ)).2) = true := by
  intro σ
  cases σ
  · exact ⟨(show codeOk (loopAt f17 0).1 = true by kernel_rfl), (show ksOk (.lp :: (loopAt f17 0).2) = true by kernel_rfl)⟩
  · exact ⟨(show codeOk (loopAt f17 1).1 = true by kernel_rfl), (show ksOk (.lp :: (loopAt f17 1).2) = true by kernel_rfl)⟩
  · exact ⟨(show codeOk (loopAt f17 2).1 = true by kernel_rfl), (show ksOk (.lp :: (loopAt f17 2).2) = true by kernel_rfl)⟩
  · exact ⟨(show codeOk (loopAt f17 3).1 = true by kernel_rfl), (show ksOk (.lp :: (loopAt f17 3).2) = true by kernel_rfl)⟩
  · exact ⟨(show codeOk (loopAt f17 3).1 = true by kernel_rfl), (show ksOk (.lp :: (loopAt f17 3).2) = true by kernel_rfl)⟩
  · exact ⟨(show codeOk (loopAt f17 3).1 = true by kernel_rfl), (show ksOk (.lp :: (loopAt f17 3).2) = true by kernel_rfl)⟩
  · exact ⟨(show codeOk (loopAt f17 3).1 = true by kernel_rfl), (show ksOk (.lp :: (loopAt f17 3).2) = true by kernel_rfl)⟩
theorem run17 (c : Ct) {n : Nat} {o : S17 ⊕ T} {r : T} (h : o17 c = some o) (hr : (M17 c).fin n o = some r) : PureFn prog gl 17 [ctT c] r := by
  refine pure_machF (M := (M17 c)) (fn := f17) (k := 20) (d := 8) (c := bodyOf f17) cx17 glFrz (by kernel_rfl) func17 (by kernel_rfl) rfl (by kernel_rfl) (by kernel_rfl) (L := 159) (by kernel_rfl) (ways17 c) (oks17 c) ?_ hr
  exact (ways_leaf fun hk => .inr ⟨2000, _, _, _, w17_s_1 c, hk, rfl⟩) o h
theorem c17 (c : Ct) (n : Nat) {r : T} (hk : K17_s c = true) (hr : (M17 c).fin n (V17_s c) = some r) : PureFn prog gl 17 [ctT c] r := run17 c (T17_s c hk) hr
end Go.Proofs.Tryd

/- Rows of rows in the heap: how they grow. -/
namespace Go.Proofs
open Go.Ps

/-- The heap holds these rows: object 0 has one slice for each row; each row that is not empty has an object of its own. -/
structure Tryd.Rw (n : Nat) (H : Hp) (R : Nat → List Int) (C : List T) (id : Nat → Nat) : Prop where
  top : H.get 0 = some ⟨29, 1, C⟩
  len : C.length = n
  pos : 0 < H.next
  nil : ∀ k, k < n → R k = [] → C.getD k undefT = .nils
  row : ∀ k, k < n → R k ≠ [] → C.getD k undefT = .osl (id k) 1 0 (R k).length ∧ H.get (id k) = some ⟨3, 1, Tryd.ints (R k)⟩ ∧ 0 < id k ∧ id k < H.next
  sep : ∀ k k', k < n → k' < n → R k ≠ [] → R k' ≠ [] → id k = id k' → k = k'

theorem Tryd.getD_splice (C : List T) (a k : Nat) (t : T) (ha : a < C.length) : (spliceT C a [t]).getD k undefT = if k = a then t else C.getD k undefT := by
  have e : spliceT C a [t] = C.set a t := by
    unfold spliceT
    rw [List.set_eq_take_append_cons_drop, if_pos ha]
    simp
  rw [e, List.getD_eq_getElem?_getD, List.getD_eq_getElem?_getD, List.getElem?_set]
  by_cases h : a = k
  · subst h; simp [ha]
  · rw [if_neg h, if_neg (fun q => h q.symm)]
theorem Tryd.len_splice (C : List T) (a : Nat) (t : T) (ha : a < C.length) : (spliceT C a [t]).length = C.length := by
  unfold spliceT; simp; omega

theorem Tryd.Rw.pushN {n : Nat} {H : Hp} {R : Nat → List Int} {C : List T} {id : Nat → Nat} (h : Tryd.Rw n H R C id) {a : Nat} (ha : a < n) (hr : R a = []) (x : Int) (o : Ob) (ho : o = ⟨29, 1, spliceT C a [.osl H.next 1 0 1]⟩) :
    Tryd.Rw n ((H.new ⟨3, 1, [.int .i64 x]⟩).put 0 o) (fun k => if k = a then R k ++ [x] else R k) (spliceT C a [.osl H.next 1 0 1]) (fun k => if k = a then H.next else id k) := by
  subst ho
  have hne := h.pos
  have hsome : ((H.new ⟨3, 1, [.int .i64 x]⟩).get 0).isSome = true := by rw [findOb_new, if_neg (by omega), h.top]; rfl
  have hget : ∀ m, ((H.new ⟨3, 1, [.int .i64 x]⟩).put 0 ⟨29, 1, spliceT C a [.osl H.next 1 0 1]⟩).get m = if m = 0 then some ⟨29, 1, spliceT C a [.osl H.next 1 0 1]⟩ else if H.next = m then some ⟨3, 1, [.int .i64 x]⟩ else H.get m := fun m => by
    rw [get_put _ _ _ _ hsome, findOb_new]
  have hlen : a < C.length := by rw [h.len]; exact ha
  refine ⟨by rw [hget, if_pos rfl], by rw [Tryd.len_splice _ _ _ hlen, h.len], by show 0 < H.next + 1; omega, fun k hk hk0 => ?_, fun k hk hk0 => ?_, fun k k' hk hk' q1 q2 e => ?_⟩
  · rw [Tryd.getD_splice _ _ _ _ hlen]
    by_cases e : k = a
    · rw [if_pos e] at hk0; simp at hk0
    · rw [if_neg e] at hk0 ⊢; exact h.nil k hk hk0
  · rw [Tryd.getD_splice _ _ _ _ hlen, hget]
    by_cases e : k = a
    · simp only [e, if_true, hr, List.nil_append]
      exact ⟨rfl, by rw [if_neg (by omega)]; rfl, by omega, by show H.next < H.next + 1; omega⟩
    · simp only [e, if_false] at hk0 ⊢
      obtain ⟨r1, r2, r3, r4⟩ := h.row k hk hk0
      exact ⟨r1, by rw [if_neg (by omega), if_neg (by omega)]; exact r2, r3, by show id k < H.next + 1; omega⟩
  · by_cases e1 : k = a
    · by_cases e2 : k' = a
      · omega
      · simp only [e1, e2, if_true, if_false] at e q2
        have := (h.row k' hk' q2).2.2.2
        omega
    · by_cases e2 : k' = a
      · simp only [e1, e2, if_true, if_false] at e q1
        have := (h.row k hk q1).2.2.2
        omega
      · simp only [e1, e2, if_false] at e q1 q2
        exact h.sep k k' hk hk' q1 q2 e

theorem Tryd.Rw.pushO {n : Nat} {H : Hp} {R : Nat → List Int} {C : List T} {id : Nat → Nat} (h : Tryd.Rw n H R C id) {a : Nat} (ha : a < n) (hr : R a ≠ []) (x : Int) (o : Ob) (ho : o = ⟨29, 1, spliceT C a [.osl H.next 1 0 ((R a).length + 1)]⟩) :
    Tryd.Rw n (((H.drop (id a)).new ⟨3, 1, Tryd.ints (R a) ++ [.int .i64 x]⟩).put 0 o) (fun k => if k = a then R k ++ [x] else R k) (spliceT C a [.osl H.next 1 0 ((R a).length + 1)]) (fun k => if k = a then H.next else id k) := by
  subst ho
  have hne := h.pos
  obtain ⟨p1, p2, p3, p4⟩ := h.row a ha hr
  have hnext : (H.drop (id a)).next = H.next := rfl
  have hsome : (((H.drop (id a)).new ⟨3, 1, Tryd.ints (R a) ++ [.int .i64 x]⟩).get 0).isSome = true := by rw [findOb_new, hnext, if_neg (by omega), get_drop, if_neg (by omega), h.top]; rfl
  have hget : ∀ m, (((H.drop (id a)).new ⟨3, 1, Tryd.ints (R a) ++ [.int .i64 x]⟩).put 0 ⟨29, 1, spliceT C a [.osl H.next 1 0 ((R a).length + 1)]⟩).get m = if m = 0 then some ⟨29, 1, spliceT C a [.osl H.next 1 0 ((R a).length + 1)]⟩ else if H.next = m then some ⟨3, 1, Tryd.ints (R a) ++ [.int .i64 x]⟩ else if m = id a then none else H.get m := fun m => by
    rw [get_put _ _ _ _ hsome, findOb_new, hnext, get_drop]
  have hlen : a < C.length := by rw [h.len]; exact ha
  refine ⟨by rw [hget, if_pos rfl], by rw [Tryd.len_splice _ _ _ hlen, h.len], by show 0 < H.next + 1; omega, fun k hk hk0 => ?_, fun k hk hk0 => ?_, fun k k' hk hk' q1 q2 e => ?_⟩
  · rw [Tryd.getD_splice _ _ _ _ hlen]
    by_cases e : k = a
    · rw [if_pos e] at hk0; simp at hk0
    · rw [if_neg e] at hk0 ⊢; exact h.nil k hk hk0
  · rw [Tryd.getD_splice _ _ _ _ hlen, hget]
    by_cases e : k = a
    · simp only [e, if_true]
      exact ⟨by simp, by rw [if_neg (by omega)]; simp [Tryd.ints], by omega, by show H.next < H.next + 1; omega⟩
    · simp only [e, if_false] at hk0 ⊢
      obtain ⟨r1, r2, r3, r4⟩ := h.row k hk hk0
      have hd : id k ≠ id a := fun q => e (h.sep k a hk ha hk0 hr q)
      exact ⟨r1, by rw [if_neg (by omega), if_neg (by omega), if_neg hd]; exact r2, r3, by show id k < H.next + 1; omega⟩
  · by_cases e1 : k = a
    · by_cases e2 : k' = a
      · omega
      · simp only [e1, e2, if_true, if_false] at e q2
        have := (h.row k' hk' q2).2.2.2
        omega
    · by_cases e2 : k' = a
      · simp only [e1, e2, if_true, if_false] at e q1
        have := (h.row k hk q1).2.2.2
        omega
      · simp only [e1, e2, if_false] at e q1 q2
        exact h.sep k k' hk hk' q1 q2 e

theorem Tryd.Rw.ok {n : Nat} {H : Hp} {R : Nat → List Int} {C : List T} {id : Nat → Nat} (h : Tryd.Rw n H R C id) : Tryd.rowsOk n H ∧ ∀ k, k < n → Tryd.rowsOf H k = R k := by
  refine ⟨⟨C, h.top, h.len, fun t ht => ?_⟩, fun k hk => ?_⟩
  · obtain ⟨k, hk, e⟩ := List.getElem_of_mem ht
    have hk' : k < n := by rw [← h.len]; exact hk
    have e2 : C.getD k undefT = t := by rw [List.getD_eq_getElem?_getD, List.getElem?_eq_getElem hk, e]; rfl
    by_cases hr : R k = []
    · exact .inl (by rw [← e2]; exact h.nil k hk' hr)
    · obtain ⟨r1, r2, _⟩ := h.row k hk' hr
      exact .inr ⟨id k, R k, by rw [← e2]; exact r1, r2⟩
  · have ho : (obv H 0).cells = C := by unfold obv; rw [h.top]
    unfold Tryd.rowsOf
    rw [ho]
    by_cases hr : R k = []
    · rw [h.nil k hk hr, hr]; rfl
    · obtain ⟨r1, r2, _⟩ := h.row k hk hr
      rw [r1, Tryd.rowT_osl r2]

theorem Tryd.Rw.start (n : Nat) : Tryd.Rw n ⟨1, [(0, ⟨29, 1, List.flatMap T.cells (List.replicate n T.nils)⟩)]⟩ (fun _ => []) (List.replicate n T.nils) (fun _ => 0) := by
  have e : List.flatMap T.cells (List.replicate n T.nils) = List.replicate n T.nils := (flat_single _ (by simp [T.isAgg])).1
  refine ⟨by rw [e]; rfl, by simp, by show 0 < 1; omega, fun k hk _ => ?_, fun k _ q => absurd rfl q, fun k _ _ _ q => absurd rfl q⟩
  rw [List.getD_eq_getElem?_getD, List.getElem?_replicate, if_pos hk]
  rfl
end Go.Proofs

/- children of the program, first half: the rows. -/
namespace Go.Proofs
open Go.Ps
set_option maxRecDepth 100000
set_option linter.unusedSimpArgs false
set_option linter.unusedSectionVars false

def Tryd.push (R : Nat → List Int) (a : Nat) (x : Int) : Nat → List Int := fun z => if z = a then R z ++ [x] else R z
def Tryd.rwR (c : Ct) (i : Nat) : Nat → Nat → (Nat → List Int) → (Nat → List Int)
  | 0, _, R => R
  | q + 1, k, R => Tryd.rwR c i q (k + 1) (Tryd.push R (Tryd.ap c ((c.line i).from_ k)) i)
def Tryd.rwO (c : Ct) : Nat → Nat → (Nat → List Int) → (Nat → List Int)
  | 0, _, R => R
  | q + 1, i, R => Tryd.rwO c q (i + 1) (Tryd.rwR c i (c.line i).k 0 R)
/-- The children of each line, as the program lists them. -/
def Tryd.rowsP (c : Ct) : Nat → List Int := Tryd.rwO c c.n 0 (fun _ => [])

section
variable (c : Ct) (hs : Tryd.small c) (hl : Tryd.linked (Tryd.ap c) c)
include hs hl

theorem Tryd.st17_1 (i : Nat) (hi : i < c.n) (k : Nat) (hk : k < (c.line i).k) (H : Hp) (R : Nat → List Int) (hR : ∀ z, (R z).length ≤ 1000) (C : List T) (id : Nat → Nat) (hw : Tryd.Rw c.n H R C id) :
    ∃ H' C' id', (Tryd.M17 c).step (.l1 i c.n i (c.line i).k k H) = some (.inl (.l1 i c.n i (c.line i).k (k + 1 : Nat) H')) ∧ Tryd.Rw c.n H' (Tryd.push R (Tryd.ap c ((c.line i).from_ k)) i) C' id' := by
  have h1 := hs.1
  have hm := Tryd.small_modest hs
  obtain ⟨h2, h3, h4⟩ := hs.2 i hi
  have hb := hl i hi k hk
  have b2 : decide ((k : Int) < (c.line i).k) = true := decide_eq_true (by omega)
  have b3 : decide ((0 : Int) ≤ k) = true := decide_eq_true (by omega)
  have b4 : decide ((i : Int) < c.n) = true := decide_eq_true (by omega)
  have b5 : decide ((0 : Int) ≤ i) = true := decide_eq_true (by omega)
  have b6 := Tryd.wsucc k (by omega)
  have hC : (obv H 0).cells = C := by unfold obv; rw [hw.top]
  have hlen := hw.len
  have hin : obIn H 0 (Tryd.ap c ((c.line i).from_ k) + 1) = true := by
    unfold obIn; rw [hw.top]; exact decide_eq_true (by simp only; omega)
  have key : Tryd.K17_1 c i c.n i (c.line i).k k H = true → (Tryd.M17 c).step (.l1 i c.n i (c.line i).k k H) = some (Tryd.V17_1 c i c.n i (c.line i).k k H) := fun q => Tryd.T17_1 c i c.n i (c.line i).k k H q
  unfold Tryd.V17_1 Tryd.K17_1 at key
  simp only [Int.toNat_natCast, Nat.zero_add, Nat.mul_one] at key
  rw [if_pos b2, if_pos b2, b6] at key
  unfold Tryd.ap at hb hin ⊢
  have e0 : Tryd.g17_1_1 c i c.n i (c.line i).k k H = [true, obIn (H.new { elem := 3, sz := 1, cells := [T.int IntKind.i64 i] }) 0 ((Tryd.bs c.n fun j => Tryd.cmpS (c.line j).st ((c.line i).from_ k)) + 1), true, true, decide (((Tryd.bs c.n fun j => Tryd.cmpS (c.line j).st ((c.line i).from_ k) : Nat) : Int) < c.n), true, true, true, isNils ((obv H 0).cells.getD (Tryd.bs c.n fun j => Tryd.cmpS (c.line j).st ((c.line i).from_ k)) undefT), obIn H 0 ((Tryd.bs c.n fun j => Tryd.cmpS (c.line j).st ((c.line i).from_ k)) + 1), true, true, decide (((Tryd.bs c.n fun j => Tryd.cmpS (c.line j).st ((c.line i).from_ k) : Nat) : Int) < c.n), true, true, true, true, true, true, true, true, true] := by
    unfold Tryd.g17_1_1
    simp only [Int.toNat_natCast, Nat.zero_add, Nat.mul_one, isV_self, lsT, hm, b2, b3]
  have b7 : decide (((Tryd.bs c.n fun j => Tryd.cmpS (c.line j).st ((c.line i).from_ k) : Nat) : Int) < c.n) = true := decide_eq_true (by omega)
  rw [hC] at key
  by_cases hr : R (Tryd.bs c.n fun j => Tryd.cmpS (c.line j).st ((c.line i).from_ k)) = []
  · have hc0 := hw.nil _ hb hr
    have hin2 : obIn (H.new { elem := 3, sz := 1, cells := [T.int IntKind.i64 i] }) 0 ((Tryd.bs c.n fun j => Tryd.cmpS (c.line j).st ((c.line i).from_ k)) + 1) = true := by
      unfold obIn
      rw [findOb_new, if_neg (by have := hw.pos; omega), hw.top]
      exact decide_eq_true (by simp only; omega)
    rw [hc0] at key
    simp only [isNils, if_true] at key
    have hst := key (by rw [e0, hC, hc0]; simp only [allT, isNils, hin, hin2, b7, Bool.and_true])
    have hob : obv (H.new { elem := 3, sz := 1, cells := [T.int IntKind.i64 i] }) 0 = ⟨29, 1, C⟩ := by
      unfold obv; rw [findOb_new, if_neg (by have := hw.pos; omega), hw.top]
    rw [hob] at hst
    exact ⟨_, _, _, hst, Tryd.Rw.pushN hw hb hr i _ rfl⟩
  · obtain ⟨r1, r2, r3, r4⟩ := hw.row _ hb hr
    have hrl := hR (Tryd.bs c.n fun j => Tryd.cmpS (c.line j).st ((c.line i).from_ k))
    rw [r1] at key
    simp only [isNils, Bool.false_eq_true, if_false, oslL, oslN] at key
    have ho : (obv H (id (Tryd.bs c.n fun j => Tryd.cmpS (c.line j).st ((c.line i).from_ k)))).cells = Tryd.ints (R (Tryd.bs c.n fun j => Tryd.cmpS (c.line j).st ((c.line i).from_ k))) := by unfold obv; rw [r2]
    have hg0 : ∀ o : Ob, ((H.drop (id (Tryd.bs c.n fun j => Tryd.cmpS (c.line j).st ((c.line i).from_ k)))).new o).get 0 = some ⟨29, 1, C⟩ := fun o => by
      rw [findOb_new, if_neg (by have := hw.pos; show ¬ H.next = 0; omega), get_drop, if_neg (by omega), hw.top]
    have hst := key (by
      unfold Tryd.g17_1_2
      simp only [Int.toNat_natCast, Nat.zero_add, Nat.mul_one, hC, r1, oslL, oslN]
      have c1 : ∀ o : Ob, obIn ((H.drop (id (Tryd.bs c.n fun j => Tryd.cmpS (c.line j).st ((c.line i).from_ k)))).new o) 0 ((Tryd.bs c.n fun j => Tryd.cmpS (c.line j).st ((c.line i).from_ k)) + 1) = true := fun o => by
        unfold obIn; rw [hg0]; exact decide_eq_true (by simp only; omega)
      have c2 : obApp H (id (Tryd.bs c.n fun j => Tryd.cmpS (c.line j).st ((c.line i).from_ k))) 3 1 (R (Tryd.bs c.n fun j => Tryd.cmpS (c.line j).st ((c.line i).from_ k))).length = true := by
        unfold obApp; rw [r2]; simp [Tryd.ints]
      have c3 : roomT ((R (Tryd.bs c.n fun j => Tryd.cmpS (c.line j).st ((c.line i).from_ k))).length + 1) 8 = true := by
        unfold roomT; rw [decide_eq_true (by omega), decide_eq_true (by omega)]; rfl
      simp only [allT, isOsl1, isV_self, lsT, hm, hin, c1, c2, c3, b2, b3, b7, Bool.and_true])
    have hob : ∀ o : Ob, obv ((H.drop (id (Tryd.bs c.n fun j => Tryd.cmpS (c.line j).st ((c.line i).from_ k)))).new o) 0 = ⟨29, 1, C⟩ := fun o => by
      unfold obv; rw [hg0]
    rw [hob, ho] at hst
    exact ⟨_, _, _, hst, Tryd.Rw.pushO hw hb hr i _ rfl⟩
end
end Go.Proofs

/- children of the program: proved. -/
namespace Go.Proofs
open Go.Ps
set_option maxRecDepth 100000
set_option linter.unusedSimpArgs false
set_option linter.unusedSectionVars false

/-- The fourth rule of the program at a line with these children. -/
def Tryd.fq (ks : List Int) (c : Ct) (x : Ln) : Int :=
  if x.fate = 1 then (if ks.length = 0 then 10 else if Tryd.any ks.length (fun j => ((c.line (ks.getD j 0).toNat).k : Int) != 1) then 10 else if Tryd.exR (fun j => (c.line (ks.getD j 0).toNat).mass != Tryd.shI x.mass ks.length j) (Tryd.shN x.mass ks.length) 0 then 38 else 0)
  else if x.closed = 5 then (if ks.length ≠ 1 then 10 else if Tryd.any ks.length (fun j => ((c.line (ks.getD j 0).toNat).k : Int) != 1) then 10 else if Tryd.arr (c.line (ks.getD 0 0).toNat).st = false then 10 else if (c.line (ks.getD 0 0).toNat).mass ≠ x.mass then 38 else 0)
  else if x.fate = 2 then (if ks.length ≠ 1 then 10 else 0)
  else if ks.length > 0 then 10 else 0

section
variable (c : Ct) (hs : Tryd.small c) (rows : Nat → List Int) (NX : Nat) (i : Nat) (hi : i < c.n) (hr : ∀ z ∈ rows i, 0 ≤ z ∧ z < c.n) (hlen : (rows i).length ≤ 1000)
include hs hi hr hlen

theorem Tryd.rg (j : Nat) (hj : j < (rows i).length) : 0 ≤ (rows i).getD j 0 ∧ (rows i).getD j 0 < c.n := by
  rw [List.getD_eq_getElem?_getD, List.getElem?_eq_getElem hj]
  exact hr _ (List.getElem_mem hj)

theorem Tryd.K17_2_ok : Tryd.K17_2 c c.n i rows NX = true := by
  have h1 := hs.1
  have b4 : decide ((i : Int) < c.n) = true := decide_eq_true (by omega)
  have b5 : decide ((0 : Int) ≤ i) = true := decide_eq_true (by omega)
  have b6 : decide ((rows i).length ≤ 281474976710656) = true := decide_eq_true (by omega)
  have b7 : decide (∀ j, j < (rows i).length → 0 ≤ (rows i).getD j 0 ∧ (rows i).getD j 0 < (c.n : Int)) = true := decide_eq_true (fun j hj => Tryd.rg c hs rows i hi hr hlen j hj)
  unfold Tryd.K17_2
  by_cases hl1 : (rows i).length = 1
  · obtain ⟨q1, q2⟩ := Tryd.rg c hs rows i hi hr hlen 0 (by omega)
    have b8 := decide_eq_true q1
    have b9 := decide_eq_true q2
    have b10 : decide ((0 : Int) < (rows i).length) = true := decide_eq_true (by omega)
    repeat' (refine Tryd.tree_eq (fun _ => ?_) (fun _ => ?_))
    all_goals (simp only [Tryd.g17_2_1, Tryd.g17_2_2, Tryd.g17_2_3, Tryd.g17_2_4, Tryd.g17_2_5, Tryd.g17_2_6, Tryd.g17_2_7, Tryd.g17_2_8, Tryd.g17_2_9, Tryd.g17_2_10, Tryd.g17_2_11, Tryd.g17_2_12, Int.toNat_natCast] at *; first | (simp only [*, allT, isT, isV_self, decide_true, Bool.not_false, Bool.not_true, Bool.and_true]; done) | simp_all [allT, isT])
  · have hl2 : (((rows i).length : Int) != 1) = true := by simp; omega
    repeat' (refine Tryd.tree_eq (fun _ => ?_) (fun _ => ?_))
    all_goals (simp only [Tryd.g17_2_1, Tryd.g17_2_2, Tryd.g17_2_3, Tryd.g17_2_4, Tryd.g17_2_5, Tryd.g17_2_6, Tryd.g17_2_7, Tryd.g17_2_8, Tryd.g17_2_9, Tryd.g17_2_10, Tryd.g17_2_11, Tryd.g17_2_12, Int.toNat_natCast] at *; first | (simp only [*, allT, isT, isV_self, decide_true, Bool.not_false, Bool.not_true, Bool.and_true]; done) | simp_all [allT, isT])

theorem Tryd.back17 (σ : Tryd.S17) (hσ : σ = .l3n0_0 i c.n i rows NX ∨ σ = .l3s1_1 i c.n i rows NX) : (Tryd.M17 c).step σ = some (.inl (.l2 c.n (i + 1 : Nat) rows NX)) := by
  have h1 := hs.1
  rcases hσ with rfl | rfl
  · show Tryd.step17_3n0_0 c i c.n i rows NX = _
    rw [Tryd.T17_3n0_0 c i c.n i rows NX (by unfold Tryd.K17_3n0_0; simp [Tryd.g17_3n0_0_1, allT])]
    unfold Tryd.V17_3n0_0
    rw [Tryd.wsucc i (by omega)]
  · show Tryd.step17_3s1_1 c i c.n i rows NX = _
    rw [Tryd.T17_3s1_1 c i c.n i rows NX (by unfold Tryd.K17_3s1_1; simp [Tryd.g17_3s1_1_1, allT])]
    unfold Tryd.V17_3s1_1
    first | done | rw [Tryd.wsucc i (by omega)]

theorem Tryd.st17_3s (h1l : (rows i).length = 1) : (Tryd.M17 c).step (.l3s1_0 i c.n i rows NX) = some (if (c.line ((rows i).getD 0 0).toNat).mass != (c.line i).mass then .inr (.int .i64 38) else .inl (.l3s1_1 i c.n i rows NX)) := by
  have h1 := hs.1
  obtain ⟨q1, q2⟩ := Tryd.rg c hs rows i hi hr hlen 0 (by omega)
  have b4 : decide ((i : Int) < c.n) = true := decide_eq_true (by omega)
  have b5 : decide ((0 : Int) ≤ i) = true := decide_eq_true (by omega)
  have b8 := decide_eq_true q1
  have b9 := decide_eq_true q2
  have b10 : decide ((0 : Int) < (rows i).length) = true := decide_eq_true (by omega)
  show Tryd.step17_3s1_0 c i c.n i rows NX = _
  rw [Tryd.T17_3s1_0 c i c.n i rows NX ?_]
  · rfl
  · unfold Tryd.K17_3s1_0
    refine Tryd.tree_eq (fun e => ?_) (fun e => ?_)
    all_goals (simp only [Tryd.g17_3s1_0_1, Tryd.g17_3s1_0_2, Int.toNat_natCast] at *; simp only [e, allT, isV_self, b4, b5, b8, b9, b10, decide_true, Bool.not_false, Bool.and_true])

theorem Tryd.st17_3f (k : Nat) (hk : k < Tryd.shN (c.line i).mass (rows i).length) : (Tryd.M17 c).step (.l3f i c.n i (Tryd.shN (c.line i).mass (rows i).length : Nat) k rows NX) = some (if (c.line ((rows i).getD k 0).toNat).mass != Tryd.shI (c.line i).mass (rows i).length k then .inr (.int .i64 38) else .inl (.l3f i c.n i (Tryd.shN (c.line i).mass (rows i).length : Nat) (k + 1 : Nat) rows NX)) := by
  have h1 := hs.1
  have hk2 : k < (rows i).length := by
    unfold Tryd.shN at hk
    split at hk <;> omega
  obtain ⟨q1, q2⟩ := Tryd.rg c hs rows i hi hr hlen k hk2
  have b1 : decide ((k : Int) < (Tryd.shN (c.line i).mass (rows i).length : Nat)) = true := decide_eq_true (by omega)
  have b2 : decide ((k : Int) < (rows i).length) = true := decide_eq_true (by omega)
  have b3 : decide ((0 : Int) ≤ k) = true := decide_eq_true (by omega)
  have b4 : decide ((i : Int) < c.n) = true := decide_eq_true (by omega)
  have b5 : decide ((0 : Int) ≤ i) = true := decide_eq_true (by omega)
  have b8 := decide_eq_true q1
  have b9 := decide_eq_true q2
  show Tryd.step17_3f c i c.n i (Tryd.shN (c.line i).mass (rows i).length : Nat) k rows NX = _
  rw [Tryd.T17_3f c i c.n i (Tryd.shN (c.line i).mass (rows i).length : Nat) k rows NX ?_]
  · congr 1
    unfold Tryd.V17_3f
    simp only [Int.toNat_natCast]
    rw [if_pos b1, Tryd.wsucc k (by omega)]
  · unfold Tryd.K17_3f
    simp only [Int.toNat_natCast]
    rw [if_pos b1]
    refine Tryd.tree_eq (fun e => ?_) (fun e => ?_)
    all_goals (simp only [Tryd.g17_3f_1, Tryd.g17_3f_2, Int.toNat_natCast] at *; simp only [e, allT, isV_self, b1, b2, b3, b4, b5, b8, b9, decide_true, Bool.not_false, Bool.and_true])

theorem Tryd.st17_3fe : (Tryd.M17 c).step (.l3f i c.n i (Tryd.shN (c.line i).mass (rows i).length : Nat) (Tryd.shN (c.line i).mass (rows i).length : Nat) rows NX) = some (.inl (.l2 c.n (i + 1 : Nat) rows NX)) := by
  have h1 := hs.1
  show Tryd.step17_3f c i c.n i (Tryd.shN (c.line i).mass (rows i).length : Nat) (Tryd.shN (c.line i).mass (rows i).length : Nat) rows NX = _
  rw [Tryd.T17_3f c i c.n i (Tryd.shN (c.line i).mass (rows i).length : Nat) (Tryd.shN (c.line i).mass (rows i).length : Nat) rows NX (by unfold Tryd.K17_3f; simp only [Int.toNat_natCast]; rw [if_neg (by simp)]; simp [Tryd.g17_3f_3, allT])]
  unfold Tryd.V17_3f
  simp only [Int.toNat_natCast]
  rw [if_neg (by simp), Tryd.wsucc i (by omega)]

theorem Tryd.ln17 (r : T) (hn : Tryd.Runs (Tryd.M17 c) (.l2 c.n (i + 1 : Nat) rows NX) r) : Tryd.Runs (Tryd.M17 c) (.l2 c.n i rows NX) (if Tryd.fq (rows i) c (c.line i) ≠ 0 then .int .i64 (Tryd.fq (rows i) c (c.line i)) else r) := by
  have b4 : decide ((i : Int) < c.n) = true := decide_eq_true (by omega)
  have hst : (Tryd.M17 c).step (.l2 c.n i rows NX) = some (Tryd.V17_2 c c.n i rows NX) := Tryd.T17_2 c c.n i rows NX (Tryd.K17_2_ok c hs rows NX i hi hr hlen)
  unfold Tryd.V17_2 at hst
  simp only [Int.toNat_natCast] at hst
  rw [if_pos b4] at hst
  have hf : ∀ (q k : Nat), q + k = Tryd.shN (c.line i).mass (rows i).length → Tryd.Runs (Tryd.M17 c) (.l3f i c.n i (Tryd.shN (c.line i).mass (rows i).length : Nat) k rows NX) (if Tryd.exR (fun j => (c.line ((rows i).getD j 0).toNat).mass != Tryd.shI (c.line i).mass (rows i).length j) q k then .int .i64 38 else r) := by
    intro q
    induction q with
    | zero =>
      intro k hk
      have : k = Tryd.shN (c.line i).mass (rows i).length := by omega
      subst this
      exact .next (Tryd.st17_3fe c hs rows NX i hi hr hlen) hn
    | succ q ih =>
      intro k hk
      have hs3 := Tryd.st17_3f c hs rows NX i hi hr hlen k (by omega)
      rw [Tryd.exR.eq_2]
      cases h : ((c.line ((rows i).getD k 0).toNat).mass != Tryd.shI (c.line i).mass (rows i).length k)
      · rw [h] at hs3; exact .next hs3 (ih (k + 1) (by omega))
      · rw [h] at hs3; exact .done hs3
  have fin : ∀ (X : Int), Tryd.fq (rows i) c (c.line i) = X → Tryd.Runs (Tryd.M17 c) (.l2 c.n i rows NX) (if X ≠ 0 then .int .i64 X else r) → Tryd.Runs (Tryd.M17 c) (.l2 c.n i rows NX) (if Tryd.fq (rows i) c (c.line i) ≠ 0 then .int .i64 (Tryd.fq (rows i) c (c.line i)) else r) := by
    rintro X rfl h; exact h
  by_cases e1 : (c.line i).fate = 1
  · have e1' : ((c.line i).fate == 1) = true := by simp [e1]
    simp only [e1', if_true] at hst
    by_cases e2 : (rows i).length = 0
    · have e2' : (((rows i).length : Int) == 0) = true := by simp [e2]
      simp only [e2', if_true] at hst
      exact fin 10 (by unfold Tryd.fq; rw [if_pos e1, if_pos e2]) (.done hst)
    · have e2' : (((rows i).length : Int) == 0) = false := by rw [beq_eq_false_iff_ne]; omega
      simp only [e2', Bool.false_eq_true, if_false] at hst
      by_cases e3 : Tryd.any (rows i).length (fun j => ((c.line ((rows i).getD j 0).toNat).k : Int) != 1) = true
      · simp only [e3, if_true] at hst
        exact fin 10 (by unfold Tryd.fq; rw [if_pos e1, if_neg e2, if_pos e3]) (.done hst)
      · simp only [e3, if_false] at hst
        have := Tryd.Runs.next hst (hf (Tryd.shN (c.line i).mass (rows i).length) 0 (by omega))
        by_cases e4 : Tryd.exR (fun j => (c.line ((rows i).getD j 0).toNat).mass != Tryd.shI (c.line i).mass (rows i).length j) (Tryd.shN (c.line i).mass (rows i).length) 0 = true
        · rw [if_pos e4] at this
          exact fin 38 (by unfold Tryd.fq; rw [if_pos e1, if_neg e2, if_neg e3, if_pos e4]) this
        · rw [if_neg e4] at this
          exact fin 0 (by unfold Tryd.fq; rw [if_pos e1, if_neg e2, if_neg e3, if_neg e4]) this
  · have e1' : ((c.line i).fate == 1) = false := by simp [e1]
    simp only [e1', Bool.false_eq_true, if_false] at hst
    by_cases e2 : (c.line i).closed = 5
    · have e2' : ((c.line i).closed == 5) = true := by simp [e2]
      simp only [e2', if_true] at hst
      by_cases e3 : (rows i).length = 1
      · have e3' : (((rows i).length : Int) != 1) = false := by simp [e3]
        simp only [e3', Bool.false_eq_true, if_false] at hst
        by_cases e4 : Tryd.any (rows i).length (fun j => ((c.line ((rows i).getD j 0).toNat).k : Int) != 1) = true
        · simp only [e4, if_true] at hst
          exact fin 10 (by unfold Tryd.fq; rw [if_neg e1, if_pos e2, if_neg (by simp [e3]), if_pos e4]) (.done hst)
        · simp only [e4, if_false] at hst
          by_cases e5 : Tryd.arr (c.line ((rows i).getD 0 0).toNat).st = false
          · simp only [e5, Bool.not_false, if_true] at hst
            exact fin 10 (by unfold Tryd.fq; rw [if_neg e1, if_pos e2, if_neg (by simp [e3]), if_neg e4, if_pos e5]) (.done hst)
          · have e5' : Tryd.arr (c.line ((rows i).getD 0 0).toNat).st = true := by simpa using e5
            simp only [e5', Bool.not_true, Bool.false_eq_true, if_false] at hst
            have hs3 := Tryd.st17_3s c hs rows NX i hi hr hlen e3
            by_cases e6 : (c.line ((rows i).getD 0 0).toNat).mass = (c.line i).mass
            · have e6' : ((c.line ((rows i).getD 0 0).toNat).mass != (c.line i).mass) = false := bne_eq_false_iff_eq.2 e6
              rw [e6'] at hs3
              exact fin 0 (by unfold Tryd.fq; rw [if_neg e1, if_pos e2, if_neg (by simp [e3]), if_neg e4, if_neg e5, if_neg (fun q => q e6)]) (.next hst (.next hs3 (.next (Tryd.back17 c hs rows NX i hi hr hlen _ (.inr rfl)) hn)))
            · have e6' : ((c.line ((rows i).getD 0 0).toNat).mass != (c.line i).mass) = true := bne_iff_ne.2 e6
              rw [e6'] at hs3
              exact fin 38 (by unfold Tryd.fq; rw [if_neg e1, if_pos e2, if_neg (by simp [e3]), if_neg e4, if_neg e5, if_pos e6]) (.next hst (.done hs3))
      · have e3' : (((rows i).length : Int) != 1) = true := by simp; omega
        simp only [e3', if_true] at hst
        exact fin 10 (by unfold Tryd.fq; rw [if_neg e1, if_pos e2, if_pos e3]) (.done hst)
    · have e2' : ((c.line i).closed == 5) = false := by simp [e2]
      simp only [e2', Bool.false_eq_true, if_false] at hst
      by_cases e3 : (c.line i).fate = 2
      · have e3' : ((c.line i).fate == 2) = true := by simp [e3]
        simp only [e3', if_true] at hst
        by_cases e4 : (rows i).length = 1
        · have e4' : (((rows i).length : Int) != 1) = false := by simp [e4]
          simp only [e4', Bool.false_eq_true, if_false] at hst
          exact fin 0 (by unfold Tryd.fq; rw [if_neg e1, if_neg e2, if_pos e3, if_neg (by simp [e4])]) (.next hst (.next (Tryd.back17 c hs rows NX i hi hr hlen _ (.inl rfl)) hn))
        · have e4' : (((rows i).length : Int) != 1) = true := by simp; omega
          simp only [e4', if_true] at hst
          exact fin 10 (by unfold Tryd.fq; rw [if_neg e1, if_neg e2, if_pos e3, if_pos e4]) (.done hst)
      · have e3' : ((c.line i).fate == 2) = false := by simp [e3]
        simp only [e3', Bool.false_eq_true, if_false] at hst
        by_cases e4 : (rows i).length > 0
        · have e4' : decide (((rows i).length : Int) > 0) = true := decide_eq_true (by omega)
          simp only [e4', if_true] at hst
          exact fin 10 (by unfold Tryd.fq; rw [if_neg e1, if_neg e2, if_neg e3, if_pos e4]) (.done hst)
        · have e4' : decide (((rows i).length : Int) > 0) = false := decide_eq_false (by omega)
          simp only [e4', Bool.false_eq_true, if_false] at hst
          exact fin 0 (by unfold Tryd.fq; rw [if_neg e1, if_neg e2, if_neg e3, if_neg e4]) (.next hst (.next (Tryd.back17 c hs rows NX i hi hr hlen _ (.inl rfl)) hn))
end
end Go.Proofs

/- children of the program: the contract. -/
namespace Go.Proofs
open Go.Ps
set_option maxRecDepth 100000
set_option linter.unusedSimpArgs false
set_option linter.unusedSectionVars false

/-- The rows are short and hold places of lines. -/
def Tryd.Rin (n L : Nat) (R : Nat → List Int) : Prop := ∀ z, (R z).length ≤ L ∧ ∀ x ∈ R z, 0 ≤ x ∧ x < n
theorem Tryd.Rin.push {n L : Nat} {R : Nat → List Int} (h : Tryd.Rin n L R) (a i : Nat) (hi : i < n) : Tryd.Rin n (L + 1) (Tryd.push R a i) := by
  intro z
  unfold Tryd.push
  by_cases e : z = a
  · rw [if_pos e]
    refine ⟨by simp; exact (h z).1, fun x hx => ?_⟩
    rcases List.mem_append.1 hx with q | q
    · exact (h z).2 x q
    · simp at q; omega
  · rw [if_neg e]
    exact ⟨by have := (h z).1; omega, (h z).2⟩
theorem Tryd.Rin.mono {n L L' : Nat} {R : Nat → List Int} (h : Tryd.Rin n L R) (hL : L ≤ L') : Tryd.Rin n L' R := fun z => ⟨Nat.le_trans (h z).1 hL, (h z).2⟩

def Tryd.chE (R : Nat → List Int) (c : Ct) : Int := Tryd.fst (fun i => Tryd.fq (R i) c (c.line i)) c.n 0
theorem Tryd.fst_congr {e e' : Nat → Int} : ∀ (q i : Nat), (∀ j, i ≤ j → j < i + q → e j = e' j) → Tryd.fst e q i = Tryd.fst e' q i
  | 0, _, _ => rfl
  | q + 1, i, h => by
    unfold Tryd.fst
    rw [h i (by omega) (by omega), Tryd.fst_congr q (i + 1) (fun j h1 h2 => h j (by omega) (by omega))]

section
variable (c : Ct) (hs : Tryd.small c) (hl : Tryd.linked (Tryd.ap c) c)
include hs

theorem Tryd.run17_2 (rows : Nat → List Int) (NX : Nat) (hr : ∀ i, i < c.n → (∀ z ∈ rows i, 0 ≤ z ∧ z < c.n) ∧ (rows i).length ≤ 1000) : ∀ (q i : Nat), q + i = c.n → Tryd.Runs (Tryd.M17 c) (.l2 c.n i rows NX) (.int .i64 (Tryd.fst (fun i => Tryd.fq (rows i) c (c.line i)) q i)) := by
  intro q
  induction q with
  | zero =>
    intro i hi
    have : i = c.n := by omega
    subst this
    refine .done ?_
    show Tryd.step17_2 c c.n c.n rows NX = _
    rw [Tryd.T17_2 c c.n c.n rows NX (by unfold Tryd.K17_2; rw [if_neg (by simp)]; simp [Tryd.g17_2_12, allT])]
    unfold Tryd.V17_2
    rw [if_neg (by simp)]
    rfl
  | succ q ih =>
    intro i hi
    have h := hr i (by omega)
    have := Tryd.ln17 c hs rows NX i (by omega) h.1 h.2 _ (ih (i + 1) (by omega))
    unfold Tryd.fst
    by_cases e : Tryd.fq (rows i) c (c.line i) = 0
    · rw [if_neg (by simp [e])] at this ⊢; exact this
    · rw [if_pos e] at this ⊢; exact this

include hl
theorem Tryd.run17_0 (r : T) : ∀ (q i : Nat) (H : Hp) (R : Nat → List Int) (C : List T) (id : Nat → Nat), q + i = c.n → Tryd.Rw c.n H R C id → Tryd.Rin c.n (10 * i) R → r = .int .i64 (Tryd.chE (Tryd.rwO c q i R) c) → Tryd.Runs (Tryd.M17 c) (.l0 c.n i H) r := by
  have hn := hs.1
  intro q
  induction q with
  | zero =>
    intro i H R C id hi hw hR hr
    have : i = c.n := by omega
    subst this
    obtain ⟨w1, w2⟩ := hw.ok
    refine .next (s' := .l2 c.n (0 : Nat) (Tryd.rowsOf H) H.next) ?_ ?_
    · show Tryd.step17_0 c c.n c.n H = _
      rw [Tryd.T17_0 c c.n c.n H (by unfold Tryd.K17_0; rw [if_neg (by simp), Tryd.pB_iff.2 w1]; simp [Tryd.g17_0_2, allT])]
      unfold Tryd.V17_0
      rw [if_neg (by simp)]
      rfl
    · have := Tryd.run17_2 c hs (Tryd.rowsOf H) H.next (fun i hi => by rw [w2 i hi]; exact ⟨(hR i).2, by have := (hR i).1; omega⟩) c.n 0 (by omega)
      rw [hr]
      have e : Tryd.chE (Tryd.rwO c 0 c.n R) c = Tryd.fst (fun i => Tryd.fq (Tryd.rowsOf H i) c (c.line i)) c.n 0 := by
        unfold Tryd.chE
        refine Tryd.fst_congr c.n 0 (fun j _ hj => ?_)
        rw [w2 j (by omega)]
        rfl
      rw [e]
      exact this
  | succ q ih =>
    intro i H R C id hi hw hR hr
    obtain ⟨k10, _, _⟩ := hs.2 i (by omega)
    have inner : ∀ (p k : Nat) (H : Hp) (R : Nat → List Int) (C : List T) (id : Nat → Nat), p + k = (c.line i).k → Tryd.Rw c.n H R C id → Tryd.Rin c.n (10 * i + k) R → r = .int .i64 (Tryd.chE (Tryd.rwO c q (i + 1) (Tryd.rwR c i p k R)) c) → Tryd.Runs (Tryd.M17 c) (.l1 i c.n i (c.line i).k k H) r := by
      intro p
      induction p with
      | zero =>
        intro k H R C id hk hw hR hr
        have : k = (c.line i).k := by omega
        subst this
        refine .next (s' := .l0 c.n (i + 1 : Nat) H) ?_ (ih (i + 1) H R C id (by omega) hw (hR.mono (by omega)) hr)
        show Tryd.step17_1 c i c.n i (c.line i).k (c.line i).k H = _
        rw [Tryd.T17_1 c i c.n i (c.line i).k (c.line i).k H (by unfold Tryd.K17_1; rw [if_neg (by simp)]; simp [Tryd.g17_1_3, allT])]
        unfold Tryd.V17_1
        rw [if_neg (by simp), Tryd.wsucc i (by omega)]
      | succ p ihp =>
        intro k H R C id hk hw hR hr
        obtain ⟨H', C', id', a, b⟩ := Tryd.st17_1 c hs hl i (by omega) k (by omega) H R (fun z => by have := (hR z).1; omega) C id hw
        exact .next a (ihp (k + 1) H' _ C' id' (by omega) b (hR.push _ i (by omega)) hr)
    refine .next (s' := .l1 i c.n i (c.line i).k (0 : Nat) H) ?_ (inner (c.line i).k 0 H R C id (by omega) hw (hR.mono (by omega)) hr)
    show Tryd.step17_0 c c.n i H = _
    have b1 : decide ((i : Int) < c.n) = true := decide_eq_true (by omega)
    have b2 : decide ((0 : Int) ≤ i) = true := decide_eq_true (by omega)
    rw [Tryd.T17_0 c c.n i H (by unfold Tryd.K17_0; rw [if_pos b1]; simp only [Tryd.g17_0_1, allT, b1, b2, Bool.and_true])]
    unfold Tryd.V17_0
    rw [if_pos b1]
    rfl

/-- children. -/
theorem Tryd.children_ok : PureFn Tryd.prog Tryd.gl 17 [ctT c] (.int .i64 (Tryd.chE (Tryd.rowsP c) c)) := by
  have hn := hs.1
  obtain ⟨n, h⟩ := Tryd.run17_0 c hs hl _ c.n 0 _ _ _ _ (by omega) (Tryd.Rw.start c.n) (fun z => ⟨by simp, by simp⟩) rfl
  refine Tryd.c17 c n ?_ ?_
  · unfold Tryd.K17_s
    simp only [Tryd.g17_s_1, allT, decide_true, decide_eq_true (show c.n * 24 ≤ 70368744177664 by omega), decide_eq_true (show (c.n : Int) ≤ 70368744177664 by omega), Bool.and_true]
  · unfold Tryd.V17_s
    exact h
end
end Go.Proofs

/- The contracts of the program's rules. -/
namespace Go.Proofs
open Go.Ps

noncomputable def Tryd.s14 : List T → Option (T × List Bool)
  | [t] => some (.int .i64 (Tryd.sizE (ctv t)), [isV t (ctT (ctv t))])
  | _ => none
noncomputable def Tryd.s15 : List T → Option (T × List Bool)
  | [t] => some (.int .i64 (Tryd.formE (ctv t)), [isV t (ctT (ctv t)), Tryd.pB (Tryd.small (ctv t))])
  | _ => none
noncomputable def Tryd.s16 : List T → Option (T × List Bool)
  | [t] => some (.int .i64 (Tryd.parE (ctv t)), [isV t (ctT (ctv t)), Tryd.pB (Tryd.small (ctv t))])
  | _ => none
noncomputable def Tryd.s17 : List T → Option (T × List Bool)
  | [t] => some (.int .i64 (Tryd.chE (Tryd.rowsP (ctv t)) (ctv t)), [isV t (ctT (ctv t)), Tryd.pB (Tryd.small (ctv t)), Tryd.pB (Tryd.linked (Tryd.ap (ctv t)) (ctv t))])
  | _ => none
noncomputable def Tryd.s18 : List T → Option (T × List Bool)
  | [t] => some (.int .i64 (Tryd.merE (ctv t)), [isV t (ctT (ctv t)), Tryd.pB (Tryd.small (ctv t)), Tryd.pB (Tryd.linked (Tryd.ap (ctv t)) (ctv t))])
  | _ => none
noncomputable def Tryd.s19 : List T → Option (T × List Bool)
  | [t] => some (.int .i64 (Tryd.totE (ctv t)), [isV t (ctT (ctv t)), decide ((ctv t).n ≤ 281474976710656)])
  | _ => none
theorem Tryd.s14_ok (ts : List T) (r : T) (cs : List Bool) (h : Tryd.s14 ts = some (r, cs)) (k : allT cs = true) : PureFn Tryd.prog Tryd.gl 14 ts r := by
  unfold Tryd.s14 at h; split at h
  · rename_i t
    cases h
    simp only [allT, Bool.and_true, Bool.and_eq_true, isV_iff, Tryd.pB_iff, decide_eq_true_eq] at k
    rw [k]; exact Tryd.size_ok _
  · cases h
theorem Tryd.s15_ok (ts : List T) (r : T) (cs : List Bool) (h : Tryd.s15 ts = some (r, cs)) (k : allT cs = true) : PureFn Tryd.prog Tryd.gl 15 ts r := by
  unfold Tryd.s15 at h; split at h
  · rename_i t
    cases h
    simp only [allT, Bool.and_true, Bool.and_eq_true, isV_iff, Tryd.pB_iff, decide_eq_true_eq] at k
    rw [k.1]; exact Tryd.form_ok _ k.2
  · cases h
theorem Tryd.s16_ok (ts : List T) (r : T) (cs : List Bool) (h : Tryd.s16 ts = some (r, cs)) (k : allT cs = true) : PureFn Tryd.prog Tryd.gl 16 ts r := by
  unfold Tryd.s16 at h; split at h
  · rename_i t
    cases h
    simp only [allT, Bool.and_true, Bool.and_eq_true, isV_iff, Tryd.pB_iff, decide_eq_true_eq] at k
    rw [k.1]; exact Tryd.parents_ok _ k.2
  · cases h
theorem Tryd.s17_ok (ts : List T) (r : T) (cs : List Bool) (h : Tryd.s17 ts = some (r, cs)) (k : allT cs = true) : PureFn Tryd.prog Tryd.gl 17 ts r := by
  unfold Tryd.s17 at h; split at h
  · rename_i t
    cases h
    simp only [allT, Bool.and_true, Bool.and_eq_true, isV_iff, Tryd.pB_iff, decide_eq_true_eq] at k
    rw [k.1]; exact Tryd.children_ok _ k.2.1 k.2.2
  · cases h
theorem Tryd.s18_ok (ts : List T) (r : T) (cs : List Bool) (h : Tryd.s18 ts = some (r, cs)) (k : allT cs = true) : PureFn Tryd.prog Tryd.gl 18 ts r := by
  unfold Tryd.s18 at h; split at h
  · rename_i t
    cases h
    simp only [allT, Bool.and_true, Bool.and_eq_true, isV_iff, Tryd.pB_iff, decide_eq_true_eq] at k
    rw [k.1]; exact Tryd.merges_ok _ k.2.1 k.2.2
  · cases h
theorem Tryd.s19_ok (ts : List T) (r : T) (cs : List Bool) (h : Tryd.s19 ts = some (r, cs)) (k : allT cs = true) : PureFn Tryd.prog Tryd.gl 19 ts r := by
  unfold Tryd.s19 at h; split at h
  · rename_i t
    cases h
    simp only [allT, Bool.and_true, Bool.and_eq_true, isV_iff, Tryd.pB_iff, decide_eq_true_eq] at k
    rw [k.1]; exact Tryd.totals_ok _ k.2
  · cases h
noncomputable def Tryd.D18 : Ed := ⟨Tryd.gl, (pdAdd 14 Tryd.s14 (pdAdd 15 Tryd.s15 (pdAdd 16 Tryd.s16 (pdAdd 17 Tryd.s17 (pdAdd 18 Tryd.s18 (pdAdd 19 Tryd.s19 Tryd.D16.pd))))))⟩
theorem Tryd.cx18 : Cx Tryd.prog Tryd.D18 Tryd.F0 := ⟨Tryd.follows, (pdAdd_ok (pdAdd_ok (pdAdd_ok (pdAdd_ok (pdAdd_ok (pdAdd_ok Tryd.cx16.hE Tryd.s19_ok) Tryd.s18_ok) Tryd.s17_ok) Tryd.s16_ok) Tryd.s15_ok) Tryd.s14_ok), Tryd.F0ok⟩
end Go.Proofs

/- Check as a machine, by program (gen2). -/
namespace Go.Proofs.Tryd
open Go.Ps
set_option maxRecDepth 100000
set_option linter.unusedVariables false
set_option linter.unusedSimpArgs false

/-! ### 8 -/
inductive S8 where
  | l0u0
  | l0u1
  | l0u2
  | l0u3
  | l0u4
  | l0u5
  | l0u6
noncomputable def g8_s_1 (c : Ct) : List Bool := []
theorem w8_s_1 (c : Ct) : outK prog f8 20 [1, 6, 7] (runK prog D18 F0 2000 (.code (bodyOf f8)) [] 0 ([ctT c] ++ List.replicate 16 undefT) ⟨0, []⟩ [] [])
    = some (OutT.loop 0 (loopAt f8 0).1 (loopAt f8 0).2, g8_s_1 c, { next := 0, objs := [] }, [(ctT c).ref 0, T.agg [T.fn (Fn.func 14) [] [], T.fn (Fn.func 15) [] [], T.fn (Fn.func 16) [] [], T.fn (Fn.func 17) [] [], T.fn (Fn.func 18) [] [], T.fn (Fn.func 19) [] []], T.int .i64 0], 17) := by kernel_rfl
noncomputable def g8_0u0_1 (c : Ct) : List Bool := [sizE c != 0, isV (ctT c) (ctT c), true, true, true]
theorem w8_0u0_1 (c : Ct)  (fr : List T) : outK prog f8 20 [] (runK prog D18 F0 2000 (.code (loopAt f8 0).1) (.lp :: (loopAt f8 0).2) 0 (frK [1, 6, 7] [(ctT c).ref 0, T.agg [T.fn (Fn.func 14) [] [], T.fn (Fn.func 15) [] [], T.fn (Fn.func 16) [] [], T.fn (Fn.func 17) [] [], T.fn (Fn.func 18) [] [], T.fn (Fn.func 19) [] []], T.int .i64 0] fr 17) ⟨0, []⟩ [true, true] [])
    = some (OutT.done (some (T.int .i64 (sizE c))), g8_0u0_1 c, { next := 0, objs := [] }, [], 0) := by kernel_rfl
noncomputable def g8_0u0_2 (c : Ct) : List Bool := [!sizE c != 0, isV (ctT c) (ctT c), true, true, true]
theorem w8_0u0_2 (c : Ct)  (fr : List T) : outK prog f8 20 [1, 6, 7] (runK prog D18 F0 2000 (.code (loopAt f8 0).1) (.lp :: (loopAt f8 0).2) 0 (frK [1, 6, 7] [(ctT c).ref 0, T.agg [T.fn (Fn.func 14) [] [], T.fn (Fn.func 15) [] [], T.fn (Fn.func 16) [] [], T.fn (Fn.func 17) [] [], T.fn (Fn.func 18) [] [], T.fn (Fn.func 19) [] []], T.int .i64 0] fr 17) ⟨0, []⟩ [true, false] [])
    = some (OutT.again 0, g8_0u0_2 c, { next := 0, objs := [] }, [(ctT c).ref 0, T.agg [T.fn (Fn.func 14) [] [], T.fn (Fn.func 15) [] [], T.fn (Fn.func 16) [] [], T.fn (Fn.func 17) [] [], T.fn (Fn.func 18) [] [], T.fn (Fn.func 19) [] []], T.int .i64 (IntKind.i64.wrap (0 + 1))], 17) := by kernel_rfl
noncomputable def g8_0u1_1 (c : Ct) : List Bool := [formE c != 0, isV (ctT c) (ctT c), pB (small c), true, true, true]
theorem w8_0u1_1 (c : Ct)  (fr : List T) : outK prog f8 20 [] (runK prog D18 F0 2000 (.code (loopAt f8 0).1) (.lp :: (loopAt f8 0).2) 0 (frK [1, 6, 7] [(ctT c).ref 0, T.agg [T.fn (Fn.func 14) [] [], T.fn (Fn.func 15) [] [], T.fn (Fn.func 16) [] [], T.fn (Fn.func 17) [] [], T.fn (Fn.func 18) [] [], T.fn (Fn.func 19) [] []], T.int .i64 1] fr 17) ⟨0, []⟩ [true, true] [])
    = some (OutT.done (some (T.int .i64 (formE c))), g8_0u1_1 c, { next := 0, objs := [] }, [], 0) := by kernel_rfl
noncomputable def g8_0u1_2 (c : Ct) : List Bool := [!formE c != 0, isV (ctT c) (ctT c), pB (small c), true, true, true]
theorem w8_0u1_2 (c : Ct)  (fr : List T) : outK prog f8 20 [1, 6, 7] (runK prog D18 F0 2000 (.code (loopAt f8 0).1) (.lp :: (loopAt f8 0).2) 0 (frK [1, 6, 7] [(ctT c).ref 0, T.agg [T.fn (Fn.func 14) [] [], T.fn (Fn.func 15) [] [], T.fn (Fn.func 16) [] [], T.fn (Fn.func 17) [] [], T.fn (Fn.func 18) [] [], T.fn (Fn.func 19) [] []], T.int .i64 1] fr 17) ⟨0, []⟩ [true, false] [])
    = some (OutT.again 0, g8_0u1_2 c, { next := 0, objs := [] }, [(ctT c).ref 0, T.agg [T.fn (Fn.func 14) [] [], T.fn (Fn.func 15) [] [], T.fn (Fn.func 16) [] [], T.fn (Fn.func 17) [] [], T.fn (Fn.func 18) [] [], T.fn (Fn.func 19) [] []], T.int .i64 (IntKind.i64.wrap (1 + 1))], 17) := by kernel_rfl
noncomputable def g8_0u2_1 (c : Ct) : List Bool := [parE c != 0, isV (ctT c) (ctT c), pB (small c), true, true, true]
theorem w8_0u2_1 (c : Ct)  (fr : List T) : outK prog f8 20 [] (runK prog D18 F0 2000 (.code (loopAt f8 0).1) (.lp :: (loopAt f8 0).2) 0 (frK [1, 6, 7] [(ctT c).ref 0, T.agg [T.fn (Fn.func 14) [] [], T.fn (Fn.func 15) [] [], T.fn (Fn.func 16) [] [], T.fn (Fn.func 17) [] [], T.fn (Fn.func 18) [] [], T.fn (Fn.func 19) [] []], T.int .i64 2] fr 17) ⟨0, []⟩ [true, true] [])
    = some (OutT.done (some (T.int .i64 (parE c))), g8_0u2_1 c, { next := 0, objs := [] }, [], 0) := by kernel_rfl
noncomputable def g8_0u2_2 (c : Ct) : List Bool := [!parE c != 0, isV (ctT c) (ctT c), pB (small c), true, true, true]
theorem w8_0u2_2 (c : Ct)  (fr : List T) : outK prog f8 20 [1, 6, 7] (runK prog D18 F0 2000 (.code (loopAt f8 0).1) (.lp :: (loopAt f8 0).2) 0 (frK [1, 6, 7] [(ctT c).ref 0, T.agg [T.fn (Fn.func 14) [] [], T.fn (Fn.func 15) [] [], T.fn (Fn.func 16) [] [], T.fn (Fn.func 17) [] [], T.fn (Fn.func 18) [] [], T.fn (Fn.func 19) [] []], T.int .i64 2] fr 17) ⟨0, []⟩ [true, false] [])
    = some (OutT.again 0, g8_0u2_2 c, { next := 0, objs := [] }, [(ctT c).ref 0, T.agg [T.fn (Fn.func 14) [] [], T.fn (Fn.func 15) [] [], T.fn (Fn.func 16) [] [], T.fn (Fn.func 17) [] [], T.fn (Fn.func 18) [] [], T.fn (Fn.func 19) [] []], T.int .i64 (IntKind.i64.wrap (2 + 1))], 17) := by kernel_rfl
noncomputable def g8_0u3_1 (c : Ct) : List Bool := [chE (rowsP c) c != 0, isV (ctT c) (ctT c), pB (small c), pB (linked (ap c) c), true, true, true]
theorem w8_0u3_1 (c : Ct)  (fr : List T) : outK prog f8 20 [] (runK prog D18 F0 2000 (.code (loopAt f8 0).1) (.lp :: (loopAt f8 0).2) 0 (frK [1, 6, 7] [(ctT c).ref 0, T.agg [T.fn (Fn.func 14) [] [], T.fn (Fn.func 15) [] [], T.fn (Fn.func 16) [] [], T.fn (Fn.func 17) [] [], T.fn (Fn.func 18) [] [], T.fn (Fn.func 19) [] []], T.int .i64 3] fr 17) ⟨0, []⟩ [true, true] [])
    = some (OutT.done (some (T.int .i64 (chE (rowsP c) c))), g8_0u3_1 c, { next := 0, objs := [] }, [], 0) := by kernel_rfl
noncomputable def g8_0u3_2 (c : Ct) : List Bool := [!chE (rowsP c) c != 0, isV (ctT c) (ctT c), pB (small c), pB (linked (ap c) c), true, true, true]
theorem w8_0u3_2 (c : Ct)  (fr : List T) : outK prog f8 20 [1, 6, 7] (runK prog D18 F0 2000 (.code (loopAt f8 0).1) (.lp :: (loopAt f8 0).2) 0 (frK [1, 6, 7] [(ctT c).ref 0, T.agg [T.fn (Fn.func 14) [] [], T.fn (Fn.func 15) [] [], T.fn (Fn.func 16) [] [], T.fn (Fn.func 17) [] [], T.fn (Fn.func 18) [] [], T.fn (Fn.func 19) [] []], T.int .i64 3] fr 17) ⟨0, []⟩ [true, false] [])
    = some (OutT.again 0, g8_0u3_2 c, { next := 0, objs := [] }, [(ctT c).ref 0, T.agg [T.fn (Fn.func 14) [] [], T.fn (Fn.func 15) [] [], T.fn (Fn.func 16) [] [], T.fn (Fn.func 17) [] [], T.fn (Fn.func 18) [] [], T.fn (Fn.func 19) [] []], T.int .i64 (IntKind.i64.wrap (3 + 1))], 17) := by kernel_rfl
noncomputable def g8_0u4_1 (c : Ct) : List Bool := [merE c != 0, isV (ctT c) (ctT c), pB (small c), pB (linked (ap c) c), true, true, true]
theorem w8_0u4_1 (c : Ct)  (fr : List T) : outK prog f8 20 [] (runK prog D18 F0 2000 (.code (loopAt f8 0).1) (.lp :: (loopAt f8 0).2) 0 (frK [1, 6, 7] [(ctT c).ref 0, T.agg [T.fn (Fn.func 14) [] [], T.fn (Fn.func 15) [] [], T.fn (Fn.func 16) [] [], T.fn (Fn.func 17) [] [], T.fn (Fn.func 18) [] [], T.fn (Fn.func 19) [] []], T.int .i64 4] fr 17) ⟨0, []⟩ [true, true] [])
    = some (OutT.done (some (T.int .i64 (merE c))), g8_0u4_1 c, { next := 0, objs := [] }, [], 0) := by kernel_rfl
noncomputable def g8_0u4_2 (c : Ct) : List Bool := [!merE c != 0, isV (ctT c) (ctT c), pB (small c), pB (linked (ap c) c), true, true, true]
theorem w8_0u4_2 (c : Ct)  (fr : List T) : outK prog f8 20 [1, 6, 7] (runK prog D18 F0 2000 (.code (loopAt f8 0).1) (.lp :: (loopAt f8 0).2) 0 (frK [1, 6, 7] [(ctT c).ref 0, T.agg [T.fn (Fn.func 14) [] [], T.fn (Fn.func 15) [] [], T.fn (Fn.func 16) [] [], T.fn (Fn.func 17) [] [], T.fn (Fn.func 18) [] [], T.fn (Fn.func 19) [] []], T.int .i64 4] fr 17) ⟨0, []⟩ [true, false] [])
    = some (OutT.again 0, g8_0u4_2 c, { next := 0, objs := [] }, [(ctT c).ref 0, T.agg [T.fn (Fn.func 14) [] [], T.fn (Fn.func 15) [] [], T.fn (Fn.func 16) [] [], T.fn (Fn.func 17) [] [], T.fn (Fn.func 18) [] [], T.fn (Fn.func 19) [] []], T.int .i64 (IntKind.i64.wrap (4 + 1))], 17) := by kernel_rfl
noncomputable def g8_0u5_1 (c : Ct) : List Bool := [totE c != 0, isV (ctT c) (ctT c), decide (c.n ≤ 281474976710656), true, true, true]
theorem w8_0u5_1 (c : Ct)  (fr : List T) : outK prog f8 20 [] (runK prog D18 F0 2000 (.code (loopAt f8 0).1) (.lp :: (loopAt f8 0).2) 0 (frK [1, 6, 7] [(ctT c).ref 0, T.agg [T.fn (Fn.func 14) [] [], T.fn (Fn.func 15) [] [], T.fn (Fn.func 16) [] [], T.fn (Fn.func 17) [] [], T.fn (Fn.func 18) [] [], T.fn (Fn.func 19) [] []], T.int .i64 5] fr 17) ⟨0, []⟩ [true, true] [])
    = some (OutT.done (some (T.int .i64 (totE c))), g8_0u5_1 c, { next := 0, objs := [] }, [], 0) := by kernel_rfl
noncomputable def g8_0u5_2 (c : Ct) : List Bool := [!totE c != 0, isV (ctT c) (ctT c), decide (c.n ≤ 281474976710656), true, true, true]
theorem w8_0u5_2 (c : Ct)  (fr : List T) : outK prog f8 20 [1, 6, 7] (runK prog D18 F0 2000 (.code (loopAt f8 0).1) (.lp :: (loopAt f8 0).2) 0 (frK [1, 6, 7] [(ctT c).ref 0, T.agg [T.fn (Fn.func 14) [] [], T.fn (Fn.func 15) [] [], T.fn (Fn.func 16) [] [], T.fn (Fn.func 17) [] [], T.fn (Fn.func 18) [] [], T.fn (Fn.func 19) [] []], T.int .i64 5] fr 17) ⟨0, []⟩ [true, false] [])
    = some (OutT.again 0, g8_0u5_2 c, { next := 0, objs := [] }, [(ctT c).ref 0, T.agg [T.fn (Fn.func 14) [] [], T.fn (Fn.func 15) [] [], T.fn (Fn.func 16) [] [], T.fn (Fn.func 17) [] [], T.fn (Fn.func 18) [] [], T.fn (Fn.func 19) [] []], T.int .i64 (IntKind.i64.wrap (5 + 1))], 17) := by kernel_rfl
noncomputable def g8_0u6_1 (c : Ct) : List Bool := [true]
theorem w8_0u6_1 (c : Ct)  (fr : List T) : outK prog f8 20 [] (runK prog D18 F0 2000 (.code (loopAt f8 0).1) (.lp :: (loopAt f8 0).2) 0 (frK [1, 6, 7] [(ctT c).ref 0, T.agg [T.fn (Fn.func 14) [] [], T.fn (Fn.func 15) [] [], T.fn (Fn.func 16) [] [], T.fn (Fn.func 17) [] [], T.fn (Fn.func 18) [] [], T.fn (Fn.func 19) [] []], T.int .i64 6] fr 17) ⟨0, []⟩ [false] [])
    = some (OutT.done (some (T.int .i64 0)), g8_0u6_1 c, { next := 0, objs := [] }, [], 0) := by kernel_rfl
noncomputable def step8_0u0 (c : Ct) : Option (S8 ⊕ T) :=
  (if sizE c != 0 then (if allT (g8_0u0_1 c) then some (.inr ((T.int .i64 (sizE c)))) else none) else (if allT (g8_0u0_2 c) then some (.inl (.l0u1)) else none))
noncomputable def V8_0u0 (c : Ct) : S8 ⊕ T :=
  (if sizE c != 0 then (.inr ((T.int .i64 (sizE c)))) else (.inl (.l0u1)))
noncomputable def K8_0u0 (c : Ct) : Bool :=
  (if sizE c != 0 then (allT (g8_0u0_1 c)) else (allT (g8_0u0_2 c)))
theorem T8_0u0 (c : Ct) (hk : K8_0u0 c = true) : step8_0u0 c = some (V8_0u0 c) :=
  (tree_if tree_leaf tree_leaf) hk
noncomputable def step8_0u1 (c : Ct) : Option (S8 ⊕ T) :=
  (if formE c != 0 then (if allT (g8_0u1_1 c) then some (.inr ((T.int .i64 (formE c)))) else none) else (if allT (g8_0u1_2 c) then some (.inl (.l0u2)) else none))
noncomputable def V8_0u1 (c : Ct) : S8 ⊕ T :=
  (if formE c != 0 then (.inr ((T.int .i64 (formE c)))) else (.inl (.l0u2)))
noncomputable def K8_0u1 (c : Ct) : Bool :=
  (if formE c != 0 then (allT (g8_0u1_1 c)) else (allT (g8_0u1_2 c)))
theorem T8_0u1 (c : Ct) (hk : K8_0u1 c = true) : step8_0u1 c = some (V8_0u1 c) :=
  (tree_if tree_leaf tree_leaf) hk
noncomputable def step8_0u2 (c : Ct) : Option (S8 ⊕ T) :=
  (if parE c != 0 then (if allT (g8_0u2_1 c) then some (.inr ((T.int .i64 (parE c)))) else none) else (if allT (g8_0u2_2 c) then some (.inl (.l0u3)) else none))
noncomputable def V8_0u2 (c : Ct) : S8 ⊕ T :=
  (if parE c != 0 then (.inr ((T.int .i64 (parE c)))) else (.inl (.l0u3)))
noncomputable def K8_0u2 (c : Ct) : Bool :=
  (if parE c != 0 then (allT (g8_0u2_1 c)) else (allT (g8_0u2_2 c)))
theorem T8_0u2 (c : Ct) (hk : K8_0u2 c = true) : step8_0u2 c = some (V8_0u2 c) :=
  (tree_if tree_leaf tree_leaf) hk
noncomputable def step8_0u3 (c : Ct) : Option (S8 ⊕ T) :=
  (if chE (rowsP c) c != 0 then (if allT (g8_0u3_1 c) then some (.inr ((T.int .i64 (chE (rowsP c) c)))) else none) else (if allT (g8_0u3_2 c) then some (.inl (.l0u4)) else none))
noncomputable def V8_0u3 (c : Ct) : S8 ⊕ T :=
  (if chE (rowsP c) c != 0 then (.inr ((T.int .i64 (chE (rowsP c) c)))) else (.inl (.l0u4)))
noncomputable def K8_0u3 (c : Ct) : Bool :=
  (if chE (rowsP c) c != 0 then (allT (g8_0u3_1 c)) else (allT (g8_0u3_2 c)))
theorem T8_0u3 (c : Ct) (hk : K8_0u3 c = true) : step8_0u3 c = some (V8_0u3 c) :=
  (tree_if tree_leaf tree_leaf) hk
noncomputable def step8_0u4 (c : Ct) : Option (S8 ⊕ T) :=
  (if merE c != 0 then (if allT (g8_0u4_1 c) then some (.inr ((T.int .i64 (merE c)))) else none) else (if allT (g8_0u4_2 c) then some (.inl (.l0u5)) else none))
noncomputable def V8_0u4 (c : Ct) : S8 ⊕ T :=
  (if merE c != 0 then (.inr ((T.int .i64 (merE c)))) else (.inl (.l0u5)))
noncomputable def K8_0u4 (c : Ct) : Bool :=
  (if merE c != 0 then (allT (g8_0u4_1 c)) else (allT (g8_0u4_2 c)))
theorem T8_0u4 (c : Ct) (hk : K8_0u4 c = true) : step8_0u4 c = some (V8_0u4 c) :=
  (tree_if tree_leaf tree_leaf) hk
noncomputable def step8_0u5 (c : Ct) : Option (S8 ⊕ T) :=
  (if totE c != 0 then (if allT (g8_0u5_1 c) then some (.inr ((T.int .i64 (totE c)))) else none) else (if allT (g8_0u5_2 c) then some (.inl (.l0u6)) else none))
noncomputable def V8_0u5 (c : Ct) : S8 ⊕ T :=
  (if totE c != 0 then (.inr ((T.int .i64 (totE c)))) else (.inl (.l0u6)))
noncomputable def K8_0u5 (c : Ct) : Bool :=
  (if totE c != 0 then (allT (g8_0u5_1 c)) else (allT (g8_0u5_2 c)))
theorem T8_0u5 (c : Ct) (hk : K8_0u5 c = true) : step8_0u5 c = some (V8_0u5 c) :=
  (tree_if tree_leaf tree_leaf) hk
noncomputable def step8_0u6 (c : Ct) : Option (S8 ⊕ T) :=
  (if allT (g8_0u6_1 c) then some (.inr ((T.int .i64 0))) else none)
noncomputable def V8_0u6 (c : Ct) : S8 ⊕ T :=
  (.inr ((T.int .i64 0)))
noncomputable def K8_0u6 (c : Ct) : Bool :=
  (allT (g8_0u6_1 c))
theorem T8_0u6 (c : Ct) (hk : K8_0u6 c = true) : step8_0u6 c = some (V8_0u6 c) :=
  tree_leaf hk
noncomputable def o8 (c : Ct) : Option (S8 ⊕ T) :=
  (if allT (g8_s_1 c) then some (.inl (.l0u0)) else none)
noncomputable def V8_s (c : Ct) : S8 ⊕ T :=
  (.inl (.l0u0))
noncomputable def K8_s (c : Ct) : Bool :=
  (allT (g8_s_1 c))
theorem T8_s (c : Ct) (hk : K8_s c = true) : o8 c = some (V8_s c) :=
  tree_leaf hk
noncomputable def step8 (c : Ct) : S8 → Option (S8 ⊕ T)
  | .l0u0 => step8_0u0 c
  | .l0u1 => step8_0u1 c
  | .l0u2 => step8_0u2 c
  | .l0u3 => step8_0u3 c
  | .l0u4 => step8_0u4 c
  | .l0u5 => step8_0u5 c
  | .l0u6 => step8_0u6 c
noncomputable def M8 (c : Ct) : Mch S8 where
  lp := fun σ => match σ with
    | .l0u0 => 0
    | .l0u1 => 0
    | .l0u2 => 0
    | .l0u3 => 0
    | .l0u4 => 0
    | .l0u5 => 0
    | .l0u6 => 0
  keep := fun ι => match ι with
    | 0 => [1, 6, 7]
    | _ => []
  par := fun ι => match ι with
    | 0 => []
    | _ => []
  vs := fun σ => match σ with
    | .l0u0 => [(ctT c).ref 0, T.agg [T.fn (Fn.func 14) [] [], T.fn (Fn.func 15) [] [], T.fn (Fn.func 16) [] [], T.fn (Fn.func 17) [] [], T.fn (Fn.func 18) [] [], T.fn (Fn.func 19) [] []], T.int .i64 0]
    | .l0u1 => [(ctT c).ref 0, T.agg [T.fn (Fn.func 14) [] [], T.fn (Fn.func 15) [] [], T.fn (Fn.func 16) [] [], T.fn (Fn.func 17) [] [], T.fn (Fn.func 18) [] [], T.fn (Fn.func 19) [] []], T.int .i64 1]
    | .l0u2 => [(ctT c).ref 0, T.agg [T.fn (Fn.func 14) [] [], T.fn (Fn.func 15) [] [], T.fn (Fn.func 16) [] [], T.fn (Fn.func 17) [] [], T.fn (Fn.func 18) [] [], T.fn (Fn.func 19) [] []], T.int .i64 2]
    | .l0u3 => [(ctT c).ref 0, T.agg [T.fn (Fn.func 14) [] [], T.fn (Fn.func 15) [] [], T.fn (Fn.func 16) [] [], T.fn (Fn.func 17) [] [], T.fn (Fn.func 18) [] [], T.fn (Fn.func 19) [] []], T.int .i64 3]
    | .l0u4 => [(ctT c).ref 0, T.agg [T.fn (Fn.func 14) [] [], T.fn (Fn.func 15) [] [], T.fn (Fn.func 16) [] [], T.fn (Fn.func 17) [] [], T.fn (Fn.func 18) [] [], T.fn (Fn.func 19) [] []], T.int .i64 4]
    | .l0u5 => [(ctT c).ref 0, T.agg [T.fn (Fn.func 14) [] [], T.fn (Fn.func 15) [] [], T.fn (Fn.func 16) [] [], T.fn (Fn.func 17) [] [], T.fn (Fn.func 18) [] [], T.fn (Fn.func 19) [] []], T.int .i64 5]
    | .l0u6 => [(ctT c).ref 0, T.agg [T.fn (Fn.func 14) [] [], T.fn (Fn.func 15) [] [], T.fn (Fn.func 16) [] [], T.fn (Fn.func 17) [] [], T.fn (Fn.func 18) [] [], T.fn (Fn.func 19) [] []], T.int .i64 6]
  hp := fun σ => match σ with
    | .l0u0 => ⟨0, []⟩
    | .l0u1 => ⟨0, []⟩
    | .l0u2 => ⟨0, []⟩
    | .l0u3 => ⟨0, []⟩
    | .l0u4 => ⟨0, []⟩
    | .l0u5 => ⟨0, []⟩
    | .l0u6 => ⟨0, []⟩
  len := 17
  step := step8 c
theorem ways8 (c : Ct) : (M8 c).Ways prog D18 F0 f8 20 := by
  intro σ o fr h
  cases σ with
  | l0u0 =>
    change step8_0u0 c = some o at h
    exact (ways_if (ways_leaf fun hk => ⟨2000, _, _, _, _, _, _, w8_0u0_1 c fr, hk⟩) (ways_leaf fun hk => .inl ⟨2000, _, _, _, w8_0u0_2 c fr, hk, rfl⟩)) o h
  | l0u1 =>
    change step8_0u1 c = some o at h
    exact (ways_if (ways_leaf fun hk => ⟨2000, _, _, _, _, _, _, w8_0u1_1 c fr, hk⟩) (ways_leaf fun hk => .inl ⟨2000, _, _, _, w8_0u1_2 c fr, hk, rfl⟩)) o h
  | l0u2 =>
    change step8_0u2 c = some o at h
    exact (ways_if (ways_leaf fun hk => ⟨2000, _, _, _, _, _, _, w8_0u2_1 c fr, hk⟩) (ways_leaf fun hk => .inl ⟨2000, _, _, _, w8_0u2_2 c fr, hk, rfl⟩)) o h
  | l0u3 =>
    change step8_0u3 c = some o at h
    exact (ways_if (ways_leaf fun hk => ⟨2000, _, _, _, _, _, _, w8_0u3_1 c fr, hk⟩) (ways_leaf fun hk => .inl ⟨2000, _, _, _, w8_0u3_2 c fr, hk, rfl⟩)) o h
  | l0u4 =>
    change step8_0u4 c = some o at h
    exact (ways_if (ways_leaf fun hk => ⟨2000, _, _, _, _, _, _, w8_0u4_1 c fr, hk⟩) (ways_leaf fun hk => .inl ⟨2000, _, _, _, w8_0u4_2 c fr, hk, rfl⟩)) o h
  | l0u5 =>
    change step8_0u5 c = some o at h
    exact (ways_if (ways_leaf fun hk => ⟨2000, _, _, _, _, _, _, w8_0u5_1 c fr, hk⟩) (ways_leaf fun hk => .inl ⟨2000, _, _, _, w8_0u5_2 c fr, hk, rfl⟩)) o h
  | l0u6 =>
    change step8_0u6 c = some o at h
    exact (ways_leaf fun hk => ⟨2000, _, _, _, _, _, _, w8_0u6_1 c fr, hk⟩) o h
theorem oks8 (c : Ct) : ∀ σ, codeOk (loopAt f8 ((M8 c).lp σ)).1 = true ∧ ksOk (.lp :: (loopAt f8 ((M8 c).lp σ)).2) = true := by
  intro σ
  cases σ
  · exact ⟨(show codeOk (loopAt f8 0).1 = true by kernel_rfl), (show ksOk (.lp :: (loopAt f8 0).2) = true by kernel_rfl)⟩
  · exact ⟨(show codeOk (loopAt f8 0).1 = true by kernel_rfl), (show ksOk (.lp :: (loopAt f8 0).2) = true by kernel_rfl)⟩
  · exact ⟨(show codeOk (loopAt f8 0).1 = true by kernel_rfl), (show ksOk (.lp :: (loopAt f8 0).2) = true by kernel_rfl)⟩
  · exact ⟨(show codeOk (loopAt f8 0).1 = true by kernel_rfl), (show ksOk (.lp :: (loopAt f8 0).2) = true by kernel_rfl)⟩
  · exact ⟨(show codeOk (loopAt f8 0).1 = true by kernel_rfl), (show ksOk (.lp :: (loopAt f8 0).2) = true by kernel_rfl)⟩
  · exact ⟨(show codeOk (loopAt f8 0).1 = true by kernel_rfl), (show ksOk (.lp :: (loopAt f8 0).2) = true by kernel_rfl)⟩
  · exact ⟨(show codeOk (loopAt f8 0).1 = true by kernel_rfl), (show ksOk (.lp :: (loopAt f8 0).2) = true by kernel_rfl)⟩
theorem run8 (c : Ct) {n : Nat} {o : S8 ⊕ T} {r : T} (h : o8 c = some o) (hr : (M8 c).fin n o = some r) : PureFn prog gl 8 [ctT c] r := by
  refine pure_mach (M := (M8 c)) (fn := f8) (k := 20) (d := 8) (c := bodyOf f8) cx18 glFrz (by kernel_rfl) func8 (by kernel_rfl) rfl (by kernel_rfl) (by kernel_rfl) (L := 16) (by kernel_rfl) (ways8 c) (oks8 c) ?_ hr
  exact (ways_leaf fun hk => .inr ⟨2000, _, _, _, w8_s_1 c, hk, rfl⟩) o h
theorem c8 (c : Ct) (n : Nat) {r : T} (hk : K8_s c = true) (hr : (M8 c).fin n (V8_s c) = some r) : PureFn prog gl 8 [ctT c] r := run8 c (T8_s c hk) hr
end Go.Proofs.Tryd

/- Check: the contract. -/
namespace Go.Proofs
open Go.Ps
set_option maxRecDepth 100000
set_option linter.unusedSimpArgs false

theorem Tryd.fst_zero {e : Nat → Int} : ∀ (q i : Nat), Tryd.fst e q i = 0 → ∀ j, i ≤ j → j < i + q → e j = 0
  | 0, _, _, j, h1, h2 => by omega
  | q + 1, i, h, j, h1, h2 => by
    unfold Tryd.fst at h
    by_cases h0 : e i = 0
    · rw [if_neg (by simp [h0])] at h
      by_cases hj : j = i
      · rw [hj]; exact h0
      · exact Tryd.fst_zero q (i + 1) h j (by omega) (by omega)
    · rw [if_pos h0] at h; exact absurd h h0
theorem Tryd.fst_zero' {e : Nat → Int} : ∀ (q i : Nat), (∀ j, i ≤ j → j < i + q → e j = 0) → Tryd.fst e q i = 0
  | 0, _, _ => rfl
  | q + 1, i, h => by
    unfold Tryd.fst
    rw [if_neg (by simp [h i (by omega) (by omega)])]
    exact Tryd.fst_zero' q (i + 1) (fun j h1 h2 => h j (by omega) (by omega))
theorem Tryd.exR_false {p : Nat → Bool} : ∀ (m k : Nat), Tryd.exR p m k = false → ∀ j, k ≤ j → j < k + m → p j = false
  | 0, _, _, j, h1, h2 => by omega
  | m + 1, k, h, j, h1, h2 => by
    unfold Tryd.exR at h
    by_cases h0 : p k = true
    · rw [if_pos h0] at h; cases h
    · rw [if_neg h0] at h
      by_cases hj : j = k
      · rw [hj]; simpa using h0
      · exact Tryd.exR_false m (k + 1) h j (by omega) (by omega)

theorem Tryd.te_zero {fnd : Sp → Bool} {c : Ct} {i : Nat} (h : Tryd.te fnd c i = 0) : (∀ k, k < (c.line i).k → Tryd.ordBad (c.line i) k = false) ∧ (∀ k, k < (c.line i).k → fnd ((c.line i).from_ k) = true) ∧ ((c.line i).k = 0 → Tryd.arr (c.line i).st = true ∧ (c.line i).mass = 1048576) := by
  unfold Tryd.te at h
  split at h
  · cases h
  · rename_i h1
    split at h
    · cases h
    · rename_i h2
      split at h
      · cases h
      · rename_i h3
        refine ⟨fun k hk => Tryd.exR_false _ 0 (by simpa using h1) k (by omega) (by omega), fun k hk => ?_, fun hk => ?_⟩
        · have := Tryd.exR_false _ 0 (by simpa using h2) k (by omega) (by omega)
          simpa using this
        · constructor
          · by_cases q : Tryd.arr (c.line i).st = true
            · exact q
            · exact absurd ⟨hk, .inl (by simpa using q)⟩ h3
          · by_cases q : (c.line i).mass = 1048576
            · exact q
            · exact absurd ⟨hk, .inr q⟩ h3

theorem Tryd.linked_of_par {c : Ct} (h : Tryd.parE c = 0) : Tryd.linked (Tryd.ap c) c := by
  intro i hi k hk
  have h1 := Tryd.fst_zero c.n 0 h i (by omega) (by omega)
  have h2 := (Tryd.te_zero h1).2.1 k hk
  unfold Tryd.fp Tryd.found at h2
  rw [Bool.and_eq_true, decide_eq_true_eq] at h2
  exact h2.1

/-- Check. -/
noncomputable def Tryd.CheckE (c : Ct) : Int :=
  if Tryd.sizE c ≠ 0 then Tryd.sizE c else if Tryd.formE c ≠ 0 then Tryd.formE c else if Tryd.parE c ≠ 0 then Tryd.parE c
  else if Tryd.chE (Tryd.rowsP c) c ≠ 0 then Tryd.chE (Tryd.rowsP c) c else if Tryd.merE c ≠ 0 then Tryd.merE c else Tryd.totE c

theorem Tryd.Check_ok (c : Ct) (hs : Tryd.small c) : PureFn Tryd.prog Tryd.gl 8 [ctT c] (.int .i64 (Tryd.CheckE c)) := by
  have hsB : Tryd.pB (Tryd.small c) = true := Tryd.pB_iff.2 hs
  have hn : decide (c.n ≤ 281474976710656) = true := decide_eq_true (by have := hs.1; omega)
  suffices hrun : Tryd.Runs (Tryd.M8 c) .l0u0 (.int .i64 (Tryd.CheckE c)) by
    obtain ⟨n, h⟩ := hrun
    exact Tryd.c8 c n (by unfold Tryd.K8_s; simp [Tryd.g8_s_1, allT]) (by unfold Tryd.V8_s; exact h)
  unfold Tryd.CheckE
  have s0 : (Tryd.M8 c).step .l0u0 = some (Tryd.V8_0u0 c) := Tryd.T8_0u0 c (by
    unfold Tryd.K8_0u0
    refine Tryd.tree_eq (fun e => ?_) (fun e => ?_) <;> simp only [Tryd.g8_0u0_1, Tryd.g8_0u0_2, allT, isV_self, e, Bool.not_false, Bool.and_true])
  have s1 : (Tryd.M8 c).step .l0u1 = some (Tryd.V8_0u1 c) := Tryd.T8_0u1 c (by
    unfold Tryd.K8_0u1
    refine Tryd.tree_eq (fun e => ?_) (fun e => ?_) <;> simp only [Tryd.g8_0u1_1, Tryd.g8_0u1_2, allT, isV_self, e, hsB, Bool.not_false, Bool.and_true])
  have s2 : (Tryd.M8 c).step .l0u2 = some (Tryd.V8_0u2 c) := Tryd.T8_0u2 c (by
    unfold Tryd.K8_0u2
    refine Tryd.tree_eq (fun e => ?_) (fun e => ?_) <;> simp only [Tryd.g8_0u2_1, Tryd.g8_0u2_2, allT, isV_self, e, hsB, Bool.not_false, Bool.and_true])
  have s5 : (Tryd.M8 c).step .l0u5 = some (Tryd.V8_0u5 c) := Tryd.T8_0u5 c (by
    unfold Tryd.K8_0u5
    refine Tryd.tree_eq (fun e => ?_) (fun e => ?_) <;> simp only [Tryd.g8_0u5_1, Tryd.g8_0u5_2, allT, isV_self, e, hn, Bool.not_false, Bool.and_true])
  have s6 : (Tryd.M8 c).step .l0u6 = some (.inr (.int .i64 0)) := Tryd.T8_0u6 c (by unfold Tryd.K8_0u6; simp [Tryd.g8_0u6_1, allT])
  by_cases h0 : Tryd.sizE c = 0
  · have e0 : (Tryd.sizE c != 0) = false := bne_eq_false_iff_eq.2 h0
    unfold Tryd.V8_0u0 at s0; rw [e0] at s0
    rw [if_neg (by simp [h0])]
    refine .next s0 ?_
    by_cases h1 : Tryd.formE c = 0
    · have e1 : (Tryd.formE c != 0) = false := bne_eq_false_iff_eq.2 h1
      unfold Tryd.V8_0u1 at s1; rw [e1] at s1
      rw [if_neg (by simp [h1])]
      refine .next s1 ?_
      by_cases h2 : Tryd.parE c = 0
      · have e2 : (Tryd.parE c != 0) = false := bne_eq_false_iff_eq.2 h2
        unfold Tryd.V8_0u2 at s2; rw [e2] at s2
        rw [if_neg (by simp [h2])]
        refine .next s2 ?_
        have hlB : Tryd.pB (Tryd.linked (Tryd.ap c) c) = true := Tryd.pB_iff.2 (Tryd.linked_of_par h2)
        have s3 : (Tryd.M8 c).step .l0u3 = some (Tryd.V8_0u3 c) := Tryd.T8_0u3 c (by
          unfold Tryd.K8_0u3
          refine Tryd.tree_eq (fun e => ?_) (fun e => ?_) <;> simp only [Tryd.g8_0u3_1, Tryd.g8_0u3_2, allT, isV_self, e, hsB, hlB, Bool.not_false, Bool.and_true])
        have s4 : (Tryd.M8 c).step .l0u4 = some (Tryd.V8_0u4 c) := Tryd.T8_0u4 c (by
          unfold Tryd.K8_0u4
          refine Tryd.tree_eq (fun e => ?_) (fun e => ?_) <;> simp only [Tryd.g8_0u4_1, Tryd.g8_0u4_2, allT, isV_self, e, hsB, hlB, Bool.not_false, Bool.and_true])
        by_cases h3 : Tryd.chE (Tryd.rowsP c) c = 0
        · have e3 : (Tryd.chE (Tryd.rowsP c) c != 0) = false := bne_eq_false_iff_eq.2 h3
          unfold Tryd.V8_0u3 at s3; rw [e3] at s3
          rw [if_neg (by simp [h3])]
          refine .next s3 ?_
          by_cases h4 : Tryd.merE c = 0
          · have e4 : (Tryd.merE c != 0) = false := bne_eq_false_iff_eq.2 h4
            unfold Tryd.V8_0u4 at s4; rw [e4] at s4
            rw [if_neg (by simp [h4])]
            refine .next s4 ?_
            by_cases h5 : Tryd.totE c = 0
            · have e5 : (Tryd.totE c != 0) = false := bne_eq_false_iff_eq.2 h5
              unfold Tryd.V8_0u5 at s5; rw [e5] at s5
              rw [h5]
              exact .next s5 (.done s6)
            · have e5 : (Tryd.totE c != 0) = true := bne_iff_ne.2 h5
              unfold Tryd.V8_0u5 at s5; rw [e5] at s5
              exact .done s5
          · have e4 : (Tryd.merE c != 0) = true := bne_iff_ne.2 h4
            unfold Tryd.V8_0u4 at s4; rw [e4] at s4
            rw [if_pos h4]; exact .done s4
        · have e3 : (Tryd.chE (Tryd.rowsP c) c != 0) = true := bne_iff_ne.2 h3
          unfold Tryd.V8_0u3 at s3; rw [e3] at s3
          rw [if_pos h3]; exact .done s3
      · have e2 : (Tryd.parE c != 0) = true := bne_iff_ne.2 h2
        unfold Tryd.V8_0u2 at s2; rw [e2] at s2
        rw [if_pos h2]; exact .done s2
    · have e1 : (Tryd.formE c != 0) = true := bne_iff_ne.2 h1
      unfold Tryd.V8_0u1 at s1; rw [e1] at s1
      rw [if_pos h1]; exact .done s1
  · have e0 : (Tryd.sizE c != 0) = true := bne_iff_ne.2 h0
    unfold Tryd.V8_0u0 at s0; rw [e0] at s0
    rw [if_pos h0]; exact .done s0
end Go.Proofs

/- check of the law: the contract. -/
namespace Go.Proofs
open Go.Ps
set_option maxRecDepth 100000
set_option linter.unusedSimpArgs false
set_option linter.unusedSectionVars false

noncomputable def Tryd.E11 (c : Ct) (ru : Int) (i : Nat) : Int := if ru = 2 then Tryd.fe c i else if ru = 3 then Tryd.te (Tryd.fl c) c i else if ru = 4 then Tryd.fo (Tryd.kl c i) c (c.line i) else Tryd.me (Tryd.al c) c i
def Tryd.totL (c : Ct) (n : Int) : Int := if c.accepted ≠ n ∨ c.delivered ≠ (Tryd.ltR c.line c.n 0 0 0 0 0).1 ∨ c.waiting ≠ (Tryd.ltR c.line c.n 0 0 0 0 0).2.1 ∨ c.letters ≠ (Tryd.ltR c.line c.n 0 0 0 0 0).2.2.1 ∨ c.discarded ≠ (Tryd.ltR c.line c.n 0 0 0 0 0).2.2.2 then 38 else 0

theorem Tryd.pB_true : Tryd.pB True = true := Tryd.pB_iff.2 trivial

section
variable (c : Ct) (hs : Tryd.small c)
include hs

theorem Tryd.st11_1 (ru : Int) (i : Nat) (hi : i < c.n) (h4 : ru = 4 → 0 ≤ (c.line i).mass) (h5 : ru ≠ 2 → ru ≠ 3 → ru ≠ 4 → Tryd.allFl c) : (Tryd.M11 c).step (.l1 ru i) = some (if Tryd.E11 c ru i ≠ 0 then .inr (.int .i64 (Tryd.E11 c ru i)) else .inl (.l1 ru (i + 1 : Nat))) := by
  have h1 := hs.1
  have hsB : Tryd.pB (Tryd.small c) = true := Tryd.pB_iff.2 hs
  have b1 : decide ((i : Int) < c.n) = true := decide_eq_true (by omega)
  have b2 : decide ((0 : Int) ≤ i) = true := decide_eq_true (by omega)
  show Tryd.step11_1 c ru i = _
  rw [Tryd.T11_1 c ru i ?_]
  · congr 1
    unfold Tryd.V11_1
    rw [Tryd.wsucc i (by omega)]
    simp only [Int.toNat_natCast]
    rw [if_pos b1]
    repeat' (refine Tryd.tree_eq (fun _ => ?_) (fun _ => ?_))
    all_goals (unfold Tryd.E11; grind)
  · unfold Tryd.K11_1
    simp only [Int.toNat_natCast]
    rw [if_pos b1]
    by_cases r2 : ru = 2
    · subst r2
      refine Tryd.tree_eq (fun _ => ?_) (fun q => by cases q)
      refine Tryd.tree_eq (fun _ => ?_) (fun _ => ?_)
      all_goals (simp only [Tryd.g11_1_1, Tryd.g11_1_2, Tryd.g11_1_3, Tryd.g11_1_4, Tryd.g11_1_5, Tryd.g11_1_6, Tryd.g11_1_7, Tryd.g11_1_8, Tryd.g11_1_9, Int.toNat_natCast] at *; simp only [*, Tryd.pB_true, allT, isV_self, decide_true, Bool.not_false, Bool.not_true, Bool.and_true])
    · have q2 : (ru == 2) = false := by simp [r2]
      rw [if_neg (by simp [r2])]
      by_cases r3 : ru = 3
      · subst r3
        refine Tryd.tree_eq (fun _ => ?_) (fun q => by cases q)
        refine Tryd.tree_eq (fun _ => ?_) (fun _ => ?_)
        all_goals (simp only [Tryd.g11_1_1, Tryd.g11_1_2, Tryd.g11_1_3, Tryd.g11_1_4, Tryd.g11_1_5, Tryd.g11_1_6, Tryd.g11_1_7, Tryd.g11_1_8, Tryd.g11_1_9, Int.toNat_natCast] at *; simp only [*, Tryd.pB_true, allT, isV_self, decide_true, Bool.not_false, Bool.not_true, Bool.and_true])
      · have q3 : (ru == 3) = false := by simp [r3]
        rw [if_neg (by simp [r3])]
        by_cases r4 : ru = 4
        · have b5 : decide (0 ≤ (c.line i).mass) = true := decide_eq_true (h4 r4)
          subst r4
          refine Tryd.tree_eq (fun _ => ?_) (fun q => by cases q)
          refine Tryd.tree_eq (fun _ => ?_) (fun _ => ?_)
          all_goals (simp only [Tryd.g11_1_1, Tryd.g11_1_2, Tryd.g11_1_3, Tryd.g11_1_4, Tryd.g11_1_5, Tryd.g11_1_6, Tryd.g11_1_7, Tryd.g11_1_8, Tryd.g11_1_9, Int.toNat_natCast] at *; simp only [*, Tryd.pB_true, allT, isV_self, decide_true, Bool.not_false, Bool.not_true, Bool.and_true])
        · have q4 : (ru == 4) = false := by simp [r4]
          have b5 : Tryd.pB (Tryd.allFl c) = true := Tryd.pB_iff.2 (h5 r2 r3 r4)
          rw [if_neg (by simp [r4])]
          refine Tryd.tree_eq (fun _ => ?_) (fun _ => ?_)
          all_goals (simp only [Tryd.g11_1_1, Tryd.g11_1_2, Tryd.g11_1_3, Tryd.g11_1_4, Tryd.g11_1_5, Tryd.g11_1_6, Tryd.g11_1_7, Tryd.g11_1_8, Tryd.g11_1_9, Int.toNat_natCast] at *; simp only [*, Tryd.pB_true, allT, isV_self, decide_true, Bool.not_false, Bool.not_true, Bool.and_true])

theorem Tryd.run11_1 (ru : Nat) (hru : ru < 100) (h4 : (ru : Int) = 4 → ∀ i, i < c.n → 0 ≤ (c.line i).mass) (h5 : (ru : Int) ≠ 2 → (ru : Int) ≠ 3 → (ru : Int) ≠ 4 → Tryd.allFl c) (r : T) (hn : Tryd.fst (Tryd.E11 c ru) c.n 0 = 0 → Tryd.Runs (Tryd.M11 c) (.l0 (ru + 1 : Nat)) r) (hr : Tryd.fst (Tryd.E11 c ru) c.n 0 ≠ 0 → r = .int .i64 (Tryd.fst (Tryd.E11 c ru) c.n 0)) (h05 : ru ≤ 5) :
    Tryd.Runs (Tryd.M11 c) (.l0 ru) r := by
  have h1 := hs.1
  have inner : ∀ (q i : Nat), q + i = c.n → (Tryd.fst (Tryd.E11 c ru) q i = 0 → Tryd.Runs (Tryd.M11 c) (.l0 (ru + 1 : Nat)) r) → (Tryd.fst (Tryd.E11 c ru) q i ≠ 0 → r = .int .i64 (Tryd.fst (Tryd.E11 c ru) q i)) → Tryd.Runs (Tryd.M11 c) (.l1 ru i) r := by
    intro q
    induction q with
    | zero =>
      intro i hi hn _
      have : i = c.n := by omega
      subst this
      refine .next ?_ (hn rfl)
      show Tryd.step11_1 c ru c.n = _
      rw [Tryd.T11_1 c ru c.n (by unfold Tryd.K11_1; rw [if_neg (by simp)]; simp [Tryd.g11_1_1, Tryd.g11_1_2, Tryd.g11_1_3, Tryd.g11_1_4, Tryd.g11_1_5, Tryd.g11_1_6, Tryd.g11_1_7, Tryd.g11_1_8, Tryd.g11_1_9, allT])]
      unfold Tryd.V11_1
      rw [if_neg (by simp), Tryd.wsucc ru (by omega)]
    | succ q ih =>
      intro i hi hn hr
      have hst := Tryd.st11_1 c hs ru i (by omega) (fun e => h4 e i (by omega)) h5
      unfold Tryd.fst at hn hr
      by_cases e : Tryd.E11 c ru i = 0
      · rw [if_neg (by simp [e])] at hst hn hr
        exact .next hst (ih (i + 1) (by omega) hn hr)
      · rw [if_pos e] at hst hn hr
        rw [hr e]
        exact .done hst
  refine .next ?_ (inner c.n 0 (by omega) hn hr)
  show Tryd.step11_0 c ru = _
  have b1 : decide ((ru : Int) ≤ 5) = true := decide_eq_true (by omega)
  rw [Tryd.T11_0 c ru (by unfold Tryd.K11_0; rw [if_pos b1]; simp only [Tryd.g11_0_1, allT, b1, Bool.and_true])]
  unfold Tryd.V11_0
  rw [if_pos b1]
  rfl
end
end Go.Proofs

/- check of the law: proved. -/
namespace Go.Proofs
open Go.Ps
set_option maxRecDepth 100000
set_option linter.unusedSimpArgs false
set_option linter.unusedSectionVars false

/-- check of the law. -/
noncomputable def Tryd.checkL (c : Ct) : Int :=
  if Tryd.sizE c ≠ 0 then Tryd.sizE c else if Tryd.formE c ≠ 0 then Tryd.formE c else if Tryd.fst (Tryd.te (Tryd.fl c) c) c.n 0 ≠ 0 then Tryd.fst (Tryd.te (Tryd.fl c) c) c.n 0
  else if Tryd.fst (fun i => Tryd.fo (Tryd.kl c i) c (c.line i)) c.n 0 ≠ 0 then Tryd.fst (fun i => Tryd.fo (Tryd.kl c i) c (c.line i)) c.n 0
  else if Tryd.fst (Tryd.me (Tryd.al c) c) c.n 0 ≠ 0 then Tryd.fst (Tryd.me (Tryd.al c) c) c.n 0 else Tryd.totL c (Tryd.sumR Tryd.F58 c.line c.n 0 0)

theorem Tryd.run11_2 (c : Ct) (hs : Tryd.small c) : ∀ (q i : Nat) (s : Int), q + i = c.n → Tryd.Runs (Tryd.M11 c) (.l2 s i) (.int .i64 (Tryd.totL c (Tryd.sumR Tryd.F58 c.line q i s))) := by
  have h1 := hs.1
  intro q
  induction q with
  | zero =>
    intro i s hi
    have : i = c.n := by omega
    subst this
    have a1 : decide (c.n ≤ 281474976710656) = true := decide_eq_true (by omega)
    refine .done ?_
    show Tryd.step11_2 c s c.n = _
    rw [Tryd.T11_2 c s c.n ?_]
    · congr 1
      unfold Tryd.V11_2
      rw [if_neg (by simp)]
      repeat' (refine Tryd.tree_eq (fun _ => ?_) (fun _ => ?_))
      all_goals (unfold Tryd.totL Tryd.sumR; grind)
    · have b1 : decide ((c.n : Int) < c.n) = false := decide_eq_false (by omega)
      unfold Tryd.K11_2
      rw [if_neg (by simp)]
      repeat' (refine Tryd.tree_eq (fun _ => ?_) (fun _ => ?_))
      all_goals (simp only [Tryd.g11_2_1, Tryd.g11_2_2, Tryd.g11_2_3, Tryd.g11_2_4, Tryd.g11_2_5, Tryd.g11_2_6, Tryd.g11_2_7, Tryd.g11_2_8] at *; simp only [*, allT, isV_self, decide_true, Bool.not_false, Bool.not_true, Bool.and_true])
  | succ q ih =>
    intro i s hi
    have b1 : decide ((i : Int) < c.n) = true := decide_eq_true (by omega)
    have b2 : decide ((0 : Int) ≤ i) = true := decide_eq_true (by omega)
    have e : (Tryd.M11 c).step (.l2 s i) = some (.inl (.l2 (Tryd.F58 s (c.line i)) (i + 1 : Nat))) := by
      show Tryd.step11_2 c s i = _
      rw [Tryd.T11_2 c s i ?_]
      · congr 1
        unfold Tryd.V11_2
        rw [if_pos b1, Tryd.wsucc i (by omega)]
        simp only [Int.toNat_natCast]
        repeat' (refine Tryd.tree_eq (fun _ => ?_) (fun _ => ?_))
        all_goals (unfold Tryd.F58; simp [*])
      · unfold Tryd.K11_2
        rw [if_pos b1]
        simp only [Int.toNat_natCast]
        repeat' (refine Tryd.tree_eq (fun _ => ?_) (fun _ => ?_))
        all_goals (simp only [Tryd.g11_2_1, Tryd.g11_2_2, Tryd.g11_2_3, Tryd.g11_2_4, Tryd.g11_2_5, Tryd.g11_2_6, Tryd.g11_2_7, Tryd.g11_2_8, Int.toNat_natCast] at *; simp only [*, allT, isV_self, decide_true, Bool.not_false, Bool.not_true, Bool.and_true])
    unfold Tryd.sumR
    exact .next e (ih (i + 1) _ (by omega))

theorem Tryd.fe_zero {c : Ct} {i : Nat} (h : Tryd.fe c i = 0) : Tryd.chk (c.line i).st = 0 ∧ (c.line i).st.entry ≤ c.entries ∧ (0 < i → Tryd.cmpS (c.line (i - 1)).st (c.line i).st < 0) ∧ 0 ≤ (c.line i).mass ∧ (c.line i).mass ≤ 1099511627776 ∧ 0 ≤ (c.line i).fate ∧ (c.line i).fate ≤ 4 ∧ ((c.line i).closed = 0 ∨ ((c.line i).fate = 4 ∧ ((c.line i).closed = 5 ∨ (c.line i).closed = 6))) := by
  unfold Tryd.fe at h
  split at h
  · rename_i h1; exact absurd h h1
  · split at h
    · cases h
    · split at h
      · cases h
      · split at h
        · cases h
        · split at h
          · cases h
          · split at h
            · cases h
            · rename_i h1 h2 h3 h4 h5 h6
              refine ⟨by simpa using h1, by omega, fun q => ?_, by omega, by omega, by omega, by omega, ?_⟩
              · by_cases w : Tryd.cmpS (c.line (i - 1)).st (c.line i).st ≥ 0
                · exact absurd ⟨q, w⟩ h3
                · omega
              · by_cases w : (c.line i).closed = 0
                · exact .inl w
                · right
                  by_cases v : (c.line i).fate = 4 ∧ ((c.line i).closed = 5 ∨ (c.line i).closed = 6)
                  · exact v
                  · exact absurd ⟨w, v⟩ h6

theorem Tryd.check_ok (c : Ct) (hs : Tryd.small c) : PureFn Tryd.prog Tryd.gl 11 [ctT c] (.int .i64 (Tryd.checkL c)) := by
  have hK : Tryd.K11_s c = true := by
    unfold Tryd.K11_s
    repeat' (refine Tryd.tree_eq (fun _ => ?_) (fun _ => ?_))
    all_goals (simp only [Tryd.g11_s_1, Tryd.g11_s_2, Tryd.g11_s_3, Tryd.g11_s_4] at *; simp only [*, allT, decide_true, Bool.not_false, Bool.not_true, Bool.and_true])
  by_cases h0 : Tryd.sizE c = 0
  · suffices hrun : Tryd.Runs (Tryd.M11 c) (.l0 (2 : Nat)) (.int .i64 (Tryd.checkL c)) by
      obtain ⟨n, h⟩ := hrun
      refine Tryd.c11 c n hK ?_
      have hv : Tryd.V11_s c = .inl (.l0 2) := by
        unfold Tryd.V11_s
        unfold Tryd.sizE at h0
        repeat' (refine Tryd.tree_eq (fun _ => ?_) (fun _ => ?_))
        all_goals grind
      rw [hv]; exact h
    unfold Tryd.checkL
    rw [if_neg (by simp [h0])]
    have e2 : Tryd.fst (Tryd.E11 c ((2 : Nat) : Int)) c.n 0 = Tryd.formE c := Tryd.fst_congr _ _ (fun j _ _ => by unfold Tryd.E11; rw [if_pos (by rfl)])
    have e3 : Tryd.fst (Tryd.E11 c ((3 : Nat) : Int)) c.n 0 = Tryd.fst (Tryd.te (Tryd.fl c) c) c.n 0 := Tryd.fst_congr _ _ (fun j _ _ => by unfold Tryd.E11; rw [if_neg (by decide), if_pos (by rfl)])
    have e4 : Tryd.fst (Tryd.E11 c ((4 : Nat) : Int)) c.n 0 = Tryd.fst (fun i => Tryd.fo (Tryd.kl c i) c (c.line i)) c.n 0 := Tryd.fst_congr _ _ (fun j _ _ => by unfold Tryd.E11; rw [if_neg (by decide), if_neg (by decide), if_pos (by rfl)])
    have e5 : Tryd.fst (Tryd.E11 c ((5 : Nat) : Int)) c.n 0 = Tryd.fst (Tryd.me (Tryd.al c) c) c.n 0 := Tryd.fst_congr _ _ (fun j _ _ => by unfold Tryd.E11; rw [if_neg (by decide), if_neg (by decide), if_neg (by decide)])
    refine Tryd.run11_1 c hs 2 (by omega) (fun q => absurd q (by decide)) (fun q => absurd rfl q) _ ?_ ?_ (by omega)
    · rw [e2]
      intro h2
      rw [if_neg (by simp [h2])]
      refine Tryd.run11_1 c hs 3 (by omega) (fun q => absurd q (by decide)) (fun _ q => absurd rfl q) _ ?_ ?_ (by omega)
      · rw [e3]
        intro h3
        rw [if_neg (by simp [h3])]
        refine Tryd.run11_1 c hs 4 (by omega) (fun _ i hi => (Tryd.fe_zero (Tryd.fst_zero c.n 0 h2 i (by omega) (by omega))).2.2.2.1) (fun _ _ q => absurd rfl q) _ ?_ ?_ (by omega)
        · rw [e4]
          intro h4
          rw [if_neg (by simp [h4])]
          refine Tryd.run11_1 c hs 5 (by omega) (fun q => absurd q (by decide)) (fun _ _ _ i hi => (Tryd.te_zero (Tryd.fst_zero c.n 0 h3 i (by omega) (by omega))).2.1) _ ?_ ?_ (by omega)
          · rw [e5]
            intro h5
            rw [if_neg (by simp [h5])]
            refine .next ?_ (Tryd.run11_2 c hs c.n 0 0 (by omega))
            show Tryd.step11_0 c 6 = _
            rw [Tryd.T11_0 c 6 (by unfold Tryd.K11_0; rw [if_neg (by decide)]; rfl)]
            unfold Tryd.V11_0
            rw [if_neg (by decide)]
            rfl
          · rw [e5]
            intro h5
            rw [if_pos h5]
        · rw [e4]
          intro h4
          rw [if_pos h4]
      · rw [e3]
        intro h3
        rw [if_pos h3]
    · rw [e2]
      intro h2
      rw [if_pos h2]
  · refine Tryd.c11 c 0 hK ?_
    have hv : Tryd.V11_s c = .inr (.int .i64 (Tryd.checkL c)) := by
      unfold Tryd.checkL
      rw [if_pos h0]
      unfold Tryd.V11_s
      unfold Tryd.sizE at h0 ⊢
      repeat' (refine Tryd.tree_eq (fun _ => ?_) (fun _ => ?_))
      all_goals grind
    rw [hv]; rfl
end Go.Proofs

/- The program's check and the law's check answer alike. -/
namespace Go.Proofs
open Go.Ps
set_option linter.unusedSimpArgs false
set_option linter.unusedSectionVars false

/-- The lines lie in the stamps' order. -/
def Tryd.inc (c : Ct) : Prop := ∀ i j, i < j → j < c.n → Tryd.cmpS (c.line i).st (c.line j).st < 0
theorem Tryd.inc_of {c : Ct} (h : Tryd.formE c = 0) : Tryd.inc c := by
  intro i j
  induction j with
  | zero => intro h1; omega
  | succ j ih =>
    intro h1 h2
    have h3 := (Tryd.fe_zero (Tryd.fst_zero c.n 0 h (j + 1) (by omega) (by omega))).2.2.1 (by omega)
    simp only [Nat.add_sub_cancel] at h3
    by_cases e : i = j
    · rw [e]; exact h3
    · exact Tryd.cmpS_trans _ _ _ (ih (by omega) (by omega)) h3

section
variable {c : Ct} (hi : Tryd.inc c)
include hi

theorem Tryd.ap_at {s : Sp} {j : Nat} (hj : j < c.n) (h : Tryd.cmpS (c.line j).st s = 0) : Tryd.ap c s = j := by
  obtain ⟨h1, h2, h3⟩ := Tryd.bs_spec c.n (fun i => Tryd.cmpS (c.line i).st s) (fun a b hab hb hp => Tryd.cmpS_trans _ _ _ (hi a b hab hb) hp)
  unfold Tryd.ap
  rcases Nat.lt_trichotomy (Tryd.bs c.n (fun i => Tryd.cmpS (c.line i).st s)) j with q | q | q
  · have h4 := h3 (by omega)
    have h5 := hi _ j q hj
    rw [Tryd.cmpS_congr' _ _ _ h] at h5
    exact absurd h5 h4
  · exact q
  · have : Tryd.cmpS (c.line j).st s < 0 := h1 j q
    omega

theorem Tryd.fp_fl (s : Sp) : Tryd.fp c s = Tryd.fl c s := by
  rcases Tryd.idx_found c.n (fun i => Tryd.eqS (c.line i).st s) with ⟨e, f⟩ | ⟨j, hj, hp, _, e⟩
  · have : Tryd.fl c s = false := by unfold Tryd.fl; rw [e]; rfl
    rw [this]
    unfold Tryd.fp Tryd.found
    by_cases hb : Tryd.bs c.n (fun i => Tryd.cmpS (c.line i).st s) < c.n
    · have := f _ hb
      unfold Tryd.eqS at this
      rw [this]; simp
    · rw [decide_eq_false hb]; rfl
  · have : Tryd.fl c s = true := by unfold Tryd.fl; rw [e, decide_eq_false (by omega)]; rfl
    rw [this]
    have h0 : Tryd.cmpS (c.line j).st s = 0 := by simpa [Tryd.eqS] using hp
    have ha := Tryd.ap_at hi hj h0
    unfold Tryd.ap at ha
    unfold Tryd.fp Tryd.found
    rw [ha, decide_eq_true hj]; simp [h0]

theorem Tryd.fl_at {s : Sp} (h : Tryd.fl c s = true) : ∃ j, j < c.n ∧ Tryd.cmpS (c.line j).st s = 0 ∧ Tryd.ap c s = j ∧ Tryd.al c s = j := by
  rcases Tryd.idx_found c.n (fun i => Tryd.eqS (c.line i).st s) with ⟨e, f⟩ | ⟨j, hj, hp, _, e⟩
  · unfold Tryd.fl at h; rw [e] at h; exact absurd h (by decide)
  · have h0 : Tryd.cmpS (c.line j).st s = 0 := by simpa [Tryd.eqS] using hp
    exact ⟨j, hj, h0, Tryd.ap_at hi hj h0, by unfold Tryd.al; rw [e]; rfl⟩

/-- Whose child. -/
theorem Tryd.ap_iff {s : Sp} (h : Tryd.fl c s = true) {z : Nat} (hz : z < c.n) : (z = Tryd.ap c s) ↔ Tryd.eqS s (c.line z).st = true := by
  obtain ⟨j, hj, h0, ha, _⟩ := Tryd.fl_at hi h
  constructor
  · intro e
    rw [ha] at e
    subst e
    have := Tryd.cmpS_anti s (c.line z).st
    simp [Tryd.eqS]; omega
  · intro e
    have e1 : Tryd.cmpS s (c.line z).st = 0 := by simpa [Tryd.eqS] using e
    have := Tryd.cmpS_anti (c.line z).st s
    exact (Tryd.ap_at hi hz (by omega)).symm

theorem Tryd.rwR_kid (i : Nat) (hin : i < c.n) (hl : Tryd.allFl c) (z : Nat) (hz : z < c.n) : ∀ (q k : Nat) (R : Nat → List Int), q + k = (c.line i).k → Tryd.rwR c i q k R z = Tryd.kidR c.line (c.line z).st i q k (R z)
  | 0, _, _, _ => rfl
  | q + 1, k, R, h => by
    unfold Tryd.rwR Tryd.kidR
    rw [Tryd.rwR_kid i hin hl z hz q (k + 1) _ (by omega)]
    congr 1
    unfold Tryd.push
    have h1 := Tryd.ap_iff hi (hl i hin k (by omega)) hz
    by_cases e : z = Tryd.ap c ((c.line i).from_ k)
    · rw [if_pos e, if_pos (h1.1 e)]
    · rw [if_neg e, if_neg (fun w => e (h1.2 w))]
theorem Tryd.rwO_kid (hl : Tryd.allFl c) (z : Nat) (hz : z < c.n) : ∀ (q i : Nat) (R : Nat → List Int), q + i = c.n → Tryd.rwO c q i R z = Tryd.kidO c.line (c.line z).st q i (R z)
  | 0, _, _, _ => rfl
  | q + 1, i, R, h => by
    unfold Tryd.rwO Tryd.kidO
    rw [Tryd.rwO_kid hl z hz q (i + 1) _ (by omega), Tryd.rwR_kid hi i (by omega) hl z hz _ _ _ (by omega)]
theorem Tryd.rows_kl (hl : Tryd.allFl c) (z : Nat) (hz : z < c.n) : Tryd.rowsP c z = Tryd.kl c z := by
  unfold Tryd.rowsP Tryd.kl Tryd.kids
  exact Tryd.rwO_kid hi hl z hz c.n 0 _ (by omega)
end

theorem Tryd.exR_any {p : Nat → Bool} : ∀ (q i : Nat), Tryd.exR p q i = decide (Tryd.idxR p q i ≥ 0)
  | 0, _ => rfl
  | q + 1, i => by
    unfold Tryd.exR Tryd.idxR
    cases p i
    · simpa using Tryd.exR_any q (i + 1)
    · simp
theorem Tryd.any_exR (n : Nat) (p : Nat → Bool) : Tryd.any n p = Tryd.exR p n 0 := (Tryd.exR_any n 0).symm

theorem Tryd.fq_fo (ks : List Int) (c : Ct) (x : Ln) (h1 : 0 ≤ x.mass) (h2 : x.closed = 5 → x.fate = 4) (h3 : ks.length ≤ 65536) : Tryd.fq ks c x = Tryd.fo ks c x := by
  unfold Tryd.fq Tryd.fo
  by_cases a : x.fate = 1
  · rw [if_pos a, if_pos a, Tryd.any_exR]
    by_cases b : ks.length = 0
    · rw [if_pos b, if_pos b]
    · have : Tryd.shN x.mass ks.length = ks.length := by unfold Tryd.shN; rw [if_neg (by omega)]; rfl
      rw [if_neg b, if_neg b, this]
  · rw [if_neg a, if_neg a]
    by_cases b : x.closed = 5
    · have n2 : ¬ x.fate = 2 := by rw [h2 b]; decide
      simp only [if_pos b, if_neg n2]
      by_cases d : ks.length = 1
      · have hx : Tryd.any ks.length (fun j => ((c.line (ks.getD j 0).toNat).k : Int) != 1) = !decide ((c.line (ks.getD 0 0).toNat).k = 1) := by
          rw [Tryd.any_exR, d]
          by_cases e : (c.line (ks.getD 0 0).toNat).k = 1
          · have : (((c.line (ks.getD 0 0).toNat).k : Int) != 1) = false := by rw [e]; rfl
            unfold Tryd.exR Tryd.exR
            rw [if_neg (by rw [this]; decide), decide_eq_true e]; rfl
          · have : (((c.line (ks.getD 0 0).toNat).k : Int) != 1) = true := bne_iff_ne.2 (fun q => e (by exact_mod_cast q))
            unfold Tryd.exR
            rw [if_pos this, decide_eq_false e]; rfl
        rw [hx, d]
        generalize c.line (ks.getD 0 0).toNat = y
        by_cases e : y.k = 1
        · simp [e]
        · simp [e]
      · rw [if_pos d, if_pos (.inl d)]
    · rw [if_neg b, if_neg b]

theorem Tryd.tot_sum {c : Ct} (h : ∀ i, i < c.n → (c.line i).closed = 0 ∨ ((c.line i).fate = 4 ∧ ((c.line i).closed = 5 ∨ (c.line i).closed = 6))) : ∀ (q i : Nat) (d w l x : Int), q + i = c.n → Tryd.ltR c.line q i d w l x = (Tryd.sumR (Tryd.F57 59) c.line q i d, Tryd.sumR (Tryd.F57 34) c.line q i w, Tryd.sumR (Tryd.F57 60) c.line q i l, Tryd.sumR (Tryd.F57 61) c.line q i x)
  | 0, _, _, _, _, _, _ => rfl
  | q + 1, i, d, w, l, x, hq => by
    have ih := Tryd.tot_sum h q (i + 1)
    have h0 := h i (by omega)
    unfold Tryd.ltR
    simp only [Tryd.sumR]
    by_cases a : (c.line i).closed = 6
    · rw [if_pos (by simp [a]), ih _ _ _ _ (by omega)]
      have f4 : (c.line i).fate = 4 := by omega
      simp [Tryd.F57, Tryd.prd, a, f4]
    · rw [if_neg (by simp [a])]
      by_cases b : (c.line i).fate = 0
      · rw [if_pos (by simp [b]), ih _ _ _ _ (by omega)]
        simp [Tryd.F57, Tryd.prd, a, b]
      · rw [if_neg (by simp [b])]
        by_cases e : (c.line i).fate = 3
        · rw [if_pos (by simp [e]), ih _ _ _ _ (by omega)]
          simp [Tryd.F57, Tryd.prd, a, e]
        · rw [if_neg (by simp [e])]
          by_cases f : (c.line i).fate = 4 ∧ (c.line i).closed = 0
          · rw [if_pos (by simp [f]), ih _ _ _ _ (by omega)]
            simp [Tryd.F57, Tryd.prd, f]
          · rw [if_neg (by simpa using f), ih _ _ _ _ (by omega)]
            have : ((c.line i).fate == 4 && (c.line i).closed == 0) = false := by
              rw [Bool.eq_false_iff]; simpa using f
            simp [Tryd.F57, Tryd.prd, a, b, e, this]

theorem Tryd.check_same (c : Ct) (hs : Tryd.small c) : Tryd.CheckE c = Tryd.checkL c := by
  unfold Tryd.CheckE Tryd.checkL
  by_cases h0 : Tryd.sizE c = 0
  · have nh0 : ¬ (Tryd.sizE c ≠ 0) := by simp [h0]
    simp only [if_neg nh0]
    by_cases h1 : Tryd.formE c = 0
    · have nh1 : ¬ (Tryd.formE c ≠ 0) := by simp [h1]
      simp only [if_neg nh1]
      have hi := Tryd.inc_of h1
      have hfe := fun i (hin : i < c.n) => Tryd.fe_zero (Tryd.fst_zero c.n 0 h1 i (by omega) (by omega))
      have e3 : Tryd.parE c = Tryd.fst (Tryd.te (Tryd.fl c) c) c.n 0 := by
        have : Tryd.fp c = Tryd.fl c := funext (Tryd.fp_fl hi)
        unfold Tryd.parE; rw [this]
      rw [e3]
      by_cases h3 : Tryd.fst (Tryd.te (Tryd.fl c) c) c.n 0 = 0
      · have nh3 : ¬ (Tryd.fst (Tryd.te (Tryd.fl c) c) c.n 0 ≠ 0) := by simp [h3]
        simp only [if_neg nh3]
        have hl : Tryd.allFl c := fun i hin => (Tryd.te_zero (Tryd.fst_zero c.n 0 h3 i (by omega) (by omega))).2.1
        have e4 : Tryd.chE (Tryd.rowsP c) c = Tryd.fst (fun i => Tryd.fo (Tryd.kl c i) c (c.line i)) c.n 0 := by
          unfold Tryd.chE
          refine Tryd.fst_congr _ _ (fun j _ hj => ?_)
          have hj' : j < c.n := by omega
          rw [Tryd.rows_kl hi hl j hj']
          have := hfe j hj'
          have h8 := this.2.2.2.2.2.2.2
          refine Tryd.fq_fo _ _ _ this.2.2.2.1 (by omega) ?_
          have := Tryd.kids_len c.line (c.line j).st c.n hs
          unfold Tryd.kl; omega
        have e5 : Tryd.merE c = Tryd.fst (Tryd.me (Tryd.al c) c) c.n 0 := by
          unfold Tryd.merE
          refine Tryd.fst_congr _ _ (fun j _ hj => ?_)
          have hj' : j < c.n := by omega
          unfold Tryd.me
          have hmg : ∀ (m k : Nat) (a s : Int), m + k = (c.line j).k → Tryd.mg (fun k => c.line (Tryd.ap c ((c.line j).from_ k))) m k a s = Tryd.mg (fun k => c.line (Tryd.al c ((c.line j).from_ k))) m k a s := by
            intro m
            induction m with
            | zero => intro k a s _; rfl
            | succ m ih =>
              intro k a s hk
              obtain ⟨z, _, _, q1, q2⟩ := Tryd.fl_at hi (hl j hj' k (by omega))
              unfold Tryd.mg
              simp only [q1, q2]
              exact ih (k + 1) _ _ (by omega)
          rw [hmg _ _ _ _ (by omega)]
        have e6 : Tryd.totE c = Tryd.totL c (Tryd.sumR Tryd.F58 c.line c.n 0 0) := by
          unfold Tryd.totE Tryd.totL
          rw [Tryd.tot_sum (fun i hin => (hfe i hin).2.2.2.2.2.2.2) c.n 0 0 0 0 0 (by omega)]
        rw [e4, e5, e6]
      · rw [if_pos h3, if_pos h3]
    · rw [if_pos h1, if_pos h1]
  · rw [if_pos h0, if_pos h0]
end Go.Proofs

/- The contracts of known, small, Check, check. -/
namespace Go.Proofs
open Go.Ps
noncomputable def Tryd.smallB (c : Ct) : Bool := Classical.choose (Tryd.small_ex c)
theorem Tryd.smallB_ok (c : Ct) : (Tryd.smallB c = true → Tryd.small c) ∧ PureFn Tryd.prog Tryd.gl 7 [ctT c] (.bool (Tryd.smallB c)) := Classical.choose_spec (Tryd.small_ex c)

noncomputable def Tryd.s7 : List T → Option (T × List Bool)
  | [t] => some (.bool (Tryd.smallB (ctv t)), [isV t (ctT (ctv t))])
  | _ => none
noncomputable def Tryd.s8 : List T → Option (T × List Bool)
  | [t] => some (.int .i64 (Tryd.CheckE (ctv t)), [isV t (ctT (ctv t)), Tryd.pB (Tryd.small (ctv t))])
  | _ => none
noncomputable def Tryd.s11 : List T → Option (T × List Bool)
  | [t] => some (.int .i64 (Tryd.checkL (ctv t)), [isV t (ctT (ctv t)), Tryd.pB (Tryd.small (ctv t))])
  | _ => none
theorem Tryd.s7_ok (ts : List T) (r : T) (cs : List Bool) (h : Tryd.s7 ts = some (r, cs)) (k : allT cs = true) : PureFn Tryd.prog Tryd.gl 7 ts r := by
  unfold Tryd.s7 at h; split at h
  · rename_i t
    cases h
    simp only [allT, Bool.and_true, isV_iff] at k
    have := (Tryd.smallB_ok (ctv t)).2
    rw [← k] at this
    exact this
  · cases h
theorem Tryd.s8_ok (ts : List T) (r : T) (cs : List Bool) (h : Tryd.s8 ts = some (r, cs)) (k : allT cs = true) : PureFn Tryd.prog Tryd.gl 8 ts r := by
  unfold Tryd.s8 at h; split at h
  · rename_i t
    cases h
    simp only [allT, Bool.and_true, Bool.and_eq_true, isV_iff, Tryd.pB_iff] at k
    rw [k.1]; exact Tryd.Check_ok _ k.2
  · cases h
theorem Tryd.s11_ok (ts : List T) (r : T) (cs : List Bool) (h : Tryd.s11 ts = some (r, cs)) (k : allT cs = true) : PureFn Tryd.prog Tryd.gl 11 ts r := by
  unfold Tryd.s11 at h; split at h
  · rename_i t
    cases h
    simp only [allT, Bool.and_true, Bool.and_eq_true, isV_iff, Tryd.pB_iff] at k
    rw [k.1]; exact Tryd.check_ok _ k.2
  · cases h
noncomputable def Tryd.D20 : Ed := ⟨Tryd.gl, pdAdd 6 Tryd.s6 (pdAdd 7 Tryd.s7 (pdAdd 8 Tryd.s8 (pdAdd 11 Tryd.s11 Tryd.D18.pd)))⟩
theorem Tryd.cx20 : Cx Tryd.prog Tryd.D20 Tryd.F0 := ⟨Tryd.follows, pdAdd_ok (pdAdd_ok (pdAdd_ok (pdAdd_ok Tryd.cx18.hE Tryd.s11_ok) Tryd.s8_ok) Tryd.s7_ok) (fun ts r cs h _ => Tryd.s6_ok ts r cs h), Tryd.F0ok⟩
end Go.Proofs

/- BalanceChecks and BalanceSums as trees (printed by gen2.py). -/
namespace Go.Proofs.Tryd
open Go.Ps
set_option maxRecDepth 100000
set_option linter.unusedVariables false
set_option linter.unusedSimpArgs false

/-! ### 5 -/
noncomputable def g5_s_1 (c : Ct) : List Bool := [!smallB c, true, true, isV (ctT c) (ctT c), true, true]
theorem w5_s_1 (c : Ct) : outK prog f5 20 [] (runK prog D20 F0 2000 (.code (bodyOf f5)) [] 0 ([ctT c] ++ List.replicate 15 undefT) ⟨0, []⟩ (bt 5 16) [])
    = some (OutT.done (some (T.bool true)), g5_s_1 c, { next := 0, objs := [] }, [], 0) := by kernel_rfl
noncomputable def g5_s_2 (c : Ct) : List Bool := [isV (ctT c) (ctT c), pB (small c), isV (ctT c) (ctT c), pB (small c), !!smallB c, true, true, isV (ctT c) (ctT c), true, true]
theorem w5_s_2 (c : Ct) : outK prog f5 20 [] (runK prog D20 F0 2000 (.code (bodyOf f5)) [] 0 ([ctT c] ++ List.replicate 15 undefT) ⟨0, []⟩ (bt 5 0) [])
    = some (OutT.done (some (T.bool (CheckE c == checkL c))), g5_s_2 c, { next := 0, objs := [] }, [], 0) := by kernel_rfl
noncomputable def o5 (c : Ct) : Option (Empty ⊕ T) :=
  (if !smallB c then (if allT (g5_s_1 c) then some (.inr ((T.bool true))) else none) else (if allT (g5_s_2 c) then some (.inr ((T.bool (CheckE c == checkL c)))) else none))
noncomputable def V5_s (c : Ct) : Empty ⊕ T :=
  (if !smallB c then (.inr ((T.bool true))) else (.inr ((T.bool (CheckE c == checkL c)))))
noncomputable def K5_s (c : Ct) : Bool :=
  (if !smallB c then (allT (g5_s_1 c)) else (allT (g5_s_2 c)))
theorem T5_s (c : Ct) (hk : K5_s c = true) : o5 c = some (V5_s c) :=
  (tree_if tree_leaf tree_leaf) hk
theorem run5 (c : Ct) {n : Nat} {o : Empty ⊕ T} {r : T} (h : o5 c = some o) (hr : noM.fin n o = some r) : PureFn prog gl 5 [ctT c] r := by
  refine pure_mach (M := noM) (fn := f5) (k := 20) (d := 8) (c := bodyOf f5) cx20 glFrz (by kernel_rfl) func5 (by kernel_rfl) rfl (by kernel_rfl) (by kernel_rfl) (L := 15) (by kernel_rfl) noM_ways (fun σ => σ.elim) ?_ hr
  exact (ways_if (ways_leaf fun hk => ⟨2000, _, _, _, _, _, _, w5_s_1 c, hk⟩) (ways_leaf fun hk => ⟨2000, _, _, _, _, _, _, w5_s_2 c, hk⟩)) o h
theorem c5 (c : Ct) (n : Nat) {r : T} (hk : K5_s c = true) (hr : noM.fin n (V5_s c) = some r) : PureFn prog gl 5 [ctT c] r := run5 c (T5_s c hk) hr

/-! ### 3 -/
noncomputable def g3_s_1 (c : Ct) : List Bool := [true, !smallB c, !smallB c, !smallB c, !smallB c, true, true, isV (ctT c) (ctT c), true, true]
theorem w3_s_1 (c : Ct) : outK prog f3 20 [] (runK prog D20 F0 2000 (.code (bodyOf f3)) [] 0 ([ctT c] ++ List.replicate 29 undefT) ⟨0, []⟩ (bt 9 496) [])
    = some (OutT.done (some (T.bool true)), g3_s_1 c, { next := 0, objs := [] }, [], 0) := by kernel_rfl
noncomputable def g3_s_2 (c : Ct) : List Bool := [CheckE c != 0, !!smallB c, !!smallB c, isV (ctT c) (ctT c), pB (small c), !!smallB c, !!smallB c, true, true, isV (ctT c) (ctT c), true, true]
theorem w3_s_2 (c : Ct) : outK prog f3 20 [] (runK prog D20 F0 2000 (.code (bodyOf f3)) [] 0 ([ctT c] ++ List.replicate 29 undefT) ⟨0, []⟩ (bt 9 256) [])
    = some (OutT.done (some (T.bool true)), g3_s_2 c, { next := 0, objs := [] }, [], 0) := by kernel_rfl
noncomputable def g3_s_3 (c : Ct) : List Bool := [!CheckE c != 0, !!smallB c, !!smallB c, isV (ctT c) (ctT c), pB (small c), !!smallB c, !!smallB c, true, true, isV (ctT c) (ctT c), true, true]
theorem w3_s_3 (c : Ct) : outK prog f3 20 [] (runK prog D20 F0 2000 (.code (bodyOf f3)) [] 0 ([ctT c] ++ List.replicate 29 undefT) ⟨0, []⟩ (bt 9 0) [])
    = some (OutT.done (some (T.bool (c.accepted == IntKind.i64.wrap (IntKind.i64.wrap (IntKind.i64.wrap (c.delivered + c.waiting) + c.letters) + c.discarded)))), g3_s_3 c, { next := 0, objs := [] }, [], 0) := by kernel_rfl
noncomputable def o3 (c : Ct) : Option (Empty ⊕ T) :=
  (if !smallB c then (if allT (g3_s_1 c) then some (.inr ((T.bool true))) else none) else (if CheckE c != 0 then (if allT (g3_s_2 c) then some (.inr ((T.bool true))) else none) else (if allT (g3_s_3 c) then some (.inr ((T.bool (c.accepted == IntKind.i64.wrap (IntKind.i64.wrap (IntKind.i64.wrap (c.delivered + c.waiting) + c.letters) + c.discarded))))) else none)))
noncomputable def V3_s (c : Ct) : Empty ⊕ T :=
  (if !smallB c then (.inr ((T.bool true))) else (if CheckE c != 0 then (.inr ((T.bool true))) else (.inr ((T.bool (c.accepted == IntKind.i64.wrap (IntKind.i64.wrap (IntKind.i64.wrap (c.delivered + c.waiting) + c.letters) + c.discarded)))))))
noncomputable def K3_s (c : Ct) : Bool :=
  (if !smallB c then (allT (g3_s_1 c)) else (if CheckE c != 0 then (allT (g3_s_2 c)) else (allT (g3_s_3 c))))
theorem T3_s (c : Ct) (hk : K3_s c = true) : o3 c = some (V3_s c) :=
  (tree_if tree_leaf (tree_if tree_leaf tree_leaf)) hk
theorem run3 (c : Ct) {n : Nat} {o : Empty ⊕ T} {r : T} (h : o3 c = some o) (hr : noM.fin n o = some r) : PureFn prog gl 3 [ctT c] r := by
  refine pure_mach (M := noM) (fn := f3) (k := 20) (d := 8) (c := bodyOf f3) cx20 glFrz (by kernel_rfl) func3 (by kernel_rfl) rfl (by kernel_rfl) (by kernel_rfl) (L := 29) (by kernel_rfl) noM_ways (fun σ => σ.elim) ?_ hr
  exact (ways_if (ways_leaf fun hk => ⟨2000, _, _, _, _, _, _, w3_s_1 c, hk⟩) (ways_if (ways_leaf fun hk => ⟨2000, _, _, _, _, _, _, w3_s_2 c, hk⟩) (ways_leaf fun hk => ⟨2000, _, _, _, _, _, _, w3_s_3 c, hk⟩))) o h
theorem c3 (c : Ct) (n : Nat) {r : T} (hk : K3_s c = true) (hr : noM.fin n (V3_s c) = some r) : PureFn prog gl 3 [ctT c] r := run3 c (T3_s c hk) hr

end Go.Proofs.Tryd
