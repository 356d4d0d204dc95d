/- Texts merged: C20, L, Cc, Cd, Ce, PsLn, Es, E, Ec, Gs, G, Gc, Ks, Kc. -/
import Derived.Test.YtcndhbamkipifaaDoorSu2
import Derived.Test.YtcndhbamkipifaaDoorSu1
import Derived.Test.YtcndhbamkipifaaDoorSu3
/- Machines, by program (gen2). -/
namespace Go.Proofs.Tryd
open Go.Ps
set_option maxRecDepth 100000
set_option linter.unusedVariables false
set_option linter.unusedSimpArgs false

/-! ### 20 -/
noncomputable def g20_s_1 (c : Ct) (i : Int) : List Bool := [chk (c.line i.toNat).st != 0, isV (spT (c.line i.toNat).st) (spT (c.line i.toNat).st), decide ((c.line i.toNat).st.n ≤ 281474976710656), true, true, decide (0 ≤ i), decide (i < (↑c.n : Int)), true]
theorem w20_s_1 (c : Ct) (i : Int) : outK prog f20 20 [] (runK prog D9 F0 2000 (.code (bodyOf f20)) [] 0 ([ctT c, .int .i64 i] ++ List.replicate 95 undefT) ⟨0, []⟩ [true] [])
    = some (OutT.done (some (T.int .i64 (chk (c.line i.toNat).st))), g20_s_1 c i, { next := 0, objs := [] }, [], 0) := by kernel_rfl
noncomputable def g20_s_2 (c : Ct) (i : Int) : List Bool := [decide ((c.line i.toNat).st.entry > c.entries), !chk (c.line i.toNat).st != 0, isV (spT (c.line i.toNat).st) (spT (c.line i.toNat).st), decide ((c.line i.toNat).st.n ≤ 281474976710656), true, true, decide (0 ≤ i), decide (i < (↑c.n : Int)), true]
theorem w20_s_2 (c : Ct) (i : Int) : outK prog f20 20 [] (runK prog D9 F0 2000 (.code (bodyOf f20)) [] 0 ([ctT c, .int .i64 i] ++ List.replicate 95 undefT) ⟨0, []⟩ [false, true] [])
    = some (OutT.done (some (T.int .i64 2)), g20_s_2 c i, { next := 0, objs := [] }, [], 0) := by kernel_rfl
noncomputable def g20_s_3 (c : Ct) (i : Int) : List Bool := [decide (cmpS (c.line (IntKind.i64.wrap (i - 1)).toNat).st (c.line i.toNat).st ≥ 0), decide (i > 0), decide (i > 0), isV (spT (c.line (IntKind.i64.wrap (i - 1)).toNat).st) (spT (c.line (IntKind.i64.wrap (i - 1)).toNat).st), isV (spT (c.line i.toNat).st) (spT (c.line i.toNat).st), decide ((c.line (IntKind.i64.wrap (i - 1)).toNat).st.n ≤ 281474976710656), decide (i > 0), decide (i > 0), decide (i > 0), decide (i > 0), decide (i > 0), decide (0 ≤ IntKind.i64.wrap (i - 1)), decide (IntKind.i64.wrap (i - 1) < (↑c.n : Int)), true, decide (i > 0), decide (i > 0), decide (i > 0), decide (i > 0), decide (i > 0), !decide ((c.line i.toNat).st.entry > c.entries), !chk (c.line i.toNat).st != 0, isV (spT (c.line i.toNat).st) (spT (c.line i.toNat).st), decide ((c.line i.toNat).st.n ≤ 281474976710656), true, true, decide (0 ≤ i), decide (i < (↑c.n : Int)), true]
theorem w20_s_3 (c : Ct) (i : Int) : outK prog f20 20 [] (runK prog D9 F0 2000 (.code (bodyOf f20)) [] 0 ([ctT c, .int .i64 i] ++ List.replicate 95 undefT) ⟨0, []⟩ (bt 15 32764) [])
    = some (OutT.done (some (T.int .i64 24)), g20_s_3 c i, { next := 0, objs := [] }, [], 0) := by kernel_rfl
noncomputable def g20_s_4 (c : Ct) (i : Int) : List Bool := [true, decide ((c.line i.toNat).mass < 0), decide ((c.line i.toNat).mass < 0), decide ((c.line i.toNat).mass < 0), decide ((c.line i.toNat).mass < 0), !decide (cmpS (c.line (IntKind.i64.wrap (i - 1)).toNat).st (c.line i.toNat).st ≥ 0), decide (i > 0), decide (i > 0), isV (spT (c.line (IntKind.i64.wrap (i - 1)).toNat).st) (spT (c.line (IntKind.i64.wrap (i - 1)).toNat).st), isV (spT (c.line i.toNat).st) (spT (c.line i.toNat).st), decide ((c.line (IntKind.i64.wrap (i - 1)).toNat).st.n ≤ 281474976710656), decide (i > 0), decide (i > 0), decide (i > 0), decide (i > 0), decide (i > 0), decide (0 ≤ IntKind.i64.wrap (i - 1)), decide (IntKind.i64.wrap (i - 1) < (↑c.n : Int)), true, decide (i > 0), decide (i > 0), decide (i > 0), decide (i > 0), decide (i > 0), !decide ((c.line i.toNat).st.entry > c.entries), !chk (c.line i.toNat).st != 0, isV (spT (c.line i.toNat).st) (spT (c.line i.toNat).st), decide ((c.line i.toNat).st.n ≤ 281474976710656), true, true, decide (0 ≤ i), decide (i < (↑c.n : Int)), true]
theorem w20_s_4 (c : Ct) (i : Int) : outK prog f20 20 [] (runK prog D9 F0 2000 (.code (bodyOf f20)) [] 0 ([ctT c, .int .i64 i] ++ List.replicate 95 undefT) ⟨0, []⟩ (bt 20 1032188) [])
    = some (OutT.done (some (T.int .i64 38)), g20_s_4 c i, { next := 0, objs := [] }, [], 0) := by kernel_rfl
noncomputable def g20_s_5 (c : Ct) (i : Int) : List Bool := [decide ((c.line i.toNat).mass > 1099511627776), !decide ((c.line i.toNat).mass < 0), !decide ((c.line i.toNat).mass < 0), !decide ((c.line i.toNat).mass < 0), !decide ((c.line i.toNat).mass < 0), !decide (cmpS (c.line (IntKind.i64.wrap (i - 1)).toNat).st (c.line i.toNat).st ≥ 0), decide (i > 0), decide (i > 0), isV (spT (c.line (IntKind.i64.wrap (i - 1)).toNat).st) (spT (c.line (IntKind.i64.wrap (i - 1)).toNat).st), isV (spT (c.line i.toNat).st) (spT (c.line i.toNat).st), decide ((c.line (IntKind.i64.wrap (i - 1)).toNat).st.n ≤ 281474976710656), decide (i > 0), decide (i > 0), decide (i > 0), decide (i > 0), decide (i > 0), decide (0 ≤ IntKind.i64.wrap (i - 1)), decide (IntKind.i64.wrap (i - 1) < (↑c.n : Int)), true, decide (i > 0), decide (i > 0), decide (i > 0), decide (i > 0), decide (i > 0), !decide ((c.line i.toNat).st.entry > c.entries), !chk (c.line i.toNat).st != 0, isV (spT (c.line i.toNat).st) (spT (c.line i.toNat).st), decide ((c.line i.toNat).st.n ≤ 281474976710656), true, true, decide (0 ≤ i), decide (i < (↑c.n : Int)), true]
theorem w20_s_5 (c : Ct) (i : Int) : outK prog f20 20 [] (runK prog D9 F0 2000 (.code (bodyOf f20)) [] 0 ([ctT c, .int .i64 i] ++ List.replicate 95 undefT) ⟨0, []⟩ (bt 20 540668) [])
    = some (OutT.done (some (T.int .i64 38)), g20_s_5 c i, { next := 0, objs := [] }, [], 0) := by kernel_rfl
noncomputable def g20_s_6 (c : Ct) (i : Int) : List Bool := [true, decide ((c.line i.toNat).fate < 0), decide ((c.line i.toNat).fate < 0), decide ((c.line i.toNat).fate < 0), decide ((c.line i.toNat).fate < 0), !decide ((c.line i.toNat).mass > 1099511627776), !decide ((c.line i.toNat).mass < 0), !decide ((c.line i.toNat).mass < 0), !decide ((c.line i.toNat).mass < 0), !decide ((c.line i.toNat).mass < 0), !decide (cmpS (c.line (IntKind.i64.wrap (i - 1)).toNat).st (c.line i.toNat).st ≥ 0), decide (i > 0), decide (i > 0), isV (spT (c.line (IntKind.i64.wrap (i - 1)).toNat).st) (spT (c.line (IntKind.i64.wrap (i - 1)).toNat).st), isV (spT (c.line i.toNat).st) (spT (c.line i.toNat).st), decide ((c.line (IntKind.i64.wrap (i - 1)).toNat).st.n ≤ 281474976710656), decide (i > 0), decide (i > 0), decide (i > 0), decide (i > 0), decide (i > 0), decide (0 ≤ IntKind.i64.wrap (i - 1)), decide (IntKind.i64.wrap (i - 1) < (↑c.n : Int)), true, decide (i > 0), decide (i > 0), decide (i > 0), decide (i > 0), decide (i > 0), !decide ((c.line i.toNat).st.entry > c.entries), !chk (c.line i.toNat).st != 0, isV (spT (c.line i.toNat).st) (spT (c.line i.toNat).st), decide ((c.line i.toNat).st.n ≤ 281474976710656), true, true, decide (0 ≤ i), decide (i < (↑c.n : Int)), true]
theorem w20_s_6 (c : Ct) (i : Int) : outK prog f20 20 [] (runK prog D9 F0 2000 (.code (bodyOf f20)) [] 0 ([ctT c, .int .i64 i] ++ List.replicate 95 undefT) ⟨0, []⟩ (bt 25 32522236) [])
    = some (OutT.done (some (T.int .i64 11)), g20_s_6 c i, { next := 0, objs := [] }, [], 0) := by kernel_rfl
noncomputable def g20_s_7 (c : Ct) (i : Int) : List Bool := [decide ((c.line i.toNat).fate > 4), !decide ((c.line i.toNat).fate < 0), !decide ((c.line i.toNat).fate < 0), !decide ((c.line i.toNat).fate < 0), !decide ((c.line i.toNat).fate < 0), !decide ((c.line i.toNat).mass > 1099511627776), !decide ((c.line i.toNat).mass < 0), !decide ((c.line i.toNat).mass < 0), !decide ((c.line i.toNat).mass < 0), !decide ((c.line i.toNat).mass < 0), !decide (cmpS (c.line (IntKind.i64.wrap (i - 1)).toNat).st (c.line i.toNat).st ≥ 0), decide (i > 0), decide (i > 0), isV (spT (c.line (IntKind.i64.wrap (i - 1)).toNat).st) (spT (c.line (IntKind.i64.wrap (i - 1)).toNat).st), isV (spT (c.line i.toNat).st) (spT (c.line i.toNat).st), decide ((c.line (IntKind.i64.wrap (i - 1)).toNat).st.n ≤ 281474976710656), decide (i > 0), decide (i > 0), decide (i > 0), decide (i > 0), decide (i > 0), decide (0 ≤ IntKind.i64.wrap (i - 1)), decide (IntKind.i64.wrap (i - 1) < (↑c.n : Int)), true, decide (i > 0), decide (i > 0), decide (i > 0), decide (i > 0), decide (i > 0), !decide ((c.line i.toNat).st.entry > c.entries), !chk (c.line i.toNat).st != 0, isV (spT (c.line i.toNat).st) (spT (c.line i.toNat).st), decide ((c.line i.toNat).st.n ≤ 281474976710656), true, true, decide (0 ≤ i), decide (i < (↑c.n : Int)), true]
theorem w20_s_7 (c : Ct) (i : Int) : outK prog f20 20 [] (runK prog D9 F0 2000 (.code (bodyOf f20)) [] 0 ([ctT c, .int .i64 i] ++ List.replicate 95 undefT) ⟨0, []⟩ (bt 25 16793596) [])
    = some (OutT.done (some (T.int .i64 11)), g20_s_7 c i, { next := 0, objs := [] }, [], 0) := by kernel_rfl
noncomputable def g20_s_8 (c : Ct) (i : Int) : List Bool := [true, (c.line i.toNat).closed != 0, (c.line i.toNat).fate != 4, (c.line i.toNat).closed != 0, (c.line i.toNat).fate != 4, (c.line i.toNat).fate != 4, (c.line i.toNat).fate != 4, (c.line i.toNat).fate != 4, (c.line i.toNat).fate != 4, (c.line i.toNat).closed != 0, (c.line i.toNat).closed != 0, (c.line i.toNat).closed != 0, (c.line i.toNat).closed != 0, !decide ((c.line i.toNat).fate > 4), !decide ((c.line i.toNat).fate < 0), !decide ((c.line i.toNat).fate < 0), !decide ((c.line i.toNat).fate < 0), !decide ((c.line i.toNat).fate < 0), !decide ((c.line i.toNat).mass > 1099511627776), !decide ((c.line i.toNat).mass < 0), !decide ((c.line i.toNat).mass < 0), !decide ((c.line i.toNat).mass < 0), !decide ((c.line i.toNat).mass < 0), !decide (cmpS (c.line (IntKind.i64.wrap (i - 1)).toNat).st (c.line i.toNat).st ≥ 0), decide (i > 0), decide (i > 0), isV (spT (c.line (IntKind.i64.wrap (i - 1)).toNat).st) (spT (c.line (IntKind.i64.wrap (i - 1)).toNat).st), isV (spT (c.line i.toNat).st) (spT (c.line i.toNat).st), decide ((c.line (IntKind.i64.wrap (i - 1)).toNat).st.n ≤ 281474976710656), decide (i > 0), decide (i > 0), decide (i > 0), decide (i > 0), decide (i > 0), decide (0 ≤ IntKind.i64.wrap (i - 1)), decide (IntKind.i64.wrap (i - 1) < (↑c.n : Int)), true, decide (i > 0), decide (i > 0), decide (i > 0), decide (i > 0), decide (i > 0), !decide ((c.line i.toNat).st.entry > c.entries), !chk (c.line i.toNat).st != 0, isV (spT (c.line i.toNat).st) (spT (c.line i.toNat).st), decide ((c.line i.toNat).st.n ≤ 281474976710656), true, true, decide (0 ≤ i), decide (i < (↑c.n : Int)), true]
theorem w20_s_8 (c : Ct) (i : Int) : outK prog f20 20 [] (runK prog D9 F0 2000 (.code (bodyOf f20)) [] 0 ([ctT c, .int .i64 i] ++ List.replicate 95 undefT) ⟨0, []⟩ (bt 38 274844368892) [])
    = some (OutT.done (some (T.int .i64 10)), g20_s_8 c i, { next := 0, objs := [] }, [], 0) := by kernel_rfl
noncomputable def g20_s_9 (c : Ct) (i : Int) : List Bool := [(c.line i.toNat).closed != 6, (c.line i.toNat).closed != 0, !(c.line i.toNat).fate != 4, (c.line i.toNat).closed != 0, (c.line i.toNat).closed != 5, !(c.line i.toNat).fate != 4, (c.line i.toNat).closed != 5, (c.line i.toNat).closed != 5, (c.line i.toNat).closed != 5, !(c.line i.toNat).fate != 4, !(c.line i.toNat).fate != 4, !(c.line i.toNat).fate != 4, !(c.line i.toNat).fate != 4, (c.line i.toNat).closed != 0, (c.line i.toNat).closed != 0, (c.line i.toNat).closed != 0, (c.line i.toNat).closed != 0, !decide ((c.line i.toNat).fate > 4), !decide ((c.line i.toNat).fate < 0), !decide ((c.line i.toNat).fate < 0), !decide ((c.line i.toNat).fate < 0), !decide ((c.line i.toNat).fate < 0), !decide ((c.line i.toNat).mass > 1099511627776), !decide ((c.line i.toNat).mass < 0), !decide ((c.line i.toNat).mass < 0), !decide ((c.line i.toNat).mass < 0), !decide ((c.line i.toNat).mass < 0), !decide (cmpS (c.line (IntKind.i64.wrap (i - 1)).toNat).st (c.line i.toNat).st ≥ 0), decide (i > 0), decide (i > 0), isV (spT (c.line (IntKind.i64.wrap (i - 1)).toNat).st) (spT (c.line (IntKind.i64.wrap (i - 1)).toNat).st), isV (spT (c.line i.toNat).st) (spT (c.line i.toNat).st), decide ((c.line (IntKind.i64.wrap (i - 1)).toNat).st.n ≤ 281474976710656), decide (i > 0), decide (i > 0), decide (i > 0), decide (i > 0), decide (i > 0), decide (0 ≤ IntKind.i64.wrap (i - 1)), decide (IntKind.i64.wrap (i - 1) < (↑c.n : Int)), true, decide (i > 0), decide (i > 0), decide (i > 0), decide (i > 0), decide (i > 0), !decide ((c.line i.toNat).st.entry > c.entries), !chk (c.line i.toNat).st != 0, isV (spT (c.line i.toNat).st) (spT (c.line i.toNat).st), decide ((c.line i.toNat).st.n ≤ 281474976710656), true, true, decide (0 ≤ i), decide (i < (↑c.n : Int)), true]
theorem w20_s_9 (c : Ct) (i : Int) : outK prog f20 20 [] (runK prog D9 F0 2000 (.code (bodyOf f20)) [] 0 ([ctT c, .int .i64 i] ++ List.replicate 95 undefT) ⟨0, []⟩ (bt 42 3771484618748) [])
    = some (OutT.done (some (T.int .i64 10)), g20_s_9 c i, { next := 0, objs := [] }, [], 0) := by kernel_rfl
noncomputable def g20_s_10 (c : Ct) (i : Int) : List Bool := [true, !((c.line i.toNat).fate == 0) == ((c.line i.toNat).node == []), !((c.line i.toNat).fate == 0) == ((c.line i.toNat).node == []), !((c.line i.toNat).fate == 0) == ((c.line i.toNat).node == []), !((c.line i.toNat).fate == 0) == ((c.line i.toNat).node == []), !((c.line i.toNat).fate == 0) == ((c.line i.toNat).node == []), !((c.line i.toNat).fate == 0) == ((c.line i.toNat).node == []), !(c.line i.toNat).closed != 6, (c.line i.toNat).closed != 0, !(c.line i.toNat).fate != 4, (c.line i.toNat).closed != 0, (c.line i.toNat).closed != 5, !(c.line i.toNat).fate != 4, (c.line i.toNat).closed != 5, (c.line i.toNat).closed != 5, (c.line i.toNat).closed != 5, !(c.line i.toNat).fate != 4, !(c.line i.toNat).fate != 4, !(c.line i.toNat).fate != 4, !(c.line i.toNat).fate != 4, (c.line i.toNat).closed != 0, (c.line i.toNat).closed != 0, (c.line i.toNat).closed != 0, (c.line i.toNat).closed != 0, !decide ((c.line i.toNat).fate > 4), !decide ((c.line i.toNat).fate < 0), !decide ((c.line i.toNat).fate < 0), !decide ((c.line i.toNat).fate < 0), !decide ((c.line i.toNat).fate < 0), !decide ((c.line i.toNat).mass > 1099511627776), !decide ((c.line i.toNat).mass < 0), !decide ((c.line i.toNat).mass < 0), !decide ((c.line i.toNat).mass < 0), !decide ((c.line i.toNat).mass < 0), !decide (cmpS (c.line (IntKind.i64.wrap (i - 1)).toNat).st (c.line i.toNat).st ≥ 0), decide (i > 0), decide (i > 0), isV (spT (c.line (IntKind.i64.wrap (i - 1)).toNat).st) (spT (c.line (IntKind.i64.wrap (i - 1)).toNat).st), isV (spT (c.line i.toNat).st) (spT (c.line i.toNat).st), decide ((c.line (IntKind.i64.wrap (i - 1)).toNat).st.n ≤ 281474976710656), decide (i > 0), decide (i > 0), decide (i > 0), decide (i > 0), decide (i > 0), decide (0 ≤ IntKind.i64.wrap (i - 1)), decide (IntKind.i64.wrap (i - 1) < (↑c.n : Int)), true, decide (i > 0), decide (i > 0), decide (i > 0), decide (i > 0), decide (i > 0), !decide ((c.line i.toNat).st.entry > c.entries), !chk (c.line i.toNat).st != 0, isV (spT (c.line i.toNat).st) (spT (c.line i.toNat).st), decide ((c.line i.toNat).st.n ≤ 281474976710656), true, true, decide (0 ≤ i), decide (i < (↑c.n : Int)), true]
theorem w20_s_10 (c : Ct) (i : Int) : outK prog f20 20 [] (runK prog D9 F0 2000 (.code (bodyOf f20)) [] 0 ([ctT c, .int .i64 i] ++ List.replicate 95 undefT) ⟨0, []⟩ (bt 49 560124368273404) [])
    = some (OutT.done (some (T.int .i64 12)), g20_s_10 c i, { next := 0, objs := [] }, [], 0) := by kernel_rfl
noncomputable def g20_s_11 (c : Ct) (i : Int) : List Bool := [!isName (c.line i.toNat).node, !!((c.line i.toNat).fate == 0) == ((c.line i.toNat).node == []), (c.line i.toNat).fate != 0, !!((c.line i.toNat).fate == 0) == ((c.line i.toNat).node == []), (c.line i.toNat).fate != 0, isV (T.str (c.line i.toNat).node) (T.str (c.line i.toNat).node), (c.line i.toNat).fate != 0, (c.line i.toNat).fate != 0, (c.line i.toNat).fate != 0, !!((c.line i.toNat).fate == 0) == ((c.line i.toNat).node == []), !!((c.line i.toNat).fate == 0) == ((c.line i.toNat).node == []), !!((c.line i.toNat).fate == 0) == ((c.line i.toNat).node == []), !!((c.line i.toNat).fate == 0) == ((c.line i.toNat).node == []), !(c.line i.toNat).closed != 6, (c.line i.toNat).closed != 0, !(c.line i.toNat).fate != 4, (c.line i.toNat).closed != 0, (c.line i.toNat).closed != 5, !(c.line i.toNat).fate != 4, (c.line i.toNat).closed != 5, (c.line i.toNat).closed != 5, (c.line i.toNat).closed != 5, !(c.line i.toNat).fate != 4, !(c.line i.toNat).fate != 4, !(c.line i.toNat).fate != 4, !(c.line i.toNat).fate != 4, (c.line i.toNat).closed != 0, (c.line i.toNat).closed != 0, (c.line i.toNat).closed != 0, (c.line i.toNat).closed != 0, !decide ((c.line i.toNat).fate > 4), !decide ((c.line i.toNat).fate < 0), !decide ((c.line i.toNat).fate < 0), !decide ((c.line i.toNat).fate < 0), !decide ((c.line i.toNat).fate < 0), !decide ((c.line i.toNat).mass > 1099511627776), !decide ((c.line i.toNat).mass < 0), !decide ((c.line i.toNat).mass < 0), !decide ((c.line i.toNat).mass < 0), !decide ((c.line i.toNat).mass < 0), !decide (cmpS (c.line (IntKind.i64.wrap (i - 1)).toNat).st (c.line i.toNat).st ≥ 0), decide (i > 0), decide (i > 0), isV (spT (c.line (IntKind.i64.wrap (i - 1)).toNat).st) (spT (c.line (IntKind.i64.wrap (i - 1)).toNat).st), isV (spT (c.line i.toNat).st) (spT (c.line i.toNat).st), decide ((c.line (IntKind.i64.wrap (i - 1)).toNat).st.n ≤ 281474976710656), decide (i > 0), decide (i > 0), decide (i > 0), decide (i > 0), decide (i > 0), decide (0 ≤ IntKind.i64.wrap (i - 1)), decide (IntKind.i64.wrap (i - 1) < (↑c.n : Int)), true, decide (i > 0), decide (i > 0), decide (i > 0), decide (i > 0), decide (i > 0), !decide ((c.line i.toNat).st.entry > c.entries), !chk (c.line i.toNat).st != 0, isV (spT (c.line i.toNat).st) (spT (c.line i.toNat).st), decide ((c.line i.toNat).st.n ≤ 281474976710656), true, true, decide (0 ≤ i), decide (i < (↑c.n : Int)), true]
theorem w20_s_11 (c : Ct) (i : Int) : outK prog f20 20 [] (runK prog D9 F0 2000 (.code (bodyOf f20)) [] 0 ([ctT c, .int .i64 i] ++ List.replicate 95 undefT) ⟨0, []⟩ (bt 54 12316102692454396) [])
    = some (OutT.done (some (T.int .i64 12)), g20_s_11 c i, { next := 0, objs := [] }, [], 0) := by kernel_rfl
noncomputable def g20_s_12 (c : Ct) (i : Int) : List Bool := [!!isName (c.line i.toNat).node, !!((c.line i.toNat).fate == 0) == ((c.line i.toNat).node == []), (c.line i.toNat).fate != 0, !!((c.line i.toNat).fate == 0) == ((c.line i.toNat).node == []), (c.line i.toNat).fate != 0, isV (T.str (c.line i.toNat).node) (T.str (c.line i.toNat).node), (c.line i.toNat).fate != 0, (c.line i.toNat).fate != 0, (c.line i.toNat).fate != 0, !!((c.line i.toNat).fate == 0) == ((c.line i.toNat).node == []), !!((c.line i.toNat).fate == 0) == ((c.line i.toNat).node == []), !!((c.line i.toNat).fate == 0) == ((c.line i.toNat).node == []), !!((c.line i.toNat).fate == 0) == ((c.line i.toNat).node == []), !(c.line i.toNat).closed != 6, (c.line i.toNat).closed != 0, !(c.line i.toNat).fate != 4, (c.line i.toNat).closed != 0, (c.line i.toNat).closed != 5, !(c.line i.toNat).fate != 4, (c.line i.toNat).closed != 5, (c.line i.toNat).closed != 5, (c.line i.toNat).closed != 5, !(c.line i.toNat).fate != 4, !(c.line i.toNat).fate != 4, !(c.line i.toNat).fate != 4, !(c.line i.toNat).fate != 4, (c.line i.toNat).closed != 0, (c.line i.toNat).closed != 0, (c.line i.toNat).closed != 0, (c.line i.toNat).closed != 0, !decide ((c.line i.toNat).fate > 4), !decide ((c.line i.toNat).fate < 0), !decide ((c.line i.toNat).fate < 0), !decide ((c.line i.toNat).fate < 0), !decide ((c.line i.toNat).fate < 0), !decide ((c.line i.toNat).mass > 1099511627776), !decide ((c.line i.toNat).mass < 0), !decide ((c.line i.toNat).mass < 0), !decide ((c.line i.toNat).mass < 0), !decide ((c.line i.toNat).mass < 0), !decide (cmpS (c.line (IntKind.i64.wrap (i - 1)).toNat).st (c.line i.toNat).st ≥ 0), decide (i > 0), decide (i > 0), isV (spT (c.line (IntKind.i64.wrap (i - 1)).toNat).st) (spT (c.line (IntKind.i64.wrap (i - 1)).toNat).st), isV (spT (c.line i.toNat).st) (spT (c.line i.toNat).st), decide ((c.line (IntKind.i64.wrap (i - 1)).toNat).st.n ≤ 281474976710656), decide (i > 0), decide (i > 0), decide (i > 0), decide (i > 0), decide (i > 0), decide (0 ≤ IntKind.i64.wrap (i - 1)), decide (IntKind.i64.wrap (i - 1) < (↑c.n : Int)), true, decide (i > 0), decide (i > 0), decide (i > 0), decide (i > 0), decide (i > 0), !decide ((c.line i.toNat).st.entry > c.entries), !chk (c.line i.toNat).st != 0, isV (spT (c.line i.toNat).st) (spT (c.line i.toNat).st), decide ((c.line i.toNat).st.n ≤ 281474976710656), true, true, decide (0 ≤ i), decide (i < (↑c.n : Int)), true]
theorem w20_s_12 (c : Ct) (i : Int) : outK prog f20 20 [] (runK prog D9 F0 2000 (.code (bodyOf f20)) [] 0 ([ctT c, .int .i64 i] ++ List.replicate 95 undefT) ⟨0, []⟩ (bt 54 3308903437713404) [])
    = some (OutT.done (some (T.int .i64 0)), g20_s_12 c i, { next := 0, objs := [] }, [], 0) := by kernel_rfl
noncomputable def g20_s_13 (c : Ct) (i : Int) : List Bool := [true, !!((c.line i.toNat).fate == 0) == ((c.line i.toNat).node == []), !(c.line i.toNat).fate != 0, !!((c.line i.toNat).fate == 0) == ((c.line i.toNat).node == []), !(c.line i.toNat).fate != 0, !(c.line i.toNat).fate != 0, !(c.line i.toNat).fate != 0, !(c.line i.toNat).fate != 0, !!((c.line i.toNat).fate == 0) == ((c.line i.toNat).node == []), !!((c.line i.toNat).fate == 0) == ((c.line i.toNat).node == []), !!((c.line i.toNat).fate == 0) == ((c.line i.toNat).node == []), !!((c.line i.toNat).fate == 0) == ((c.line i.toNat).node == []), !(c.line i.toNat).closed != 6, (c.line i.toNat).closed != 0, !(c.line i.toNat).fate != 4, (c.line i.toNat).closed != 0, (c.line i.toNat).closed != 5, !(c.line i.toNat).fate != 4, (c.line i.toNat).closed != 5, (c.line i.toNat).closed != 5, (c.line i.toNat).closed != 5, !(c.line i.toNat).fate != 4, !(c.line i.toNat).fate != 4, !(c.line i.toNat).fate != 4, !(c.line i.toNat).fate != 4, (c.line i.toNat).closed != 0, (c.line i.toNat).closed != 0, (c.line i.toNat).closed != 0, (c.line i.toNat).closed != 0, !decide ((c.line i.toNat).fate > 4), !decide ((c.line i.toNat).fate < 0), !decide ((c.line i.toNat).fate < 0), !decide ((c.line i.toNat).fate < 0), !decide ((c.line i.toNat).fate < 0), !decide ((c.line i.toNat).mass > 1099511627776), !decide ((c.line i.toNat).mass < 0), !decide ((c.line i.toNat).mass < 0), !decide ((c.line i.toNat).mass < 0), !decide ((c.line i.toNat).mass < 0), !decide (cmpS (c.line (IntKind.i64.wrap (i - 1)).toNat).st (c.line i.toNat).st ≥ 0), decide (i > 0), decide (i > 0), isV (spT (c.line (IntKind.i64.wrap (i - 1)).toNat).st) (spT (c.line (IntKind.i64.wrap (i - 1)).toNat).st), isV (spT (c.line i.toNat).st) (spT (c.line i.toNat).st), decide ((c.line (IntKind.i64.wrap (i - 1)).toNat).st.n ≤ 281474976710656), decide (i > 0), decide (i > 0), decide (i > 0), decide (i > 0), decide (i > 0), decide (0 ≤ IntKind.i64.wrap (i - 1)), decide (IntKind.i64.wrap (i - 1) < (↑c.n : Int)), true, decide (i > 0), decide (i > 0), decide (i > 0), decide (i > 0), decide (i > 0), !decide ((c.line i.toNat).st.entry > c.entries), !chk (c.line i.toNat).st != 0, isV (spT (c.line i.toNat).st) (spT (c.line i.toNat).st), decide ((c.line i.toNat).st.n ≤ 281474976710656), true, true, decide (0 ≤ i), decide (i < (↑c.n : Int)), true]
theorem w20_s_13 (c : Ct) (i : Int) : outK prog f20 20 [] (runK prog D9 F0 2000 (.code (bodyOf f20)) [] 0 ([ctT c, .int .i64 i] ++ List.replicate 95 undefT) ⟨0, []⟩ (bt 54 1572461363196) [])
    = some (OutT.done (some (T.int .i64 0)), g20_s_13 c i, { next := 0, objs := [] }, [], 0) := by kernel_rfl
noncomputable def g20_s_14 (c : Ct) (i : Int) : List Bool := [true, !((c.line i.toNat).fate == 0) == ((c.line i.toNat).node == []), !((c.line i.toNat).fate == 0) == ((c.line i.toNat).node == []), !((c.line i.toNat).fate == 0) == ((c.line i.toNat).node == []), !((c.line i.toNat).fate == 0) == ((c.line i.toNat).node == []), !((c.line i.toNat).fate == 0) == ((c.line i.toNat).node == []), !((c.line i.toNat).fate == 0) == ((c.line i.toNat).node == []), true, (c.line i.toNat).closed != 0, !(c.line i.toNat).fate != 4, (c.line i.toNat).closed != 0, !(c.line i.toNat).closed != 5, !(c.line i.toNat).fate != 4, !(c.line i.toNat).closed != 5, !(c.line i.toNat).closed != 5, !(c.line i.toNat).closed != 5, !(c.line i.toNat).fate != 4, !(c.line i.toNat).fate != 4, !(c.line i.toNat).fate != 4, !(c.line i.toNat).fate != 4, (c.line i.toNat).closed != 0, (c.line i.toNat).closed != 0, (c.line i.toNat).closed != 0, (c.line i.toNat).closed != 0, !decide ((c.line i.toNat).fate > 4), !decide ((c.line i.toNat).fate < 0), !decide ((c.line i.toNat).fate < 0), !decide ((c.line i.toNat).fate < 0), !decide ((c.line i.toNat).fate < 0), !decide ((c.line i.toNat).mass > 1099511627776), !decide ((c.line i.toNat).mass < 0), !decide ((c.line i.toNat).mass < 0), !decide ((c.line i.toNat).mass < 0), !decide ((c.line i.toNat).mass < 0), !decide (cmpS (c.line (IntKind.i64.wrap (i - 1)).toNat).st (c.line i.toNat).st ≥ 0), decide (i > 0), decide (i > 0), isV (spT (c.line (IntKind.i64.wrap (i - 1)).toNat).st) (spT (c.line (IntKind.i64.wrap (i - 1)).toNat).st), isV (spT (c.line i.toNat).st) (spT (c.line i.toNat).st), decide ((c.line (IntKind.i64.wrap (i - 1)).toNat).st.n ≤ 281474976710656), decide (i > 0), decide (i > 0), decide (i > 0), decide (i > 0), decide (i > 0), decide (0 ≤ IntKind.i64.wrap (i - 1)), decide (IntKind.i64.wrap (i - 1) < (↑c.n : Int)), true, decide (i > 0), decide (i > 0), decide (i > 0), decide (i > 0), decide (i > 0), !decide ((c.line i.toNat).st.entry > c.entries), !chk (c.line i.toNat).st != 0, isV (spT (c.line i.toNat).st) (spT (c.line i.toNat).st), decide ((c.line i.toNat).st.n ≤ 281474976710656), true, true, decide (0 ≤ i), decide (i < (↑c.n : Int)), true]
theorem w20_s_14 (c : Ct) (i : Int) : outK prog f20 20 [] (runK prog D9 F0 2000 (.code (bodyOf f20)) [] 0 ([ctT c, .int .i64 i] ++ List.replicate 95 undefT) ⟨0, []⟩ (bt 49 559926799777788) [])
    = some (OutT.done (some (T.int .i64 12)), g20_s_14 c i, { next := 0, objs := [] }, [], 0) := by kernel_rfl
noncomputable def g20_s_15 (c : Ct) (i : Int) : List Bool := [!isName (c.line i.toNat).node, !!((c.line i.toNat).fate == 0) == ((c.line i.toNat).node == []), (c.line i.toNat).fate != 0, !!((c.line i.toNat).fate == 0) == ((c.line i.toNat).node == []), (c.line i.toNat).fate != 0, isV (T.str (c.line i.toNat).node) (T.str (c.line i.toNat).node), (c.line i.toNat).fate != 0, (c.line i.toNat).fate != 0, (c.line i.toNat).fate != 0, !!((c.line i.toNat).fate == 0) == ((c.line i.toNat).node == []), !!((c.line i.toNat).fate == 0) == ((c.line i.toNat).node == []), !!((c.line i.toNat).fate == 0) == ((c.line i.toNat).node == []), !!((c.line i.toNat).fate == 0) == ((c.line i.toNat).node == []), true, (c.line i.toNat).closed != 0, !(c.line i.toNat).fate != 4, (c.line i.toNat).closed != 0, !(c.line i.toNat).closed != 5, !(c.line i.toNat).fate != 4, !(c.line i.toNat).closed != 5, !(c.line i.toNat).closed != 5, !(c.line i.toNat).closed != 5, !(c.line i.toNat).fate != 4, !(c.line i.toNat).fate != 4, !(c.line i.toNat).fate != 4, !(c.line i.toNat).fate != 4, (c.line i.toNat).closed != 0, (c.line i.toNat).closed != 0, (c.line i.toNat).closed != 0, (c.line i.toNat).closed != 0, !decide ((c.line i.toNat).fate > 4), !decide ((c.line i.toNat).fate < 0), !decide ((c.line i.toNat).fate < 0), !decide ((c.line i.toNat).fate < 0), !decide ((c.line i.toNat).fate < 0), !decide ((c.line i.toNat).mass > 1099511627776), !decide ((c.line i.toNat).mass < 0), !decide ((c.line i.toNat).mass < 0), !decide ((c.line i.toNat).mass < 0), !decide ((c.line i.toNat).mass < 0), !decide (cmpS (c.line (IntKind.i64.wrap (i - 1)).toNat).st (c.line i.toNat).st ≥ 0), decide (i > 0), decide (i > 0), isV (spT (c.line (IntKind.i64.wrap (i - 1)).toNat).st) (spT (c.line (IntKind.i64.wrap (i - 1)).toNat).st), isV (spT (c.line i.toNat).st) (spT (c.line i.toNat).st), decide ((c.line (IntKind.i64.wrap (i - 1)).toNat).st.n ≤ 281474976710656), decide (i > 0), decide (i > 0), decide (i > 0), decide (i > 0), decide (i > 0), decide (0 ≤ IntKind.i64.wrap (i - 1)), decide (IntKind.i64.wrap (i - 1) < (↑c.n : Int)), true, decide (i > 0), decide (i > 0), decide (i > 0), decide (i > 0), decide (i > 0), !decide ((c.line i.toNat).st.entry > c.entries), !chk (c.line i.toNat).st != 0, isV (spT (c.line i.toNat).st) (spT (c.line i.toNat).st), decide ((c.line i.toNat).st.n ≤ 281474976710656), true, true, decide (0 ≤ i), decide (i < (↑c.n : Int)), true]
theorem w20_s_15 (c : Ct) (i : Int) : outK prog f20 20 [] (runK prog D9 F0 2000 (.code (bodyOf f20)) [] 0 ([ctT c, .int .i64 i] ++ List.replicate 95 undefT) ⟨0, []⟩ (bt 54 12315905123958780) [])
    = some (OutT.done (some (T.int .i64 12)), g20_s_15 c i, { next := 0, objs := [] }, [], 0) := by kernel_rfl
noncomputable def g20_s_16 (c : Ct) (i : Int) : List Bool := [!!isName (c.line i.toNat).node, !!((c.line i.toNat).fate == 0) == ((c.line i.toNat).node == []), (c.line i.toNat).fate != 0, !!((c.line i.toNat).fate == 0) == ((c.line i.toNat).node == []), (c.line i.toNat).fate != 0, isV (T.str (c.line i.toNat).node) (T.str (c.line i.toNat).node), (c.line i.toNat).fate != 0, (c.line i.toNat).fate != 0, (c.line i.toNat).fate != 0, !!((c.line i.toNat).fate == 0) == ((c.line i.toNat).node == []), !!((c.line i.toNat).fate == 0) == ((c.line i.toNat).node == []), !!((c.line i.toNat).fate == 0) == ((c.line i.toNat).node == []), !!((c.line i.toNat).fate == 0) == ((c.line i.toNat).node == []), true, (c.line i.toNat).closed != 0, !(c.line i.toNat).fate != 4, (c.line i.toNat).closed != 0, !(c.line i.toNat).closed != 5, !(c.line i.toNat).fate != 4, !(c.line i.toNat).closed != 5, !(c.line i.toNat).closed != 5, !(c.line i.toNat).closed != 5, !(c.line i.toNat).fate != 4, !(c.line i.toNat).fate != 4, !(c.line i.toNat).fate != 4, !(c.line i.toNat).fate != 4, (c.line i.toNat).closed != 0, (c.line i.toNat).closed != 0, (c.line i.toNat).closed != 0, (c.line i.toNat).closed != 0, !decide ((c.line i.toNat).fate > 4), !decide ((c.line i.toNat).fate < 0), !decide ((c.line i.toNat).fate < 0), !decide ((c.line i.toNat).fate < 0), !decide ((c.line i.toNat).fate < 0), !decide ((c.line i.toNat).mass > 1099511627776), !decide ((c.line i.toNat).mass < 0), !decide ((c.line i.toNat).mass < 0), !decide ((c.line i.toNat).mass < 0), !decide ((c.line i.toNat).mass < 0), !decide (cmpS (c.line (IntKind.i64.wrap (i - 1)).toNat).st (c.line i.toNat).st ≥ 0), decide (i > 0), decide (i > 0), isV (spT (c.line (IntKind.i64.wrap (i - 1)).toNat).st) (spT (c.line (IntKind.i64.wrap (i - 1)).toNat).st), isV (spT (c.line i.toNat).st) (spT (c.line i.toNat).st), decide ((c.line (IntKind.i64.wrap (i - 1)).toNat).st.n ≤ 281474976710656), decide (i > 0), decide (i > 0), decide (i > 0), decide (i > 0), decide (i > 0), decide (0 ≤ IntKind.i64.wrap (i - 1)), decide (IntKind.i64.wrap (i - 1) < (↑c.n : Int)), true, decide (i > 0), decide (i > 0), decide (i > 0), decide (i > 0), decide (i > 0), !decide ((c.line i.toNat).st.entry > c.entries), !chk (c.line i.toNat).st != 0, isV (spT (c.line i.toNat).st) (spT (c.line i.toNat).st), decide ((c.line i.toNat).st.n ≤ 281474976710656), true, true, decide (0 ≤ i), decide (i < (↑c.n : Int)), true]
theorem w20_s_16 (c : Ct) (i : Int) : outK prog f20 20 [] (runK prog D9 F0 2000 (.code (bodyOf f20)) [] 0 ([ctT c, .int .i64 i] ++ List.replicate 95 undefT) ⟨0, []⟩ (bt 54 3308705869217788) [])
    = some (OutT.done (some (T.int .i64 0)), g20_s_16 c i, { next := 0, objs := [] }, [], 0) := by kernel_rfl
noncomputable def g20_s_17 (c : Ct) (i : Int) : List Bool := [true, !!((c.line i.toNat).fate == 0) == ((c.line i.toNat).node == []), !(c.line i.toNat).fate != 0, !!((c.line i.toNat).fate == 0) == ((c.line i.toNat).node == []), !(c.line i.toNat).fate != 0, !(c.line i.toNat).fate != 0, !(c.line i.toNat).fate != 0, !(c.line i.toNat).fate != 0, !!((c.line i.toNat).fate == 0) == ((c.line i.toNat).node == []), !!((c.line i.toNat).fate == 0) == ((c.line i.toNat).node == []), !!((c.line i.toNat).fate == 0) == ((c.line i.toNat).node == []), !!((c.line i.toNat).fate == 0) == ((c.line i.toNat).node == []), true, (c.line i.toNat).closed != 0, !(c.line i.toNat).fate != 4, (c.line i.toNat).closed != 0, !(c.line i.toNat).closed != 5, !(c.line i.toNat).fate != 4, !(c.line i.toNat).closed != 5, !(c.line i.toNat).closed != 5, !(c.line i.toNat).closed != 5, !(c.line i.toNat).fate != 4, !(c.line i.toNat).fate != 4, !(c.line i.toNat).fate != 4, !(c.line i.toNat).fate != 4, (c.line i.toNat).closed != 0, (c.line i.toNat).closed != 0, (c.line i.toNat).closed != 0, (c.line i.toNat).closed != 0, !decide ((c.line i.toNat).fate > 4), !decide ((c.line i.toNat).fate < 0), !decide ((c.line i.toNat).fate < 0), !decide ((c.line i.toNat).fate < 0), !decide ((c.line i.toNat).fate < 0), !decide ((c.line i.toNat).mass > 1099511627776), !decide ((c.line i.toNat).mass < 0), !decide ((c.line i.toNat).mass < 0), !decide ((c.line i.toNat).mass < 0), !decide ((c.line i.toNat).mass < 0), !decide (cmpS (c.line (IntKind.i64.wrap (i - 1)).toNat).st (c.line i.toNat).st ≥ 0), decide (i > 0), decide (i > 0), isV (spT (c.line (IntKind.i64.wrap (i - 1)).toNat).st) (spT (c.line (IntKind.i64.wrap (i - 1)).toNat).st), isV (spT (c.line i.toNat).st) (spT (c.line i.toNat).st), decide ((c.line (IntKind.i64.wrap (i - 1)).toNat).st.n ≤ 281474976710656), decide (i > 0), decide (i > 0), decide (i > 0), decide (i > 0), decide (i > 0), decide (0 ≤ IntKind.i64.wrap (i - 1)), decide (IntKind.i64.wrap (i - 1) < (↑c.n : Int)), true, decide (i > 0), decide (i > 0), decide (i > 0), decide (i > 0), decide (i > 0), !decide ((c.line i.toNat).st.entry > c.entries), !chk (c.line i.toNat).st != 0, isV (spT (c.line i.toNat).st) (spT (c.line i.toNat).st), decide ((c.line i.toNat).st.n ≤ 281474976710656), true, true, decide (0 ≤ i), decide (i < (↑c.n : Int)), true]
theorem w20_s_17 (c : Ct) (i : Int) : outK prog f20 20 [] (runK prog D9 F0 2000 (.code (bodyOf f20)) [] 0 ([ctT c, .int .i64 i] ++ List.replicate 95 undefT) ⟨0, []⟩ (bt 54 1374892867580) [])
    = some (OutT.done (some (T.int .i64 0)), g20_s_17 c i, { next := 0, objs := [] }, [], 0) := by kernel_rfl
noncomputable def g20_s_18 (c : Ct) (i : Int) : List Bool := [true, !((c.line i.toNat).fate == 0) == ((c.line i.toNat).node == []), !((c.line i.toNat).fate == 0) == ((c.line i.toNat).node == []), !((c.line i.toNat).fate == 0) == ((c.line i.toNat).node == []), !((c.line i.toNat).fate == 0) == ((c.line i.toNat).node == []), !((c.line i.toNat).fate == 0) == ((c.line i.toNat).node == []), !((c.line i.toNat).fate == 0) == ((c.line i.toNat).node == []), true, !(c.line i.toNat).closed != 0, !(c.line i.toNat).closed != 0, !(c.line i.toNat).closed != 0, !(c.line i.toNat).closed != 0, !(c.line i.toNat).closed != 0, !(c.line i.toNat).closed != 0, !decide ((c.line i.toNat).fate > 4), !decide ((c.line i.toNat).fate < 0), !decide ((c.line i.toNat).fate < 0), !decide ((c.line i.toNat).fate < 0), !decide ((c.line i.toNat).fate < 0), !decide ((c.line i.toNat).mass > 1099511627776), !decide ((c.line i.toNat).mass < 0), !decide ((c.line i.toNat).mass < 0), !decide ((c.line i.toNat).mass < 0), !decide ((c.line i.toNat).mass < 0), !decide (cmpS (c.line (IntKind.i64.wrap (i - 1)).toNat).st (c.line i.toNat).st ≥ 0), decide (i > 0), decide (i > 0), isV (spT (c.line (IntKind.i64.wrap (i - 1)).toNat).st) (spT (c.line (IntKind.i64.wrap (i - 1)).toNat).st), isV (spT (c.line i.toNat).st) (spT (c.line i.toNat).st), decide ((c.line (IntKind.i64.wrap (i - 1)).toNat).st.n ≤ 281474976710656), decide (i > 0), decide (i > 0), decide (i > 0), decide (i > 0), decide (i > 0), decide (0 ≤ IntKind.i64.wrap (i - 1)), decide (IntKind.i64.wrap (i - 1) < (↑c.n : Int)), true, decide (i > 0), decide (i > 0), decide (i > 0), decide (i > 0), decide (i > 0), !decide ((c.line i.toNat).st.entry > c.entries), !chk (c.line i.toNat).st != 0, isV (spT (c.line i.toNat).st) (spT (c.line i.toNat).st), decide ((c.line i.toNat).st.n ≤ 281474976710656), true, true, decide (0 ≤ i), decide (i < (↑c.n : Int)), true]
theorem w20_s_18 (c : Ct) (i : Int) : outK prog f20 20 [] (runK prog D9 F0 2000 (.code (bodyOf f20)) [] 0 ([ctT c, .int .i64 i] ++ List.replicate 95 undefT) ⟨0, []⟩ (bt 39 545460862972) [])
    = some (OutT.done (some (T.int .i64 12)), g20_s_18 c i, { next := 0, objs := [] }, [], 0) := by kernel_rfl
noncomputable def g20_s_19 (c : Ct) (i : Int) : List Bool := [!isName (c.line i.toNat).node, !!((c.line i.toNat).fate == 0) == ((c.line i.toNat).node == []), (c.line i.toNat).fate != 0, !!((c.line i.toNat).fate == 0) == ((c.line i.toNat).node == []), (c.line i.toNat).fate != 0, isV (T.str (c.line i.toNat).node) (T.str (c.line i.toNat).node), (c.line i.toNat).fate != 0, (c.line i.toNat).fate != 0, (c.line i.toNat).fate != 0, !!((c.line i.toNat).fate == 0) == ((c.line i.toNat).node == []), !!((c.line i.toNat).fate == 0) == ((c.line i.toNat).node == []), !!((c.line i.toNat).fate == 0) == ((c.line i.toNat).node == []), !!((c.line i.toNat).fate == 0) == ((c.line i.toNat).node == []), true, !(c.line i.toNat).closed != 0, !(c.line i.toNat).closed != 0, !(c.line i.toNat).closed != 0, !(c.line i.toNat).closed != 0, !(c.line i.toNat).closed != 0, !(c.line i.toNat).closed != 0, !decide ((c.line i.toNat).fate > 4), !decide ((c.line i.toNat).fate < 0), !decide ((c.line i.toNat).fate < 0), !decide ((c.line i.toNat).fate < 0), !decide ((c.line i.toNat).fate < 0), !decide ((c.line i.toNat).mass > 1099511627776), !decide ((c.line i.toNat).mass < 0), !decide ((c.line i.toNat).mass < 0), !decide ((c.line i.toNat).mass < 0), !decide ((c.line i.toNat).mass < 0), !decide (cmpS (c.line (IntKind.i64.wrap (i - 1)).toNat).st (c.line i.toNat).st ≥ 0), decide (i > 0), decide (i > 0), isV (spT (c.line (IntKind.i64.wrap (i - 1)).toNat).st) (spT (c.line (IntKind.i64.wrap (i - 1)).toNat).st), isV (spT (c.line i.toNat).st) (spT (c.line i.toNat).st), decide ((c.line (IntKind.i64.wrap (i - 1)).toNat).st.n ≤ 281474976710656), decide (i > 0), decide (i > 0), decide (i > 0), decide (i > 0), decide (i > 0), decide (0 ≤ IntKind.i64.wrap (i - 1)), decide (IntKind.i64.wrap (i - 1) < (↑c.n : Int)), true, decide (i > 0), decide (i > 0), decide (i > 0), decide (i > 0), decide (i > 0), !decide ((c.line i.toNat).st.entry > c.entries), !chk (c.line i.toNat).st != 0, isV (spT (c.line i.toNat).st) (spT (c.line i.toNat).st), decide ((c.line i.toNat).st.n ≤ 281474976710656), true, true, decide (0 ≤ i), decide (i < (↑c.n : Int)), true]
theorem w20_s_19 (c : Ct) (i : Int) : outK prog f20 20 [] (runK prog D9 F0 2000 (.code (bodyOf f20)) [] 0 ([ctT c, .int .i64 i] ++ List.replicate 95 undefT) ⟨0, []⟩ (bt 44 12025908445180) [])
    = some (OutT.done (some (T.int .i64 12)), g20_s_19 c i, { next := 0, objs := [] }, [], 0) := by kernel_rfl
noncomputable def g20_s_20 (c : Ct) (i : Int) : List Bool := [!!isName (c.line i.toNat).node, !!((c.line i.toNat).fate == 0) == ((c.line i.toNat).node == []), (c.line i.toNat).fate != 0, !!((c.line i.toNat).fate == 0) == ((c.line i.toNat).node == []), (c.line i.toNat).fate != 0, isV (T.str (c.line i.toNat).node) (T.str (c.line i.toNat).node), (c.line i.toNat).fate != 0, (c.line i.toNat).fate != 0, (c.line i.toNat).fate != 0, !!((c.line i.toNat).fate == 0) == ((c.line i.toNat).node == []), !!((c.line i.toNat).fate == 0) == ((c.line i.toNat).node == []), !!((c.line i.toNat).fate == 0) == ((c.line i.toNat).node == []), !!((c.line i.toNat).fate == 0) == ((c.line i.toNat).node == []), true, !(c.line i.toNat).closed != 0, !(c.line i.toNat).closed != 0, !(c.line i.toNat).closed != 0, !(c.line i.toNat).closed != 0, !(c.line i.toNat).closed != 0, !(c.line i.toNat).closed != 0, !decide ((c.line i.toNat).fate > 4), !decide ((c.line i.toNat).fate < 0), !decide ((c.line i.toNat).fate < 0), !decide ((c.line i.toNat).fate < 0), !decide ((c.line i.toNat).fate < 0), !decide ((c.line i.toNat).mass > 1099511627776), !decide ((c.line i.toNat).mass < 0), !decide ((c.line i.toNat).mass < 0), !decide ((c.line i.toNat).mass < 0), !decide ((c.line i.toNat).mass < 0), !decide (cmpS (c.line (IntKind.i64.wrap (i - 1)).toNat).st (c.line i.toNat).st ≥ 0), decide (i > 0), decide (i > 0), isV (spT (c.line (IntKind.i64.wrap (i - 1)).toNat).st) (spT (c.line (IntKind.i64.wrap (i - 1)).toNat).st), isV (spT (c.line i.toNat).st) (spT (c.line i.toNat).st), decide ((c.line (IntKind.i64.wrap (i - 1)).toNat).st.n ≤ 281474976710656), decide (i > 0), decide (i > 0), decide (i > 0), decide (i > 0), decide (i > 0), decide (0 ≤ IntKind.i64.wrap (i - 1)), decide (IntKind.i64.wrap (i - 1) < (↑c.n : Int)), true, decide (i > 0), decide (i > 0), decide (i > 0), decide (i > 0), decide (i > 0), !decide ((c.line i.toNat).st.entry > c.entries), !chk (c.line i.toNat).st != 0, isV (spT (c.line i.toNat).st) (spT (c.line i.toNat).st), decide ((c.line i.toNat).st.n ≤ 281474976710656), true, true, decide (0 ≤ i), decide (i < (↑c.n : Int)), true]
theorem w20_s_20 (c : Ct) (i : Int) : outK prog f20 20 [] (runK prog D9 F0 2000 (.code (bodyOf f20)) [] 0 ([ctT c, .int .i64 i] ++ List.replicate 95 undefT) ⟨0, []⟩ (bt 44 3229815422972) [])
    = some (OutT.done (some (T.int .i64 0)), g20_s_20 c i, { next := 0, objs := [] }, [], 0) := by kernel_rfl
noncomputable def g20_s_21 (c : Ct) (i : Int) : List Bool := [true, !!((c.line i.toNat).fate == 0) == ((c.line i.toNat).node == []), !(c.line i.toNat).fate != 0, !!((c.line i.toNat).fate == 0) == ((c.line i.toNat).node == []), !(c.line i.toNat).fate != 0, !(c.line i.toNat).fate != 0, !(c.line i.toNat).fate != 0, !(c.line i.toNat).fate != 0, !!((c.line i.toNat).fate == 0) == ((c.line i.toNat).node == []), !!((c.line i.toNat).fate == 0) == ((c.line i.toNat).node == []), !!((c.line i.toNat).fate == 0) == ((c.line i.toNat).node == []), !!((c.line i.toNat).fate == 0) == ((c.line i.toNat).node == []), true, !(c.line i.toNat).closed != 0, !(c.line i.toNat).closed != 0, !(c.line i.toNat).closed != 0, !(c.line i.toNat).closed != 0, !(c.line i.toNat).closed != 0, !(c.line i.toNat).closed != 0, !decide ((c.line i.toNat).fate > 4), !decide ((c.line i.toNat).fate < 0), !decide ((c.line i.toNat).fate < 0), !decide ((c.line i.toNat).fate < 0), !decide ((c.line i.toNat).fate < 0), !decide ((c.line i.toNat).mass > 1099511627776), !decide ((c.line i.toNat).mass < 0), !decide ((c.line i.toNat).mass < 0), !decide ((c.line i.toNat).mass < 0), !decide ((c.line i.toNat).mass < 0), !decide (cmpS (c.line (IntKind.i64.wrap (i - 1)).toNat).st (c.line i.toNat).st ≥ 0), decide (i > 0), decide (i > 0), isV (spT (c.line (IntKind.i64.wrap (i - 1)).toNat).st) (spT (c.line (IntKind.i64.wrap (i - 1)).toNat).st), isV (spT (c.line i.toNat).st) (spT (c.line i.toNat).st), decide ((c.line (IntKind.i64.wrap (i - 1)).toNat).st.n ≤ 281474976710656), decide (i > 0), decide (i > 0), decide (i > 0), decide (i > 0), decide (i > 0), decide (0 ≤ IntKind.i64.wrap (i - 1)), decide (IntKind.i64.wrap (i - 1) < (↑c.n : Int)), true, decide (i > 0), decide (i > 0), decide (i > 0), decide (i > 0), decide (i > 0), !decide ((c.line i.toNat).st.entry > c.entries), !chk (c.line i.toNat).st != 0, isV (spT (c.line i.toNat).st) (spT (c.line i.toNat).st), decide ((c.line i.toNat).st.n ≤ 281474976710656), true, true, decide (0 ≤ i), decide (i < (↑c.n : Int)), true]
theorem w20_s_21 (c : Ct) (i : Int) : outK prog f20 20 [] (runK prog D9 F0 2000 (.code (bodyOf f20)) [] 0 ([ctT c, .int .i64 i] ++ List.replicate 95 undefT) ⟨0, []⟩ (bt 44 16380) [])
    = some (OutT.done (some (T.int .i64 0)), g20_s_21 c i, { next := 0, objs := [] }, [], 0) := by kernel_rfl
noncomputable def g20_s_22 (c : Ct) (i : Int) : List Bool := [true, decide ((c.line i.toNat).mass < 0), decide ((c.line i.toNat).mass < 0), decide ((c.line i.toNat).mass < 0), decide ((c.line i.toNat).mass < 0), true, !decide (i > 0), !decide (i > 0), !decide (i > 0), !decide (i > 0), !decide (i > 0), !decide (i > 0), !decide (i > 0), !decide (i > 0), !decide (i > 0), !decide (i > 0), !decide (i > 0), !decide (i > 0), !decide ((c.line i.toNat).st.entry > c.entries), !chk (c.line i.toNat).st != 0, isV (spT (c.line i.toNat).st) (spT (c.line i.toNat).st), decide ((c.line i.toNat).st.n ≤ 281474976710656), true, true, decide (0 ≤ i), decide (i < (↑c.n : Int)), true]
theorem w20_s_22 (c : Ct) (i : Int) : outK prog f20 20 [] (runK prog D9 F0 2000 (.code (bodyOf f20)) [] 0 ([ctT c, .int .i64 i] ++ List.replicate 95 undefT) ⟨0, []⟩ (bt 20 1015808) [])
    = some (OutT.done (some (T.int .i64 38)), g20_s_22 c i, { next := 0, objs := [] }, [], 0) := by kernel_rfl
noncomputable def g20_s_23 (c : Ct) (i : Int) : List Bool := [decide ((c.line i.toNat).mass > 1099511627776), !decide ((c.line i.toNat).mass < 0), !decide ((c.line i.toNat).mass < 0), !decide ((c.line i.toNat).mass < 0), !decide ((c.line i.toNat).mass < 0), true, !decide (i > 0), !decide (i > 0), !decide (i > 0), !decide (i > 0), !decide (i > 0), !decide (i > 0), !decide (i > 0), !decide (i > 0), !decide (i > 0), !decide (i > 0), !decide (i > 0), !decide (i > 0), !decide ((c.line i.toNat).st.entry > c.entries), !chk (c.line i.toNat).st != 0, isV (spT (c.line i.toNat).st) (spT (c.line i.toNat).st), decide ((c.line i.toNat).st.n ≤ 281474976710656), true, true, decide (0 ≤ i), decide (i < (↑c.n : Int)), true]
theorem w20_s_23 (c : Ct) (i : Int) : outK prog f20 20 [] (runK prog D9 F0 2000 (.code (bodyOf f20)) [] 0 ([ctT c, .int .i64 i] ++ List.replicate 95 undefT) ⟨0, []⟩ (bt 20 524288) [])
    = some (OutT.done (some (T.int .i64 38)), g20_s_23 c i, { next := 0, objs := [] }, [], 0) := by kernel_rfl
noncomputable def g20_s_24 (c : Ct) (i : Int) : List Bool := [true, decide ((c.line i.toNat).fate < 0), decide ((c.line i.toNat).fate < 0), decide ((c.line i.toNat).fate < 0), decide ((c.line i.toNat).fate < 0), !decide ((c.line i.toNat).mass > 1099511627776), !decide ((c.line i.toNat).mass < 0), !decide ((c.line i.toNat).mass < 0), !decide ((c.line i.toNat).mass < 0), !decide ((c.line i.toNat).mass < 0), true, !decide (i > 0), !decide (i > 0), !decide (i > 0), !decide (i > 0), !decide (i > 0), !decide (i > 0), !decide (i > 0), !decide (i > 0), !decide (i > 0), !decide (i > 0), !decide (i > 0), !decide (i > 0), !decide ((c.line i.toNat).st.entry > c.entries), !chk (c.line i.toNat).st != 0, isV (spT (c.line i.toNat).st) (spT (c.line i.toNat).st), decide ((c.line i.toNat).st.n ≤ 281474976710656), true, true, decide (0 ≤ i), decide (i < (↑c.n : Int)), true]
theorem w20_s_24 (c : Ct) (i : Int) : outK prog f20 20 [] (runK prog D9 F0 2000 (.code (bodyOf f20)) [] 0 ([ctT c, .int .i64 i] ++ List.replicate 95 undefT) ⟨0, []⟩ (bt 25 32505856) [])
    = some (OutT.done (some (T.int .i64 11)), g20_s_24 c i, { next := 0, objs := [] }, [], 0) := by kernel_rfl
noncomputable def g20_s_25 (c : Ct) (i : Int) : List Bool := [decide ((c.line i.toNat).fate > 4), !decide ((c.line i.toNat).fate < 0), !decide ((c.line i.toNat).fate < 0), !decide ((c.line i.toNat).fate < 0), !decide ((c.line i.toNat).fate < 0), !decide ((c.line i.toNat).mass > 1099511627776), !decide ((c.line i.toNat).mass < 0), !decide ((c.line i.toNat).mass < 0), !decide ((c.line i.toNat).mass < 0), !decide ((c.line i.toNat).mass < 0), true, !decide (i > 0), !decide (i > 0), !decide (i > 0), !decide (i > 0), !decide (i > 0), !decide (i > 0), !decide (i > 0), !decide (i > 0), !decide (i > 0), !decide (i > 0), !decide (i > 0), !decide (i > 0), !decide ((c.line i.toNat).st.entry > c.entries), !chk (c.line i.toNat).st != 0, isV (spT (c.line i.toNat).st) (spT (c.line i.toNat).st), decide ((c.line i.toNat).st.n ≤ 281474976710656), true, true, decide (0 ≤ i), decide (i < (↑c.n : Int)), true]
theorem w20_s_25 (c : Ct) (i : Int) : outK prog f20 20 [] (runK prog D9 F0 2000 (.code (bodyOf f20)) [] 0 ([ctT c, .int .i64 i] ++ List.replicate 95 undefT) ⟨0, []⟩ (bt 25 16777216) [])
    = some (OutT.done (some (T.int .i64 11)), g20_s_25 c i, { next := 0, objs := [] }, [], 0) := by kernel_rfl
noncomputable def g20_s_26 (c : Ct) (i : Int) : List Bool := [true, (c.line i.toNat).closed != 0, (c.line i.toNat).fate != 4, (c.line i.toNat).closed != 0, (c.line i.toNat).fate != 4, (c.line i.toNat).fate != 4, (c.line i.toNat).fate != 4, (c.line i.toNat).fate != 4, (c.line i.toNat).fate != 4, (c.line i.toNat).closed != 0, (c.line i.toNat).closed != 0, (c.line i.toNat).closed != 0, (c.line i.toNat).closed != 0, !decide ((c.line i.toNat).fate > 4), !decide ((c.line i.toNat).fate < 0), !decide ((c.line i.toNat).fate < 0), !decide ((c.line i.toNat).fate < 0), !decide ((c.line i.toNat).fate < 0), !decide ((c.line i.toNat).mass > 1099511627776), !decide ((c.line i.toNat).mass < 0), !decide ((c.line i.toNat).mass < 0), !decide ((c.line i.toNat).mass < 0), !decide ((c.line i.toNat).mass < 0), true, !decide (i > 0), !decide (i > 0), !decide (i > 0), !decide (i > 0), !decide (i > 0), !decide (i > 0), !decide (i > 0), !decide (i > 0), !decide (i > 0), !decide (i > 0), !decide (i > 0), !decide (i > 0), !decide ((c.line i.toNat).st.entry > c.entries), !chk (c.line i.toNat).st != 0, isV (spT (c.line i.toNat).st) (spT (c.line i.toNat).st), decide ((c.line i.toNat).st.n ≤ 281474976710656), true, true, decide (0 ≤ i), decide (i < (↑c.n : Int)), true]
theorem w20_s_26 (c : Ct) (i : Int) : outK prog f20 20 [] (runK prog D9 F0 2000 (.code (bodyOf f20)) [] 0 ([ctT c, .int .i64 i] ++ List.replicate 95 undefT) ⟨0, []⟩ (bt 38 274844352512) [])
    = some (OutT.done (some (T.int .i64 10)), g20_s_26 c i, { next := 0, objs := [] }, [], 0) := by kernel_rfl
noncomputable def g20_s_27 (c : Ct) (i : Int) : List Bool := [(c.line i.toNat).closed != 6, (c.line i.toNat).closed != 0, !(c.line i.toNat).fate != 4, (c.line i.toNat).closed != 0, (c.line i.toNat).closed != 5, !(c.line i.toNat).fate != 4, (c.line i.toNat).closed != 5, (c.line i.toNat).closed != 5, (c.line i.toNat).closed != 5, !(c.line i.toNat).fate != 4, !(c.line i.toNat).fate != 4, !(c.line i.toNat).fate != 4, !(c.line i.toNat).fate != 4, (c.line i.toNat).closed != 0, (c.line i.toNat).closed != 0, (c.line i.toNat).closed != 0, (c.line i.toNat).closed != 0, !decide ((c.line i.toNat).fate > 4), !decide ((c.line i.toNat).fate < 0), !decide ((c.line i.toNat).fate < 0), !decide ((c.line i.toNat).fate < 0), !decide ((c.line i.toNat).fate < 0), !decide ((c.line i.toNat).mass > 1099511627776), !decide ((c.line i.toNat).mass < 0), !decide ((c.line i.toNat).mass < 0), !decide ((c.line i.toNat).mass < 0), !decide ((c.line i.toNat).mass < 0), true, !decide (i > 0), !decide (i > 0), !decide (i > 0), !decide (i > 0), !decide (i > 0), !decide (i > 0), !decide (i > 0), !decide (i > 0), !decide (i > 0), !decide (i > 0), !decide (i > 0), !decide (i > 0), !decide ((c.line i.toNat).st.entry > c.entries), !chk (c.line i.toNat).st != 0, isV (spT (c.line i.toNat).st) (spT (c.line i.toNat).st), decide ((c.line i.toNat).st.n ≤ 281474976710656), true, true, decide (0 ≤ i), decide (i < (↑c.n : Int)), true]
theorem w20_s_27 (c : Ct) (i : Int) : outK prog f20 20 [] (runK prog D9 F0 2000 (.code (bodyOf f20)) [] 0 ([ctT c, .int .i64 i] ++ List.replicate 95 undefT) ⟨0, []⟩ (bt 42 3771484602368) [])
    = some (OutT.done (some (T.int .i64 10)), g20_s_27 c i, { next := 0, objs := [] }, [], 0) := by kernel_rfl
noncomputable def g20_s_28 (c : Ct) (i : Int) : List Bool := [true, !((c.line i.toNat).fate == 0) == ((c.line i.toNat).node == []), !((c.line i.toNat).fate == 0) == ((c.line i.toNat).node == []), !((c.line i.toNat).fate == 0) == ((c.line i.toNat).node == []), !((c.line i.toNat).fate == 0) == ((c.line i.toNat).node == []), !((c.line i.toNat).fate == 0) == ((c.line i.toNat).node == []), !((c.line i.toNat).fate == 0) == ((c.line i.toNat).node == []), !(c.line i.toNat).closed != 6, (c.line i.toNat).closed != 0, !(c.line i.toNat).fate != 4, (c.line i.toNat).closed != 0, (c.line i.toNat).closed != 5, !(c.line i.toNat).fate != 4, (c.line i.toNat).closed != 5, (c.line i.toNat).closed != 5, (c.line i.toNat).closed != 5, !(c.line i.toNat).fate != 4, !(c.line i.toNat).fate != 4, !(c.line i.toNat).fate != 4, !(c.line i.toNat).fate != 4, (c.line i.toNat).closed != 0, (c.line i.toNat).closed != 0, (c.line i.toNat).closed != 0, (c.line i.toNat).closed != 0, !decide ((c.line i.toNat).fate > 4), !decide ((c.line i.toNat).fate < 0), !decide ((c.line i.toNat).fate < 0), !decide ((c.line i.toNat).fate < 0), !decide ((c.line i.toNat).fate < 0), !decide ((c.line i.toNat).mass > 1099511627776), !decide ((c.line i.toNat).mass < 0), !decide ((c.line i.toNat).mass < 0), !decide ((c.line i.toNat).mass < 0), !decide ((c.line i.toNat).mass < 0), true, !decide (i > 0), !decide (i > 0), !decide (i > 0), !decide (i > 0), !decide (i > 0), !decide (i > 0), !decide (i > 0), !decide (i > 0), !decide (i > 0), !decide (i > 0), !decide (i > 0), !decide (i > 0), !decide ((c.line i.toNat).st.entry > c.entries), !chk (c.line i.toNat).st != 0, isV (spT (c.line i.toNat).st) (spT (c.line i.toNat).st), decide ((c.line i.toNat).st.n ≤ 281474976710656), true, true, decide (0 ≤ i), decide (i < (↑c.n : Int)), true]
theorem w20_s_28 (c : Ct) (i : Int) : outK prog f20 20 [] (runK prog D9 F0 2000 (.code (bodyOf f20)) [] 0 ([ctT c, .int .i64 i] ++ List.replicate 95 undefT) ⟨0, []⟩ (bt 49 560124368257024) [])
    = some (OutT.done (some (T.int .i64 12)), g20_s_28 c i, { next := 0, objs := [] }, [], 0) := by kernel_rfl
noncomputable def g20_s_29 (c : Ct) (i : Int) : List Bool := [!isName (c.line i.toNat).node, !!((c.line i.toNat).fate == 0) == ((c.line i.toNat).node == []), (c.line i.toNat).fate != 0, !!((c.line i.toNat).fate == 0) == ((c.line i.toNat).node == []), (c.line i.toNat).fate != 0, isV (T.str (c.line i.toNat).node) (T.str (c.line i.toNat).node), (c.line i.toNat).fate != 0, (c.line i.toNat).fate != 0, (c.line i.toNat).fate != 0, !!((c.line i.toNat).fate == 0) == ((c.line i.toNat).node == []), !!((c.line i.toNat).fate == 0) == ((c.line i.toNat).node == []), !!((c.line i.toNat).fate == 0) == ((c.line i.toNat).node == []), !!((c.line i.toNat).fate == 0) == ((c.line i.toNat).node == []), !(c.line i.toNat).closed != 6, (c.line i.toNat).closed != 0, !(c.line i.toNat).fate != 4, (c.line i.toNat).closed != 0, (c.line i.toNat).closed != 5, !(c.line i.toNat).fate != 4, (c.line i.toNat).closed != 5, (c.line i.toNat).closed != 5, (c.line i.toNat).closed != 5, !(c.line i.toNat).fate != 4, !(c.line i.toNat).fate != 4, !(c.line i.toNat).fate != 4, !(c.line i.toNat).fate != 4, (c.line i.toNat).closed != 0, (c.line i.toNat).closed != 0, (c.line i.toNat).closed != 0, (c.line i.toNat).closed != 0, !decide ((c.line i.toNat).fate > 4), !decide ((c.line i.toNat).fate < 0), !decide ((c.line i.toNat).fate < 0), !decide ((c.line i.toNat).fate < 0), !decide ((c.line i.toNat).fate < 0), !decide ((c.line i.toNat).mass > 1099511627776), !decide ((c.line i.toNat).mass < 0), !decide ((c.line i.toNat).mass < 0), !decide ((c.line i.toNat).mass < 0), !decide ((c.line i.toNat).mass < 0), true, !decide (i > 0), !decide (i > 0), !decide (i > 0), !decide (i > 0), !decide (i > 0), !decide (i > 0), !decide (i > 0), !decide (i > 0), !decide (i > 0), !decide (i > 0), !decide (i > 0), !decide (i > 0), !decide ((c.line i.toNat).st.entry > c.entries), !chk (c.line i.toNat).st != 0, isV (spT (c.line i.toNat).st) (spT (c.line i.toNat).st), decide ((c.line i.toNat).st.n ≤ 281474976710656), true, true, decide (0 ≤ i), decide (i < (↑c.n : Int)), true]
theorem w20_s_29 (c : Ct) (i : Int) : outK prog f20 20 [] (runK prog D9 F0 2000 (.code (bodyOf f20)) [] 0 ([ctT c, .int .i64 i] ++ List.replicate 95 undefT) ⟨0, []⟩ (bt 54 12316102692438016) [])
    = some (OutT.done (some (T.int .i64 12)), g20_s_29 c i, { next := 0, objs := [] }, [], 0) := by kernel_rfl
noncomputable def g20_s_30 (c : Ct) (i : Int) : List Bool := [!!isName (c.line i.toNat).node, !!((c.line i.toNat).fate == 0) == ((c.line i.toNat).node == []), (c.line i.toNat).fate != 0, !!((c.line i.toNat).fate == 0) == ((c.line i.toNat).node == []), (c.line i.toNat).fate != 0, isV (T.str (c.line i.toNat).node) (T.str (c.line i.toNat).node), (c.line i.toNat).fate != 0, (c.line i.toNat).fate != 0, (c.line i.toNat).fate != 0, !!((c.line i.toNat).fate == 0) == ((c.line i.toNat).node == []), !!((c.line i.toNat).fate == 0) == ((c.line i.toNat).node == []), !!((c.line i.toNat).fate == 0) == ((c.line i.toNat).node == []), !!((c.line i.toNat).fate == 0) == ((c.line i.toNat).node == []), !(c.line i.toNat).closed != 6, (c.line i.toNat).closed != 0, !(c.line i.toNat).fate != 4, (c.line i.toNat).closed != 0, (c.line i.toNat).closed != 5, !(c.line i.toNat).fate != 4, (c.line i.toNat).closed != 5, (c.line i.toNat).closed != 5, (c.line i.toNat).closed != 5, !(c.line i.toNat).fate != 4, !(c.line i.toNat).fate != 4, !(c.line i.toNat).fate != 4, !(c.line i.toNat).fate != 4, (c.line i.toNat).closed != 0, (c.line i.toNat).closed != 0, (c.line i.toNat).closed != 0, (c.line i.toNat).closed != 0, !decide ((c.line i.toNat).fate > 4), !decide ((c.line i.toNat).fate < 0), !decide ((c.line i.toNat).fate < 0), !decide ((c.line i.toNat).fate < 0), !decide ((c.line i.toNat).fate < 0), !decide ((c.line i.toNat).mass > 1099511627776), !decide ((c.line i.toNat).mass < 0), !decide ((c.line i.toNat).mass < 0), !decide ((c.line i.toNat).mass < 0), !decide ((c.line i.toNat).mass < 0), true, !decide (i > 0), !decide (i > 0), !decide (i > 0), !decide (i > 0), !decide (i > 0), !decide (i > 0), !decide (i > 0), !decide (i > 0), !decide (i > 0), !decide (i > 0), !decide (i > 0), !decide (i > 0), !decide ((c.line i.toNat).st.entry > c.entries), !chk (c.line i.toNat).st != 0, isV (spT (c.line i.toNat).st) (spT (c.line i.toNat).st), decide ((c.line i.toNat).st.n ≤ 281474976710656), true, true, decide (0 ≤ i), decide (i < (↑c.n : Int)), true]
theorem w20_s_30 (c : Ct) (i : Int) : outK prog f20 20 [] (runK prog D9 F0 2000 (.code (bodyOf f20)) [] 0 ([ctT c, .int .i64 i] ++ List.replicate 95 undefT) ⟨0, []⟩ (bt 54 3308903437697024) [])
    = some (OutT.done (some (T.int .i64 0)), g20_s_30 c i, { next := 0, objs := [] }, [], 0) := by kernel_rfl
noncomputable def g20_s_31 (c : Ct) (i : Int) : List Bool := [true, !!((c.line i.toNat).fate == 0) == ((c.line i.toNat).node == []), !(c.line i.toNat).fate != 0, !!((c.line i.toNat).fate == 0) == ((c.line i.toNat).node == []), !(c.line i.toNat).fate != 0, !(c.line i.toNat).fate != 0, !(c.line i.toNat).fate != 0, !(c.line i.toNat).fate != 0, !!((c.line i.toNat).fate == 0) == ((c.line i.toNat).node == []), !!((c.line i.toNat).fate == 0) == ((c.line i.toNat).node == []), !!((c.line i.toNat).fate == 0) == ((c.line i.toNat).node == []), !!((c.line i.toNat).fate == 0) == ((c.line i.toNat).node == []), !(c.line i.toNat).closed != 6, (c.line i.toNat).closed != 0, !(c.line i.toNat).fate != 4, (c.line i.toNat).closed != 0, (c.line i.toNat).closed != 5, !(c.line i.toNat).fate != 4, (c.line i.toNat).closed != 5, (c.line i.toNat).closed != 5, (c.line i.toNat).closed != 5, !(c.line i.toNat).fate != 4, !(c.line i.toNat).fate != 4, !(c.line i.toNat).fate != 4, !(c.line i.toNat).fate != 4, (c.line i.toNat).closed != 0, (c.line i.toNat).closed != 0, (c.line i.toNat).closed != 0, (c.line i.toNat).closed != 0, !decide ((c.line i.toNat).fate > 4), !decide ((c.line i.toNat).fate < 0), !decide ((c.line i.toNat).fate < 0), !decide ((c.line i.toNat).fate < 0), !decide ((c.line i.toNat).fate < 0), !decide ((c.line i.toNat).mass > 1099511627776), !decide ((c.line i.toNat).mass < 0), !decide ((c.line i.toNat).mass < 0), !decide ((c.line i.toNat).mass < 0), !decide ((c.line i.toNat).mass < 0), true, !decide (i > 0), !decide (i > 0), !decide (i > 0), !decide (i > 0), !decide (i > 0), !decide (i > 0), !decide (i > 0), !decide (i > 0), !decide (i > 0), !decide (i > 0), !decide (i > 0), !decide (i > 0), !decide ((c.line i.toNat).st.entry > c.entries), !chk (c.line i.toNat).st != 0, isV (spT (c.line i.toNat).st) (spT (c.line i.toNat).st), decide ((c.line i.toNat).st.n ≤ 281474976710656), true, true, decide (0 ≤ i), decide (i < (↑c.n : Int)), true]
theorem w20_s_31 (c : Ct) (i : Int) : outK prog f20 20 [] (runK prog D9 F0 2000 (.code (bodyOf f20)) [] 0 ([ctT c, .int .i64 i] ++ List.replicate 95 undefT) ⟨0, []⟩ (bt 54 1572461346816) [])
    = some (OutT.done (some (T.int .i64 0)), g20_s_31 c i, { next := 0, objs := [] }, [], 0) := by kernel_rfl
noncomputable def g20_s_32 (c : Ct) (i : Int) : List Bool := [true, !((c.line i.toNat).fate == 0) == ((c.line i.toNat).node == []), !((c.line i.toNat).fate == 0) == ((c.line i.toNat).node == []), !((c.line i.toNat).fate == 0) == ((c.line i.toNat).node == []), !((c.line i.toNat).fate == 0) == ((c.line i.toNat).node == []), !((c.line i.toNat).fate == 0) == ((c.line i.toNat).node == []), !((c.line i.toNat).fate == 0) == ((c.line i.toNat).node == []), true, (c.line i.toNat).closed != 0, !(c.line i.toNat).fate != 4, (c.line i.toNat).closed != 0, !(c.line i.toNat).closed != 5, !(c.line i.toNat).fate != 4, !(c.line i.toNat).closed != 5, !(c.line i.toNat).closed != 5, !(c.line i.toNat).closed != 5, !(c.line i.toNat).fate != 4, !(c.line i.toNat).fate != 4, !(c.line i.toNat).fate != 4, !(c.line i.toNat).fate != 4, (c.line i.toNat).closed != 0, (c.line i.toNat).closed != 0, (c.line i.toNat).closed != 0, (c.line i.toNat).closed != 0, !decide ((c.line i.toNat).fate > 4), !decide ((c.line i.toNat).fate < 0), !decide ((c.line i.toNat).fate < 0), !decide ((c.line i.toNat).fate < 0), !decide ((c.line i.toNat).fate < 0), !decide ((c.line i.toNat).mass > 1099511627776), !decide ((c.line i.toNat).mass < 0), !decide ((c.line i.toNat).mass < 0), !decide ((c.line i.toNat).mass < 0), !decide ((c.line i.toNat).mass < 0), true, !decide (i > 0), !decide (i > 0), !decide (i > 0), !decide (i > 0), !decide (i > 0), !decide (i > 0), !decide (i > 0), !decide (i > 0), !decide (i > 0), !decide (i > 0), !decide (i > 0), !decide (i > 0), !decide ((c.line i.toNat).st.entry > c.entries), !chk (c.line i.toNat).st != 0, isV (spT (c.line i.toNat).st) (spT (c.line i.toNat).st), decide ((c.line i.toNat).st.n ≤ 281474976710656), true, true, decide (0 ≤ i), decide (i < (↑c.n : Int)), true]
theorem w20_s_32 (c : Ct) (i : Int) : outK prog f20 20 [] (runK prog D9 F0 2000 (.code (bodyOf f20)) [] 0 ([ctT c, .int .i64 i] ++ List.replicate 95 undefT) ⟨0, []⟩ (bt 49 559926799761408) [])
    = some (OutT.done (some (T.int .i64 12)), g20_s_32 c i, { next := 0, objs := [] }, [], 0) := by kernel_rfl
noncomputable def g20_s_33 (c : Ct) (i : Int) : List Bool := [!isName (c.line i.toNat).node, !!((c.line i.toNat).fate == 0) == ((c.line i.toNat).node == []), (c.line i.toNat).fate != 0, !!((c.line i.toNat).fate == 0) == ((c.line i.toNat).node == []), (c.line i.toNat).fate != 0, isV (T.str (c.line i.toNat).node) (T.str (c.line i.toNat).node), (c.line i.toNat).fate != 0, (c.line i.toNat).fate != 0, (c.line i.toNat).fate != 0, !!((c.line i.toNat).fate == 0) == ((c.line i.toNat).node == []), !!((c.line i.toNat).fate == 0) == ((c.line i.toNat).node == []), !!((c.line i.toNat).fate == 0) == ((c.line i.toNat).node == []), !!((c.line i.toNat).fate == 0) == ((c.line i.toNat).node == []), true, (c.line i.toNat).closed != 0, !(c.line i.toNat).fate != 4, (c.line i.toNat).closed != 0, !(c.line i.toNat).closed != 5, !(c.line i.toNat).fate != 4, !(c.line i.toNat).closed != 5, !(c.line i.toNat).closed != 5, !(c.line i.toNat).closed != 5, !(c.line i.toNat).fate != 4, !(c.line i.toNat).fate != 4, !(c.line i.toNat).fate != 4, !(c.line i.toNat).fate != 4, (c.line i.toNat).closed != 0, (c.line i.toNat).closed != 0, (c.line i.toNat).closed != 0, (c.line i.toNat).closed != 0, !decide ((c.line i.toNat).fate > 4), !decide ((c.line i.toNat).fate < 0), !decide ((c.line i.toNat).fate < 0), !decide ((c.line i.toNat).fate < 0), !decide ((c.line i.toNat).fate < 0), !decide ((c.line i.toNat).mass > 1099511627776), !decide ((c.line i.toNat).mass < 0), !decide ((c.line i.toNat).mass < 0), !decide ((c.line i.toNat).mass < 0), !decide ((c.line i.toNat).mass < 0), true, !decide (i > 0), !decide (i > 0), !decide (i > 0), !decide (i > 0), !decide (i > 0), !decide (i > 0), !decide (i > 0), !decide (i > 0), !decide (i > 0), !decide (i > 0), !decide (i > 0), !decide (i > 0), !decide ((c.line i.toNat).st.entry > c.entries), !chk (c.line i.toNat).st != 0, isV (spT (c.line i.toNat).st) (spT (c.line i.toNat).st), decide ((c.line i.toNat).st.n ≤ 281474976710656), true, true, decide (0 ≤ i), decide (i < (↑c.n : Int)), true]
theorem w20_s_33 (c : Ct) (i : Int) : outK prog f20 20 [] (runK prog D9 F0 2000 (.code (bodyOf f20)) [] 0 ([ctT c, .int .i64 i] ++ List.replicate 95 undefT) ⟨0, []⟩ (bt 54 12315905123942400) [])
    = some (OutT.done (some (T.int .i64 12)), g20_s_33 c i, { next := 0, objs := [] }, [], 0) := by kernel_rfl
noncomputable def g20_s_34 (c : Ct) (i : Int) : List Bool := [!!isName (c.line i.toNat).node, !!((c.line i.toNat).fate == 0) == ((c.line i.toNat).node == []), (c.line i.toNat).fate != 0, !!((c.line i.toNat).fate == 0) == ((c.line i.toNat).node == []), (c.line i.toNat).fate != 0, isV (T.str (c.line i.toNat).node) (T.str (c.line i.toNat).node), (c.line i.toNat).fate != 0, (c.line i.toNat).fate != 0, (c.line i.toNat).fate != 0, !!((c.line i.toNat).fate == 0) == ((c.line i.toNat).node == []), !!((c.line i.toNat).fate == 0) == ((c.line i.toNat).node == []), !!((c.line i.toNat).fate == 0) == ((c.line i.toNat).node == []), !!((c.line i.toNat).fate == 0) == ((c.line i.toNat).node == []), true, (c.line i.toNat).closed != 0, !(c.line i.toNat).fate != 4, (c.line i.toNat).closed != 0, !(c.line i.toNat).closed != 5, !(c.line i.toNat).fate != 4, !(c.line i.toNat).closed != 5, !(c.line i.toNat).closed != 5, !(c.line i.toNat).closed != 5, !(c.line i.toNat).fate != 4, !(c.line i.toNat).fate != 4, !(c.line i.toNat).fate != 4, !(c.line i.toNat).fate != 4, (c.line i.toNat).closed != 0, (c.line i.toNat).closed != 0, (c.line i.toNat).closed != 0, (c.line i.toNat).closed != 0, !decide ((c.line i.toNat).fate > 4), !decide ((c.line i.toNat).fate < 0), !decide ((c.line i.toNat).fate < 0), !decide ((c.line i.toNat).fate < 0), !decide ((c.line i.toNat).fate < 0), !decide ((c.line i.toNat).mass > 1099511627776), !decide ((c.line i.toNat).mass < 0), !decide ((c.line i.toNat).mass < 0), !decide ((c.line i.toNat).mass < 0), !decide ((c.line i.toNat).mass < 0), true, !decide (i > 0), !decide (i > 0), !decide (i > 0), !decide (i > 0), !decide (i > 0), !decide (i > 0), !decide (i > 0), !decide (i > 0), !decide (i > 0), !decide (i > 0), !decide (i > 0), !decide (i > 0), !decide ((c.line i.toNat).st.entry > c.entries), !chk (c.line i.toNat).st != 0, isV (spT (c.line i.toNat).st) (spT (c.line i.toNat).st), decide ((c.line i.toNat).st.n ≤ 281474976710656), true, true, decide (0 ≤ i), decide (i < (↑c.n : Int)), true]
theorem w20_s_34 (c : Ct) (i : Int) : outK prog f20 20 [] (runK prog D9 F0 2000 (.code (bodyOf f20)) [] 0 ([ctT c, .int .i64 i] ++ List.replicate 95 undefT) ⟨0, []⟩ (bt 54 3308705869201408) [])
    = some (OutT.done (some (T.int .i64 0)), g20_s_34 c i, { next := 0, objs := [] }, [], 0) := by kernel_rfl
noncomputable def g20_s_35 (c : Ct) (i : Int) : List Bool := [true, !!((c.line i.toNat).fate == 0) == ((c.line i.toNat).node == []), !(c.line i.toNat).fate != 0, !!((c.line i.toNat).fate == 0) == ((c.line i.toNat).node == []), !(c.line i.toNat).fate != 0, !(c.line i.toNat).fate != 0, !(c.line i.toNat).fate != 0, !(c.line i.toNat).fate != 0, !!((c.line i.toNat).fate == 0) == ((c.line i.toNat).node == []), !!((c.line i.toNat).fate == 0) == ((c.line i.toNat).node == []), !!((c.line i.toNat).fate == 0) == ((c.line i.toNat).node == []), !!((c.line i.toNat).fate == 0) == ((c.line i.toNat).node == []), true, (c.line i.toNat).closed != 0, !(c.line i.toNat).fate != 4, (c.line i.toNat).closed != 0, !(c.line i.toNat).closed != 5, !(c.line i.toNat).fate != 4, !(c.line i.toNat).closed != 5, !(c.line i.toNat).closed != 5, !(c.line i.toNat).closed != 5, !(c.line i.toNat).fate != 4, !(c.line i.toNat).fate != 4, !(c.line i.toNat).fate != 4, !(c.line i.toNat).fate != 4, (c.line i.toNat).closed != 0, (c.line i.toNat).closed != 0, (c.line i.toNat).closed != 0, (c.line i.toNat).closed != 0, !decide ((c.line i.toNat).fate > 4), !decide ((c.line i.toNat).fate < 0), !decide ((c.line i.toNat).fate < 0), !decide ((c.line i.toNat).fate < 0), !decide ((c.line i.toNat).fate < 0), !decide ((c.line i.toNat).mass > 1099511627776), !decide ((c.line i.toNat).mass < 0), !decide ((c.line i.toNat).mass < 0), !decide ((c.line i.toNat).mass < 0), !decide ((c.line i.toNat).mass < 0), true, !decide (i > 0), !decide (i > 0), !decide (i > 0), !decide (i > 0), !decide (i > 0), !decide (i > 0), !decide (i > 0), !decide (i > 0), !decide (i > 0), !decide (i > 0), !decide (i > 0), !decide (i > 0), !decide ((c.line i.toNat).st.entry > c.entries), !chk (c.line i.toNat).st != 0, isV (spT (c.line i.toNat).st) (spT (c.line i.toNat).st), decide ((c.line i.toNat).st.n ≤ 281474976710656), true, true, decide (0 ≤ i), decide (i < (↑c.n : Int)), true]
theorem w20_s_35 (c : Ct) (i : Int) : outK prog f20 20 [] (runK prog D9 F0 2000 (.code (bodyOf f20)) [] 0 ([ctT c, .int .i64 i] ++ List.replicate 95 undefT) ⟨0, []⟩ (bt 54 1374892851200) [])
    = some (OutT.done (some (T.int .i64 0)), g20_s_35 c i, { next := 0, objs := [] }, [], 0) := by kernel_rfl
noncomputable def g20_s_36 (c : Ct) (i : Int) : List Bool := [true, !((c.line i.toNat).fate == 0) == ((c.line i.toNat).node == []), !((c.line i.toNat).fate == 0) == ((c.line i.toNat).node == []), !((c.line i.toNat).fate == 0) == ((c.line i.toNat).node == []), !((c.line i.toNat).fate == 0) == ((c.line i.toNat).node == []), !((c.line i.toNat).fate == 0) == ((c.line i.toNat).node == []), !((c.line i.toNat).fate == 0) == ((c.line i.toNat).node == []), true, !(c.line i.toNat).closed != 0, !(c.line i.toNat).closed != 0, !(c.line i.toNat).closed != 0, !(c.line i.toNat).closed != 0, !(c.line i.toNat).closed != 0, !(c.line i.toNat).closed != 0, !decide ((c.line i.toNat).fate > 4), !decide ((c.line i.toNat).fate < 0), !decide ((c.line i.toNat).fate < 0), !decide ((c.line i.toNat).fate < 0), !decide ((c.line i.toNat).fate < 0), !decide ((c.line i.toNat).mass > 1099511627776), !decide ((c.line i.toNat).mass < 0), !decide ((c.line i.toNat).mass < 0), !decide ((c.line i.toNat).mass < 0), !decide ((c.line i.toNat).mass < 0), true, !decide (i > 0), !decide (i > 0), !decide (i > 0), !decide (i > 0), !decide (i > 0), !decide (i > 0), !decide (i > 0), !decide (i > 0), !decide (i > 0), !decide (i > 0), !decide (i > 0), !decide (i > 0), !decide ((c.line i.toNat).st.entry > c.entries), !chk (c.line i.toNat).st != 0, isV (spT (c.line i.toNat).st) (spT (c.line i.toNat).st), decide ((c.line i.toNat).st.n ≤ 281474976710656), true, true, decide (0 ≤ i), decide (i < (↑c.n : Int)), true]
theorem w20_s_36 (c : Ct) (i : Int) : outK prog f20 20 [] (runK prog D9 F0 2000 (.code (bodyOf f20)) [] 0 ([ctT c, .int .i64 i] ++ List.replicate 95 undefT) ⟨0, []⟩ (bt 39 545460846592) [])
    = some (OutT.done (some (T.int .i64 12)), g20_s_36 c i, { next := 0, objs := [] }, [], 0) := by kernel_rfl
noncomputable def g20_s_37 (c : Ct) (i : Int) : List Bool := [!isName (c.line i.toNat).node, !!((c.line i.toNat).fate == 0) == ((c.line i.toNat).node == []), (c.line i.toNat).fate != 0, !!((c.line i.toNat).fate == 0) == ((c.line i.toNat).node == []), (c.line i.toNat).fate != 0, isV (T.str (c.line i.toNat).node) (T.str (c.line i.toNat).node), (c.line i.toNat).fate != 0, (c.line i.toNat).fate != 0, (c.line i.toNat).fate != 0, !!((c.line i.toNat).fate == 0) == ((c.line i.toNat).node == []), !!((c.line i.toNat).fate == 0) == ((c.line i.toNat).node == []), !!((c.line i.toNat).fate == 0) == ((c.line i.toNat).node == []), !!((c.line i.toNat).fate == 0) == ((c.line i.toNat).node == []), true, !(c.line i.toNat).closed != 0, !(c.line i.toNat).closed != 0, !(c.line i.toNat).closed != 0, !(c.line i.toNat).closed != 0, !(c.line i.toNat).closed != 0, !(c.line i.toNat).closed != 0, !decide ((c.line i.toNat).fate > 4), !decide ((c.line i.toNat).fate < 0), !decide ((c.line i.toNat).fate < 0), !decide ((c.line i.toNat).fate < 0), !decide ((c.line i.toNat).fate < 0), !decide ((c.line i.toNat).mass > 1099511627776), !decide ((c.line i.toNat).mass < 0), !decide ((c.line i.toNat).mass < 0), !decide ((c.line i.toNat).mass < 0), !decide ((c.line i.toNat).mass < 0), true, !decide (i > 0), !decide (i > 0), !decide (i > 0), !decide (i > 0), !decide (i > 0), !decide (i > 0), !decide (i > 0), !decide (i > 0), !decide (i > 0), !decide (i > 0), !decide (i > 0), !decide (i > 0), !decide ((c.line i.toNat).st.entry > c.entries), !chk (c.line i.toNat).st != 0, isV (spT (c.line i.toNat).st) (spT (c.line i.toNat).st), decide ((c.line i.toNat).st.n ≤ 281474976710656), true, true, decide (0 ≤ i), decide (i < (↑c.n : Int)), true]
theorem w20_s_37 (c : Ct) (i : Int) : outK prog f20 20 [] (runK prog D9 F0 2000 (.code (bodyOf f20)) [] 0 ([ctT c, .int .i64 i] ++ List.replicate 95 undefT) ⟨0, []⟩ (bt 44 12025908428800) [])
    = some (OutT.done (some (T.int .i64 12)), g20_s_37 c i, { next := 0, objs := [] }, [], 0) := by kernel_rfl
noncomputable def g20_s_38 (c : Ct) (i : Int) : List Bool := [!!isName (c.line i.toNat).node, !!((c.line i.toNat).fate == 0) == ((c.line i.toNat).node == []), (c.line i.toNat).fate != 0, !!((c.line i.toNat).fate == 0) == ((c.line i.toNat).node == []), (c.line i.toNat).fate != 0, isV (T.str (c.line i.toNat).node) (T.str (c.line i.toNat).node), (c.line i.toNat).fate != 0, (c.line i.toNat).fate != 0, (c.line i.toNat).fate != 0, !!((c.line i.toNat).fate == 0) == ((c.line i.toNat).node == []), !!((c.line i.toNat).fate == 0) == ((c.line i.toNat).node == []), !!((c.line i.toNat).fate == 0) == ((c.line i.toNat).node == []), !!((c.line i.toNat).fate == 0) == ((c.line i.toNat).node == []), true, !(c.line i.toNat).closed != 0, !(c.line i.toNat).closed != 0, !(c.line i.toNat).closed != 0, !(c.line i.toNat).closed != 0, !(c.line i.toNat).closed != 0, !(c.line i.toNat).closed != 0, !decide ((c.line i.toNat).fate > 4), !decide ((c.line i.toNat).fate < 0), !decide ((c.line i.toNat).fate < 0), !decide ((c.line i.toNat).fate < 0), !decide ((c.line i.toNat).fate < 0), !decide ((c.line i.toNat).mass > 1099511627776), !decide ((c.line i.toNat).mass < 0), !decide ((c.line i.toNat).mass < 0), !decide ((c.line i.toNat).mass < 0), !decide ((c.line i.toNat).mass < 0), true, !decide (i > 0), !decide (i > 0), !decide (i > 0), !decide (i > 0), !decide (i > 0), !decide (i > 0), !decide (i > 0), !decide (i > 0), !decide (i > 0), !decide (i > 0), !decide (i > 0), !decide (i > 0), !decide ((c.line i.toNat).st.entry > c.entries), !chk (c.line i.toNat).st != 0, isV (spT (c.line i.toNat).st) (spT (c.line i.toNat).st), decide ((c.line i.toNat).st.n ≤ 281474976710656), true, true, decide (0 ≤ i), decide (i < (↑c.n : Int)), true]
theorem w20_s_38 (c : Ct) (i : Int) : outK prog f20 20 [] (runK prog D9 F0 2000 (.code (bodyOf f20)) [] 0 ([ctT c, .int .i64 i] ++ List.replicate 95 undefT) ⟨0, []⟩ (bt 44 3229815406592) [])
    = some (OutT.done (some (T.int .i64 0)), g20_s_38 c i, { next := 0, objs := [] }, [], 0) := by kernel_rfl
noncomputable def g20_s_39 (c : Ct) (i : Int) : List Bool := [true, !!((c.line i.toNat).fate == 0) == ((c.line i.toNat).node == []), !(c.line i.toNat).fate != 0, !!((c.line i.toNat).fate == 0) == ((c.line i.toNat).node == []), !(c.line i.toNat).fate != 0, !(c.line i.toNat).fate != 0, !(c.line i.toNat).fate != 0, !(c.line i.toNat).fate != 0, !!((c.line i.toNat).fate == 0) == ((c.line i.toNat).node == []), !!((c.line i.toNat).fate == 0) == ((c.line i.toNat).node == []), !!((c.line i.toNat).fate == 0) == ((c.line i.toNat).node == []), !!((c.line i.toNat).fate == 0) == ((c.line i.toNat).node == []), true, !(c.line i.toNat).closed != 0, !(c.line i.toNat).closed != 0, !(c.line i.toNat).closed != 0, !(c.line i.toNat).closed != 0, !(c.line i.toNat).closed != 0, !(c.line i.toNat).closed != 0, !decide ((c.line i.toNat).fate > 4), !decide ((c.line i.toNat).fate < 0), !decide ((c.line i.toNat).fate < 0), !decide ((c.line i.toNat).fate < 0), !decide ((c.line i.toNat).fate < 0), !decide ((c.line i.toNat).mass > 1099511627776), !decide ((c.line i.toNat).mass < 0), !decide ((c.line i.toNat).mass < 0), !decide ((c.line i.toNat).mass < 0), !decide ((c.line i.toNat).mass < 0), true, !decide (i > 0), !decide (i > 0), !decide (i > 0), !decide (i > 0), !decide (i > 0), !decide (i > 0), !decide (i > 0), !decide (i > 0), !decide (i > 0), !decide (i > 0), !decide (i > 0), !decide (i > 0), !decide ((c.line i.toNat).st.entry > c.entries), !chk (c.line i.toNat).st != 0, isV (spT (c.line i.toNat).st) (spT (c.line i.toNat).st), decide ((c.line i.toNat).st.n ≤ 281474976710656), true, true, decide (0 ≤ i), decide (i < (↑c.n : Int)), true]
theorem w20_s_39 (c : Ct) (i : Int) : outK prog f20 20 [] (runK prog D9 F0 2000 (.code (bodyOf f20)) [] 0 ([ctT c, .int .i64 i] ++ List.replicate 95 undefT) ⟨0, []⟩ (bt 44 0) [])
    = some (OutT.done (some (T.int .i64 0)), g20_s_39 c i, { next := 0, objs := [] }, [], 0) := by kernel_rfl
noncomputable def o20 (c : Ct) (i : Int) : Option (Empty ⊕ T) :=
  (if chk (c.line i.toNat).st != 0 then (if allT (g20_s_1 c i) then some (.inr ((T.int .i64 (chk (c.line i.toNat).st)))) else none) else (if decide ((c.line i.toNat).st.entry > c.entries) then (if allT (g20_s_2 c i) then some (.inr ((T.int .i64 2))) else none) else (if decide (i > 0) then (if decide (cmpS (c.line (IntKind.i64.wrap (i - 1)).toNat).st (c.line i.toNat).st ≥ 0) then (if allT (g20_s_3 c i) then some (.inr ((T.int .i64 24))) else none) else (if decide ((c.line i.toNat).mass < 0) then (if allT (g20_s_4 c i) then some (.inr ((T.int .i64 38))) else none) else (if decide ((c.line i.toNat).mass > 1099511627776) then (if allT (g20_s_5 c i) then some (.inr ((T.int .i64 38))) else none) else (if decide ((c.line i.toNat).fate < 0) then (if allT (g20_s_6 c i) then some (.inr ((T.int .i64 11))) else none) else (if decide ((c.line i.toNat).fate > 4) then (if allT (g20_s_7 c i) then some (.inr ((T.int .i64 11))) else none) else (if (c.line i.toNat).closed != 0 then (if (c.line i.toNat).fate != 4 then (if allT (g20_s_8 c i) then some (.inr ((T.int .i64 10))) else none) else (if (c.line i.toNat).closed != 5 then (if (c.line i.toNat).closed != 6 then (if allT (g20_s_9 c i) then some (.inr ((T.int .i64 10))) else none) else (if !((c.line i.toNat).fate == 0) == ((c.line i.toNat).node == []) then (if allT (g20_s_10 c i) then some (.inr ((T.int .i64 12))) else none) else (if (c.line i.toNat).fate != 0 then (if !isName (c.line i.toNat).node then (if allT (g20_s_11 c i) then some (.inr ((T.int .i64 12))) else none) else (if allT (g20_s_12 c i) then some (.inr ((T.int .i64 0))) else none)) else (if allT (g20_s_13 c i) then some (.inr ((T.int .i64 0))) else none)))) else (if !((c.line i.toNat).fate == 0) == ((c.line i.toNat).node == []) then (if allT (g20_s_14 c i) then some (.inr ((T.int .i64 12))) else none) else (if (c.line i.toNat).fate != 0 then (if !isName (c.line i.toNat).node then (if allT (g20_s_15 c i) then some (.inr ((T.int .i64 12))) else none) else (if allT (g20_s_16 c i) then some (.inr ((T.int .i64 0))) else none)) else (if allT (g20_s_17 c i) then some (.inr ((T.int .i64 0))) else none))))) else (if !((c.line i.toNat).fate == 0) == ((c.line i.toNat).node == []) then (if allT (g20_s_18 c i) then some (.inr ((T.int .i64 12))) else none) else (if (c.line i.toNat).fate != 0 then (if !isName (c.line i.toNat).node then (if allT (g20_s_19 c i) then some (.inr ((T.int .i64 12))) else none) else (if allT (g20_s_20 c i) then some (.inr ((T.int .i64 0))) else none)) else (if allT (g20_s_21 c i) then some (.inr ((T.int .i64 0))) else none))))))))) else (if decide ((c.line i.toNat).mass < 0) then (if allT (g20_s_22 c i) then some (.inr ((T.int .i64 38))) else none) else (if decide ((c.line i.toNat).mass > 1099511627776) then (if allT (g20_s_23 c i) then some (.inr ((T.int .i64 38))) else none) else (if decide ((c.line i.toNat).fate < 0) then (if allT (g20_s_24 c i) then some (.inr ((T.int .i64 11))) else none) else (if decide ((c.line i.toNat).fate > 4) then (if allT (g20_s_25 c i) then some (.inr ((T.int .i64 11))) else none) else (if (c.line i.toNat).closed != 0 then (if (c.line i.toNat).fate != 4 then (if allT (g20_s_26 c i) then some (.inr ((T.int .i64 10))) else none) else (if (c.line i.toNat).closed != 5 then (if (c.line i.toNat).closed != 6 then (if allT (g20_s_27 c i) then some (.inr ((T.int .i64 10))) else none) else (if !((c.line i.toNat).fate == 0) == ((c.line i.toNat).node == []) then (if allT (g20_s_28 c i) then some (.inr ((T.int .i64 12))) else none) else (if (c.line i.toNat).fate != 0 then (if !isName (c.line i.toNat).node then (if allT (g20_s_29 c i) then some (.inr ((T.int .i64 12))) else none) else (if allT (g20_s_30 c i) then some (.inr ((T.int .i64 0))) else none)) else (if allT (g20_s_31 c i) then some (.inr ((T.int .i64 0))) else none)))) else (if !((c.line i.toNat).fate == 0) == ((c.line i.toNat).node == []) then (if allT (g20_s_32 c i) then some (.inr ((T.int .i64 12))) else none) else (if (c.line i.toNat).fate != 0 then (if !isName (c.line i.toNat).node then (if allT (g20_s_33 c i) then some (.inr ((T.int .i64 12))) else none) else (if allT (g20_s_34 c i) then some (.inr ((T.int .i64 0))) else none)) else (if allT (g20_s_35 c i) then some (.inr ((T.int .i64 0))) else none))))) else (if !((c.line i.toNat).fate == 0) == ((c.line i.toNat).node == []) then (if allT (g20_s_36 c i) then some (.inr ((T.int .i64 12))) else none) else (if (c.line i.toNat).fate != 0 then (if !isName (c.line i.toNat).node then (if allT (g20_s_37 c i) then some (.inr ((T.int .i64 12))) else none) else (if allT (g20_s_38 c i) then some (.inr ((T.int .i64 0))) else none)) else (if allT (g20_s_39 c i) then some (.inr ((T.int .i64 0))) else none)))))))))))
noncomputable def V20_s (c : Ct) (i : Int) : Empty ⊕ T :=
  (if chk (c.line i.toNat).st != 0 then (.inr ((T.int .i64 (chk (c.line i.toNat).st)))) else (if decide ((c.line i.toNat).st.entry > c.entries) then (.inr ((T.int .i64 2))) else (if decide (i > 0) then (if decide (cmpS (c.line (IntKind.i64.wrap (i - 1)).toNat).st (c.line i.toNat).st ≥ 0) then (.inr ((T.int .i64 24))) else (if decide ((c.line i.toNat).mass < 0) then (.inr ((T.int .i64 38))) else (if decide ((c.line i.toNat).mass > 1099511627776) then (.inr ((T.int .i64 38))) else (if decide ((c.line i.toNat).fate < 0) then (.inr ((T.int .i64 11))) else (if decide ((c.line i.toNat).fate > 4) then (.inr ((T.int .i64 11))) else (if (c.line i.toNat).closed != 0 then (if (c.line i.toNat).fate != 4 then (.inr ((T.int .i64 10))) else (if (c.line i.toNat).closed != 5 then (if (c.line i.toNat).closed != 6 then (.inr ((T.int .i64 10))) else (if !((c.line i.toNat).fate == 0) == ((c.line i.toNat).node == []) then (.inr ((T.int .i64 12))) else (if (c.line i.toNat).fate != 0 then (if !isName (c.line i.toNat).node then (.inr ((T.int .i64 12))) else (.inr ((T.int .i64 0)))) else (.inr ((T.int .i64 0)))))) else (if !((c.line i.toNat).fate == 0) == ((c.line i.toNat).node == []) then (.inr ((T.int .i64 12))) else (if (c.line i.toNat).fate != 0 then (if !isName (c.line i.toNat).node then (.inr ((T.int .i64 12))) else (.inr ((T.int .i64 0)))) else (.inr ((T.int .i64 0))))))) else (if !((c.line i.toNat).fate == 0) == ((c.line i.toNat).node == []) then (.inr ((T.int .i64 12))) else (if (c.line i.toNat).fate != 0 then (if !isName (c.line i.toNat).node then (.inr ((T.int .i64 12))) else (.inr ((T.int .i64 0)))) else (.inr ((T.int .i64 0))))))))))) else (if decide ((c.line i.toNat).mass < 0) then (.inr ((T.int .i64 38))) else (if decide ((c.line i.toNat).mass > 1099511627776) then (.inr ((T.int .i64 38))) else (if decide ((c.line i.toNat).fate < 0) then (.inr ((T.int .i64 11))) else (if decide ((c.line i.toNat).fate > 4) then (.inr ((T.int .i64 11))) else (if (c.line i.toNat).closed != 0 then (if (c.line i.toNat).fate != 4 then (.inr ((T.int .i64 10))) else (if (c.line i.toNat).closed != 5 then (if (c.line i.toNat).closed != 6 then (.inr ((T.int .i64 10))) else (if !((c.line i.toNat).fate == 0) == ((c.line i.toNat).node == []) then (.inr ((T.int .i64 12))) else (if (c.line i.toNat).fate != 0 then (if !isName (c.line i.toNat).node then (.inr ((T.int .i64 12))) else (.inr ((T.int .i64 0)))) else (.inr ((T.int .i64 0)))))) else (if !((c.line i.toNat).fate == 0) == ((c.line i.toNat).node == []) then (.inr ((T.int .i64 12))) else (if (c.line i.toNat).fate != 0 then (if !isName (c.line i.toNat).node then (.inr ((T.int .i64 12))) else (.inr ((T.int .i64 0)))) else (.inr ((T.int .i64 0))))))) else (if !((c.line i.toNat).fate == 0) == ((c.line i.toNat).node == []) then (.inr ((T.int .i64 12))) else (if (c.line i.toNat).fate != 0 then (if !isName (c.line i.toNat).node then (.inr ((T.int .i64 12))) else (.inr ((T.int .i64 0)))) else (.inr ((T.int .i64 0)))))))))))))
noncomputable def K20_s (c : Ct) (i : Int) : Bool :=
  (if chk (c.line i.toNat).st != 0 then (allT (g20_s_1 c i)) else (if decide ((c.line i.toNat).st.entry > c.entries) then (allT (g20_s_2 c i)) else (if decide (i > 0) then (if decide (cmpS (c.line (IntKind.i64.wrap (i - 1)).toNat).st (c.line i.toNat).st ≥ 0) then (allT (g20_s_3 c i)) else (if decide ((c.line i.toNat).mass < 0) then (allT (g20_s_4 c i)) else (if decide ((c.line i.toNat).mass > 1099511627776) then (allT (g20_s_5 c i)) else (if decide ((c.line i.toNat).fate < 0) then (allT (g20_s_6 c i)) else (if decide ((c.line i.toNat).fate > 4) then (allT (g20_s_7 c i)) else (if (c.line i.toNat).closed != 0 then (if (c.line i.toNat).fate != 4 then (allT (g20_s_8 c i)) else (if (c.line i.toNat).closed != 5 then (if (c.line i.toNat).closed != 6 then (allT (g20_s_9 c i)) else (if !((c.line i.toNat).fate == 0) == ((c.line i.toNat).node == []) then (allT (g20_s_10 c i)) else (if (c.line i.toNat).fate != 0 then (if !isName (c.line i.toNat).node then (allT (g20_s_11 c i)) else (allT (g20_s_12 c i))) else (allT (g20_s_13 c i))))) else (if !((c.line i.toNat).fate == 0) == ((c.line i.toNat).node == []) then (allT (g20_s_14 c i)) else (if (c.line i.toNat).fate != 0 then (if !isName (c.line i.toNat).node then (allT (g20_s_15 c i)) else (allT (g20_s_16 c i))) else (allT (g20_s_17 c i)))))) else (if !((c.line i.toNat).fate == 0) == ((c.line i.toNat).node == []) then (allT (g20_s_18 c i)) else (if (c.line i.toNat).fate != 0 then (if !isName (c.line i.toNat).node then (allT (g20_s_19 c i)) else (allT (g20_s_20 c i))) else (allT (g20_s_21 c i)))))))))) else (if decide ((c.line i.toNat).mass < 0) then (allT (g20_s_22 c i)) else (if decide ((c.line i.toNat).mass > 1099511627776) then (allT (g20_s_23 c i)) else (if decide ((c.line i.toNat).fate < 0) then (allT (g20_s_24 c i)) else (if decide ((c.line i.toNat).fate > 4) then (allT (g20_s_25 c i)) else (if (c.line i.toNat).closed != 0 then (if (c.line i.toNat).fate != 4 then (allT (g20_s_26 c i)) else (if (c.line i.toNat).closed != 5 then (if (c.line i.toNat).closed != 6 then (allT (g20_s_27 c i)) else (if !((c.line i.toNat).fate == 0) == ((c.line i.toNat).node == []) then (allT (g20_s_28 c i)) else (if (c.line i.toNat).fate != 0 then (if !isName (c.line i.toNat).node then (allT (g20_s_29 c i)) else (allT (g20_s_30 c i))) else (allT (g20_s_31 c i))))) else (if !((c.line i.toNat).fate == 0) == ((c.line i.toNat).node == []) then (allT (g20_s_32 c i)) else (if (c.line i.toNat).fate != 0 then (if !isName (c.line i.toNat).node then (allT (g20_s_33 c i)) else (allT (g20_s_34 c i))) else (allT (g20_s_35 c i)))))) else (if !((c.line i.toNat).fate == 0) == ((c.line i.toNat).node == []) then (allT (g20_s_36 c i)) else (if (c.line i.toNat).fate != 0 then (if !isName (c.line i.toNat).node then (allT (g20_s_37 c i)) else (allT (g20_s_38 c i))) else (allT (g20_s_39 c i))))))))))))
theorem T20_s (c : Ct) (i : Int) (hk : K20_s c i = true) : o20 c i = some (V20_s c i) :=
  (tree_if tree_leaf (tree_if tree_leaf (tree_if (tree_if tree_leaf (tree_if tree_leaf (tree_if tree_leaf (tree_if tree_leaf (tree_if tree_leaf (tree_if (tree_if tree_leaf (tree_if (tree_if tree_leaf (tree_if tree_leaf (tree_if (tree_if tree_leaf tree_leaf) tree_leaf))) (tree_if tree_leaf (tree_if (tree_if tree_leaf tree_leaf) tree_leaf)))) (tree_if tree_leaf (tree_if (tree_if tree_leaf tree_leaf) tree_leaf)))))))) (tree_if tree_leaf (tree_if tree_leaf (tree_if tree_leaf (tree_if tree_leaf (tree_if (tree_if tree_leaf (tree_if (tree_if tree_leaf (tree_if tree_leaf (tree_if (tree_if tree_leaf tree_leaf) tree_leaf))) (tree_if tree_leaf (tree_if (tree_if tree_leaf tree_leaf) tree_leaf)))) (tree_if tree_leaf (tree_if (tree_if tree_leaf tree_leaf) tree_leaf)))))))))) hk
theorem run20 (c : Ct) (i : Int) {n : Nat} {o : Empty ⊕ T} {r : T} (h : o20 c i = some o) (hr : noM.fin n o = some r) : PureFn prog gl 20 [ctT c, .int .i64 i] r := by
  refine pure_mach (M := noM) (fn := f20) (k := 20) (d := 8) (c := bodyOf f20) cx9 glFrz (by kernel_rfl) func20 (by kernel_rfl) rfl (by kernel_rfl) (by kernel_rfl) (L := 95) (by kernel_rfl) noM_ways (fun σ => σ.elim) ?_ hr
  exact (ways_if (ways_leaf fun hk => ⟨2000, _, _, _, _, _, _, w20_s_1 c i, hk⟩) (ways_if (ways_leaf fun hk => ⟨2000, _, _, _, _, _, _, w20_s_2 c i, hk⟩) (ways_if (ways_if (ways_leaf fun hk => ⟨2000, _, _, _, _, _, _, w20_s_3 c i, hk⟩) (ways_if (ways_leaf fun hk => ⟨2000, _, _, _, _, _, _, w20_s_4 c i, hk⟩) (ways_if (ways_leaf fun hk => ⟨2000, _, _, _, _, _, _, w20_s_5 c i, hk⟩) (ways_if (ways_leaf fun hk => ⟨2000, _, _, _, _, _, _, w20_s_6 c i, hk⟩) (ways_if (ways_leaf fun hk => ⟨2000, _, _, _, _, _, _, w20_s_7 c i, hk⟩) (ways_if (ways_if (ways_leaf fun hk => ⟨2000, _, _, _, _, _, _, w20_s_8 c i, hk⟩) (ways_if (ways_if (ways_leaf fun hk => ⟨2000, _, _, _, _, _, _, w20_s_9 c i, hk⟩) (ways_if (ways_leaf fun hk => ⟨2000, _, _, _, _, _, _, w20_s_10 c i, hk⟩) (ways_if (ways_if (ways_leaf fun hk => ⟨2000, _, _, _, _, _, _, w20_s_11 c i, hk⟩) (ways_leaf fun hk => ⟨2000, _, _, _, _, _, _, w20_s_12 c i, hk⟩)) (ways_leaf fun hk => ⟨2000, _, _, _, _, _, _, w20_s_13 c i, hk⟩)))) (ways_if (ways_leaf fun hk => ⟨2000, _, _, _, _, _, _, w20_s_14 c i, hk⟩) (ways_if (ways_if (ways_leaf fun hk => ⟨2000, _, _, _, _, _, _, w20_s_15 c i, hk⟩) (ways_leaf fun hk => ⟨2000, _, _, _, _, _, _, w20_s_16 c i, hk⟩)) (ways_leaf fun hk => ⟨2000, _, _, _, _, _, _, w20_s_17 c i, hk⟩))))) (ways_if (ways_leaf fun hk => ⟨2000, _, _, _, _, _, _, w20_s_18 c i, hk⟩) (ways_if (ways_if (ways_leaf fun hk => ⟨2000, _, _, _, _, _, _, w20_s_19 c i, hk⟩) (ways_leaf fun hk => ⟨2000, _, _, _, _, _, _, w20_s_20 c i, hk⟩)) (ways_leaf fun hk => ⟨2000, _, _, _, _, _, _, w20_s_21 c i, hk⟩))))))))) (ways_if (ways_leaf fun hk => ⟨2000, _, _, _, _, _, _, w20_s_22 c i, hk⟩) (ways_if (ways_leaf fun hk => ⟨2000, _, _, _, _, _, _, w20_s_23 c i, hk⟩) (ways_if (ways_leaf fun hk => ⟨2000, _, _, _, _, _, _, w20_s_24 c i, hk⟩) (ways_if (ways_leaf fun hk => ⟨2000, _, _, _, _, _, _, w20_s_25 c i, hk⟩) (ways_if (ways_if (ways_leaf fun hk => ⟨2000, _, _, _, _, _, _, w20_s_26 c i, hk⟩) (ways_if (ways_if (ways_leaf fun hk => ⟨2000, _, _, _, _, _, _, w20_s_27 c i, hk⟩) (ways_if (ways_leaf fun hk => ⟨2000, _, _, _, _, _, _, w20_s_28 c i, hk⟩) (ways_if (ways_if (ways_leaf fun hk => ⟨2000, _, _, _, _, _, _, w20_s_29 c i, hk⟩) (ways_leaf fun hk => ⟨2000, _, _, _, _, _, _, w20_s_30 c i, hk⟩)) (ways_leaf fun hk => ⟨2000, _, _, _, _, _, _, w20_s_31 c i, hk⟩)))) (ways_if (ways_leaf fun hk => ⟨2000, _, _, _, _, _, _, w20_s_32 c i, hk⟩) (ways_if (ways_if (ways_leaf fun hk => ⟨2000, _, _, _, _, _, _, w20_s_33 c i, hk⟩) (ways_leaf fun hk => ⟨2000, _, _, _, _, _, _, w20_s_34 c i, hk⟩)) (ways_leaf fun hk => ⟨2000, _, _, _, _, _, _, w20_s_35 c i, hk⟩))))) (ways_if (ways_leaf fun hk => ⟨2000, _, _, _, _, _, _, w20_s_36 c i, hk⟩) (ways_if (ways_if (ways_leaf fun hk => ⟨2000, _, _, _, _, _, _, w20_s_37 c i, hk⟩) (ways_leaf fun hk => ⟨2000, _, _, _, _, _, _, w20_s_38 c i, hk⟩)) (ways_leaf fun hk => ⟨2000, _, _, _, _, _, _, w20_s_39 c i, hk⟩))))))))))) o h
theorem c20 (c : Ct) (i : Int) (n : Nat) {r : T} (hk : K20_s c i = true) (hr : noM.fin n (V20_s c i) = some r) : PureFn prog gl 20 [ctT c, .int .i64 i] r := run20 c i (T20_s c i hk) hr
end Go.Proofs.Tryd

/- The order of stamps: plain laws. -/
namespace Go.Proofs
open Go.Ps

def Tryd.cmpL : List Int → List Int → Int
  | [], [] => 0
  | [], _ :: _ => -1
  | _ :: _, [] => 1
  | x :: xs, y :: ys => if Tryd.cmpI x y ≠ 0 then Tryd.cmpI x y else Tryd.cmpL xs ys

def Tryd.key (s : Sp) : List Int := s.entry :: (List.range' 0 s.n).map s.at_

theorem Tryd.cmpR_eq (n1 n2 : Nat) (f g : Nat → Int) : ∀ (k i : Nat), k + i = n1 → i ≤ n2 → Tryd.cmpR n1 n2 f g k i = Tryd.cmpL ((List.range' i k).map f) ((List.range' i (n2 - i)).map g) := by
  intro k
  induction k with
  | zero =>
    intro i h1 h2
    unfold Tryd.cmpR
    cases hm : n2 - i with
    | zero => rw [if_neg (by omega)]; simp [Tryd.cmpL]
    | succ m => rw [if_pos (by omega)]; simp [Tryd.cmpL, List.range'_succ]
  | succ k ih =>
    intro i h1 h2
    unfold Tryd.cmpR
    by_cases h3 : n2 ≤ i
    · rw [if_pos h3, show n2 - i = 0 by omega]
      simp [Tryd.cmpL, List.range'_succ]
    · rw [if_neg h3, show n2 - i = (n2 - (i + 1)) + 1 by omega, List.range'_succ, List.range'_succ, List.map_cons, List.map_cons]
      simp only [Tryd.cmpL]
      rw [ih (i + 1) (by omega) (by omega)]

theorem Tryd.cmpS_key (a b : Sp) : Tryd.cmpS a b = Tryd.cmpL (Tryd.key a) (Tryd.key b) := by
  unfold Tryd.cmpS Tryd.key Tryd.cmpP
  rw [Tryd.cmpR_eq a.n b.n a.at_ b.at_ a.n 0 rfl (by omega)]
  simp only [Tryd.cmpL, Nat.sub_zero]

theorem Tryd.cmpI_cases (x y : Int) : (x < y ∧ Tryd.cmpI x y = -1) ∨ (x = y ∧ Tryd.cmpI x y = 0) ∨ (x > y ∧ Tryd.cmpI x y = 1) := by
  unfold Tryd.cmpI
  by_cases h1 : x < y
  · left; exact ⟨h1, if_pos h1⟩
  · by_cases h2 : x > y
    · right; right; exact ⟨h2, by rw [if_neg h1, if_pos h2]⟩
    · right; left; exact ⟨by omega, by rw [if_neg h1, if_neg h2]⟩

theorem Tryd.cmpL_anti : ∀ (xs ys : List Int), Tryd.cmpL xs ys = - Tryd.cmpL ys xs
  | [], [] => rfl
  | [], _ :: _ => rfl
  | _ :: _, [] => rfl
  | x :: xs, y :: ys => by
    have ih := Tryd.cmpL_anti xs ys
    simp only [Tryd.cmpL]
    rcases Tryd.cmpI_cases x y with ⟨h, e⟩ | ⟨h, e⟩ | ⟨h, e⟩ <;> rcases Tryd.cmpI_cases y x with ⟨h', e'⟩ | ⟨h', e'⟩ | ⟨h', e'⟩ <;> first | omega | simp [e, e', ih]

theorem Tryd.cmpL_eq : ∀ (xs ys : List Int), Tryd.cmpL xs ys = 0 ↔ xs = ys
  | [], [] => by simp [Tryd.cmpL]
  | [], _ :: _ => by simp [Tryd.cmpL]
  | _ :: _, [] => by simp [Tryd.cmpL]
  | x :: xs, y :: ys => by
    have ih := Tryd.cmpL_eq xs ys
    simp only [Tryd.cmpL]
    rcases Tryd.cmpI_cases x y with ⟨h, e⟩ | ⟨h, e⟩ | ⟨h, e⟩
    · simp [e]; omega
    · subst h; simp [e, ih]
    · simp [e]; omega

theorem Tryd.cmpL_trans : ∀ (xs ys zs : List Int), Tryd.cmpL xs ys < 0 → Tryd.cmpL ys zs < 0 → Tryd.cmpL xs zs < 0
  | [], [], _, h, _ => by simp [Tryd.cmpL] at h
  | [], _ :: _, [], _, h => by simp [Tryd.cmpL] at h
  | [], _ :: _, _ :: _, _, _ => by simp [Tryd.cmpL]
  | _ :: _, [], _, h, _ => by simp [Tryd.cmpL] at h
  | _ :: _, _ :: _, [], _, h => by simp [Tryd.cmpL] at h
  | x :: xs, y :: ys, z :: zs, h1, h2 => by
    have ih := Tryd.cmpL_trans xs ys zs
    simp only [Tryd.cmpL] at h1 h2 ⊢
    rcases Tryd.cmpI_cases x y with ⟨a, e⟩ | ⟨a, e⟩ | ⟨a, e⟩ <;> rcases Tryd.cmpI_cases y z with ⟨b, e'⟩ | ⟨b, e'⟩ | ⟨b, e'⟩ <;> rcases Tryd.cmpI_cases x z with ⟨d, e''⟩ | ⟨d, e''⟩ | ⟨d, e''⟩ <;> simp [e, e', e''] at h1 h2 ⊢ <;> first | omega | exact ih h1 h2

theorem Tryd.cmpS_anti (a b : Sp) : Tryd.cmpS a b = - Tryd.cmpS b a := by rw [Tryd.cmpS_key, Tryd.cmpS_key, Tryd.cmpL_anti]
theorem Tryd.cmpS_eq (a b : Sp) : Tryd.cmpS a b = 0 ↔ Tryd.key a = Tryd.key b := by rw [Tryd.cmpS_key, Tryd.cmpL_eq]
theorem Tryd.cmpS_trans (a b c : Sp) (h1 : Tryd.cmpS a b < 0) (h2 : Tryd.cmpS b c < 0) : Tryd.cmpS a c < 0 := by
  rw [Tryd.cmpS_key] at *
  exact Tryd.cmpL_trans _ _ _ h1 h2
theorem Tryd.cmpS_congr' (a b c : Sp) (h : Tryd.cmpS b c = 0) : Tryd.cmpS a b = Tryd.cmpS a c := by
  rw [Tryd.cmpS_key a c, Tryd.cmpS_key a b, (Tryd.cmpS_eq b c).1 h]

/-! ### searching -/
theorem Tryd.idxR_found (p : Nat → Bool) : ∀ (k i : Nat), (Tryd.idxR p k i = -1 ∧ ∀ j, i ≤ j → j < i + k → p j = false) ∨ ∃ j, i ≤ j ∧ j < i + k ∧ p j = true ∧ (∀ m, i ≤ m → m < j → p m = false) ∧ Tryd.idxR p k i = (j : Int)
  | 0, i => .inl ⟨rfl, fun j h1 h2 => by omega⟩
  | k + 1, i => by
    unfold Tryd.idxR
    cases h : p i with
    | true => exact .inr ⟨i, by omega, by omega, h, fun m _ _ => by omega, by simp⟩
    | false =>
      simp only [Bool.false_eq_true, if_false]
      rcases Tryd.idxR_found p k (i + 1) with ⟨e, f⟩ | ⟨j, h1, h2, h3, h4, h5⟩
      · refine .inl ⟨e, fun j h1 h2 => ?_⟩
        by_cases hj : j = i
        · rw [hj]; exact h
        · exact f j (by omega) (by omega)
      · refine .inr ⟨j, by omega, by omega, h3, fun m h6 h7 => ?_, h5⟩
        by_cases hm : m = i
        · rw [hm]; exact h
        · exact h4 m (by omega) h7
theorem Tryd.idx_found (n : Nat) (p : Nat → Bool) : (Tryd.idx n p = -1 ∧ ∀ j, j < n → p j = false) ∨ ∃ j, j < n ∧ p j = true ∧ (∀ m, m < j → p m = false) ∧ Tryd.idx n p = (j : Int) := by
  rcases Tryd.idxR_found p n 0 with ⟨e, f⟩ | ⟨j, h1, h2, h3, h4, h5⟩
  · exact .inl ⟨e, fun j h => f j (by omega) (by omega)⟩
  · exact .inr ⟨j, by omega, h3, fun m hm => h4 m (by omega) hm, h5⟩

/-- Binary search, where the comparisons rise: the first place that is not less. -/
theorem Tryd.bsR_inv (n : Nat) (p : Nat → Int) (hp : ∀ i j, i < j → j < n → p j < 0 → p i < 0) : ∀ (k i j : Nat), j - i ≤ k → i ≤ j → j ≤ n → (∀ m, m < i → p m < 0) → (∀ m, m < Tryd.bsR p k i j → p m < 0) ∧ i ≤ Tryd.bsR p k i j ∧ Tryd.bsR p k i j ≤ j ∧ (Tryd.bsR p k i j < j → ¬ p (Tryd.bsR p k i j) < 0) := by
  intro k
  induction k with
  | zero =>
    intro i j h1 h2 hn h3
    unfold Tryd.bsR
    exact ⟨h3, Nat.le_refl _, h2, fun h => by omega⟩
  | succ k ih =>
    intro i j h1 h2 hn h3
    unfold Tryd.bsR
    by_cases h4 : i < j
    · rw [if_pos h4]
      by_cases h5 : p ((i + j) / 2) < 0
      · rw [if_pos h5]
        obtain ⟨a, b, c, d⟩ := ih ((i + j) / 2 + 1) j (by omega) (by omega) hn (fun m hm => by
          by_cases hme : m = (i + j) / 2
          · rw [hme]; exact h5
          · exact hp m _ (by omega) (by omega) h5)
        exact ⟨a, by omega, c, d⟩
      · rw [if_neg h5]
        obtain ⟨a, b, c, d⟩ := ih i ((i + j) / 2) (by omega) (by omega) (by omega) h3
        refine ⟨a, b, by omega, fun h => ?_⟩
        by_cases he : Tryd.bsR p k i ((i + j) / 2) < (i + j) / 2
        · exact d he
        · rw [show Tryd.bsR p k i ((i + j) / 2) = (i + j) / 2 by omega]; exact h5
    · rw [if_neg h4]
      exact ⟨h3, Nat.le_refl _, h2, fun h => by omega⟩

theorem Tryd.bs_spec (n : Nat) (p : Nat → Int) (hp : ∀ i j, i < j → j < n → p j < 0 → p i < 0) : (∀ m, m < Tryd.bs n p → p m < 0) ∧ Tryd.bs n p ≤ n ∧ (Tryd.bs n p < n → ¬ p (Tryd.bs n p) < 0) := by
  obtain ⟨a, _, c, d⟩ := Tryd.bsR_inv n p hp n 0 n (by omega) (by omega) (by omega) (fun m hm => by omega)
  exact ⟨a, c, d⟩
end Go.Proofs

/- The second rule: form of the program, second of the law. -/
namespace Go.Proofs
open Go.Ps
set_option maxRecDepth 100000
set_option linter.unusedSimpArgs false

/-- A certificate of the sizes that the law asks for. -/
def Tryd.small (c : Ct) : Prop := c.n ≤ 30 ∧ ∀ i, i < c.n → (c.line i).k ≤ 10 ∧ (c.line i).st.n ≤ 20 ∧ ∀ k, k < (c.line i).k → ((c.line i).from_ k).n ≤ 20

/-- The second rule at a line. -/
noncomputable def Tryd.fe (c : Ct) (i : Nat) : Int :=
  if Tryd.chk (c.line i).st ≠ 0 then Tryd.chk (c.line i).st
  else if (c.line i).st.entry > c.entries then 2
  else if 0 < i ∧ Tryd.cmpS (c.line (i - 1)).st (c.line i).st ≥ 0 then 24
  else if (c.line i).mass < 0 ∨ (c.line i).mass > 1099511627776 then 38
  else if (c.line i).fate < 0 ∨ (c.line i).fate > 4 then 11
  else if (c.line i).closed ≠ 0 ∧ ¬ ((c.line i).fate = 4 ∧ ((c.line i).closed = 5 ∨ (c.line i).closed = 6)) then 10
  else if ((c.line i).fate = 0 ∧ (c.line i).node ≠ []) ∨ ((c.line i).fate ≠ 0 ∧ Tryd.isName (c.line i).node = false) then 12
  else 0

/-- The first error of a list of tests. -/
def Tryd.fst (e : Nat → Int) : Nat → Nat → Int
  | 0, _ => 0
  | k + 1, i => if e i ≠ 0 then e i else Tryd.fst e k (i + 1)

theorem Tryd.wpred (i : Nat) (h : 0 < i) (h' : i < 4611686018427387904) : IntKind.i64.wrap ((i : Int) - 1) = ((i - 1 : Nat) : Int) := by
  rw [IntWalk.i64_in _ (by omega)]; omega
theorem Tryd.tree_eq {α : Type} {a : Bool} {x y z : α} (h : a = true → x = z) (h' : a = false → y = z) : (if a = true then x else y) = z := by
  cases a
  · exact h' rfl
  · exact h rfl

theorem Tryd.V20_eq (c : Ct) (i : Nat) (hi : i < 4611686018427387904) : Tryd.V20_s c i = .inr (.int .i64 (Tryd.fe c i)) := by
  have hn := Tryd.isName_nil
  unfold Tryd.V20_s
  by_cases h0 : 0 < i
  · rw [Tryd.wpred i h0 hi]
    simp only [Int.toNat_natCast]
    repeat' (refine Tryd.tree_eq (fun _ => ?_) (fun _ => ?_))
    all_goals (unfold Tryd.fe; grind)
  · have : i = 0 := by omega
    subst this
    repeat' (refine Tryd.tree_eq (fun _ => ?_) (fun _ => ?_))
    all_goals (unfold Tryd.fe; grind)

theorem Tryd.K20_ok (c : Ct) (i : Nat) (hi : i < c.n) (hs : Tryd.small c) : Tryd.K20_s c i = true := by
  have hp := (hs.2 i hi).2.1
  have hn := hs.1
  unfold Tryd.K20_s
  by_cases h0 : 0 < i
  · have hp' := (hs.2 (i - 1) (by omega)).2.1
    have a1 : decide ((c.line i).st.n ≤ 281474976710656) = true := decide_eq_true (by omega)
    have a2 : decide ((c.line (i - 1)).st.n ≤ 281474976710656) = true := decide_eq_true (by omega)
    have a3 : decide ((i : Int) < c.n) = true := decide_eq_true (by omega)
    have a4 : decide ((0 : Int) ≤ i) = true := decide_eq_true (by omega)
    have a5 : decide (((i - 1 : Nat) : Int) < c.n) = true := decide_eq_true (by omega)
    have a6 : decide ((0 : Int) ≤ ((i - 1 : Nat) : Int)) = true := decide_eq_true (by omega)
    have a7 := Tryd.wpred i h0 (by omega)
    repeat' (refine Tryd.tree_eq (fun _ => ?_) (fun _ => ?_))
    all_goals (simp only [Tryd.g20_s_1, Tryd.g20_s_2, Tryd.g20_s_3, Tryd.g20_s_4, Tryd.g20_s_5, Tryd.g20_s_6, Tryd.g20_s_7, Tryd.g20_s_8, Tryd.g20_s_9, Tryd.g20_s_10, Tryd.g20_s_11, Tryd.g20_s_12, Tryd.g20_s_13, Tryd.g20_s_14, Tryd.g20_s_15, Tryd.g20_s_16, Tryd.g20_s_17, Tryd.g20_s_18, Tryd.g20_s_19, Tryd.g20_s_20, Tryd.g20_s_21, Tryd.g20_s_22, Tryd.g20_s_23, Tryd.g20_s_24, Tryd.g20_s_25, Tryd.g20_s_26, Tryd.g20_s_27, Tryd.g20_s_28, Tryd.g20_s_29, Tryd.g20_s_30, Tryd.g20_s_31, Tryd.g20_s_32, Tryd.g20_s_33, Tryd.g20_s_34, Tryd.g20_s_35, Tryd.g20_s_36, Tryd.g20_s_37, Tryd.g20_s_38, Tryd.g20_s_39, a7, Int.toNat_natCast] at *; simp only [*, allT, isV_self, a1, a2, a3, a4, a5, a6, Bool.not_false, Bool.not_true, Bool.and_true])
  · have : i = 0 := by omega
    subst this
    have a1 : decide ((c.line 0).st.n ≤ 281474976710656) = true := decide_eq_true (by omega)
    have a3 : decide ((0 : Int) < c.n) = true := decide_eq_true (by omega)
    repeat' (refine Tryd.tree_eq (fun _ => ?_) (fun _ => ?_))
    all_goals (simp only [Tryd.g20_s_1, Tryd.g20_s_2, Tryd.g20_s_3, Tryd.g20_s_4, Tryd.g20_s_5, Tryd.g20_s_6, Tryd.g20_s_7, Tryd.g20_s_8, Tryd.g20_s_9, Tryd.g20_s_10, Tryd.g20_s_11, Tryd.g20_s_12, Tryd.g20_s_13, Tryd.g20_s_14, Tryd.g20_s_15, Tryd.g20_s_16, Tryd.g20_s_17, Tryd.g20_s_18, Tryd.g20_s_19, Tryd.g20_s_20, Tryd.g20_s_21, Tryd.g20_s_22, Tryd.g20_s_23, Tryd.g20_s_24, Tryd.g20_s_25, Tryd.g20_s_26, Tryd.g20_s_27, Tryd.g20_s_28, Tryd.g20_s_29, Tryd.g20_s_30, Tryd.g20_s_31, Tryd.g20_s_32, Tryd.g20_s_33, Tryd.g20_s_34, Tryd.g20_s_35, Tryd.g20_s_36, Tryd.g20_s_37, Tryd.g20_s_38, Tryd.g20_s_39] at *; simp_all [allT])

theorem Tryd.V15_eq (c : Ct) (i : Nat) (hi : i < c.n) (hs : Tryd.small c) : Tryd.V15_0 c c.n i = if Tryd.fe c i = 0 then .inl (.l0 c.n (i + 1 : Nat)) else .inr (.int .i64 (Tryd.fe c i)) := by
  have hn := Tryd.isName_nil
  have h30 := hs.1
  have hw := Tryd.wsucc i (by omega)
  have han := Tryd.cmpS_anti (c.line (i - 1)).st (c.line i).st
  unfold Tryd.V15_0
  rw [hw]
  by_cases h0 : 0 < i
  · rw [Tryd.wpred i h0 (by omega)]
    simp only [Int.toNat_natCast]
    repeat' (refine Tryd.tree_eq (fun _ => ?_) (fun _ => ?_))
    all_goals (unfold Tryd.fe; grind)
  · have : i = 0 := by omega
    subst this
    repeat' (refine Tryd.tree_eq (fun _ => ?_) (fun _ => ?_))
    all_goals (unfold Tryd.fe; grind)

theorem Tryd.V15_end (c : Ct) : Tryd.V15_0 c c.n c.n = .inr (.int .i64 0) := by
  unfold Tryd.V15_0
  exact if_neg (by simp)

theorem Tryd.K15_ok (c : Ct) (i : Nat) (hi : i < c.n) (hs : Tryd.small c) : Tryd.K15_0 c c.n i = true := by
  have hp := (hs.2 i hi).2.1
  have hn := hs.1
  unfold Tryd.K15_0
  by_cases h0 : 0 < i
  · have hp' := (hs.2 (i - 1) (by omega)).2.1
    have a1 : decide ((c.line i).st.n ≤ 281474976710656) = true := decide_eq_true (by omega)
    have a2 : decide ((c.line (i - 1)).st.n ≤ 281474976710656) = true := decide_eq_true (by omega)
    have a3 : decide ((i : Int) < c.n) = true := decide_eq_true (by omega)
    have a4 : decide ((0 : Int) ≤ i) = true := decide_eq_true (by omega)
    have a5 : decide (((i - 1 : Nat) : Int) < c.n) = true := decide_eq_true (by omega)
    have a6 : decide ((0 : Int) ≤ ((i - 1 : Nat) : Int)) = true := decide_eq_true (by omega)
    have a7 := Tryd.wpred i h0 (by omega)
    repeat' (refine Tryd.tree_eq (fun _ => ?_) (fun _ => ?_))
    all_goals (simp only [Tryd.g15_0_1, Tryd.g15_0_2, Tryd.g15_0_3, Tryd.g15_0_4, Tryd.g15_0_5, Tryd.g15_0_6, Tryd.g15_0_7, Tryd.g15_0_8, Tryd.g15_0_9, Tryd.g15_0_10, Tryd.g15_0_11, Tryd.g15_0_12, Tryd.g15_0_13, Tryd.g15_0_14, Tryd.g15_0_15, Tryd.g15_0_16, Tryd.g15_0_17, Tryd.g15_0_18, Tryd.g15_0_19, Tryd.g15_0_20, Tryd.g15_0_21, Tryd.g15_0_22, Tryd.g15_0_23, Tryd.g15_0_24, Tryd.g15_0_25, Tryd.g15_0_26, Tryd.g15_0_27, Tryd.g15_0_28, Tryd.g15_0_29, Tryd.g15_0_30, Tryd.g15_0_31, Tryd.g15_0_32, Tryd.g15_0_33, Tryd.g15_0_34, Tryd.g15_0_35, Tryd.g15_0_36, Tryd.g15_0_37, Tryd.g15_0_38, Tryd.g15_0_39, Tryd.g15_0_40, Tryd.g15_0_41, Tryd.g15_0_42, Tryd.g15_0_43, Tryd.g15_0_44, Tryd.g15_0_45, Tryd.g15_0_46, Tryd.g15_0_47, Tryd.g15_0_48, Tryd.g15_0_49, Tryd.g15_0_50, Tryd.g15_0_51, Tryd.g15_0_52, Tryd.g15_0_53, Tryd.g15_0_54, Tryd.g15_0_55, Tryd.g15_0_56, Tryd.g15_0_57, Tryd.g15_0_58, Tryd.g15_0_59, Tryd.g15_0_60, Tryd.g15_0_61, Tryd.g15_0_62, Tryd.g15_0_63, Tryd.g15_0_64, Tryd.g15_0_65, Tryd.g15_0_66, Tryd.g15_0_67, Tryd.g15_0_68, Tryd.g15_0_69, Tryd.g15_0_70, Tryd.g15_0_71, Tryd.g15_0_72, Tryd.g15_0_73, Tryd.g15_0_74, Tryd.g15_0_75, Tryd.g15_0_76, Tryd.g15_0_77, Tryd.g15_0_78, Tryd.g15_0_79, Tryd.g15_0_80, Tryd.g15_0_81, Tryd.g15_0_82, Tryd.g15_0_83, Tryd.g15_0_84, Tryd.g15_0_85, Tryd.g15_0_86, Tryd.g15_0_87, Tryd.g15_0_88, a7, Int.toNat_natCast] at *; first | (simp only [*, allT, isV_self, a1, a2, a3, a4, a5, a6, Bool.not_false, Bool.not_true, Bool.and_true]; done) | simp_all)
  · have : i = 0 := by omega
    subst this
    have a1 : decide ((c.line 0).st.n ≤ 281474976710656) = true := decide_eq_true (by omega)
    have a3 : decide ((0 : Int) < c.n) = true := decide_eq_true (by omega)
    repeat' (refine Tryd.tree_eq (fun _ => ?_) (fun _ => ?_))
    all_goals (simp only [Tryd.g15_0_1, Tryd.g15_0_2, Tryd.g15_0_3, Tryd.g15_0_4, Tryd.g15_0_5, Tryd.g15_0_6, Tryd.g15_0_7, Tryd.g15_0_8, Tryd.g15_0_9, Tryd.g15_0_10, Tryd.g15_0_11, Tryd.g15_0_12, Tryd.g15_0_13, Tryd.g15_0_14, Tryd.g15_0_15, Tryd.g15_0_16, Tryd.g15_0_17, Tryd.g15_0_18, Tryd.g15_0_19, Tryd.g15_0_20, Tryd.g15_0_21, Tryd.g15_0_22, Tryd.g15_0_23, Tryd.g15_0_24, Tryd.g15_0_25, Tryd.g15_0_26, Tryd.g15_0_27, Tryd.g15_0_28, Tryd.g15_0_29, Tryd.g15_0_30, Tryd.g15_0_31, Tryd.g15_0_32, Tryd.g15_0_33, Tryd.g15_0_34, Tryd.g15_0_35, Tryd.g15_0_36, Tryd.g15_0_37, Tryd.g15_0_38, Tryd.g15_0_39, Tryd.g15_0_40, Tryd.g15_0_41, Tryd.g15_0_42, Tryd.g15_0_43, Tryd.g15_0_44, Tryd.g15_0_45, Tryd.g15_0_46, Tryd.g15_0_47, Tryd.g15_0_48, Tryd.g15_0_49, Tryd.g15_0_50, Tryd.g15_0_51, Tryd.g15_0_52, Tryd.g15_0_53, Tryd.g15_0_54, Tryd.g15_0_55, Tryd.g15_0_56, Tryd.g15_0_57, Tryd.g15_0_58, Tryd.g15_0_59, Tryd.g15_0_60, Tryd.g15_0_61, Tryd.g15_0_62, Tryd.g15_0_63, Tryd.g15_0_64, Tryd.g15_0_65, Tryd.g15_0_66, Tryd.g15_0_67, Tryd.g15_0_68, Tryd.g15_0_69, Tryd.g15_0_70, Tryd.g15_0_71, Tryd.g15_0_72, Tryd.g15_0_73, Tryd.g15_0_74, Tryd.g15_0_75, Tryd.g15_0_76, Tryd.g15_0_77, Tryd.g15_0_78, Tryd.g15_0_79, Tryd.g15_0_80, Tryd.g15_0_81, Tryd.g15_0_82, Tryd.g15_0_83, Tryd.g15_0_84, Tryd.g15_0_85, Tryd.g15_0_86, Tryd.g15_0_87, Tryd.g15_0_88] at *; simp_all [allT])

theorem Tryd.K15_end (c : Ct) : Tryd.K15_0 c c.n c.n = true := by
  unfold Tryd.K15_0
  rw [if_neg (by simp)]
  simp [Tryd.g15_0_88, allT]

theorem Tryd.run15_eq (c : Ct) (hs : Tryd.small c) : ∀ (k i : Nat), k + i = c.n → (Tryd.M15 c).run (k + 1) (.l0 c.n i) = some (.int .i64 (Tryd.fst (Tryd.fe c) k i)) := by
  intro k
  induction k with
  | zero =>
    intro i hi
    have : i = c.n := by omega
    subst this
    rw [Mch.run_succ]
    show (Tryd.step15_0 c c.n c.n).bind _ = _
    rw [Tryd.T15_0 c _ _ (Tryd.K15_end c), Tryd.V15_end]
    rfl
  | succ k ih =>
    intro i hi
    rw [Mch.run_succ]
    show (Tryd.step15_0 c c.n i).bind _ = _
    rw [Tryd.T15_0 c _ _ (Tryd.K15_ok c i (by omega) hs), Tryd.V15_eq c i (by omega) hs]
    unfold Tryd.fst
    by_cases h : Tryd.fe c i = 0
    · rw [if_pos h, if_neg (by simp [h])]
      exact ih (i + 1) (by omega)
    · rw [if_neg h, if_pos h]
      rfl

/-- form. -/
noncomputable def Tryd.formE (c : Ct) : Int := Tryd.fst (Tryd.fe c) c.n 0
theorem Tryd.form_ok (c : Ct) (hs : Tryd.small c) : PureFn Tryd.prog Tryd.gl 15 [ctT c] (.int .i64 (Tryd.formE c)) :=
  Tryd.c15 c (c.n + 1) (by simp [Tryd.K15_s, Tryd.g15_s_1, allT]) (by
    show (Tryd.M15 c).fin _ (Tryd.V15_s c) = _
    unfold Tryd.V15_s
    exact Tryd.run15_eq c hs c.n 0 (by omega))
theorem Tryd.second_ok (c : Ct) (i : Nat) (hi : i < c.n) (hs : Tryd.small c) : PureFn Tryd.prog Tryd.gl 20 [ctT c, .int .i64 i] (.int .i64 (Tryd.fe c i)) :=
  Tryd.c20 c i 0 (Tryd.K20_ok c i hi hs) (by rw [Tryd.V20_eq c i (by have := hs.1; omega)]; rfl)
end Go.Proofs

/- The third rule: parents of the program, third of the law. -/
namespace Go.Proofs
open Go.Ps
set_option maxRecDepth 100000
set_option linter.unusedSimpArgs false
set_option linter.unusedSectionVars false

def Tryd.Runs {S : Type} (M : Mch S) (s : S) (r : T) : Prop := ∃ n, M.run n s = some r
theorem Tryd.Runs.next {S : Type} {M : Mch S} {s s' : S} {r : T} (h : M.step s = some (.inl s')) (k : Tryd.Runs M s' r) : Tryd.Runs M s r := by
  obtain ⟨n, hn⟩ := k
  exact ⟨n + 1, by rw [Mch.run_succ, h]; exact hn⟩
theorem Tryd.Runs.done {S : Type} {M : Mch S} {s : S} {r : T} (h : M.step s = some (.inr r)) : Tryd.Runs M s r := ⟨1, by rw [Mch.run_succ, h]; rfl⟩

def Tryd.exR (p : Nat → Bool) : Nat → Nat → Bool
  | 0, _ => false
  | m + 1, k => if p k then true else Tryd.exR p m (k + 1)

def Tryd.ordBad (x : Ln) (k : Nat) : Bool := (decide (0 < k) && decide (Tryd.cmpS (x.from_ (k - 1)) (x.from_ k) ≥ 0)) || decide (Tryd.cmpS (x.from_ k) x.st ≥ 0)
/-- The third rule at a line, by a way to find. -/
def Tryd.te (fnd : Sp → Bool) (c : Ct) (i : Nat) : Int :=
  if Tryd.exR (Tryd.ordBad (c.line i)) (c.line i).k 0 then 24
  else if Tryd.exR (fun k => !fnd ((c.line i).from_ k)) (c.line i).k 0 then 8
  else if (c.line i).k = 0 ∧ (Tryd.arr (c.line i).st = false ∨ (c.line i).mass ≠ 1048576) then 38 else 0
def Tryd.fp (c : Ct) (s : Sp) : Bool := Tryd.found c.n (fun i => Tryd.cmpS (c.line i).st s)
def Tryd.fl (c : Ct) (s : Sp) : Bool := !decide (Tryd.idx c.n (fun i => Tryd.eqS (c.line i).st s) < 0)

theorem Tryd.small_modest {c : Ct} (hs : Tryd.small c) : Tryd.modestB c.n c.line = true :=
  Tryd.modestB_iff.2 ⟨by have := hs.1; omega, fun i hi => by have := (hs.2 i hi).2.1; omega⟩

section parents
variable (c : Ct) (hs : Tryd.small c) (i : Nat) (hi : i < c.n)
include hs hi

theorem Tryd.st16_0 : (Tryd.M16 c).step (.l0 c.n i) = some (.inl (.l1 c.n i (c.line i).k (0 : Nat))) := by
  show Tryd.step16_0 c c.n i = _
  have a1 : decide ((i : Int) < c.n) = true := decide_eq_true (by omega)
  rw [Tryd.T16_0 c c.n i (by unfold Tryd.K16_0; simp only [Tryd.g16_0_1, Tryd.g16_0_2, allT, a1, decide_eq_true (show (0 : Int) ≤ i by omega), reduceIte, Bool.and_true])]
  unfold Tryd.V16_0
  rw [a1]
  rfl

theorem Tryd.st16_1 (k : Nat) (hk : k < (c.line i).k) : (Tryd.M16 c).step (.l1 c.n i (c.line i).k k) = some (if Tryd.ordBad (c.line i) k then .inr (.int .i64 24) else .inl (.l1 c.n i (c.line i).k (k + 1 : Nat))) := by
  show Tryd.step16_1 c c.n i (c.line i).k k = _
  have h1 := hs.1
  obtain ⟨h2, h3, h4⟩ := hs.2 i hi
  have h5 := h4 k hk
  have b1 : decide (((c.line i).from_ k).n ≤ 281474976710656) = true := decide_eq_true (by omega)
  have b2 : decide ((k : Int) < (c.line i).k) = true := decide_eq_true (by omega)
  have b3 : decide ((0 : Int) ≤ k) = true := decide_eq_true (by omega)
  rw [Tryd.T16_1 c c.n i (c.line i).k k ?_]
  · congr 1
    unfold Tryd.V16_1
    rw [Tryd.wsucc k (by omega)]
    by_cases h0 : 0 < k
    · rw [Tryd.wpred k h0 (by omega)]
      simp only [Int.toNat_natCast]
      repeat' (refine Tryd.tree_eq (fun _ => ?_) (fun _ => ?_))
      all_goals (unfold Tryd.ordBad; grind)
    · have : k = 0 := by omega
      subst this
      repeat' (refine Tryd.tree_eq (fun _ => ?_) (fun _ => ?_))
      all_goals (unfold Tryd.ordBad; grind)
  · unfold Tryd.K16_1
    by_cases h0 : 0 < k
    · have h6 := h4 (k - 1) (by omega)
      have b4 : decide (((c.line i).from_ (k - 1)).n ≤ 281474976710656) = true := decide_eq_true (by omega)
      have b5 : decide (((k - 1 : Nat) : Int) < (c.line i).k) = true := decide_eq_true (by omega)
      have b6 : decide ((0 : Int) ≤ ((k - 1 : Nat) : Int)) = true := decide_eq_true (by omega)
      have b7 := Tryd.wpred k h0 (by omega)
      repeat' (refine Tryd.tree_eq (fun _ => ?_) (fun _ => ?_))
      all_goals (simp only [Tryd.g16_1_1, Tryd.g16_1_2, Tryd.g16_1_3, Tryd.g16_1_4, Tryd.g16_1_5, Tryd.g16_1_6, b7, Int.toNat_natCast] at *; first | (simp only [*, allT, isV_self, Bool.not_false, Bool.not_true, Bool.and_true]; done) | simp_all)
    · have : k = 0 := by omega
      subst this
      repeat' (refine Tryd.tree_eq (fun _ => ?_) (fun _ => ?_))
      all_goals (simp only [Tryd.g16_1_1, Tryd.g16_1_2, Tryd.g16_1_3, Tryd.g16_1_4, Tryd.g16_1_5, Tryd.g16_1_6] at *; simp_all [allT])

theorem Tryd.st16_1e : (Tryd.M16 c).step (.l1 c.n i (c.line i).k ((c.line i).k : Nat)) = some (.inl (.l2 c.n i (c.line i).k (0 : Nat))) := by
  show Tryd.step16_1 c c.n i (c.line i).k (c.line i).k = _
  rw [Tryd.T16_1 c c.n i (c.line i).k (c.line i).k (by unfold Tryd.K16_1; rw [if_neg (by simp)]; simp [Tryd.g16_1_1, Tryd.g16_1_2, Tryd.g16_1_3, Tryd.g16_1_4, Tryd.g16_1_5, Tryd.g16_1_6, allT])]
  unfold Tryd.V16_1
  rw [if_neg (by simp)]
  rfl

theorem Tryd.st16_2 (k : Nat) (hk : k < (c.line i).k) : (Tryd.M16 c).step (.l2 c.n i (c.line i).k k) = some (if !Tryd.fp c ((c.line i).from_ k) then .inr (.int .i64 8) else .inl (.l2 c.n i (c.line i).k (k + 1 : Nat))) := by
  show Tryd.step16_2 c c.n i (c.line i).k k = _
  have h1 := hs.1
  have hm := Tryd.small_modest hs
  obtain ⟨h2, h3, h4⟩ := hs.2 i hi
  have b2 : decide ((k : Int) < (c.line i).k) = true := decide_eq_true (by omega)
  have b3 : decide ((0 : Int) ≤ k) = true := decide_eq_true (by omega)
  rw [Tryd.T16_2 c c.n i (c.line i).k k ?_]
  · congr 1
    unfold Tryd.V16_2 Tryd.fp
    rw [Tryd.wsucc k (by omega), b2]
    simp only [Int.toNat_natCast, reduceIte]
  · unfold Tryd.K16_2
    rw [if_pos b2]
    refine Tryd.tree_eq (fun e => ?_) (fun e => ?_)
    all_goals (simp only [Tryd.g16_2_1, Tryd.g16_2_2, Tryd.g16_2_3, Tryd.g16_2_4, Tryd.g16_2_5, Tryd.g16_2_6, Int.toNat_natCast] at *; simp only [e, allT, lsT, isV_self, hm, b2, b3, Bool.not_false, Bool.not_true, Bool.and_true])

theorem Tryd.st16_2e : (Tryd.M16 c).step (.l2 c.n i (c.line i).k ((c.line i).k : Nat)) = some (if (c.line i).k = 0 ∧ (Tryd.arr (c.line i).st = false ∨ (c.line i).mass ≠ 1048576) then .inr (.int .i64 38) else .inl (.l0 c.n (i + 1 : Nat))) := by
  show Tryd.step16_2 c c.n i (c.line i).k (c.line i).k = _
  have h1 := hs.1
  rw [Tryd.T16_2 c c.n i (c.line i).k (c.line i).k ?_]
  · congr 1
    unfold Tryd.V16_2
    rw [Tryd.wsucc i (by omega), if_neg (by simp)]
    simp only [Int.toNat_natCast]
    repeat' (refine Tryd.tree_eq (fun _ => ?_) (fun _ => ?_))
    all_goals grind
  · unfold Tryd.K16_2
    rw [if_neg (by simp)]
    repeat' (refine Tryd.tree_eq (fun _ => ?_) (fun _ => ?_))
    all_goals (simp only [Tryd.g16_2_1, Tryd.g16_2_2, Tryd.g16_2_3, Tryd.g16_2_4, Tryd.g16_2_5, Tryd.g16_2_6, Int.toNat_natCast] at *; simp_all [allT])

theorem Tryd.ln16 (r : T) (hr : Tryd.Runs (Tryd.M16 c) (.l0 c.n (i + 1 : Nat)) r) : Tryd.Runs (Tryd.M16 c) (.l0 c.n i) (if Tryd.te (Tryd.fp c) c i ≠ 0 then .int .i64 (Tryd.te (Tryd.fp c) c i) else r) := by
  have h2 : ∀ (m k : Nat), m + k = (c.line i).k → Tryd.Runs (Tryd.M16 c) (.l2 c.n i (c.line i).k k) (if Tryd.exR (fun k => !Tryd.fp c ((c.line i).from_ k)) m k then .int .i64 8 else if (c.line i).k = 0 ∧ (Tryd.arr (c.line i).st = false ∨ (c.line i).mass ≠ 1048576) then .int .i64 38 else r) := by
    intro m
    induction m with
    | zero =>
      intro k hk
      have : k = (c.line i).k := by omega
      subst this
      have hst := Tryd.st16_2e c hs i hi
      simp only [Tryd.exR, Bool.false_eq_true, if_false]
      by_cases h : (c.line i).k = 0 ∧ (Tryd.arr (c.line i).st = false ∨ (c.line i).mass ≠ 1048576)
      · rw [if_pos h] at hst ⊢; exact .done hst
      · rw [if_neg h] at hst ⊢; exact .next hst hr
    | succ m ih =>
      intro k hk
      have hst := Tryd.st16_2 c hs i hi k (by omega)
      unfold Tryd.exR
      cases h : Tryd.fp c ((c.line i).from_ k)
      · rw [h] at hst; exact .done hst
      · rw [h] at hst; exact .next hst (ih (k + 1) (by omega))
  have h1 : ∀ (m k : Nat), m + k = (c.line i).k → Tryd.Runs (Tryd.M16 c) (.l1 c.n i (c.line i).k k) (if Tryd.exR (Tryd.ordBad (c.line i)) m k then .int .i64 24 else if Tryd.exR (fun k => !Tryd.fp c ((c.line i).from_ k)) (c.line i).k 0 then .int .i64 8 else if (c.line i).k = 0 ∧ (Tryd.arr (c.line i).st = false ∨ (c.line i).mass ≠ 1048576) then .int .i64 38 else r) := by
    intro m
    induction m with
    | zero =>
      intro k hk
      have : k = (c.line i).k := by omega
      subst this
      simp only [Tryd.exR, Bool.false_eq_true, if_false]
      exact .next (Tryd.st16_1e c hs i hi) (h2 (c.line i).k 0 (by omega))
    | succ m ih =>
      intro k hk
      have hst := Tryd.st16_1 c hs i hi k (by omega)
      simp only [Tryd.exR.eq_2 (Tryd.ordBad (c.line i))]
      cases h : Tryd.ordBad (c.line i) k
      · rw [h] at hst; exact .next hst (ih (k + 1) (by omega))
      · rw [h] at hst; exact .done hst
  have h0 := Tryd.Runs.next (Tryd.st16_0 c hs i hi) (h1 (c.line i).k 0 (by omega))
  have e : (if Tryd.te (Tryd.fp c) c i ≠ 0 then T.int .i64 (Tryd.te (Tryd.fp c) c i) else r) = (if Tryd.exR (Tryd.ordBad (c.line i)) (c.line i).k 0 then .int .i64 24 else if Tryd.exR (fun k => !Tryd.fp c ((c.line i).from_ k)) (c.line i).k 0 then .int .i64 8 else if (c.line i).k = 0 ∧ (Tryd.arr (c.line i).st = false ∨ (c.line i).mass ≠ 1048576) then .int .i64 38 else r) := by
    unfold Tryd.te
    grind
  rw [e]; exact h0
end parents

theorem Tryd.run16_eq (c : Ct) (hs : Tryd.small c) : ∀ (k i : Nat), k + i = c.n → Tryd.Runs (Tryd.M16 c) (.l0 c.n i) (.int .i64 (Tryd.fst (Tryd.te (Tryd.fp c) c) k i)) := by
  intro k
  induction k with
  | zero =>
    intro i hi
    have : i = c.n := by omega
    subst this
    refine .done ?_
    show Tryd.step16_0 c c.n c.n = _
    rw [Tryd.T16_0 c c.n c.n (by unfold Tryd.K16_0; rw [if_neg (by simp)]; simp [Tryd.g16_0_1, Tryd.g16_0_2, allT])]
    unfold Tryd.V16_0
    rw [if_neg (by simp)]
    rfl
  | succ k ih =>
    intro i hi
    have := Tryd.ln16 c hs i (by omega) _ (ih (i + 1) (by omega))
    unfold Tryd.fst
    by_cases h : Tryd.te (Tryd.fp c) c i = 0
    · rw [if_neg (by simp [h])] at this ⊢; exact this
    · rw [if_pos h] at this ⊢; exact this

noncomputable def Tryd.parE (c : Ct) : Int := Tryd.fst (Tryd.te (Tryd.fp c) c) c.n 0
theorem Tryd.parents_ok (c : Ct) (hs : Tryd.small c) : PureFn Tryd.prog Tryd.gl 16 [ctT c] (.int .i64 (Tryd.parE c)) := by
  obtain ⟨n, hn⟩ := Tryd.run16_eq c hs c.n 0 (by omega)
  exact Tryd.c16 c n (by simp [Tryd.K16_s, Tryd.g16_s_1, allT]) (by unfold Tryd.V16_s; exact hn)
end Go.Proofs

/- The third rule of the law; the fifth rule, both sides. -/
namespace Go.Proofs
open Go.Ps
set_option maxRecDepth 100000
set_option linter.unusedSimpArgs false
set_option linter.unusedSectionVars false

section third
variable (c : Ct) (hs : Tryd.small c) (i : Nat) (hi : i < c.n)
include hs hi

theorem Tryd.st21_0 (k : Nat) (hk : k < (c.line i).k) : (Tryd.M21 c i).step (.l0 k) = some (if Tryd.ordBad (c.line i) k then .inr (.int .i64 24) else .inl (.l0 (k + 1 : Nat))) := by
  show Tryd.step21_0 c i k = _
  have h1 := hs.1
  obtain ⟨h2, h3, h4⟩ := hs.2 i hi
  have h5 := h4 k hk
  have b1 : decide (((c.line i).from_ k).n ≤ 281474976710656) = true := decide_eq_true (by omega)
  have b2 : decide ((k : Int) < (c.line i).k) = true := decide_eq_true (by omega)
  have b3 : decide ((0 : Int) ≤ k) = true := decide_eq_true (by omega)
  rw [Tryd.T21_0 c i k ?_]
  · congr 1
    unfold Tryd.V21_0
    rw [Tryd.wsucc k (by omega)]
    by_cases h0 : 0 < k
    · rw [Tryd.wpred k h0 (by omega)]
      simp only [Int.toNat_natCast]
      repeat' (refine Tryd.tree_eq (fun _ => ?_) (fun _ => ?_))
      all_goals (unfold Tryd.ordBad; grind)
    · have : k = 0 := by omega
      subst this
      repeat' (refine Tryd.tree_eq (fun _ => ?_) (fun _ => ?_))
      all_goals (unfold Tryd.ordBad; grind)
  · unfold Tryd.K21_0
    by_cases h0 : 0 < k
    · have h6 := h4 (k - 1) (by omega)
      have b4 : decide (((c.line i).from_ (k - 1)).n ≤ 281474976710656) = true := decide_eq_true (by omega)
      have b5 : decide (((k - 1 : Nat) : Int) < (c.line i).k) = true := decide_eq_true (by omega)
      have b6 : decide ((0 : Int) ≤ ((k - 1 : Nat) : Int)) = true := decide_eq_true (by omega)
      have b7 := Tryd.wpred k h0 (by omega)
      repeat' (refine Tryd.tree_eq (fun _ => ?_) (fun _ => ?_))
      all_goals (simp only [Tryd.g21_0_1, Tryd.g21_0_2, Tryd.g21_0_3, Tryd.g21_0_4, Tryd.g21_0_5, Tryd.g21_0_6, b7, Int.toNat_natCast] at *; first | (simp only [*, allT, isV_self, Bool.not_false, Bool.not_true, Bool.and_true]; done) | simp_all)
    · have : k = 0 := by omega
      subst this
      repeat' (refine Tryd.tree_eq (fun _ => ?_) (fun _ => ?_))
      all_goals (simp only [Tryd.g21_0_1, Tryd.g21_0_2, Tryd.g21_0_3, Tryd.g21_0_4, Tryd.g21_0_5, Tryd.g21_0_6, Int.toNat_natCast] at *; simp_all [allT])

theorem Tryd.st21_0e : (Tryd.M21 c i).step (.l0 ((c.line i).k : Nat)) = some (.inl (.l1 (0 : Nat))) := by
  show Tryd.step21_0 c i (c.line i).k = _
  rw [Tryd.T21_0 c i (c.line i).k (by unfold Tryd.K21_0; rw [if_neg (by simp)]; simp [Tryd.g21_0_1, Tryd.g21_0_2, Tryd.g21_0_3, Tryd.g21_0_4, Tryd.g21_0_5, Tryd.g21_0_6, allT])]
  unfold Tryd.V21_0
  rw [if_neg (by simp)]
  rfl

theorem Tryd.st21_1 (k : Nat) (hk : k < (c.line i).k) : (Tryd.M21 c i).step (.l1 k) = some (if !Tryd.fl c ((c.line i).from_ k) then .inr (.int .i64 8) else .inl (.l1 (k + 1 : Nat))) := by
  show Tryd.step21_1 c i k = _
  have h1 := hs.1
  have hm := Tryd.small_modest hs
  obtain ⟨h2, h3, h4⟩ := hs.2 i hi
  have b2 : decide ((k : Int) < (c.line i).k) = true := decide_eq_true (by omega)
  have b3 : decide ((0 : Int) ≤ k) = true := decide_eq_true (by omega)
  rw [Tryd.T21_1 c i k ?_]
  · congr 1
    unfold Tryd.V21_1 Tryd.fl
    simp only [Int.toNat_natCast, Bool.not_not]
    rw [Tryd.wsucc k (by omega), b2]
    simp only [reduceIte]
  · unfold Tryd.K21_1
    simp only [Int.toNat_natCast]
    rw [if_pos b2]
    refine Tryd.tree_eq (fun e => ?_) (fun e => ?_)
    all_goals (simp only [Tryd.g21_1_1, Tryd.g21_1_2, Tryd.g21_1_3, Tryd.g21_1_4, Tryd.g21_1_5, Tryd.g21_1_6, Int.toNat_natCast] at *; simp only [e, allT, lsT, isV_self, hm, b2, b3, Bool.not_false, Bool.not_true, Bool.and_true])

theorem Tryd.st21_1e : (Tryd.M21 c i).step (.l1 ((c.line i).k : Nat)) = some (.inr (.int .i64 (if (c.line i).k = 0 ∧ (Tryd.arr (c.line i).st = false ∨ (c.line i).mass ≠ 1048576) then 38 else 0))) := by
  show Tryd.step21_1 c i (c.line i).k = _
  rw [Tryd.T21_1 c i (c.line i).k ?_]
  · congr 1
    unfold Tryd.V21_1
    simp only [Int.toNat_natCast]
    rw [if_neg (by simp)]
    repeat' (refine Tryd.tree_eq (fun _ => ?_) (fun _ => ?_))
    all_goals grind
  · unfold Tryd.K21_1
    simp only [Int.toNat_natCast]
    rw [if_neg (by simp)]
    repeat' (refine Tryd.tree_eq (fun _ => ?_) (fun _ => ?_))
    all_goals (simp only [Tryd.g21_1_1, Tryd.g21_1_2, Tryd.g21_1_3, Tryd.g21_1_4, Tryd.g21_1_5, Tryd.g21_1_6, Int.toNat_natCast] at *; simp_all [allT])

theorem Tryd.third_ok : PureFn Tryd.prog Tryd.gl 21 [ctT c, .int .i64 i] (.int .i64 (Tryd.te (Tryd.fl c) c i)) := by
  have h2 : ∀ (m k : Nat), m + k = (c.line i).k → Tryd.Runs (Tryd.M21 c i) (.l1 k) (.int .i64 (if Tryd.exR (fun k => !Tryd.fl c ((c.line i).from_ k)) m k then 8 else if (c.line i).k = 0 ∧ (Tryd.arr (c.line i).st = false ∨ (c.line i).mass ≠ 1048576) then 38 else 0)) := by
    intro m
    induction m with
    | zero =>
      intro k hk
      have : k = (c.line i).k := by omega
      subst this
      exact .done (Tryd.st21_1e c hs i hi)
    | succ m ih =>
      intro k hk
      have hst := Tryd.st21_1 c hs i hi k (by omega)
      unfold Tryd.exR
      cases h : Tryd.fl c ((c.line i).from_ k)
      · rw [h] at hst; exact .done hst
      · rw [h] at hst; exact .next hst (ih (k + 1) (by omega))
  have h1 : ∀ (m k : Nat), m + k = (c.line i).k → Tryd.Runs (Tryd.M21 c i) (.l0 k) (.int .i64 (if Tryd.exR (Tryd.ordBad (c.line i)) m k then 24 else if Tryd.exR (fun k => !Tryd.fl c ((c.line i).from_ k)) (c.line i).k 0 then 8 else if (c.line i).k = 0 ∧ (Tryd.arr (c.line i).st = false ∨ (c.line i).mass ≠ 1048576) then 38 else 0)) := by
    intro m
    induction m with
    | zero =>
      intro k hk
      have : k = (c.line i).k := by omega
      subst this
      simp only [Tryd.exR, Bool.false_eq_true, if_false]
      exact .next (Tryd.st21_0e c hs i hi) (h2 (c.line i).k 0 (by omega))
    | succ m ih =>
      intro k hk
      have hst := Tryd.st21_0 c hs i hi k (by omega)
      simp only [Tryd.exR.eq_2 (Tryd.ordBad (c.line i))]
      cases h : Tryd.ordBad (c.line i) k
      · rw [h] at hst; exact .next hst (ih (k + 1) (by omega))
      · rw [h] at hst; exact .done hst
  obtain ⟨n, hn⟩ := h1 (c.line i).k 0 (by omega)
  exact Tryd.c21 c i n (by simp only [Tryd.K21_s, Tryd.g21_s_1, allT, decide_eq_true (show (0 : Int) ≤ i by omega), decide_eq_true (show (i : Int) < c.n by omega), Bool.and_true]) (by unfold Tryd.V21_s; exact hn)
end third

/-! ### the fifth rule -/
def Tryd.mg (q : Nat → Ln) : Nat → Nat → Int → Int → Int × Int
  | 0, _, a, s => (a, s)
  | m + 1, k, a, s => Tryd.mg q m (k + 1) (if (q k).fate == 2 then IntKind.i64.wrap (a + 1) else a) (IntKind.i64.wrap (s + (q k).mass))
def Tryd.mgE (x : Ln) (p : Int × Int) : Int := if p.1 > 0 ∧ p.1 < x.k then 10 else if p.1 > 0 ∧ p.2 ≠ x.mass then 38 else 0
/-- The fifth rule at a line, by the parents' places. -/
def Tryd.me (at_ : Sp → Nat) (c : Ct) (i : Nat) : Int := Tryd.mgE (c.line i) (Tryd.mg (fun k => c.line (at_ ((c.line i).from_ k))) (c.line i).k 0 0 0)
def Tryd.ap (c : Ct) (s : Sp) : Nat := Tryd.bs c.n (fun i => Tryd.cmpS (c.line i).st s)
def Tryd.al (c : Ct) (s : Sp) : Nat := (Tryd.idx c.n (fun i => Tryd.eqS (c.line i).st s)).toNat
/-- All parents are there. -/
def Tryd.linked (at_ : Sp → Nat) (c : Ct) : Prop := ∀ i, i < c.n → ∀ k, k < (c.line i).k → at_ ((c.line i).from_ k) < c.n

section merges
variable (c : Ct) (hs : Tryd.small c) (hl : Tryd.linked (Tryd.ap c) c) (i : Nat) (hi : i < c.n)
include hs hl hi

theorem Tryd.st18_0 : (Tryd.M18 c).step (.l0 c.n i) = some (.inl (.l1 0 0 c.n i (c.line i).k (0 : Nat))) := by
  show Tryd.step18_0 c c.n i = _
  have a1 : decide ((i : Int) < c.n) = true := decide_eq_true (by omega)
  rw [Tryd.T18_0 c c.n i (by unfold Tryd.K18_0; simp only [Tryd.g18_0_1, Tryd.g18_0_2, allT, a1, decide_eq_true (show (0 : Int) ≤ i by omega), reduceIte, Bool.and_true])]
  unfold Tryd.V18_0
  rw [a1]
  rfl

theorem Tryd.st18_1 (a s : Int) (k : Nat) (hk : k < (c.line i).k) : (Tryd.M18 c).step (.l1 a s c.n i (c.line i).k k) = some (.inl (.l1 (if (c.line (Tryd.ap c ((c.line i).from_ k))).fate == 2 then IntKind.i64.wrap (a + 1) else a) (IntKind.i64.wrap (s + (c.line (Tryd.ap c ((c.line i).from_ k))).mass)) c.n i (c.line i).k (k + 1 : Nat))) := by
  show Tryd.step18_1 c a s c.n i (c.line i).k k = _
  have h1 := hs.1
  have hm := Tryd.small_modest hs
  have hb := hl i hi k hk
  obtain ⟨h2, h3, h4⟩ := hs.2 i hi
  have b2 : decide ((k : Int) < (c.line i).k) = true := decide_eq_true (by omega)
  have b3 : decide ((0 : Int) ≤ k) = true := decide_eq_true (by omega)
  unfold Tryd.ap at hb ⊢
  have b4 : decide (((Tryd.bs c.n fun i_1 => Tryd.cmpS (c.line i_1).st ((c.line i).from_ k) : Nat) : Int) < c.n) = true := decide_eq_true (by omega)
  have b5 : decide ((0 : Int) ≤ ((Tryd.bs c.n fun i_1 => Tryd.cmpS (c.line i_1).st ((c.line i).from_ k) : Nat) : Int)) = true := decide_eq_true (by omega)
  rw [Tryd.T18_1 c a s c.n i (c.line i).k k ?_]
  · congr 1
    unfold Tryd.V18_1
    simp only [Int.toNat_natCast]
    rw [Tryd.wsucc k (by omega), if_pos b2]
    refine Tryd.tree_eq (fun e => ?_) (fun e => ?_)
    · rw [if_pos e]
    · rw [e]; rfl
  · unfold Tryd.K18_1
    simp only [Int.toNat_natCast]
    rw [if_pos b2]
    refine Tryd.tree_eq (fun e => ?_) (fun e => ?_)
    all_goals (simp only [Tryd.g18_1_1, Tryd.g18_1_2, Tryd.g18_1_3, Tryd.g18_1_4, Tryd.g18_1_5, Tryd.g18_1_6, Int.toNat_natCast] at *; simp only [e, allT, lsT, isV_self, hm, b2, b3, b4, b5, Bool.not_false, Bool.not_true, Bool.and_true])

theorem Tryd.st18_1e (a s : Int) : (Tryd.M18 c).step (.l1 a s c.n i (c.line i).k ((c.line i).k : Nat)) = some (if Tryd.mgE (c.line i) (a, s) ≠ 0 then .inr (.int .i64 (Tryd.mgE (c.line i) (a, s))) else .inl (.l0 c.n (i + 1 : Nat))) := by
  show Tryd.step18_1 c a s c.n i (c.line i).k (c.line i).k = _
  have h1 := hs.1
  rw [Tryd.T18_1 c a s c.n i (c.line i).k (c.line i).k ?_]
  · congr 1
    unfold Tryd.V18_1
    simp only [Int.toNat_natCast]
    rw [Tryd.wsucc i (by omega), if_neg (by simp)]
    repeat' (refine Tryd.tree_eq (fun _ => ?_) (fun _ => ?_))
    all_goals (unfold Tryd.mgE; grind)
  · unfold Tryd.K18_1
    simp only [Int.toNat_natCast]
    rw [if_neg (by simp)]
    repeat' (refine Tryd.tree_eq (fun _ => ?_) (fun _ => ?_))
    all_goals (simp only [Tryd.g18_1_1, Tryd.g18_1_2, Tryd.g18_1_3, Tryd.g18_1_4, Tryd.g18_1_5, Tryd.g18_1_6, Int.toNat_natCast] at *; simp_all [allT])

theorem Tryd.ln18 (r : T) (hr : Tryd.Runs (Tryd.M18 c) (.l0 c.n (i + 1 : Nat)) r) : Tryd.Runs (Tryd.M18 c) (.l0 c.n i) (if Tryd.me (Tryd.ap c) c i ≠ 0 then .int .i64 (Tryd.me (Tryd.ap c) c i) else r) := by
  have h1 : ∀ (m k : Nat) (a s : Int), m + k = (c.line i).k → Tryd.Runs (Tryd.M18 c) (.l1 a s c.n i (c.line i).k k) (if Tryd.mgE (c.line i) (Tryd.mg (fun k => c.line (Tryd.ap c ((c.line i).from_ k))) m k a s) ≠ 0 then .int .i64 (Tryd.mgE (c.line i) (Tryd.mg (fun k => c.line (Tryd.ap c ((c.line i).from_ k))) m k a s)) else r) := by
    intro m
    induction m with
    | zero =>
      intro k a s hk
      have : k = (c.line i).k := by omega
      subst this
      have hst := Tryd.st18_1e c hs hl i hi a s
      show Tryd.Runs _ _ (if Tryd.mgE (c.line i) (a, s) ≠ 0 then .int .i64 (Tryd.mgE (c.line i) (a, s)) else r)
      by_cases h : Tryd.mgE (c.line i) (a, s) = 0
      · rw [if_neg (by simp [h])] at hst ⊢; exact .next hst hr
      · rw [if_pos h] at hst ⊢; exact .done hst
    | succ m ih =>
      intro k a s hk
      exact .next (Tryd.st18_1 c hs hl i hi a s k (by omega)) (ih (k + 1) _ _ (by omega))
  exact .next (Tryd.st18_0 c hs hl i hi) (h1 (c.line i).k 0 0 0 (by omega))
end merges

theorem Tryd.run18_eq (c : Ct) (hs : Tryd.small c) (hl : Tryd.linked (Tryd.ap c) c) : ∀ (k i : Nat), k + i = c.n → Tryd.Runs (Tryd.M18 c) (.l0 c.n i) (.int .i64 (Tryd.fst (Tryd.me (Tryd.ap c) c) k i)) := by
  intro k
  induction k with
  | zero =>
    intro i hi
    have : i = c.n := by omega
    subst this
    refine .done ?_
    show Tryd.step18_0 c c.n c.n = _
    rw [Tryd.T18_0 c c.n c.n (by unfold Tryd.K18_0; rw [if_neg (by simp)]; simp [Tryd.g18_0_1, Tryd.g18_0_2, allT])]
    unfold Tryd.V18_0
    rw [if_neg (by simp)]
    rfl
  | succ k ih =>
    intro i hi
    have := Tryd.ln18 c hs hl i (by omega) _ (ih (i + 1) (by omega))
    unfold Tryd.fst
    by_cases h : Tryd.me (Tryd.ap c) c i = 0
    · rw [if_neg (by simp [h])] at this ⊢; exact this
    · rw [if_pos h] at this ⊢; exact this

def Tryd.merE (c : Ct) : Int := Tryd.fst (Tryd.me (Tryd.ap c) c) c.n 0
theorem Tryd.merges_ok (c : Ct) (hs : Tryd.small c) (hl : Tryd.linked (Tryd.ap c) c) : PureFn Tryd.prog Tryd.gl 18 [ctT c] (.int .i64 (Tryd.merE c)) := by
  obtain ⟨n, hn⟩ := Tryd.run18_eq c hs hl c.n 0 (by omega)
  exact Tryd.c18 c n (by simp [Tryd.K18_s, Tryd.g18_s_1, allT]) (by unfold Tryd.V18_s; exact hn)

section fifth
variable (c : Ct) (hs : Tryd.small c) (hl : Tryd.linked (Tryd.al c) c) (hl0 : ∀ i, i < c.n → ∀ k, k < (c.line i).k → Tryd.fl c ((c.line i).from_ k) = true) (i : Nat) (hi : i < c.n)
include hs hl hl0 hi

theorem Tryd.st23_0 (a s : Int) (k : Nat) (hk : k < (c.line i).k) : (Tryd.M23 c i).step (.l0 a s k) = some (.inl (.l0 (if (c.line (Tryd.al c ((c.line i).from_ k))).fate == 2 then IntKind.i64.wrap (a + 1) else a) (IntKind.i64.wrap (s + (c.line (Tryd.al c ((c.line i).from_ k))).mass)) (k + 1 : Nat))) := by
  show Tryd.step23_0 c i a s k = _
  have h1 := hs.1
  have hm := Tryd.small_modest hs
  have hb := hl i hi k hk
  have hb0 := hl0 i hi k hk
  obtain ⟨h2, h3, h4⟩ := hs.2 i hi
  have b2 : decide ((k : Int) < (c.line i).k) = true := decide_eq_true (by omega)
  have b3 : decide ((0 : Int) ≤ k) = true := decide_eq_true (by omega)
  unfold Tryd.fl at hb0
  unfold Tryd.al at hb ⊢
  simp only [Bool.not_eq_true', decide_eq_false_iff_not] at hb0
  have b4 : decide ((Tryd.idx c.n fun i_1 => Tryd.eqS (c.line i_1).st ((c.line i).from_ k)) < (c.n : Int)) = true := decide_eq_true (by omega)
  have b5 : decide ((0 : Int) ≤ (Tryd.idx c.n fun i_1 => Tryd.eqS (c.line i_1).st ((c.line i).from_ k))) = true := decide_eq_true (by omega)
  have b6 : decide ((0 : Int) ≤ i) = true := decide_eq_true (by omega)
  have b7 : decide ((i : Int) < c.n) = true := decide_eq_true (by omega)
  rw [Tryd.T23_0 c i a s k ?_]
  · congr 1
    unfold Tryd.V23_0
    simp only [Int.toNat_natCast]
    rw [Tryd.wsucc k (by omega), if_pos b2]
    refine Tryd.tree_eq (fun e => ?_) (fun e => ?_)
    · rw [if_pos e]
    · rw [e]; rfl
  · unfold Tryd.K23_0
    simp only [Int.toNat_natCast]
    rw [if_pos b2]
    refine Tryd.tree_eq (fun e => ?_) (fun e => ?_)
    all_goals (simp only [Tryd.g23_0_1, Tryd.g23_0_2, Tryd.g23_0_3, Tryd.g23_0_4, Tryd.g23_0_5, Tryd.g23_0_6, Int.toNat_natCast] at *; simp only [e, allT, lsT, isV_self, hm, b2, b3, b4, b5, b6, b7, Bool.not_false, Bool.not_true, Bool.and_true])

theorem Tryd.st23_0e (a s : Int) : (Tryd.M23 c i).step (.l0 a s ((c.line i).k : Nat)) = some (.inr (.int .i64 (Tryd.mgE (c.line i) (a, s)))) := by
  show Tryd.step23_0 c i a s (c.line i).k = _
  rw [Tryd.T23_0 c i a s (c.line i).k ?_]
  · congr 1
    unfold Tryd.V23_0
    simp only [Int.toNat_natCast]
    rw [if_neg (by simp)]
    repeat' (refine Tryd.tree_eq (fun _ => ?_) (fun _ => ?_))
    all_goals (unfold Tryd.mgE; grind)
  · unfold Tryd.K23_0
    simp only [Int.toNat_natCast]
    rw [if_neg (by simp)]
    repeat' (refine Tryd.tree_eq (fun _ => ?_) (fun _ => ?_))
    all_goals (simp only [Tryd.g23_0_1, Tryd.g23_0_2, Tryd.g23_0_3, Tryd.g23_0_4, Tryd.g23_0_5, Tryd.g23_0_6, Int.toNat_natCast] at *; simp_all [allT])

theorem Tryd.fifth_ok : PureFn Tryd.prog Tryd.gl 23 [ctT c, .int .i64 i] (.int .i64 (Tryd.me (Tryd.al c) c i)) := by
  have h1 : ∀ (m k : Nat) (a s : Int), m + k = (c.line i).k → Tryd.Runs (Tryd.M23 c i) (.l0 a s k) (.int .i64 (Tryd.mgE (c.line i) (Tryd.mg (fun k => c.line (Tryd.al c ((c.line i).from_ k))) m k a s))) := by
    intro m
    induction m with
    | zero =>
      intro k a s hk
      have : k = (c.line i).k := by omega
      subst this
      exact .done (Tryd.st23_0e c hs hl hl0 i hi a s)
    | succ m ih =>
      intro k a s hk
      exact .next (Tryd.st23_0 c hs hl hl0 i hi a s k (by omega)) (ih (k + 1) _ _ (by omega))
  obtain ⟨n, hn⟩ := h1 (c.line i).k 0 0 0 (by omega)
  exact Tryd.c23 c i n (by simp only [Tryd.K23_s, Tryd.g23_s_1, allT, decide_eq_true (show (0 : Int) ≤ i by omega), decide_eq_true (show (i : Int) < c.n by omega), Bool.and_true]) (by unfold Tryd.V23_s; exact hn)
end fifth
end Go.Proofs

/- Contracts of callees to which the caller's own variables are lent. -/
namespace Go.Ps
noncomputable section

def lendS (k : Nat) (spec : List T → Option (T × List Bool)) (H : Hp) (ts : List T) : Option (T × List Bool) :=
  match mapO (frzT k ⟨0, []⟩) ts with
  | some ts' => spec ts'
  | none => match mapO (frzT k H) ts with
    | some ts' => match spec ts' with
      | some (r, cs) => if scal r then some (r, cs) else none
      | none => none
    | none => none

def pdLend (k : Nat) (f : FuncId) (spec : List T → Option (T × List Bool)) (pd : Hp → FuncId → List T → Option (T × List Bool)) : Hp → FuncId → List T → Option (T × List Bool) := fun H g ts => if g = f then lendS k spec H ts else pd H g ts

theorem pdLend_ok {P : Program} {gl : Nat → Option T} {k : Nat} {f : FuncId} {spec : List T → Option (T × List Bool)} {pd : Hp → FuncId → List T → Option (T × List Bool)} (hz : GlFrz gl) (h : PeOk P gl (Ed.env ⟨gl, pd⟩).pe)
    (hs : ∀ ts r cs, spec ts = some (r, cs) → allT cs = true → PureFn P gl f ts r) : PeOk P gl (Ed.env ⟨gl, pdLend k f spec pd⟩).pe := by
  have hpc : PcOk P gl (fun g ts => if g = f then (match spec ts with | some (r, cs) => if allT cs then some r else none | none => none) else none) := by
    intro g ts r hr
    simp only at hr
    split at hr
    · rename_i e
      subst e
      split at hr
      · rename_i r' cs hq
        split at hr
        · rename_i hc
          cases hr
          have key := hs ts r cs hq hc
          exact ⟨key.1, fun g vs hg hal => key.2 g vs hg ⟨0, fun l _ => hal l⟩⟩
        · cases hr
      · cases hr
    · cases hr
  intro H g ts r hr
  simp only [Ed.env, pdLend] at hr
  by_cases e : g = f
  · subst e
    simp only [if_true] at hr
    refine lend_ok (k := k) hz hpc H g ts r ?_
    unfold lend
    unfold lendS at hr
    cases h0 : mapO (frzT k ⟨0, []⟩) ts with
    | some ts' =>
      rw [h0] at hr
      simp only [if_true] at hr ⊢
      exact hr
    | none =>
      rw [h0] at hr
      simp only at hr ⊢
      cases h1 : mapO (frzT k H) ts with
      | none => rw [h1] at hr; simp at hr
      | some ts' =>
        rw [h1] at hr
        simp only [if_true] at hr ⊢
        cases h2 : spec ts' with
        | none => rw [h2] at hr; simp at hr
        | some q =>
          obtain ⟨r', cs⟩ := q
          rw [h2] at hr
          simp only at hr ⊢
          by_cases h3 : scal r' = true
          · rw [if_pos h3] at hr
            simp only at hr
            split at hr
            · rename_i hc
              cases hr
              rw [if_pos hc]
              simp only [h3, if_true]
            · cases hr
          · rw [if_neg h3] at hr
            simp at hr
  · rw [if_neg e] at hr
    exact h H g ts r hr
end
end Go.Ps

/- The sums: what they compute; the contracts by level (those of single lines are proved here). -/
namespace Go.Proofs
open Go.Ps

def Tryd.prd (g : Nat) (x : Ln) : Bool := if g = 59 then x.fate == 3 else if g = 34 then x.fate == 0 else if g = 60 then (x.fate == 4 && x.closed == 0) else x.closed == 6
def Tryd.F58 (s : Int) (x : Ln) : Int := if (x.k : Int) == 0 then IntKind.i64.wrap (s + 1048576) else s
def Tryd.F57 (g : Nat) (s : Int) (x : Ln) : Int := if Tryd.prd g x then IntKind.i64.wrap (s + x.mass) else s
def Tryd.sumR (F : Int → Ln → Int) (line : Nat → Ln) : Nat → Nat → Int → Int
  | 0, _, s => s
  | m + 1, i, s => Tryd.sumR F line m (i + 1) (F s (line i))

noncomputable def Tryd.s58 : List T → Option (T × List Bool)
  | [.int .i64 s, t] => some (.int .i64 (Tryd.F58 s (lnv t)), [isV t (lnT (lnv t))])
  | _ => none
noncomputable def Tryd.s59 : List T → Option (T × List Bool)
  | [t] => some (.bool (Tryd.prd 59 (lnv t)), [isV t (lnT (lnv t))])
  | _ => none
noncomputable def Tryd.s60 : List T → Option (T × List Bool)
  | [t] => some (.bool (Tryd.prd 60 (lnv t)), [isV t (lnT (lnv t))])
  | _ => none
noncomputable def Tryd.s61 : List T → Option (T × List Bool)
  | [t] => some (.bool (Tryd.prd 61 (lnv t)), [isV t (lnT (lnv t))])
  | _ => none
noncomputable def Tryd.s57 : List T → Option (T × List Bool)
  | [.int .i64 s, t, .ref (.fn (.func g) [] []) 0] => some (.int .i64 (Tryd.F57 g s (lnv t)), [isV t (lnT (lnv t)), decide (g ∈ [59, 34, 60, 61])])
  | _ => none
noncomputable def Tryd.s56 : List T → Option (T × List Bool)
  | [t, .int .i64 s, .fn (.func 58) [] []] => some (.int .i64 (Tryd.sumR Tryd.F58 (lsv t) (slN t) 0 s), [isV t (lsT (slN t) (lsv t)), decide (slN t ≤ 281474976710656)])
  | [t, .int .i64 s, .fn (.func 57) [] [.ref (.fn (.func g) [] []) 0]] => some (.int .i64 (Tryd.sumR (Tryd.F57 g) (lsv t) (slN t) 0 s), [isV t (lsT (slN t) (lsv t)), decide (slN t ≤ 281474976710656), decide (g ∈ [59, 34, 60, 61])])
  | _ => none
noncomputable def Tryd.s55 : List T → Option (T × List Bool)
  | [.fn (.func g) [] [], .ref c 0] => some (.int .i64 (Tryd.sumR (Tryd.F57 g) (ctv c).line (ctv c).n 0 0), [isV c (ctT (ctv c)), decide ((ctv c).n ≤ 281474976710656), decide (g ∈ [59, 34, 60, 61])])
  | _ => none

theorem Tryd.s58_ok (ts : List T) (r : T) (cs : List Bool) (h : Tryd.s58 ts = some (r, cs)) (k : allT cs = true) : PureFn Tryd.prog Tryd.gl 58 ts r := by
  unfold Tryd.s58 at h; split at h
  · rename_i s t
    cases h
    simp only [allT, Bool.and_true, isV_iff] at k
    rw [k]
    clear k
    refine Tryd.c58 s (lnv t) 0 ?_ ?_
    · unfold Tryd.K58_s
      refine Tryd.tree_eq (fun e => ?_) (fun e => ?_)
      all_goals simp_all [Tryd.g58_s_1, Tryd.g58_s_2, allT]
    · unfold Tryd.V58_s Tryd.F58
      rw [lnv_lnT]
      cases e : (((lnv t).k : Int) == 0) <;> rfl
  · cases h
theorem Tryd.s59_ok (ts : List T) (r : T) (cs : List Bool) (h : Tryd.s59 ts = some (r, cs)) (k : allT cs = true) : PureFn Tryd.prog Tryd.gl 59 ts r := by
  unfold Tryd.s59 at h; split at h
  · rename_i t
    cases h
    simp only [allT, Bool.and_true, isV_iff] at k
    rw [k]
    exact Tryd.c59 (lnv t) 0 rfl rfl
  · cases h
theorem Tryd.s60_ok (ts : List T) (r : T) (cs : List Bool) (h : Tryd.s60 ts = some (r, cs)) (k : allT cs = true) : PureFn Tryd.prog Tryd.gl 60 ts r := by
  unfold Tryd.s60 at h; split at h
  · rename_i t
    cases h
    simp only [allT, Bool.and_true, isV_iff] at k
    rw [k]
    clear k
    refine Tryd.c60 (lnv t) 0 ?_ ?_
    · unfold Tryd.K60_s
      refine Tryd.tree_eq (fun e => ?_) (fun e => ?_)
      all_goals simp_all [Tryd.g60_s_1, Tryd.g60_s_2, allT]
    · unfold Tryd.V60_s
      rw [lnv_lnT]
      simp only [Tryd.prd]
      cases e : ((lnv t).fate == 4) <;> simp
  · cases h
theorem Tryd.s61_ok (ts : List T) (r : T) (cs : List Bool) (h : Tryd.s61 ts = some (r, cs)) (k : allT cs = true) : PureFn Tryd.prog Tryd.gl 61 ts r := by
  unfold Tryd.s61 at h; split at h
  · rename_i t
    cases h
    simp only [allT, Bool.and_true, isV_iff] at k
    rw [k]
    exact Tryd.c61 (lnv t) 0 rfl rfl
  · cases h
noncomputable def Tryd.D10 : Ed := ⟨Tryd.gl, pdAdd 58 Tryd.s58 (pdAdd 59 Tryd.s59 (pdAdd 60 Tryd.s60 (pdAdd 61 Tryd.s61 Tryd.D9.pd)))⟩
theorem Tryd.cx10 : Cx Tryd.prog Tryd.D10 Tryd.F0 := ⟨Tryd.follows, pdAdd_ok (pdAdd_ok (pdAdd_ok (pdAdd_ok Tryd.cx9.hE Tryd.s61_ok) Tryd.s60_ok) Tryd.s59_ok) Tryd.s58_ok, Tryd.F0ok⟩
noncomputable def Tryd.D11 : Ed := ⟨Tryd.gl, pdAdd 57 Tryd.s57 Tryd.D10.pd⟩
noncomputable def Tryd.D12 : Ed := ⟨Tryd.gl, pdAdd 56 Tryd.s56 Tryd.D11.pd⟩
noncomputable def Tryd.D13 : Ed := ⟨Tryd.gl, pdLend 20 55 Tryd.s55 Tryd.D12.pd⟩
def Tryd.F40 : Fc := ⟨fun d => d == 1 || d == 2, fun _ _ _ => none⟩
end Go.Proofs

/- The sums as machines, by program (gen2). -/
namespace Go.Proofs.Tryd
open Go.Ps
set_option maxRecDepth 100000
set_option linter.unusedVariables false
set_option linter.unusedSimpArgs false

/-! ### 57 -/
noncomputable def g57a_s_1 (s : Int) (x : Ln) : List Bool := [prd 59 x, isV (lnT x) (lnT x)]
theorem w57a_s_1 (s : Int) (x : Ln) : outK prog f57 20 [] (runK prog D10 F0 2000 (.code (bodyOf f57)) [] 0 ([.int .i64 s, lnT x, .ref (.fn (.func 59) [] []) 0] ++ List.replicate 11 undefT) ⟨0, []⟩ [true] [])
    = some (OutT.done (some (T.int .i64 (IntKind.i64.wrap (s + x.mass)))), g57a_s_1 s x, { next := 0, objs := [] }, [], 0) := by kernel_rfl
noncomputable def g57a_s_2 (s : Int) (x : Ln) : List Bool := [!prd 59 x, isV (lnT x) (lnT x)]
theorem w57a_s_2 (s : Int) (x : Ln) : outK prog f57 20 [] (runK prog D10 F0 2000 (.code (bodyOf f57)) [] 0 ([.int .i64 s, lnT x, .ref (.fn (.func 59) [] []) 0] ++ List.replicate 11 undefT) ⟨0, []⟩ [false] [])
    = some (OutT.done (some (T.int .i64 s)), g57a_s_2 s x, { next := 0, objs := [] }, [], 0) := by kernel_rfl
noncomputable def o57a (s : Int) (x : Ln) : Option (Empty ⊕ T) :=
  (if prd 59 x then (if allT (g57a_s_1 s x) then some (.inr ((T.int .i64 (IntKind.i64.wrap (s + x.mass))))) else none) else (if allT (g57a_s_2 s x) then some (.inr ((T.int .i64 s))) else none))
noncomputable def V57a_s (s : Int) (x : Ln) : Empty ⊕ T :=
  (if prd 59 x then (.inr ((T.int .i64 (IntKind.i64.wrap (s + x.mass))))) else (.inr ((T.int .i64 s))))
noncomputable def K57a_s (s : Int) (x : Ln) : Bool :=
  (if prd 59 x then (allT (g57a_s_1 s x)) else (allT (g57a_s_2 s x)))
theorem T57a_s (s : Int) (x : Ln) (hk : K57a_s s x = true) : o57a s x = some (V57a_s s x) :=
  (tree_if tree_leaf tree_leaf) hk
theorem run57a (s : Int) (x : Ln) (cx : Cx prog D10 F0) {n : Nat} {o : Empty ⊕ T} {r : T} (h : o57a s x = some o) (hr : noM.fin n o = some r) : PureFn prog gl 57 [.int .i64 s, lnT x, .ref (.fn (.func 59) [] []) 0] r := by
  refine pure_mach (M := noM) (fn := f57) (k := 20) (d := 8) (c := bodyOf f57) cx glFrz (by kernel_rfl) func57 (by kernel_rfl) rfl (by kernel_rfl) (by kernel_rfl) (L := 11) (by kernel_rfl) noM_ways (fun σ => σ.elim) ?_ hr
  exact (ways_if (ways_leaf fun hk => ⟨2000, _, _, _, _, _, _, w57a_s_1 s x, hk⟩) (ways_leaf fun hk => ⟨2000, _, _, _, _, _, _, w57a_s_2 s x, hk⟩)) o h
theorem c57a (s : Int) (x : Ln) (cx : Cx prog D10 F0) (n : Nat) {r : T} (hk : K57a_s s x = true) (hr : noM.fin n (V57a_s s x) = some r) : PureFn prog gl 57 [.int .i64 s, lnT x, .ref (.fn (.func 59) [] []) 0] r := run57a s x cx (T57a_s s x hk) hr

/-! ### 57 -/
noncomputable def g57b_s_1 (s : Int) (x : Ln) : List Bool := [x.fate == 0, isV (lnT x) (lnT x)]
theorem w57b_s_1 (s : Int) (x : Ln) : outK prog f57 20 [] (runK prog D10 F0 2000 (.code (bodyOf f57)) [] 0 ([.int .i64 s, lnT x, .ref (.fn (.func 34) [] []) 0] ++ List.replicate 11 undefT) ⟨0, []⟩ [true] [])
    = some (OutT.done (some (T.int .i64 (IntKind.i64.wrap (s + x.mass)))), g57b_s_1 s x, { next := 0, objs := [] }, [], 0) := by kernel_rfl
noncomputable def g57b_s_2 (s : Int) (x : Ln) : List Bool := [!x.fate == 0, isV (lnT x) (lnT x)]
theorem w57b_s_2 (s : Int) (x : Ln) : outK prog f57 20 [] (runK prog D10 F0 2000 (.code (bodyOf f57)) [] 0 ([.int .i64 s, lnT x, .ref (.fn (.func 34) [] []) 0] ++ List.replicate 11 undefT) ⟨0, []⟩ [false] [])
    = some (OutT.done (some (T.int .i64 s)), g57b_s_2 s x, { next := 0, objs := [] }, [], 0) := by kernel_rfl
noncomputable def o57b (s : Int) (x : Ln) : Option (Empty ⊕ T) :=
  (if x.fate == 0 then (if allT (g57b_s_1 s x) then some (.inr ((T.int .i64 (IntKind.i64.wrap (s + x.mass))))) else none) else (if allT (g57b_s_2 s x) then some (.inr ((T.int .i64 s))) else none))
noncomputable def V57b_s (s : Int) (x : Ln) : Empty ⊕ T :=
  (if x.fate == 0 then (.inr ((T.int .i64 (IntKind.i64.wrap (s + x.mass))))) else (.inr ((T.int .i64 s))))
noncomputable def K57b_s (s : Int) (x : Ln) : Bool :=
  (if x.fate == 0 then (allT (g57b_s_1 s x)) else (allT (g57b_s_2 s x)))
theorem T57b_s (s : Int) (x : Ln) (hk : K57b_s s x = true) : o57b s x = some (V57b_s s x) :=
  (tree_if tree_leaf tree_leaf) hk
theorem run57b (s : Int) (x : Ln) (cx : Cx prog D10 F0) {n : Nat} {o : Empty ⊕ T} {r : T} (h : o57b s x = some o) (hr : noM.fin n o = some r) : PureFn prog gl 57 [.int .i64 s, lnT x, .ref (.fn (.func 34) [] []) 0] r := by
  refine pure_mach (M := noM) (fn := f57) (k := 20) (d := 8) (c := bodyOf f57) cx glFrz (by kernel_rfl) func57 (by kernel_rfl) rfl (by kernel_rfl) (by kernel_rfl) (L := 11) (by kernel_rfl) noM_ways (fun σ => σ.elim) ?_ hr
  exact (ways_if (ways_leaf fun hk => ⟨2000, _, _, _, _, _, _, w57b_s_1 s x, hk⟩) (ways_leaf fun hk => ⟨2000, _, _, _, _, _, _, w57b_s_2 s x, hk⟩)) o h
theorem c57b (s : Int) (x : Ln) (cx : Cx prog D10 F0) (n : Nat) {r : T} (hk : K57b_s s x = true) (hr : noM.fin n (V57b_s s x) = some r) : PureFn prog gl 57 [.int .i64 s, lnT x, .ref (.fn (.func 34) [] []) 0] r := run57b s x cx (T57b_s s x hk) hr

/-! ### 57 -/
noncomputable def g57c_s_1 (s : Int) (x : Ln) : List Bool := [prd 60 x, isV (lnT x) (lnT x)]
theorem w57c_s_1 (s : Int) (x : Ln) : outK prog f57 20 [] (runK prog D10 F0 2000 (.code (bodyOf f57)) [] 0 ([.int .i64 s, lnT x, .ref (.fn (.func 60) [] []) 0] ++ List.replicate 11 undefT) ⟨0, []⟩ [true] [])
    = some (OutT.done (some (T.int .i64 (IntKind.i64.wrap (s + x.mass)))), g57c_s_1 s x, { next := 0, objs := [] }, [], 0) := by kernel_rfl
noncomputable def g57c_s_2 (s : Int) (x : Ln) : List Bool := [!prd 60 x, isV (lnT x) (lnT x)]
theorem w57c_s_2 (s : Int) (x : Ln) : outK prog f57 20 [] (runK prog D10 F0 2000 (.code (bodyOf f57)) [] 0 ([.int .i64 s, lnT x, .ref (.fn (.func 60) [] []) 0] ++ List.replicate 11 undefT) ⟨0, []⟩ [false] [])
    = some (OutT.done (some (T.int .i64 s)), g57c_s_2 s x, { next := 0, objs := [] }, [], 0) := by kernel_rfl
noncomputable def o57c (s : Int) (x : Ln) : Option (Empty ⊕ T) :=
  (if prd 60 x then (if allT (g57c_s_1 s x) then some (.inr ((T.int .i64 (IntKind.i64.wrap (s + x.mass))))) else none) else (if allT (g57c_s_2 s x) then some (.inr ((T.int .i64 s))) else none))
noncomputable def V57c_s (s : Int) (x : Ln) : Empty ⊕ T :=
  (if prd 60 x then (.inr ((T.int .i64 (IntKind.i64.wrap (s + x.mass))))) else (.inr ((T.int .i64 s))))
noncomputable def K57c_s (s : Int) (x : Ln) : Bool :=
  (if prd 60 x then (allT (g57c_s_1 s x)) else (allT (g57c_s_2 s x)))
theorem T57c_s (s : Int) (x : Ln) (hk : K57c_s s x = true) : o57c s x = some (V57c_s s x) :=
  (tree_if tree_leaf tree_leaf) hk
theorem run57c (s : Int) (x : Ln) (cx : Cx prog D10 F0) {n : Nat} {o : Empty ⊕ T} {r : T} (h : o57c s x = some o) (hr : noM.fin n o = some r) : PureFn prog gl 57 [.int .i64 s, lnT x, .ref (.fn (.func 60) [] []) 0] r := by
  refine pure_mach (M := noM) (fn := f57) (k := 20) (d := 8) (c := bodyOf f57) cx glFrz (by kernel_rfl) func57 (by kernel_rfl) rfl (by kernel_rfl) (by kernel_rfl) (L := 11) (by kernel_rfl) noM_ways (fun σ => σ.elim) ?_ hr
  exact (ways_if (ways_leaf fun hk => ⟨2000, _, _, _, _, _, _, w57c_s_1 s x, hk⟩) (ways_leaf fun hk => ⟨2000, _, _, _, _, _, _, w57c_s_2 s x, hk⟩)) o h
theorem c57c (s : Int) (x : Ln) (cx : Cx prog D10 F0) (n : Nat) {r : T} (hk : K57c_s s x = true) (hr : noM.fin n (V57c_s s x) = some r) : PureFn prog gl 57 [.int .i64 s, lnT x, .ref (.fn (.func 60) [] []) 0] r := run57c s x cx (T57c_s s x hk) hr

/-! ### 57 -/
noncomputable def g57d_s_1 (s : Int) (x : Ln) : List Bool := [prd 61 x, isV (lnT x) (lnT x)]
theorem w57d_s_1 (s : Int) (x : Ln) : outK prog f57 20 [] (runK prog D10 F0 2000 (.code (bodyOf f57)) [] 0 ([.int .i64 s, lnT x, .ref (.fn (.func 61) [] []) 0] ++ List.replicate 11 undefT) ⟨0, []⟩ [true] [])
    = some (OutT.done (some (T.int .i64 (IntKind.i64.wrap (s + x.mass)))), g57d_s_1 s x, { next := 0, objs := [] }, [], 0) := by kernel_rfl
noncomputable def g57d_s_2 (s : Int) (x : Ln) : List Bool := [!prd 61 x, isV (lnT x) (lnT x)]
theorem w57d_s_2 (s : Int) (x : Ln) : outK prog f57 20 [] (runK prog D10 F0 2000 (.code (bodyOf f57)) [] 0 ([.int .i64 s, lnT x, .ref (.fn (.func 61) [] []) 0] ++ List.replicate 11 undefT) ⟨0, []⟩ [false] [])
    = some (OutT.done (some (T.int .i64 s)), g57d_s_2 s x, { next := 0, objs := [] }, [], 0) := by kernel_rfl
noncomputable def o57d (s : Int) (x : Ln) : Option (Empty ⊕ T) :=
  (if prd 61 x then (if allT (g57d_s_1 s x) then some (.inr ((T.int .i64 (IntKind.i64.wrap (s + x.mass))))) else none) else (if allT (g57d_s_2 s x) then some (.inr ((T.int .i64 s))) else none))
noncomputable def V57d_s (s : Int) (x : Ln) : Empty ⊕ T :=
  (if prd 61 x then (.inr ((T.int .i64 (IntKind.i64.wrap (s + x.mass))))) else (.inr ((T.int .i64 s))))
noncomputable def K57d_s (s : Int) (x : Ln) : Bool :=
  (if prd 61 x then (allT (g57d_s_1 s x)) else (allT (g57d_s_2 s x)))
theorem T57d_s (s : Int) (x : Ln) (hk : K57d_s s x = true) : o57d s x = some (V57d_s s x) :=
  (tree_if tree_leaf tree_leaf) hk
theorem run57d (s : Int) (x : Ln) (cx : Cx prog D10 F0) {n : Nat} {o : Empty ⊕ T} {r : T} (h : o57d s x = some o) (hr : noM.fin n o = some r) : PureFn prog gl 57 [.int .i64 s, lnT x, .ref (.fn (.func 61) [] []) 0] r := by
  refine pure_mach (M := noM) (fn := f57) (k := 20) (d := 8) (c := bodyOf f57) cx glFrz (by kernel_rfl) func57 (by kernel_rfl) rfl (by kernel_rfl) (by kernel_rfl) (L := 11) (by kernel_rfl) noM_ways (fun σ => σ.elim) ?_ hr
  exact (ways_if (ways_leaf fun hk => ⟨2000, _, _, _, _, _, _, w57d_s_1 s x, hk⟩) (ways_leaf fun hk => ⟨2000, _, _, _, _, _, _, w57d_s_2 s x, hk⟩)) o h
theorem c57d (s : Int) (x : Ln) (cx : Cx prog D10 F0) (n : Nat) {r : T} (hk : K57d_s s x = true) (hr : noM.fin n (V57d_s s x) = some r) : PureFn prog gl 57 [.int .i64 s, lnT x, .ref (.fn (.func 61) [] []) 0] r := run57d s x cx (T57d_s s x hk) hr

/-! ### 56 -/
inductive S56a where
  | l0 (x1 : Int) (x10 : Int) (x11 : Int)
noncomputable def g56a_s_1 (m : Nat) (f : Nat → Ln) (s : Int) : List Bool := []
theorem w56a_s_1 (m : Nat) (f : Nat → Ln) (s : Int) : outK prog f56 20 [1, 2, 9, 10, 11] (runK prog D11 F0 2000 (.code (bodyOf f56)) [] 0 ([lsT m f, .int .i64 s, .fn (.func 58) [] []] ++ List.replicate 18 undefT) ⟨0, []⟩ [] [])
    = some (OutT.loop 0 (loopAt f56 0).1 (loopAt f56 0).2, g56a_s_1 m f s, { next := 0, objs := [] }, [T.int .i64 s, T.fn (Fn.func 58) [] [], T.slf false m fun i => lnT (f i), T.int .i64 (↑m : Int), T.int .i64 0], 21) := by kernel_rfl
noncomputable def g56a_0_1 (m : Nat) (f : Nat → Ln) (s : Int) (x1 : Int) (x10 : Int) (x11 : Int) : List Bool := [isV (lnT (f x11.toNat)) (lnT (f x11.toNat)), true, true, decide (0 ≤ x11), decide (x11 < (↑m : Int)), true, decide (x11 < x10)]
theorem w56a_0_1 (m : Nat) (f : Nat → Ln) (s : Int) (x1 : Int) (x10 : Int) (x11 : Int) (fr : List T) : outK prog f56 20 [1, 2, 9, 10, 11] (runK prog D11 F0 2000 (.code (loopAt f56 0).1) (.lp :: (loopAt f56 0).2) 0 (frK [1, 2, 9, 10, 11] [T.int .i64 x1, T.fn (Fn.func 58) [] [], T.slf false m fun i => lnT (f i), T.int .i64 x10, T.int .i64 x11] fr 21) ⟨0, []⟩ [true] [])
    = some (OutT.again 0, g56a_0_1 m f s x1 x10 x11, { next := 0, objs := [] }, [T.int .i64 (F58 x1 (f x11.toNat)), T.fn (Fn.func 58) [] [], T.slf false m fun i => lnT (f i), T.int .i64 x10, T.int .i64 (IntKind.i64.wrap (x11 + 1))], 21) := by kernel_rfl
noncomputable def g56a_0_2 (m : Nat) (f : Nat → Ln) (s : Int) (x1 : Int) (x10 : Int) (x11 : Int) : List Bool := [!decide (x11 < x10)]
theorem w56a_0_2 (m : Nat) (f : Nat → Ln) (s : Int) (x1 : Int) (x10 : Int) (x11 : Int) (fr : List T) : outK prog f56 20 [] (runK prog D11 F0 2000 (.code (loopAt f56 0).1) (.lp :: (loopAt f56 0).2) 0 (frK [1, 2, 9, 10, 11] [T.int .i64 x1, T.fn (Fn.func 58) [] [], T.slf false m fun i => lnT (f i), T.int .i64 x10, T.int .i64 x11] fr 21) ⟨0, []⟩ [false] [])
    = some (OutT.done (some (T.int .i64 x1)), g56a_0_2 m f s x1 x10 x11, { next := 0, objs := [] }, [], 0) := by kernel_rfl
noncomputable def step56a_0 (m : Nat) (f : Nat → Ln) (s : Int) (x1 : Int) (x10 : Int) (x11 : Int) : Option (S56a ⊕ T) :=
  (if decide (x11 < x10) then (if allT (g56a_0_1 m f s x1 x10 x11) then some (.inl (.l0 (F58 x1 (f x11.toNat)) x10 (IntKind.i64.wrap (x11 + 1)))) else none) else (if allT (g56a_0_2 m f s x1 x10 x11) then some (.inr ((T.int .i64 x1))) else none))
noncomputable def V56a_0 (m : Nat) (f : Nat → Ln) (s : Int) (x1 : Int) (x10 : Int) (x11 : Int) : S56a ⊕ T :=
  (if decide (x11 < x10) then (.inl (.l0 (F58 x1 (f x11.toNat)) x10 (IntKind.i64.wrap (x11 + 1)))) else (.inr ((T.int .i64 x1))))
noncomputable def K56a_0 (m : Nat) (f : Nat → Ln) (s : Int) (x1 : Int) (x10 : Int) (x11 : Int) : Bool :=
  (if decide (x11 < x10) then (allT (g56a_0_1 m f s x1 x10 x11)) else (allT (g56a_0_2 m f s x1 x10 x11)))
theorem T56a_0 (m : Nat) (f : Nat → Ln) (s : Int) (x1 : Int) (x10 : Int) (x11 : Int) (hk : K56a_0 m f s x1 x10 x11 = true) : step56a_0 m f s x1 x10 x11 = some (V56a_0 m f s x1 x10 x11) :=
  (tree_if tree_leaf tree_leaf) hk
noncomputable def o56a (m : Nat) (f : Nat → Ln) (s : Int) : Option (S56a ⊕ T) :=
  (if allT (g56a_s_1 m f s) then some (.inl (.l0 s (↑m : Int) 0)) else none)
noncomputable def V56a_s (m : Nat) (f : Nat → Ln) (s : Int) : S56a ⊕ T :=
  (.inl (.l0 s (↑m : Int) 0))
noncomputable def K56a_s (m : Nat) (f : Nat → Ln) (s : Int) : Bool :=
  (allT (g56a_s_1 m f s))
theorem T56a_s (m : Nat) (f : Nat → Ln) (s : Int) (hk : K56a_s m f s = true) : o56a m f s = some (V56a_s m f s) :=
  tree_leaf hk
noncomputable def step56a (m : Nat) (f : Nat → Ln) (s : Int) : S56a → Option (S56a ⊕ T)
  | .l0 x1 x10 x11 => step56a_0 m f s x1 x10 x11
noncomputable def M56a (m : Nat) (f : Nat → Ln) (s : Int) : Mch S56a where
  lp := fun σ => match σ with
    | .l0 .. => 0
  keep := fun ι => match ι with
    | 0 => [1, 2, 9, 10, 11]
    | _ => []
  par := fun ι => match ι with
    | 0 => []
    | _ => []
  vs := fun σ => match σ with
    | .l0 x1 x10 x11 => [T.int .i64 x1, T.fn (Fn.func 58) [] [], T.slf false m fun i => lnT (f i), T.int .i64 x10, T.int .i64 x11]
  hp := fun σ => match σ with
    | .l0 _ _ _ => ⟨0, []⟩
  len := 21
  step := step56a m f s
theorem ways56a (m : Nat) (f : Nat → Ln) (s : Int) : (M56a m f s).Ways prog D11 F0 f56 20 := by
  intro σ o fr h
  cases σ with
  | l0 x1 x10 x11 =>
    change step56a_0 m f s x1 x10 x11 = some o at h
    exact (ways_if (ways_leaf fun hk => .inl ⟨2000, _, _, _, w56a_0_1 m f s x1 x10 x11 fr, hk, rfl⟩) (ways_leaf fun hk => ⟨2000, _, _, _, _, _, _, w56a_0_2 m f s x1 x10 x11 fr, hk⟩)) o h
theorem oks56a (m : Nat) (f : Nat → Ln) (s : Int) : ∀ σ, codeOk (loopAt f56 ((M56a m f s).lp σ)).1 = true ∧ ksOk (.lp :: (loopAt f56 ((M56a m f s).lp σ)).2) = true := by
  intro σ
  cases σ
  · exact ⟨(show codeOk (loopAt f56 0).1 = true by kernel_rfl), (show ksOk (.lp :: (loopAt f56 0).2) = true by kernel_rfl)⟩
theorem run56a (m : Nat) (f : Nat → Ln) (s : Int) (cx : Cx prog D11 F0) {n : Nat} {o : S56a ⊕ T} {r : T} (h : o56a m f s = some o) (hr : (M56a m f s).fin n o = some r) : PureFn prog gl 56 [lsT m f, .int .i64 s, .fn (.func 58) [] []] r := by
  refine pure_mach (M := (M56a m f s)) (fn := f56) (k := 20) (d := 8) (c := bodyOf f56) cx glFrz (by kernel_rfl) func56 (by kernel_rfl) rfl (by kernel_rfl) (by kernel_rfl) (L := 18) (by kernel_rfl) (ways56a m f s) (oks56a m f s) ?_ hr
  exact (ways_leaf fun hk => .inr ⟨2000, _, _, _, w56a_s_1 m f s, hk, rfl⟩) o h
theorem c56a (m : Nat) (f : Nat → Ln) (s : Int) (cx : Cx prog D11 F0) (n : Nat) {r : T} (hk : K56a_s m f s = true) (hr : (M56a m f s).fin n (V56a_s m f s) = some r) : PureFn prog gl 56 [lsT m f, .int .i64 s, .fn (.func 58) [] []] r := run56a m f s cx (T56a_s m f s hk) hr

/-! ### 56 -/
inductive S56b where
  | l0 (x1 : Int) (x10 : Int) (x11 : Int)
noncomputable def g56b_s_1 (m : Nat) (f : Nat → Ln) (s : Int) (g : Nat) : List Bool := []
theorem w56b_s_1 (m : Nat) (f : Nat → Ln) (s : Int) (g : Nat) : outK prog f56 20 [1, 2, 9, 10, 11] (runK prog D11 F0 2000 (.code (bodyOf f56)) [] 0 ([lsT m f, .int .i64 s, .fn (.func 57) [] [.ref (.fn (.func g) [] []) 0]] ++ List.replicate 18 undefT) ⟨0, []⟩ [] [])
    = some (OutT.loop 0 (loopAt f56 0).1 (loopAt f56 0).2, g56b_s_1 m f s g, { next := 0, objs := [] }, [T.int .i64 s, T.fn (Fn.func 57) [] [(T.fn (Fn.func g) [] []).ref 0], T.slf false m fun i => lnT (f i), T.int .i64 (↑m : Int), T.int .i64 0], 21) := by kernel_rfl
noncomputable def g56b_0_1 (m : Nat) (f : Nat → Ln) (s : Int) (g : Nat) (x1 : Int) (x10 : Int) (x11 : Int) : List Bool := [isV (lnT (f x11.toNat)) (lnT (f x11.toNat)), decide (g ∈ [59, 34, 60, 61]), true, true, decide (0 ≤ x11), decide (x11 < (↑m : Int)), true, decide (x11 < x10)]
theorem w56b_0_1 (m : Nat) (f : Nat → Ln) (s : Int) (g : Nat) (x1 : Int) (x10 : Int) (x11 : Int) (fr : List T) : outK prog f56 20 [1, 2, 9, 10, 11] (runK prog D11 F0 2000 (.code (loopAt f56 0).1) (.lp :: (loopAt f56 0).2) 0 (frK [1, 2, 9, 10, 11] [T.int .i64 x1, T.fn (Fn.func 57) [] [(T.fn (Fn.func g) [] []).ref 0], T.slf false m fun i => lnT (f i), T.int .i64 x10, T.int .i64 x11] fr 21) ⟨0, []⟩ [true] [])
    = some (OutT.again 0, g56b_0_1 m f s g x1 x10 x11, { next := 0, objs := [] }, [T.int .i64 (F57 g x1 (f x11.toNat)), T.fn (Fn.func 57) [] [(T.fn (Fn.func g) [] []).ref 0], T.slf false m fun i => lnT (f i), T.int .i64 x10, T.int .i64 (IntKind.i64.wrap (x11 + 1))], 21) := by kernel_rfl
noncomputable def g56b_0_2 (m : Nat) (f : Nat → Ln) (s : Int) (g : Nat) (x1 : Int) (x10 : Int) (x11 : Int) : List Bool := [!decide (x11 < x10)]
theorem w56b_0_2 (m : Nat) (f : Nat → Ln) (s : Int) (g : Nat) (x1 : Int) (x10 : Int) (x11 : Int) (fr : List T) : outK prog f56 20 [] (runK prog D11 F0 2000 (.code (loopAt f56 0).1) (.lp :: (loopAt f56 0).2) 0 (frK [1, 2, 9, 10, 11] [T.int .i64 x1, T.fn (Fn.func 57) [] [(T.fn (Fn.func g) [] []).ref 0], T.slf false m fun i => lnT (f i), T.int .i64 x10, T.int .i64 x11] fr 21) ⟨0, []⟩ [false] [])
    = some (OutT.done (some (T.int .i64 x1)), g56b_0_2 m f s g x1 x10 x11, { next := 0, objs := [] }, [], 0) := by kernel_rfl
noncomputable def step56b_0 (m : Nat) (f : Nat → Ln) (s : Int) (g : Nat) (x1 : Int) (x10 : Int) (x11 : Int) : Option (S56b ⊕ T) :=
  (if decide (x11 < x10) then (if allT (g56b_0_1 m f s g x1 x10 x11) then some (.inl (.l0 (F57 g x1 (f x11.toNat)) x10 (IntKind.i64.wrap (x11 + 1)))) else none) else (if allT (g56b_0_2 m f s g x1 x10 x11) then some (.inr ((T.int .i64 x1))) else none))
noncomputable def V56b_0 (m : Nat) (f : Nat → Ln) (s : Int) (g : Nat) (x1 : Int) (x10 : Int) (x11 : Int) : S56b ⊕ T :=
  (if decide (x11 < x10) then (.inl (.l0 (F57 g x1 (f x11.toNat)) x10 (IntKind.i64.wrap (x11 + 1)))) else (.inr ((T.int .i64 x1))))
noncomputable def K56b_0 (m : Nat) (f : Nat → Ln) (s : Int) (g : Nat) (x1 : Int) (x10 : Int) (x11 : Int) : Bool :=
  (if decide (x11 < x10) then (allT (g56b_0_1 m f s g x1 x10 x11)) else (allT (g56b_0_2 m f s g x1 x10 x11)))
theorem T56b_0 (m : Nat) (f : Nat → Ln) (s : Int) (g : Nat) (x1 : Int) (x10 : Int) (x11 : Int) (hk : K56b_0 m f s g x1 x10 x11 = true) : step56b_0 m f s g x1 x10 x11 = some (V56b_0 m f s g x1 x10 x11) :=
  (tree_if tree_leaf tree_leaf) hk
noncomputable def o56b (m : Nat) (f : Nat → Ln) (s : Int) (g : Nat) : Option (S56b ⊕ T) :=
  (if allT (g56b_s_1 m f s g) then some (.inl (.l0 s (↑m : Int) 0)) else none)
noncomputable def V56b_s (m : Nat) (f : Nat → Ln) (s : Int) (g : Nat) : S56b ⊕ T :=
  (.inl (.l0 s (↑m : Int) 0))
noncomputable def K56b_s (m : Nat) (f : Nat → Ln) (s : Int) (g : Nat) : Bool :=
  (allT (g56b_s_1 m f s g))
theorem T56b_s (m : Nat) (f : Nat → Ln) (s : Int) (g : Nat) (hk : K56b_s m f s g = true) : o56b m f s g = some (V56b_s m f s g) :=
  tree_leaf hk
noncomputable def step56b (m : Nat) (f : Nat → Ln) (s : Int) (g : Nat) : S56b → Option (S56b ⊕ T)
  | .l0 x1 x10 x11 => step56b_0 m f s g x1 x10 x11
noncomputable def M56b (m : Nat) (f : Nat → Ln) (s : Int) (g : Nat) : Mch S56b where
  lp := fun σ => match σ with
    | .l0 .. => 0
  keep := fun ι => match ι with
    | 0 => [1, 2, 9, 10, 11]
    | _ => []
  par := fun ι => match ι with
    | 0 => []
    | _ => []
  vs := fun σ => match σ with
    | .l0 x1 x10 x11 => [T.int .i64 x1, T.fn (Fn.func 57) [] [(T.fn (Fn.func g) [] []).ref 0], T.slf false m fun i => lnT (f i), T.int .i64 x10, T.int .i64 x11]
  hp := fun σ => match σ with
    | .l0 _ _ _ => ⟨0, []⟩
  len := 21
  step := step56b m f s g
theorem ways56b (m : Nat) (f : Nat → Ln) (s : Int) (g : Nat) : (M56b m f s g).Ways prog D11 F0 f56 20 := by
  intro σ o fr h
  cases σ with
  | l0 x1 x10 x11 =>
    change step56b_0 m f s g x1 x10 x11 = some o at h
    exact (ways_if (ways_leaf fun hk => .inl ⟨2000, _, _, _, w56b_0_1 m f s g x1 x10 x11 fr, hk, rfl⟩) (ways_leaf fun hk => ⟨2000, _, _, _, _, _, _, w56b_0_2 m f s g x1 x10 x11 fr, hk⟩)) o h
theorem oks56b (m : Nat) (f : Nat → Ln) (s : Int) (g : Nat) : ∀ σ, codeOk (loopAt f56 ((M56b m f s g).lp σ)).1 = true ∧ ksOk (.lp :: (loopAt f56 ((M56b m f s g).lp σ)).2) = true := by
  intro σ
  cases σ
  · exact ⟨(show codeOk (loopAt f56 0).1 = true by kernel_rfl), (show ksOk (.lp :: (loopAt f56 0).2) = true by kernel_rfl)⟩
theorem run56b (m : Nat) (f : Nat → Ln) (s : Int) (g : Nat) (cx : Cx prog D11 F0) {n : Nat} {o : S56b ⊕ T} {r : T} (h : o56b m f s g = some o) (hr : (M56b m f s g).fin n o = some r) : PureFn prog gl 56 [lsT m f, .int .i64 s, .fn (.func 57) [] [.ref (.fn (.func g) [] []) 0]] r := by
  refine pure_mach (M := (M56b m f s g)) (fn := f56) (k := 20) (d := 8) (c := bodyOf f56) cx glFrz (by kernel_rfl) func56 (by kernel_rfl) rfl (by kernel_rfl) (by kernel_rfl) (L := 18) (by kernel_rfl) (ways56b m f s g) (oks56b m f s g) ?_ hr
  exact (ways_leaf fun hk => .inr ⟨2000, _, _, _, w56b_s_1 m f s g, hk, rfl⟩) o h
theorem c56b (m : Nat) (f : Nat → Ln) (s : Int) (g : Nat) (cx : Cx prog D11 F0) (n : Nat) {r : T} (hk : K56b_s m f s g = true) (hr : (M56b m f s g).fin n (V56b_s m f s g) = some r) : PureFn prog gl 56 [lsT m f, .int .i64 s, .fn (.func 57) [] [.ref (.fn (.func g) [] []) 0]] r := run56b m f s g cx (T56b_s m f s g hk) hr

/-! ### 55 -/
noncomputable def g55_s_1 (g : Nat) (c : Ct) : List Bool := [isV (T.slf false c.n fun i => lnT (c.line i)) (lsT c.n c.line), decide (c.n ≤ 281474976710656), decide (g ∈ [59, 34, 60, 61])]
theorem w55_s_1 (g : Nat) (c : Ct) : outK prog f55 20 [] (runK prog D12 F0 2000 (.code (bodyOf f55)) [] 0 ([.fn (.func g) [] [], .ref (ctT c) 0] ++ List.replicate 6 undefT) ⟨0, []⟩ [] [])
    = some (OutT.done (some (T.int .i64 (sumR (F57 g) c.line c.n 0 0))), g55_s_1 g c, { next := 0, objs := [] }, [], 0) := by kernel_rfl
noncomputable def o55 (g : Nat) (c : Ct) : Option (Empty ⊕ T) :=
  (if allT (g55_s_1 g c) then some (.inr ((T.int .i64 (sumR (F57 g) c.line c.n 0 0)))) else none)
noncomputable def V55_s (g : Nat) (c : Ct) : Empty ⊕ T :=
  (.inr ((T.int .i64 (sumR (F57 g) c.line c.n 0 0))))
noncomputable def K55_s (g : Nat) (c : Ct) : Bool :=
  (allT (g55_s_1 g c))
theorem T55_s (g : Nat) (c : Ct) (hk : K55_s g c = true) : o55 g c = some (V55_s g c) :=
  tree_leaf hk
theorem run55 (g : Nat) (c : Ct) (cx : Cx prog D12 F0) {n : Nat} {o : Empty ⊕ T} {r : T} (h : o55 g c = some o) (hr : noM.fin n o = some r) : PureFn prog gl 55 [.fn (.func g) [] [], .ref (ctT c) 0] r := by
  refine pure_mach (M := noM) (fn := f55) (k := 20) (d := 8) (c := bodyOf f55) cx glFrz (by kernel_rfl) func55 (by kernel_rfl) rfl (by kernel_rfl) (by kernel_rfl) (L := 6) (by kernel_rfl) noM_ways (fun σ => σ.elim) ?_ hr
  exact (ways_leaf fun hk => ⟨2000, _, _, _, _, _, _, w55_s_1 g c, hk⟩) o h
theorem c55 (g : Nat) (c : Ct) (cx : Cx prog D12 F0) (n : Nat) {r : T} (hk : K55_s g c = true) (hr : noM.fin n (V55_s g c) = some r) : PureFn prog gl 55 [.fn (.func g) [] [], .ref (ctT c) 0] r := run55 g c cx (T55_s g c hk) hr

/-! ### 40 -/
noncomputable def g40_s_1 (c : Ct) : List Bool := [true, true, true, true, true, true, isV (T.agg [T.int .i64 c.entries, T.int .i64 (sumR F58 c.line c.n 0 0), T.int .i64 (sumR (F57 59) c.line c.n 0 0), T.int .i64 (sumR (F57 34) c.line c.n 0 0), T.int .i64 (sumR (F57 60) c.line c.n 0 0), T.int .i64 c.discarded, T.slf false c.n fun i => lnT (c.line i)]) (ctT { entries := c.entries, accepted := sumR F58 c.line c.n 0 0, delivered := sumR (F57 59) c.line c.n 0 0, waiting := sumR (F57 34) c.line c.n 0 0, letters := sumR (F57 60) c.line c.n 0 0, discarded := c.discarded, n := c.n, line := c.line }), decide (c.n ≤ 281474976710656), true, true, true, true, isV (T.agg [T.int .i64 c.entries, T.int .i64 (sumR F58 c.line c.n 0 0), T.int .i64 (sumR (F57 59) c.line c.n 0 0), T.int .i64 (sumR (F57 34) c.line c.n 0 0), T.int .i64 c.letters, T.int .i64 c.discarded, T.slf false c.n fun i => lnT (c.line i)]) (ctT { entries := c.entries, accepted := sumR F58 c.line c.n 0 0, delivered := sumR (F57 59) c.line c.n 0 0, waiting := sumR (F57 34) c.line c.n 0 0, letters := c.letters, discarded := c.discarded, n := c.n, line := c.line }), decide (c.n ≤ 281474976710656), true, true, true, true, isV (T.agg [T.int .i64 c.entries, T.int .i64 (sumR F58 c.line c.n 0 0), T.int .i64 (sumR (F57 59) c.line c.n 0 0), T.int .i64 c.waiting, T.int .i64 c.letters, T.int .i64 c.discarded, T.slf false c.n fun i => lnT (c.line i)]) (ctT { entries := c.entries, accepted := sumR F58 c.line c.n 0 0, delivered := sumR (F57 59) c.line c.n 0 0, waiting := c.waiting, letters := c.letters, discarded := c.discarded, n := c.n, line := c.line }), decide (c.n ≤ 281474976710656), true, true, true, true, isV (T.agg [T.int .i64 c.entries, T.int .i64 (sumR F58 c.line c.n 0 0), T.int .i64 c.delivered, T.int .i64 c.waiting, T.int .i64 c.letters, T.int .i64 c.discarded, T.slf false c.n fun i => lnT (c.line i)]) (ctT { entries := c.entries, accepted := sumR F58 c.line c.n 0 0, delivered := c.delivered, waiting := c.waiting, letters := c.letters, discarded := c.discarded, n := c.n, line := c.line }), decide (c.n ≤ 281474976710656), true, true, true, true, isV (T.slf false c.n fun i => lnT (c.line i)) (lsT c.n c.line), decide (c.n ≤ 281474976710656)]
theorem w40_s_1 (c : Ct) : outK prog f40 20 [] (runK prog D13 F40 2000 (.code (bodyOf f40)) [] 0 ([ctT c] ++ List.replicate 21 undefT) ⟨0, []⟩ [] [])
    = some (OutT.done (some (T.agg [T.int .i64 c.entries, T.int .i64 (sumR F58 c.line c.n 0 0), T.int .i64 (sumR (F57 59) c.line c.n 0 0), T.int .i64 (sumR (F57 34) c.line c.n 0 0), T.int .i64 (sumR (F57 60) c.line c.n 0 0), T.int .i64 (sumR (F57 61) c.line c.n 0 0), T.slf false c.n fun i => lnT (c.line i)])), g40_s_1 c, { next := 0, objs := [] }, [], 0) := by kernel_rfl
noncomputable def o40 (c : Ct) : Option (Empty ⊕ T) :=
  (if allT (g40_s_1 c) then some (.inr ((T.agg [T.int .i64 c.entries, T.int .i64 (sumR F58 c.line c.n 0 0), T.int .i64 (sumR (F57 59) c.line c.n 0 0), T.int .i64 (sumR (F57 34) c.line c.n 0 0), T.int .i64 (sumR (F57 60) c.line c.n 0 0), T.int .i64 (sumR (F57 61) c.line c.n 0 0), T.slf false c.n fun i => lnT (c.line i)]))) else none)
noncomputable def V40_s (c : Ct) : Empty ⊕ T :=
  (.inr ((T.agg [T.int .i64 c.entries, T.int .i64 (sumR F58 c.line c.n 0 0), T.int .i64 (sumR (F57 59) c.line c.n 0 0), T.int .i64 (sumR (F57 34) c.line c.n 0 0), T.int .i64 (sumR (F57 60) c.line c.n 0 0), T.int .i64 (sumR (F57 61) c.line c.n 0 0), T.slf false c.n fun i => lnT (c.line i)])))
noncomputable def K40_s (c : Ct) : Bool :=
  (allT (g40_s_1 c))
theorem T40_s (c : Ct) (hk : K40_s c = true) : o40 c = some (V40_s c) :=
  tree_leaf hk
theorem run40 (c : Ct) (cx : Cx prog D13 F40) {n : Nat} {o : Empty ⊕ T} {r : T} (h : o40 c = some o) (hr : noM.fin n o = some r) : PureFn prog gl 40 [ctT c] r := by
  refine pure_mach (M := noM) (fn := f40) (k := 20) (d := 8) (c := bodyOf f40) cx glFrz (by kernel_rfl) func40 (by kernel_rfl) rfl (by kernel_rfl) (by kernel_rfl) (L := 21) (by kernel_rfl) noM_ways (fun σ => σ.elim) ?_ hr
  exact (ways_leaf fun hk => ⟨2000, _, _, _, _, _, _, w40_s_1 c, hk⟩) o h
theorem c40 (c : Ct) (cx : Cx prog D13 F40) (n : Nat) {r : T} (hk : K40_s c = true) (hr : noM.fin n (V40_s c) = some r) : PureFn prog gl 40 [ctT c] r := run40 c cx (T40_s c hk) hr
end Go.Proofs.Tryd

/- The sums: proved. -/
namespace Go.Proofs
open Go.Ps
set_option maxRecDepth 100000
set_option linter.unusedSimpArgs false

theorem Tryd.s57_ok (ts : List T) (r : T) (cs : List Bool) (h : Tryd.s57 ts = some (r, cs)) (k : allT cs = true) : PureFn Tryd.prog Tryd.gl 57 ts r := by
  unfold Tryd.s57 at h; split at h
  · rename_i s t g
    cases h
    simp only [allT, Bool.and_true, Bool.and_eq_true, isV_iff, decide_eq_true_eq] at k
    rw [k.1, lnv_lnT]
    have hg := k.2
    clear k
    simp only [List.mem_cons, List.not_mem_nil, or_false] at hg
    unfold Tryd.F57
    rcases hg with rfl | rfl | rfl | rfl
    · refine Tryd.c57a s (lnv t) Tryd.cx10 0 ?_ ?_
      · unfold Tryd.K57a_s; refine Tryd.tree_eq (fun e => ?_) (fun e => ?_) <;> simp [Tryd.g57a_s_1, Tryd.g57a_s_2, allT, e]
      · unfold Tryd.V57a_s; cases Tryd.prd 59 (lnv t) <;> rfl
    · refine Tryd.c57b s (lnv t) Tryd.cx10 0 ?_ ?_
      · unfold Tryd.K57b_s; refine Tryd.tree_eq (fun e => ?_) (fun e => ?_) <;> simp [Tryd.g57b_s_1, Tryd.g57b_s_2, allT] <;> simpa using e
      · unfold Tryd.V57b_s
        show _ = some (T.int .i64 (if (lnv t).fate == 0 then _ else _))
        cases (lnv t).fate == 0 <;> rfl
    · refine Tryd.c57c s (lnv t) Tryd.cx10 0 ?_ ?_
      · unfold Tryd.K57c_s; refine Tryd.tree_eq (fun e => ?_) (fun e => ?_) <;> simp [Tryd.g57c_s_1, Tryd.g57c_s_2, allT, e]
      · unfold Tryd.V57c_s; cases Tryd.prd 60 (lnv t) <;> rfl
    · refine Tryd.c57d s (lnv t) Tryd.cx10 0 ?_ ?_
      · unfold Tryd.K57d_s; refine Tryd.tree_eq (fun e => ?_) (fun e => ?_) <;> simp [Tryd.g57d_s_1, Tryd.g57d_s_2, allT, e]
      · unfold Tryd.V57d_s; cases Tryd.prd 61 (lnv t) <;> rfl
  · cases h
theorem Tryd.cx11 : Cx Tryd.prog Tryd.D11 Tryd.F0 := ⟨Tryd.follows, pdAdd_ok Tryd.cx10.hE Tryd.s57_ok, Tryd.F0ok⟩

theorem Tryd.run56a_eq (m : Nat) (f : Nat → Ln) (s0 : Int) (hm : m ≤ 281474976710656) : ∀ (k i : Nat) (s : Int), k + i = m → Tryd.Runs (Tryd.M56a m f s0) (.l0 s m i) (.int .i64 (Tryd.sumR Tryd.F58 f k i s)) := by
  intro k
  induction k with
  | zero =>
    intro i s hi
    have : i = m := by omega
    subst this
    refine .done ?_
    show Tryd.step56a_0 i f s0 s i i = _
    rw [Tryd.T56a_0 i f s0 s i i (by unfold Tryd.K56a_0; rw [if_neg (by simp)]; simp [Tryd.g56a_0_2, allT])]
    unfold Tryd.V56a_0
    rw [if_neg (by simp)]
    rfl
  | succ k ih =>
    intro i s hi
    refine .next ?_ (ih (i + 1) (Tryd.F58 s (f i)) (by omega))
    show Tryd.step56a_0 m f s0 s m i = _
    have b1 : decide ((i : Int) < m) = true := decide_eq_true (by omega)
    have b2 : decide ((0 : Int) ≤ i) = true := decide_eq_true (by omega)
    rw [Tryd.T56a_0 m f s0 s m i (by unfold Tryd.K56a_0; rw [if_pos b1]; simp only [Tryd.g56a_0_1, allT, isV_self, b1, b2, Bool.and_true])]
    unfold Tryd.V56a_0
    rw [if_pos b1, Tryd.wsucc i (by omega), Int.toNat_natCast]
theorem Tryd.run56b_eq (m : Nat) (f : Nat → Ln) (s0 : Int) (g : Nat) (hm : m ≤ 281474976710656) (hg : g ∈ [59, 34, 60, 61]) : ∀ (k i : Nat) (s : Int), k + i = m → Tryd.Runs (Tryd.M56b m f s0 g) (.l0 s m i) (.int .i64 (Tryd.sumR (Tryd.F57 g) f k i s)) := by
  intro k
  induction k with
  | zero =>
    intro i s hi
    have : i = m := by omega
    subst this
    refine .done ?_
    show Tryd.step56b_0 i f s0 g s i i = _
    rw [Tryd.T56b_0 i f s0 g s i i (by unfold Tryd.K56b_0; rw [if_neg (by simp)]; simp [Tryd.g56b_0_2, allT])]
    unfold Tryd.V56b_0
    rw [if_neg (by simp)]
    rfl
  | succ k ih =>
    intro i s hi
    refine .next ?_ (ih (i + 1) (Tryd.F57 g s (f i)) (by omega))
    show Tryd.step56b_0 m f s0 g s m i = _
    have b1 : decide ((i : Int) < m) = true := decide_eq_true (by omega)
    have b2 : decide ((0 : Int) ≤ i) = true := decide_eq_true (by omega)
    rw [Tryd.T56b_0 m f s0 g s m i (by unfold Tryd.K56b_0; rw [if_pos b1]; simp only [Tryd.g56b_0_1, allT, isV_self, b1, b2, decide_eq_true hg, Bool.and_true])]
    unfold Tryd.V56b_0
    rw [if_pos b1, Tryd.wsucc i (by omega), Int.toNat_natCast]
theorem Tryd.s56_ok (ts : List T) (r : T) (cs : List Bool) (h : Tryd.s56 ts = some (r, cs)) (k : allT cs = true) : PureFn Tryd.prog Tryd.gl 56 ts r := by
  unfold Tryd.s56 at h; split at h
  · rename_i t s
    cases h
    simp only [allT, Bool.and_true, Bool.and_eq_true, isV_iff, decide_eq_true_eq] at k
    obtain ⟨n, hn⟩ := Tryd.run56a_eq (slN t) (lsv t) s k.2 (slN t) 0 s rfl
    rw [k.1]
    exact Tryd.c56a (slN t) (lsv t) s Tryd.cx11 n (by unfold Tryd.K56a_s; simp [Tryd.g56a_s_1, allT]) (by unfold Tryd.V56a_s; exact hn)
  · rename_i t s g
    cases h
    simp only [allT, Bool.and_true, Bool.and_eq_true, isV_iff, decide_eq_true_eq] at k
    obtain ⟨n, hn⟩ := Tryd.run56b_eq (slN t) (lsv t) s g k.2.1 k.2.2 (slN t) 0 s rfl
    rw [k.1]
    exact Tryd.c56b (slN t) (lsv t) s g Tryd.cx11 n (by unfold Tryd.K56b_s; simp [Tryd.g56b_s_1, allT]) (by unfold Tryd.V56b_s; exact hn)
  · cases h
theorem Tryd.cx12 : Cx Tryd.prog Tryd.D12 Tryd.F0 := ⟨Tryd.follows, pdAdd_ok Tryd.cx11.hE Tryd.s56_ok, Tryd.F0ok⟩
theorem Tryd.s55_ok (ts : List T) (r : T) (cs : List Bool) (h : Tryd.s55 ts = some (r, cs)) (k : allT cs = true) : PureFn Tryd.prog Tryd.gl 55 ts r := by
  unfold Tryd.s55 at h; split at h
  · rename_i g c
    cases h
    simp only [allT, Bool.and_true, Bool.and_eq_true, isV_iff, decide_eq_true_eq] at k
    rw [k.1]
    exact Tryd.c55 g (ctv c) Tryd.cx12 0 (by unfold Tryd.K55_s; simp only [Tryd.g55_s_1, allT, lsT, isV_self, decide_eq_true k.2.1, decide_eq_true k.2.2, Bool.and_true]) rfl
  · cases h
theorem Tryd.F40ok : EeOk Tryd.prog Tryd.gl Tryd.F40.ee := eeNone_ok
theorem Tryd.cx13 : Cx Tryd.prog Tryd.D13 Tryd.F40 := ⟨Tryd.follows, pdLend_ok Tryd.glFrz Tryd.cx12.hE Tryd.s55_ok, Tryd.F40ok⟩

/-- A certificate with the right sums. -/
def Tryd.sums (c : Ct) : Ct := { c with accepted := Tryd.sumR Tryd.F58 c.line c.n 0 0, delivered := Tryd.sumR (Tryd.F57 59) c.line c.n 0 0, waiting := Tryd.sumR (Tryd.F57 34) c.line c.n 0 0, letters := Tryd.sumR (Tryd.F57 60) c.line c.n 0 0, discarded := Tryd.sumR (Tryd.F57 61) c.line c.n 0 0 }
theorem Tryd.sums_ok (c : Ct) (hn : c.n ≤ 281474976710656) : PureFn Tryd.prog Tryd.gl 40 [ctT c] (ctT (Tryd.sums c)) := by
  refine Tryd.c40 c Tryd.cx13 0 ?_ rfl
  unfold Tryd.K40_s
  simp [Tryd.g40_s_1, allT, lsT, ctT, hn]
end Go.Proofs

/- The contract of the sums. -/
namespace Go.Proofs
open Go.Ps
noncomputable def Tryd.s40 : List T → Option (T × List Bool)
  | [t] => some (ctT (Tryd.sums (ctv t)), [isV t (ctT (ctv t)), decide ((ctv t).n ≤ 281474976710656)])
  | _ => none
theorem Tryd.s40_ok (ts : List T) (r : T) (cs : List Bool) (h : Tryd.s40 ts = some (r, cs)) (k : allT cs = true) : PureFn Tryd.prog Tryd.gl 40 ts r := by
  unfold Tryd.s40 at h; split at h
  · rename_i t
    cases h
    simp only [allT, Bool.and_true, Bool.and_eq_true, isV_iff, decide_eq_true_eq] at k
    rw [k.1]; exact Tryd.sums_ok _ k.2
  · cases h
noncomputable def Tryd.D14 : Ed := ⟨Tryd.gl, pdAdd 40 Tryd.s40 Tryd.D12.pd⟩
theorem Tryd.cx14 : Cx Tryd.prog Tryd.D14 Tryd.F0 := ⟨Tryd.follows, pdAdd_ok Tryd.cx12.hE Tryd.s40_ok, Tryd.F0ok⟩
theorem Tryd.cx14b : Cx Tryd.prog Tryd.D14 Tryd.F40 := ⟨Tryd.follows, pdAdd_ok Tryd.cx12.hE Tryd.s40_ok, Tryd.F40ok⟩
end Go.Proofs

/- totals, both, and small as machines, by program (gen2). -/
namespace Go.Proofs.Tryd
open Go.Ps
set_option maxRecDepth 100000
set_option linter.unusedVariables false
set_option linter.unusedSimpArgs false

/-! ### 19 -/
noncomputable def g19_s_1 (c : Ct) : List Bool := [true, true, true, true, true, true, true, true, true, true, true, true, true, true, true, true, true, true, true, c.accepted != sumR F58 c.line c.n 0 0, c.accepted != sumR F58 c.line c.n 0 0, c.accepted != sumR F58 c.line c.n 0 0, c.accepted != sumR F58 c.line c.n 0 0, c.accepted != sumR F58 c.line c.n 0 0, c.accepted != sumR F58 c.line c.n 0 0, true, true, isV (ctT c) (ctT c), decide (c.n ≤ 281474976710656)]
theorem w19_s_1 (c : Ct) : outK prog f19 20 [] (runK prog D14 F0 2000 (.code (bodyOf f19)) [] 0 ([ctT c] ++ List.replicate 38 undefT) ⟨0, []⟩ (bt 25 33554431) [])
    = some (OutT.done (some (T.int .i64 38)), g19_s_1 c, { next := 0, objs := [] }, [], 0) := by kernel_rfl
noncomputable def g19_s_2 (c : Ct) : List Bool := [true, true, true, true, true, true, true, true, true, true, true, true, true, c.delivered != sumR (F57 59) c.line c.n 0 0, c.delivered != sumR (F57 59) c.line c.n 0 0, c.delivered != sumR (F57 59) c.line c.n 0 0, c.delivered != sumR (F57 59) c.line c.n 0 0, c.delivered != sumR (F57 59) c.line c.n 0 0, c.delivered != sumR (F57 59) c.line c.n 0 0, !c.accepted != sumR F58 c.line c.n 0 0, !c.accepted != sumR F58 c.line c.n 0 0, !c.accepted != sumR F58 c.line c.n 0 0, !c.accepted != sumR F58 c.line c.n 0 0, !c.accepted != sumR F58 c.line c.n 0 0, !c.accepted != sumR F58 c.line c.n 0 0, true, true, isV (ctT c) (ctT c), decide (c.n ≤ 281474976710656)]
theorem w19_s_2 (c : Ct) : outK prog f19 20 [] (runK prog D14 F0 2000 (.code (bodyOf f19)) [] 0 ([ctT c] ++ List.replicate 38 undefT) ⟨0, []⟩ (bt 25 33554368) [])
    = some (OutT.done (some (T.int .i64 38)), g19_s_2 c, { next := 0, objs := [] }, [], 0) := by kernel_rfl
noncomputable def g19_s_3 (c : Ct) : List Bool := [true, true, true, true, true, true, true, c.waiting != sumR (F57 34) c.line c.n 0 0, c.waiting != sumR (F57 34) c.line c.n 0 0, c.waiting != sumR (F57 34) c.line c.n 0 0, c.waiting != sumR (F57 34) c.line c.n 0 0, c.waiting != sumR (F57 34) c.line c.n 0 0, c.waiting != sumR (F57 34) c.line c.n 0 0, !c.delivered != sumR (F57 59) c.line c.n 0 0, !c.delivered != sumR (F57 59) c.line c.n 0 0, !c.delivered != sumR (F57 59) c.line c.n 0 0, !c.delivered != sumR (F57 59) c.line c.n 0 0, !c.delivered != sumR (F57 59) c.line c.n 0 0, !c.delivered != sumR (F57 59) c.line c.n 0 0, !c.accepted != sumR F58 c.line c.n 0 0, !c.accepted != sumR F58 c.line c.n 0 0, !c.accepted != sumR F58 c.line c.n 0 0, !c.accepted != sumR F58 c.line c.n 0 0, !c.accepted != sumR F58 c.line c.n 0 0, !c.accepted != sumR F58 c.line c.n 0 0, true, true, isV (ctT c) (ctT c), decide (c.n ≤ 281474976710656)]
theorem w19_s_3 (c : Ct) : outK prog f19 20 [] (runK prog D14 F0 2000 (.code (bodyOf f19)) [] 0 ([ctT c] ++ List.replicate 38 undefT) ⟨0, []⟩ (bt 25 33550336) [])
    = some (OutT.done (some (T.int .i64 38)), g19_s_3 c, { next := 0, objs := [] }, [], 0) := by kernel_rfl
noncomputable def g19_s_4 (c : Ct) : List Bool := [true, c.letters != sumR (F57 60) c.line c.n 0 0, c.letters != sumR (F57 60) c.line c.n 0 0, c.letters != sumR (F57 60) c.line c.n 0 0, c.letters != sumR (F57 60) c.line c.n 0 0, c.letters != sumR (F57 60) c.line c.n 0 0, c.letters != sumR (F57 60) c.line c.n 0 0, !c.waiting != sumR (F57 34) c.line c.n 0 0, !c.waiting != sumR (F57 34) c.line c.n 0 0, !c.waiting != sumR (F57 34) c.line c.n 0 0, !c.waiting != sumR (F57 34) c.line c.n 0 0, !c.waiting != sumR (F57 34) c.line c.n 0 0, !c.waiting != sumR (F57 34) c.line c.n 0 0, !c.delivered != sumR (F57 59) c.line c.n 0 0, !c.delivered != sumR (F57 59) c.line c.n 0 0, !c.delivered != sumR (F57 59) c.line c.n 0 0, !c.delivered != sumR (F57 59) c.line c.n 0 0, !c.delivered != sumR (F57 59) c.line c.n 0 0, !c.delivered != sumR (F57 59) c.line c.n 0 0, !c.accepted != sumR F58 c.line c.n 0 0, !c.accepted != sumR F58 c.line c.n 0 0, !c.accepted != sumR F58 c.line c.n 0 0, !c.accepted != sumR F58 c.line c.n 0 0, !c.accepted != sumR F58 c.line c.n 0 0, !c.accepted != sumR F58 c.line c.n 0 0, true, true, isV (ctT c) (ctT c), decide (c.n ≤ 281474976710656)]
theorem w19_s_4 (c : Ct) : outK prog f19 20 [] (runK prog D14 F0 2000 (.code (bodyOf f19)) [] 0 ([ctT c] ++ List.replicate 38 undefT) ⟨0, []⟩ (bt 25 33292288) [])
    = some (OutT.done (some (T.int .i64 38)), g19_s_4 c, { next := 0, objs := [] }, [], 0) := by kernel_rfl
noncomputable def g19_s_5 (c : Ct) : List Bool := [c.discarded != sumR (F57 61) c.line c.n 0 0, !c.letters != sumR (F57 60) c.line c.n 0 0, !c.letters != sumR (F57 60) c.line c.n 0 0, !c.letters != sumR (F57 60) c.line c.n 0 0, !c.letters != sumR (F57 60) c.line c.n 0 0, !c.letters != sumR (F57 60) c.line c.n 0 0, !c.letters != sumR (F57 60) c.line c.n 0 0, !c.waiting != sumR (F57 34) c.line c.n 0 0, !c.waiting != sumR (F57 34) c.line c.n 0 0, !c.waiting != sumR (F57 34) c.line c.n 0 0, !c.waiting != sumR (F57 34) c.line c.n 0 0, !c.waiting != sumR (F57 34) c.line c.n 0 0, !c.waiting != sumR (F57 34) c.line c.n 0 0, !c.delivered != sumR (F57 59) c.line c.n 0 0, !c.delivered != sumR (F57 59) c.line c.n 0 0, !c.delivered != sumR (F57 59) c.line c.n 0 0, !c.delivered != sumR (F57 59) c.line c.n 0 0, !c.delivered != sumR (F57 59) c.line c.n 0 0, !c.delivered != sumR (F57 59) c.line c.n 0 0, !c.accepted != sumR F58 c.line c.n 0 0, !c.accepted != sumR F58 c.line c.n 0 0, !c.accepted != sumR F58 c.line c.n 0 0, !c.accepted != sumR F58 c.line c.n 0 0, !c.accepted != sumR F58 c.line c.n 0 0, !c.accepted != sumR F58 c.line c.n 0 0, true, true, isV (ctT c) (ctT c), decide (c.n ≤ 281474976710656)]
theorem w19_s_5 (c : Ct) : outK prog f19 20 [] (runK prog D14 F0 2000 (.code (bodyOf f19)) [] 0 ([ctT c] ++ List.replicate 38 undefT) ⟨0, []⟩ (bt 25 16777216) [])
    = some (OutT.done (some (T.int .i64 38)), g19_s_5 c, { next := 0, objs := [] }, [], 0) := by kernel_rfl
noncomputable def g19_s_6 (c : Ct) : List Bool := [!c.discarded != sumR (F57 61) c.line c.n 0 0, !c.letters != sumR (F57 60) c.line c.n 0 0, !c.letters != sumR (F57 60) c.line c.n 0 0, !c.letters != sumR (F57 60) c.line c.n 0 0, !c.letters != sumR (F57 60) c.line c.n 0 0, !c.letters != sumR (F57 60) c.line c.n 0 0, !c.letters != sumR (F57 60) c.line c.n 0 0, !c.waiting != sumR (F57 34) c.line c.n 0 0, !c.waiting != sumR (F57 34) c.line c.n 0 0, !c.waiting != sumR (F57 34) c.line c.n 0 0, !c.waiting != sumR (F57 34) c.line c.n 0 0, !c.waiting != sumR (F57 34) c.line c.n 0 0, !c.waiting != sumR (F57 34) c.line c.n 0 0, !c.delivered != sumR (F57 59) c.line c.n 0 0, !c.delivered != sumR (F57 59) c.line c.n 0 0, !c.delivered != sumR (F57 59) c.line c.n 0 0, !c.delivered != sumR (F57 59) c.line c.n 0 0, !c.delivered != sumR (F57 59) c.line c.n 0 0, !c.delivered != sumR (F57 59) c.line c.n 0 0, !c.accepted != sumR F58 c.line c.n 0 0, !c.accepted != sumR F58 c.line c.n 0 0, !c.accepted != sumR F58 c.line c.n 0 0, !c.accepted != sumR F58 c.line c.n 0 0, !c.accepted != sumR F58 c.line c.n 0 0, !c.accepted != sumR F58 c.line c.n 0 0, true, true, isV (ctT c) (ctT c), decide (c.n ≤ 281474976710656)]
theorem w19_s_6 (c : Ct) : outK prog f19 20 [] (runK prog D14 F0 2000 (.code (bodyOf f19)) [] 0 ([ctT c] ++ List.replicate 38 undefT) ⟨0, []⟩ (bt 25 0) [])
    = some (OutT.done (some (T.int .i64 0)), g19_s_6 c, { next := 0, objs := [] }, [], 0) := by kernel_rfl
noncomputable def o19 (c : Ct) : Option (Empty ⊕ T) :=
  (if c.accepted != sumR F58 c.line c.n 0 0 then (if allT (g19_s_1 c) then some (.inr ((T.int .i64 38))) else none) else (if c.delivered != sumR (F57 59) c.line c.n 0 0 then (if allT (g19_s_2 c) then some (.inr ((T.int .i64 38))) else none) else (if c.waiting != sumR (F57 34) c.line c.n 0 0 then (if allT (g19_s_3 c) then some (.inr ((T.int .i64 38))) else none) else (if c.letters != sumR (F57 60) c.line c.n 0 0 then (if allT (g19_s_4 c) then some (.inr ((T.int .i64 38))) else none) else (if c.discarded != sumR (F57 61) c.line c.n 0 0 then (if allT (g19_s_5 c) then some (.inr ((T.int .i64 38))) else none) else (if allT (g19_s_6 c) then some (.inr ((T.int .i64 0))) else none))))))
noncomputable def V19_s (c : Ct) : Empty ⊕ T :=
  (if c.accepted != sumR F58 c.line c.n 0 0 then (.inr ((T.int .i64 38))) else (if c.delivered != sumR (F57 59) c.line c.n 0 0 then (.inr ((T.int .i64 38))) else (if c.waiting != sumR (F57 34) c.line c.n 0 0 then (.inr ((T.int .i64 38))) else (if c.letters != sumR (F57 60) c.line c.n 0 0 then (.inr ((T.int .i64 38))) else (if c.discarded != sumR (F57 61) c.line c.n 0 0 then (.inr ((T.int .i64 38))) else (.inr ((T.int .i64 0))))))))
noncomputable def K19_s (c : Ct) : Bool :=
  (if c.accepted != sumR F58 c.line c.n 0 0 then (allT (g19_s_1 c)) else (if c.delivered != sumR (F57 59) c.line c.n 0 0 then (allT (g19_s_2 c)) else (if c.waiting != sumR (F57 34) c.line c.n 0 0 then (allT (g19_s_3 c)) else (if c.letters != sumR (F57 60) c.line c.n 0 0 then (allT (g19_s_4 c)) else (if c.discarded != sumR (F57 61) c.line c.n 0 0 then (allT (g19_s_5 c)) else (allT (g19_s_6 c)))))))
theorem T19_s (c : Ct) (hk : K19_s c = true) : o19 c = some (V19_s c) :=
  (tree_if tree_leaf (tree_if tree_leaf (tree_if tree_leaf (tree_if tree_leaf (tree_if tree_leaf tree_leaf))))) hk
theorem run19 (c : Ct) {n : Nat} {o : Empty ⊕ T} {r : T} (h : o19 c = some o) (hr : noM.fin n o = some r) : PureFn prog gl 19 [ctT c] r := by
  refine pure_mach (M := noM) (fn := f19) (k := 20) (d := 8) (c := bodyOf f19) cx14 glFrz (by kernel_rfl) func19 (by kernel_rfl) rfl (by kernel_rfl) (by kernel_rfl) (L := 38) (by kernel_rfl) noM_ways (fun σ => σ.elim) ?_ hr
  exact (ways_if (ways_leaf fun hk => ⟨2000, _, _, _, _, _, _, w19_s_1 c, hk⟩) (ways_if (ways_leaf fun hk => ⟨2000, _, _, _, _, _, _, w19_s_2 c, hk⟩) (ways_if (ways_leaf fun hk => ⟨2000, _, _, _, _, _, _, w19_s_3 c, hk⟩) (ways_if (ways_leaf fun hk => ⟨2000, _, _, _, _, _, _, w19_s_4 c, hk⟩) (ways_if (ways_leaf fun hk => ⟨2000, _, _, _, _, _, _, w19_s_5 c, hk⟩) (ways_leaf fun hk => ⟨2000, _, _, _, _, _, _, w19_s_6 c, hk⟩)))))) o h
theorem c19 (c : Ct) (n : Nat) {r : T} (hk : K19_s c = true) (hr : noM.fin n (V19_s c) = some r) : PureFn prog gl 19 [ctT c] r := run19 c (T19_s c hk) hr

/-! ### 24 -/
inductive S24 where
  | l0 (x3 : Int) (vd : Int) (vw : Int) (vl : Int) (vx : Int)
noncomputable def g24_s_1 (c : Ct) : List Bool := [true, true, true, true, true, true, true, true, true, true, true, true]
theorem w24_s_1 (c : Ct) : outK prog f24 20 [1, 2, 3] (runK prog D14 F40 2000 (.code (bodyOf f24)) [] 0 ([ctT c] ++ List.replicate 66 undefT) ⟨0, []⟩ [] [])
    = some (OutT.loop 0 (loopAt f24 0).1 (loopAt f24 0).2, g24_s_1 c, { next := 2, objs := [(1, { elem := 24, sz := 0, cells := [T.int .i64 0, T.int .i64 0, T.int .i64 0, T.int .i64 0, T.int .i64 0, T.int .i64 0, T.nils] }), (0, { elem := 24, sz := 0, cells := [T.int .i64 c.entries, T.int .i64 c.accepted, T.int .i64 0, T.int .i64 0, T.int .i64 0, T.int .i64 0, T.slf false c.n fun i => lnT (c.line i)] })] }, [T.ptr 0 0, T.ptr 1 0, T.int .i64 0], 67) := by kernel_rfl
noncomputable def g24_0_1 (c : Ct) (x3 : Int) (vd : Int) (vw : Int) (vl : Int) (vx : Int) : List Bool := [true, true, true, (c.line x3.toNat).closed == 6, true, true, decide (0 ≤ x3), decide (x3 < (↑c.n : Int)), true, decide (x3 < (↑c.n : Int))]
theorem w24_0_1 (c : Ct) (x3 : Int) (vd : Int) (vw : Int) (vl : Int) (vx : Int) (fr : List T) : outK prog f24 20 [1, 2, 3] (runK prog D14 F40 2000 (.code (loopAt f24 0).1) (.lp :: (loopAt f24 0).2) 0 (frK [1, 2, 3] [T.ptr 0 0, T.ptr 1 0, T.int .i64 x3] fr 67) { next := 2, objs := [(1, { elem := 24, sz := 0, cells := [T.int .i64 0, T.int .i64 0, T.int .i64 0, T.int .i64 0, T.int .i64 0, T.int .i64 0, T.nils] }), (0, { elem := 24, sz := 0, cells := [T.int .i64 c.entries, T.int .i64 c.accepted, T.int .i64 vd, T.int .i64 vw, T.int .i64 vl, T.int .i64 vx, T.slf false c.n fun i => lnT (c.line i)] })] } [true, true] [])
    = some (OutT.again 0, g24_0_1 c x3 vd vw vl vx, { next := 2, objs := [(1, { elem := 24, sz := 0, cells := [T.int .i64 0, T.int .i64 0, T.int .i64 0, T.int .i64 0, T.int .i64 0, T.int .i64 0, T.nils] }), (0, { elem := 24, sz := 0, cells := [T.int .i64 c.entries, T.int .i64 c.accepted, T.int .i64 vd, T.int .i64 vw, T.int .i64 vl, T.int .i64 (IntKind.i64.wrap (vx + (c.line x3.toNat).mass)), T.slf false c.n fun i => lnT (c.line i)] })] }, [T.ptr 0 0, T.ptr 1 0, T.int .i64 (IntKind.i64.wrap (x3 + 1))], 67) := by kernel_rfl
noncomputable def g24_0_2 (c : Ct) (x3 : Int) (vd : Int) (vw : Int) (vl : Int) (vx : Int) : List Bool := [true, true, true, (c.line x3.toNat).fate == 0, !(c.line x3.toNat).closed == 6, true, true, decide (0 ≤ x3), decide (x3 < (↑c.n : Int)), true, decide (x3 < (↑c.n : Int))]
theorem w24_0_2 (c : Ct) (x3 : Int) (vd : Int) (vw : Int) (vl : Int) (vx : Int) (fr : List T) : outK prog f24 20 [1, 2, 3] (runK prog D14 F40 2000 (.code (loopAt f24 0).1) (.lp :: (loopAt f24 0).2) 0 (frK [1, 2, 3] [T.ptr 0 0, T.ptr 1 0, T.int .i64 x3] fr 67) { next := 2, objs := [(1, { elem := 24, sz := 0, cells := [T.int .i64 0, T.int .i64 0, T.int .i64 0, T.int .i64 0, T.int .i64 0, T.int .i64 0, T.nils] }), (0, { elem := 24, sz := 0, cells := [T.int .i64 c.entries, T.int .i64 c.accepted, T.int .i64 vd, T.int .i64 vw, T.int .i64 vl, T.int .i64 vx, T.slf false c.n fun i => lnT (c.line i)] })] } [true, false, true] [])
    = some (OutT.again 0, g24_0_2 c x3 vd vw vl vx, { next := 2, objs := [(1, { elem := 24, sz := 0, cells := [T.int .i64 0, T.int .i64 0, T.int .i64 0, T.int .i64 0, T.int .i64 0, T.int .i64 0, T.nils] }), (0, { elem := 24, sz := 0, cells := [T.int .i64 c.entries, T.int .i64 c.accepted, T.int .i64 vd, T.int .i64 (IntKind.i64.wrap (vw + (c.line x3.toNat).mass)), T.int .i64 vl, T.int .i64 vx, T.slf false c.n fun i => lnT (c.line i)] })] }, [T.ptr 0 0, T.ptr 1 0, T.int .i64 (IntKind.i64.wrap (x3 + 1))], 67) := by kernel_rfl
noncomputable def g24_0_3 (c : Ct) (x3 : Int) (vd : Int) (vw : Int) (vl : Int) (vx : Int) : List Bool := [true, true, true, (c.line x3.toNat).fate == 3, !(c.line x3.toNat).fate == 0, !(c.line x3.toNat).closed == 6, true, true, decide (0 ≤ x3), decide (x3 < (↑c.n : Int)), true, decide (x3 < (↑c.n : Int))]
theorem w24_0_3 (c : Ct) (x3 : Int) (vd : Int) (vw : Int) (vl : Int) (vx : Int) (fr : List T) : outK prog f24 20 [1, 2, 3] (runK prog D14 F40 2000 (.code (loopAt f24 0).1) (.lp :: (loopAt f24 0).2) 0 (frK [1, 2, 3] [T.ptr 0 0, T.ptr 1 0, T.int .i64 x3] fr 67) { next := 2, objs := [(1, { elem := 24, sz := 0, cells := [T.int .i64 0, T.int .i64 0, T.int .i64 0, T.int .i64 0, T.int .i64 0, T.int .i64 0, T.nils] }), (0, { elem := 24, sz := 0, cells := [T.int .i64 c.entries, T.int .i64 c.accepted, T.int .i64 vd, T.int .i64 vw, T.int .i64 vl, T.int .i64 vx, T.slf false c.n fun i => lnT (c.line i)] })] } (bt 4 9) [])
    = some (OutT.again 0, g24_0_3 c x3 vd vw vl vx, { next := 2, objs := [(1, { elem := 24, sz := 0, cells := [T.int .i64 0, T.int .i64 0, T.int .i64 0, T.int .i64 0, T.int .i64 0, T.int .i64 0, T.nils] }), (0, { elem := 24, sz := 0, cells := [T.int .i64 c.entries, T.int .i64 c.accepted, T.int .i64 (IntKind.i64.wrap (vd + (c.line x3.toNat).mass)), T.int .i64 vw, T.int .i64 vl, T.int .i64 vx, T.slf false c.n fun i => lnT (c.line i)] })] }, [T.ptr 0 0, T.ptr 1 0, T.int .i64 (IntKind.i64.wrap (x3 + 1))], 67) := by kernel_rfl
noncomputable def g24_0_4 (c : Ct) (x3 : Int) (vd : Int) (vw : Int) (vl : Int) (vx : Int) : List Bool := [true, true, true, (c.line x3.toNat).closed == 0, (c.line x3.toNat).fate == 4, (c.line x3.toNat).fate == 4, (c.line x3.toNat).fate == 4, (c.line x3.toNat).fate == 4, !(c.line x3.toNat).fate == 3, !(c.line x3.toNat).fate == 0, !(c.line x3.toNat).closed == 6, true, true, decide (0 ≤ x3), decide (x3 < (↑c.n : Int)), true, decide (x3 < (↑c.n : Int))]
theorem w24_0_4 (c : Ct) (x3 : Int) (vd : Int) (vw : Int) (vl : Int) (vx : Int) (fr : List T) : outK prog f24 20 [1, 2, 3] (runK prog D14 F40 2000 (.code (loopAt f24 0).1) (.lp :: (loopAt f24 0).2) 0 (frK [1, 2, 3] [T.ptr 0 0, T.ptr 1 0, T.int .i64 x3] fr 67) { next := 2, objs := [(1, { elem := 24, sz := 0, cells := [T.int .i64 0, T.int .i64 0, T.int .i64 0, T.int .i64 0, T.int .i64 0, T.int .i64 0, T.nils] }), (0, { elem := 24, sz := 0, cells := [T.int .i64 c.entries, T.int .i64 c.accepted, T.int .i64 vd, T.int .i64 vw, T.int .i64 vl, T.int .i64 vx, T.slf false c.n fun i => lnT (c.line i)] })] } (bt 9 497) [])
    = some (OutT.again 0, g24_0_4 c x3 vd vw vl vx, { next := 2, objs := [(1, { elem := 24, sz := 0, cells := [T.int .i64 0, T.int .i64 0, T.int .i64 0, T.int .i64 0, T.int .i64 0, T.int .i64 0, T.nils] }), (0, { elem := 24, sz := 0, cells := [T.int .i64 c.entries, T.int .i64 c.accepted, T.int .i64 vd, T.int .i64 vw, T.int .i64 (IntKind.i64.wrap (vl + (c.line x3.toNat).mass)), T.int .i64 vx, T.slf false c.n fun i => lnT (c.line i)] })] }, [T.ptr 0 0, T.ptr 1 0, T.int .i64 (IntKind.i64.wrap (x3 + 1))], 67) := by kernel_rfl
noncomputable def g24_0_5 (c : Ct) (x3 : Int) (vd : Int) (vw : Int) (vl : Int) (vx : Int) : List Bool := [!(c.line x3.toNat).closed == 0, (c.line x3.toNat).fate == 4, (c.line x3.toNat).fate == 4, (c.line x3.toNat).fate == 4, (c.line x3.toNat).fate == 4, !(c.line x3.toNat).fate == 3, !(c.line x3.toNat).fate == 0, !(c.line x3.toNat).closed == 6, true, true, decide (0 ≤ x3), decide (x3 < (↑c.n : Int)), true, decide (x3 < (↑c.n : Int))]
theorem w24_0_5 (c : Ct) (x3 : Int) (vd : Int) (vw : Int) (vl : Int) (vx : Int) (fr : List T) : outK prog f24 20 [1, 2, 3] (runK prog D14 F40 2000 (.code (loopAt f24 0).1) (.lp :: (loopAt f24 0).2) 0 (frK [1, 2, 3] [T.ptr 0 0, T.ptr 1 0, T.int .i64 x3] fr 67) { next := 2, objs := [(1, { elem := 24, sz := 0, cells := [T.int .i64 0, T.int .i64 0, T.int .i64 0, T.int .i64 0, T.int .i64 0, T.int .i64 0, T.nils] }), (0, { elem := 24, sz := 0, cells := [T.int .i64 c.entries, T.int .i64 c.accepted, T.int .i64 vd, T.int .i64 vw, T.int .i64 vl, T.int .i64 vx, T.slf false c.n fun i => lnT (c.line i)] })] } (bt 9 241) [])
    = some (OutT.again 0, g24_0_5 c x3 vd vw vl vx, { next := 2, objs := [(1, { elem := 24, sz := 0, cells := [T.int .i64 0, T.int .i64 0, T.int .i64 0, T.int .i64 0, T.int .i64 0, T.int .i64 0, T.nils] }), (0, { elem := 24, sz := 0, cells := [T.int .i64 c.entries, T.int .i64 c.accepted, T.int .i64 vd, T.int .i64 vw, T.int .i64 vl, T.int .i64 vx, T.slf false c.n fun i => lnT (c.line i)] })] }, [T.ptr 0 0, T.ptr 1 0, T.int .i64 (IntKind.i64.wrap (x3 + 1))], 67) := by kernel_rfl
noncomputable def g24_0_6 (c : Ct) (x3 : Int) (vd : Int) (vw : Int) (vl : Int) (vx : Int) : List Bool := [true, !(c.line x3.toNat).fate == 4, !(c.line x3.toNat).fate == 4, !(c.line x3.toNat).fate == 4, !(c.line x3.toNat).fate == 4, !(c.line x3.toNat).fate == 3, !(c.line x3.toNat).fate == 0, !(c.line x3.toNat).closed == 6, true, true, decide (0 ≤ x3), decide (x3 < (↑c.n : Int)), true, decide (x3 < (↑c.n : Int))]
theorem w24_0_6 (c : Ct) (x3 : Int) (vd : Int) (vw : Int) (vl : Int) (vx : Int) (fr : List T) : outK prog f24 20 [1, 2, 3] (runK prog D14 F40 2000 (.code (loopAt f24 0).1) (.lp :: (loopAt f24 0).2) 0 (frK [1, 2, 3] [T.ptr 0 0, T.ptr 1 0, T.int .i64 x3] fr 67) { next := 2, objs := [(1, { elem := 24, sz := 0, cells := [T.int .i64 0, T.int .i64 0, T.int .i64 0, T.int .i64 0, T.int .i64 0, T.int .i64 0, T.nils] }), (0, { elem := 24, sz := 0, cells := [T.int .i64 c.entries, T.int .i64 c.accepted, T.int .i64 vd, T.int .i64 vw, T.int .i64 vl, T.int .i64 vx, T.slf false c.n fun i => lnT (c.line i)] })] } (bt 9 1) [])
    = some (OutT.again 0, g24_0_6 c x3 vd vw vl vx, { next := 2, objs := [(1, { elem := 24, sz := 0, cells := [T.int .i64 0, T.int .i64 0, T.int .i64 0, T.int .i64 0, T.int .i64 0, T.int .i64 0, T.nils] }), (0, { elem := 24, sz := 0, cells := [T.int .i64 c.entries, T.int .i64 c.accepted, T.int .i64 vd, T.int .i64 vw, T.int .i64 vl, T.int .i64 vx, T.slf false c.n fun i => lnT (c.line i)] })] }, [T.ptr 0 0, T.ptr 1 0, T.int .i64 (IntKind.i64.wrap (x3 + 1))], 67) := by kernel_rfl
noncomputable def g24_0_7 (c : Ct) (x3 : Int) (vd : Int) (vw : Int) (vl : Int) (vx : Int) : List Bool := [true, true, true, !decide (x3 < (↑c.n : Int))]
theorem w24_0_7 (c : Ct) (x3 : Int) (vd : Int) (vw : Int) (vl : Int) (vx : Int) (fr : List T) : outK prog f24 20 [] (runK prog D14 F40 2000 (.code (loopAt f24 0).1) (.lp :: (loopAt f24 0).2) 0 (frK [1, 2, 3] [T.ptr 0 0, T.ptr 1 0, T.int .i64 x3] fr 67) { next := 2, objs := [(1, { elem := 24, sz := 0, cells := [T.int .i64 0, T.int .i64 0, T.int .i64 0, T.int .i64 0, T.int .i64 0, T.int .i64 0, T.nils] }), (0, { elem := 24, sz := 0, cells := [T.int .i64 c.entries, T.int .i64 c.accepted, T.int .i64 vd, T.int .i64 vw, T.int .i64 vl, T.int .i64 vx, T.slf false c.n fun i => lnT (c.line i)] })] } [false] [])
    = some (OutT.done (some (T.agg [T.int .i64 c.entries, T.int .i64 c.accepted, T.int .i64 vd, T.int .i64 vw, T.int .i64 vl, T.int .i64 vx, T.slf false c.n fun i => lnT (c.line i)])), g24_0_7 c x3 vd vw vl vx, { next := 0, objs := [] }, [], 0) := by kernel_rfl
noncomputable def step24_0 (c : Ct) (x3 : Int) (vd : Int) (vw : Int) (vl : Int) (vx : Int) : Option (S24 ⊕ T) :=
  (if decide (x3 < (↑c.n : Int)) then (if (c.line x3.toNat).closed == 6 then (if allT (g24_0_1 c x3 vd vw vl vx) then some (.inl (.l0 (IntKind.i64.wrap (x3 + 1)) vd vw vl (IntKind.i64.wrap (vx + (c.line x3.toNat).mass)))) else none) else (if (c.line x3.toNat).fate == 0 then (if allT (g24_0_2 c x3 vd vw vl vx) then some (.inl (.l0 (IntKind.i64.wrap (x3 + 1)) vd (IntKind.i64.wrap (vw + (c.line x3.toNat).mass)) vl vx)) else none) else (if (c.line x3.toNat).fate == 3 then (if allT (g24_0_3 c x3 vd vw vl vx) then some (.inl (.l0 (IntKind.i64.wrap (x3 + 1)) (IntKind.i64.wrap (vd + (c.line x3.toNat).mass)) vw vl vx)) else none) else (if (c.line x3.toNat).fate == 4 then (if (c.line x3.toNat).closed == 0 then (if allT (g24_0_4 c x3 vd vw vl vx) then some (.inl (.l0 (IntKind.i64.wrap (x3 + 1)) vd vw (IntKind.i64.wrap (vl + (c.line x3.toNat).mass)) vx)) else none) else (if allT (g24_0_5 c x3 vd vw vl vx) then some (.inl (.l0 (IntKind.i64.wrap (x3 + 1)) vd vw vl vx)) else none)) else (if allT (g24_0_6 c x3 vd vw vl vx) then some (.inl (.l0 (IntKind.i64.wrap (x3 + 1)) vd vw vl vx)) else none))))) else (if allT (g24_0_7 c x3 vd vw vl vx) then some (.inr ((T.agg [T.int .i64 c.entries, T.int .i64 c.accepted, T.int .i64 vd, T.int .i64 vw, T.int .i64 vl, T.int .i64 vx, T.slf false c.n fun i => lnT (c.line i)]))) else none))
noncomputable def V24_0 (c : Ct) (x3 : Int) (vd : Int) (vw : Int) (vl : Int) (vx : Int) : S24 ⊕ T :=
  (if decide (x3 < (↑c.n : Int)) then (if (c.line x3.toNat).closed == 6 then (.inl (.l0 (IntKind.i64.wrap (x3 + 1)) vd vw vl (IntKind.i64.wrap (vx + (c.line x3.toNat).mass)))) else (if (c.line x3.toNat).fate == 0 then (.inl (.l0 (IntKind.i64.wrap (x3 + 1)) vd (IntKind.i64.wrap (vw + (c.line x3.toNat).mass)) vl vx)) else (if (c.line x3.toNat).fate == 3 then (.inl (.l0 (IntKind.i64.wrap (x3 + 1)) (IntKind.i64.wrap (vd + (c.line x3.toNat).mass)) vw vl vx)) else (if (c.line x3.toNat).fate == 4 then (if (c.line x3.toNat).closed == 0 then (.inl (.l0 (IntKind.i64.wrap (x3 + 1)) vd vw (IntKind.i64.wrap (vl + (c.line x3.toNat).mass)) vx)) else (.inl (.l0 (IntKind.i64.wrap (x3 + 1)) vd vw vl vx))) else (.inl (.l0 (IntKind.i64.wrap (x3 + 1)) vd vw vl vx)))))) else (.inr ((T.agg [T.int .i64 c.entries, T.int .i64 c.accepted, T.int .i64 vd, T.int .i64 vw, T.int .i64 vl, T.int .i64 vx, T.slf false c.n fun i => lnT (c.line i)]))))
noncomputable def K24_0 (c : Ct) (x3 : Int) (vd : Int) (vw : Int) (vl : Int) (vx : Int) : Bool :=
  (if decide (x3 < (↑c.n : Int)) then (if (c.line x3.toNat).closed == 6 then (allT (g24_0_1 c x3 vd vw vl vx)) else (if (c.line x3.toNat).fate == 0 then (allT (g24_0_2 c x3 vd vw vl vx)) else (if (c.line x3.toNat).fate == 3 then (allT (g24_0_3 c x3 vd vw vl vx)) else (if (c.line x3.toNat).fate == 4 then (if (c.line x3.toNat).closed == 0 then (allT (g24_0_4 c x3 vd vw vl vx)) else (allT (g24_0_5 c x3 vd vw vl vx))) else (allT (g24_0_6 c x3 vd vw vl vx)))))) else (allT (g24_0_7 c x3 vd vw vl vx)))
theorem T24_0 (c : Ct) (x3 : Int) (vd : Int) (vw : Int) (vl : Int) (vx : Int) (hk : K24_0 c x3 vd vw vl vx = true) : step24_0 c x3 vd vw vl vx = some (V24_0 c x3 vd vw vl vx) :=
  (tree_if (tree_if tree_leaf (tree_if tree_leaf (tree_if tree_leaf (tree_if (tree_if tree_leaf tree_leaf) tree_leaf)))) tree_leaf) hk
noncomputable def o24 (c : Ct) : Option (S24 ⊕ T) :=
  (if allT (g24_s_1 c) then some (.inl (.l0 0 0 0 0 0)) else none)
noncomputable def V24_s (c : Ct) : S24 ⊕ T :=
  (.inl (.l0 0 0 0 0 0))
noncomputable def K24_s (c : Ct) : Bool :=
  (allT (g24_s_1 c))
theorem T24_s (c : Ct) (hk : K24_s c = true) : o24 c = some (V24_s c) :=
  tree_leaf hk
noncomputable def step24 (c : Ct) : S24 → Option (S24 ⊕ T)
  | .l0 x3 vd vw vl vx => step24_0 c x3 vd vw vl vx
noncomputable def M24 (c : Ct) : Mch S24 where
  lp := fun σ => match σ with
    | .l0 .. => 0
  keep := fun ι => match ι with
    | 0 => [1, 2, 3]
    | _ => []
  par := fun ι => match ι with
    | 0 => []
    | _ => []
  vs := fun σ => match σ with
    | .l0 x3 vd vw vl vx => [T.ptr 0 0, T.ptr 1 0, T.int .i64 x3]
  hp := fun σ => match σ with
    | .l0 _ vd vw vl vx => { next := 2, objs := [(1, { elem := 24, sz := 0, cells := [T.int .i64 0, T.int .i64 0, T.int .i64 0, T.int .i64 0, T.int .i64 0, T.int .i64 0, T.nils] }), (0, { elem := 24, sz := 0, cells := [T.int .i64 c.entries, T.int .i64 c.accepted, T.int .i64 vd, T.int .i64 vw, T.int .i64 vl, T.int .i64 vx, T.slf false c.n fun i => lnT (c.line i)] })] }
  len := 67
  step := step24 c
theorem ways24 (c : Ct) : (M24 c).Ways prog D14 F40 f24 20 := by
  intro σ o fr h
  cases σ with
  | l0 x3 vd vw vl vx =>
    change step24_0 c x3 vd vw vl vx = some o at h
    exact (ways_if (ways_if (ways_leaf fun hk => .inl ⟨2000, _, _, _, w24_0_1 c x3 vd vw vl vx fr, hk, rfl⟩) (ways_if (ways_leaf fun hk => .inl ⟨2000, _, _, _, w24_0_2 c x3 vd vw vl vx fr, hk, rfl⟩) (ways_if (ways_leaf fun hk => .inl ⟨2000, _, _, _, w24_0_3 c x3 vd vw vl vx fr, hk, rfl⟩) (ways_if (ways_if (ways_leaf fun hk => .inl ⟨2000, _, _, _, w24_0_4 c x3 vd vw vl vx fr, hk, rfl⟩) (ways_leaf fun hk => .inl ⟨2000, _, _, _, w24_0_5 c x3 vd vw vl vx fr, hk, rfl⟩)) (ways_leaf fun hk => .inl ⟨2000, _, _, _, w24_0_6 c x3 vd vw vl vx fr, hk, rfl⟩))))) (ways_leaf fun hk => ⟨2000, _, _, _, _, _, _, w24_0_7 c x3 vd vw vl vx fr, hk⟩)) o h
theorem oks24 (c : Ct) : ∀ σ, codeOk (loopAt f24 ((M24 c).lp σ)).1 = true ∧ ksOk (.lp :: (loopAt f24 ((M24 c).lp σ)).2) = true := by
  intro σ
  cases σ
  · exact ⟨(show codeOk (loopAt f24 0).1 = true by kernel_rfl), (show ksOk (.lp :: (loopAt f24 0).2) = true by kernel_rfl)⟩
theorem run24 (c : Ct) {n : Nat} {o : S24 ⊕ T} {r : T} (h : o24 c = some o) (hr : (M24 c).fin n o = some r) : PureFn prog gl 24 [ctT c] r := by
  refine pure_mach (M := (M24 c)) (fn := f24) (k := 20) (d := 8) (c := bodyOf f24) cx14b glFrz (by kernel_rfl) func24 (by kernel_rfl) rfl (by kernel_rfl) (by kernel_rfl) (L := 66) (by kernel_rfl) (ways24 c) (oks24 c) ?_ hr
  exact (ways_leaf fun hk => .inr ⟨2000, _, _, _, w24_s_1 c, hk, rfl⟩) o h
theorem c24 (c : Ct) (n : Nat) {r : T} (hk : K24_s c = true) (hr : (M24 c).fin n (V24_s c) = some r) : PureFn prog gl 24 [ctT c] r := run24 c (T24_s c hk) hr

/-! ### 7 -/
inductive S7n where
  | l0 (x3 : Int)
  | l1 (x3 : Int) (x5 : Int)
noncomputable def g7n_s_1 (c : Ct) : List Bool := [decide ((↑c.n : Int) > 30)]
theorem w7n_s_1 (c : Ct) : outK prog f7 20 [] (runK prog D9 F0 2000 (.code (bodyOf f7)) [] 0 ([ctT c] ++ List.replicate 53 undefT) ⟨0, []⟩ [true] [])
    = some (OutT.done (some (T.bool false)), g7n_s_1 c, { next := 0, objs := [] }, [], 0) := by kernel_rfl
noncomputable def g7n_s_2 (c : Ct) : List Bool := [!decide ((↑c.n : Int) > 30)]
theorem w7n_s_2 (c : Ct) : outK prog f7 20 [1, 3] (runK prog D9 F0 2000 (.code (bodyOf f7)) [] 0 ([ctT c] ++ List.replicate 53 undefT) ⟨0, []⟩ [false] [])
    = some (OutT.loop 0 (loopAt f7 0).1 (loopAt f7 0).2, g7n_s_2 c, { next := 0, objs := [] }, [(ctT c).ref 0, T.int .i64 0], 54) := by kernel_rfl
noncomputable def g7n_0_1 (c : Ct) (x3 : Int) : List Bool := [true, true, true, true, true, true, decide ((↑(c.line x3.toNat).k : Int) > 10), decide ((↑(c.line x3.toNat).k : Int) > 10), decide ((↑(c.line x3.toNat).k : Int) > 10), decide ((↑(c.line x3.toNat).k : Int) > 10), decide ((↑(c.line x3.toNat).k : Int) > 10), decide ((↑(c.line x3.toNat).k : Int) > 10), true, true, decide (0 ≤ x3), decide (x3 < (↑c.n : Int)), true, decide (x3 < (↑c.n : Int))]
theorem w7n_0_1 (c : Ct) (x3 : Int) (fr : List T) : outK prog f7 20 [] (runK prog D9 F0 2000 (.code (loopAt f7 0).1) (.lp :: (loopAt f7 0).2) 0 (frK [1, 3] [(ctT c).ref 0, T.int .i64 x3] fr 54) ⟨0, []⟩ (bt 13 8191) [])
    = some (OutT.done (some (T.bool false)), g7n_0_1 c x3, { next := 0, objs := [] }, [], 0) := by kernel_rfl
noncomputable def g7n_0_2 (c : Ct) (x3 : Int) : List Bool := [true, decide ((↑(c.line x3.toNat).st.n : Int) > 20), decide ((↑(c.line x3.toNat).st.n : Int) > 20), decide ((↑(c.line x3.toNat).st.n : Int) > 20), decide ((↑(c.line x3.toNat).st.n : Int) > 20), decide ((↑(c.line x3.toNat).st.n : Int) > 20), !decide ((↑(c.line x3.toNat).k : Int) > 10), !decide ((↑(c.line x3.toNat).k : Int) > 10), !decide ((↑(c.line x3.toNat).k : Int) > 10), !decide ((↑(c.line x3.toNat).k : Int) > 10), !decide ((↑(c.line x3.toNat).k : Int) > 10), !decide ((↑(c.line x3.toNat).k : Int) > 10), true, true, decide (0 ≤ x3), decide (x3 < (↑c.n : Int)), true, decide (x3 < (↑c.n : Int))]
theorem w7n_0_2 (c : Ct) (x3 : Int) (fr : List T) : outK prog f7 20 [] (runK prog D9 F0 2000 (.code (loopAt f7 0).1) (.lp :: (loopAt f7 0).2) 0 (frK [1, 3] [(ctT c).ref 0, T.int .i64 x3] fr 54) ⟨0, []⟩ (bt 13 8065) [])
    = some (OutT.done (some (T.bool false)), g7n_0_2 c x3, { next := 0, objs := [] }, [], 0) := by kernel_rfl
noncomputable def g7n_0_3 (c : Ct) (x3 : Int) : List Bool := [decide ((↑(c.line x3.toNat).node.length : Int) > 100), !decide ((↑(c.line x3.toNat).st.n : Int) > 20), !decide ((↑(c.line x3.toNat).st.n : Int) > 20), !decide ((↑(c.line x3.toNat).st.n : Int) > 20), !decide ((↑(c.line x3.toNat).st.n : Int) > 20), !decide ((↑(c.line x3.toNat).st.n : Int) > 20), !decide ((↑(c.line x3.toNat).k : Int) > 10), !decide ((↑(c.line x3.toNat).k : Int) > 10), !decide ((↑(c.line x3.toNat).k : Int) > 10), !decide ((↑(c.line x3.toNat).k : Int) > 10), !decide ((↑(c.line x3.toNat).k : Int) > 10), !decide ((↑(c.line x3.toNat).k : Int) > 10), true, true, decide (0 ≤ x3), decide (x3 < (↑c.n : Int)), true, decide (x3 < (↑c.n : Int))]
theorem w7n_0_3 (c : Ct) (x3 : Int) (fr : List T) : outK prog f7 20 [] (runK prog D9 F0 2000 (.code (loopAt f7 0).1) (.lp :: (loopAt f7 0).2) 0 (frK [1, 3] [(ctT c).ref 0, T.int .i64 x3] fr 54) ⟨0, []⟩ (bt 13 4097) [])
    = some (OutT.done (some (T.bool false)), g7n_0_3 c x3, { next := 0, objs := [] }, [], 0) := by kernel_rfl
noncomputable def g7n_0_4 (c : Ct) (x3 : Int) : List Bool := [!decide ((↑(c.line x3.toNat).node.length : Int) > 100), !decide ((↑(c.line x3.toNat).st.n : Int) > 20), !decide ((↑(c.line x3.toNat).st.n : Int) > 20), !decide ((↑(c.line x3.toNat).st.n : Int) > 20), !decide ((↑(c.line x3.toNat).st.n : Int) > 20), !decide ((↑(c.line x3.toNat).st.n : Int) > 20), !decide ((↑(c.line x3.toNat).k : Int) > 10), !decide ((↑(c.line x3.toNat).k : Int) > 10), !decide ((↑(c.line x3.toNat).k : Int) > 10), !decide ((↑(c.line x3.toNat).k : Int) > 10), !decide ((↑(c.line x3.toNat).k : Int) > 10), !decide ((↑(c.line x3.toNat).k : Int) > 10), true, true, decide (0 ≤ x3), decide (x3 < (↑c.n : Int)), true, decide (x3 < (↑c.n : Int))]
theorem w7n_0_4 (c : Ct) (x3 : Int) (fr : List T) : outK prog f7 20 [1, 3, 4, 5] (runK prog D9 F0 2000 (.code (loopAt f7 0).1) (.lp :: (loopAt f7 0).2) 0 (frK [1, 3] [(ctT c).ref 0, T.int .i64 x3] fr 54) ⟨0, []⟩ (bt 13 1) [])
    = some (OutT.loop 0 (loopAt f7 1).1 (loopAt f7 1).2, g7n_0_4 c x3, { next := 0, objs := [] }, [(ctT c).ref 0, T.int .i64 x3, (lnT (c.line x3.toNat)).ref 0, T.int .i64 0], 54) := by kernel_rfl
noncomputable def g7n_0_5 (c : Ct) (x3 : Int) : List Bool := [!decide (x3 < (↑c.n : Int))]
theorem w7n_0_5 (c : Ct) (x3 : Int) (fr : List T) : outK prog f7 20 [] (runK prog D9 F0 2000 (.code (loopAt f7 0).1) (.lp :: (loopAt f7 0).2) 0 (frK [1, 3] [(ctT c).ref 0, T.int .i64 x3] fr 54) ⟨0, []⟩ [false] [])
    = some (OutT.done (some (T.bool true)), g7n_0_5 c x3, { next := 0, objs := [] }, [], 0) := by kernel_rfl
noncomputable def g7n_1_1 (c : Ct) (x3 : Int) (x5 : Int) : List Bool := [decide ((↑((c.line x3.toNat).from_ x5.toNat).n : Int) > 20), decide (0 ≤ x5), decide (x5 < (↑(c.line x3.toNat).k : Int)), true, decide (x5 < (↑(c.line x3.toNat).k : Int))]
theorem w7n_1_1 (c : Ct) (x3 : Int) (x5 : Int) (fr : List T) : outK prog f7 20 [] (runK prog D9 F0 2000 (.code (loopAt f7 1).1) (.lp :: (loopAt f7 1).2) 0 (frK [1, 3, 4, 5] [(ctT c).ref 0, T.int .i64 x3, (lnT (c.line x3.toNat)).ref 0, T.int .i64 x5] fr 54) ⟨0, []⟩ [true, true] [])
    = some (OutT.done (some (T.bool false)), g7n_1_1 c x3 x5, { next := 0, objs := [] }, [], 0) := by kernel_rfl
noncomputable def g7n_1_2 (c : Ct) (x3 : Int) (x5 : Int) : List Bool := [!decide ((↑((c.line x3.toNat).from_ x5.toNat).n : Int) > 20), decide (0 ≤ x5), decide (x5 < (↑(c.line x3.toNat).k : Int)), true, decide (x5 < (↑(c.line x3.toNat).k : Int))]
theorem w7n_1_2 (c : Ct) (x3 : Int) (x5 : Int) (fr : List T) : outK prog f7 20 [1, 3, 4, 5] (runK prog D9 F0 2000 (.code (loopAt f7 1).1) (.lp :: (loopAt f7 1).2) 0 (frK [1, 3, 4, 5] [(ctT c).ref 0, T.int .i64 x3, (lnT (c.line x3.toNat)).ref 0, T.int .i64 x5] fr 54) ⟨0, []⟩ [true, false] [])
    = some (OutT.again 0, g7n_1_2 c x3 x5, { next := 0, objs := [] }, [(ctT c).ref 0, T.int .i64 x3, (lnT (c.line x3.toNat)).ref 0, T.int .i64 (IntKind.i64.wrap (x5 + 1))], 54) := by kernel_rfl
noncomputable def g7n_1_3 (c : Ct) (x3 : Int) (x5 : Int) : List Bool := [!decide (x5 < (↑(c.line x3.toNat).k : Int))]
theorem w7n_1_3 (c : Ct) (x3 : Int) (x5 : Int) (fr : List T) : outK prog f7 20 [1, 3] (runK prog D9 F0 2000 (.code (loopAt f7 1).1) (.lp :: (loopAt f7 1).2) 0 (frK [1, 3, 4, 5] [(ctT c).ref 0, T.int .i64 x3, (lnT (c.line x3.toNat)).ref 0, T.int .i64 x5] fr 54) ⟨0, []⟩ [false] [])
    = some (OutT.again 1, g7n_1_3 c x3 x5, { next := 0, objs := [] }, [(ctT c).ref 0, T.int .i64 (IntKind.i64.wrap (x3 + 1))], 54) := by kernel_rfl
noncomputable def step7n_0 (c : Ct) (x3 : Int) : Option (S7n ⊕ T) :=
  (if decide (x3 < (↑c.n : Int)) then (if decide ((↑(c.line x3.toNat).k : Int) > 10) then (if allT (g7n_0_1 c x3) then some (.inr ((T.bool false))) else none) else (if decide ((↑(c.line x3.toNat).st.n : Int) > 20) then (if allT (g7n_0_2 c x3) then some (.inr ((T.bool false))) else none) else (if decide ((↑(c.line x3.toNat).node.length : Int) > 100) then (if allT (g7n_0_3 c x3) then some (.inr ((T.bool false))) else none) else (if allT (g7n_0_4 c x3) then some (.inl (.l1 x3 0)) else none)))) else (if allT (g7n_0_5 c x3) then some (.inr ((T.bool true))) else none))
noncomputable def V7n_0 (c : Ct) (x3 : Int) : S7n ⊕ T :=
  (if decide (x3 < (↑c.n : Int)) then (if decide ((↑(c.line x3.toNat).k : Int) > 10) then (.inr ((T.bool false))) else (if decide ((↑(c.line x3.toNat).st.n : Int) > 20) then (.inr ((T.bool false))) else (if decide ((↑(c.line x3.toNat).node.length : Int) > 100) then (.inr ((T.bool false))) else (.inl (.l1 x3 0))))) else (.inr ((T.bool true))))
noncomputable def K7n_0 (c : Ct) (x3 : Int) : Bool :=
  (if decide (x3 < (↑c.n : Int)) then (if decide ((↑(c.line x3.toNat).k : Int) > 10) then (allT (g7n_0_1 c x3)) else (if decide ((↑(c.line x3.toNat).st.n : Int) > 20) then (allT (g7n_0_2 c x3)) else (if decide ((↑(c.line x3.toNat).node.length : Int) > 100) then (allT (g7n_0_3 c x3)) else (allT (g7n_0_4 c x3))))) else (allT (g7n_0_5 c x3)))
theorem T7n_0 (c : Ct) (x3 : Int) (hk : K7n_0 c x3 = true) : step7n_0 c x3 = some (V7n_0 c x3) :=
  (tree_if (tree_if tree_leaf (tree_if tree_leaf (tree_if tree_leaf tree_leaf))) tree_leaf) hk
noncomputable def step7n_1 (c : Ct) (x3 : Int) (x5 : Int) : Option (S7n ⊕ T) :=
  (if decide (x5 < (↑(c.line x3.toNat).k : Int)) then (if decide ((↑((c.line x3.toNat).from_ x5.toNat).n : Int) > 20) then (if allT (g7n_1_1 c x3 x5) then some (.inr ((T.bool false))) else none) else (if allT (g7n_1_2 c x3 x5) then some (.inl (.l1 x3 (IntKind.i64.wrap (x5 + 1)))) else none)) else (if allT (g7n_1_3 c x3 x5) then some (.inl (.l0 (IntKind.i64.wrap (x3 + 1)))) else none))
noncomputable def V7n_1 (c : Ct) (x3 : Int) (x5 : Int) : S7n ⊕ T :=
  (if decide (x5 < (↑(c.line x3.toNat).k : Int)) then (if decide ((↑((c.line x3.toNat).from_ x5.toNat).n : Int) > 20) then (.inr ((T.bool false))) else (.inl (.l1 x3 (IntKind.i64.wrap (x5 + 1))))) else (.inl (.l0 (IntKind.i64.wrap (x3 + 1)))))
noncomputable def K7n_1 (c : Ct) (x3 : Int) (x5 : Int) : Bool :=
  (if decide (x5 < (↑(c.line x3.toNat).k : Int)) then (if decide ((↑((c.line x3.toNat).from_ x5.toNat).n : Int) > 20) then (allT (g7n_1_1 c x3 x5)) else (allT (g7n_1_2 c x3 x5))) else (allT (g7n_1_3 c x3 x5)))
theorem T7n_1 (c : Ct) (x3 : Int) (x5 : Int) (hk : K7n_1 c x3 x5 = true) : step7n_1 c x3 x5 = some (V7n_1 c x3 x5) :=
  (tree_if (tree_if tree_leaf tree_leaf) tree_leaf) hk
noncomputable def o7n (c : Ct) : Option (S7n ⊕ T) :=
  (if decide ((↑c.n : Int) > 30) then (if allT (g7n_s_1 c) then some (.inr ((T.bool false))) else none) else (if allT (g7n_s_2 c) then some (.inl (.l0 0)) else none))
noncomputable def V7n_s (c : Ct) : S7n ⊕ T :=
  (if decide ((↑c.n : Int) > 30) then (.inr ((T.bool false))) else (.inl (.l0 0)))
noncomputable def K7n_s (c : Ct) : Bool :=
  (if decide ((↑c.n : Int) > 30) then (allT (g7n_s_1 c)) else (allT (g7n_s_2 c)))
theorem T7n_s (c : Ct) (hk : K7n_s c = true) : o7n c = some (V7n_s c) :=
  (tree_if tree_leaf tree_leaf) hk
noncomputable def step7n (c : Ct) : S7n → Option (S7n ⊕ T)
  | .l0 x3 => step7n_0 c x3
  | .l1 x3 x5 => step7n_1 c x3 x5
noncomputable def M7n (c : Ct) : Mch S7n where
  lp := fun σ => match σ with
    | .l0 .. => 0
    | .l1 .. => 1
  keep := fun ι => match ι with
    | 0 => [1, 3]
    | 1 => [1, 3, 4, 5]
    | _ => []
  par := fun ι => match ι with
    | 0 => []
    | 1 => [0]
    | _ => []
  vs := fun σ => match σ with
    | .l0 x3 => [(ctT c).ref 0, T.int .i64 x3]
    | .l1 x3 x5 => [(ctT c).ref 0, T.int .i64 x3, (lnT (c.line x3.toNat)).ref 0, T.int .i64 x5]
  hp := fun σ => match σ with
    | .l0 _ => ⟨0, []⟩
    | .l1 _ _ => ⟨0, []⟩
  len := 54
  step := step7n c
theorem ways7n (c : Ct) : (M7n c).Ways prog D9 F0 f7 20 := by
  intro σ o fr h
  cases σ with
  | l0 x3 =>
    change step7n_0 c x3 = some o at h
    exact (ways_if (ways_if (ways_leaf fun hk => ⟨2000, _, _, _, _, _, _, w7n_0_1 c x3 fr, hk⟩) (ways_if (ways_leaf fun hk => ⟨2000, _, _, _, _, _, _, w7n_0_2 c x3 fr, hk⟩) (ways_if (ways_leaf fun hk => ⟨2000, _, _, _, _, _, _, w7n_0_3 c x3 fr, hk⟩) (ways_leaf fun hk => .inr ⟨2000, _, _, _, w7n_0_4 c x3 fr, hk, rfl⟩)))) (ways_leaf fun hk => ⟨2000, _, _, _, _, _, _, w7n_0_5 c x3 fr, hk⟩)) o h
  | l1 x3 x5 =>
    change step7n_1 c x3 x5 = some o at h
    exact (ways_if (ways_if (ways_leaf fun hk => ⟨2000, _, _, _, _, _, _, w7n_1_1 c x3 x5 fr, hk⟩) (ways_leaf fun hk => .inl ⟨2000, _, _, _, w7n_1_2 c x3 x5 fr, hk, rfl⟩)) (ways_leaf fun hk => .inl ⟨2000, _, _, _, w7n_1_3 c x3 x5 fr, hk, rfl⟩)) o h
theorem oks7n (c : Ct) : ∀ σ, codeOk (loopAt f7 ((M7n c).lp σ)).1 = true ∧ ksOk (.lp :: (loopAt f7 ((M7n c).lp σ)).2) = true := by
  intro σ
  cases σ
  · exact ⟨(show codeOk (loopAt f7 0).1 = true by kernel_rfl), (show ksOk (.lp :: (loopAt f7 0).2) = true by kernel_rfl)⟩
  · exact ⟨(show codeOk (loopAt f7 1).1 = true by kernel_rfl), (show ksOk (.lp :: (loopAt f7 1).2) = true by kernel_rfl)⟩
theorem run7n (c : Ct) {n : Nat} {o : S7n ⊕ T} {r : T} (h : o7n c = some o) (hr : (M7n c).fin n o = some r) : PureFn prog gl 7 [ctT c] r := by
  refine pure_mach (M := (M7n c)) (fn := f7) (k := 20) (d := 8) (c := bodyOf f7) cx9 glFrz (by kernel_rfl) func7 (by kernel_rfl) rfl (by kernel_rfl) (by kernel_rfl) (L := 53) (by kernel_rfl) (ways7n c) (oks7n c) ?_ hr
  exact (ways_if (ways_leaf fun hk => ⟨2000, _, _, _, _, _, _, w7n_s_1 c, hk⟩) (ways_leaf fun hk => .inr ⟨2000, _, _, _, w7n_s_2 c, hk, rfl⟩)) o h
theorem c7n (c : Ct) (n : Nat) {r : T} (hk : K7n_s c = true) (hr : (M7n c).fin n (V7n_s c) = some r) : PureFn prog gl 7 [ctT c] r := run7n c (T7n_s c hk) hr
end Go.Proofs.Tryd

/- The sixth rule, both sides; the first rule; the law's guard. -/
namespace Go.Proofs
open Go.Ps
set_option maxRecDepth 100000
set_option linter.unusedSimpArgs false

/-! ### totals of the program -/
def Tryd.totE (c : Ct) : Int := if c.accepted ≠ Tryd.sumR Tryd.F58 c.line c.n 0 0 ∨ c.delivered ≠ Tryd.sumR (Tryd.F57 59) c.line c.n 0 0 ∨ c.waiting ≠ Tryd.sumR (Tryd.F57 34) c.line c.n 0 0 ∨ c.letters ≠ Tryd.sumR (Tryd.F57 60) c.line c.n 0 0 ∨ c.discarded ≠ Tryd.sumR (Tryd.F57 61) c.line c.n 0 0 then 38 else 0
theorem Tryd.totals_ok (c : Ct) (hn : c.n ≤ 281474976710656) : PureFn Tryd.prog Tryd.gl 19 [ctT c] (.int .i64 (Tryd.totE c)) := by
  have a1 : decide (c.n ≤ 281474976710656) = true := decide_eq_true hn
  refine Tryd.c19 c 0 ?_ ?_
  · unfold Tryd.K19_s
    repeat' (refine Tryd.tree_eq (fun _ => ?_) (fun _ => ?_))
    all_goals (simp only [Tryd.g19_s_1, Tryd.g19_s_2, Tryd.g19_s_3, Tryd.g19_s_4, Tryd.g19_s_5, Tryd.g19_s_6] at *; simp only [*, allT, isV_self, decide_true, Bool.not_false, Bool.not_true, Bool.and_true])
  · have hv : Tryd.V19_s c = .inr (.int .i64 (Tryd.totE c)) := by
      unfold Tryd.V19_s
      repeat' (refine Tryd.tree_eq (fun _ => ?_) (fun _ => ?_))
      all_goals (unfold Tryd.totE; grind)
    rw [hv]; rfl

/-! ### size -/
def Tryd.sizE (c : Ct) : Int := if c.entries < 0 ∨ c.entries > 1048576 then 2 else if c.n > 65536 then 9 else 0
theorem Tryd.size_ok (c : Ct) : PureFn Tryd.prog Tryd.gl 14 [ctT c] (.int .i64 (Tryd.sizE c)) := by
  have hv : Tryd.V14_s c = .inr (.int .i64 (Tryd.sizE c)) := by
    unfold Tryd.V14_s
    repeat' (refine Tryd.tree_eq (fun _ => ?_) (fun _ => ?_))
    all_goals (unfold Tryd.sizE; grind)
  refine Tryd.c14 c 0 ?_ (by rw [hv]; rfl)
  unfold Tryd.K14_s
  repeat' (refine Tryd.tree_eq (fun _ => ?_) (fun _ => ?_))
  all_goals (simp only [Tryd.g14_s_1, Tryd.g14_s_2, Tryd.g14_s_3, Tryd.g14_s_4] at *; simp_all [allT])

/-! ### totals of the law -/
def Tryd.ltR (line : Nat → Ln) : Nat → Nat → Int → Int → Int → Int → Int × Int × Int × Int
  | 0, _, d, w, l, x => (d, w, l, x)
  | m + 1, i, d, w, l, x =>
    if (line i).closed == 6 then Tryd.ltR line m (i + 1) d w l (IntKind.i64.wrap (x + (line i).mass))
    else if (line i).fate == 0 then Tryd.ltR line m (i + 1) d (IntKind.i64.wrap (w + (line i).mass)) l x
    else if (line i).fate == 3 then Tryd.ltR line m (i + 1) (IntKind.i64.wrap (d + (line i).mass)) w l x
    else if (line i).fate == 4 && (line i).closed == 0 then Tryd.ltR line m (i + 1) d w (IntKind.i64.wrap (l + (line i).mass)) x
    else Tryd.ltR line m (i + 1) d w l x
def Tryd.ltC (c : Ct) (q : Int × Int × Int × Int) : Ct := { c with delivered := q.1, waiting := q.2.1, letters := q.2.2.1, discarded := q.2.2.2 }
theorem Tryd.run24_eq (c : Ct) (hn : c.n ≤ 281474976710656) : ∀ (k i : Nat) (d w l x : Int), k + i = c.n → Tryd.Runs (Tryd.M24 c) (.l0 i d w l x) (ctT (Tryd.ltC c (Tryd.ltR c.line k i d w l x))) := by
  intro k
  induction k with
  | zero =>
    intro i d w l x hi
    have : i = c.n := by omega
    subst this
    refine .done ?_
    show Tryd.step24_0 c c.n d w l x = _
    rw [Tryd.T24_0 c c.n d w l x (by unfold Tryd.K24_0; rw [if_neg (by simp)]; simp [Tryd.g24_0_1, Tryd.g24_0_2, Tryd.g24_0_3, Tryd.g24_0_4, Tryd.g24_0_5, Tryd.g24_0_6, Tryd.g24_0_7, allT])]
    unfold Tryd.V24_0
    rw [if_neg (by simp)]
    rfl
  | succ k ih =>
    intro i d w l x hi
    have b1 : decide ((i : Int) < c.n) = true := decide_eq_true (by omega)
    have b2 : decide ((0 : Int) ≤ i) = true := decide_eq_true (by omega)
    have hst : (Tryd.M24 c).step (.l0 i d w l x) = some (Tryd.V24_0 c i d w l x) := by
      show Tryd.step24_0 c i d w l x = _
      refine Tryd.T24_0 c i d w l x ?_
      unfold Tryd.K24_0
      repeat' (refine Tryd.tree_eq (fun _ => ?_) (fun _ => ?_))
      all_goals (simp only [Tryd.g24_0_1, Tryd.g24_0_2, Tryd.g24_0_3, Tryd.g24_0_4, Tryd.g24_0_5, Tryd.g24_0_6, Tryd.g24_0_7, Int.toNat_natCast] at *; first | (simp only [*, allT, isV_self, Bool.not_false, Bool.not_true, Bool.and_true]; done) | simp_all)
    unfold Tryd.V24_0 at hst
    rw [if_pos b1, Tryd.wsucc i (by omega)] at hst
    simp only [Int.toNat_natCast] at hst
    unfold Tryd.ltR
    cases e1 : ((c.line i).closed == 6) with
    | true => rw [e1] at hst; exact .next hst (ih (i + 1) _ _ _ _ (by omega))
    | false =>
      rw [e1] at hst
      cases e2 : ((c.line i).fate == 0) with
      | true => rw [e2] at hst; exact .next hst (ih (i + 1) _ _ _ _ (by omega))
      | false =>
        rw [e2] at hst
        cases e3 : ((c.line i).fate == 3) with
        | true => rw [e3] at hst; exact .next hst (ih (i + 1) _ _ _ _ (by omega))
        | false =>
          rw [e3] at hst
          cases e4 : ((c.line i).fate == 4) with
          | false => rw [e4] at hst; exact .next hst (ih (i + 1) _ _ _ _ (by omega))
          | true =>
            rw [e4] at hst
            cases e5 : ((c.line i).closed == 0) with
            | true => rw [e5] at hst; exact .next hst (ih (i + 1) _ _ _ _ (by omega))
            | false => rw [e5] at hst; exact .next hst (ih (i + 1) _ _ _ _ (by omega))
def Tryd.ltot (c : Ct) : Ct := Tryd.ltC c (Tryd.ltR c.line c.n 0 0 0 0 0)
theorem Tryd.ltotals_ok (c : Ct) (hn : c.n ≤ 281474976710656) : PureFn Tryd.prog Tryd.gl 24 [ctT c] (ctT (Tryd.ltot c)) := by
  obtain ⟨n, h⟩ := Tryd.run24_eq c hn c.n 0 0 0 0 0 (by omega)
  exact Tryd.c24 c n (by unfold Tryd.K24_s; simp [Tryd.g24_s_1, allT]) (by unfold Tryd.V24_s; exact h)

/-! ### small -/
theorem Tryd.small_ex (c : Ct) : ∃ b, (b = true → Tryd.small c) ∧ PureFn Tryd.prog Tryd.gl 7 [ctT c] (.bool b) := by
  by_cases h0 : (c.n : Int) > 30
  · refine ⟨false, fun h => by (cases h), Tryd.c7n c 0 ?_ ?_⟩
    · unfold Tryd.K7n_s; rw [if_pos (decide_eq_true h0)]; simp [Tryd.g7n_s_1, allT]; omega
    · unfold Tryd.V7n_s; rw [if_pos (decide_eq_true h0)]; rfl
  · have hn : c.n ≤ 30 := by omega
    have e0 : decide ((c.n : Int) > 30) = false := decide_eq_false h0
    suffices hrun : ∀ (k i : Nat), k + i = c.n → (∀ j, j < i → (c.line j).k ≤ 10 ∧ (c.line j).st.n ≤ 20 ∧ ∀ k, k < (c.line j).k → ((c.line j).from_ k).n ≤ 20) → ∃ b, (b = true → Tryd.small c) ∧ Tryd.Runs (Tryd.M7n c) (.l0 i) (.bool b) by
      obtain ⟨b, hb, n, h⟩ := hrun c.n 0 (by omega) (fun j hj => by omega)
      refine ⟨b, hb, Tryd.c7n c n ?_ ?_⟩
      · unfold Tryd.K7n_s; rw [e0]; simp [Tryd.g7n_s_2, allT]; omega
      · unfold Tryd.V7n_s; rw [e0]; exact h
    intro k
    induction k with
    | zero =>
      intro i hi hp
      have : i = c.n := by omega
      subst this
      refine ⟨true, fun _ => ⟨hn, hp⟩, .done ?_⟩
      show Tryd.step7n_0 c c.n = _
      rw [Tryd.T7n_0 c c.n (by unfold Tryd.K7n_0; rw [if_neg (by simp)]; simp [Tryd.g7n_0_1, Tryd.g7n_0_2, Tryd.g7n_0_3, Tryd.g7n_0_4, Tryd.g7n_0_5, allT])]
      unfold Tryd.V7n_0
      rw [if_neg (by simp)]
    | succ k ih =>
      intro i hi hp
      have b1 : decide ((i : Int) < c.n) = true := decide_eq_true (by omega)
      have b2 : decide ((0 : Int) ≤ i) = true := decide_eq_true (by omega)
      have hst : (Tryd.M7n c).step (.l0 i) = some (Tryd.V7n_0 c i) := by
        show Tryd.step7n_0 c i = _
        refine Tryd.T7n_0 c i ?_
        unfold Tryd.K7n_0
        repeat' (refine Tryd.tree_eq (fun _ => ?_) (fun _ => ?_))
        all_goals (simp only [Tryd.g7n_0_1, Tryd.g7n_0_2, Tryd.g7n_0_3, Tryd.g7n_0_4, Tryd.g7n_0_5, Int.toNat_natCast] at *; first | (simp only [*, allT, isV_self, Bool.not_false, Bool.not_true, Bool.and_true]; done) | simp_all)
      unfold Tryd.V7n_0 at hst
      rw [if_pos b1] at hst
      simp only [Int.toNat_natCast] at hst
      cases e1 : decide (((c.line i).k : Int) > 10) with
      | true => rw [e1] at hst; exact ⟨false, fun h => by (cases h), .done hst⟩
      | false =>
        rw [e1] at hst
        cases e2 : decide (((c.line i).st.n : Int) > 20) with
        | true => rw [e2] at hst; exact ⟨false, fun h => by (cases h), .done hst⟩
        | false =>
          rw [e2] at hst
          cases e3 : decide (((c.line i).node.length : Int) > 100) with
          | true => simp only [e3] at hst; exact ⟨false, fun h => by (cases h), .done hst⟩
          | false =>
            simp only [e3] at hst
            simp only [decide_eq_false_iff_not] at e1 e2
            have inner : ∀ (m q : Nat), m + q = (c.line i).k → (∀ j, j < q → ((c.line i).from_ j).n ≤ 20) → ∃ b, (b = true → Tryd.small c) ∧ Tryd.Runs (Tryd.M7n c) (.l1 i q) (.bool b) := by
              intro m
              induction m with
              | zero =>
                intro q hq hp2
                have : q = (c.line i).k := by omega
                subst this
                obtain ⟨b, hb, hr⟩ := ih (i + 1) (by omega) (fun j hj => by
                  by_cases hji : j = i
                  · subst hji; exact ⟨by omega, by omega, hp2⟩
                  · exact hp j (by omega))
                refine ⟨b, hb, .next ?_ hr⟩
                show Tryd.step7n_1 c i (c.line i).k = _
                rw [Tryd.T7n_1 c i (c.line i).k (by unfold Tryd.K7n_1; simp only [Int.toNat_natCast]; rw [if_neg (by simp)]; simp [Tryd.g7n_1_1, Tryd.g7n_1_2, Tryd.g7n_1_3, allT])]
                unfold Tryd.V7n_1
                simp only [Int.toNat_natCast]
                rw [if_neg (by simp), Tryd.wsucc i (by omega)]
              | succ m ih2 =>
                intro q hq hp2
                have d1 : decide ((q : Int) < (c.line i).k) = true := decide_eq_true (by omega)
                have d2 : decide ((0 : Int) ≤ q) = true := decide_eq_true (by omega)
                have hs2 : (Tryd.M7n c).step (.l1 i q) = some (Tryd.V7n_1 c i q) := by
                  show Tryd.step7n_1 c i q = _
                  refine Tryd.T7n_1 c i q ?_
                  unfold Tryd.K7n_1
                  simp only [Int.toNat_natCast]
                  repeat' (refine Tryd.tree_eq (fun _ => ?_) (fun _ => ?_))
                  all_goals (simp only [Tryd.g7n_1_1, Tryd.g7n_1_2, Tryd.g7n_1_3, Int.toNat_natCast] at *; first | (simp only [*, allT, isV_self, Bool.not_false, Bool.not_true, Bool.and_true]; done) | simp_all)
                unfold Tryd.V7n_1 at hs2
                simp only [Int.toNat_natCast] at hs2
                rw [if_pos d1, Tryd.wsucc q (by omega)] at hs2
                cases e4 : decide ((((c.line i).from_ q).n : Int) > 20) with
                | true => simp only [e4] at hs2; exact ⟨false, fun h => by (cases h), .done hs2⟩
                | false =>
                  simp only [e4] at hs2
                  simp only [decide_eq_false_iff_not] at e4
                  obtain ⟨b, hb, hr⟩ := ih2 (q + 1) (by omega) (fun j hj => by
                    by_cases hjq : j = q
                    · subst hjq; omega
                    · exact hp2 j (by omega))
                  exact ⟨b, hb, .next hs2 hr⟩
            obtain ⟨b, hb, hr⟩ := inner (c.line i).k 0 (by omega) (fun j hj => by omega)
            exact ⟨b, hb, .next hst hr⟩
end Go.Proofs

/- The children of a line, as the law lists them; the contract. -/
namespace Go.Proofs
open Go.Ps

def Tryd.kidR (f : Nat → Ln) (s : Sp) (i : Nat) : Nat → Nat → List Int → List Int
  | 0, _, xs => xs
  | q + 1, k, xs => Tryd.kidR f s i q (k + 1) (if Tryd.eqS ((f i).from_ k) s then xs ++ [(i : Int)] else xs)
def Tryd.kidO (f : Nat → Ln) (s : Sp) : Nat → Nat → List Int → List Int
  | 0, _, xs => xs
  | q + 1, i, xs => Tryd.kidO f s q (i + 1) (Tryd.kidR f s i (f i).k 0 xs)
def Tryd.kids (m : Nat) (f : Nat → Ln) (s : Sp) : List Int := Tryd.kidO f s m 0 []
/-- Lines of the sizes that the law asks for. -/
def Tryd.smallL (m : Nat) (f : Nat → Ln) : Prop := m ≤ 30 ∧ ∀ i, i < m → (f i).k ≤ 10 ∧ (f i).st.n ≤ 20 ∧ ∀ k, k < (f i).k → ((f i).from_ k).n ≤ 20
noncomputable def Tryd.smallLB (m : Nat) (f : Nat → Ln) : Bool := @decide (Tryd.smallL m f) (Classical.propDecidable _)
theorem Tryd.smallLB_iff {m : Nat} {f : Nat → Ln} : Tryd.smallLB m f = true ↔ Tryd.smallL m f := by unfold Tryd.smallLB; simp
noncomputable def Tryd.s43 : List T → Option (T × List Bool)
  | [t, u] => some (.slf false (Tryd.kids (slN t) (lsv t) (spv u)).length (fun j => .int .i64 ((Tryd.kids (slN t) (lsv t) (spv u)).getD j 0)), [isV t (lsT (slN t) (lsv t)), isV u (spT (spv u)), Tryd.smallLB (slN t) (lsv t)])
  | _ => none
noncomputable def Tryd.D15 : Ed := ⟨Tryd.gl, pdAdd 43 Tryd.s43 Tryd.D14.pd⟩
end Go.Proofs

/- children of the law: proved. -/
namespace Go.Proofs
open Go.Ps
set_option maxRecDepth 100000
set_option linter.unusedSimpArgs false
set_option linter.unusedSectionVars false

def Tryd.ints (xs : List Int) : List T := xs.map (T.int .i64)
/-- What lies in the slot of the list, and in the heap. -/
def Tryd.At0 (xs : List Int) (i : Nat) (σ : Tryd.S43) : Prop := (xs = [] ∧ σ = .l0n i) ∨ (xs ≠ [] ∧ ∃ L H, σ = .l0o L xs.length i H ∧ H.get L = some ⟨3, 1, Tryd.ints xs⟩)
def Tryd.At1 (xs : List Int) (i k : Nat) (σ : Tryd.S43) : Prop := (xs = [] ∧ σ = .l1n i k) ∨ (xs ≠ [] ∧ ∃ L H, σ = .l1o L xs.length i k H ∧ H.get L = some ⟨3, 1, Tryd.ints xs⟩)
def Tryd.kidT (xs : List Int) : T := if xs = [] then .nils else .sl false (Tryd.ints xs)

section
variable (m : Nat) (f : Nat → Ln) (s : Sp) (hs : Tryd.smallL m f)
include hs

theorem Tryd.st43_1 (i : Nat) (hi : i < m) (k : Nat) (hk : k < (f i).k) (xs : List Int) (hx : xs.length ≤ 1000) (σ : Tryd.S43) (h : Tryd.At1 xs i k σ) :
    ∃ σ', (Tryd.M43 m f s).step σ = some (.inl σ') ∧ Tryd.At1 (if Tryd.eqS ((f i).from_ k) s then xs ++ [(i : Int)] else xs) i (k + 1) σ' := by
  have h1 := hs.1
  obtain ⟨h2, h3, h4⟩ := hs.2 i hi
  have h5 := h4 k hk
  have b1 : decide (((f i).from_ k).n ≤ 281474976710656) = true := decide_eq_true (by omega)
  have b2 : decide ((k : Int) < (f i).k) = true := decide_eq_true (by omega)
  have b3 : decide ((0 : Int) ≤ k) = true := decide_eq_true (by omega)
  have b4 : decide ((i : Int) < m) = true := decide_eq_true (by omega)
  have b5 : decide ((0 : Int) ≤ i) = true := decide_eq_true (by omega)
  have b6 := Tryd.wsucc k (by omega)
  rcases h with ⟨rfl, rfl⟩ | ⟨hne, L, H, rfl, hH⟩
  · have hst : (Tryd.M43 m f s).step (.l1n i k) = some (Tryd.V43_1n m f s i k) := by
      show Tryd.step43_1n m f s i k = _
      refine Tryd.T43_1n m f s i k ?_
      unfold Tryd.K43_1n
      simp only [Int.toNat_natCast]
      rw [if_pos b2]
      refine Tryd.tree_eq (fun e => ?_) (fun e => ?_)
      all_goals (simp only [Tryd.g43_1n_1, Tryd.g43_1n_2, Int.toNat_natCast] at *; simp only [e, allT, isV_self, b1, b2, b3, b4, b5, Bool.not_false, Bool.and_true])
    unfold Tryd.V43_1n at hst
    simp only [Int.toNat_natCast] at hst
    rw [if_pos b2, b6] at hst
    cases e : Tryd.eqS ((f i).from_ k) s with
    | true => simp only [e, reduceIte, Bool.false_eq_true] at hst; exact ⟨_, hst, .inr ⟨by simp, 0, _, rfl, rfl⟩⟩
    | false => simp only [e, reduceIte, Bool.false_eq_true] at hst; exact ⟨_, hst, .inl ⟨rfl, rfl⟩⟩
  · have hst : (Tryd.M43 m f s).step (.l1o L xs.length i k H) = some (Tryd.V43_1o m f s L xs.length i k H) := by
      show Tryd.step43_1o m f s L xs.length i k H = _
      refine Tryd.T43_1o m f s L xs.length i k H ?_
      have b7 : obApp H L 3 1 xs.length = true := by
        unfold obApp
        rw [hH]
        simp [Tryd.ints]
      have b8 : roomT (xs.length + 1) 8 = true := by
        unfold roomT
        rw [decide_eq_true (by omega), decide_eq_true (by omega)]
        rfl
      unfold Tryd.K43_1o
      simp only [Int.toNat_natCast]
      rw [if_pos b2]
      refine Tryd.tree_eq (fun e => ?_) (fun e => ?_)
      all_goals (simp only [Tryd.g43_1o_1, Tryd.g43_1o_2, Int.toNat_natCast] at *; simp only [e, allT, isV_self, b1, b2, b3, b4, b5, b7, b8, Bool.not_false, Bool.and_true])
    unfold Tryd.V43_1o at hst
    simp only [Int.toNat_natCast] at hst
    rw [if_pos b2, b6] at hst
    cases e : Tryd.eqS ((f i).from_ k) s with
    | true =>
      simp only [e, reduceIte] at hst
      refine ⟨_, hst, .inr ⟨by simp, H.next, _, by simp; rfl, ?_⟩⟩
      have : (obv H L).cells = Tryd.ints xs := by unfold obv; rw [hH]
      simp [Hp.get, findOb, this, Tryd.ints]
    | false => simp only [e, reduceIte, Bool.false_eq_true] at hst; exact ⟨_, hst, .inr ⟨by simpa using hne, L, H, rfl, hH⟩⟩

theorem Tryd.st43_1e (i : Nat) (hi : i < m) (xs : List Int) (σ : Tryd.S43) (h : Tryd.At1 xs i (f i).k σ) : ∃ σ', (Tryd.M43 m f s).step σ = some (.inl σ') ∧ Tryd.At0 xs (i + 1) σ' := by
  have h1 := hs.1
  have b4 : decide ((i : Int) < m) = true := decide_eq_true (by omega)
  have b5 : decide ((0 : Int) ≤ i) = true := decide_eq_true (by omega)
  have b6 := Tryd.wsucc i (by omega)
  rcases h with ⟨rfl, rfl⟩ | ⟨hne, L, H, rfl, hH⟩
  · refine ⟨.l0n (i + 1 : Nat), ?_, .inl ⟨rfl, rfl⟩⟩
    show Tryd.step43_1n m f s i (f i).k = _
    rw [Tryd.T43_1n m f s i (f i).k (by unfold Tryd.K43_1n; simp only [Int.toNat_natCast]; rw [if_neg (by simp)]; simp [Tryd.g43_1n_3, allT]; omega)]
    unfold Tryd.V43_1n
    simp only [Int.toNat_natCast]
    rw [if_neg (by simp), b6]
  · refine ⟨.l0o L xs.length (i + 1 : Nat) H, ?_, .inr ⟨hne, L, H, rfl, hH⟩⟩
    show Tryd.step43_1o m f s L xs.length i (f i).k H = _
    rw [Tryd.T43_1o m f s L xs.length i (f i).k H (by unfold Tryd.K43_1o; simp only [Int.toNat_natCast]; rw [if_neg (by simp)]; simp [Tryd.g43_1o_3, allT]; omega)]
    unfold Tryd.V43_1o
    simp only [Int.toNat_natCast]
    rw [if_neg (by simp), b6]

theorem Tryd.st43_0 (i : Nat) (hi : i < m) (xs : List Int) (σ : Tryd.S43) (h : Tryd.At0 xs i σ) : ∃ σ', (Tryd.M43 m f s).step σ = some (.inl σ') ∧ Tryd.At1 xs i 0 σ' := by
  have b4 : decide ((i : Int) < m) = true := decide_eq_true (by omega)
  rcases h with ⟨rfl, rfl⟩ | ⟨hne, L, H, rfl, hH⟩
  · refine ⟨.l1n i (0 : Nat), ?_, .inl ⟨rfl, rfl⟩⟩
    show Tryd.step43_0n m f s i = _
    rw [Tryd.T43_0n m f s i (by unfold Tryd.K43_0n; rw [if_pos b4]; simp only [Tryd.g43_0n_1, allT, b4, Bool.and_true])]
    unfold Tryd.V43_0n
    rw [if_pos b4]; rfl
  · refine ⟨.l1o L xs.length i (0 : Nat) H, ?_, .inr ⟨hne, L, H, rfl, hH⟩⟩
    show Tryd.step43_0o m f s L xs.length i H = _
    rw [Tryd.T43_0o m f s L xs.length i H (by unfold Tryd.K43_0o; rw [if_pos b4]; simp only [Tryd.g43_0o_1, allT, b4, Bool.and_true])]
    unfold Tryd.V43_0o
    rw [if_pos b4]; rfl

theorem Tryd.st43_0e (xs : List Int) (σ : Tryd.S43) (h : Tryd.At0 xs m σ) : (Tryd.M43 m f s).step σ = some (.inr (Tryd.kidT xs)) := by
  rcases h with ⟨rfl, rfl⟩ | ⟨hne, L, H, rfl, hH⟩
  · show Tryd.step43_0n m f s m = _
    rw [Tryd.T43_0n m f s m (by unfold Tryd.K43_0n; rw [if_neg (by simp)]; simp [Tryd.g43_0n_2, allT])]
    unfold Tryd.V43_0n
    rw [if_neg (by simp)]; rfl
  · have hz : frzT 20 H (.osl L 1 0 xs.length) = some (.sl false (Tryd.ints xs)) := frz_row (d := 18) hH rfl (by simp [Tryd.ints]) (by simp [Tryd.ints, scal1])
    show Tryd.step43_0o m f s L xs.length m H = _
    rw [Tryd.T43_0o m f s L xs.length m H (by unfold Tryd.K43_0o; rw [if_neg (by simp), hz]; simp [Tryd.g43_0o_2, allT])]
    unfold Tryd.V43_0o
    rw [if_neg (by simp), hz]
    unfold Tryd.kidT
    rw [if_neg hne]
    rfl

theorem Tryd.run43_eq (r : T) : ∀ (q i : Nat) (xs : List Int) (σ : Tryd.S43), q + i = m → xs.length ≤ 10 * i → Tryd.At0 xs i σ → r = Tryd.kidT (Tryd.kidO f s q i xs) → Tryd.Runs (Tryd.M43 m f s) σ r := by
  intro q
  induction q with
  | zero =>
    intro i xs σ h1 _ h2 h3
    have : i = m := by omega
    subst this
    subst h3
    exact .done (Tryd.st43_0e _ f s hs xs σ h2)
  | succ q ih =>
    intro i xs σ h1 hx h2 h3
    have hm := hs.1
    have h10 := (hs.2 i (by omega)).1
    have inner : ∀ (p k : Nat) (xs : List Int) (σ : Tryd.S43), p + k = (f i).k → xs.length ≤ 10 * i + k → Tryd.At1 xs i k σ → r = Tryd.kidT (Tryd.kidO f s q (i + 1) (Tryd.kidR f s i p k xs)) → Tryd.Runs (Tryd.M43 m f s) σ r := by
      intro p
      induction p with
      | zero =>
        intro k xs σ h1' hx' h2' h3'
        have : k = (f i).k := by omega
        subst this
        obtain ⟨σ', a, b⟩ := Tryd.st43_1e m f s hs i (by omega) xs σ h2'
        exact .next a (ih (i + 1) xs σ' (by omega) (by omega) b h3')
      | succ p ihp =>
        intro k xs σ h1' hx' h2' h3'
        obtain ⟨σ', a, b⟩ := Tryd.st43_1 m f s hs i (by omega) k (by omega) xs (by omega) σ h2'
        refine .next a (ihp (k + 1) _ σ' (by omega) ?_ b h3')
        split
        · simp; omega
        · omega
    obtain ⟨σ', a, b⟩ := Tryd.st43_0 m f s hs i (by omega) xs σ h2
    exact .next a (inner (f i).k 0 xs σ' (by omega) (by omega) b h3)

theorem Tryd.kids_ok : PureFn Tryd.prog Tryd.gl 43 [lsT m f, spT s] (.slf false (Tryd.kids m f s).length (fun j => .int .i64 ((Tryd.kids m f s).getD j 0))) := by
  obtain ⟨n, hn⟩ := Tryd.run43_eq m f s hs (Tryd.kidT (Tryd.kids m f s)) m 0 [] (.l0n (0 : Nat)) (by omega) (by simp) (.inl ⟨rfl, rfl⟩) rfl
  refine PureFn.mono (Tryd.c43 m f s n (by unfold Tryd.K43_s; simp [Tryd.g43_s_1, allT]) (by unfold Tryd.V43_s; exact hn)) fun g v hv => ?_
  unfold Tryd.kidT at hv
  by_cases h : Tryd.kids m f s = []
  · rw [if_pos h] at hv
    rw [h]
    exact rd_nslf _ _ hv
  · rw [if_neg h] at hv
    refine rd_slf hv ?_ (by simp [Tryd.ints]) (fun j hj => ?_)
    · intro x hx
      obtain ⟨z, _, rfl⟩ := List.mem_map.1 hx
      rfl
    · unfold Tryd.ints
      rw [List.getElem?_map, List.getElem?_eq_getElem hj, List.getD_eq_getElem?_getD, List.getElem?_eq_getElem hj]
      rfl
end
theorem Tryd.s43_ok (ts : List T) (r : T) (cs : List Bool) (h : Tryd.s43 ts = some (r, cs)) (k : allT cs = true) : PureFn Tryd.prog Tryd.gl 43 ts r := by
  unfold Tryd.s43 at h; split at h
  · rename_i t u
    cases h
    simp only [allT, Bool.and_true, Bool.and_eq_true, isV_iff, Tryd.smallLB_iff] at k
    rw [k.1, k.2.1]
    exact Tryd.kids_ok _ _ _ k.2.2
  · cases h
theorem Tryd.cx15 : Cx Tryd.prog Tryd.D15 Tryd.F0 := ⟨Tryd.follows, pdAdd_ok Tryd.cx14.hE Tryd.s43_ok, Tryd.F0ok⟩
end Go.Proofs
