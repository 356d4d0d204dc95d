/- Texts merged: R29, Rt, Rj, Re, Rg, Xd, D9, De, Df, Dg, Dh, S52, Sm, S31, Sn, S11, So, Xb, B4, B5, PsOp, Opn. -/
import Derived.Test.YtcndhbamkipifaaGreatDoorDe3
import Derived.Test.YtcndhbamkipifaaGreatDoorDe1
import Derived.Lib.AtoiAll
import Derived.Lib.Split
import Derived.ChangeArms
import Derived.Carry
import Derived.Test.YtcndhbamkipifaaGreatDoorCards
import Derived.Test.YtcndhbamkipifaaGreatDoorTie
import Derived.WalkKit
import Derived.ProofKit
import Derived.OpenShut
import Derived.Deep.DeepHandedRow
import Derived.Lib.LaidTab
import Derived.Stop.LaidErr
import Derived.LaidMore
import Derived.LaidLaws
import Derived.Shelf.Vars
set_option linter.unusedSimpArgs false
set_option linter.unusedVariables false
set_option linter.unusedSectionVars false
/- By program (gen2). -/
namespace Go.Proofs.Tryz
noncomputable section
open Go.Ps
set_option maxRecDepth 100000
/-! ### 29 -/
inductive S29z where
 | l0 (x74 x75 : Int) (H : Hp)
def k29z_s_0 (m : Int) (te : TypeId) (s : List UInt8) : List Bool := [decide (s.length < 4294967281), pb (([32] : List UInt8) ≠ [])]
def k29z_s_1 (m : Int) (te : TypeId) (s : List UInt8) : List Bool := let y0 := (↑(spl s [32]).length : Int) != 7; (!y0) :: (!y0) :: (!y0) :: true :: (decide (0 < (↑(spl s [32]).length : Int))) :: true :: (!y0) :: (!y0) :: k29z_s_0 m te s
def k29z_s_2 (m : Int) (te : TypeId) (s : List UInt8) : List Bool := true :: (pb (∀ (i : Nat), i < 3 → ((spl s [32]).getD (2 + i) []).length ≤ 281474976710656)) :: (isV (T.slf false 3 fun i => T.str ((spl s [32]).getD (2 + i) [])) (T.slf false 3 fun i => T.str ((spl s [32]).getD (2 + i) []))) :: true :: (decide (5 ≤ (↑(spl s [32]).length : Int))) :: true :: true :: true :: true :: true :: (decide (((spl s [32]).getD 1 []).length < 4294967281)) :: true :: (decide (1 < (↑(spl s [32]).length : Int))) :: true :: (!!(spl s [32]).getD 0 [] == [108, 105, 110, 101]) :: k29z_s_1 m te s
def k29z_s_3 (m : Int) (te : TypeId) (s : List UInt8) : List Bool := let y0 := pE ((spl s [32]).getD 1 []) != 0; (!y0) :: (!y0) :: (!y0) :: k29z_s_2 m te s
def k29z_s_4 (m : Int) (te : TypeId) (s : List UInt8) : List Bool := true :: (decide (5 < (↑(spl s [32]).length : Int))) :: true :: true :: true :: true :: (decide (2 < (↑(nN (fun i => (spl s [32]).getD (2 + i) []) 3) : Int))) :: true :: true :: (decide (1 < (↑(nN (fun i => (spl s [32]).getD (2 + i) []) 3) : Int))) :: true :: true :: (decide (0 < (↑(nN (fun i => (spl s [32]).getD (2 + i) []) 3) : Int))) :: true :: (!!allR (fun i => (spl s [32]).getD (2 + i) []) 3 0) :: k29z_s_3 m te s
def k29z_s_5 (m : Int) (te : TypeId) (s : List UInt8) : List Bool := true :: (decide (6 < (↑(spl s [32]).length : Int))) :: true :: true :: true :: true :: true :: (decide (5 < (↑(spl s [32]).length : Int))) :: true :: (!(spl s [32]).getD 5 [] == [45]) :: k29z_s_4 m te s
def k29z_s_6 (m : Int) (te : TypeId) (s : List UInt8) : List Bool := true :: (decide (6 < (↑(spl s [32]).length : Int))) :: true :: (!!(spl s [32]).getD 5 [] == [45]) :: k29z_s_4 m te s
def g29z_s_1 (m : Int) (te : TypeId) (s : List UInt8) : List Bool := let y0 := (↑(spl s [32]).length : Int) != 7; true :: true :: true :: true :: y0 :: y0 :: y0 :: y0 :: y0 :: k29z_s_0 m te s
def g29z_s_2 (m : Int) (te : TypeId) (s : List UInt8) : List Bool := true :: true :: true :: (!(spl s [32]).getD 0 [] == [108, 105, 110, 101]) :: k29z_s_1 m te s
def g29z_s_3 (m : Int) (te : TypeId) (s : List UInt8) : List Bool := let y0 := pE ((spl s [32]).getD 1 []) != 0; true :: true :: true :: true :: y0 :: y0 :: y0 :: k29z_s_2 m te s
def g29z_s_4 (m : Int) (te : TypeId) (s : List UInt8) : List Bool := true :: true :: true :: (!allR (fun i => (spl s [32]).getD (2 + i) []) 3 0) :: k29z_s_3 m te s
def g29z_s_5 (m : Int) (te : TypeId) (s : List UInt8) : List Bool := true :: true :: true :: true :: ((spl s [32]).getD 6 [] == [45]) :: k29z_s_5 m te s
def g29z_s_6 (m : Int) (te : TypeId) (s : List UInt8) : List Bool := (decide (((spl s [32]).getD 6 []).length < 4294967281)) :: (pb (([44] : List UInt8) ≠ [])) :: true :: (decide (6 < (↑(spl s [32]).length : Int))) :: true :: (!(spl s [32]).getD 6 [] == [45]) :: k29z_s_5 m te s
def g29z_s_7 (m : Int) (te : TypeId) (s : List UInt8) : List Bool := true :: true :: true :: true :: ((spl s [32]).getD 6 [] == [45]) :: k29z_s_6 m te s
def g29z_s_8 (m : Int) (te : TypeId) (s : List UInt8) : List Bool := (decide (((spl s [32]).getD 6 []).length < 4294967281)) :: (pb (([44] : List UInt8) ≠ [])) :: true :: (decide (6 < (↑(spl s [32]).length : Int))) :: true :: (!(spl s [32]).getD 6 [] == [45]) :: k29z_s_6 m te s
def k29z_0_0 (m : Int) (te : TypeId) (s : List UInt8) (x74 x75 : Int) (H : Hp) : List Bool := [true, true, decide (((spl ((spl s [32]).getD 6 []) [44]).getD x75.toNat []).length < 4294967281), decide (0 ≤ x75), decide (x75 < (↑(spl ((spl s [32]).getD 6 []) [44]).length : Int)), true, decide (x75 < x74)]
def k29z_0_1 (m : Int) (te : TypeId) (s : List UInt8) (x74 x75 : Int) (H : Hp) : List Bool := (obIn H 1 4) :: true :: (!pE ((spl ((spl s [32]).getD 6 []) [44]).getD x75.toNat []) != 0) :: k29z_0_0 m te s x74 x75 H
def g29z_0_1 (m : Int) (te : TypeId) (s : List UInt8) (x74 x75 : Int) (H : Hp) : List Bool := true :: (obIn H 0 7) :: true :: (pE ((spl ((spl s [32]).getD 6 []) [44]).getD x75.toNat []) != 0) :: k29z_0_0 m te s x74 x75 H
def g29z_0_2 (m : Int) (te : TypeId) (s : List UInt8) (x74 x75 : Int) (H : Hp) : List Bool := true :: (obIn (H.new { elem := 39, sz := 2, cells := [T.int .i64 (pS ((spl ((spl s [32]).getD 6 []) [44]).getD x75.toNat [])).entry, T.slf false (pS ((spl ((spl s [32]).getD 6 []) [44]).getD x75.toNat [])).n fun i => T.int .i64 ((pS ((spl ((spl s [32]).getD 6 []) [44]).getD x75.toNat [])).at_ i)] }) 1 4) :: true :: true :: true :: true :: (isNils ((obv H 1).cells.getD 3 undefT)) :: k29z_0_1 m te s x74 x75 H
def g29z_0_3 (m : Int) (te : TypeId) (s : List UInt8) (x74 x75 : Int) (H : Hp) : List Bool := true :: (obIn ((H.drop (oslL ((obv H 1).cells.getD 3 undefT))).new { elem := 39, sz := 2, cells := (obv H (oslL ((obv H 1).cells.getD 3 undefT))).cells ++ [T.int .i64 (pS ((spl ((spl s [32]).getD 6 []) [44]).getD x75.toNat [])).entry, T.slf false (pS ((spl ((spl s [32]).getD 6 []) [44]).getD x75.toNat [])).n fun i => T.int .i64 ((pS ((spl ((spl s [32]).getD 6 []) [44]).getD x75.toNat [])).at_ i)] }) 1 4) :: true :: true :: true :: (obApp H (oslL ((obv H 1).cells.getD 3 undefT)) 39 2 (oslN ((obv H 1).cells.getD 3 undefT))) :: (roomT (oslN ((obv H 1).cells.getD 3 undefT) + 1) 32) :: (isOslS 2 ((obv H 1).cells.getD 3 undefT)) :: k29z_0_1 m te s x74 x75 H
def g29z_0_4 (m : Int) (te : TypeId) (s : List UInt8) (x74 x75 : Int) (H : Hp) : List Bool := [true, obIn H 0 7, allOne [(obv H 1).cells.getD 0 undefT, (obv H 1).cells.getD 1 undefT, (obv H 1).cells.getD 2 undefT, (obv H 1).cells.getD 3 undefT, (obv H 1).cells.getD 4 undefT, (obv H 1).cells.getD 5 undefT, (obv H 1).cells.getD 6 undefT], obIn H 1 7, !decide (x75 < x74)]
def q29z_0_1 (m : Int) (te : TypeId) (s : List UInt8) (x74 x75 : Int) (H : Hp) : Option T := if (obIn { next := H.next, objs := setOb H.objs 0 (have __src := obv H 0; { elem := __src.elem, sz := __src.sz, cells := T.int .i64 0 :: T.nils :: T.int .i64 0 :: T.nils :: T.int .i64 0 :: T.int .i64 0 :: T.str [] :: (List.drop (0 + 7) (obv H 0).cells) }) } 0 7 && true) = true then frzT 20 { next := H.next, objs := setOb H.objs 0 (have __src := obv H 0; { elem := __src.elem, sz := __src.sz, cells := T.int .i64 0 :: T.nils :: T.int .i64 0 :: T.nils :: T.int .i64 0 :: T.int .i64 0 :: T.str [] :: (List.drop (0 + 7) (obv H 0).cells) }) } (T.tup [T.agg [(obv { next := H.next, objs := setOb H.objs 0 (have __src := obv H 0; { elem := __src.elem, sz := __src.sz, cells := T.int .i64 0 :: T.nils :: T.int .i64 0 :: T.nils :: T.int .i64 0 :: T.int .i64 0 :: T.str [] :: (List.drop (0 + 7) (obv H 0).cells) }) } 0).cells.getD 0 undefT, (obv { next := H.next, objs := setOb H.objs 0 (have __src := obv H 0; { elem := __src.elem, sz := __src.sz, cells := T.int .i64 0 :: T.nils :: T.int .i64 0 :: T.nils :: T.int .i64 0 :: T.int .i64 0 :: T.str [] :: (List.drop (0 + 7) (obv H 0).cells) }) } 0).cells.getD 1 undefT, (obv { next := H.next, objs := setOb H.objs 0 (have __src := obv H 0; { elem := __src.elem, sz := __src.sz, cells := T.int .i64 0 :: T.nils :: T.int .i64 0 :: T.nils :: T.int .i64 0 :: T.int .i64 0 :: T.str [] :: (List.drop (0 + 7) (obv H 0).cells) }) } 0).cells.getD 2 undefT, (obv { next := H.next, objs := setOb H.objs 0 (have __src := obv H 0; { elem := __src.elem, sz := __src.sz, cells := T.int .i64 0 :: T.nils :: T.int .i64 0 :: T.nils :: T.int .i64 0 :: T.int .i64 0 :: T.str [] :: (List.drop (0 + 7) (obv H 0).cells) }) } 0).cells.getD 3 undefT, (obv { next := H.next, objs := setOb H.objs 0 (have __src := obv H 0; { elem := __src.elem, sz := __src.sz, cells := T.int .i64 0 :: T.nils :: T.int .i64 0 :: T.nils :: T.int .i64 0 :: T.int .i64 0 :: T.str [] :: (List.drop (0 + 7) (obv H 0).cells) }) } 0).cells.getD 4 undefT, (obv { next := H.next, objs := setOb H.objs 0 (have __src := obv H 0; { elem := __src.elem, sz := __src.sz, cells := T.int .i64 0 :: T.nils :: T.int .i64 0 :: T.nils :: T.int .i64 0 :: T.int .i64 0 :: T.str [] :: (List.drop (0 + 7) (obv H 0).cells) }) } 0).cells.getD 5 undefT, (obv { next := H.next, objs := setOb H.objs 0 (have __src := obv H 0; { elem := __src.elem, sz := __src.sz, cells := T.int .i64 0 :: T.nils :: T.int .i64 0 :: T.nils :: T.int .i64 0 :: T.int .i64 0 :: T.str [] :: (List.drop (0 + 7) (obv H 0).cells) }) } 0).cells.getD 6 undefT], T.bool false]) else none
def q29z_0_4 (m : Int) (te : TypeId) (s : List UInt8) (x74 x75 : Int) (H : Hp) : Option T := if (obIn { next := H.next, objs := setOb H.objs 0 (have __src := obv H 0; { elem := __src.elem, sz := __src.sz, cells := (obv H 1).cells.getD 0 undefT :: (obv H 1).cells.getD 1 undefT :: (obv H 1).cells.getD 2 undefT :: (obv H 1).cells.getD 3 undefT :: (obv H 1).cells.getD 4 undefT :: (obv H 1).cells.getD 5 undefT :: (obv H 1).cells.getD 6 undefT :: (List.drop (0 + 7) (obv H 0).cells) }) } 0 7 && true) = true then frzT 20 { next := H.next, objs := setOb H.objs 0 (have __src := obv H 0; { elem := __src.elem, sz := __src.sz, cells := (obv H 1).cells.getD 0 undefT :: (obv H 1).cells.getD 1 undefT :: (obv H 1).cells.getD 2 undefT :: (obv H 1).cells.getD 3 undefT :: (obv H 1).cells.getD 4 undefT :: (obv H 1).cells.getD 5 undefT :: (obv H 1).cells.getD 6 undefT :: (List.drop (0 + 7) (obv H 0).cells) }) } (T.tup [T.agg [(obv { next := H.next, objs := setOb H.objs 0 (have __src := obv H 0; { elem := __src.elem, sz := __src.sz, cells := (obv H 1).cells.getD 0 undefT :: (obv H 1).cells.getD 1 undefT :: (obv H 1).cells.getD 2 undefT :: (obv H 1).cells.getD 3 undefT :: (obv H 1).cells.getD 4 undefT :: (obv H 1).cells.getD 5 undefT :: (obv H 1).cells.getD 6 undefT :: (List.drop (0 + 7) (obv H 0).cells) }) } 0).cells.getD 0 undefT, (obv { next := H.next, objs := setOb H.objs 0 (have __src := obv H 0; { elem := __src.elem, sz := __src.sz, cells := (obv H 1).cells.getD 0 undefT :: (obv H 1).cells.getD 1 undefT :: (obv H 1).cells.getD 2 undefT :: (obv H 1).cells.getD 3 undefT :: (obv H 1).cells.getD 4 undefT :: (obv H 1).cells.getD 5 undefT :: (obv H 1).cells.getD 6 undefT :: (List.drop (0 + 7) (obv H 0).cells) }) } 0).cells.getD 1 undefT, (obv { next := H.next, objs := setOb H.objs 0 (have __src := obv H 0; { elem := __src.elem, sz := __src.sz, cells := (obv H 1).cells.getD 0 undefT :: (obv H 1).cells.getD 1 undefT :: (obv H 1).cells.getD 2 undefT :: (obv H 1).cells.getD 3 undefT :: (obv H 1).cells.getD 4 undefT :: (obv H 1).cells.getD 5 undefT :: (obv H 1).cells.getD 6 undefT :: (List.drop (0 + 7) (obv H 0).cells) }) } 0).cells.getD 2 undefT, (obv { next := H.next, objs := setOb H.objs 0 (have __src := obv H 0; { elem := __src.elem, sz := __src.sz, cells := (obv H 1).cells.getD 0 undefT :: (obv H 1).cells.getD 1 undefT :: (obv H 1).cells.getD 2 undefT :: (obv H 1).cells.getD 3 undefT :: (obv H 1).cells.getD 4 undefT :: (obv H 1).cells.getD 5 undefT :: (obv H 1).cells.getD 6 undefT :: (List.drop (0 + 7) (obv H 0).cells) }) } 0).cells.getD 3 undefT, (obv { next := H.next, objs := setOb H.objs 0 (have __src := obv H 0; { elem := __src.elem, sz := __src.sz, cells := (obv H 1).cells.getD 0 undefT :: (obv H 1).cells.getD 1 undefT :: (obv H 1).cells.getD 2 undefT :: (obv H 1).cells.getD 3 undefT :: (obv H 1).cells.getD 4 undefT :: (obv H 1).cells.getD 5 undefT :: (obv H 1).cells.getD 6 undefT :: (List.drop (0 + 7) (obv H 0).cells) }) } 0).cells.getD 4 undefT, (obv { next := H.next, objs := setOb H.objs 0 (have __src := obv H 0; { elem := __src.elem, sz := __src.sz, cells := (obv H 1).cells.getD 0 undefT :: (obv H 1).cells.getD 1 undefT :: (obv H 1).cells.getD 2 undefT :: (obv H 1).cells.getD 3 undefT :: (obv H 1).cells.getD 4 undefT :: (obv H 1).cells.getD 5 undefT :: (obv H 1).cells.getD 6 undefT :: (List.drop (0 + 7) (obv H 0).cells) }) } 0).cells.getD 5 undefT, (obv { next := H.next, objs := setOb H.objs 0 (have __src := obv H 0; { elem := __src.elem, sz := __src.sz, cells := (obv H 1).cells.getD 0 undefT :: (obv H 1).cells.getD 1 undefT :: (obv H 1).cells.getD 2 undefT :: (obv H 1).cells.getD 3 undefT :: (obv H 1).cells.getD 4 undefT :: (obv H 1).cells.getD 5 undefT :: (obv H 1).cells.getD 6 undefT :: (List.drop (0 + 7) (obv H 0).cells) }) } 0).cells.getD 6 undefT], T.bool true]) else none
def V29z_0 (m : Int) (te : TypeId) (s : List UInt8) (x74 x75 : Int) (H : Hp) : S29z ⊕ T :=
 (if decide (x75 < x74) then (if pE ((spl ((spl s [32]).getD 6 []) [44]).getD x75.toNat []) != 0 then (.inr ((q29z_0_1 m te s x74 x75 H).getD undefT)) else (if isNils ((obv H 1).cells.getD 3 undefT) then (.inl (.l0 x74 (IntKind.i64.wrap (x75 + 1)) ({ next := H.next + 1, objs := setOb ((H.next, { elem := 39, sz := 2, cells := [T.int .i64 (pS ((spl ((spl s [32]).getD 6 []) [44]).getD x75.toNat [])).entry, T.slf false (pS ((spl ((spl s [32]).getD 6 []) [44]).getD x75.toNat [])).n fun i => T.int .i64 ((pS ((spl ((spl s [32]).getD 6 []) [44]).getD x75.toNat [])).at_ i)] }) :: H.objs) 1 (have __src := obv (H.new { elem := 39, sz := 2, cells := [T.int .i64 (pS ((spl ((spl s [32]).getD 6 []) [44]).getD x75.toNat [])).entry, T.slf false (pS ((spl ((spl s [32]).getD 6 []) [44]).getD x75.toNat [])).n fun i => T.int .i64 ((pS ((spl ((spl s [32]).getD 6 []) [44]).getD x75.toNat [])).at_ i)] }) 1; { elem := __src.elem, sz := __src.sz, cells := spliceT (obv (H.new { elem := 39, sz := 2, cells := [T.int .i64 (pS ((spl ((spl s [32]).getD 6 []) [44]).getD x75.toNat [])).entry, T.slf false (pS ((spl ((spl s [32]).getD 6 []) [44]).getD x75.toNat [])).n fun i => T.int .i64 ((pS ((spl ((spl s [32]).getD 6 []) [44]).getD x75.toNat [])).at_ i)] }) 1).cells 3 [T.osl H.next 2 0 1] }) }))) else (.inl (.l0 x74 (IntKind.i64.wrap (x75 + 1)) ({ next := H.next + 1, objs := setOb ((H.next, { elem := 39, sz := 2, cells := (obv H (oslL ((obv H 1).cells.getD 3 undefT))).cells ++ [T.int .i64 (pS ((spl ((spl s [32]).getD 6 []) [44]).getD x75.toNat [])).entry, T.slf false (pS ((spl ((spl s [32]).getD 6 []) [44]).getD x75.toNat [])).n fun i => T.int .i64 ((pS ((spl ((spl s [32]).getD 6 []) [44]).getD x75.toNat [])).at_ i)] }) :: dropOb H.objs (oslL ((obv H 1).cells.getD 3 undefT))) 1 (have __src := obv ((H.drop (oslL ((obv H 1).cells.getD 3 undefT))).new { elem := 39, sz := 2, cells := (obv H (oslL ((obv H 1).cells.getD 3 undefT))).cells ++ [T.int .i64 (pS ((spl ((spl s [32]).getD 6 []) [44]).getD x75.toNat [])).entry, T.slf false (pS ((spl ((spl s [32]).getD 6 []) [44]).getD x75.toNat [])).n fun i => T.int .i64 ((pS ((spl ((spl s [32]).getD 6 []) [44]).getD x75.toNat [])).at_ i)] }) 1; { elem := __src.elem, sz := __src.sz, cells := spliceT (obv ((H.drop (oslL ((obv H 1).cells.getD 3 undefT))).new { elem := 39, sz := 2, cells := (obv H (oslL ((obv H 1).cells.getD 3 undefT))).cells ++ [T.int .i64 (pS ((spl ((spl s [32]).getD 6 []) [44]).getD x75.toNat [])).entry, T.slf false (pS ((spl ((spl s [32]).getD 6 []) [44]).getD x75.toNat [])).n fun i => T.int .i64 ((pS ((spl ((spl s [32]).getD 6 []) [44]).getD x75.toNat [])).at_ i)] }) 1).cells 3 [T.osl H.next 2 0 (oslN ((obv H 1).cells.getD 3 undefT) + 1)] }) }))))) else (.inr ((q29z_0_4 m te s x74 x75 H).getD undefT)))
def K29z_0 (m : Int) (te : TypeId) (s : List UInt8) (x74 x75 : Int) (H : Hp) : Bool :=
 (if decide (x75 < x74) then (if pE ((spl ((spl s [32]).getD 6 []) [44]).getD x75.toNat []) != 0 then (allT (g29z_0_1 m te s x74 x75 H) && (q29z_0_1 m te s x74 x75 H).isSome) else (if isNils ((obv H 1).cells.getD 3 undefT) then (allT (g29z_0_2 m te s x74 x75 H)) else (allT (g29z_0_3 m te s x74 x75 H)))) else (allT (g29z_0_4 m te s x74 x75 H) && (q29z_0_4 m te s x74 x75 H).isSome))
def step29z_0 (m : Int) (te : TypeId) (s : List UInt8) (x74 x75 : Int) (H : Hp) : Option (S29z ⊕ T) := if K29z_0 m te s x74 x75 H then some (V29z_0 m te s x74 x75 H) else none
theorem T29z_0 (m : Int) (te : TypeId) (s : List UInt8) (x74 x75 : Int) (H : Hp) (hk : K29z_0 m te s x74 x75 H = true) : step29z_0 m te s x74 x75 H = some (V29z_0 m te s x74 x75 H) := if_pos hk
def V29z_s (m : Int) (te : TypeId) (s : List UInt8) : S29z ⊕ T :=
 (if (↑(spl s [32]).length : Int) != 7 then (.inr ((T.tup [T.agg [T.int .i64 0, T.nils, T.int .i64 0, T.nils, T.int .i64 0, T.int .i64 0, T.str []], T.bool false]))) else (if !(spl s [32]).getD 0 [] == [108, 105, 110, 101] then (.inr ((T.tup [T.agg [T.int .i64 0, T.nils, T.int .i64 0, T.nils, T.int .i64 0, T.int .i64 0, T.str []], T.bool false]))) else (if pE ((spl s [32]).getD 1 []) != 0 then (.inr ((T.tup [T.agg [T.int .i64 0, T.nils, T.int .i64 0, T.nils, T.int .i64 0, T.int .i64 0, T.str []], T.bool false]))) else (if !allR (fun i => (spl s [32]).getD (2 + i) []) 3 0 then (.inr ((T.tup [T.agg [T.int .i64 0, T.nils, T.int .i64 0, T.nils, T.int .i64 0, T.int .i64 0, T.str []], T.bool false]))) else (if !(spl s [32]).getD 5 [] == [45] then (if (spl s [32]).getD 6 [] == [45] then (.inr ((T.tup [T.agg [T.int .i64 (pS ((spl s [32]).getD 1 [])).entry, T.slf false (pS ((spl s [32]).getD 1 [])).n fun i => T.int .i64 ((pS ((spl s [32]).getD 1 [])).at_ i), T.int .i64 (aV ((spl s [32]).getD 2 [])), T.nils, T.int .i64 (aV ((spl s [32]).getD 3 [])), T.int .i64 (aV ((spl s [32]).getD 4 [])), T.str ((spl s [32]).getD 5 [])], T.bool true]))) else (.inl (.l0 (↑(spl ((spl s [32]).getD 6 []) [44]).length : Int) 0 ({ next := 2, objs := [(1, { elem := 42, sz := 0, cells := [T.int .i64 (pS ((spl s [32]).getD 1 [])).entry, T.slf false (pS ((spl s [32]).getD 1 [])).n fun i => T.int .i64 ((pS ((spl s [32]).getD 1 [])).at_ i), T.int .i64 (aV ((spl s [32]).getD 2 [])), T.nils, T.int .i64 (aV ((spl s [32]).getD 3 [])), T.int .i64 (aV ((spl s [32]).getD 4 [])), T.str ((spl s [32]).getD 5 [])] }), (0, { elem := 42, sz := 0, cells := [T.int .i64 0, T.nils, T.int .i64 0, T.nils, T.int .i64 0, T.int .i64 0, T.str []] })] })))) else (if (spl s [32]).getD 6 [] == [45] then (.inr ((T.tup [T.agg [T.int .i64 (pS ((spl s [32]).getD 1 [])).entry, T.slf false (pS ((spl s [32]).getD 1 [])).n fun i => T.int .i64 ((pS ((spl s [32]).getD 1 [])).at_ i), T.int .i64 (aV ((spl s [32]).getD 2 [])), T.nils, T.int .i64 (aV ((spl s [32]).getD 3 [])), T.int .i64 (aV ((spl s [32]).getD 4 [])), T.str []], T.bool true]))) else (.inl (.l0 (↑(spl ((spl s [32]).getD 6 []) [44]).length : Int) 0 ({ next := 2, objs := [(1, { elem := 42, sz := 0, cells := [T.int .i64 (pS ((spl s [32]).getD 1 [])).entry, T.slf false (pS ((spl s [32]).getD 1 [])).n fun i => T.int .i64 ((pS ((spl s [32]).getD 1 [])).at_ i), T.int .i64 (aV ((spl s [32]).getD 2 [])), T.nils, T.int .i64 (aV ((spl s [32]).getD 3 [])), T.int .i64 (aV ((spl s [32]).getD 4 [])), T.str []] }), (0, { elem := 42, sz := 0, cells := [T.int .i64 0, T.nils, T.int .i64 0, T.nils, T.int .i64 0, T.int .i64 0, T.str []] })] })))))))))
def K29z_s (m : Int) (te : TypeId) (s : List UInt8) : Bool :=
 (if (↑(spl s [32]).length : Int) != 7 then (allT (g29z_s_1 m te s)) else (if !(spl s [32]).getD 0 [] == [108, 105, 110, 101] then (allT (g29z_s_2 m te s)) else (if pE ((spl s [32]).getD 1 []) != 0 then (allT (g29z_s_3 m te s)) else (if !allR (fun i => (spl s [32]).getD (2 + i) []) 3 0 then (allT (g29z_s_4 m te s)) else (if !(spl s [32]).getD 5 [] == [45] then (if (spl s [32]).getD 6 [] == [45] then (allT (g29z_s_5 m te s)) else (allT (g29z_s_6 m te s))) else (if (spl s [32]).getD 6 [] == [45] then (allT (g29z_s_7 m te s)) else (allT (g29z_s_8 m te s))))))))
def step29z (m : Int) (te : TypeId) (s : List UInt8) : S29z → Option (S29z ⊕ T)
 | .l0 x74 x75 H => step29z_0 m te s x74 x75 H
def M29z (m : Int) (te : TypeId) (s : List UInt8) : Mch S29z where
 lp := fun σ => match σ with
  | .l0 .. => 0
 keep := fun ι => match ι with
  | 0 => [2, 9, 73, 74, 75]
  | _ => []
 par := fun ι => match ι with
  | 0 => []
  | _ => []
 vs := fun σ => match σ with
  | .l0 x74 x75 H => [T.ptr 0 0, T.ptr 1 0, T.slf true (spl ((spl s [32]).getD 6 []) [44]).length fun i => T.str ((spl ((spl s [32]).getD 6 []) [44]).getD i []), T.int .i64 x74, T.int .i64 x75]
 hp := fun σ => match σ with
  | .l0 _ _ H => H
 len := 95
 step := step29z m te s
def r29z_0 (m : Int) (te : TypeId) (s : List UInt8) (x74 x75 : Int) (H : Hp) (fr : List T) (ds : List Bool) : RD Out := (M29z m te s).rk prog (D60 m te) F29 f29 (.l0 x74 x75 H) fr ds
theorem w29z_0_1 (m : Int) (te : TypeId) (s : List UInt8) (x74 x75 : Int) (H : Hp) (fr : List T) : outK prog f29 20 [] (r29z_0 m te s x74 x75 H fr [true, true]) = wdq (q29z_0_1 m te s x74 x75 H) (g29z_0_1 m te s x74 x75 H) := by kernel_rfl
theorem w29z_0_2 (m : Int) (te : TypeId) (s : List UInt8) (x74 x75 : Int) (H : Hp) (fr : List T) : (M29z m te s).wa prog f29 (r29z_0 m te s x74 x75 H fr [true, false, true]) 0 (g29z_0_2 m te s x74 x75 H) (.l0 x74 (IntKind.i64.wrap (x75 + 1)) ({ next := H.next + 1, objs := setOb ((H.next, { elem := 39, sz := 2, cells := [T.int .i64 (pS ((spl ((spl s [32]).getD 6 []) [44]).getD x75.toNat [])).entry, T.slf false (pS ((spl ((spl s [32]).getD 6 []) [44]).getD x75.toNat [])).n fun i => T.int .i64 ((pS ((spl ((spl s [32]).getD 6 []) [44]).getD x75.toNat [])).at_ i)] }) :: H.objs) 1 (have __src := obv (H.new { elem := 39, sz := 2, cells := [T.int .i64 (pS ((spl ((spl s [32]).getD 6 []) [44]).getD x75.toNat [])).entry, T.slf false (pS ((spl ((spl s [32]).getD 6 []) [44]).getD x75.toNat [])).n fun i => T.int .i64 ((pS ((spl ((spl s [32]).getD 6 []) [44]).getD x75.toNat [])).at_ i)] }) 1; { elem := __src.elem, sz := __src.sz, cells := spliceT (obv (H.new { elem := 39, sz := 2, cells := [T.int .i64 (pS ((spl ((spl s [32]).getD 6 []) [44]).getD x75.toNat [])).entry, T.slf false (pS ((spl ((spl s [32]).getD 6 []) [44]).getD x75.toNat [])).n fun i => T.int .i64 ((pS ((spl ((spl s [32]).getD 6 []) [44]).getD x75.toNat [])).at_ i)] }) 1).cells 3 [T.osl H.next 2 0 1] }) })) := by unfold Mch.wa; kernel_rfl
theorem w29z_0_3 (m : Int) (te : TypeId) (s : List UInt8) (x74 x75 : Int) (H : Hp) (fr : List T) : (M29z m te s).wa prog f29 (r29z_0 m te s x74 x75 H fr [true, false, false]) 0 (g29z_0_3 m te s x74 x75 H) (.l0 x74 (IntKind.i64.wrap (x75 + 1)) ({ next := H.next + 1, objs := setOb ((H.next, { elem := 39, sz := 2, cells := (obv H (oslL ((obv H 1).cells.getD 3 undefT))).cells ++ [T.int .i64 (pS ((spl ((spl s [32]).getD 6 []) [44]).getD x75.toNat [])).entry, T.slf false (pS ((spl ((spl s [32]).getD 6 []) [44]).getD x75.toNat [])).n fun i => T.int .i64 ((pS ((spl ((spl s [32]).getD 6 []) [44]).getD x75.toNat [])).at_ i)] }) :: dropOb H.objs (oslL ((obv H 1).cells.getD 3 undefT))) 1 (have __src := obv ((H.drop (oslL ((obv H 1).cells.getD 3 undefT))).new { elem := 39, sz := 2, cells := (obv H (oslL ((obv H 1).cells.getD 3 undefT))).cells ++ [T.int .i64 (pS ((spl ((spl s [32]).getD 6 []) [44]).getD x75.toNat [])).entry, T.slf false (pS ((spl ((spl s [32]).getD 6 []) [44]).getD x75.toNat [])).n fun i => T.int .i64 ((pS ((spl ((spl s [32]).getD 6 []) [44]).getD x75.toNat [])).at_ i)] }) 1; { elem := __src.elem, sz := __src.sz, cells := spliceT (obv ((H.drop (oslL ((obv H 1).cells.getD 3 undefT))).new { elem := 39, sz := 2, cells := (obv H (oslL ((obv H 1).cells.getD 3 undefT))).cells ++ [T.int .i64 (pS ((spl ((spl s [32]).getD 6 []) [44]).getD x75.toNat [])).entry, T.slf false (pS ((spl ((spl s [32]).getD 6 []) [44]).getD x75.toNat [])).n fun i => T.int .i64 ((pS ((spl ((spl s [32]).getD 6 []) [44]).getD x75.toNat [])).at_ i)] }) 1).cells 3 [T.osl H.next 2 0 (oslN ((obv H 1).cells.getD 3 undefT) + 1)] }) })) := by unfold Mch.wa; kernel_rfl
theorem w29z_0_4 (m : Int) (te : TypeId) (s : List UInt8) (x74 x75 : Int) (H : Hp) (fr : List T) : outK prog f29 20 [] (r29z_0 m te s x74 x75 H fr [false]) = wdq (q29z_0_4 m te s x74 x75 H) (g29z_0_4 m te s x74 x75 H) := by kernel_rfl
def r29z_s (m : Int) (te : TypeId) (s : List UInt8) (ds : List Bool) : RD Out := runK prog (D60 m te) F29 2000 (.code (bodyOf f29)) [] 0 ([.str s] ++ List.replicate 94 undefT) ⟨0, []⟩ ds []
theorem w29z_s_1 (m : Int) (te : TypeId) (s : List UInt8) : outK prog f29 20 [] (r29z_s m te s (bt 6 63)) = wdn (T.tup [T.agg [T.int .i64 0, T.nils, T.int .i64 0, T.nils, T.int .i64 0, T.int .i64 0, T.str []], T.bool false]) (g29z_s_1 m te s) := by kernel_rfl
theorem w29z_s_2 (m : Int) (te : TypeId) (s : List UInt8) : outK prog f29 20 [] (r29z_s m te s (bt 6 32)) = wdn (T.tup [T.agg [T.int .i64 0, T.nils, T.int .i64 0, T.nils, T.int .i64 0, T.int .i64 0, T.str []], T.bool false]) (g29z_s_2 m te s) := by kernel_rfl
theorem w29z_s_3 (m : Int) (te : TypeId) (s : List UInt8) : outK prog f29 20 [] (r29z_s m te s (bt 10 960)) = wdn (T.tup [T.agg [T.int .i64 0, T.nils, T.int .i64 0, T.nils, T.int .i64 0, T.int .i64 0, T.str []], T.bool false]) (g29z_s_3 m te s) := by kernel_rfl
theorem w29z_s_4 (m : Int) (te : TypeId) (s : List UInt8) : outK prog f29 20 [] (r29z_s m te s (bt 10 512)) = wdn (T.tup [T.agg [T.int .i64 0, T.nils, T.int .i64 0, T.nils, T.int .i64 0, T.int .i64 0, T.str []], T.bool false]) (g29z_s_4 m te s) := by kernel_rfl
theorem w29z_s_5 (m : Int) (te : TypeId) (s : List UInt8) : outK prog f29 20 [] (r29z_s m te s (bt 12 3072)) = wdn (T.tup [T.agg [T.int .i64 (pS ((spl s [32]).getD 1 [])).entry, T.slf false (pS ((spl s [32]).getD 1 [])).n fun i => T.int .i64 ((pS ((spl s [32]).getD 1 [])).at_ i), T.int .i64 (aV ((spl s [32]).getD 2 [])), T.nils, T.int .i64 (aV ((spl s [32]).getD 3 [])), T.int .i64 (aV ((spl s [32]).getD 4 [])), T.str ((spl s [32]).getD 5 [])], T.bool true]) (g29z_s_5 m te s) := by kernel_rfl
theorem w29z_s_6 (m : Int) (te : TypeId) (s : List UInt8) : (M29z m te s).wl prog f29 (r29z_s m te s (bt 12 1024)) 0 (g29z_s_6 m te s) (.l0 (↑(spl ((spl s [32]).getD 6 []) [44]).length : Int) 0 ({ next := 2, objs := [(1, { elem := 42, sz := 0, cells := [T.int .i64 (pS ((spl s [32]).getD 1 [])).entry, T.slf false (pS ((spl s [32]).getD 1 [])).n fun i => T.int .i64 ((pS ((spl s [32]).getD 1 [])).at_ i), T.int .i64 (aV ((spl s [32]).getD 2 [])), T.nils, T.int .i64 (aV ((spl s [32]).getD 3 [])), T.int .i64 (aV ((spl s [32]).getD 4 [])), T.str ((spl s [32]).getD 5 [])] }), (0, { elem := 42, sz := 0, cells := [T.int .i64 0, T.nils, T.int .i64 0, T.nils, T.int .i64 0, T.int .i64 0, T.str []] })] })) := by unfold Mch.wl; kernel_rfl
theorem w29z_s_7 (m : Int) (te : TypeId) (s : List UInt8) : outK prog f29 20 [] (r29z_s m te s (bt 12 2048)) = wdn (T.tup [T.agg [T.int .i64 (pS ((spl s [32]).getD 1 [])).entry, T.slf false (pS ((spl s [32]).getD 1 [])).n fun i => T.int .i64 ((pS ((spl s [32]).getD 1 [])).at_ i), T.int .i64 (aV ((spl s [32]).getD 2 [])), T.nils, T.int .i64 (aV ((spl s [32]).getD 3 [])), T.int .i64 (aV ((spl s [32]).getD 4 [])), T.str []], T.bool true]) (g29z_s_7 m te s) := by kernel_rfl
theorem w29z_s_8 (m : Int) (te : TypeId) (s : List UInt8) : (M29z m te s).wl prog f29 (r29z_s m te s (bt 12 0)) 0 (g29z_s_8 m te s) (.l0 (↑(spl ((spl s [32]).getD 6 []) [44]).length : Int) 0 ({ next := 2, objs := [(1, { elem := 42, sz := 0, cells := [T.int .i64 (pS ((spl s [32]).getD 1 [])).entry, T.slf false (pS ((spl s [32]).getD 1 [])).n fun i => T.int .i64 ((pS ((spl s [32]).getD 1 [])).at_ i), T.int .i64 (aV ((spl s [32]).getD 2 [])), T.nils, T.int .i64 (aV ((spl s [32]).getD 3 [])), T.int .i64 (aV ((spl s [32]).getD 4 [])), T.str []] }), (0, { elem := 42, sz := 0, cells := [T.int .i64 0, T.nils, T.int .i64 0, T.nils, T.int .i64 0, T.int .i64 0, T.str []] })] })) := by unfold Mch.wl; kernel_rfl
theorem ways29z (m : Int) (te : TypeId) (s : List UInt8) : (M29z m te s).Ways prog (D60 m te) F29 f29 20 := by
 intro σ o fr h
 cases σ with
 | l0 x74 x75 H =>
  obtain ⟨hk, ho⟩ := kv_some (K := K29z_0 m te s x74 x75 H) (V := V29z_0 m te s x74 x75 H) h
  exact (wk_if (wk_if (kO (w29z_0_1 m te s x74 x75 H fr)) (wk_if (kA (w29z_0_2 m te s x74 x75 H fr) rfl) (kA (w29z_0_3 m te s x74 x75 H fr) rfl))) (kO (w29z_0_4 m te s x74 x75 H fr))) hk o ho
theorem oks29z (m : Int) (te : TypeId) (s : List UInt8) : ∀ σ, Ps.codeOk (loopAt f29 ((M29z m te s).lp σ)).1 = true ∧ ksOk (.lp :: (loopAt f29 ((M29z m te s).lp σ)).2) = true := oks_of 1 (by kernel_rfl) (by intro σ; cases σ <;> exact Nat.le_of_ble_eq_true rfl)
theorem c29z (m : Int) (te : TypeId) (s : List UInt8) (n : Nat) {r : T} (hk : K29z_s m te s = true) (hr : (M29z m te s).fin n (V29z_s m te s) = some r) : PureFn prog (gl1 m te) 29 [.str s] r :=
 pure_mach (M := (M29z m te s)) (fn := f29) (k := 20) (d := 8) (c := bodyOf f29) (cx60 m te) (gl1Frz m te) (by kernel_rfl) func29 (by kernel_rfl) rfl (by kernel_rfl) (by kernel_rfl) (L := 94) (by kernel_rfl) (ways29z m te s) (oks29z m te s) ((wk_if (kD (w29z_s_1 m te s)) (wk_if (kD (w29z_s_2 m te s)) (wk_if (kD (w29z_s_3 m te s)) (wk_if (kD (w29z_s_4 m te s)) (wk_if (wk_if (kD (w29z_s_5 m te s)) (kL (w29z_s_6 m te s) rfl)) (wk_if (kD (w29z_s_7 m te s)) (kL (w29z_s_8 m te s) rfl))))))) hk _ rfl) hr
end
end Go.Proofs.Tryz

/- Plain laws: numbers are read as they were written; texts are cut where they were joined. -/
namespace Go.Proofs.Tryz
open Go.Ps
theorem joinL_ge (b : UInt8) : ∀ (ps : List (List UInt8)), ps.length ≤ (joinL [b] ps).length + 1
 | [] => by simp
 | [p] => by simp
 | p :: q :: r => by
  have := joinL_ge b (q :: r)
  simp only [joinL, List.length_append, List.length_cons, List.length_nil] at this ⊢
  omega
end Go.Proofs.Tryz

/- Plain laws: the pieces of a text, joined again, are the text. -/
namespace Go.Proofs.Tryz
open Go.Ps
theorem index_hit (b : UInt8) : ∀ (s : List UInt8) (i : Nat), Lib.index s [b] = i → s = s.take i ++ b :: s.drop (i + 1)
 | [], i, h => by simp [Lib.index] at h
 | x :: s, i, h => by
  unfold Lib.index at h
  split at h
  ·rename_i hp
   have hx : b = x := by simpa [List.isPrefixOf] using hp
   have : i = 0 := by omega
   subst this; subst hx; simp
  ·split at h
   ·omega
   ·obtain ⟨j, rfl⟩ : ∃ j, i = j + 1 := ⟨i - 1, by have := Lib.index_ge s [b]; rename_i h1; rw [beq_iff_eq] at h1; omega⟩
    have := index_hit b s j (by omega)
    simp only [List.take_succ_cons, List.drop_succ_cons, List.cons_append]
    rw [← this]
theorem join_splitK (b : UInt8) : ∀ (k : Nat) (s : List UInt8), joinL [b] (Lib.splitK [b] 0 k s) = s ∧ Lib.splitK [b] 0 k s ≠ []
 | 0, s => by simp [Lib.splitK, joinL]
 | k + 1, s => by
  unfold Lib.splitK
  split
  ·simp [joinL]
  ·rename_i hne
   obtain ⟨ih, hn⟩ := join_splitK b k (s.drop ((Lib.index s [b]).toNat + [b].length))
   refine ⟨?_, by simp⟩
   have hge := Lib.index_ge s [b]
   have hh := index_hit b s (Lib.index s [b]).toNat (by rw [beq_iff_eq] at hne; omega)
   rw [Nat.add_zero]
   generalize Lib.splitK [b] 0 k (s.drop ((Lib.index s [b]).toNat + [b].length)) = l at ih hn
   match l, ih, hn with
   | [], _, hn => exact absurd rfl hn
   | q :: r, ih, _ =>
    show s.take (Lib.index s [b]).toNat ++ [b] ++ joinL [b] (q :: r) = s
    rw [ih]
    simp only [List.length_cons, List.length_nil, Nat.zero_add]
    have e : ∀ x y : List UInt8, x ++ [b] ++ y = x ++ b :: y := by simp
    rw [e, ← hh]
def sumL : List (List UInt8) → Nat
 | [] => 0
 | p :: r => p.length + 1 + sumL r
theorem joinL_sum (b : UInt8) : ∀ (ps : List (List UInt8)), ps ≠ [] → (joinL [b] ps).length + 1 = sumL ps
 | [], h => absurd rfl h
 | [p], _ => by simp [joinL, sumL]
 | p :: q :: r, _ => by
  have := joinL_sum b (q :: r) (by simp)
  simp only [joinL, sumL, List.length_append, List.length_cons, List.length_nil] at this ⊢
  omega
theorem sumL_ge (c : Nat) : ∀ (ps : List (List UInt8)), (∀ p ∈ ps, c ≤ p.length) → ps.length * (c + 1) ≤ sumL ps
 | [], _ => by simp [sumL]
 | p :: r, h => by
  have h1 := h p (by simp)
  have h2 := sumL_ge c r (fun q hq => h q (by simp [hq]))
  simp only [sumL, List.length_cons, Nat.succ_mul]
  omega
theorem sumL_mem : ∀ (ps : List (List UInt8)) (p : List UInt8), p ∈ ps → p.length + 1 ≤ sumL ps
 | q :: r, p, h => by
  rcases List.mem_cons.1 h with rfl | h
  ·simp only [sumL]; omega
  ·have := sumL_mem r p h; simp only [sumL]; omega
end Go.Proofs.Tryz

/- balance.read: its contract. -/
namespace Go.Proofs.Tryz
noncomputable section
open Go.Ps
set_option maxRecDepth 100000
section
variable (s : List UInt8)
def rP (j : Nat) : List UInt8 := (spl s [32]).getD j []
def rQ : List (List UInt8) := spl (rP s 6) [44]
def rq (j : Nat) : List UInt8 := (rQ s).getD j []
def rHd : Bool := decide ((spl s [32]).length = 7) && (decide (rP s 0 = [108, 105, 110, 101]) && (pOk (rP s 1) && allR (fun i => (spl s [32]).getD (2 + i) []) 3 0))
def rAl : Nat → Nat → Bool
 | 0, _ => true
 | q + 1, i => pOk (rq s i) && rAl q (i + 1)
def rOk : Bool := rHd s && (if rP s 6 = [45] then true else rAl s (rQ s).length 0)
def rNd : List UInt8 := if rP s 5 = [45] then [] else rP s 5
def rK : Nat := if rP s 6 = [45] then 0 else (rQ s).length
def rL : Ln := if rOk s then ⟨pS (rP s 1), aV (rP s 2), rK s, fun i => pS (rq s i), aV (rP s 3), aV (rP s 4), rNd s⟩ else ⟨⟨0, 0, fun _ => 0⟩, 0, 0, fun _ => ⟨0, 0, fun _ => 0⟩, 0, 0, []⟩
def rC (i : Nat) : List T := (List.range i).flatMap fun j => [T.int .i64 (pS (rq s j)).entry, T.slf false (pS (rq s j)).n fun k => T.int .i64 ((pS (rq s j)).at_ k)]
theorem rC_succ (i : Nat) : rC s (i + 1) = rC s i ++ [T.int .i64 (pS (rq s i)).entry, T.slf false (pS (rq s i)).n fun k => T.int .i64 ((pS (rq s i)).at_ k)] := by
 unfold rC; rw [List.range_succ, List.flatMap_append]; simp
theorem rC_len : ∀ i, (rC s i).length = i * 2
 | 0 => rfl
 | i + 1 => by rw [rC_succ, List.length_append, rC_len i]; simp; omega
theorem rC_pl (i : Nat) : ∀ c ∈ rC s i, pl1 c = true := by
 intro c hc
 unfold rC at hc
 obtain ⟨j, _, hj⟩ := List.mem_flatMap.1 hc
 simp only [List.mem_cons, List.not_mem_nil, or_false] at hj
 rcases hj with rfl | rfl <;> rfl
def rX (fv : T) : List T := [T.int .i64 (pS (rP s 1)).entry, T.slf false (pS (rP s 1)).n (fun i => T.int .i64 ((pS (rP s 1)).at_ i)), T.int .i64 (aV (rP s 2)), fv, T.int .i64 (aV (rP s 3)), T.int .i64 (aV (rP s 4)), T.str (rNd s)]
def zL : List T := [T.int .i64 0, T.nils, T.int .i64 0, T.nils, T.int .i64 0, T.int .i64 0, T.str []]
structure RI (i : Nat) (H : Hp) : Prop where
 h0 : H.get 0 = some ⟨42, 0, zL⟩
 nx : 2 ≤ H.next
 h1 : ∃ fv, H.get 1 = some ⟨42, 0, rX s fv⟩ ∧ ((i = 0 ∧ fv = .nils) ∨ (0 < i ∧ ∃ L, fv = .osl L 2 0 i ∧ L ≠ 0 ∧ L ≠ 1 ∧ L < H.next ∧ H.get L = some ⟨39, 2, rC s i⟩))
def dn (Hd : Hp) (b : Bool) : Option T := if (obIn Hd 0 7 && true) = true then frzT 20 Hd (T.tup [T.agg (cellsV Hd 0 0 7), T.bool b]) else none
theorem dn_eq {Hd : Hp} {b : Bool} {a0 a1 a2 a3 a4 a5 a6 f3 : T} (h : Hd.get 0 = some ⟨42, 0, [a0, a1, a2, a3, a4, a5, a6]⟩) (h0 : pl1 a0 = true) (h1 : pl1 a1 = true) (h2 : pl1 a2 = true) (h4 : pl1 a4 = true) (h5 : pl1 a5 = true) (h6 : pl1 a6 = true)
  (h3 : frzT 18 Hd a3 = some f3) : dn Hd b = some (T.tup [T.agg [a0, a1, a2, f3, a4, a5, a6], T.bool b]) := by
 unfold dn
 rw [obIn_get h (by simp)]
 have e : cellsV Hd 0 0 7 = [a0, a1, a2, a3, a4, a5, a6] := by
  unfold cellsV; rw [obv_get h]; rfl
 rw [e]
 simp only [Bool.and_true, if_true]
 have g0 : frzT 18 Hd a0 = some a0 := pl1_frz h0
 have g1 : frzT 18 Hd a1 = some a1 := pl1_frz h1
 have g2 : frzT 18 Hd a2 = some a2 := pl1_frz h2
 have g4 : frzT 18 Hd a4 = some a4 := pl1_frz h4
 have g5 : frzT 18 Hd a5 = some a5 := pl1_frz h5
 have g6 : frzT 18 Hd a6 = some a6 := pl1_frz h6
 have ea : frzT 19 Hd (T.agg [a0, a1, a2, a3, a4, a5, a6]) = some (T.agg [a0, a1, a2, f3, a4, a5, a6]) := by
  show (match mapO (frzT 18 Hd) [a0, a1, a2, a3, a4, a5, a6] with | some ds => some (T.agg ds) | none => none) = _
  simp only [mapO, g0, g1, g2, h3, g4, g5, g6]
 show (match mapO (frzT 19 Hd) [T.agg [a0, a1, a2, a3, a4, a5, a6], T.bool b] with | some ds => some (T.tup ds) | none => none) = _
 simp only [mapO, ea]
 rfl
theorem spl_join (t : List UInt8) (b : UInt8) : joinL [b] (spl t [b]) = t ∧ spl t [b] ≠ [] := by
 have h := join_splitK b (Lib.countB ⟨t.toArray⟩ ⟨#[b]⟩) t
 have e : spl t [b] = Lib.splitK [b] 0 (Lib.countB ⟨t.toArray⟩ ⟨#[b]⟩) t := by
  unfold spl
  exact Lib.splitB_data ⟨#[b]⟩ 0 (Lib.countB ⟨t.toArray⟩ ⟨#[b]⟩) ⟨t.toArray⟩
 rw [e]; exact h
theorem spl_len (t : List UInt8) (b : UInt8) : (spl t [b]).length ≤ t.length + 1 := by
 have h := spl_join t b
 have := joinL_ge b (spl t [b])
 rw [h.1] at this
 exact this
theorem spl_piece (t : List UInt8) (b : UInt8) (j : Nat) : ((spl t [b]).getD j []).length ≤ t.length := by
 have h := spl_join t b
 have hs := joinL_sum b _ h.2
 rw [h.1] at hs
 rw [List.getD_eq_getElem?_getD]
 cases hj : (spl t [b])[j]? with
 | none => simp
 | some p =>
  have := sumL_mem _ p (List.mem_of_getElem? hj)
  show p.length ≤ t.length
  omega
end
theorem frz_osl {n : Nat} {H : Hp} {L sz i len : Nat} {o : Ob} {cs : List T} (h : H.get L = some o) (hc : sz ≠ 0 ∧ o.sz = sz ∧ (i + len) * sz ≤ o.cells.length) (hm : mapO (frzT n H) ((o.cells.drop (i * sz)).take (len * sz)) = some cs) (hs : sz ≠ 1) : frzT (n + 1) H (.osl L sz i len) = some (.sl false (chunk sz len cs)) := by
 simp only [frzT, h, if_pos hc, hm, if_neg hs]
theorem raw1 {s : List UInt8} {i : Nat} {b : Bool} (h : (pE (rq s i) != 0) = b) : (pE ((spl ((spl s [32]).getD 6 []) [44]).getD i []) != 0) = b := h
theorem raw2 {s : List UInt8} {i : Nat} {b : Bool} (h : decide ((rq s i).length < 4294967281) = b) : decide (((spl ((spl s [32]).getD 6 []) [44]).getD i []).length < 4294967281) = b := h
theorem raw3 {s : List UInt8} {i : Int} {b : Bool} (h : decide (i < ((rQ s).length : Int)) = b) : decide (i < ((spl ((spl s [32]).getD 6 []) [44]).length : Int)) = b := h
section
variable (m : Int) (te : TypeId) (s : List UInt8) (hs : s.length ≤ 1000000)
include hs
theorem pE_iff (x : List UInt8) : (pE x != 0) = !pOk x := by
 unfold pE
 cases pOk x <;> rfl
theorem rd_bad (i : Nat) (hi : i < (rQ s).length) (H : Hp) (hI : RI s i H) (hp : pOk (rq s i) = false) :
  (M29z m te s).step (.l0 (rQ s).length i H) = some (.inr (.tup [.agg zL, .bool false])) := by
 have b1 : decide ((i : Int) < ((rQ s).length : Int)) = true := decide_eq_true (by omega)
 have b0 : decide ((0 : Int) ≤ i) = true := decide_eq_true (by omega)
 have bp : (pE (rq s i) != 0) = true := by rw [pE_iff s hs, hp]; rfl
 have b3 : decide ((rq s i).length < 4294967281) = true := decide_eq_true (by have := spl_piece (rP s 6) 44 i; have := spl_piece s 32 6; show ((spl (rP s 6) [44]).getD i []).length < _; have e : rP s 6 = (spl s [32]).getD 6 [] := rfl; rw [← e] at this; omega)
 have ho := obIn_get (k := 7) hI.h0 (by simp [zL])
 have hd : (H.put 0 { obv H 0 with cells := zL ++ List.drop (0 + 7) (obv H 0).cells }).get 0 = some ⟨42, 0, zL⟩ := by
  rw [get_put_same _ (by rw [hI.h0]; rfl), obv_get hI.h0]; rfl
 have hdn := dn_eq (b := false) (f3 := .nils) hd rfl rfl rfl rfl rfl rfl rfl
 show step29z_0 m te s _ _ _ = _
 rw [T29z_0]
 ·unfold V29z_0 q29z_0_1 q29z_0_4
  simp only [Int.toNat_natCast]
  refine congrArg some ?_
  refine tree_eq (fun _ => ?_) (fun e => by rw [b1] at e; cases e)
  refine tree_eq (fun _ => ?_) (fun e => by change (pE (rq s i) != 0) = false at e; rw [bp] at e; cases e)
  show (Sum.inr ((dn (H.put 0 { obv H 0 with cells := zL ++ List.drop (0 + 7) (obv H 0).cells }) false).getD undefT) : S29z ⊕ T) = _
  rw [hdn]; rfl
 ·unfold K29z_0 q29z_0_1 q29z_0_4
  simp only [Int.toNat_natCast]
  refine tree_eq (fun _ => ?_) (fun e => by rw [b1] at e; cases e)
  refine tree_eq (fun _ => ?_) (fun e => by change (pE (rq s i) != 0) = false at e; rw [bp] at e; cases e)
  show (allT (g29z_0_1 m te s _ _ H) && (dn (H.put 0 { obv H 0 with cells := zL ++ List.drop (0 + 7) (obv H 0).cells }) false).isSome) = true
  rw [hdn]
  simp only [g29z_0_1, Int.toNat_natCast, allT, ho, raw1 bp, raw2 b3, raw3 b1, b1, b0, Bool.and_true, Option.isSome_some, k29z_0_0]
theorem rd_fin (H : Hp) (hI : RI s (rQ s).length H) (hn : 0 < (rQ s).length) :
  ∃ f3, (M29z m te s).step (.l0 (rQ s).length ((rQ s).length : Nat) H) = some (.inr (.tup [.agg (rX s f3), .bool true])) ∧ ∀ g v, Rd g v f3 → Rd g v (.slf false (rQ s).length fun i => spT (pS (rq s i))) := by
 have b1 : decide (((rQ s).length : Int) < ((rQ s).length : Int)) = false := decide_eq_false (by omega)
 obtain ⟨fv, h1, ⟨h2, _⟩ | ⟨_, L, rfl, l0, l1, l2, hL⟩⟩ := hI.h1
 ·omega
 have ho := obIn_get (k := 7) hI.h0 (by simp [zL])
 have ho1 := obIn_get (k := 7) h1 (by simp [rX])
 have e1 := obv_get h1
 have hd : (H.put 0 { obv H 0 with cells := rX s (.osl L 2 0 (rQ s).length) ++ List.drop (0 + 7) (obv H 0).cells }).get 0 = some ⟨42, 0, rX s (.osl L 2 0 (rQ s).length)⟩ := by
  rw [get_put_same _ (by rw [hI.h0]; rfl), obv_get hI.h0]
  show some (Ob.mk 42 0 (rX s (.osl L 2 0 (rQ s).length) ++ [])) = _
  rw [List.append_nil]
 have hdL : (H.put 0 { obv H 0 with cells := rX s (.osl L 2 0 (rQ s).length) ++ List.drop (0 + 7) (obv H 0).cells }).get L = some ⟨39, 2, rC s (rQ s).length⟩ := by
  rw [get_put_ne _ (by rw [hI.h0]; rfl) l0]; exact hL
 have hlen := rC_len s (rQ s).length
 have h3 : frzT 18 (H.put 0 { obv H 0 with cells := rX s (.osl L 2 0 (rQ s).length) ++ List.drop (0 + 7) (obv H 0).cells }) (.osl L 2 0 (rQ s).length) = some (.sl false (chunk 2 (rQ s).length (rC s (rQ s).length))) := by
  have et : ((rC s (rQ s).length).drop (0 * 2)).take ((rQ s).length * 2) = rC s (rQ s).length := by
   rw [Nat.zero_mul, List.drop_zero, List.take_of_length_le (by omega)]
  exact frz_osl (n := 17) hdL ⟨by omega, rfl, by show (0 + (rQ s).length) * 2 ≤ (rC s (rQ s).length).length; omega⟩ (by show mapO _ (((rC s (rQ s).length).drop (0 * 2)).take ((rQ s).length * 2)) = _; rw [et]; exact pl1_map (n := 16) (rC_pl s (rQ s).length)) (by omega)
 have hdn := dn_eq (b := true) hd rfl rfl rfl rfl rfl rfl h3
 refine ⟨.sl false (chunk 2 (rQ s).length (rC s (rQ s).length)), ?_, fun g v hv => ?_⟩
 ·have hc : [(obv H 1).cells.getD 0 undefT, (obv H 1).cells.getD 1 undefT, (obv H 1).cells.getD 2 undefT, (obv H 1).cells.getD 3 undefT, (obv H 1).cells.getD 4 undefT, (obv H 1).cells.getD 5 undefT, (obv H 1).cells.getD 6 undefT] = rX s (.osl L 2 0 (rQ s).length) := by rw [e1]; rfl
  show step29z_0 m te s _ _ _ = _
  rw [T29z_0]
  ·unfold V29z_0 q29z_0_1 q29z_0_4
   simp only [Int.toNat_natCast]
   refine congrArg some ?_
   refine tree_eq (fun e => by rw [b1] at e; cases e) (fun _ => ?_)
   show (Sum.inr ((dn (H.put 0 { obv H 0 with cells := [(obv H 1).cells.getD 0 undefT, (obv H 1).cells.getD 1 undefT, (obv H 1).cells.getD 2 undefT, (obv H 1).cells.getD 3 undefT, (obv H 1).cells.getD 4 undefT, (obv H 1).cells.getD 5 undefT, (obv H 1).cells.getD 6 undefT] ++ List.drop (0 + 7) (obv H 0).cells }) true).getD undefT) : S29z ⊕ T) = _
   rw [hc, hdn]; rfl
  ·unfold K29z_0 q29z_0_1 q29z_0_4
   simp only [Int.toNat_natCast]
   refine tree_eq (fun e => by rw [b1] at e; cases e) (fun _ => ?_)
   show (allT (g29z_0_4 m te s _ _ H) && (dn (H.put 0 { obv H 0 with cells := [(obv H 1).cells.getD 0 undefT, (obv H 1).cells.getD 1 undefT, (obv H 1).cells.getD 2 undefT, (obv H 1).cells.getD 3 undefT, (obv H 1).cells.getD 4 undefT, (obv H 1).cells.getD 5 undefT, (obv H 1).cells.getD 6 undefT] ++ List.drop (0 + 7) (obv H 0).cells }) true).isSome) = true
   simp only [g29z_0_4]
   rw [hc, hdn]
   simp only [allT, ho, ho1, b1, Bool.not_false, Bool.and_true, Option.isSome_some]
   rfl
 ·obtain ⟨c1, c2, c3⟩ := chunk_flat 2 (rQ s).length (rC s (rQ s).length) hlen
  have hat : ∀ i, i < (rQ s).length → (chunk 2 (rQ s).length (rC s (rQ s).length))[i]? = some (spT (pS (rq s i))) := by
   have key : ∀ (q k : Nat), q + k = (rQ s).length → ∀ i, i < q → (chunk 2 q ((rC s (rQ s).length).drop (k * 2)))[i]? = some (spT (pS (rq s (k + i)))) := by
    intro q
    induction q with
    | zero => intro k _ i hi; omega
    | succ q ih =>
     intro k hk i hi
     have hsplit : (rC s (rQ s).length).drop (k * 2) = [T.int .i64 (pS (rq s k)).entry, T.slf false (pS (rq s k)).n fun j => T.int .i64 ((pS (rq s k)).at_ j)] ++ (rC s (rQ s).length).drop ((k + 1) * 2) := by
      have hr : ∀ n j, j ≤ n → rC s n = rC s j ++ ((List.range (n - j)).flatMap fun d => [T.int .i64 (pS (rq s (j + d))).entry, T.slf false (pS (rq s (j + d))).n fun k => T.int .i64 ((pS (rq s (j + d))).at_ k)]) := by
       intro n j hj
       unfold rC
       obtain ⟨d, rfl⟩ : ∃ d, n = j + d := ⟨n - j, by omega⟩
       rw [List.range_add, List.flatMap_append, List.flatMap_map, Nat.add_sub_cancel_left]
      have e1 := hr (rQ s).length k (by omega)
      have e2 := hr (rQ s).length (k + 1) (by omega)
      have l1 := rC_len s k
      have l2 := rC_len s (k + 1)
      have d1 : (rC s (rQ s).length).drop ((k + 1) * 2) = ((List.range ((rQ s).length - (k + 1))).flatMap fun d => [T.int .i64 (pS (rq s (k + 1 + d))).entry, T.slf false (pS (rq s (k + 1 + d))).n fun k_1 => T.int .i64 ((pS (rq s (k + 1 + d))).at_ k_1)]) := by
       rw [e2, List.drop_left' l2]
      rw [d1]
      rw [e2, rC_succ, List.append_assoc, List.drop_left' l1]
     rw [hsplit]
     show ((T.agg ((_ ++ _ : List T).take 2)) :: chunk 2 q ((_ ++ _ : List T).drop 2))[i]? = _
     cases i with
     | zero => rfl
     | succ i =>
      rw [List.getElem?_cons_succ, List.drop_left' (by rfl), ih (k + 1) (by omega) i (by omega)]
      rw [show k + 1 + i = k + (i + 1) by omega]
   intro i hi
   have := key (rQ s).length 0 (by omega) i hi
   simpa using this
  refine rd_slf2 hv (fun x hx c hc => ?_) c3 hat
  have hm : c ∈ (chunk 2 (rQ s).length (rC s (rQ s).length)).flatMap T.cells := List.mem_flatMap.2 ⟨x, hx, hc⟩
  rw [c1] at hm
  exact rC_pl s _ c hm
omit hs in
theorem RI.next {i : Nat} {H Hx : Hp} (hI : RI s i H) {cs : List T} (hn : Hx.next = H.next) (h0 : Hx.get 0 = H.get 0) (h1 : Hx.get 1 = H.get 1) (hc : cs = rC s (i + 1)) :
  obIn (Hx.new ⟨39, 2, cs⟩) 1 4 = true ∧ RI s (i + 1) ((Hx.new ⟨39, 2, cs⟩).put 1 { obv (Hx.new ⟨39, 2, cs⟩) 1 with cells := spliceT (obv (Hx.new ⟨39, 2, cs⟩) 1).cells 3 [T.osl H.next 2 0 (i + 1)] }) := by
 obtain ⟨fv, g1, _⟩ := hI.h1
 have nx := hI.nx
 have e1 : (Hx.new ⟨39, 2, cs⟩).get 1 = some ⟨42, 0, rX s fv⟩ := by rw [get_new_ne _ (by omega), h1, g1]
 have e0 : (Hx.new ⟨39, 2, cs⟩).get 0 = some ⟨42, 0, zL⟩ := by rw [get_new_ne _ (by omega), h0, hI.h0]
 have eL : (Hx.new ⟨39, 2, cs⟩).get H.next = some ⟨39, 2, cs⟩ := by rw [← hn]; exact Go.Ps.get_new _ _
 have hs1 : ((Hx.new ⟨39, 2, cs⟩).get 1).isSome = true := by rw [e1]; rfl
 have eo := obv_get e1
 refine ⟨obIn_get e1 (by simp [rX]), ⟨?_, ?_, ⟨.osl H.next 2 0 (i + 1), ?_, .inr ⟨by omega, H.next, rfl, by omega, by omega, ?_, ?_⟩⟩⟩⟩
 ·rw [get_put_ne _ hs1 (by omega)]; exact e0
 ·show 2 ≤ Hx.next + 1; omega
 ·rw [get_put_same _ hs1, eo]; rfl
 ·show H.next < Hx.next + 1; omega
 ·rw [get_put_ne _ hs1 (by omega), eL, hc]
theorem rd_next (i : Nat) (hi : i < (rQ s).length) (H : Hp) (hI : RI s i H) (hp : pOk (rq s i) = true) :
  ∃ H', (M29z m te s).step (.l0 (rQ s).length i H) = some (.inl (.l0 (rQ s).length (i + 1 : Nat) H')) ∧ RI s (i + 1) H' := by
 have hlen := spl_len (rP s 6) 44
 have hp6 := spl_piece s 32 6
 have hq6 := spl_piece (rP s 6) 44 i
 have e6 : rP s 6 = (spl s [32]).getD 6 [] := rfl
 have eQ : rQ s = spl (rP s 6) [44] := rfl
 have b1 : decide ((i : Int) < ((rQ s).length : Int)) = true := decide_eq_true (by omega)
 have b0 : decide ((0 : Int) ≤ i) = true := decide_eq_true (by omega)
 have bp : (pE (rq s i) != 0) = false := by rw [pE_iff s hs, hp]; rfl
 have b3 : decide ((rq s i).length < 4294967281) = true := decide_eq_true (by show ((spl (rP s 6) [44]).getD i []).length < _; rw [← e6] at hp6; omega)
 have hw := wsucc i (by rw [eQ] at hi; rw [← e6] at hp6; omega)
 obtain ⟨fv, h1, ⟨rfl, rfl⟩ | ⟨hpos, L, rfl, l0, l1, l2, hL⟩⟩ := hI.h1
 ·have eo := obv_get h1
  have en : (obv H 1).cells.getD 3 undefT = .nils := by rw [eo]; rfl
  have ho := obIn_get (k := 4) h1 (by simp [rX])
  obtain ⟨k1, k2⟩ := hI.next s (Hx := H) (cs := [T.int .i64 (pS (rq s 0)).entry, T.slf false (pS (rq s 0)).n fun k => T.int .i64 ((pS (rq s 0)).at_ k)]) rfl rfl rfl rfl
  refine ⟨_, ?_, k2⟩
  show step29z_0 m te s _ _ _ = _
  rw [T29z_0]
  ·unfold V29z_0 q29z_0_1 q29z_0_4
   simp only [Int.toNat_natCast]
   refine congrArg some ?_
   refine tree_eq (fun _ => ?_) (fun e => by rw [b1] at e; cases e)
   refine tree_eq (fun e => by rw [raw1 bp] at e; cases e) (fun _ => ?_)
   refine tree_eq (fun _ => ?_) (fun e => by rw [en] at e; cases e)
   rw [hw]
   rfl
  ·unfold K29z_0 q29z_0_1 q29z_0_4
   simp only [Int.toNat_natCast]
   refine tree_eq (fun _ => ?_) (fun e => by rw [b1] at e; cases e)
   refine tree_eq (fun e => by rw [raw1 bp] at e; cases e) (fun _ => ?_)
   refine tree_eq (fun _ => ?_) (fun e => by rw [en] at e; cases e)
   have k1' : obIn (H.new { elem := 39, sz := 2, cells := [T.int IntKind.i64 (pS ((spl ((spl s [32]).getD 6 []) [44]).getD 0 [])).entry, T.slf false (pS ((spl ((spl s [32]).getD 6 []) [44]).getD 0 [])).n fun i => T.int IntKind.i64 ((pS ((spl ((spl s [32]).getD 6 []) [44]).getD 0 [])).at_ i)] }) 1 4 = true := k1
   simp only [g29z_0_2, Int.toNat_natCast, allT, k1', en, isNils, ho, raw1 bp, raw2 b3, raw3 b1, b1, b0, Bool.not_false, Bool.and_true, k29z_0_1, k29z_0_0]
 ·have eo := obv_get h1
  have en : (obv H 1).cells.getD 3 undefT = .osl L 2 0 i := by rw [eo]; rfl
  have eL := obv_get hL
  have ho := obIn_get (k := 4) h1 (by simp [rX])
  have ha : obApp H L 39 2 i = true := by
   unfold obApp
   rw [hL]
   simp only [and_self, if_true]
   exact decide_eq_true (rC_len s i)
  have hr : roomT (i + 1) 32 = true := by
   unfold roomT
   rw [decide_eq_true (show (i + 1) * 32 ≤ 70368744177664 by rw [eQ] at hi; rw [← e6] at hp6; omega), decide_eq_true (show i + 1 ≤ 70368744177664 by rw [eQ] at hi; rw [← e6] at hp6; omega)]
   rfl
  obtain ⟨k1, k2⟩ := hI.next s (Hx := H.drop L) (cs := (obv H L).cells ++ [T.int .i64 (pS (rq s i)).entry, T.slf false (pS (rq s i)).n fun k => T.int .i64 ((pS (rq s i)).at_ k)]) rfl (get_drop_ne (fun e => l0 e.symm)) (get_drop_ne (fun e => l1 e.symm)) (by rw [eL, rC_succ])
  refine ⟨_, ?_, k2⟩
  show step29z_0 m te s _ _ _ = _
  rw [T29z_0]
  ·unfold V29z_0 q29z_0_1 q29z_0_4
   simp only [Int.toNat_natCast]
   refine congrArg some ?_
   refine tree_eq (fun _ => ?_) (fun e => by rw [b1] at e; cases e)
   refine tree_eq (fun e => by rw [raw1 bp] at e; cases e) (fun _ => ?_)
   refine tree_eq (fun e => by rw [en] at e; cases e) (fun _ => ?_)
   rw [hw]
   simp only [en]
   rfl
  ·unfold K29z_0 q29z_0_1 q29z_0_4
   simp only [Int.toNat_natCast]
   refine tree_eq (fun _ => ?_) (fun e => by rw [b1] at e; cases e)
   refine tree_eq (fun e => by rw [raw1 bp] at e; cases e) (fun _ => ?_)
   refine tree_eq (fun e => by rw [en] at e; cases e) (fun _ => ?_)
   have k1' : obIn ((H.drop L).new { elem := 39, sz := 2, cells := (obv H L).cells ++ [T.int IntKind.i64 (pS ((spl ((spl s [32]).getD 6 []) [44]).getD i [])).entry, T.slf false (pS ((spl ((spl s [32]).getD 6 []) [44]).getD i [])).n fun j => T.int IntKind.i64 ((pS ((spl ((spl s [32]).getD 6 []) [44]).getD i [])).at_ j)] }) 1 4 = true := k1
   have hos : isOslS 2 (.osl L 2 0 i) = true := rfl
   simp only [g29z_0_3, Int.toNat_natCast, allT, en, oslL, oslN, k1', ha, hr, hos, isNils, ho, raw1 bp, raw2 b3, raw3 b1, b1, b0, Bool.not_false, Bool.and_true, k29z_0_1, k29z_0_0]
theorem rd_run : ∀ (q i : Nat), q + i = (rQ s).length → ∀ H, RI s i H → ∃ r, Runs (M29z m te s) (.l0 (rQ s).length (i : Nat) H) r ∧
  ((rAl s q i = false ∧ r = .tup [.agg zL, .bool false]) ∨ (rAl s q i = true ∧ ∃ f3, r = .tup [.agg (rX s f3), .bool true] ∧ ∀ g v, Rd g v f3 → Rd g v (.slf false (rQ s).length fun i => spT (pS (rq s i))))) := by
 intro q
 induction q with
 | zero =>
  intro i hi H hI
  have e : i = (rQ s).length := by omega
  subst e
  have hn : 0 < (rQ s).length := List.length_pos_iff.2 (spl_join (rP s 6) 44).2
  obtain ⟨f3, h1, h2⟩ := rd_fin m te s hs H hI hn
  exact ⟨_, Runs.done h1, .inr ⟨rfl, f3, rfl, h2⟩⟩
 | succ q ih =>
  intro i hi H hI
  cases hp : pOk (rq s i) with
  | false => exact ⟨_, Runs.done (rd_bad m te s hs i (by omega) H hI hp), .inl ⟨by simp [rAl, hp], rfl⟩⟩
  | true =>
   obtain ⟨H', h1, h2⟩ := rd_next m te s hs i (by omega) H hI hp
   obtain ⟨r, h3, h4⟩ := ih (i + 1) (by omega) H' h2
   refine ⟨r, Runs.next h1 h3, ?_⟩
   simp only [rAl, hp, Bool.true_and]
   exact h4
end
end
end Go.Proofs.Tryz

/- balance.read: its contract, from the start. -/
namespace Go.Proofs.Tryz
open Go.Ps
set_option maxRecDepth 100000
section
variable (m : Int) (te : TypeId) (s : List UInt8) (hs : s.length ≤ 1000000)
include hs
theorem rd_K : K29z_s m te s = true := by
 have f1 : decide (s.length < 4294967281) = true := decide_eq_true (by omega)
 have f2 : pb (([32] : List UInt8) ≠ []) = true := pb_iff.2 (by simp)
 have f3 : pb (([44] : List UInt8) ≠ []) = true := pb_iff.2 (by simp)
 have f4 : ∀ j, decide (((spl s [32]).getD j []).length < 4294967281) = true := fun j => decide_eq_true (by have := spl_piece s 32 j; omega)
 have f5 : pb (∀ (i : Nat), i < 3 → ((spl s [32]).getD (2 + i) []).length ≤ 281474976710656) = true := pb_iff.2 (fun i _ => by have := spl_piece s 32 (2 + i); omega)
 unfold K29z_s
 refine tree_eq (fun e1 => ?_) (fun e1 => ?_)
 ·simp only [g29z_s_1, allT, f1, f2, e1, Bool.and_true, k29z_s_0]
 have h7 : ((spl s [32]).length : Int) = 7 := by simpa using e1
 have e1' : (((7 : Int)) != 7) = false := rfl
 have d0 : decide ((0 : Int) < 7) = true := rfl
 have d1 : decide ((1 : Int) < 7) = true := rfl
 have d5 : decide ((5 : Int) < 7) = true := rfl
 have d6 : decide ((6 : Int) < 7) = true := rfl
 have d55 : decide ((5 : Int) ≤ 7) = true := rfl
 refine tree_eq (fun e2 => ?_) (fun e2 => ?_)
 ·simp only [g29z_s_2, allT, f1, f2, h7, e1', d0, e2, Bool.and_true, Bool.not_false, Bool.true_and, k29z_s_1, k29z_s_0]
 refine tree_eq (fun e3 => ?_) (fun e3 => ?_)
 ·simp only [g29z_s_3, allT, f1, f2, f4, f5, isV_self, h7, e1', d0, d1, d55, e2, e3, Bool.and_true, Bool.not_false, Bool.true_and, k29z_s_2, k29z_s_1, k29z_s_0]
 refine tree_eq (fun e4 => ?_) (fun e4 => ?_)
 ·simp only [g29z_s_4, allT, f1, f2, f4, f5, isV_self, h7, e1', d0, d1, d55, e2, e3, e4, Bool.and_true, Bool.not_false, Bool.true_and, k29z_s_3, k29z_s_2, k29z_s_1, k29z_s_0]
 have e4' : allR (fun i => (spl s [32]).getD (2 + i) []) 3 0 = true := by simpa using e4
 have hN : nN (fun i => (spl s [32]).getD (2 + i) []) 3 = 3 := by unfold nN; rw [e4']; rfl
 have n0 : decide ((0 : Int) < ((3 : Nat) : Int)) = true := rfl
 have n1 : decide ((1 : Int) < ((3 : Nat) : Int)) = true := rfl
 have n2 : decide ((2 : Int) < ((3 : Nat) : Int)) = true := rfl
 refine tree_eq (fun e5 => ?_) (fun e5 => ?_) <;> refine tree_eq (fun e6 => ?_) (fun e6 => ?_)
 all_goals simp only [g29z_s_5, g29z_s_6, g29z_s_7, g29z_s_8, allT, f1, f2, f3, f4, f5, isV_self, h7, e1', d0, d1, d5, d6, d55, hN, n0, n1, n2, e2, e3, e4, e5, e6, Bool.and_true, Bool.not_false, Bool.true_and, k29z_s_5, k29z_s_4, k29z_s_3, k29z_s_2, k29z_s_1, k29z_s_0, k29z_s_6]
omit hs in
theorem rd_V : (rHd s = false ∧ V29z_s m te s = .inr (.tup [.agg zL, .bool false])) ∨ (rHd s = true ∧ rP s 6 = [45] ∧ V29z_s m te s = .inr (.tup [.agg (rX s .nils), .bool true])) ∨
  (rHd s = true ∧ rP s 6 ≠ [45] ∧ ∃ H, V29z_s m te s = .inl (.l0 (rQ s).length (0 : Nat) H) ∧ RI s 0 H) := by
 have hpE : ∀ x, (pE x != 0) = !pOk x := fun x => by unfold pE; cases pOk x <;> rfl
 by_cases h7 : (spl s [32]).length = 7
 case neg =>
  refine .inl ⟨by unfold rHd; rw [decide_eq_false h7]; rfl, ?_⟩
  unfold V29z_s
  rw [if_pos (by simp only [bne_iff_ne, ne_eq]; omega)]; rfl
 have c1 : ¬ (((spl s [32]).length : Int) != 7) = true := by simp only [bne_iff_ne, ne_eq, Decidable.not_not]; omega
 by_cases h0 : rP s 0 = [108, 105, 110, 101]
 case neg =>
  refine .inl ⟨by unfold rHd; rw [decide_eq_false h0]; simp, ?_⟩
  unfold V29z_s
  have c2 : (!(spl s [32]).getD 0 [] == [108, 105, 110, 101]) = true := by
   have : ((spl s [32]).getD 0 [] == [108, 105, 110, 101]) = false := by rw [beq_eq_false_iff_ne]; exact h0
   rw [this]; rfl
  rw [if_neg c1, if_pos c2]; rfl
 have c2 : ¬ (!(spl s [32]).getD 0 [] == [108, 105, 110, 101]) = true := by
  have : ((spl s [32]).getD 0 [] == [108, 105, 110, 101]) = true := by rw [beq_iff_eq]; exact h0
  rw [this]; decide
 cases hp : pOk (rP s 1) with
 | false =>
  refine .inl ⟨by unfold rHd; rw [hp]; simp, ?_⟩
  unfold V29z_s
  have c3 : (pE ((spl s [32]).getD 1 []) != 0) = true := by rw [hpE]; show (!pOk (rP s 1)) = true; rw [hp]; rfl
  rw [if_neg c1, if_neg c2, if_pos c3]; rfl
 | true =>
  have c3 : ¬ (pE ((spl s [32]).getD 1 []) != 0) = true := by rw [hpE]; show ¬ (!pOk (rP s 1)) = true; rw [hp]; decide
  cases ha : allR (fun i => (spl s [32]).getD (2 + i) []) 3 0 with
  | false =>
   refine .inl ⟨by unfold rHd; rw [ha]; simp, ?_⟩
   unfold V29z_s
   rw [if_neg c1, if_neg c2, if_neg c3, if_pos (by rw [ha]; rfl)]; rfl
  | true =>
   have c4 : ¬ (!allR (fun i => (spl s [32]).getD (2 + i) []) 3 0) = true := by rw [ha]; decide
   have hH : rHd s = true := by unfold rHd; rw [decide_eq_true h7, decide_eq_true h0, hp, ha]; rfl
   have hnd5 : ∀ b, (!(spl s [32]).getD 5 [] == [45]) = b → rNd s = (if b = true then (spl s [32]).getD 5 [] else []) := by
    intro b hb
    unfold rNd
    show (if (spl s [32]).getD 5 [] = [45] then [] else (spl s [32]).getD 5 []) = _
    by_cases e : (spl s [32]).getD 5 [] = [45]
    ·rw [if_pos e]
     have : ((spl s [32]).getD 5 [] == [45]) = true := by rw [beq_iff_eq]; exact e
     rw [this] at hb; subst hb; rfl
    ·rw [if_neg e]
     have : ((spl s [32]).getD 5 [] == [45]) = false := by rw [beq_eq_false_iff_ne]; exact e
     rw [this] at hb; subst hb; rfl
   by_cases h6 : rP s 6 = [45]
   ·have c6 : ((spl s [32]).getD 6 [] == [45]) = true := by rw [beq_iff_eq]; exact h6
    refine .inr (.inl ⟨hH, h6, ?_⟩)
    unfold V29z_s rX
    rw [if_neg c1, if_neg c2, if_neg c3, if_neg c4]
    cases h5 : (!(spl s [32]).getD 5 [] == [45]) with
    | true => rw [if_pos rfl, if_pos c6, hnd5 _ h5]; rfl
    | false => rw [if_neg (by decide), if_pos c6, hnd5 _ h5]; rfl
   ·have c6 : ¬ ((spl s [32]).getD 6 [] == [45]) = true := by rw [beq_iff_eq]; exact h6
    refine .inr (.inr ⟨hH, h6, ?_⟩)
    unfold V29z_s
    rw [if_neg c1, if_neg c2, if_neg c3, if_neg c4]
    cases h5 : (!(spl s [32]).getD 5 [] == [45]) with
    | true =>
     rw [if_pos rfl, if_neg c6]
     refine ⟨_, rfl, ⟨rfl, Nat.le_refl 2, ⟨.nils, ?_, .inl ⟨rfl, rfl⟩⟩⟩⟩
     unfold rX; rw [hnd5 _ h5]; rfl
    | false =>
     rw [if_neg (by decide), if_neg c6]
     refine ⟨_, rfl, ⟨rfl, Nat.le_refl 2, ⟨.nils, ?_, .inl ⟨rfl, rfl⟩⟩⟩⟩
     unfold rX; rw [hnd5 _ h5]; rfl
end
theorem rd_ln {g : G} {v : Value} {a b c d d' e f h x b' : T} (hb : ∀ u, Rd g u b → Rd g u b') (hd : ∀ u, Rd g u d → Rd g u d') (hr : Rd g v (.tup [.agg [a, b, c, d, e, f, h], x])) : Rd g v (.tup [.agg [a, b', c, d', e, f, h], x]) := by
 refine rd_tup1 (fun u hu => ?_) hr
 cases hu with
 | agg _ vs h1 h2 =>
  refine .agg _ vs (by simpa using h1) (fun j w y hw hy => ?_)
  match j with
  | 0 => exact h2 0 w y hw hy
  | 1 => simp at hy; subst hy; exact hb w (h2 1 w b hw rfl)
  | 2 => exact h2 2 w y hw hy
  | 3 => simp at hy; subst hy; exact hd w (h2 3 w d hw rfl)
  | 4 => exact h2 4 w y hw hy
  | 5 => exact h2 5 w y hw hy
  | 6 => exact h2 6 w y hw hy
  | n + 7 => simp at hy
theorem read_ok {m : Int} {te : TypeId} (s : List UInt8) (hs : s.length ≤ 1000000) : PureFn prog (gl1 m te) 29 [.str s] (.tup [lnT (rL s), .bool (rOk s)]) := by
 have hK := rd_K m te s hs
 have bad : rOk s = false → PureFn prog (gl1 m te) 29 [.str s] (.tup [.agg zL, .bool false]) → PureFn prog (gl1 m te) 29 [.str s] (.tup [lnT (rL s), .bool (rOk s)]) := by
  intro h0 hp
  refine hp.mono fun g v hv => ?_
  unfold rL
  rw [h0]
  exact rd_ln (fun u hu => rd_nslf _ _ hu) (fun u hu => rd_nslf _ _ hu) hv
 have good : ∀ f3, rOk s = true → (∀ g v, Rd g v f3 → Rd g v (.slf false (rK s) fun i => spT (pS (rq s i)))) → PureFn prog (gl1 m te) 29 [.str s] (.tup [.agg (rX s f3), .bool true]) → PureFn prog (gl1 m te) 29 [.str s] (.tup [lnT (rL s), .bool (rOk s)]) := by
  intro f3 h0 hf hp
  refine hp.mono fun g v hv => ?_
  unfold rL
  rw [h0]
  exact rd_ln (fun u hu => hu) (fun u hu => hf g u hu) hv
 rcases rd_V m te s with ⟨h1, h2⟩ | ⟨h1, h6, h2⟩ | ⟨h1, h6, H, h2, hI⟩
 ·exact bad (by unfold rOk; rw [h1]; rfl) (c29z m te s 0 hK (by rw [h2]; rfl))
 ·refine good .nils (by unfold rOk; rw [h1, if_pos h6]; rfl) (fun g v hv => ?_) (c29z m te s 0 hK (by rw [h2]; rfl))
  unfold rK
  rw [if_pos h6]
  exact rd_nslf _ _ hv
 ·obtain ⟨r, ⟨n, hn⟩, hr⟩ := rd_run m te s hs (rQ s).length 0 (by omega) H hI
  have hp := c29z m te s n hK (by rw [h2]; exact hn)
  rcases hr with ⟨ha, rfl⟩ | ⟨ha, f3, rfl, hf⟩
  ·exact bad (by unfold rOk; rw [h1, if_neg h6, ha]; rfl) hp
  ·refine good f3 (by unfold rOk; rw [h1, if_neg h6, ha]; rfl) (fun g v hv => ?_) hp
   unfold rK
   rw [if_neg h6]
   exact hf g v hv
end Go.Proofs.Tryz

/- The contracts that Decode calls: read, and Encode over a certificate that is still being built. -/
namespace Go.Proofs.Tryz
noncomputable section
open Go.Ps
def s29z : List T → Option (T × List Bool)
 | [.str s] => some (.tup [lnT (rL s), .bool (rOk s)], [decide (s.length ≤ 1000000)])
 | _ => none
def zLn : Ln := ⟨⟨0, 0, fun _ => 0⟩, 0, 0, fun _ => ⟨0, 0, fun _ => 0⟩, 0, 0, []⟩
def dcOf (H : Hp) (a b c d e f fv : T) : Ct := ⟨intv a, intv b, intv c, intv d, intv e, intv f, oslN fv, fun i => if i < oslN fv then lnv (.agg (cellsV H (oslL fv) (i * 7) 7)) else zLn⟩
def LendC (H : Hp) (t : T) (c : Ct) : Prop := ∀ g v, St g H → Rd g v t → Rd (g.frz H g) v (ctT c)
def encP (c : Ct) : Prop := small c ∧ (∀ i, i < c.n → (c.line i).node.length ≤ 1000000) ∧ ∀ z ∈ [c.entries, c.accepted, c.delivered, c.waiting, c.letters, c.discarded], -9223372036854775808 ≤ z ∧ z ≤ 9223372036854775807
def encT (c : Ct) : List UInt8 := if CheckE c = 0 then enc c else []
def s7z (H : Hp) : List T → Option (T × List Bool)
 | [.agg [a, b, c, d, e, f, fv]] => some (.tup [.str (encT (dcOf H a b c d e f fv)), .int .i64 (CheckE (dcOf H a b c d e f fv))], [pb (LendC H (.agg [a, b, c, d, e, f, fv]) (dcOf H a b c d e f fv)), pb (encP (dcOf H a b c d e f fv))])
 | _ => none
section
variable {m : Int} {te : TypeId}
theorem s29z_ok (ts : List T) (r : T) (cs : List Bool) (h : s29z ts = some (r, cs)) (hc : allT cs = true) : PureFn prog (gl1 m te) 29 ts r := by
 unfold s29z at h
 split at h
 ·cases h
  simp only [allT, Bool.and_true, decide_eq_true_eq] at hc
  exact read_ok _ hc
 ·cases h
theorem enc_pure {c : Ct} (h : encP c) : PureFn prog (gl1 m te) 7 [ctT c] (.tup [.str (encT c), .int .i64 (CheckE c)]) := by
 have := pure1 (m := m) (te := te) (encode_ok c h.1 h.2.1 h.2.2)
 unfold encT
 by_cases e : CheckE c = 0
 ·rw [if_pos e] at this ⊢; rw [e]; exact this
 ·rw [if_neg e] at this ⊢; exact this
theorem s7z_ok (H : Hp) (ts : List T) (r : T) (cs : List Bool) (h : s7z H ts = some (r, cs)) (hc : allT cs = true) : PeFn prog (gl1 m te) H 7 ts r := by
 unfold s7z at h
 split at h
 ·cases h
  simp only [allT, Bool.and_true, Bool.and_eq_true, pb_iff] at hc
  exact lend_pure (gl1Frz m te) (enc_pure hc.2) rfl hc.1
 ·cases h
end
def D61 (m : Int) (te : TypeId) : Ed := ⟨gl1 m te, pdAddH 7 s7z (pdAdd 29 s29z (D60 m te).pd)⟩
def F9 : Fc := ⟨fun d => d == 2 || d == 1008 || d == 78 || d == 85 || d == 97, fun _ _ _ => none⟩
theorem cx61 (m : Int) (te : TypeId) : Cx prog (D61 m te) F9 := ⟨follows, pdAddH_ok (pdAdd_ok (d60ok m te) s29z_ok) s7z_ok, eeNone_ok⟩
end
end Go.Proofs.Tryz

/- By program (gen2). -/
namespace Go.Proofs.Tryz
noncomputable section
open Go.Ps
set_option maxRecDepth 100000
/-! ### 9 -/
inductive S9z where
 | l0 (x64 x65 : Int) (H : Hp)
def k9z_s_0 (m : Int) (te : TypeId) (s : List UInt8) : List Bool := [decide ((spl ((spl s [10]).getD 0 []) [32]).length - 1 ≤ 1000000), pb (∀ (i : Nat), i < (spl ((spl s [10]).getD 0 []) [32]).length - 1 → ((spl ((spl s [10]).getD 0 []) [32]).getD (1 + i) []).length ≤ 281474976710656), isV (T.slf false ((spl ((spl s [10]).getD 0 []) [32]).length - 1) fun i => T.str ((spl ((spl s [10]).getD 0 []) [32]).getD (1 + i) [])) (T.slf false ((spl ((spl s [10]).getD 0 []) [32]).length - 1) fun i => T.str ((spl ((spl s [10]).getD 0 []) [32]).getD (1 + i) [])), true, decide (1 ≤ (↑(spl ((spl s [10]).getD 0 []) [32]).length : Int)), true, decide (((spl s [10]).getD 0 []).length < 4294967281), pb (([32] : List UInt8) ≠ []), true, decide (0 < (↑(spl s [10]).length : Int)), true, decide (s.length < 4294967281), pb (([10] : List UInt8) ≠ [])]
def k9z_s_1 (m : Int) (te : TypeId) (s : List UInt8) : List Bool := let y0 := allR (fun i => (spl ((spl s [10]).getD 0 []) [32]).getD (1 + i) []) ((spl ((spl s [10]).getD 0 []) [32]).length - 1) 0; (!!y0) :: (!!y0) :: (!!y0) :: (!!y0) :: k9z_s_0 m te s
def k9z_s_2 (m : Int) (te : TypeId) (s : List UInt8) : List Bool := let y0 := (↑(nN (fun i => (spl ((spl s [10]).getD 0 []) [32]).getD (1 + i) []) ((spl ((spl s [10]).getD 0 []) [32]).length - 1)) : Int) != 6; (!y0) :: (!y0) :: (!y0) :: (!y0) :: k9z_s_1 m te s
def g9z_s_1 (m : Int) (te : TypeId) (s : List UInt8) : List Bool := let y0 := allR (fun i => (spl ((spl s [10]).getD 0 []) [32]).getD (1 + i) []) ((spl ((spl s [10]).getD 0 []) [32]).length - 1) 0; true :: true :: true :: true :: true :: true :: true :: true :: (!y0) :: (!y0) :: (!y0) :: (!y0) :: k9z_s_0 m te s
def g9z_s_2 (m : Int) (te : TypeId) (s : List UInt8) : List Bool := let y0 := (↑(nN (fun i => (spl ((spl s [10]).getD 0 []) [32]).getD (1 + i) []) ((spl ((spl s [10]).getD 0 []) [32]).length - 1)) : Int) != 6; true :: true :: true :: true :: y0 :: y0 :: y0 :: y0 :: k9z_s_1 m te s
def g9z_s_3 (m : Int) (te : TypeId) (s : List UInt8) : List Bool := true :: true :: true :: (decide ((↑(spl s [10]).length : Int) < 2)) :: k9z_s_2 m te s
def g9z_s_4 (m : Int) (te : TypeId) (s : List UInt8) : List Bool := (decide (0 ≤ IntKind.i64.wrap ((↑(spl s [10]).length : Int) - 1))) :: (decide (IntKind.i64.wrap ((↑(spl s [10]).length : Int) - 1) ≤ (↑(spl s [10]).length : Int))) :: true :: (decide (1 ≤ (↑(IntKind.i64.wrap ((↑(spl s [10]).length : Int) - 1)).toNat : Int))) :: true :: true :: true :: true :: (decide (5 < (↑(nN (fun i => (spl ((spl s [10]).getD 0 []) [32]).getD (1 + i) []) ((spl ((spl s [10]).getD 0 []) [32]).length - 1)) : Int))) :: true :: true :: (decide (4 < (↑(nN (fun i => (spl ((spl s [10]).getD 0 []) [32]).getD (1 + i) []) ((spl ((spl s [10]).getD 0 []) [32]).length - 1)) : Int))) :: true :: true :: (decide (3 < (↑(nN (fun i => (spl ((spl s [10]).getD 0 []) [32]).getD (1 + i) []) ((spl ((spl s [10]).getD 0 []) [32]).length - 1)) : Int))) :: true :: true :: (decide (2 < (↑(nN (fun i => (spl ((spl s [10]).getD 0 []) [32]).getD (1 + i) []) ((spl ((spl s [10]).getD 0 []) [32]).length - 1)) : Int))) :: true :: true :: (decide (1 < (↑(nN (fun i => (spl ((spl s [10]).getD 0 []) [32]).getD (1 + i) []) ((spl ((spl s [10]).getD 0 []) [32]).length - 1)) : Int))) :: true :: true :: (decide (0 < (↑(nN (fun i => (spl ((spl s [10]).getD 0 []) [32]).getD (1 + i) []) ((spl ((spl s [10]).getD 0 []) [32]).length - 1)) : Int))) :: true :: (!decide ((↑(spl s [10]).length : Int) < 2)) :: k9z_s_2 m te s
def k9z_0_0 (m : Int) (te : TypeId) (s : List UInt8) (x64 x65 : Int) (H : Hp) : List Bool := [true, true, decide (((spl s [10]).getD (1 + x65.toNat) []).length ≤ 1000000), decide (0 ≤ x65), decide (x65 < (↑((IntKind.i64.wrap ((↑(spl s [10]).length : Int) - 1)).toNat - 1) : Int)), true, decide (x65 < x64)]
def k9z_0_1 (m : Int) (te : TypeId) (s : List UInt8) (x64 x65 : Int) (H : Hp) : List Bool := (obIn H 1 7) :: true :: (!!rOk ((spl s [10]).getD (1 + x65.toNat) [])) :: k9z_0_0 m te s x64 x65 H
def k9z_0_2 (m : Int) (te : TypeId) (s : List UInt8) (x64 x65 : Int) (H : Hp) : List Bool := [pb (LendC H (T.agg [(obv H 1).cells.getD 0 undefT, (obv H 1).cells.getD 1 undefT, (obv H 1).cells.getD 2 undefT, (obv H 1).cells.getD 3 undefT, (obv H 1).cells.getD 4 undefT, (obv H 1).cells.getD 5 undefT, (obv H 1).cells.getD 6 undefT]) (dcOf H ((obv H 1).cells.getD 0 undefT) ((obv H 1).cells.getD 1 undefT) ((obv H 1).cells.getD 2 undefT) ((obv H 1).cells.getD 3 undefT) ((obv H 1).cells.getD 4 undefT) ((obv H 1).cells.getD 5 undefT) ((obv H 1).cells.getD 6 undefT))), pb (encP (dcOf H ((obv H 1).cells.getD 0 undefT) ((obv H 1).cells.getD 1 undefT) ((obv H 1).cells.getD 2 undefT) ((obv H 1).cells.getD 3 undefT) ((obv H 1).cells.getD 4 undefT) ((obv H 1).cells.getD 5 undefT) ((obv H 1).cells.getD 6 undefT))), obIn H 1 7, !decide (x65 < x64)]
def k9z_0_3 (m : Int) (te : TypeId) (s : List UInt8) (x64 x65 : Int) (H : Hp) : List Bool := let y0 := CheckE (dcOf H ((obv H 1).cells.getD 0 undefT) ((obv H 1).cells.getD 1 undefT) ((obv H 1).cells.getD 2 undefT) ((obv H 1).cells.getD 3 undefT) ((obv H 1).cells.getD 4 undefT) ((obv H 1).cells.getD 5 undefT) ((obv H 1).cells.getD 6 undefT)) != 0; (!y0) :: (!y0) :: (!y0) :: (!y0) :: k9z_0_2 m te s x64 x65 H
def g9z_0_1 (m : Int) (te : TypeId) (s : List UInt8) (x64 x65 : Int) (H : Hp) : List Bool := true :: (obIn H 0 7) :: true :: (!rOk ((spl s [10]).getD (1 + x65.toNat) [])) :: k9z_0_0 m te s x64 x65 H
def g9z_0_2 (m : Int) (te : TypeId) (s : List UInt8) (x64 x65 : Int) (H : Hp) : List Bool := true :: (obIn (H.new { elem := 42, sz := 7, cells := [T.int .i64 (rL ((spl s [10]).getD (1 + x65.toNat) [])).st.entry, T.slf false (rL ((spl s [10]).getD (1 + x65.toNat) [])).st.n fun i => T.int .i64 ((rL ((spl s [10]).getD (1 + x65.toNat) [])).st.at_ i), T.int .i64 (rL ((spl s [10]).getD (1 + x65.toNat) [])).mass, T.slf false (rL ((spl s [10]).getD (1 + x65.toNat) [])).k fun i => spT ((rL ((spl s [10]).getD (1 + x65.toNat) [])).from_ i), T.int .i64 (rL ((spl s [10]).getD (1 + x65.toNat) [])).fate, T.int .i64 (rL ((spl s [10]).getD (1 + x65.toNat) [])).closed, T.str (rL ((spl s [10]).getD (1 + x65.toNat) [])).node] }) 1 7) :: true :: true :: true :: true :: (isNils ((obv H 1).cells.getD 6 undefT)) :: k9z_0_1 m te s x64 x65 H
def g9z_0_3 (m : Int) (te : TypeId) (s : List UInt8) (x64 x65 : Int) (H : Hp) : List Bool := true :: (obIn ((H.drop (oslL ((obv H 1).cells.getD 6 undefT))).new { elem := 42, sz := 7, cells := (obv H (oslL ((obv H 1).cells.getD 6 undefT))).cells ++ [T.int .i64 (rL ((spl s [10]).getD (1 + x65.toNat) [])).st.entry, T.slf false (rL ((spl s [10]).getD (1 + x65.toNat) [])).st.n fun i => T.int .i64 ((rL ((spl s [10]).getD (1 + x65.toNat) [])).st.at_ i), T.int .i64 (rL ((spl s [10]).getD (1 + x65.toNat) [])).mass, T.slf false (rL ((spl s [10]).getD (1 + x65.toNat) [])).k fun i => spT ((rL ((spl s [10]).getD (1 + x65.toNat) [])).from_ i), T.int .i64 (rL ((spl s [10]).getD (1 + x65.toNat) [])).fate, T.int .i64 (rL ((spl s [10]).getD (1 + x65.toNat) [])).closed, T.str (rL ((spl s [10]).getD (1 + x65.toNat) [])).node] }) 1 7) :: true :: true :: true :: (obApp H (oslL ((obv H 1).cells.getD 6 undefT)) 42 7 (oslN ((obv H 1).cells.getD 6 undefT))) :: (roomT (oslN ((obv H 1).cells.getD 6 undefT) + 1) 96) :: (isOslS 7 ((obv H 1).cells.getD 6 undefT)) :: k9z_0_1 m te s x64 x65 H
def g9z_0_4 (m : Int) (te : TypeId) (s : List UInt8) (x64 x65 : Int) (H : Hp) : List Bool := let y0 := CheckE (dcOf H ((obv H 1).cells.getD 0 undefT) ((obv H 1).cells.getD 1 undefT) ((obv H 1).cells.getD 2 undefT) ((obv H 1).cells.getD 3 undefT) ((obv H 1).cells.getD 4 undefT) ((obv H 1).cells.getD 5 undefT) ((obv H 1).cells.getD 6 undefT)) != 0; true :: (obIn H 0 7) :: true :: true :: y0 :: y0 :: y0 :: y0 :: k9z_0_2 m te s x64 x65 H
def g9z_0_5 (m : Int) (te : TypeId) (s : List UInt8) (x64 x65 : Int) (H : Hp) : List Bool := true :: (obIn H 0 7) :: true :: (!encT (dcOf H ((obv H 1).cells.getD 0 undefT) ((obv H 1).cells.getD 1 undefT) ((obv H 1).cells.getD 2 undefT) ((obv H 1).cells.getD 3 undefT) ((obv H 1).cells.getD 4 undefT) ((obv H 1).cells.getD 5 undefT) ((obv H 1).cells.getD 6 undefT)) == s) :: k9z_0_3 m te s x64 x65 H
def g9z_0_6 (m : Int) (te : TypeId) (s : List UInt8) (x64 x65 : Int) (H : Hp) : List Bool := true :: (obIn H 0 7) :: (allOne [(obv H 1).cells.getD 0 undefT, (obv H 1).cells.getD 1 undefT, (obv H 1).cells.getD 2 undefT, (obv H 1).cells.getD 3 undefT, (obv H 1).cells.getD 4 undefT, (obv H 1).cells.getD 5 undefT, (obv H 1).cells.getD 6 undefT]) :: (obIn H 1 7) :: (!!encT (dcOf H ((obv H 1).cells.getD 0 undefT) ((obv H 1).cells.getD 1 undefT) ((obv H 1).cells.getD 2 undefT) ((obv H 1).cells.getD 3 undefT) ((obv H 1).cells.getD 4 undefT) ((obv H 1).cells.getD 5 undefT) ((obv H 1).cells.getD 6 undefT)) == s) :: k9z_0_3 m te s x64 x65 H
def q9z_0_1 (m : Int) (te : TypeId) (s : List UInt8) (x64 x65 : Int) (H : Hp) : Option T := if (obIn { next := H.next, objs := setOb H.objs 0 (have __src := obv H 0; { elem := __src.elem, sz := __src.sz, cells := T.int .i64 0 :: T.int .i64 0 :: T.int .i64 0 :: T.int .i64 0 :: T.int .i64 0 :: T.int .i64 0 :: T.nils :: (List.drop (0 + 7) (obv H 0).cells) }) } 0 7 && true) = true then frzT 20 { next := H.next, objs := setOb H.objs 0 (have __src := obv H 0; { elem := __src.elem, sz := __src.sz, cells := T.int .i64 0 :: T.int .i64 0 :: T.int .i64 0 :: T.int .i64 0 :: T.int .i64 0 :: T.int .i64 0 :: T.nils :: (List.drop (0 + 7) (obv H 0).cells) }) } (T.tup [T.agg [(obv { next := H.next, objs := setOb H.objs 0 (have __src := obv H 0; { elem := __src.elem, sz := __src.sz, cells := T.int .i64 0 :: T.int .i64 0 :: T.int .i64 0 :: T.int .i64 0 :: T.int .i64 0 :: T.int .i64 0 :: T.nils :: (List.drop (0 + 7) (obv H 0).cells) }) } 0).cells.getD 0 undefT, (obv { next := H.next, objs := setOb H.objs 0 (have __src := obv H 0; { elem := __src.elem, sz := __src.sz, cells := T.int .i64 0 :: T.int .i64 0 :: T.int .i64 0 :: T.int .i64 0 :: T.int .i64 0 :: T.int .i64 0 :: T.nils :: (List.drop (0 + 7) (obv H 0).cells) }) } 0).cells.getD 1 undefT, (obv { next := H.next, objs := setOb H.objs 0 (have __src := obv H 0; { elem := __src.elem, sz := __src.sz, cells := T.int .i64 0 :: T.int .i64 0 :: T.int .i64 0 :: T.int .i64 0 :: T.int .i64 0 :: T.int .i64 0 :: T.nils :: (List.drop (0 + 7) (obv H 0).cells) }) } 0).cells.getD 2 undefT, (obv { next := H.next, objs := setOb H.objs 0 (have __src := obv H 0; { elem := __src.elem, sz := __src.sz, cells := T.int .i64 0 :: T.int .i64 0 :: T.int .i64 0 :: T.int .i64 0 :: T.int .i64 0 :: T.int .i64 0 :: T.nils :: (List.drop (0 + 7) (obv H 0).cells) }) } 0).cells.getD 3 undefT, (obv { next := H.next, objs := setOb H.objs 0 (have __src := obv H 0; { elem := __src.elem, sz := __src.sz, cells := T.int .i64 0 :: T.int .i64 0 :: T.int .i64 0 :: T.int .i64 0 :: T.int .i64 0 :: T.int .i64 0 :: T.nils :: (List.drop (0 + 7) (obv H 0).cells) }) } 0).cells.getD 4 undefT, (obv { next := H.next, objs := setOb H.objs 0 (have __src := obv H 0; { elem := __src.elem, sz := __src.sz, cells := T.int .i64 0 :: T.int .i64 0 :: T.int .i64 0 :: T.int .i64 0 :: T.int .i64 0 :: T.int .i64 0 :: T.nils :: (List.drop (0 + 7) (obv H 0).cells) }) } 0).cells.getD 5 undefT, (obv { next := H.next, objs := setOb H.objs 0 (have __src := obv H 0; { elem := __src.elem, sz := __src.sz, cells := T.int .i64 0 :: T.int .i64 0 :: T.int .i64 0 :: T.int .i64 0 :: T.int .i64 0 :: T.int .i64 0 :: T.nils :: (List.drop (0 + 7) (obv H 0).cells) }) } 0).cells.getD 6 undefT], T.int .i64 3]) else none
def q9z_0_4 (m : Int) (te : TypeId) (s : List UInt8) (x64 x65 : Int) (H : Hp) : Option T := if (obIn { next := H.next, objs := setOb H.objs 0 (have __src := obv H 0; { elem := __src.elem, sz := __src.sz, cells := T.int .i64 0 :: T.int .i64 0 :: T.int .i64 0 :: T.int .i64 0 :: T.int .i64 0 :: T.int .i64 0 :: T.nils :: (List.drop (0 + 7) (obv H 0).cells) }) } 0 7 && true) = true then frzT 20 { next := H.next, objs := setOb H.objs 0 (have __src := obv H 0; { elem := __src.elem, sz := __src.sz, cells := T.int .i64 0 :: T.int .i64 0 :: T.int .i64 0 :: T.int .i64 0 :: T.int .i64 0 :: T.int .i64 0 :: T.nils :: (List.drop (0 + 7) (obv H 0).cells) }) } (T.tup [T.agg [(obv { next := H.next, objs := setOb H.objs 0 (have __src := obv H 0; { elem := __src.elem, sz := __src.sz, cells := T.int .i64 0 :: T.int .i64 0 :: T.int .i64 0 :: T.int .i64 0 :: T.int .i64 0 :: T.int .i64 0 :: T.nils :: (List.drop (0 + 7) (obv H 0).cells) }) } 0).cells.getD 0 undefT, (obv { next := H.next, objs := setOb H.objs 0 (have __src := obv H 0; { elem := __src.elem, sz := __src.sz, cells := T.int .i64 0 :: T.int .i64 0 :: T.int .i64 0 :: T.int .i64 0 :: T.int .i64 0 :: T.int .i64 0 :: T.nils :: (List.drop (0 + 7) (obv H 0).cells) }) } 0).cells.getD 1 undefT, (obv { next := H.next, objs := setOb H.objs 0 (have __src := obv H 0; { elem := __src.elem, sz := __src.sz, cells := T.int .i64 0 :: T.int .i64 0 :: T.int .i64 0 :: T.int .i64 0 :: T.int .i64 0 :: T.int .i64 0 :: T.nils :: (List.drop (0 + 7) (obv H 0).cells) }) } 0).cells.getD 2 undefT, (obv { next := H.next, objs := setOb H.objs 0 (have __src := obv H 0; { elem := __src.elem, sz := __src.sz, cells := T.int .i64 0 :: T.int .i64 0 :: T.int .i64 0 :: T.int .i64 0 :: T.int .i64 0 :: T.int .i64 0 :: T.nils :: (List.drop (0 + 7) (obv H 0).cells) }) } 0).cells.getD 3 undefT, (obv { next := H.next, objs := setOb H.objs 0 (have __src := obv H 0; { elem := __src.elem, sz := __src.sz, cells := T.int .i64 0 :: T.int .i64 0 :: T.int .i64 0 :: T.int .i64 0 :: T.int .i64 0 :: T.int .i64 0 :: T.nils :: (List.drop (0 + 7) (obv H 0).cells) }) } 0).cells.getD 4 undefT, (obv { next := H.next, objs := setOb H.objs 0 (have __src := obv H 0; { elem := __src.elem, sz := __src.sz, cells := T.int .i64 0 :: T.int .i64 0 :: T.int .i64 0 :: T.int .i64 0 :: T.int .i64 0 :: T.int .i64 0 :: T.nils :: (List.drop (0 + 7) (obv H 0).cells) }) } 0).cells.getD 5 undefT, (obv { next := H.next, objs := setOb H.objs 0 (have __src := obv H 0; { elem := __src.elem, sz := __src.sz, cells := T.int .i64 0 :: T.int .i64 0 :: T.int .i64 0 :: T.int .i64 0 :: T.int .i64 0 :: T.int .i64 0 :: T.nils :: (List.drop (0 + 7) (obv H 0).cells) }) } 0).cells.getD 6 undefT], T.int .i64 3]) else none
def q9z_0_5 (m : Int) (te : TypeId) (s : List UInt8) (x64 x65 : Int) (H : Hp) : Option T := if (obIn { next := H.next, objs := setOb H.objs 0 (have __src := obv H 0; { elem := __src.elem, sz := __src.sz, cells := T.int .i64 0 :: T.int .i64 0 :: T.int .i64 0 :: T.int .i64 0 :: T.int .i64 0 :: T.int .i64 0 :: T.nils :: (List.drop (0 + 7) (obv H 0).cells) }) } 0 7 && true) = true then frzT 20 { next := H.next, objs := setOb H.objs 0 (have __src := obv H 0; { elem := __src.elem, sz := __src.sz, cells := T.int .i64 0 :: T.int .i64 0 :: T.int .i64 0 :: T.int .i64 0 :: T.int .i64 0 :: T.int .i64 0 :: T.nils :: (List.drop (0 + 7) (obv H 0).cells) }) } (T.tup [T.agg [(obv { next := H.next, objs := setOb H.objs 0 (have __src := obv H 0; { elem := __src.elem, sz := __src.sz, cells := T.int .i64 0 :: T.int .i64 0 :: T.int .i64 0 :: T.int .i64 0 :: T.int .i64 0 :: T.int .i64 0 :: T.nils :: (List.drop (0 + 7) (obv H 0).cells) }) } 0).cells.getD 0 undefT, (obv { next := H.next, objs := setOb H.objs 0 (have __src := obv H 0; { elem := __src.elem, sz := __src.sz, cells := T.int .i64 0 :: T.int .i64 0 :: T.int .i64 0 :: T.int .i64 0 :: T.int .i64 0 :: T.int .i64 0 :: T.nils :: (List.drop (0 + 7) (obv H 0).cells) }) } 0).cells.getD 1 undefT, (obv { next := H.next, objs := setOb H.objs 0 (have __src := obv H 0; { elem := __src.elem, sz := __src.sz, cells := T.int .i64 0 :: T.int .i64 0 :: T.int .i64 0 :: T.int .i64 0 :: T.int .i64 0 :: T.int .i64 0 :: T.nils :: (List.drop (0 + 7) (obv H 0).cells) }) } 0).cells.getD 2 undefT, (obv { next := H.next, objs := setOb H.objs 0 (have __src := obv H 0; { elem := __src.elem, sz := __src.sz, cells := T.int .i64 0 :: T.int .i64 0 :: T.int .i64 0 :: T.int .i64 0 :: T.int .i64 0 :: T.int .i64 0 :: T.nils :: (List.drop (0 + 7) (obv H 0).cells) }) } 0).cells.getD 3 undefT, (obv { next := H.next, objs := setOb H.objs 0 (have __src := obv H 0; { elem := __src.elem, sz := __src.sz, cells := T.int .i64 0 :: T.int .i64 0 :: T.int .i64 0 :: T.int .i64 0 :: T.int .i64 0 :: T.int .i64 0 :: T.nils :: (List.drop (0 + 7) (obv H 0).cells) }) } 0).cells.getD 4 undefT, (obv { next := H.next, objs := setOb H.objs 0 (have __src := obv H 0; { elem := __src.elem, sz := __src.sz, cells := T.int .i64 0 :: T.int .i64 0 :: T.int .i64 0 :: T.int .i64 0 :: T.int .i64 0 :: T.int .i64 0 :: T.nils :: (List.drop (0 + 7) (obv H 0).cells) }) } 0).cells.getD 5 undefT, (obv { next := H.next, objs := setOb H.objs 0 (have __src := obv H 0; { elem := __src.elem, sz := __src.sz, cells := T.int .i64 0 :: T.int .i64 0 :: T.int .i64 0 :: T.int .i64 0 :: T.int .i64 0 :: T.int .i64 0 :: T.nils :: (List.drop (0 + 7) (obv H 0).cells) }) } 0).cells.getD 6 undefT], T.int .i64 3]) else none
def q9z_0_6 (m : Int) (te : TypeId) (s : List UInt8) (x64 x65 : Int) (H : Hp) : Option T := if (obIn { next := H.next, objs := setOb H.objs 0 (have __src := obv H 0; { elem := __src.elem, sz := __src.sz, cells := (obv H 1).cells.getD 0 undefT :: (obv H 1).cells.getD 1 undefT :: (obv H 1).cells.getD 2 undefT :: (obv H 1).cells.getD 3 undefT :: (obv H 1).cells.getD 4 undefT :: (obv H 1).cells.getD 5 undefT :: (obv H 1).cells.getD 6 undefT :: (List.drop (0 + 7) (obv H 0).cells) }) } 0 7 && true) = true then frzT 20 { next := H.next, objs := setOb H.objs 0 (have __src := obv H 0; { elem := __src.elem, sz := __src.sz, cells := (obv H 1).cells.getD 0 undefT :: (obv H 1).cells.getD 1 undefT :: (obv H 1).cells.getD 2 undefT :: (obv H 1).cells.getD 3 undefT :: (obv H 1).cells.getD 4 undefT :: (obv H 1).cells.getD 5 undefT :: (obv H 1).cells.getD 6 undefT :: (List.drop (0 + 7) (obv H 0).cells) }) } (T.tup [T.agg [(obv { next := H.next, objs := setOb H.objs 0 (have __src := obv H 0; { elem := __src.elem, sz := __src.sz, cells := (obv H 1).cells.getD 0 undefT :: (obv H 1).cells.getD 1 undefT :: (obv H 1).cells.getD 2 undefT :: (obv H 1).cells.getD 3 undefT :: (obv H 1).cells.getD 4 undefT :: (obv H 1).cells.getD 5 undefT :: (obv H 1).cells.getD 6 undefT :: (List.drop (0 + 7) (obv H 0).cells) }) } 0).cells.getD 0 undefT, (obv { next := H.next, objs := setOb H.objs 0 (have __src := obv H 0; { elem := __src.elem, sz := __src.sz, cells := (obv H 1).cells.getD 0 undefT :: (obv H 1).cells.getD 1 undefT :: (obv H 1).cells.getD 2 undefT :: (obv H 1).cells.getD 3 undefT :: (obv H 1).cells.getD 4 undefT :: (obv H 1).cells.getD 5 undefT :: (obv H 1).cells.getD 6 undefT :: (List.drop (0 + 7) (obv H 0).cells) }) } 0).cells.getD 1 undefT, (obv { next := H.next, objs := setOb H.objs 0 (have __src := obv H 0; { elem := __src.elem, sz := __src.sz, cells := (obv H 1).cells.getD 0 undefT :: (obv H 1).cells.getD 1 undefT :: (obv H 1).cells.getD 2 undefT :: (obv H 1).cells.getD 3 undefT :: (obv H 1).cells.getD 4 undefT :: (obv H 1).cells.getD 5 undefT :: (obv H 1).cells.getD 6 undefT :: (List.drop (0 + 7) (obv H 0).cells) }) } 0).cells.getD 2 undefT, (obv { next := H.next, objs := setOb H.objs 0 (have __src := obv H 0; { elem := __src.elem, sz := __src.sz, cells := (obv H 1).cells.getD 0 undefT :: (obv H 1).cells.getD 1 undefT :: (obv H 1).cells.getD 2 undefT :: (obv H 1).cells.getD 3 undefT :: (obv H 1).cells.getD 4 undefT :: (obv H 1).cells.getD 5 undefT :: (obv H 1).cells.getD 6 undefT :: (List.drop (0 + 7) (obv H 0).cells) }) } 0).cells.getD 3 undefT, (obv { next := H.next, objs := setOb H.objs 0 (have __src := obv H 0; { elem := __src.elem, sz := __src.sz, cells := (obv H 1).cells.getD 0 undefT :: (obv H 1).cells.getD 1 undefT :: (obv H 1).cells.getD 2 undefT :: (obv H 1).cells.getD 3 undefT :: (obv H 1).cells.getD 4 undefT :: (obv H 1).cells.getD 5 undefT :: (obv H 1).cells.getD 6 undefT :: (List.drop (0 + 7) (obv H 0).cells) }) } 0).cells.getD 4 undefT, (obv { next := H.next, objs := setOb H.objs 0 (have __src := obv H 0; { elem := __src.elem, sz := __src.sz, cells := (obv H 1).cells.getD 0 undefT :: (obv H 1).cells.getD 1 undefT :: (obv H 1).cells.getD 2 undefT :: (obv H 1).cells.getD 3 undefT :: (obv H 1).cells.getD 4 undefT :: (obv H 1).cells.getD 5 undefT :: (obv H 1).cells.getD 6 undefT :: (List.drop (0 + 7) (obv H 0).cells) }) } 0).cells.getD 5 undefT, (obv { next := H.next, objs := setOb H.objs 0 (have __src := obv H 0; { elem := __src.elem, sz := __src.sz, cells := (obv H 1).cells.getD 0 undefT :: (obv H 1).cells.getD 1 undefT :: (obv H 1).cells.getD 2 undefT :: (obv H 1).cells.getD 3 undefT :: (obv H 1).cells.getD 4 undefT :: (obv H 1).cells.getD 5 undefT :: (obv H 1).cells.getD 6 undefT :: (List.drop (0 + 7) (obv H 0).cells) }) } 0).cells.getD 6 undefT], T.int .i64 0]) else none
def V9z_0 (m : Int) (te : TypeId) (s : List UInt8) (x64 x65 : Int) (H : Hp) : S9z ⊕ T :=
 (if decide (x65 < x64) then (if !rOk ((spl s [10]).getD (1 + x65.toNat) []) then (.inr ((q9z_0_1 m te s x64 x65 H).getD undefT)) else (if isNils ((obv H 1).cells.getD 6 undefT) then (.inl (.l0 x64 (IntKind.i64.wrap (x65 + 1)) ({ next := H.next + 1, objs := setOb ((H.next, { elem := 42, sz := 7, cells := [T.int .i64 (rL ((spl s [10]).getD (1 + x65.toNat) [])).st.entry, T.slf false (rL ((spl s [10]).getD (1 + x65.toNat) [])).st.n fun i => T.int .i64 ((rL ((spl s [10]).getD (1 + x65.toNat) [])).st.at_ i), T.int .i64 (rL ((spl s [10]).getD (1 + x65.toNat) [])).mass, T.slf false (rL ((spl s [10]).getD (1 + x65.toNat) [])).k fun i => spT ((rL ((spl s [10]).getD (1 + x65.toNat) [])).from_ i), T.int .i64 (rL ((spl s [10]).getD (1 + x65.toNat) [])).fate, T.int .i64 (rL ((spl s [10]).getD (1 + x65.toNat) [])).closed, T.str (rL ((spl s [10]).getD (1 + x65.toNat) [])).node] }) :: H.objs) 1 (have __src := obv (H.new { elem := 42, sz := 7, cells := [T.int .i64 (rL ((spl s [10]).getD (1 + x65.toNat) [])).st.entry, T.slf false (rL ((spl s [10]).getD (1 + x65.toNat) [])).st.n fun i => T.int .i64 ((rL ((spl s [10]).getD (1 + x65.toNat) [])).st.at_ i), T.int .i64 (rL ((spl s [10]).getD (1 + x65.toNat) [])).mass, T.slf false (rL ((spl s [10]).getD (1 + x65.toNat) [])).k fun i => spT ((rL ((spl s [10]).getD (1 + x65.toNat) [])).from_ i), T.int .i64 (rL ((spl s [10]).getD (1 + x65.toNat) [])).fate, T.int .i64 (rL ((spl s [10]).getD (1 + x65.toNat) [])).closed, T.str (rL ((spl s [10]).getD (1 + x65.toNat) [])).node] }) 1; { elem := __src.elem, sz := __src.sz, cells := spliceT (obv (H.new { elem := 42, sz := 7, cells := [T.int .i64 (rL ((spl s [10]).getD (1 + x65.toNat) [])).st.entry, T.slf false (rL ((spl s [10]).getD (1 + x65.toNat) [])).st.n fun i => T.int .i64 ((rL ((spl s [10]).getD (1 + x65.toNat) [])).st.at_ i), T.int .i64 (rL ((spl s [10]).getD (1 + x65.toNat) [])).mass, T.slf false (rL ((spl s [10]).getD (1 + x65.toNat) [])).k fun i => spT ((rL ((spl s [10]).getD (1 + x65.toNat) [])).from_ i), T.int .i64 (rL ((spl s [10]).getD (1 + x65.toNat) [])).fate, T.int .i64 (rL ((spl s [10]).getD (1 + x65.toNat) [])).closed, T.str (rL ((spl s [10]).getD (1 + x65.toNat) [])).node] }) 1).cells 6 [T.osl H.next 7 0 1] }) }))) else (.inl (.l0 x64 (IntKind.i64.wrap (x65 + 1)) ({ next := H.next + 1, objs := setOb ((H.next, { elem := 42, sz := 7, cells := (obv H (oslL ((obv H 1).cells.getD 6 undefT))).cells ++ [T.int .i64 (rL ((spl s [10]).getD (1 + x65.toNat) [])).st.entry, T.slf false (rL ((spl s [10]).getD (1 + x65.toNat) [])).st.n fun i => T.int .i64 ((rL ((spl s [10]).getD (1 + x65.toNat) [])).st.at_ i), T.int .i64 (rL ((spl s [10]).getD (1 + x65.toNat) [])).mass, T.slf false (rL ((spl s [10]).getD (1 + x65.toNat) [])).k fun i => spT ((rL ((spl s [10]).getD (1 + x65.toNat) [])).from_ i), T.int .i64 (rL ((spl s [10]).getD (1 + x65.toNat) [])).fate, T.int .i64 (rL ((spl s [10]).getD (1 + x65.toNat) [])).closed, T.str (rL ((spl s [10]).getD (1 + x65.toNat) [])).node] }) :: dropOb H.objs (oslL ((obv H 1).cells.getD 6 undefT))) 1 (have __src := obv ((H.drop (oslL ((obv H 1).cells.getD 6 undefT))).new { elem := 42, sz := 7, cells := (obv H (oslL ((obv H 1).cells.getD 6 undefT))).cells ++ [T.int .i64 (rL ((spl s [10]).getD (1 + x65.toNat) [])).st.entry, T.slf false (rL ((spl s [10]).getD (1 + x65.toNat) [])).st.n fun i => T.int .i64 ((rL ((spl s [10]).getD (1 + x65.toNat) [])).st.at_ i), T.int .i64 (rL ((spl s [10]).getD (1 + x65.toNat) [])).mass, T.slf false (rL ((spl s [10]).getD (1 + x65.toNat) [])).k fun i => spT ((rL ((spl s [10]).getD (1 + x65.toNat) [])).from_ i), T.int .i64 (rL ((spl s [10]).getD (1 + x65.toNat) [])).fate, T.int .i64 (rL ((spl s [10]).getD (1 + x65.toNat) [])).closed, T.str (rL ((spl s [10]).getD (1 + x65.toNat) [])).node] }) 1; { elem := __src.elem, sz := __src.sz, cells := spliceT (obv ((H.drop (oslL ((obv H 1).cells.getD 6 undefT))).new { elem := 42, sz := 7, cells := (obv H (oslL ((obv H 1).cells.getD 6 undefT))).cells ++ [T.int .i64 (rL ((spl s [10]).getD (1 + x65.toNat) [])).st.entry, T.slf false (rL ((spl s [10]).getD (1 + x65.toNat) [])).st.n fun i => T.int .i64 ((rL ((spl s [10]).getD (1 + x65.toNat) [])).st.at_ i), T.int .i64 (rL ((spl s [10]).getD (1 + x65.toNat) [])).mass, T.slf false (rL ((spl s [10]).getD (1 + x65.toNat) [])).k fun i => spT ((rL ((spl s [10]).getD (1 + x65.toNat) [])).from_ i), T.int .i64 (rL ((spl s [10]).getD (1 + x65.toNat) [])).fate, T.int .i64 (rL ((spl s [10]).getD (1 + x65.toNat) [])).closed, T.str (rL ((spl s [10]).getD (1 + x65.toNat) [])).node] }) 1).cells 6 [T.osl H.next 7 0 (oslN ((obv H 1).cells.getD 6 undefT) + 1)] }) }))))) else (if CheckE (dcOf H ((obv H 1).cells.getD 0 undefT) ((obv H 1).cells.getD 1 undefT) ((obv H 1).cells.getD 2 undefT) ((obv H 1).cells.getD 3 undefT) ((obv H 1).cells.getD 4 undefT) ((obv H 1).cells.getD 5 undefT) ((obv H 1).cells.getD 6 undefT)) != 0 then (.inr ((q9z_0_4 m te s x64 x65 H).getD undefT)) else (if !encT (dcOf H ((obv H 1).cells.getD 0 undefT) ((obv H 1).cells.getD 1 undefT) ((obv H 1).cells.getD 2 undefT) ((obv H 1).cells.getD 3 undefT) ((obv H 1).cells.getD 4 undefT) ((obv H 1).cells.getD 5 undefT) ((obv H 1).cells.getD 6 undefT)) == s then (.inr ((q9z_0_5 m te s x64 x65 H).getD undefT)) else (.inr ((q9z_0_6 m te s x64 x65 H).getD undefT)))))
def K9z_0 (m : Int) (te : TypeId) (s : List UInt8) (x64 x65 : Int) (H : Hp) : Bool :=
 (if decide (x65 < x64) then (if !rOk ((spl s [10]).getD (1 + x65.toNat) []) then (allT (g9z_0_1 m te s x64 x65 H) && (q9z_0_1 m te s x64 x65 H).isSome) else (if isNils ((obv H 1).cells.getD 6 undefT) then (allT (g9z_0_2 m te s x64 x65 H)) else (allT (g9z_0_3 m te s x64 x65 H)))) else (if CheckE (dcOf H ((obv H 1).cells.getD 0 undefT) ((obv H 1).cells.getD 1 undefT) ((obv H 1).cells.getD 2 undefT) ((obv H 1).cells.getD 3 undefT) ((obv H 1).cells.getD 4 undefT) ((obv H 1).cells.getD 5 undefT) ((obv H 1).cells.getD 6 undefT)) != 0 then (allT (g9z_0_4 m te s x64 x65 H) && (q9z_0_4 m te s x64 x65 H).isSome) else (if !encT (dcOf H ((obv H 1).cells.getD 0 undefT) ((obv H 1).cells.getD 1 undefT) ((obv H 1).cells.getD 2 undefT) ((obv H 1).cells.getD 3 undefT) ((obv H 1).cells.getD 4 undefT) ((obv H 1).cells.getD 5 undefT) ((obv H 1).cells.getD 6 undefT)) == s then (allT (g9z_0_5 m te s x64 x65 H) && (q9z_0_5 m te s x64 x65 H).isSome) else (allT (g9z_0_6 m te s x64 x65 H) && (q9z_0_6 m te s x64 x65 H).isSome))))
def step9z_0 (m : Int) (te : TypeId) (s : List UInt8) (x64 x65 : Int) (H : Hp) : Option (S9z ⊕ T) := if K9z_0 m te s x64 x65 H then some (V9z_0 m te s x64 x65 H) else none
theorem T9z_0 (m : Int) (te : TypeId) (s : List UInt8) (x64 x65 : Int) (H : Hp) (hk : K9z_0 m te s x64 x65 H = true) : step9z_0 m te s x64 x65 H = some (V9z_0 m te s x64 x65 H) := if_pos hk
def V9z_s (m : Int) (te : TypeId) (s : List UInt8) : S9z ⊕ T :=
 (if !allR (fun i => (spl ((spl s [10]).getD 0 []) [32]).getD (1 + i) []) ((spl ((spl s [10]).getD 0 []) [32]).length - 1) 0 then (.inr ((T.tup [T.agg [T.int .i64 0, T.int .i64 0, T.int .i64 0, T.int .i64 0, T.int .i64 0, T.int .i64 0, T.nils], T.int .i64 3]))) else (if (↑(nN (fun i => (spl ((spl s [10]).getD 0 []) [32]).getD (1 + i) []) ((spl ((spl s [10]).getD 0 []) [32]).length - 1)) : Int) != 6 then (.inr ((T.tup [T.agg [T.int .i64 0, T.int .i64 0, T.int .i64 0, T.int .i64 0, T.int .i64 0, T.int .i64 0, T.nils], T.int .i64 3]))) else (if decide ((↑(spl s [10]).length : Int) < 2) then (.inr ((T.tup [T.agg [T.int .i64 0, T.int .i64 0, T.int .i64 0, T.int .i64 0, T.int .i64 0, T.int .i64 0, T.nils], T.int .i64 3]))) else (.inl (.l0 (↑((IntKind.i64.wrap ((↑(spl s [10]).length : Int) - 1)).toNat - 1) : Int) 0 ({ next := 2, objs := [(1, { elem := 24, sz := 0, cells := [T.int .i64 (aV ((spl ((spl s [10]).getD 0 []) [32]).getD 1 [])), T.int .i64 (aV ((spl ((spl s [10]).getD 0 []) [32]).getD 2 [])), T.int .i64 (aV ((spl ((spl s [10]).getD 0 []) [32]).getD 3 [])), T.int .i64 (aV ((spl ((spl s [10]).getD 0 []) [32]).getD 4 [])), T.int .i64 (aV ((spl ((spl s [10]).getD 0 []) [32]).getD 5 [])), T.int .i64 (aV ((spl ((spl s [10]).getD 0 []) [32]).getD 6 [])), T.nils] }), (0, { elem := 24, sz := 0, cells := [T.int .i64 0, T.int .i64 0, T.int .i64 0, T.int .i64 0, T.int .i64 0, T.int .i64 0, T.nils] })] }))))))
def K9z_s (m : Int) (te : TypeId) (s : List UInt8) : Bool :=
 (if !allR (fun i => (spl ((spl s [10]).getD 0 []) [32]).getD (1 + i) []) ((spl ((spl s [10]).getD 0 []) [32]).length - 1) 0 then (allT (g9z_s_1 m te s)) else (if (↑(nN (fun i => (spl ((spl s [10]).getD 0 []) [32]).getD (1 + i) []) ((spl ((spl s [10]).getD 0 []) [32]).length - 1)) : Int) != 6 then (allT (g9z_s_2 m te s)) else (if decide ((↑(spl s [10]).length : Int) < 2) then (allT (g9z_s_3 m te s)) else (allT (g9z_s_4 m te s)))))
def step9z (m : Int) (te : TypeId) (s : List UInt8) : S9z → Option (S9z ⊕ T)
 | .l0 x64 x65 H => step9z_0 m te s x64 x65 H
def M9z (m : Int) (te : TypeId) (s : List UInt8) : Mch S9z where
 lp := fun σ => match σ with
  | .l0 .. => 0
 keep := fun ι => match ι with
  | 0 => [0, 2, 8, 63, 64, 65]
  | _ => []
 par := fun ι => match ι with
  | 0 => []
  | _ => []
 vs := fun σ => match σ with
  | .l0 x64 x65 H => [T.str s, T.ptr 0 0, T.ptr 1 0, T.slf (true && (IntKind.i64.wrap ((↑(spl s [10]).length : Int) - 1)).toNat == (spl s [10]).length) ((IntKind.i64.wrap ((↑(spl s [10]).length : Int) - 1)).toNat - 1) fun i => T.str ((spl s [10]).getD (1 + i) []), T.int .i64 x64, T.int .i64 x65]
 hp := fun σ => match σ with
  | .l0 _ _ H => H
 len := 98
 step := step9z m te s
def r9z_0 (m : Int) (te : TypeId) (s : List UInt8) (x64 x65 : Int) (H : Hp) (fr : List T) (ds : List Bool) : RD Out := (M9z m te s).rk prog (D61 m te) F9 f9 (.l0 x64 x65 H) fr ds
theorem w9z_0_1 (m : Int) (te : TypeId) (s : List UInt8) (x64 x65 : Int) (H : Hp) (fr : List T) : outK prog f9 20 [] (r9z_0 m te s x64 x65 H fr [true, true]) = wdq (q9z_0_1 m te s x64 x65 H) (g9z_0_1 m te s x64 x65 H) := by kernel_rfl
theorem w9z_0_2 (m : Int) (te : TypeId) (s : List UInt8) (x64 x65 : Int) (H : Hp) (fr : List T) : (M9z m te s).wa prog f9 (r9z_0 m te s x64 x65 H fr [true, false, true]) 0 (g9z_0_2 m te s x64 x65 H) (.l0 x64 (IntKind.i64.wrap (x65 + 1)) ({ next := H.next + 1, objs := setOb ((H.next, { elem := 42, sz := 7, cells := [T.int .i64 (rL ((spl s [10]).getD (1 + x65.toNat) [])).st.entry, T.slf false (rL ((spl s [10]).getD (1 + x65.toNat) [])).st.n fun i => T.int .i64 ((rL ((spl s [10]).getD (1 + x65.toNat) [])).st.at_ i), T.int .i64 (rL ((spl s [10]).getD (1 + x65.toNat) [])).mass, T.slf false (rL ((spl s [10]).getD (1 + x65.toNat) [])).k fun i => spT ((rL ((spl s [10]).getD (1 + x65.toNat) [])).from_ i), T.int .i64 (rL ((spl s [10]).getD (1 + x65.toNat) [])).fate, T.int .i64 (rL ((spl s [10]).getD (1 + x65.toNat) [])).closed, T.str (rL ((spl s [10]).getD (1 + x65.toNat) [])).node] }) :: H.objs) 1 (have __src := obv (H.new { elem := 42, sz := 7, cells := [T.int .i64 (rL ((spl s [10]).getD (1 + x65.toNat) [])).st.entry, T.slf false (rL ((spl s [10]).getD (1 + x65.toNat) [])).st.n fun i => T.int .i64 ((rL ((spl s [10]).getD (1 + x65.toNat) [])).st.at_ i), T.int .i64 (rL ((spl s [10]).getD (1 + x65.toNat) [])).mass, T.slf false (rL ((spl s [10]).getD (1 + x65.toNat) [])).k fun i => spT ((rL ((spl s [10]).getD (1 + x65.toNat) [])).from_ i), T.int .i64 (rL ((spl s [10]).getD (1 + x65.toNat) [])).fate, T.int .i64 (rL ((spl s [10]).getD (1 + x65.toNat) [])).closed, T.str (rL ((spl s [10]).getD (1 + x65.toNat) [])).node] }) 1; { elem := __src.elem, sz := __src.sz, cells := spliceT (obv (H.new { elem := 42, sz := 7, cells := [T.int .i64 (rL ((spl s [10]).getD (1 + x65.toNat) [])).st.entry, T.slf false (rL ((spl s [10]).getD (1 + x65.toNat) [])).st.n fun i => T.int .i64 ((rL ((spl s [10]).getD (1 + x65.toNat) [])).st.at_ i), T.int .i64 (rL ((spl s [10]).getD (1 + x65.toNat) [])).mass, T.slf false (rL ((spl s [10]).getD (1 + x65.toNat) [])).k fun i => spT ((rL ((spl s [10]).getD (1 + x65.toNat) [])).from_ i), T.int .i64 (rL ((spl s [10]).getD (1 + x65.toNat) [])).fate, T.int .i64 (rL ((spl s [10]).getD (1 + x65.toNat) [])).closed, T.str (rL ((spl s [10]).getD (1 + x65.toNat) [])).node] }) 1).cells 6 [T.osl H.next 7 0 1] }) })) := by unfold Mch.wa; kernel_rfl
theorem w9z_0_3 (m : Int) (te : TypeId) (s : List UInt8) (x64 x65 : Int) (H : Hp) (fr : List T) : (M9z m te s).wa prog f9 (r9z_0 m te s x64 x65 H fr [true, false, false]) 0 (g9z_0_3 m te s x64 x65 H) (.l0 x64 (IntKind.i64.wrap (x65 + 1)) ({ next := H.next + 1, objs := setOb ((H.next, { elem := 42, sz := 7, cells := (obv H (oslL ((obv H 1).cells.getD 6 undefT))).cells ++ [T.int .i64 (rL ((spl s [10]).getD (1 + x65.toNat) [])).st.entry, T.slf false (rL ((spl s [10]).getD (1 + x65.toNat) [])).st.n fun i => T.int .i64 ((rL ((spl s [10]).getD (1 + x65.toNat) [])).st.at_ i), T.int .i64 (rL ((spl s [10]).getD (1 + x65.toNat) [])).mass, T.slf false (rL ((spl s [10]).getD (1 + x65.toNat) [])).k fun i => spT ((rL ((spl s [10]).getD (1 + x65.toNat) [])).from_ i), T.int .i64 (rL ((spl s [10]).getD (1 + x65.toNat) [])).fate, T.int .i64 (rL ((spl s [10]).getD (1 + x65.toNat) [])).closed, T.str (rL ((spl s [10]).getD (1 + x65.toNat) [])).node] }) :: dropOb H.objs (oslL ((obv H 1).cells.getD 6 undefT))) 1 (have __src := obv ((H.drop (oslL ((obv H 1).cells.getD 6 undefT))).new { elem := 42, sz := 7, cells := (obv H (oslL ((obv H 1).cells.getD 6 undefT))).cells ++ [T.int .i64 (rL ((spl s [10]).getD (1 + x65.toNat) [])).st.entry, T.slf false (rL ((spl s [10]).getD (1 + x65.toNat) [])).st.n fun i => T.int .i64 ((rL ((spl s [10]).getD (1 + x65.toNat) [])).st.at_ i), T.int .i64 (rL ((spl s [10]).getD (1 + x65.toNat) [])).mass, T.slf false (rL ((spl s [10]).getD (1 + x65.toNat) [])).k fun i => spT ((rL ((spl s [10]).getD (1 + x65.toNat) [])).from_ i), T.int .i64 (rL ((spl s [10]).getD (1 + x65.toNat) [])).fate, T.int .i64 (rL ((spl s [10]).getD (1 + x65.toNat) [])).closed, T.str (rL ((spl s [10]).getD (1 + x65.toNat) [])).node] }) 1; { elem := __src.elem, sz := __src.sz, cells := spliceT (obv ((H.drop (oslL ((obv H 1).cells.getD 6 undefT))).new { elem := 42, sz := 7, cells := (obv H (oslL ((obv H 1).cells.getD 6 undefT))).cells ++ [T.int .i64 (rL ((spl s [10]).getD (1 + x65.toNat) [])).st.entry, T.slf false (rL ((spl s [10]).getD (1 + x65.toNat) [])).st.n fun i => T.int .i64 ((rL ((spl s [10]).getD (1 + x65.toNat) [])).st.at_ i), T.int .i64 (rL ((spl s [10]).getD (1 + x65.toNat) [])).mass, T.slf false (rL ((spl s [10]).getD (1 + x65.toNat) [])).k fun i => spT ((rL ((spl s [10]).getD (1 + x65.toNat) [])).from_ i), T.int .i64 (rL ((spl s [10]).getD (1 + x65.toNat) [])).fate, T.int .i64 (rL ((spl s [10]).getD (1 + x65.toNat) [])).closed, T.str (rL ((spl s [10]).getD (1 + x65.toNat) [])).node] }) 1).cells 6 [T.osl H.next 7 0 (oslN ((obv H 1).cells.getD 6 undefT) + 1)] }) })) := by unfold Mch.wa; kernel_rfl
theorem w9z_0_4 (m : Int) (te : TypeId) (s : List UInt8) (x64 x65 : Int) (H : Hp) (fr : List T) : outK prog f9 20 [] (r9z_0 m te s x64 x65 H fr (bt 6 62)) = wdq (q9z_0_4 m te s x64 x65 H) (g9z_0_4 m te s x64 x65 H) := by kernel_rfl
theorem w9z_0_5 (m : Int) (te : TypeId) (s : List UInt8) (x64 x65 : Int) (H : Hp) (fr : List T) : outK prog f9 20 [] (r9z_0 m te s x64 x65 H fr (bt 6 32)) = wdq (q9z_0_5 m te s x64 x65 H) (g9z_0_5 m te s x64 x65 H) := by kernel_rfl
theorem w9z_0_6 (m : Int) (te : TypeId) (s : List UInt8) (x64 x65 : Int) (H : Hp) (fr : List T) : outK prog f9 20 [] (r9z_0 m te s x64 x65 H fr (bt 6 0)) = wdq (q9z_0_6 m te s x64 x65 H) (g9z_0_6 m te s x64 x65 H) := by kernel_rfl
def r9z_s (m : Int) (te : TypeId) (s : List UInt8) (ds : List Bool) : RD Out := runK prog (D61 m te) F9 2000 (.code (bodyOf f9)) [] 0 ([.str s] ++ List.replicate 97 undefT) ⟨0, []⟩ ds []
theorem w9z_s_1 (m : Int) (te : TypeId) (s : List UInt8) : outK prog f9 20 [] (r9z_s m te s (bt 9 511)) = wdn (T.tup [T.agg [T.int .i64 0, T.int .i64 0, T.int .i64 0, T.int .i64 0, T.int .i64 0, T.int .i64 0, T.nils], T.int .i64 3]) (g9z_s_1 m te s) := by kernel_rfl
theorem w9z_s_2 (m : Int) (te : TypeId) (s : List UInt8) : outK prog f9 20 [] (r9z_s m te s (bt 9 496)) = wdn (T.tup [T.agg [T.int .i64 0, T.int .i64 0, T.int .i64 0, T.int .i64 0, T.int .i64 0, T.int .i64 0, T.nils], T.int .i64 3]) (g9z_s_2 m te s) := by kernel_rfl
theorem w9z_s_3 (m : Int) (te : TypeId) (s : List UInt8) : outK prog f9 20 [] (r9z_s m te s (bt 9 256)) = wdn (T.tup [T.agg [T.int .i64 0, T.int .i64 0, T.int .i64 0, T.int .i64 0, T.int .i64 0, T.int .i64 0, T.nils], T.int .i64 3]) (g9z_s_3 m te s) := by kernel_rfl
theorem w9z_s_4 (m : Int) (te : TypeId) (s : List UInt8) : (M9z m te s).wl prog f9 (r9z_s m te s (bt 9 0)) 0 (g9z_s_4 m te s) (.l0 (↑((IntKind.i64.wrap ((↑(spl s [10]).length : Int) - 1)).toNat - 1) : Int) 0 ({ next := 2, objs := [(1, { elem := 24, sz := 0, cells := [T.int .i64 (aV ((spl ((spl s [10]).getD 0 []) [32]).getD 1 [])), T.int .i64 (aV ((spl ((spl s [10]).getD 0 []) [32]).getD 2 [])), T.int .i64 (aV ((spl ((spl s [10]).getD 0 []) [32]).getD 3 [])), T.int .i64 (aV ((spl ((spl s [10]).getD 0 []) [32]).getD 4 [])), T.int .i64 (aV ((spl ((spl s [10]).getD 0 []) [32]).getD 5 [])), T.int .i64 (aV ((spl ((spl s [10]).getD 0 []) [32]).getD 6 [])), T.nils] }), (0, { elem := 24, sz := 0, cells := [T.int .i64 0, T.int .i64 0, T.int .i64 0, T.int .i64 0, T.int .i64 0, T.int .i64 0, T.nils] })] })) := by unfold Mch.wl; kernel_rfl
theorem ways9z (m : Int) (te : TypeId) (s : List UInt8) : (M9z m te s).Ways prog (D61 m te) F9 f9 20 := by
 intro σ o fr h
 cases σ with
 | l0 x64 x65 H =>
  obtain ⟨hk, ho⟩ := kv_some (K := K9z_0 m te s x64 x65 H) (V := V9z_0 m te s x64 x65 H) h
  exact (wk_if (wk_if (kO (w9z_0_1 m te s x64 x65 H fr)) (wk_if (kA (w9z_0_2 m te s x64 x65 H fr) rfl) (kA (w9z_0_3 m te s x64 x65 H fr) rfl))) (wk_if (kO (w9z_0_4 m te s x64 x65 H fr)) (wk_if (kO (w9z_0_5 m te s x64 x65 H fr)) (kO (w9z_0_6 m te s x64 x65 H fr))))) hk o ho
theorem oks9z (m : Int) (te : TypeId) (s : List UInt8) : ∀ σ, Ps.codeOk (loopAt f9 ((M9z m te s).lp σ)).1 = true ∧ ksOk (.lp :: (loopAt f9 ((M9z m te s).lp σ)).2) = true := oks_of 1 (by kernel_rfl) (by intro σ; cases σ <;> exact Nat.le_of_ble_eq_true rfl)
theorem c9z (m : Int) (te : TypeId) (s : List UInt8) (n : Nat) {r : T} (hk : K9z_s m te s = true) (hr : (M9z m te s).fin n (V9z_s m te s) = some r) : PureFn prog (gl1 m te) 9 [.str s] r :=
 pure_mach (M := (M9z m te s)) (fn := f9) (k := 20) (d := 8) (c := bodyOf f9) (cx61 m te) (gl1Frz m te) (by kernel_rfl) func9 (by kernel_rfl) rfl (by kernel_rfl) (by kernel_rfl) (L := 97) (by kernel_rfl) (ways9z m te s) (oks9z m te s) ((wk_if (kD (w9z_s_1 m te s)) (wk_if (kD (w9z_s_2 m te s)) (wk_if (kD (w9z_s_3 m te s)) (kL (w9z_s_4 m te s) rfl)))) hk _ rfl) hr
end
end Go.Proofs.Tryz

/- balance.Decode: its contract. -/
namespace Go.Proofs.Tryz
noncomputable section
open Go.Ps
set_option maxRecDepth 100000
section
variable (s : List UInt8)
def dP (j : Nat) : List UInt8 := (spl s [10]).getD j []
def dHs : List (List UInt8) := spl (dP s 0) [32]
def dh (j : Nat) : List UInt8 := (dHs s).getD j []
def dN : Nat := (spl s [10]).length - 2
def dl (i : Nat) : List UInt8 := dP s (1 + i)
def dHd : Bool := allR (fun i => dh s (1 + i)) ((dHs s).length - 1) 0 && (decide ((dHs s).length - 1 = 6) && decide (2 ≤ (spl s [10]).length))
def dAl : Nat → Nat → Bool
 | 0, _ => true
 | q + 1, i => rOk (dl s i) && dAl q (i + 1)
def dOk : Bool := dHd s && dAl s (dN s) 0
def dCs (i : Nat) : List T := (List.range i).flatMap fun j => (lnT (rL (dl s j))).cells
theorem dCs_succ (i : Nat) : dCs s (i + 1) = dCs s i ++ (lnT (rL (dl s i))).cells := by
 unfold dCs; rw [List.range_succ, List.flatMap_append]; simp
theorem dCs_len : ∀ i, (dCs s i).length = i * 7
 | 0 => rfl
 | i + 1 => by
  rw [dCs_succ, List.length_append, dCs_len i]
  show i * 7 + 7 = _
  omega
theorem dCs_pl (i : Nat) : ∀ c ∈ dCs s i, pl1 c = true := by
 intro c hc
 unfold dCs at hc
 obtain ⟨j, _, hj⟩ := List.mem_flatMap.1 hc
 simp only [lnT, T.cells, List.mem_cons, List.not_mem_nil, or_false] at hj
 rcases hj with rfl | rfl | rfl | rfl | rfl | rfl | rfl <;> rfl
def dX (fv : T) : List T := [T.int .i64 (aV (dh s 1)), T.int .i64 (aV (dh s 2)), T.int .i64 (aV (dh s 3)), T.int .i64 (aV (dh s 4)), T.int .i64 (aV (dh s 5)), T.int .i64 (aV (dh s 6)), fv]
def zC : List T := [T.int .i64 0, T.int .i64 0, T.int .i64 0, T.int .i64 0, T.int .i64 0, T.int .i64 0, T.nils]
structure DI (i : Nat) (H : Hp) : Prop where
 h0 : H.get 0 = some ⟨24, 0, zC⟩
 nx : 2 ≤ H.next
 h1 : ∃ fv, H.get 1 = some ⟨24, 0, dX s fv⟩ ∧ ((i = 0 ∧ fv = .nils) ∨ (0 < i ∧ ∃ L, fv = .osl L 7 0 i ∧ L ≠ 0 ∧ L ≠ 1 ∧ L < H.next ∧ H.get L = some ⟨42, 7, dCs s i⟩))
def dnC (Hd : Hp) (b : Int) : Option T := if (obIn Hd 0 7 && true) = true then frzT 20 Hd (T.tup [T.agg (cellsV Hd 0 0 7), T.int .i64 b]) else none
theorem dnC_eq {Hd : Hp} {b : Int} {a0 a1 a2 a3 a4 a5 a6 f6 : T} (h : Hd.get 0 = some ⟨24, 0, [a0, a1, a2, a3, a4, a5, a6]⟩) (h0 : pl1 a0 = true) (h1 : pl1 a1 = true) (h2 : pl1 a2 = true) (h3 : pl1 a3 = true) (h4 : pl1 a4 = true) (h5 : pl1 a5 = true)
  (h6 : frzT 18 Hd a6 = some f6) : dnC Hd b = some (T.tup [T.agg [a0, a1, a2, a3, a4, a5, f6], T.int .i64 b]) := by
 unfold dnC
 rw [obIn_get h (by simp)]
 have e : cellsV Hd 0 0 7 = [a0, a1, a2, a3, a4, a5, a6] := by
  unfold cellsV; rw [obv_get h]; rfl
 rw [e]
 simp only [Bool.and_true, if_true]
 have g0 : frzT 18 Hd a0 = some a0 := pl1_frz h0
 have g1 : frzT 18 Hd a1 = some a1 := pl1_frz h1
 have g2 : frzT 18 Hd a2 = some a2 := pl1_frz h2
 have g3 : frzT 18 Hd a3 = some a3 := pl1_frz h3
 have g4 : frzT 18 Hd a4 = some a4 := pl1_frz h4
 have g5 : frzT 18 Hd a5 = some a5 := pl1_frz h5
 have ea : frzT 19 Hd (T.agg [a0, a1, a2, a3, a4, a5, a6]) = some (T.agg [a0, a1, a2, a3, a4, a5, f6]) := by
  show (match mapO (frzT 18 Hd) [a0, a1, a2, a3, a4, a5, a6] with | some ds => some (T.agg ds) | none => none) = _
  simp only [mapO, g0, g1, g2, g3, g4, g5, h6]
 show (match mapO (frzT 19 Hd) [T.agg [a0, a1, a2, a3, a4, a5, a6], T.int .i64 b] with | some ds => some (T.tup ds) | none => none) = _
 simp only [mapO, ea]
 rfl
theorem DI.next {i : Nat} {H Hx : Hp} (hI : DI s i H) {cs : List T} (hn : Hx.next = H.next) (h0 : Hx.get 0 = H.get 0) (h1 : Hx.get 1 = H.get 1) (hc : cs = dCs s (i + 1)) :
  obIn (Hx.new ⟨42, 7, cs⟩) 1 7 = true ∧ DI s (i + 1) ((Hx.new ⟨42, 7, cs⟩).put 1 { obv (Hx.new ⟨42, 7, cs⟩) 1 with cells := spliceT (obv (Hx.new ⟨42, 7, cs⟩) 1).cells 6 [T.osl H.next 7 0 (i + 1)] }) := by
 obtain ⟨fv, g1, _⟩ := hI.h1
 have nx := hI.nx
 have e1 : (Hx.new ⟨42, 7, cs⟩).get 1 = some ⟨24, 0, dX s fv⟩ := by rw [get_new_ne _ (by omega), h1, g1]
 have e0 : (Hx.new ⟨42, 7, cs⟩).get 0 = some ⟨24, 0, zC⟩ := by rw [get_new_ne _ (by omega), h0, hI.h0]
 have eL : (Hx.new ⟨42, 7, cs⟩).get H.next = some ⟨42, 7, cs⟩ := by rw [← hn]; exact Go.Ps.get_new _ _
 have hs1 : ((Hx.new ⟨42, 7, cs⟩).get 1).isSome = true := by rw [e1]; rfl
 have eo := obv_get e1
 refine ⟨obIn_get e1 (by simp [dX]), ⟨?_, ?_, ⟨.osl H.next 7 0 (i + 1), ?_, .inr ⟨by omega, H.next, rfl, by omega, by omega, ?_, ?_⟩⟩⟩⟩
 ·rw [get_put_ne _ hs1 (by omega)]; exact e0
 ·show 2 ≤ Hx.next + 1; omega
 ·rw [get_put_same _ hs1, eo]; rfl
 ·show H.next < Hx.next + 1; omega
 ·rw [get_put_ne _ hs1 (by omega), eL, hc]
end
theorem rawd1 {s : List UInt8} {i : Nat} {b : Bool} (h : rOk (dl s i) = b) : rOk ((spl s [10]).getD (1 + i) []) = b := h
theorem rawd2 {s : List UInt8} {i : Nat} {b : Bool} (h : decide ((dl s i).length ≤ 1000000) = b) : decide (((spl s [10]).getD (1 + i) []).length ≤ 1000000) = b := h
section
variable (m : Int) (te : TypeId) (s : List UInt8) (hs : s.length ≤ 1000000) (h2 : 2 ≤ (spl s [10]).length)
include hs h2
theorem dN_eq : (IntKind.i64.wrap (((spl s [10]).length : Int) - 1)).toNat - 1 = dN s := by
 have := spl_len s 10
 rw [IntWalk.i64_in _ (by omega)]
 unfold dN
 omega
theorem dd_bad (i : Nat) (hi : i < dN s) (H : Hp) (hI : DI s i H) (hp : rOk (dl s i) = false) :
  (M9z m te s).step (.l0 (dN s) i H) = some (.inr (.tup [.agg zC, .int .i64 3])) := by
 have b1 : decide ((i : Int) < (dN s : Int)) = true := decide_eq_true (by omega)
 have b0 : decide ((0 : Int) ≤ i) = true := decide_eq_true (by omega)
 have b3 : decide ((dl s i).length ≤ 1000000) = true := decide_eq_true (by have := spl_piece s 10 (1 + i); show ((spl s [10]).getD (1 + i) []).length ≤ _; omega)
 have ho := obIn_get (k := 7) hI.h0 (by simp [zC])
 have hd : (H.put 0 { obv H 0 with cells := zC ++ List.drop (0 + 7) (obv H 0).cells }).get 0 = some ⟨24, 0, zC⟩ := by
  rw [get_put_same _ (by rw [hI.h0]; rfl), obv_get hI.h0]; rfl
 have hdn := dnC_eq (b := 3) (f6 := .nils) hd rfl rfl rfl rfl rfl rfl rfl
 show step9z_0 m te s _ _ _ = _
 rw [T9z_0]
 ·unfold V9z_0 q9z_0_1 q9z_0_4 q9z_0_5 q9z_0_6
  simp only [Int.toNat_natCast]
  refine congrArg some ?_
  refine tree_eq (fun _ => ?_) (fun e => by rw [b1] at e; cases e)
  refine tree_eq (fun _ => ?_) (fun e => by rw [rawd1 hp] at e; cases e)
  show (Sum.inr ((dnC (H.put 0 { obv H 0 with cells := zC ++ List.drop (0 + 7) (obv H 0).cells }) 3).getD undefT) : S9z ⊕ T) = _
  rw [hdn]; rfl
 ·unfold K9z_0 q9z_0_1 q9z_0_4 q9z_0_5 q9z_0_6
  simp only [Int.toNat_natCast]
  refine tree_eq (fun _ => ?_) (fun e => by rw [b1] at e; cases e)
  refine tree_eq (fun _ => ?_) (fun e => by rw [rawd1 hp] at e; cases e)
  show (allT (g9z_0_1 m te s _ _ H) && (dnC (H.put 0 { obv H 0 with cells := zC ++ List.drop (0 + 7) (obv H 0).cells }) 3).isSome) = true
  rw [hdn]
  simp only [g9z_0_1, Int.toNat_natCast, allT, ho, rawd1 hp, rawd2 b3, dN_eq s hs h2, b1, b0, Bool.and_true, Bool.not_false, Option.isSome_some, k9z_0_0]
theorem dd_next (i : Nat) (hi : i < dN s) (H : Hp) (hI : DI s i H) (hp : rOk (dl s i) = true) :
  ∃ H', (M9z m te s).step (.l0 (dN s) i H) = some (.inl (.l0 (dN s) (i + 1 : Nat) H')) ∧ DI s (i + 1) H' := by
 have hlen := spl_len s 10
 have eN : dN s = (spl s [10]).length - 2 := rfl
 have b1 : decide ((i : Int) < (dN s : Int)) = true := decide_eq_true (by omega)
 have b0 : decide ((0 : Int) ≤ i) = true := decide_eq_true (by omega)
 have b3 : decide ((dl s i).length ≤ 1000000) = true := decide_eq_true (by have := spl_piece s 10 (1 + i); show ((spl s [10]).getD (1 + i) []).length ≤ _; omega)
 have hw := wsucc i (by omega)
 obtain ⟨fv, h1, ⟨rfl, rfl⟩ | ⟨hpos, L, rfl, l0, l1, l2, hL⟩⟩ := hI.h1
 ·have eo := obv_get h1
  have en : (obv H 1).cells.getD 6 undefT = .nils := by rw [eo]; rfl
  have ho := obIn_get (k := 7) h1 (by simp [dX])
  obtain ⟨k1, k2⟩ := hI.next s (Hx := H) (cs := (lnT (rL (dl s 0))).cells) rfl rfl rfl rfl
  refine ⟨_, ?_, k2⟩
  show step9z_0 m te s _ _ _ = _
  rw [T9z_0]
  ·unfold V9z_0 q9z_0_1 q9z_0_4 q9z_0_5 q9z_0_6
   simp only [Int.toNat_natCast]
   refine congrArg some ?_
   refine tree_eq (fun _ => ?_) (fun e => by rw [b1] at e; cases e)
   refine tree_eq (fun e => by rw [rawd1 hp] at e; cases e) (fun _ => ?_)
   refine tree_eq (fun _ => ?_) (fun e => by rw [en] at e; cases e)
   rw [hw]
   rfl
  ·unfold K9z_0 q9z_0_1 q9z_0_4 q9z_0_5 q9z_0_6
   simp only [Int.toNat_natCast]
   refine tree_eq (fun _ => ?_) (fun e => by rw [b1] at e; cases e)
   refine tree_eq (fun e => by rw [rawd1 hp] at e; cases e) (fun _ => ?_)
   refine tree_eq (fun _ => ?_) (fun e => by rw [en] at e; cases e)
   simp only [g9z_0_2, Int.toNat_natCast, allT, en, isNils, ho, rawd1 hp, rawd2 b3, dN_eq s hs h2, b1, b0, Bool.not_false, Bool.not_true, Bool.and_true, Bool.true_and, k9z_0_1, k9z_0_0]
   exact k1
 ·have eo := obv_get h1
  have en : (obv H 1).cells.getD 6 undefT = .osl L 7 0 i := by rw [eo]; rfl
  have eL := obv_get hL
  have ho := obIn_get (k := 7) h1 (by simp [dX])
  have ha : obApp H L 42 7 i = true := by
   unfold obApp
   rw [hL]
   simp only [and_self, if_true]
   exact decide_eq_true (dCs_len s i)
  have hr : roomT (i + 1) 96 = true := by
   unfold roomT
   rw [decide_eq_true (show (i + 1) * 96 ≤ 70368744177664 by omega), decide_eq_true (show i + 1 ≤ 70368744177664 by omega)]
   rfl
  obtain ⟨k1, k2⟩ := hI.next s (Hx := H.drop L) (cs := (obv H L).cells ++ (lnT (rL (dl s i))).cells) rfl (get_drop_ne (fun e => l0 e.symm)) (get_drop_ne (fun e => l1 e.symm)) (by rw [eL, dCs_succ])
  refine ⟨_, ?_, k2⟩
  show step9z_0 m te s _ _ _ = _
  rw [T9z_0]
  ·unfold V9z_0 q9z_0_1 q9z_0_4 q9z_0_5 q9z_0_6
   simp only [Int.toNat_natCast]
   refine congrArg some ?_
   refine tree_eq (fun _ => ?_) (fun e => by rw [b1] at e; cases e)
   refine tree_eq (fun e => by rw [rawd1 hp] at e; cases e) (fun _ => ?_)
   refine tree_eq (fun e => by rw [en] at e; cases e) (fun _ => ?_)
   rw [hw]
   simp only [en]
   rfl
  ·unfold K9z_0 q9z_0_1 q9z_0_4 q9z_0_5 q9z_0_6
   simp only [Int.toNat_natCast]
   refine tree_eq (fun _ => ?_) (fun e => by rw [b1] at e; cases e)
   refine tree_eq (fun e => by rw [rawd1 hp] at e; cases e) (fun _ => ?_)
   refine tree_eq (fun e => by rw [en] at e; cases e) (fun _ => ?_)
   have hos : isOslS 7 (.osl L 7 0 i) = true := rfl
   simp only [g9z_0_3, Int.toNat_natCast, allT, en, oslL, oslN, ha, hr, hos, isNils, ho, rawd1 hp, rawd2 b3, dN_eq s hs h2, b1, b0, Bool.not_false, Bool.not_true, Bool.and_true, Bool.true_and, k9z_0_1, k9z_0_0]
   exact k1
end
end
end Go.Proofs.Tryz

/- balance.Decode: its end. -/
namespace Go.Proofs.Tryz
open Go.Ps
set_option maxRecDepth 100000
structure Agr (s : List UInt8) (c : Ct) : Prop where
 a1 : c.entries = aV (dh s 1)
 a2 : c.accepted = aV (dh s 2)
 a3 : c.delivered = aV (dh s 3)
 a4 : c.waiting = aV (dh s 4)
 a5 : c.letters = aV (dh s 5)
 a6 : c.discarded = aV (dh s 6)
 n : c.n = dN s
 l : ∀ i, i < c.n → c.line i = rL (dl s i)
 z : ∀ i, c.n ≤ i → c.line i = zLn
theorem dCs_at (s : List UInt8) (n : Nat) : ∀ i, i < n → ∀ (q : Nat), q < 7 → (dCs s n).getD (i * 7 + q) undefT = (lnT (rL (dl s i))).cells.getD q undefT := by
 induction n with
 | zero => intro i hi; omega
 | succ n ih =>
  intro i hi q hq
  have hl := dCs_len s n
  rw [dCs_succ]
  by_cases e : i < n
  ·rw [List.getD_eq_getElem?_getD, List.getElem?_append_left (by omega), ← List.getD_eq_getElem?_getD]; exact ih i e q hq
  ·have ei : i = n := by omega
   subst ei
   rw [List.getD_eq_getElem?_getD, List.getElem?_append_right (by omega), ← List.getD_eq_getElem?_getD, show i * 7 + q - (dCs s i).length = q by omega]
theorem dc_line {s : List UInt8} {H : Hp} {L n : Nat} (h : H.get L = some ⟨42, 7, dCs s n⟩) (i : Nat) (hi : i < n) : cellsV H L (i * 7) 7 = (lnT (rL (dl s i))).cells := by
 unfold cellsV
 rw [obv_get h]
 have e := dCs_at s n i hi
 show [(dCs s n).getD (i * 7 + 0) undefT, (dCs s n).getD (i * 7 + 1) undefT, (dCs s n).getD (i * 7 + 2) undefT, (dCs s n).getD (i * 7 + 3) undefT, (dCs s n).getD (i * 7 + 4) undefT, (dCs s n).getD (i * 7 + 5) undefT, (dCs s n).getD (i * 7 + 6) undefT] = _
 rw [e 0 (by omega), e 1 (by omega), e 2 (by omega), e 3 (by omega), e 4 (by omega), e 5 (by omega), e 6 (by omega)]
 rfl
theorem lnv_lnT (x : Ln) : lnv (lnT x) = x := rfl
theorem chunk_at (sz n : Nat) (cs : List T) : ∀ i, i < n → cs.length = n * sz → (chunk sz n cs)[i]? = some (.agg ((cs.drop (i * sz)).take sz)) := by
 induction n generalizing cs with
 | zero => intro i hi; omega
 | succ n ih =>
  intro i hi hl
  cases i with
  | zero => simp [chunk]
  | succ i =>
   simp only [chunk, List.getElem?_cons_succ]
   rw [ih (cs.drop sz) i (by omega) (by rw [List.length_drop, hl, Nat.succ_mul]; omega), List.drop_drop]
   congr 4
   rw [Nat.succ_mul]; omega
theorem row_slf {s : List UInt8} {H : Hp} {L n : Nat} (h : H.get L = some ⟨42, 7, dCs s n⟩) {g : G} {v : Value} (hr : Rd g v (.sl false (chunk 7 n (dCs s n)))) (f : Nat → Ln) (hf : ∀ i, i < n → f i = rL (dl s i)) : Rd g v (.slf false n fun i => lnT (f i)) := by
 have hlen := dCs_len s n
 obtain ⟨c1, c2, c3⟩ := chunk_flat 7 n (dCs s n) hlen
 refine rd_slf2 hr (fun x hx c hc => ?_) c3 (fun i hi => ?_)
 ·have hm : c ∈ (chunk 7 n (dCs s n)).flatMap T.cells := List.mem_flatMap.2 ⟨x, hx, hc⟩
  rw [c1] at hm
  exact dCs_pl s _ c hm
 ·rw [chunk_at 7 n _ i hi hlen, hf i hi]
  have := dc_line h i hi
  rw [cellsV_eq (by rw [obv_get h]; show i * 7 + 7 ≤ (dCs s n).length; omega), obv_get h] at this
  rw [this]; rfl
theorem rd_ct {g : G} {v : Value} {a b c d e f x x' : T} (hx : ∀ u, Rd g u x → Rd g u x') (hr : Rd g v (.agg [a, b, c, d, e, f, x])) : Rd g v (.agg [a, b, c, d, e, f, x']) := by
 cases hr with
 | agg _ vs h1 h2 =>
  refine .agg _ vs (by simpa using h1) (fun j w y hw hy => ?_)
  match j with
  | 0 => exact h2 0 w y hw hy
  | 1 => exact h2 1 w y hw hy
  | 2 => exact h2 2 w y hw hy
  | 3 => exact h2 3 w y hw hy
  | 4 => exact h2 4 w y hw hy
  | 5 => exact h2 5 w y hw hy
  | 6 => simp at hy; subst hy; exact hx w (h2 6 w x hw rfl)
  | n + 7 => simp at hy
section
variable (m : Int) (te : TypeId) (s : List UInt8) (hs : s.length ≤ 1000000) (h2 : 2 ≤ (spl s [10]).length) (hE : ∀ c, Agr s c → encP c)
include hs h2 hE
theorem dd_fin (H : Hp) (hI : DI s (dN s) H) :
  ∃ c r, Agr s c ∧ (M9z m te s).step (.l0 (dN s) (dN s : Nat) H) = some (.inr r) ∧
   ((CheckE c = 0 ∧ enc c = s ∧ ∀ g v, Rd g v r → Rd g v (.tup [ctT c, .int .i64 0])) ∨ (¬ (CheckE c = 0 ∧ enc c = s) ∧ r = .tup [.agg zC, .int .i64 3])) := by
 have b1 : decide ((dN s : Int) < (dN s : Int)) = false := decide_eq_false (by omega)
 obtain ⟨fv, h1, hfv⟩ := hI.h1
 have eo := obv_get h1
 have ho := obIn_get (k := 7) hI.h0 (by simp [zC])
 have ho1 := obIn_get (k := 7) h1 (by simp [dX])
 have hc : [(obv H 1).cells.getD 0 undefT, (obv H 1).cells.getD 1 undefT, (obv H 1).cells.getD 2 undefT, (obv H 1).cells.getD 3 undefT, (obv H 1).cells.getD 4 undefT, (obv H 1).cells.getD 5 undefT, (obv H 1).cells.getD 6 undefT] = dX s fv := by rw [eo]; rfl
 have ec : dcOf H ((obv H 1).cells.getD 0 undefT) ((obv H 1).cells.getD 1 undefT) ((obv H 1).cells.getD 2 undefT) ((obv H 1).cells.getD 3 undefT) ((obv H 1).cells.getD 4 undefT) ((obv H 1).cells.getD 5 undefT) ((obv H 1).cells.getD 6 undefT) =
   ⟨aV (dh s 1), aV (dh s 2), aV (dh s 3), aV (dh s 4), aV (dh s 5), aV (dh s 6), oslN fv, fun i => if i < oslN fv then lnv (.agg (cellsV H (oslL fv) (i * 7) 7)) else zLn⟩ := by rw [eo]; rfl
 obtain ⟨c, hcc⟩ : ∃ c : Ct, c = ⟨aV (dh s 1), aV (dh s 2), aV (dh s 3), aV (dh s 4), aV (dh s 5), aV (dh s 6), oslN fv, fun i => if i < oslN fv then lnv (.agg (cellsV H (oslL fv) (i * 7) 7)) else zLn⟩ := ⟨_, rfl⟩
 rw [← hcc] at ec
 have hAgr : Agr s c := by
  rw [hcc]
  refine ⟨rfl, rfl, rfl, rfl, rfl, rfl, ?_, fun i hi => ?_, fun i hi => if_neg (Nat.not_lt.2 hi)⟩
  ·rcases hfv with ⟨e, rfl⟩ | ⟨_, L, rfl, _⟩
   ·rw [e]; rfl
   ·rfl
  ·rcases hfv with ⟨e, rfl⟩ | ⟨_, L, rfl, _, _, _, hL⟩
   ·exact absurd hi (Nat.not_lt_zero _)
   ·show (if i < _ then lnv (.agg (cellsV H L (i * 7) 7)) else zLn) = _
    rw [if_pos hi]
    rw [dc_line hL i hi]; exact lnv_lnT _
 obtain ⟨f6, hz, hf6⟩ : ∃ f6, (∀ Hd : Hp, (∀ l, l ≠ 0 → Hd.get l = H.get l) → ∀ n, frzT (n + 2) Hd fv = some f6) ∧ ∀ g v, Rd g v f6 → Rd g v (.slf false c.n fun i => lnT (c.line i)) := by
  rcases hfv with ⟨e, rfl⟩ | ⟨_, L, rfl, l0, _, _, hL⟩
  ·refine ⟨.nils, fun Hd _ n => rfl, fun g v hv => ?_⟩
   rw [hAgr.n, e]
   exact rd_nslf _ _ hv
  ·refine ⟨.sl false (chunk 7 (dN s) (dCs s (dN s))), fun Hd hg n => ?_, fun g v hv => ?_⟩
   ·have hlen := dCs_len s (dN s)
    have hdL : Hd.get L = some ⟨42, 7, dCs s (dN s)⟩ := (hg L l0).trans hL
    have et : ((dCs s (dN s)).drop (0 * 7)).take (dN s * 7) = dCs s (dN s) := by
     rw [Nat.zero_mul, List.drop_zero, List.take_of_length_le (by omega)]
    exact frz_osl (n := n + 1) hdL ⟨by omega, rfl, by show (0 + dN s) * 7 ≤ (dCs s (dN s)).length; omega⟩ (by show mapO _ (((dCs s (dN s)).drop (0 * 7)).take (dN s * 7)) = _; rw [et]; exact pl1_map (n := n) (dCs_pl s (dN s))) (by omega)
   ·rw [hAgr.n]
    exact row_slf hL hv c.line (fun i hi => hAgr.l i (by rw [hAgr.n]; exact hi))
 have hct : ∀ g v, Rd g v (.agg (dX s f6)) → Rd g v (ctT c) := by
  intro g v hv
  have := rd_ct (fun u hu => hf6 g u hu) hv
  rw [hcc] at this ⊢
  exact this
 have hLend : LendC H (.agg (dX s fv)) c := by
  intro g v hst hv
  refine hct _ v (frz_ok hst 3 _ _ v ?_ hv)
  have e6 : frzT 2 H fv = some f6 := hz H (fun _ _ => rfl) 0
  show (match mapO (frzT 2 H) (dX s fv) with | some ds => some (T.agg ds) | none => none) = _
  have g1 : ∀ z, frzT 2 H (T.int .i64 z) = some (T.int .i64 z) := fun z => rfl
  simp only [dX, mapO, g1, e6]
 have p1 : pb (LendC H (.agg [(obv H 1).cells.getD 0 undefT, (obv H 1).cells.getD 1 undefT, (obv H 1).cells.getD 2 undefT, (obv H 1).cells.getD 3 undefT, (obv H 1).cells.getD 4 undefT, (obv H 1).cells.getD 5 undefT, (obv H 1).cells.getD 6 undefT]) c) = true := by rw [hc]; exact pb_iff.2 hLend
 have p2 : pb (encP c) = true := pb_iff.2 (hE c hAgr)
 have hdz' : (H.put 0 { obv H 0 with cells := zC ++ List.drop (0 + 7) (obv H 0).cells }).get 0 = some ⟨24, 0, zC⟩ := by
  rw [get_put_same _ (by rw [hI.h0]; rfl), obv_get hI.h0]; rfl
 have hdz := dnC_eq (b := 3) (f6 := .nils) hdz' rfl rfl rfl rfl rfl rfl rfl
 by_cases g0 : CheckE c = 0
 case neg =>
  have g0b : (CheckE c != 0) = true := bne_iff_ne.2 g0
  have g1b : True := trivial
  refine ⟨c, _, hAgr, ?_, .inr ⟨fun h => g0 h.1, rfl⟩⟩
  show step9z_0 m te s _ _ _ = _
  rw [T9z_0]
  ·unfold V9z_0 q9z_0_1 q9z_0_4 q9z_0_5 q9z_0_6
   simp only [Int.toNat_natCast, ec]
   refine congrArg some ?_
   refine tree_eq (fun e => by rw [b1] at e; cases e) (fun _ => ?_)
   refine tree_eq (fun _ => ?_) (fun e => by rw [g0b] at e; cases e)
   show (Sum.inr ((dnC (H.put 0 { obv H 0 with cells := zC ++ List.drop (0 + 7) (obv H 0).cells }) 3).getD undefT) : S9z ⊕ T) = _
   rw [hdz]; rfl
  ·unfold K9z_0 q9z_0_1 q9z_0_4 q9z_0_5 q9z_0_6
   simp only [Int.toNat_natCast, ec]
   refine tree_eq (fun e => by rw [b1] at e; cases e) (fun _ => ?_)
   refine tree_eq (fun _ => ?_) (fun e => by rw [g0b] at e; cases e)
   show (allT (g9z_0_4 m te s _ _ H) && (dnC (H.put 0 { obv H 0 with cells := zC ++ List.drop (0 + 7) (obv H 0).cells }) 3).isSome) = true
   rw [hdz]
   simp only [g9z_0_4, ec, allT, ho, ho1, b1, p1, p2, g0b, g1b, Bool.not_false, Bool.not_true, Bool.and_true, Option.isSome_some, k9z_0_2]
 have g0b : (CheckE c != 0) = false := by rw [g0]; rfl
 have eT : encT c = enc c := if_pos g0
 by_cases g1 : enc c = s
 case neg =>
  have g1b : (encT c == s) = false := by rw [eT, beq_eq_false_iff_ne]; exact g1
  refine ⟨c, _, hAgr, ?_, .inr ⟨fun h => g1 h.2, rfl⟩⟩
  show step9z_0 m te s _ _ _ = _
  rw [T9z_0]
  ·unfold V9z_0 q9z_0_1 q9z_0_4 q9z_0_5 q9z_0_6
   simp only [Int.toNat_natCast, ec]
   refine congrArg some ?_
   refine tree_eq (fun e => by rw [b1] at e; cases e) (fun _ => ?_)
   refine tree_eq (fun e => by rw [g0b] at e; cases e) (fun _ => ?_)
   refine tree_eq (fun _ => ?_) (fun e => by rw [g1b] at e; cases e)
   show (Sum.inr ((dnC (H.put 0 { obv H 0 with cells := zC ++ List.drop (0 + 7) (obv H 0).cells }) 3).getD undefT) : S9z ⊕ T) = _
   rw [hdz]; rfl
  ·unfold K9z_0 q9z_0_1 q9z_0_4 q9z_0_5 q9z_0_6
   simp only [Int.toNat_natCast, ec]
   refine tree_eq (fun e => by rw [b1] at e; cases e) (fun _ => ?_)
   refine tree_eq (fun e => by rw [g0b] at e; cases e) (fun _ => ?_)
   refine tree_eq (fun _ => ?_) (fun e => by rw [g1b] at e; cases e)
   show (allT (g9z_0_5 m te s _ _ H) && (dnC (H.put 0 { obv H 0 with cells := zC ++ List.drop (0 + 7) (obv H 0).cells }) 3).isSome) = true
   rw [hdz]
   simp only [g9z_0_5, ec, allT, ho, ho1, b1, p1, p2, g0b, g1b, Bool.not_false, Bool.not_true, Bool.and_true, Option.isSome_some, k9z_0_3, k9z_0_2]
 have g1b : (encT c == s) = true := by rw [eT, beq_iff_eq]; exact g1
 have hdx' : (H.put 0 { obv H 0 with cells := [(obv H 1).cells.getD 0 undefT, (obv H 1).cells.getD 1 undefT, (obv H 1).cells.getD 2 undefT, (obv H 1).cells.getD 3 undefT, (obv H 1).cells.getD 4 undefT, (obv H 1).cells.getD 5 undefT, (obv H 1).cells.getD 6 undefT] ++ List.drop (0 + 7) (obv H 0).cells }).get 0 = some ⟨24, 0, dX s fv⟩ := by
  rw [get_put_same _ (by rw [hI.h0]; rfl), obv_get hI.h0, hc]
  show some (Ob.mk 24 0 (dX s fv ++ [])) = _
  rw [List.append_nil]
 have hdx := dnC_eq (b := 0) hdx' rfl rfl rfl rfl rfl rfl (hz _ (fun l hl => get_put_ne _ (by rw [hI.h0]; rfl) hl) 16)
 refine ⟨c, .tup [.agg (dX s f6), .int .i64 0], hAgr, ?_, .inl ⟨g0, g1, fun g v hv => rd_tup1 (fun u hu => hct g u hu) hv⟩⟩
 show step9z_0 m te s _ _ _ = _
 rw [T9z_0]
 ·unfold V9z_0 q9z_0_1 q9z_0_4 q9z_0_5 q9z_0_6
  simp only [Int.toNat_natCast, ec]
  refine congrArg some ?_
  refine tree_eq (fun e => by rw [b1] at e; cases e) (fun _ => ?_)
  refine tree_eq (fun e => by rw [g0b] at e; cases e) (fun _ => ?_)
  refine tree_eq (fun e => by rw [g1b] at e; cases e) (fun _ => ?_)
  show (Sum.inr ((dnC (H.put 0 { obv H 0 with cells := [(obv H 1).cells.getD 0 undefT, (obv H 1).cells.getD 1 undefT, (obv H 1).cells.getD 2 undefT, (obv H 1).cells.getD 3 undefT, (obv H 1).cells.getD 4 undefT, (obv H 1).cells.getD 5 undefT, (obv H 1).cells.getD 6 undefT] ++ List.drop (0 + 7) (obv H 0).cells }) 0).getD undefT) : S9z ⊕ T) = _
  rw [hdx]; rfl
 ·unfold K9z_0 q9z_0_1 q9z_0_4 q9z_0_5 q9z_0_6
  simp only [Int.toNat_natCast, ec]
  refine tree_eq (fun e => by rw [b1] at e; cases e) (fun _ => ?_)
  refine tree_eq (fun e => by rw [g0b] at e; cases e) (fun _ => ?_)
  refine tree_eq (fun e => by rw [g1b] at e; cases e) (fun _ => ?_)
  show (allT (g9z_0_6 m te s _ _ H) && (dnC (H.put 0 { obv H 0 with cells := [(obv H 1).cells.getD 0 undefT, (obv H 1).cells.getD 1 undefT, (obv H 1).cells.getD 2 undefT, (obv H 1).cells.getD 3 undefT, (obv H 1).cells.getD 4 undefT, (obv H 1).cells.getD 5 undefT, (obv H 1).cells.getD 6 undefT] ++ List.drop (0 + 7) (obv H 0).cells }) 0).isSome) = true
  rw [hdx]
  have hone : allOne [(obv H 1).cells.getD 0 undefT, (obv H 1).cells.getD 1 undefT, (obv H 1).cells.getD 2 undefT, (obv H 1).cells.getD 3 undefT, (obv H 1).cells.getD 4 undefT, (obv H 1).cells.getD 5 undefT, (obv H 1).cells.getD 6 undefT] = true := by
   rw [hc]
   rcases hfv with ⟨_, rfl⟩ | ⟨_, L, rfl, _⟩ <;> rfl
  simp only [g9z_0_6, ec, allT, hone, ho, ho1, b1, p1, p2, g0b, g1b, Bool.not_false, Bool.not_true, Bool.and_true, Option.isSome_some, k9z_0_3, k9z_0_2]
end
end Go.Proofs.Tryz

/- balance.Decode: its contract. -/
namespace Go.Proofs.Tryz
open Go.Ps
set_option maxRecDepth 100000
section
variable (m : Int) (te : TypeId) (s : List UInt8) (hs : s.length ≤ 1000000)
include hs
theorem dd_run (h2 : 2 ≤ (spl s [10]).length) (hE : dAl s (dN s) 0 = true → ∀ c, Agr s c → encP c) : ∀ (q i : Nat), q + i = dN s → dAl s (dN s) 0 = dAl s q i → ∀ H, DI s i H → ∃ r, Runs (M9z m te s) (.l0 (dN s) (i : Nat) H) r ∧
  ((dAl s q i = false ∧ r = .tup [.agg zC, .int .i64 3]) ∨ (dAl s q i = true ∧ ∃ c, Agr s c ∧ ((CheckE c = 0 ∧ enc c = s ∧ ∀ g v, Rd g v r → Rd g v (.tup [ctT c, .int .i64 0])) ∨ (¬ (CheckE c = 0 ∧ enc c = s) ∧ r = .tup [.agg zC, .int .i64 3])))) := by
 intro q
 induction q with
 | zero =>
  intro i hi hq H hI
  have e : i = dN s := by omega
  subst e
  obtain ⟨c, r, h1, h3, h4⟩ := dd_fin m te s hs h2 (hE hq) H hI
  exact ⟨r, Runs.done h3, .inr ⟨rfl, c, h1, h4⟩⟩
 | succ q ih =>
  intro i hi hq H hI
  cases hp : rOk (dl s i) with
  | false => exact ⟨_, Runs.done (dd_bad m te s hs h2 i (by omega) H hI hp), .inl ⟨by simp [dAl, hp], rfl⟩⟩
  | true =>
   obtain ⟨H', h1, h3⟩ := dd_next m te s hs h2 i (by omega) H hI hp
   simp only [dAl, hp, Bool.true_and] at hq ⊢
   obtain ⟨r, h4, h5⟩ := ih (i + 1) (by omega) hq H' h3
   exact ⟨r, Runs.next h1 h4, h5⟩
theorem dd_K : K9z_s m te s = true := by
 have f1 : decide (s.length < 4294967281) = true := decide_eq_true (by omega)
 have f2 : pb (([32] : List UInt8) ≠ []) = true := pb_iff.2 (by simp)
 have f3 : pb (([10] : List UInt8) ≠ []) = true := pb_iff.2 (by simp)
 have l1 := spl_len s 10
 have l2 := spl_piece s 10 0
 have l3 := spl_len ((spl s [10]).getD 0 []) 32
 have n1 := List.length_pos_iff.2 (spl_join s 10).2
 have n2 := List.length_pos_iff.2 (spl_join ((spl s [10]).getD 0 []) 32).2
 have f4 : decide (((spl s [10]).getD 0 []).length < 4294967281) = true := decide_eq_true (by omega)
 have f5 : decide ((spl ((spl s [10]).getD 0 []) [32]).length - 1 ≤ 1000000) = true := decide_eq_true (by omega)
 have f6 : pb (∀ (i : Nat), i < (spl ((spl s [10]).getD 0 []) [32]).length - 1 → ((spl ((spl s [10]).getD 0 []) [32]).getD (1 + i) []).length ≤ 281474976710656) = true := pb_iff.2 (fun i _ => by have := spl_piece ((spl s [10]).getD 0 []) 32 (1 + i); omega)
 have f7 : decide ((0 : Int) < ((spl s [10]).length : Int)) = true := decide_eq_true (by omega)
 have f8 : decide ((1 : Int) ≤ ((spl ((spl s [10]).getD 0 []) [32]).length : Int)) = true := decide_eq_true (by omega)
 unfold K9z_s
 refine tree_eq (fun e1 => ?_) (fun e1 => ?_)
 ·simp only [g9z_s_1, allT, f1, f2, f3, f4, f5, f6, f7, f8, isV_self, e1, Bool.and_true, Bool.true_and, Bool.not_false, k9z_s_0]
 refine tree_eq (fun e2 => ?_) (fun e2 => ?_)
 ·simp only [g9z_s_2, allT, f1, f2, f3, f4, f5, f6, f7, f8, isV_self, e1, e2, Bool.and_true, Bool.true_and, Bool.not_false, k9z_s_1, k9z_s_0]
 refine tree_eq (fun e3 => ?_) (fun e3 => ?_)
 ·simp only [g9z_s_3, allT, f1, f2, f3, f4, f5, f6, f7, f8, isV_self, e1, e2, e3, Bool.and_true, Bool.true_and, Bool.not_false, k9z_s_2, k9z_s_1, k9z_s_0]
 ·have h2 : 2 ≤ (spl s [10]).length := by have := of_decide_eq_false e3; omega
  have w : IntKind.i64.wrap (((spl s [10]).length : Int) - 1) = ((spl s [10]).length : Int) - 1 := IntWalk.i64_in _ (by omega)
  have g1 : decide ((0 : Int) ≤ ((spl s [10]).length : Int) - 1) = true := decide_eq_true (by omega)
  have g2 : decide (((spl s [10]).length : Int) - 1 ≤ ((spl s [10]).length : Int)) = true := decide_eq_true (by omega)
  have g3 : decide ((1 : Int) ≤ ((((spl s [10]).length : Int) - 1).toNat : Int)) = true := decide_eq_true (by omega)
  have e6 : (nN (fun i => (spl ((spl s [10]).getD 0 []) [32]).getD (1 + i) []) ((spl ((spl s [10]).getD 0 []) [32]).length - 1) : Int) = 6 := by simpa using e2
  have e2' : ((6 : Int) != 6) = false := rfl
  have d0 : decide ((0 : Int) < 6) = true := rfl
  have d1 : decide ((1 : Int) < 6) = true := rfl
  have d2 : decide ((2 : Int) < 6) = true := rfl
  have d3 : decide ((3 : Int) < 6) = true := rfl
  have d4 : decide ((4 : Int) < 6) = true := rfl
  have d5 : decide ((5 : Int) < 6) = true := rfl
  simp only [g9z_s_4, allT, w, g1, g2, g3, e6, e2', d0, d1, d2, d3, d4, d5, f1, f2, f3, f4, f5, f6, f7, f8, isV_self, e1, e3, Bool.and_true, Bool.true_and, Bool.not_false, k9z_s_2, k9z_s_1, k9z_s_0]
theorem dd_V : (dHd s = false ∧ V9z_s m te s = .inr (.tup [.agg zC, .int .i64 3])) ∨
  (dHd s = true ∧ 2 ≤ (spl s [10]).length ∧ ∃ H, V9z_s m te s = .inl (.l0 (dN s) (0 : Nat) H) ∧ DI s 0 H) := by
 cases ha : allR (fun i => (spl ((spl s [10]).getD 0 []) [32]).getD (1 + i) []) ((spl ((spl s [10]).getD 0 []) [32]).length - 1) 0 with
 | false =>
  refine .inl ⟨?_, ?_⟩
  ·have ha' : allR (fun i => dh s (1 + i)) ((dHs s).length - 1) 0 = false := ha
   unfold dHd; rw [ha']; rfl
  ·unfold V9z_s
   rw [if_pos (by rw [ha]; rfl)]; rfl
 | true =>
  have ha' : allR (fun i => dh s (1 + i)) ((dHs s).length - 1) 0 = true := ha
  have c1 : ¬ (!allR (fun i => (spl ((spl s [10]).getD 0 []) [32]).getD (1 + i) []) ((spl ((spl s [10]).getD 0 []) [32]).length - 1) 0) = true := by rw [ha]; decide
  have hN : nN (fun i => (spl ((spl s [10]).getD 0 []) [32]).getD (1 + i) []) ((spl ((spl s [10]).getD 0 []) [32]).length - 1) = (dHs s).length - 1 := by
   unfold nN; rw [ha]; rfl
  by_cases h6 : (dHs s).length - 1 = 6
  case neg =>
   refine .inl ⟨?_, ?_⟩
   ·unfold dHd; rw [ha', decide_eq_false h6]; rfl
   ·unfold V9z_s
    rw [if_neg c1, hN, if_pos (by rw [bne_iff_ne]; omega)]; rfl
  have c2 : ¬ ((((dHs s).length - 1 : Nat) : Int) != 6) = true := by rw [h6]; decide
  by_cases h2 : 2 ≤ (spl s [10]).length
  case neg =>
   refine .inl ⟨?_, ?_⟩
   ·unfold dHd; rw [ha', decide_eq_true h6, decide_eq_false h2]; rfl
   ·unfold V9z_s
    rw [if_neg c1, hN, if_neg c2, if_pos (decide_eq_true (by omega))]; rfl
  refine .inr ⟨?_, h2, ?_⟩
  ·unfold dHd; rw [ha', decide_eq_true h6, decide_eq_true h2]; rfl
  ·have c3 : ¬ decide (((spl s [10]).length : Int) < 2) = true := by rw [decide_eq_false (by omega)]; decide
   unfold V9z_s
   rw [if_neg c1, hN, if_neg c2, if_neg c3, dN_eq s hs h2]
   exact ⟨_, rfl, ⟨rfl, Nat.le_refl 2, ⟨.nils, rfl, .inl ⟨rfl, rfl⟩⟩⟩⟩
end
def zeroCt : Ct := ⟨0, 0, 0, 0, 0, 0, 0, fun _ => ⟨⟨0, 0, fun _ => 0⟩, 0, 0, fun _ => ⟨0, 0, fun _ => 0⟩, 0, 0, []⟩⟩
theorem decode_ok {m : Int} {te : TypeId} (s : List UInt8) (hs : s.length ≤ 1000000) (hE : dOk s = true → ∀ c, Agr s c → encP c) :
  (∃ c, dOk s = true ∧ Agr s c ∧ CheckE c = 0 ∧ enc c = s ∧ PureFn prog (gl1 m te) 9 [.str s] (.tup [ctT c, .int .i64 0])) ∨
  ((dOk s = false ∨ ∃ c, Agr s c ∧ ¬ (CheckE c = 0 ∧ enc c = s)) ∧ PureFn prog (gl1 m te) 9 [.str s] (.tup [ctT zeroCt, .int .i64 3])) := by
 have hK := dd_K m te s hs
 have bad : PureFn prog (gl1 m te) 9 [.str s] (.tup [.agg zC, .int .i64 3]) → PureFn prog (gl1 m te) 9 [.str s] (.tup [ctT zeroCt, .int .i64 3]) := fun hp =>
  hp.mono fun g v hv => rd_tup1 (fun u hu => rd_ct (fun w hw => rd_nslf _ _ hw) hu) hv
 rcases dd_V m te s hs with ⟨h1, h3⟩ | ⟨h1, h2, H, h3, hI⟩
 ·exact .inr ⟨.inl (by unfold dOk; rw [h1]; rfl), bad (c9z m te s 0 hK (by rw [h3]; rfl))⟩
 ·have eO : dOk s = dAl s (dN s) 0 := by unfold dOk; rw [h1]; rfl
  obtain ⟨r, ⟨n, hn⟩, hr⟩ := dd_run m te s hs h2 (fun h => hE (eO.trans h)) (dN s) 0 (by omega) rfl H hI
  have hp := c9z m te s n hK (by rw [h3]; exact hn)
  rcases hr with ⟨ha, rfl⟩ | ⟨ha, c, hA, ⟨g0, g1, hf⟩ | ⟨hn', rfl⟩⟩
  ·exact .inr ⟨.inl (eO.trans ha), bad hp⟩
  ·exact .inl ⟨c, eO.trans ha, hA, g0, g1, hp.mono hf⟩
  ·exact .inr ⟨.inr ⟨c, hA, hn'⟩, bad hp⟩
end Go.Proofs.Tryz

/- A text of at most 1000 bytes that decodes holds a small certificate. -/
namespace Go.Proofs.Tryz
open Go.Ps
theorem sumL_drop : ∀ (a : Nat) (ps : List (List UInt8)), sumL (ps.drop a) ≤ sumL ps
 | 0, ps => by simp
 | a + 1, [] => by simp
 | a + 1, p :: r => by have := sumL_drop a r; simp only [List.drop_succ_cons, sumL]; omega
theorem sumL_take : ∀ (a : Nat) (ps : List (List UInt8)), sumL (ps.take a) ≤ sumL ps
 | 0, ps => by simp [sumL]
 | a + 1, [] => by simp
 | a + 1, p :: r => by have := sumL_take a r; simp only [List.take_succ_cons, sumL]; omega
theorem spl_sum (t : List UInt8) (b : UInt8) : t.length + 1 = sumL (spl t [b]) := by
 have h := spl_join t b
 have := joinL_sum b _ h.2
 rw [h.1] at this; exact this
theorem nOk_ne {x : List UInt8} (h : nOk x = true) : x ≠ [] := by
 rintro rfl
 unfold nOk aOk aE at h
 simp [Lib.atoiAll, isNi, errT] at h
theorem rOk_len {x : List UInt8} (h : rOk x = true) : 10 ≤ x.length := by
 unfold rOk rHd at h
 simp only [Bool.and_eq_true, decide_eq_true_eq] at h
 have h7 := h.1.1
 have h0 := h.1.2.1
 have hs := spl_sum x 32
 unfold rP at h0
 match hq : spl x [32], h7, h0, hs with
 | [a, b, c, d, e, f, g], _, h0, hs =>
  have : a.length = 4 := by
   have : a = [108, 105, 110, 101] := h0
   rw [this]; rfl
  simp only [sumL] at hs
  omega
theorem pOk_len {x : List UInt8} (h : pOk x = true) : 3 ≤ x.length := by
 unfold pOk at h
 simp only [Bool.and_eq_true] at h
 have h1 := nOk_ne h.1
 have h2 : tlB x ≠ [] := by
  intro e
  have := h.2.1
  rw [e] at this
  have hm : (ByteArray.mk #[]) ∈ pcs [] := by unfold pcs; simp [Lib.splitB]
  have := List.all_eq_true.1 this _ hm
  exact nOk_ne this rfl
 unfold hdB at h1
 unfold tlB at h2
 unfold Lib.cut at h1 h2
 split at h2
 ·rename_i hge
  rw [if_pos hge] at h1
  have a1 : (x.take (Lib.index x [47]).toNat).length ≠ 0 := fun e => h1 (List.length_eq_zero_iff.1 e)
  have a2 : (x.drop ((Lib.index x [47]).toNat + [47].length)).length ≠ 0 := fun e => h2 (List.length_eq_zero_iff.1 e)
  simp only [List.length_take, List.length_drop, List.length_cons, List.length_nil] at a1 a2
  omega
 ·exact absurd rfl h2
theorem rAl_at {s : List UInt8} : ∀ (q i : Nat), rAl s q i = true → ∀ j, i ≤ j → j < i + q → pOk (rq s j) = true
 | 0, i, _, j, h1, h2 => by omega
 | q + 1, i, h, j, h1, h2 => by
  simp only [rAl, Bool.and_eq_true] at h
  by_cases e : j = i
  ·subst e; exact h.1
  ·exact rAl_at q (i + 1) h.2 j (by omega) (by omega)
theorem dAl_at {s : List UInt8} : ∀ (q i : Nat), dAl s q i = true → ∀ j, i ≤ j → j < i + q → rOk (dl s j) = true
 | 0, i, _, j, h1, h2 => by omega
 | q + 1, i, h, j, h1, h2 => by
  simp only [dAl, Bool.and_eq_true] at h
  by_cases e : j = i
  ·subst e; exact h.1
  ·exact dAl_at q (i + 1) h.2 j (by omega) (by omega)
theorem rK_le {x : List UInt8} (h : rOk x = true) (hx : x.length ≤ 1000) : rK x ≤ 300 := by
 unfold rK
 split
 ·omega
 ·rename_i h6
  unfold rOk at h
  simp only [Bool.and_eq_true] at h
  have h2 := h.2
  rw [if_neg h6] at h2
  have hge := sumL_ge 3 (rQ x) (fun p hp => by
   obtain ⟨j, hj, e⟩ := List.getElem_of_mem hp
   have := rAl_at _ 0 h2 j (by omega) (by omega)
   unfold rq at this
   rw [List.getD_eq_getElem?_getD, List.getElem?_eq_getElem hj, e] at this
   exact pOk_len this)
  have hsum := spl_sum (rP x 6) 44
  have hp := spl_piece x 32 6
  have e1 : rQ x = spl (rP x 6) [44] := rfl
  have e2 : rP x 6 = (spl x [32]).getD 6 [] := rfl
  rw [e1] at hge ⊢
  rw [← e2] at hp
  omega
theorem pS_len (x : List UInt8) : (pS x).n ≤ x.length + 1 := by
 unfold pS
 split
 ·show (pcs (tlB x)).length ≤ _
  have h1 := splitB_len ⟨#[46]⟩ (by decide) (tlB x).length ⟨(tlB x).toArray⟩
  have h2 : (⟨(tlB x).toArray⟩ : ByteArray).size = (tlB x).length := by show (tlB x).toArray.size = _; simp
  have h3 : (tlB x).length ≤ x.length := by
   unfold tlB Lib.cut
   split
   ·simp only [List.length_drop]; omega
   ·simp
  unfold pcs
  omega
 ·exact Nat.zero_le _
theorem allR_at {f : Nat → List UInt8} : ∀ (q i : Nat), allR f q i = true → ∀ j, i ≤ j → j < i + q → aOk (f j) = true
 | 0, i, _, j, h1, h2 => by omega
 | q + 1, i, h, j, h1, h2 => by
  simp only [allR] at h
  split at h
  ·rename_i h0
   by_cases e : j = i
   ·subst e; exact h0
   ·exact allR_at q (i + 1) h j (by omega) (by omega)
  ·cases h
theorem enc_small (s : List UInt8) (hs : s.length ≤ 1000) (hd : dOk s = true) (c : Ct) (hA : Agr s c) : encP c := by
 unfold dOk dHd at hd
 simp only [Bool.and_eq_true, decide_eq_true_eq] at hd
 obtain ⟨⟨ha, h6, h2⟩, hl⟩ := hd
 have hrk : ∀ j, j < dN s → rOk (dl s j) = true := fun j hj => dAl_at _ 0 hl j (by omega) (by omega)
 have hdl : ∀ j, (dl s j).length ≤ s.length := fun j => spl_piece s 10 (1 + j)
 have hn : dN s ≤ 100 := by
  have hsum := spl_sum s 10
  have h3 := sumL_take (dN s) ((spl s [10]).drop 1)
  have h4 := sumL_drop 1 (spl s [10])
  have hlen : (((spl s [10]).drop 1).take (dN s)).length = dN s := by
   rw [List.length_take, List.length_drop]; unfold dN; omega
  have hge := sumL_ge 10 (((spl s [10]).drop 1).take (dN s)) (fun p hp => by
   obtain ⟨j, hj, e⟩ := List.getElem_of_mem hp
   rw [hlen] at hj
   have := hrk j hj
   refine rOk_len (x := p) ?_
   rw [← e]
   have e2 : (((spl s [10]).drop 1).take (dN s))[j]'(by rw [hlen]; exact hj) = dl s j := by
    rw [List.getElem_take, List.getElem_drop]
    unfold dl dP
    rw [List.getD_eq_getElem?_getD, List.getElem?_eq_getElem (by unfold dN at hj; omega)]; rfl
   rw [e2]; exact this)
  rw [hlen] at hge
  omega
 have hline : ∀ i, i < c.n → c.line i = rL (dl s i) := hA.l
 have hN := hA.n
 refine ⟨⟨by omega, fun i hi => ?_⟩, fun i hi => ?_, fun z hz => ?_⟩
 ·rw [hline i hi]
  have hr := hrk i (by omega)
  have hx := hdl i
  unfold rL
  rw [hr]
  refine ⟨rK_le hr (by omega), ?_, fun k hk => ?_⟩
  ·have h1 := pS_len (rP (dl s i) 1)
   have h5 := spl_piece (dl s i) 32 1
   show (pS (rP (dl s i) 1)).n ≤ 1001
   have e : rP (dl s i) 1 = (spl (dl s i) [32]).getD 1 [] := rfl
   rw [← e] at h5
   omega
  ·have h1 := pS_len (rq (dl s i) k)
   have h5 := spl_piece (rP (dl s i) 6) 44 k
   have h7 := spl_piece (dl s i) 32 6
   show (pS (rq (dl s i) k)).n ≤ 1001
   have e : rP (dl s i) 6 = (spl (dl s i) [32]).getD 6 [] := rfl
   have e' : rq (dl s i) k = (spl (rP (dl s i) 6) [44]).getD k [] := rfl
   rw [← e'] at h5
   rw [← e] at h7
   omega
 ·rw [hline i hi]
  have hr := hrk i (by omega)
  have hx := hdl i
  unfold rL
  rw [hr]
  show (rNd (dl s i)).length ≤ 1000000
  unfold rNd
  split
  ·simp
  ·have h5 := spl_piece (dl s i) 32 5
   have e : rP (dl s i) 5 = (spl (dl s i) [32]).getD 5 [] := rfl
   rw [← e] at h5
   omega
 ·have hv : ∀ j, 1 ≤ j → j ≤ 6 → -9223372036854775808 ≤ aV (dh s j) ∧ aV (dh s j) ≤ 9223372036854775807 := fun j h1 h5 => by
   have := allR_at _ 0 ha (j - 1) (by omega) (by omega)
   rw [show 1 + (j - 1) = j by omega] at this
   exact aV_range _ this
  simp only [List.mem_cons, List.not_mem_nil, or_false, hA.a1, hA.a2, hA.a3, hA.a4, hA.a5, hA.a6] at hz
  rcases hz with rfl | rfl | rfl | rfl | rfl | rfl <;> exact hv _ (by omega) (by omega)
end Go.Proofs.Tryz

/- sameStamps as a machine, by program (gen2). -/
namespace Go.Proofs.Tryz
noncomputable section
open Go.Ps
set_option maxRecDepth 100000
/-! ### 52 -/
inductive S52z where
 | l0 (x5 : Int)
def g52z_s_1 (n1 : Nat) (f1 : Nat → Sp) (n2 : Nat) (f2 : Nat → Sp) : List Bool := [(↑n1 : Int) != (↑n2 : Int)]
def g52z_s_2 (n1 : Nat) (f1 : Nat → Sp) (n2 : Nat) (f2 : Nat → Sp) : List Bool := [!(↑n1 : Int) != (↑n2 : Int)]
def k52z_0_0 (n1 : Nat) (f1 : Nat → Sp) (n2 : Nat) (f2 : Nat → Sp) (x5 : Int) : List Bool := let y0 := decide (0 ≤ x5); let y1 := decide (x5 < (↑n1 : Int)); [isV (spT (f1 x5.toNat)) (spT (f1 x5.toNat)), isV (spT (f2 x5.toNat)) (spT (f2 x5.toNat)), decide ((f1 x5.toNat).n ≤ 281474976710656), y0, decide (x5 < (↑n2 : Int)), true, y0, y1, true, y1]
def g52z_0_1 (n1 : Nat) (f1 : Nat → Sp) (n2 : Nat) (f2 : Nat → Sp) (x5 : Int) : List Bool := (!eqS (f1 x5.toNat) (f2 x5.toNat)) :: k52z_0_0 n1 f1 n2 f2 x5
def g52z_0_2 (n1 : Nat) (f1 : Nat → Sp) (n2 : Nat) (f2 : Nat → Sp) (x5 : Int) : List Bool := (!!eqS (f1 x5.toNat) (f2 x5.toNat)) :: k52z_0_0 n1 f1 n2 f2 x5
def g52z_0_3 (n1 : Nat) (f1 : Nat → Sp) (n2 : Nat) (f2 : Nat → Sp) (x5 : Int) : List Bool := [!decide (x5 < (↑n1 : Int))]
def V52z_0 (n1 : Nat) (f1 : Nat → Sp) (n2 : Nat) (f2 : Nat → Sp) (x5 : Int) : S52z ⊕ T :=
 (if decide (x5 < (↑n1 : Int)) then (if !eqS (f1 x5.toNat) (f2 x5.toNat) then (.inr ((T.bool false))) else (.inl (.l0 (IntKind.i64.wrap (x5 + 1))))) else (.inr ((T.bool true))))
def K52z_0 (n1 : Nat) (f1 : Nat → Sp) (n2 : Nat) (f2 : Nat → Sp) (x5 : Int) : Bool :=
 (if decide (x5 < (↑n1 : Int)) then (if !eqS (f1 x5.toNat) (f2 x5.toNat) then (allT (g52z_0_1 n1 f1 n2 f2 x5)) else (allT (g52z_0_2 n1 f1 n2 f2 x5))) else (allT (g52z_0_3 n1 f1 n2 f2 x5)))
def step52z_0 (n1 : Nat) (f1 : Nat → Sp) (n2 : Nat) (f2 : Nat → Sp) (x5 : Int) : Option (S52z ⊕ T) := if K52z_0 n1 f1 n2 f2 x5 then some (V52z_0 n1 f1 n2 f2 x5) else none
theorem T52z_0 (n1 : Nat) (f1 : Nat → Sp) (n2 : Nat) (f2 : Nat → Sp) (x5 : Int) (hk : K52z_0 n1 f1 n2 f2 x5 = true) : step52z_0 n1 f1 n2 f2 x5 = some (V52z_0 n1 f1 n2 f2 x5) := if_pos hk
def V52z_s (n1 : Nat) (f1 : Nat → Sp) (n2 : Nat) (f2 : Nat → Sp) : S52z ⊕ T :=
 (if (↑n1 : Int) != (↑n2 : Int) then (.inr ((T.bool false))) else (.inl (.l0 0)))
def K52z_s (n1 : Nat) (f1 : Nat → Sp) (n2 : Nat) (f2 : Nat → Sp) : Bool :=
 (if (↑n1 : Int) != (↑n2 : Int) then (allT (g52z_s_1 n1 f1 n2 f2)) else (allT (g52z_s_2 n1 f1 n2 f2)))
def step52z (n1 : Nat) (f1 : Nat → Sp) (n2 : Nat) (f2 : Nat → Sp) : S52z → Option (S52z ⊕ T)
 | .l0 x5 => step52z_0 n1 f1 n2 f2 x5
def M52z (n1 : Nat) (f1 : Nat → Sp) (n2 : Nat) (f2 : Nat → Sp) : Mch S52z where
 lp := fun σ => match σ with
  | .l0 .. => 0
 keep := fun ι => match ι with
  | 0 => [0, 1, 5]
  | _ => []
 par := fun ι => match ι with
  | 0 => []
  | _ => []
 vs := fun σ => match σ with
  | .l0 x5 => [T.slf false n1 fun i => spT (f1 i), T.slf false n2 fun i => spT (f2 i), T.int .i64 x5]
 hp := fun σ => match σ with
  | .l0 _ => ⟨0, []⟩
 len := 27
 step := step52z n1 f1 n2 f2
def r52z_0 (n1 : Nat) (f1 : Nat → Sp) (n2 : Nat) (f2 : Nat → Sp) (x5 : Int) (fr : List T) (ds : List Bool) : RD Out := (M52z n1 f1 n2 f2).rk prog D20 F0 f52 (.l0 x5) fr ds
theorem w52z_0_1 (n1 : Nat) (f1 : Nat → Sp) (n2 : Nat) (f2 : Nat → Sp) (x5 : Int) (fr : List T) : outK prog f52 20 [] (r52z_0 n1 f1 n2 f2 x5 fr [true, true]) = wdn (T.bool false) (g52z_0_1 n1 f1 n2 f2 x5) := by kernel_rfl
theorem w52z_0_2 (n1 : Nat) (f1 : Nat → Sp) (n2 : Nat) (f2 : Nat → Sp) (x5 : Int) (fr : List T) : (M52z n1 f1 n2 f2).wa prog f52 (r52z_0 n1 f1 n2 f2 x5 fr [true, false]) 0 (g52z_0_2 n1 f1 n2 f2 x5) (.l0 (IntKind.i64.wrap (x5 + 1))) := by unfold Mch.wa; kernel_rfl
theorem w52z_0_3 (n1 : Nat) (f1 : Nat → Sp) (n2 : Nat) (f2 : Nat → Sp) (x5 : Int) (fr : List T) : outK prog f52 20 [] (r52z_0 n1 f1 n2 f2 x5 fr [false]) = wdn (T.bool true) (g52z_0_3 n1 f1 n2 f2 x5) := by kernel_rfl
def r52z_s (n1 : Nat) (f1 : Nat → Sp) (n2 : Nat) (f2 : Nat → Sp) (ds : List Bool) : RD Out := runK prog D20 F0 2000 (.code (bodyOf f52)) [] 0 ([ssT n1 f1, ssT n2 f2] ++ List.replicate 25 undefT) ⟨0, []⟩ ds []
theorem w52z_s_1 (n1 : Nat) (f1 : Nat → Sp) (n2 : Nat) (f2 : Nat → Sp) : outK prog f52 20 [] (r52z_s n1 f1 n2 f2 [true]) = wdn (T.bool false) (g52z_s_1 n1 f1 n2 f2) := by kernel_rfl
theorem w52z_s_2 (n1 : Nat) (f1 : Nat → Sp) (n2 : Nat) (f2 : Nat → Sp) : (M52z n1 f1 n2 f2).wl prog f52 (r52z_s n1 f1 n2 f2 [false]) 0 (g52z_s_2 n1 f1 n2 f2) (.l0 0) := by unfold Mch.wl; kernel_rfl
theorem ways52z (n1 : Nat) (f1 : Nat → Sp) (n2 : Nat) (f2 : Nat → Sp) : (M52z n1 f1 n2 f2).Ways prog D20 F0 f52 20 := by
 intro σ o fr h
 cases σ with
 | l0 x5 =>
  obtain ⟨hk, ho⟩ := kv_some (K := K52z_0 n1 f1 n2 f2 x5) (V := V52z_0 n1 f1 n2 f2 x5) h
  exact (wk_if (wk_if (kD (w52z_0_1 n1 f1 n2 f2 x5 fr)) (kA (w52z_0_2 n1 f1 n2 f2 x5 fr) rfl)) (kD (w52z_0_3 n1 f1 n2 f2 x5 fr))) hk o ho
theorem oks52z (n1 : Nat) (f1 : Nat → Sp) (n2 : Nat) (f2 : Nat → Sp) : ∀ σ, Ps.codeOk (loopAt f52 ((M52z n1 f1 n2 f2).lp σ)).1 = true ∧ ksOk (.lp :: (loopAt f52 ((M52z n1 f1 n2 f2).lp σ)).2) = true := oks_of 1 (by kernel_rfl) (by intro σ; cases σ <;> exact Nat.le_of_ble_eq_true rfl)
theorem c52z (n1 : Nat) (f1 : Nat → Sp) (n2 : Nat) (f2 : Nat → Sp) (n : Nat) {r : T} (hk : K52z_s n1 f1 n2 f2 = true) (hr : (M52z n1 f1 n2 f2).fin n (V52z_s n1 f1 n2 f2) = some r) : PureFn prog gl 52 [ssT n1 f1, ssT n2 f2] r :=
 pure_mach (M := (M52z n1 f1 n2 f2)) (fn := f52) (k := 20) (d := 8) (c := bodyOf f52) cx20 glFrz (by kernel_rfl) func52 (by kernel_rfl) rfl (by kernel_rfl) (by kernel_rfl) (L := 25) (by kernel_rfl) (ways52z n1 f1 n2 f2) (oks52z n1 f1 n2 f2) ((wk_if (kD (w52z_s_1 n1 f1 n2 f2)) (kL (w52z_s_2 n1 f1 n2 f2) rfl)) hk _ rfl) hr
end
end Go.Proofs.Tryz

/- sameStamps of the law: the contract. -/
namespace Go.Proofs.Tryz
open Go.Ps
set_option maxRecDepth 100000
def alR (p : Nat → Bool) : Nat → Nat → Bool
 | 0, _ => true
 | q + 1, i => if p i then alR p q (i + 1) else false
def smS (n1 : Nat) (f1 : Nat → Sp) (n2 : Nat) (f2 : Nat → Sp) : Bool := if n1 = n2 then alR (fun i => eqS (f1 i) (f2 i)) n1 0 else false
theorem sameStamps_ok (n1 : Nat) (f1 : Nat → Sp) (n2 : Nat) (f2 : Nat → Sp) (hn : n1 ≤ 1000000) (h1 : ∀ i, i < n1 → (f1 i).n ≤ 281474976710656) (h2 : ∀ i, i < n2 → (f2 i).n ≤ 281474976710656) :
  PureFn prog gl 52 [ssT n1 f1, ssT n2 f2] (.bool (smS n1 f1 n2 f2)) := by
 by_cases e : n1 = n2
 ·subst e
  have e0 : ((n1 : Int) != n1) = false := by simp
  have run : ∀ (q i : Nat), q + i = n1 → Runs (M52z n1 f1 n1 f2) (.l0 i) (.bool (alR (fun i => eqS (f1 i) (f2 i)) q i)) := by
   intro q
   induction q with
   | zero =>
    intro i hi
    have : i = n1 := by omega
    subst this
    have b0 : decide ((i : Int) < i) = false := decide_eq_false (by omega)
    refine .done ?_
    show step52z_0 i f1 i f2 i = _
    rw [T52z_0 i f1 i f2 i (by unfold K52z_0; rw [b0]; simp only [g52z_0_3, allT, b0, Bool.not_false, Bool.and_true, Bool.false_eq_true, if_false])]
    unfold V52z_0
    rw [b0]; rfl
   | succ q ih =>
    intro i hi
    have b1 : decide ((i : Int) < n1) = true := decide_eq_true (by omega)
    have b2 : decide ((0 : Int) ≤ i) = true := decide_eq_true (by omega)
    have b3 : decide ((f1 i).n ≤ 281474976710656) = true := decide_eq_true (h1 i (by omega))
    have b4 : decide ((f2 i).n ≤ 281474976710656) = true := decide_eq_true (h2 i (by omega))
    have b5 := wsucc i (by omega)
    have hst : (M52z n1 f1 n1 f2).step (.l0 i) = some (V52z_0 n1 f1 n1 f2 i) := by
     show step52z_0 n1 f1 n1 f2 i = _
     refine T52z_0 n1 f1 n1 f2 i ?_
     unfold K52z_0
     simp only [Int.toNat_natCast]
     rw [if_pos b1]
     refine tree_eq (fun e => ?_) (fun e => ?_) <;> simp only [g52z_0_1, g52z_0_2, Int.toNat_natCast, allT, isV_self, b1, b2, b3, b4, e, Bool.not_false, Bool.and_true, k52z_0_0]
    unfold V52z_0 at hst
    simp only [Int.toNat_natCast] at hst
    rw [if_pos b1, b5] at hst
    unfold alR
    cases hb : eqS (f1 i) (f2 i) with
    | false => simp only [hb, Bool.not_false, Bool.not_true, if_true, Bool.false_eq_true, if_false] at hst ⊢; exact .done hst
    | true => simp only [hb, Bool.not_false, Bool.not_true, if_true, Bool.false_eq_true, if_false] at hst ⊢; exact .next hst (ih (i + 1) (by omega))
  obtain ⟨n, hr⟩ := run n1 0 (by omega)
  unfold smS
  rw [if_pos rfl]
  refine c52z n1 f1 n1 f2 n ?_ ?_
  ·unfold K52z_s; rw [e0]; simp only [g52z_s_2, allT, e0, Bool.not_false, Bool.and_true, Bool.false_eq_true, if_false]
  ·unfold V52z_s; rw [e0]; exact hr
 ·have e0 : ((n1 : Int) != n2) = true := bne_iff_ne.2 (by omega)
  unfold smS
  rw [if_neg e]
  refine c52z n1 f1 n2 f2 0 ?_ ?_
  ·unfold K52z_s; rw [e0]; simp only [g52z_s_1, allT, e0, Bool.and_true, if_true]
  ·unfold V52z_s; rw [e0]; rfl
def mdL (x : Ln) : Prop := x.st.n ≤ 1000000 ∧ x.k ≤ 1000000 ∧ ∀ i, i < x.k → (x.from_ i).n ≤ 1000000
noncomputable def s52z : List T → Option (T × List Bool)
 | [t, u] => some (.bool (smS (slN t) (ssv t) (slN u) (ssv u)), [isV t (ssT (slN t) (ssv t)), isV u (ssT (slN u) (ssv u)), pb (slN t ≤ 1000000 ∧ (∀ i, i < slN t → (ssv t i).n ≤ 281474976710656) ∧ ∀ i, i < slN u → (ssv u i).n ≤ 281474976710656)])
 | _ => none
theorem s52z_ok (ts : List T) (r : T) (cs : List Bool) (h : s52z ts = some (r, cs)) (hc : allT cs = true) : PureFn prog gl 52 ts r := by
 unfold s52z at h
 split at h
 ·rename_i t u
  cases h
  simp only [allT, Bool.and_true, Bool.and_eq_true, isV_iff, pb_iff] at hc
  obtain ⟨e1, e2, e3, e4, e5⟩ := hc
  have := sameStamps_ok (slN t) (ssv t) (slN u) (ssv u) e3 e4 e5
  rw [← e1, ← e2] at this
  exact this
 ·cases h
noncomputable def D41 : Ed := ⟨gl, pdAdd 52 s52z D20.pd⟩
theorem cx41 : Cx prog D41 F0 := ⟨follows, pdAdd_ok cx20.hE s52z_ok, F0ok⟩
end Go.Proofs.Tryz

/- sameLine as a tree, by program (gen2). -/
namespace Go.Proofs.Tryz
noncomputable section
open Go.Ps
set_option maxRecDepth 100000
/-! ### 31 -/
def k31z_s_0 (x y : Ln) : List Bool := [isV (spT x.st) (spT x.st), isV (spT y.st) (spT y.st), decide (x.st.n ≤ 281474976710656)]
def k31z_s_1 (x y : Ln) : List Bool := let y0 := eqS x.st y.st; y0 :: y0 :: y0 :: y0 :: y0 :: y0 :: k31z_s_0 x y
def k31z_s_2 (x y : Ln) : List Bool := let y0 := x.mass == y.mass; y0 :: (isV (T.slf false x.k fun i => spT (x.from_ i)) (ssT x.k x.from_)) :: (isV (T.slf false y.k fun i => spT (y.from_ i)) (ssT y.k y.from_)) :: (pb (x.k ≤ 1000000 ∧ (∀ (i : Nat), i < x.k → (x.from_ i).n ≤ 281474976710656) ∧ ∀ (i : Nat), i < y.k → (y.from_ i).n ≤ 281474976710656)) :: y0 :: y0 :: y0 :: y0 :: y0 :: k31z_s_1 x y
def k31z_s_3 (x y : Ln) : List Bool := let y0 := smS x.k x.from_ y.k y.from_; y0 :: y0 :: y0 :: y0 :: y0 :: y0 :: k31z_s_2 x y
def k31z_s_4 (x y : Ln) : List Bool := let y0 := x.fate == y.fate; y0 :: y0 :: y0 :: y0 :: y0 :: y0 :: k31z_s_3 x y
def g31z_s_1 (x y : Ln) : List Bool := let y0 := x.closed == y.closed; y0 :: y0 :: y0 :: y0 :: y0 :: y0 :: k31z_s_4 x y
def g31z_s_2 (x y : Ln) : List Bool := let y0 := x.closed == y.closed; (!y0) :: (!y0) :: (!y0) :: (!y0) :: (!y0) :: (!y0) :: k31z_s_4 x y
def g31z_s_3 (x y : Ln) : List Bool := let y0 := x.fate == y.fate; true :: true :: true :: true :: true :: true :: (!y0) :: (!y0) :: (!y0) :: (!y0) :: (!y0) :: (!y0) :: k31z_s_3 x y
def g31z_s_4 (x y : Ln) : List Bool := let y0 := smS x.k x.from_ y.k y.from_; true :: true :: true :: true :: true :: true :: true :: true :: true :: true :: true :: true :: (!y0) :: (!y0) :: (!y0) :: (!y0) :: (!y0) :: (!y0) :: k31z_s_2 x y
def g31z_s_5 (x y : Ln) : List Bool := let y0 := x.mass == y.mass; true :: true :: true :: true :: true :: true :: true :: true :: true :: true :: true :: true :: true :: true :: true :: true :: true :: true :: (!y0) :: (!y0) :: (!y0) :: (!y0) :: (!y0) :: (!y0) :: k31z_s_1 x y
def g31z_s_6 (x y : Ln) : List Bool := let y0 := eqS x.st y.st; true :: true :: true :: true :: true :: true :: true :: true :: true :: true :: true :: true :: true :: true :: true :: true :: true :: true :: true :: true :: true :: true :: true :: true :: (!y0) :: (!y0) :: (!y0) :: (!y0) :: (!y0) :: (!y0) :: k31z_s_0 x y
def V31z_s (x y : Ln) : Empty ⊕ T :=
 (if eqS x.st y.st then (if x.mass == y.mass then (if smS x.k x.from_ y.k y.from_ then (if x.fate == y.fate then (if x.closed == y.closed then (.inr ((T.bool (x.node == y.node)))) else (.inr ((T.bool false)))) else (.inr ((T.bool false)))) else (.inr ((T.bool false)))) else (.inr ((T.bool false)))) else (.inr ((T.bool false))))
def K31z_s (x y : Ln) : Bool :=
 (if eqS x.st y.st then (if x.mass == y.mass then (if smS x.k x.from_ y.k y.from_ then (if x.fate == y.fate then (if x.closed == y.closed then (allT (g31z_s_1 x y)) else (allT (g31z_s_2 x y))) else (allT (g31z_s_3 x y))) else (allT (g31z_s_4 x y))) else (allT (g31z_s_5 x y))) else (allT (g31z_s_6 x y)))
def r31z_s (x y : Ln) (ds : List Bool) : RD Out := runK prog D41 F0 2000 (.code (bodyOf f31)) [] 0 ([lnT x, lnT y] ++ List.replicate 43 undefT) ⟨0, []⟩ ds []
theorem w31z_s_1 (x y : Ln) : outK prog f31 20 [] (r31z_s x y (bt 30 1073741823)) = wdn (T.bool (x.node == y.node)) (g31z_s_1 x y) := by kernel_rfl
theorem w31z_s_2 (x y : Ln) : outK prog f31 20 [] (r31z_s x y (bt 30 16777215)) = wdn (T.bool false) (g31z_s_2 x y) := by kernel_rfl
theorem w31z_s_3 (x y : Ln) : outK prog f31 20 [] (r31z_s x y (bt 30 262143)) = wdn (T.bool false) (g31z_s_3 x y) := by kernel_rfl
theorem w31z_s_4 (x y : Ln) : outK prog f31 20 [] (r31z_s x y (bt 30 4095)) = wdn (T.bool false) (g31z_s_4 x y) := by kernel_rfl
theorem w31z_s_5 (x y : Ln) : outK prog f31 20 [] (r31z_s x y (bt 30 63)) = wdn (T.bool false) (g31z_s_5 x y) := by kernel_rfl
theorem w31z_s_6 (x y : Ln) : outK prog f31 20 [] (r31z_s x y (bt 30 0)) = wdn (T.bool false) (g31z_s_6 x y) := by kernel_rfl
theorem c31z (x y : Ln) (n : Nat) {r : T} (hk : K31z_s x y = true) (hr : noM.fin n (V31z_s x y) = some r) : PureFn prog gl 31 [lnT x, lnT y] r :=
 pure_mach (M := noM) (fn := f31) (k := 20) (d := 8) (c := bodyOf f31) cx41 glFrz (by kernel_rfl) func31 (by kernel_rfl) rfl (by kernel_rfl) (by kernel_rfl) (L := 43) (by kernel_rfl) noM_ways (fun σ => σ.elim) ((wk_if (wk_if (wk_if (wk_if (wk_if (kD (w31z_s_1 x y)) (kD (w31z_s_2 x y))) (kD (w31z_s_3 x y))) (kD (w31z_s_4 x y))) (kD (w31z_s_5 x y))) (kD (w31z_s_6 x y))) hk _ rfl) hr
end
end Go.Proofs.Tryz

/- sameLine of the law: the contract. -/
namespace Go.Proofs.Tryz
open Go.Ps
set_option maxRecDepth 100000
def smL (x y : Ln) : Bool := eqS x.st y.st && (x.mass == y.mass && (smS x.k x.from_ y.k y.from_ && (x.fate == y.fate && (x.closed == y.closed && x.node == y.node))))
theorem sameLine_ok (x y : Ln) (hx : mdL x) (hy : mdL y) : PureFn prog gl 31 [lnT x, lnT y] (.bool (smL x y)) := by
 have a1 : decide (x.st.n ≤ 281474976710656) = true := decide_eq_true (by have := hx.1; omega)
 have a2 : pb (x.k ≤ 1000000 ∧ (∀ i, i < x.k → (x.from_ i).n ≤ 281474976710656) ∧ ∀ i, i < y.k → (y.from_ i).n ≤ 281474976710656) = true :=
  pb_iff.2 ⟨hx.2.1, fun i hi => by have := hx.2.2 i hi; omega, fun i hi => by have := hy.2.2 i hi; omega⟩
 refine c31z x y 0 ?_ ?_
 ·unfold K31z_s
  repeat' (refine tree_eq (fun _ => ?_) (fun _ => ?_))
  all_goals (simp only [g31z_s_1, g31z_s_2, g31z_s_3, g31z_s_4, g31z_s_5, g31z_s_6, k31z_s_4, k31z_s_3, k31z_s_2, k31z_s_1, k31z_s_0] at *; first | (simp only [*, allT, ssT, isV_self, Bool.not_false, Bool.not_true, Bool.and_true]; done) | (simp_all [allT, ssT, ssv, slN, slF]; done))
 ·have hv : V31z_s x y = .inr (.bool (smL x y)) := by
   unfold V31z_s smL
   repeat' (refine tree_eq (fun _ => ?_) (fun _ => ?_))
   all_goals simp_all
  rw [hv]; rfl
noncomputable def s31z : List T → Option (T × List Bool)
 | [t, u] => some (.bool (smL (lnv t) (lnv u)), [isV t (lnT (lnv t)), isV u (lnT (lnv u)), pb (mdL (lnv t)), pb (mdL (lnv u))])
 | _ => none
theorem s31z_ok (ts : List T) (r : T) (cs : List Bool) (h : s31z ts = some (r, cs)) (hc : allT cs = true) : PureFn prog gl 31 ts r := by
 unfold s31z at h
 split at h
 ·rename_i t u
  cases h
  simp only [allT, Bool.and_true, Bool.and_eq_true, isV_iff, pb_iff] at hc
  obtain ⟨e1, e2, e3, e4⟩ := hc
  have := sameLine_ok _ _ e3 e4
  rw [← e1, ← e2] at this
  exact this
 ·cases h
noncomputable def D42 : Ed := ⟨gl, pdAdd 31 s31z D41.pd⟩
theorem cx42 : Cx prog D42 F0 := ⟨follows, pdAdd_ok cx41.hE s31z_ok, F0ok⟩
end Go.Proofs.Tryz

/- same as a machine, by program (gen2). -/
namespace Go.Proofs.Tryz
noncomputable section
open Go.Ps
set_option maxRecDepth 100000
/-! ### 11 -/
inductive S11z where
 | l0 (x5 : Int)
def k11z_s_0 (a b : Ct) : List Bool := let y0 := a.entries != b.entries; [!y0, !y0, !y0, !y0, !y0, !y0]
def k11z_s_1 (a b : Ct) : List Bool := let y0 := a.accepted != b.accepted; (!y0) :: (!y0) :: (!y0) :: (!y0) :: (!y0) :: (!y0) :: k11z_s_0 a b
def k11z_s_2 (a b : Ct) : List Bool := let y0 := a.delivered != b.delivered; (!y0) :: (!y0) :: (!y0) :: (!y0) :: (!y0) :: (!y0) :: k11z_s_1 a b
def k11z_s_3 (a b : Ct) : List Bool := let y0 := a.waiting != b.waiting; (!y0) :: (!y0) :: (!y0) :: (!y0) :: (!y0) :: (!y0) :: k11z_s_2 a b
def k11z_s_4 (a b : Ct) : List Bool := let y0 := a.letters != b.letters; (!y0) :: (!y0) :: (!y0) :: (!y0) :: (!y0) :: (!y0) :: k11z_s_3 a b
def k11z_s_5 (a b : Ct) : List Bool := let y0 := a.discarded != b.discarded; (!y0) :: (!y0) :: (!y0) :: (!y0) :: (!y0) :: (!y0) :: (!y0) :: (!y0) :: k11z_s_4 a b
def g11z_s_1 (a b : Ct) : List Bool := let y0 := a.entries != b.entries; [true, true, true, true, true, true, true, true, true, true, true, true, true, true, true, true, true, true, true, true, true, true, true, true, true, true, true, true, true, true, true, true, true, y0, y0, y0, y0, y0, y0]
def g11z_s_2 (a b : Ct) : List Bool := let y0 := a.accepted != b.accepted; true :: true :: true :: true :: true :: true :: true :: true :: true :: true :: true :: true :: true :: true :: true :: true :: true :: true :: true :: true :: true :: true :: true :: true :: true :: true :: true :: y0 :: y0 :: y0 :: y0 :: y0 :: y0 :: k11z_s_0 a b
def g11z_s_3 (a b : Ct) : List Bool := let y0 := a.delivered != b.delivered; true :: true :: true :: true :: true :: true :: true :: true :: true :: true :: true :: true :: true :: true :: true :: true :: true :: true :: true :: true :: true :: y0 :: y0 :: y0 :: y0 :: y0 :: y0 :: k11z_s_1 a b
def g11z_s_4 (a b : Ct) : List Bool := let y0 := a.waiting != b.waiting; true :: true :: true :: true :: true :: true :: true :: true :: true :: true :: true :: true :: true :: true :: true :: y0 :: y0 :: y0 :: y0 :: y0 :: y0 :: k11z_s_2 a b
def g11z_s_5 (a b : Ct) : List Bool := let y0 := a.letters != b.letters; true :: true :: true :: true :: true :: true :: true :: true :: true :: y0 :: y0 :: y0 :: y0 :: y0 :: y0 :: k11z_s_3 a b
def g11z_s_6 (a b : Ct) : List Bool := let y0 := a.discarded != b.discarded; true :: y0 :: y0 :: y0 :: y0 :: y0 :: y0 :: y0 :: y0 :: k11z_s_4 a b
def g11z_s_7 (a b : Ct) : List Bool := ((↑a.n : Int) != (↑b.n : Int)) :: k11z_s_5 a b
def g11z_s_8 (a b : Ct) : List Bool := (!(↑a.n : Int) != (↑b.n : Int)) :: k11z_s_5 a b
def k11z_0_0 (a b : Ct) (x5 : Int) : List Bool := let y0 := decide (0 ≤ x5); let y1 := decide (x5 < (↑a.n : Int)); [isV (lnT (a.line x5.toNat)) (lnT (a.line x5.toNat)), isV (lnT (b.line x5.toNat)) (lnT (b.line x5.toNat)), pb (mdL (a.line x5.toNat)), pb (mdL (b.line x5.toNat)), y0, decide (x5 < (↑b.n : Int)), true, y0, y1, true, y1]
def g11z_0_1 (a b : Ct) (x5 : Int) : List Bool := (!smL (a.line x5.toNat) (b.line x5.toNat)) :: k11z_0_0 a b x5
def g11z_0_2 (a b : Ct) (x5 : Int) : List Bool := (!!smL (a.line x5.toNat) (b.line x5.toNat)) :: k11z_0_0 a b x5
def g11z_0_3 (a b : Ct) (x5 : Int) : List Bool := [!decide (x5 < (↑a.n : Int))]
def V11z_0 (a b : Ct) (x5 : Int) : S11z ⊕ T :=
 (if decide (x5 < (↑a.n : Int)) then (if !smL (a.line x5.toNat) (b.line x5.toNat) then (.inr ((T.bool false))) else (.inl (.l0 (IntKind.i64.wrap (x5 + 1))))) else (.inr ((T.bool true))))
def K11z_0 (a b : Ct) (x5 : Int) : Bool :=
 (if decide (x5 < (↑a.n : Int)) then (if !smL (a.line x5.toNat) (b.line x5.toNat) then (allT (g11z_0_1 a b x5)) else (allT (g11z_0_2 a b x5))) else (allT (g11z_0_3 a b x5)))
def step11z_0 (a b : Ct) (x5 : Int) : Option (S11z ⊕ T) := if K11z_0 a b x5 then some (V11z_0 a b x5) else none
theorem T11z_0 (a b : Ct) (x5 : Int) (hk : K11z_0 a b x5 = true) : step11z_0 a b x5 = some (V11z_0 a b x5) := if_pos hk
def V11z_s (a b : Ct) : S11z ⊕ T :=
 (if a.entries != b.entries then (.inr ((T.bool false))) else (if a.accepted != b.accepted then (.inr ((T.bool false))) else (if a.delivered != b.delivered then (.inr ((T.bool false))) else (if a.waiting != b.waiting then (.inr ((T.bool false))) else (if a.letters != b.letters then (.inr ((T.bool false))) else (if a.discarded != b.discarded then (.inr ((T.bool false))) else (if (↑a.n : Int) != (↑b.n : Int) then (.inr ((T.bool false))) else (.inl (.l0 0)))))))))
def K11z_s (a b : Ct) : Bool :=
 (if a.entries != b.entries then (allT (g11z_s_1 a b)) else (if a.accepted != b.accepted then (allT (g11z_s_2 a b)) else (if a.delivered != b.delivered then (allT (g11z_s_3 a b)) else (if a.waiting != b.waiting then (allT (g11z_s_4 a b)) else (if a.letters != b.letters then (allT (g11z_s_5 a b)) else (if a.discarded != b.discarded then (allT (g11z_s_6 a b)) else (if (↑a.n : Int) != (↑b.n : Int) then (allT (g11z_s_7 a b)) else (allT (g11z_s_8 a b)))))))))
def step11z (a b : Ct) : S11z → Option (S11z ⊕ T)
 | .l0 x5 => step11z_0 a b x5
def M11z (a b : Ct) : Mch S11z where
 lp := fun σ => match σ with
  | .l0 .. => 0
 keep := fun ι => match ι with
  | 0 => [2, 3, 5]
  | _ => []
 par := fun ι => match ι with
  | 0 => []
  | _ => []
 vs := fun σ => match σ with
  | .l0 x5 => [(ctT a).ref 0, (ctT b).ref 0, T.int .i64 x5]
 hp := fun σ => match σ with
  | .l0 _ => ⟨0, []⟩
 len := 74
 step := step11z a b
def r11z_0 (a b : Ct) (x5 : Int) (fr : List T) (ds : List Bool) : RD Out := (M11z a b).rk prog D42 F0 f11 (.l0 x5) fr ds
theorem w11z_0_1 (a b : Ct) (x5 : Int) (fr : List T) : outK prog f11 20 [] (r11z_0 a b x5 fr [true, true]) = wdn (T.bool false) (g11z_0_1 a b x5) := by kernel_rfl
theorem w11z_0_2 (a b : Ct) (x5 : Int) (fr : List T) : (M11z a b).wa prog f11 (r11z_0 a b x5 fr [true, false]) 0 (g11z_0_2 a b x5) (.l0 (IntKind.i64.wrap (x5 + 1))) := by unfold Mch.wa; kernel_rfl
theorem w11z_0_3 (a b : Ct) (x5 : Int) (fr : List T) : outK prog f11 20 [] (r11z_0 a b x5 fr [false]) = wdn (T.bool true) (g11z_0_3 a b x5) := by kernel_rfl
def r11z_s (a b : Ct) (ds : List Bool) : RD Out := runK prog D42 F0 2000 (.code (bodyOf f11)) [] 0 ([ctT a, ctT b] ++ List.replicate 72 undefT) ⟨0, []⟩ ds []
theorem w11z_s_1 (a b : Ct) : outK prog f11 20 [] (r11z_s a b (bt 39 549755813887)) = wdn (T.bool false) (g11z_s_1 a b) := by kernel_rfl
theorem w11z_s_2 (a b : Ct) : outK prog f11 20 [] (r11z_s a b (bt 39 549755813824)) = wdn (T.bool false) (g11z_s_2 a b) := by kernel_rfl
theorem w11z_s_3 (a b : Ct) : outK prog f11 20 [] (r11z_s a b (bt 39 549755809792)) = wdn (T.bool false) (g11z_s_3 a b) := by kernel_rfl
theorem w11z_s_4 (a b : Ct) : outK prog f11 20 [] (r11z_s a b (bt 39 549755551744)) = wdn (T.bool false) (g11z_s_4 a b) := by kernel_rfl
theorem w11z_s_5 (a b : Ct) : outK prog f11 20 [] (r11z_s a b (bt 39 549739036672)) = wdn (T.bool false) (g11z_s_5 a b) := by kernel_rfl
theorem w11z_s_6 (a b : Ct) : outK prog f11 20 [] (r11z_s a b (bt 39 548682072064)) = wdn (T.bool false) (g11z_s_6 a b) := by kernel_rfl
theorem w11z_s_7 (a b : Ct) : outK prog f11 20 [] (r11z_s a b (bt 39 274877906944)) = wdn (T.bool false) (g11z_s_7 a b) := by kernel_rfl
theorem w11z_s_8 (a b : Ct) : (M11z a b).wl prog f11 (r11z_s a b (bt 39 0)) 0 (g11z_s_8 a b) (.l0 0) := by unfold Mch.wl; kernel_rfl
theorem ways11z (a b : Ct) : (M11z a b).Ways prog D42 F0 f11 20 := by
 intro σ o fr h
 cases σ with
 | l0 x5 =>
  obtain ⟨hk, ho⟩ := kv_some (K := K11z_0 a b x5) (V := V11z_0 a b x5) h
  exact (wk_if (wk_if (kD (w11z_0_1 a b x5 fr)) (kA (w11z_0_2 a b x5 fr) rfl)) (kD (w11z_0_3 a b x5 fr))) hk o ho
theorem oks11z (a b : Ct) : ∀ σ, Ps.codeOk (loopAt f11 ((M11z a b).lp σ)).1 = true ∧ ksOk (.lp :: (loopAt f11 ((M11z a b).lp σ)).2) = true := oks_of 1 (by kernel_rfl) (by intro σ; cases σ <;> exact Nat.le_of_ble_eq_true rfl)
theorem c11z (a b : Ct) (n : Nat) {r : T} (hk : K11z_s a b = true) (hr : (M11z a b).fin n (V11z_s a b) = some r) : PureFn prog gl 11 [ctT a, ctT b] r :=
 pure_mach (M := (M11z a b)) (fn := f11) (k := 20) (d := 8) (c := bodyOf f11) cx42 glFrz (by kernel_rfl) func11 (by kernel_rfl) rfl (by kernel_rfl) (by kernel_rfl) (L := 72) (by kernel_rfl) (ways11z a b) (oks11z a b) ((wk_if (kD (w11z_s_1 a b)) (wk_if (kD (w11z_s_2 a b)) (wk_if (kD (w11z_s_3 a b)) (wk_if (kD (w11z_s_4 a b)) (wk_if (kD (w11z_s_5 a b)) (wk_if (kD (w11z_s_6 a b)) (wk_if (kD (w11z_s_7 a b)) (kL (w11z_s_8 a b) rfl)))))))) hk _ rfl) hr
end
end Go.Proofs.Tryz

/- same of the law: the contract. -/
namespace Go.Proofs.Tryz
open Go.Ps
set_option maxRecDepth 100000
def smHead (a b : Ct) : Prop := a.entries = b.entries ∧ a.accepted = b.accepted ∧ a.delivered = b.delivered ∧ a.waiting = b.waiting ∧ a.letters = b.letters ∧ a.discarded = b.discarded ∧ a.n = b.n
instance (a b : Ct) : Decidable (smHead a b) := by unfold smHead; infer_instance
def smC (a b : Ct) : Bool := if smHead a b then alR (fun i => smL (a.line i) (b.line i)) a.n 0 else false
def mdC (a : Ct) : Prop := a.n ≤ 1000000 ∧ ∀ i, i < a.n → mdL (a.line i)
theorem same_ok (a b : Ct) (ha : mdC a) (hb : mdC b) : PureFn prog gl 11 [ctT a, ctT b] (.bool (smC a b)) := by
 have hn := ha.1
 have hK : K11z_s a b = true := by
  unfold K11z_s
  repeat' (refine tree_eq (fun _ => ?_) (fun _ => ?_))
  all_goals (simp only [g11z_s_1, g11z_s_2, g11z_s_3, g11z_s_4, g11z_s_5, g11z_s_6, g11z_s_7, g11z_s_8, k11z_s_0, k11z_s_1, k11z_s_2, k11z_s_3, k11z_s_4, k11z_s_5] at *; simp only [*, allT, Bool.not_false, Bool.not_true, Bool.and_true])
 by_cases h : smHead a b
 ·obtain ⟨e1, e2, e3, e4, e5, e6, e7⟩ := h
  have run : ∀ (q i : Nat), q + i = a.n → Runs (M11z a b) (.l0 i) (.bool (alR (fun i => smL (a.line i) (b.line i)) q i)) := by
   intro q
   induction q with
   | zero =>
    intro i hi
    have : i = a.n := by omega
    subst this
    have b0 : decide ((a.n : Int) < a.n) = false := decide_eq_false (by omega)
    refine .done ?_
    show step11z_0 a b a.n = _
    rw [T11z_0 a b a.n (by unfold K11z_0; rw [b0]; simp only [g11z_0_3, allT, b0, Bool.not_false, Bool.and_true, Bool.false_eq_true, if_false])]
    unfold V11z_0
    rw [b0]; rfl
   | succ q ih =>
    intro i hi
    have b1 : decide ((i : Int) < a.n) = true := decide_eq_true (by omega)
    have b1' : decide ((i : Int) < b.n) = true := decide_eq_true (by omega)
    have b2 : decide ((0 : Int) ≤ i) = true := decide_eq_true (by omega)
    have b3 := pb_iff.2 (ha.2 i (by omega))
    have b4 := pb_iff.2 (hb.2 i (by omega))
    have b5 := wsucc i (by omega)
    have hst : (M11z a b).step (.l0 i) = some (V11z_0 a b i) := by
     show step11z_0 a b i = _
     refine T11z_0 a b i ?_
     unfold K11z_0
     simp only [Int.toNat_natCast]
     rw [if_pos b1]
     refine tree_eq (fun e => ?_) (fun e => ?_) <;> simp only [g11z_0_1, g11z_0_2, Int.toNat_natCast, allT, isV_self, b1, b1', b2, b3, b4, e, Bool.not_false, Bool.and_true, k11z_0_0]
    unfold V11z_0 at hst
    simp only [Int.toNat_natCast] at hst
    rw [if_pos b1, b5] at hst
    unfold alR
    cases hb : smL (a.line i) (b.line i) with
    | false => simp only [hb, Bool.not_false, Bool.not_true, if_true, Bool.false_eq_true, if_false] at hst ⊢; exact .done hst
    | true => simp only [hb, Bool.not_false, Bool.not_true, if_true, Bool.false_eq_true, if_false] at hst ⊢; exact .next hst (ih (i + 1) (by omega))
  obtain ⟨n, hr⟩ := run a.n 0 (by omega)
  unfold smC
  rw [if_pos ⟨e1, e2, e3, e4, e5, e6, e7⟩]
  refine c11z a b n hK ?_
  have hv : V11z_s a b = .inl (.l0 0) := by
   unfold V11z_s
   simp [e1, e2, e3, e4, e5, e6, e7]
  rw [hv]; exact hr
 ·unfold smC
  rw [if_neg h]
  refine c11z a b 0 hK ?_
  have hv : V11z_s a b = .inr (.bool false) := by
   unfold V11z_s
   unfold smHead at h
   repeat' (refine tree_eq (fun _ => ?_) (fun _ => ?_))
   all_goals first | rfl | (exfalso; apply h; simp only [bne_eq_false_iff_eq] at *; refine ⟨by assumption, by assumption, by assumption, by assumption, by assumption, by assumption, by omega⟩)
  rw [hv]; rfl
end Go.Proofs.Tryz

/- The contracts that BalanceDecodes calls. -/
namespace Go.Proofs.Tryz
noncomputable section
open Go.Ps
theorem dec_ex (m : Int) (te : TypeId) (s : List UInt8) (hs : s.length ≤ 1000) : ∃ (c : Ct) (e : Int), PureFn prog (gl1 m te) 9 [.str s] (.tup [ctT c, .int .i64 e]) ∧ ((e = 0 ∧ CheckE c = 0 ∧ enc c = s ∧ encP c) ∨ (e = 3 ∧ c = zeroCt)) := by
 rcases decode_ok (m := m) (te := te) s (by omega) (fun h c hA => enc_small s hs h c hA) with ⟨c, h1, h2, h3, h4, h5⟩ | ⟨_, h5⟩
 ·exact ⟨c, 0, h5, .inl ⟨rfl, h3, h4, enc_small s hs h1 c h2⟩⟩
 ·exact ⟨_, 3, h5, .inr ⟨rfl, rfl⟩⟩
def dcC (m : Int) (te : TypeId) (s : List UInt8) : Ct := @dite _ (s.length ≤ 1000) (Classical.propDecidable _) (fun h => Classical.choose (dec_ex m te s h)) (fun _ => zeroCt)
theorem dcC_ok (m : Int) (te : TypeId) (s : List UInt8) (hs : s.length ≤ 1000) : ∃ e : Int, PureFn prog (gl1 m te) 9 [.str s] (.tup [ctT (dcC m te s), .int .i64 e]) ∧ ((e = 0 ∧ CheckE (dcC m te s) = 0 ∧ enc (dcC m te s) = s ∧ encP (dcC m te s)) ∨ (e = 3 ∧ dcC m te s = zeroCt)) := by
 unfold dcC
 rw [dif_pos hs]
 exact Classical.choose_spec (dec_ex m te s hs)
def deC (m : Int) (te : TypeId) (s : List UInt8) : Int := @dite _ (s.length ≤ 1000) (Classical.propDecidable _) (fun h => Classical.choose (dcC_ok m te s h)) (fun _ => 0)
theorem deC_ok (m : Int) (te : TypeId) (s : List UInt8) (hs : s.length ≤ 1000) : PureFn prog (gl1 m te) 9 [.str s] (.tup [ctT (dcC m te s), .int .i64 (deC m te s)]) ∧ ((deC m te s = 0 ∧ CheckE (dcC m te s) = 0 ∧ enc (dcC m te s) = s ∧ encP (dcC m te s)) ∨ (deC m te s = 3 ∧ dcC m te s = zeroCt)) := by
 unfold deC
 rw [dif_pos hs]
 exact Classical.choose_spec (dcC_ok m te s hs)
def s9z (m : Int) (te : TypeId) : List T → Option (T × List Bool)
 | [.str s] => some (.tup [ctT (dcC m te s), .int .i64 (deC m te s)], [decide (s.length ≤ 1000)])
 | _ => none
def s11y : List T → Option (T × List Bool)
 | [t, u] => some (.bool (smC (ctv t) (ctv u)), [isV t (ctT (ctv t)), pb (∀ g v, Rd g v u → Rd g v (ctT (ctv u))), pb (mdC (ctv t)), pb (mdC (ctv u))])
 | _ => none
def s7y : List T → Option (T × List Bool)
 | [t] => some (.tup [.str (encT (ctv t)), .int .i64 (CheckE (ctv t))], [isV t (ctT (ctv t)), pb (encP (ctv t))])
 | _ => none
theorem s9z_ok (m : Int) (te : TypeId) (ts : List T) (r : T) (cs : List Bool) (h : s9z m te ts = some (r, cs)) (hc : allT cs = true) : PureFn prog (gl1 m te) 9 ts r := by
 unfold s9z at h
 split at h
 ·cases h
  simp only [allT, Bool.and_true, decide_eq_true_eq] at hc
  exact (deC_ok m te _ hc).1
 ·cases h
theorem s7y_ok (m : Int) (te : TypeId) (ts : List T) (r : T) (cs : List Bool) (h : s7y ts = some (r, cs)) (hc : allT cs = true) : PureFn prog (gl1 m te) 7 ts r := by
 unfold s7y at h
 split at h
 ·cases h
  simp only [allT, Bool.and_true, Bool.and_eq_true, isV_iff, pb_iff] at hc
  rw [hc.1]; exact enc_pure hc.2
 ·cases h
theorem s11y_ok (m : Int) (te : TypeId) (ts : List T) (r : T) (cs : List Bool) (h : s11y ts = some (r, cs)) (hc : allT cs = true) : PureFn prog (gl1 m te) 11 ts r := by
 unfold s11y at h
 split at h
 ·rename_i t u
  cases h
  simp only [allT, Bool.and_true, Bool.and_eq_true, isV_iff, pb_iff] at hc
  obtain ⟨h1, h2, h3, h4⟩ := hc
  have hp := pure1 (m := m) (te := te) (same_ok (ctv t) (ctv u) h3 h4)
  refine ⟨hp.1, fun g vs hg hN hgl hv => hp.2 g vs hg hN hgl ?_⟩
  match vs, hv with
  | [a, b], hv =>
   have ha := (hv.inv_cons).1
   rw [h1] at ha
   exact RdL.cons ha (RdL.cons (h2 g b ((hv.inv_cons).2.inv_cons).1) RdL.nil)
  | [], hv => simp [RdL] at hv
  | [_], hv => simp [RdL] at hv
  | _ :: _ :: _ :: _, hv => simp [RdL] at hv
 ·cases h
def D63 (m : Int) (te : TypeId) : Ed := ⟨gl1 m te, pdAdd 9 (s9z m te) (pdAdd 11 s11y (pdAdd 7 s7y D20.pd))⟩
theorem cx63 (m : Int) (te : TypeId) : Cx prog (D63 m te) F0 := ⟨follows, pdAdd_ok (pdAdd_ok (pdAdd_ok (pe1 cx20.hE) (s7y_ok m te)) (s11y_ok m te)) (s9z_ok m te), eeNone_ok⟩
end
end Go.Proofs.Tryz

/- By program (gen2). -/
namespace Go.Proofs.Tryz
noncomputable section
open Go.Ps
set_option maxRecDepth 100000
/-! ### 4 -/
def k4z_s_0 (m : Int) (te : TypeId) (s : List UInt8) : List Bool := [true, true, true, decide ((List.drop 0 (List.take (if 1000 < (↑s.length : Int) then 1000 else (↑s.length : Int)).toNat s)).length ≤ 1000), decide (0 ≤ if 1000 < (↑s.length : Int) then 1000 else (↑s.length : Int)), decide ((if 1000 < (↑s.length : Int) then 1000 else (↑s.length : Int)) ≤ (↑s.length : Int))]
def k4z_s_1 (m : Int) (te : TypeId) (s : List UInt8) : List Bool := (deC m te (List.drop 0 (List.take (if 1000 < (↑s.length : Int) then 1000 else (↑s.length : Int)).toNat s)) != 0) :: k4z_s_0 m te s
def k4z_s_2 (m : Int) (te : TypeId) (s : List UInt8) : List Bool := let y0 := isV (ctT (dcC m te (List.drop 0 (List.take (if 1000 < (↑s.length : Int) then 1000 else (↑s.length : Int)).toNat s)))) (ctT (dcC m te (List.drop 0 (List.take (if 1000 < (↑s.length : Int) then 1000 else (↑s.length : Int)).toNat s)))); y0 :: (pB (small (dcC m te (List.drop 0 (List.take (if 1000 < (↑s.length : Int) then 1000 else (↑s.length : Int)).toNat s))))) :: y0 :: (pb (encP (dcC m te (List.drop 0 (List.take (if 1000 < (↑s.length : Int) then 1000 else (↑s.length : Int)).toNat s))))) :: (!deC m te (List.drop 0 (List.take (if 1000 < (↑s.length : Int) then 1000 else (↑s.length : Int)).toNat s)) != 0) :: k4z_s_0 m te s
def k4z_s_3 (m : Int) (te : TypeId) (s : List UInt8) : List Bool := let y0 := CheckE (dcC m te (List.drop 0 (List.take (if 1000 < (↑s.length : Int) then 1000 else (↑s.length : Int)).toNat s))) == 0; y0 :: y0 :: y0 :: k4z_s_2 m te s
def g4z_s_1 (m : Int) (te : TypeId) (s : List UInt8) : List Bool := let y0 := deC m te (List.drop 0 (List.take (if 1000 < (↑s.length : Int) then 1000 else (↑s.length : Int)).toNat s)) == 3; y0 :: (isV (ctT (dcC m te (List.drop 0 (List.take (if 1000 < (↑s.length : Int) then 1000 else (↑s.length : Int)).toNat s)))) (ctT (dcC m te (List.drop 0 (List.take (if 1000 < (↑s.length : Int) then 1000 else (↑s.length : Int)).toNat s))))) :: (pb (∀ (g : G) (v : Value), Rd g v (T.agg [T.int .i64 0, T.int .i64 0, T.int .i64 0, T.int .i64 0, T.int .i64 0, T.int .i64 0, T.nils]) → Rd g v (ctT { entries := 0, accepted := 0, delivered := 0, waiting := 0, letters := 0, discarded := 0, n := 0, line := fun i => { st := { entry := 0, n := 0, at_ := fun x => 0 }, mass := 0, k := 0, from_ := fun x => { entry := 0, n := 0, at_ := fun x => 0 }, fate := 0, closed := 0, node := [] } }))) :: (pb (mdC (dcC m te (List.drop 0 (List.take (if 1000 < (↑s.length : Int) then 1000 else (↑s.length : Int)).toNat s))))) :: (pb (mdC { entries := 0, accepted := 0, delivered := 0, waiting := 0, letters := 0, discarded := 0, n := 0, line := fun i => { st := { entry := 0, n := 0, at_ := fun x => 0 }, mass := 0, k := 0, from_ := fun x => { entry := 0, n := 0, at_ := fun x => 0 }, fate := 0, closed := 0, node := [] } })) :: y0 :: y0 :: y0 :: k4z_s_1 m te s
def g4z_s_2 (m : Int) (te : TypeId) (s : List UInt8) : List Bool := let y0 := deC m te (List.drop 0 (List.take (if 1000 < (↑s.length : Int) then 1000 else (↑s.length : Int)).toNat s)) == 3; (!y0) :: (!y0) :: (!y0) :: (!y0) :: k4z_s_1 m te s
def g4z_s_3 (m : Int) (te : TypeId) (s : List UInt8) : List Bool := let y0 := CheckE (dcC m te (List.drop 0 (List.take (if 1000 < (↑s.length : Int) then 1000 else (↑s.length : Int)).toNat s))) == 0; y0 :: y0 :: y0 :: y0 :: k4z_s_3 m te s
def g4z_s_4 (m : Int) (te : TypeId) (s : List UInt8) : List Bool := let y0 := CheckE (dcC m te (List.drop 0 (List.take (if 1000 < (↑s.length : Int) then 1000 else (↑s.length : Int)).toNat s))) == 0; (!y0) :: (!y0) :: (!y0) :: (!y0) :: k4z_s_3 m te s
def g4z_s_5 (m : Int) (te : TypeId) (s : List UInt8) : List Bool := let y0 := CheckE (dcC m te (List.drop 0 (List.take (if 1000 < (↑s.length : Int) then 1000 else (↑s.length : Int)).toNat s))) == 0; true :: true :: true :: true :: (!y0) :: (!y0) :: (!y0) :: k4z_s_2 m te s
def V4z_s (m : Int) (te : TypeId) (s : List UInt8) : Empty ⊕ T :=
 (if deC m te (List.drop 0 (List.take (if 1000 < (↑s.length : Int) then 1000 else (↑s.length : Int)).toNat s)) != 0 then (if deC m te (List.drop 0 (List.take (if 1000 < (↑s.length : Int) then 1000 else (↑s.length : Int)).toNat s)) == 3 then (.inr ((T.bool (smC (dcC m te (List.drop 0 (List.take (if 1000 < (↑s.length : Int) then 1000 else (↑s.length : Int)).toNat s))) { entries := 0, accepted := 0, delivered := 0, waiting := 0, letters := 0, discarded := 0, n := 0, line := fun i => { st := { entry := 0, n := 0, at_ := fun x => 0 }, mass := 0, k := 0, from_ := fun x => { entry := 0, n := 0, at_ := fun x => 0 }, fate := 0, closed := 0, node := [] } })))) else (.inr ((T.bool false)))) else (if CheckE (dcC m te (List.drop 0 (List.take (if 1000 < (↑s.length : Int) then 1000 else (↑s.length : Int)).toNat s))) == 0 then (if CheckE (dcC m te (List.drop 0 (List.take (if 1000 < (↑s.length : Int) then 1000 else (↑s.length : Int)).toNat s))) == 0 then (.inr ((T.bool (encT (dcC m te (List.drop 0 (List.take (if 1000 < (↑s.length : Int) then 1000 else (↑s.length : Int)).toNat s))) == List.drop 0 (List.take (if 1000 < (↑s.length : Int) then 1000 else (↑s.length : Int)).toNat s))))) else (.inr ((T.bool false)))) else (.inr ((T.bool false)))))
def K4z_s (m : Int) (te : TypeId) (s : List UInt8) : Bool :=
 (if deC m te (List.drop 0 (List.take (if 1000 < (↑s.length : Int) then 1000 else (↑s.length : Int)).toNat s)) != 0 then (if deC m te (List.drop 0 (List.take (if 1000 < (↑s.length : Int) then 1000 else (↑s.length : Int)).toNat s)) == 3 then (allT (g4z_s_1 m te s)) else (allT (g4z_s_2 m te s))) else (if CheckE (dcC m te (List.drop 0 (List.take (if 1000 < (↑s.length : Int) then 1000 else (↑s.length : Int)).toNat s))) == 0 then (if CheckE (dcC m te (List.drop 0 (List.take (if 1000 < (↑s.length : Int) then 1000 else (↑s.length : Int)).toNat s))) == 0 then (allT (g4z_s_3 m te s)) else (allT (g4z_s_4 m te s))) else (allT (g4z_s_5 m te s))))
def r4z_s (m : Int) (te : TypeId) (s : List UInt8) (ds : List Bool) : RD Out := runK prog (D63 m te) F0 2000 (.code (bodyOf f4)) [] 0 ([.str s] ++ List.replicate 44 undefT) ⟨0, []⟩ ds []
theorem w4z_s_1 (m : Int) (te : TypeId) (s : List UInt8) : outK prog f4 20 [] (r4z_s m te s (bt 6 62)) = wdn (T.bool (smC (dcC m te (List.drop 0 (List.take (if 1000 < (↑s.length : Int) then 1000 else (↑s.length : Int)).toNat s))) { entries := 0, accepted := 0, delivered := 0, waiting := 0, letters := 0, discarded := 0, n := 0, line := fun i => { st := { entry := 0, n := 0, at_ := fun x => 0 }, mass := 0, k := 0, from_ := fun x => { entry := 0, n := 0, at_ := fun x => 0 }, fate := 0, closed := 0, node := [] } })) (g4z_s_1 m te s) := by kernel_rfl
theorem w4z_s_2 (m : Int) (te : TypeId) (s : List UInt8) : outK prog f4 20 [] (r4z_s m te s (bt 6 2)) = wdn (T.bool false) (g4z_s_2 m te s) := by kernel_rfl
theorem w4z_s_3 (m : Int) (te : TypeId) (s : List UInt8) : outK prog f4 20 [] (r4z_s m te s (bt 9 508)) = wdn (T.bool (encT (dcC m te (List.drop 0 (List.take (if 1000 < (↑s.length : Int) then 1000 else (↑s.length : Int)).toNat s))) == List.drop 0 (List.take (if 1000 < (↑s.length : Int) then 1000 else (↑s.length : Int)).toNat s))) (g4z_s_3 m te s) := by kernel_rfl
theorem w4z_s_4 (m : Int) (te : TypeId) (s : List UInt8) : outK prog f4 20 [] (r4z_s m te s (bt 9 28)) = wdn (T.bool false) (g4z_s_4 m te s) := by kernel_rfl
theorem w4z_s_5 (m : Int) (te : TypeId) (s : List UInt8) : outK prog f4 20 [] (r4z_s m te s (bt 9 0)) = wdn (T.bool false) (g4z_s_5 m te s) := by kernel_rfl
theorem c4z (m : Int) (te : TypeId) (s : List UInt8) (n : Nat) {r : T} (hk : K4z_s m te s = true) (hr : noM.fin n (V4z_s m te s) = some r) : PureFn prog (gl1 m te) 4 [.str s] r :=
 pure_mach (M := noM) (fn := f4) (k := 20) (d := 8) (c := bodyOf f4) (cx63 m te) (gl1Frz m te) (by kernel_rfl) func4 (by kernel_rfl) rfl (by kernel_rfl) (by kernel_rfl) (L := 44) (by kernel_rfl) noM_ways (fun σ => σ.elim) ((wk_if (wk_if (kD (w4z_s_1 m te s)) (kD (w4z_s_2 m te s))) (wk_if (wk_if (kD (w4z_s_3 m te s)) (kD (w4z_s_4 m te s))) (kD (w4z_s_5 m te s)))) hk _ rfl) hr
end
end Go.Proofs.Tryz

/- BalanceDecodes returns true at every text. -/
namespace Go.Proofs.Tryz
open Go.Ps
theorem mdC_zero : mdC zeroCt := ⟨Nat.zero_le _, fun i hi => absurd hi (Nat.not_lt_zero _)⟩
theorem rd_zero (g : G) (v : Value) (h : Rd g v (T.agg [T.int IntKind.i64 0, T.int IntKind.i64 0, T.int IntKind.i64 0, T.int IntKind.i64 0, T.int IntKind.i64 0, T.int IntKind.i64 0, T.nils])) : Rd g v (ctT zeroCt) :=
 rd_ct (fun u hu => rd_nslf _ _ hu) h
theorem decodes_ok (m : Int) (te : TypeId) (s : List UInt8) : PureFn prog (gl1 m te) 4 [.str s] (.bool true) := by
 obtain ⟨q, hq⟩ : ∃ q : List UInt8, q = List.drop 0 (List.take (if 1000 < (↑s.length : Int) then 1000 else (↑s.length : Int)).toNat s) := ⟨_, rfl⟩
 have hl : q.length ≤ 1000 := by rw [hq, List.drop_zero, List.length_take]; split <;> omega
 have d1 : decide (q.length ≤ 1000) = true := decide_eq_true hl
 have d2 : decide (0 ≤ if 1000 < (↑s.length : Int) then 1000 else (↑s.length : Int)) = true := decide_eq_true (by split <;> omega)
 have d3 : decide ((if 1000 < (↑s.length : Int) then 1000 else (↑s.length : Int)) ≤ (↑s.length : Int)) = true := decide_eq_true (by split <;> omega)
 rcases (deC_ok m te q hl).2 with ⟨e0, e1, e2, e3⟩ | ⟨e0, e1⟩
 ·have b0 : (deC m te q != 0) = false := by rw [e0]; rfl
  have b1 : (CheckE (dcC m te q) == 0) = true := by rw [e1]; rfl
  have b2 : encT (dcC m te q) = q := by unfold encT; rw [if_pos e1, e2]
  have p1 : pB (small (dcC m te q)) = true := pB_iff.2 e3.1
  have p2 : pb (encP (dcC m te q)) = true := pb_iff.2 e3
  refine c4z m te s 0 ?_ ?_
  ·unfold K4z_s
   rw [← hq]
   refine tree_eq (fun e => by rw [b0] at e; cases e) (fun _ => ?_)
   refine tree_eq (fun _ => ?_) (fun e => by rw [b1] at e; cases e)
   refine tree_eq (fun _ => ?_) (fun e => by rw [b1] at e; cases e)
   simp only [g4z_s_3, ← hq, allT, isV_self, b0, b1, p1, p2, d1, d2, d3, Bool.not_false, Bool.not_true, Bool.and_true, k4z_s_3, k4z_s_2, k4z_s_0]
  ·have hv : V4z_s m te s = .inr (.bool true) := by
    unfold V4z_s
    rw [← hq]
    refine tree_eq (fun e => by rw [b0] at e; cases e) (fun _ => ?_)
    refine tree_eq (fun _ => ?_) (fun e => by rw [b1] at e; cases e)
    refine tree_eq (fun _ => ?_) (fun e => by rw [b1] at e; cases e)
    rw [b2, beq_self_eq_true]
   rw [hv]; rfl
 ·have b0 : (deC m te q != 0) = true := by rw [e0]; rfl
  have b1 : (deC m te q == 3) = true := by rw [e0]; rfl
  refine c4z m te s 0 ?_ ?_
  ·unfold K4z_s
   rw [← hq]
   refine tree_eq (fun _ => ?_) (fun e => by rw [b0] at e; cases e)
   refine tree_eq (fun _ => ?_) (fun e => by rw [b1] at e; cases e)
   simp only [g4z_s_1, ← hq, allT, isV_self, b0, b1, d1, d2, d3, Bool.not_false, Bool.not_true, Bool.and_true, Bool.true_and, Bool.and_eq_true, pb_iff, true_and, and_true, k4z_s_1, k4z_s_0]
   exact ⟨fun g v hv => rd_zero g v hv, by rw [e1]; exact mdC_zero, mdC_zero⟩
  ·have hv : V4z_s m te s = .inr (.bool true) := by
    unfold V4z_s
    rw [← hq]
    refine tree_eq (fun _ => ?_) (fun e => by rw [b0] at e; cases e)
    refine tree_eq (fun _ => ?_) (fun e => by rw [b1] at e; cases e)
    rw [e1]
    rfl
   rw [hv]; rfl
end Go.Proofs.Tryz

/- Opening an argument: what reads as plain data (numbers, texts, structures, slices of such) is a tree; it reads again where nothing that was there has changed. -/
namespace Go.Ps
def RdIL (g : G) (vs : List Value) (ts : List T) : Prop := vs.length = ts.length ∧ ∀ (j : Nat) (v : Value) (c : T), vs[j]? = some v → ts[j]? = some c → RdI g v c
section
variable {g : G}
theorem RdIL.nil : RdIL g [] [] := ⟨rfl, fun j v c h => by simp at h⟩
theorem RdIL.one {v : Value} {t : T} (h : RdI g v t) : RdIL g [v] [t] := by
 refine ⟨rfl, fun j u c hu hc => ?_⟩
 cases j with
 | zero => simp at hu hc; subst hu; subst hc; exact h
 | succ j => simp at hu
theorem RdIL.append {vs us : List Value} {ts ss : List T} (h : RdIL g vs ts) (k : RdIL g us ss) : RdIL g (vs ++ us) (ts ++ ss) := by
 refine ⟨by simp [h.1, k.1], fun j u c hu hc => ?_⟩
 rw [List.getElem?_append] at hu hc
 by_cases hj : j < vs.length
 ·rw [if_pos hj] at hu
  rw [if_pos (h.1 ▸ hj)] at hc
  exact h.2 j u c hu hc
 ·rw [if_neg hj] at hu
  rw [if_neg (h.1 ▸ hj), ← h.1] at hc
  exact k.2 _ u c hu hc
end
def fieldAt (P : Program) (t : TypeId) (i : Nat) : Option (TypeId × Nat × Nat) :=
 match P.underlying t with
 | some (.struct fs) => (fs[i]?).map fun f => (f.type, f.offset, P.cellsOf f.type)
 | _ => none
section
variable {H : Type} (enc : TypeId × Value → H) (P : Program) (W : World)
def Opens (t : TypeId) {A : Type} (mk : A → List T) (ok : A → Prop) : Prop :=
 ∀ (n : Nat) (cs : List Value) (y : DataW H × List MemPlace), DataW.trod enc P W 0 (fun _ => true) true n t cs = some y → ∃ a : A, RdIL (G.start W) cs (mk a) ∧ ok a
variable {enc P W}
theorem Opens.int {t : TypeId} {k : IntKind} (ht : P.underlying t = some (.int k)) : Opens enc P W t (fun n : Int => [.int k n]) (fun n => k.has n) := by
 intro n cs y h
 obtain ⟨m, rfl, _, hw⟩ := DataW.trod_int ht h
 refine ⟨m, RdIL.one (.int k m), ?_⟩
 simp [Lit.wf] at hw
 exact hw
theorem Opens.bool {t : TypeId} (ht : P.underlying t = some .bool) : Opens enc P W t (fun b : Bool => [.bool b]) (fun _ => True) := by
 intro n cs y h
 obtain ⟨b, rfl, _⟩ := DataW.trod_bool ht h
 exact ⟨b, RdIL.one (.bool b), trivial⟩
theorem Opens.str {t : TypeId} (ht : P.underlying t = some .string) : Opens enc P W t (fun s : List UInt8 => [.str s]) (fun s => s.length ≤ maxLen) := by
 intro n cs y h
 obtain ⟨s, rfl, _, hs⟩ := DataW.trod_string ht h
 exact ⟨s.data.toList, RdIL.one (.str s), by simpa using hs⟩
theorem cells_some {w : World} {a : Addr} {n : Nat} {cs : List Value} (h : w.cells? 0 a n = some cs) : cs.length = n ∧ ∀ (j : Nat) (v : Value), cs[j]? = some v → w.cell? (a.add j) = some v := by
 obtain ⟨_, hl, hc⟩ := World.cells?_some h
 refine ⟨hl, fun j v hv => ?_⟩
 have hj : j < n := by rw [← hl]; exact (List.getElem?_eq_some_iff.1 hv).1
 rw [hc j hj]; exact hv
theorem spot_of_cell {w : World} {a : Addr} {v : Value} (h : w.cell? a = some v) : a.spot = none := by
 unfold World.cell? at h
 split at h
 ·split at h
  ·cases h
  ·rename_i hs; simpa using hs
 ·cases h
theorem Opens.slice {t e : TypeId} {sz : Nat} {A : Type} [Inhabited A] {mk : A → List T} {ok : A → Prop} (toT : A → T) (ht : P.underlying t = some (.slice e)) (hsz : P.cellsOf e = sz) (hpos : 0 < sz) (hmk : ∀ a, (mk a).length = sz)
  (htoT : ∀ a, (toT a).cells = mk a) (he : Opens enc P W e mk ok) : Opens enc P W t (fun x : Nat × (Nat → A) => [.slf false x.1 (fun i => toT (x.2 i))]) (fun x => x.1 ≤ maxLen ∧ ∀ i, i < x.1 → ok (x.2 i)) := by
 intro n cs y h
 rcases DataW.trod_slice ht h with ⟨rfl, _⟩ | ⟨a, len, cap, elems, rest, n, _, rfl, _, _, hl, hm, hlen, hel, hsp, _⟩
 ·exact ⟨(0, default), RdIL.one (.slfn false _ none), by simp, fun i hi => by simp at hi⟩
 ·rw [hsz] at hel hsp
  have one : ∀ i, i < len → ∃ c x, W.cells? 0 (a.add (i * sz)) sz = some c ∧ RdIL (G.start W) c (mk x) ∧ ok x := by
   intro i hi
   have h1 := hel i hi
   have h2 : elems[i]? = some (elems[i]'(by omega)) := List.getElem?_eq_getElem (by omega)
   rw [h2, Option.bind_eq_some_iff] at h1
   obtain ⟨c, hc, hy⟩ := h1
   obtain ⟨x, hx, hk⟩ := he _ _ _ hy
   exact ⟨c, x, hc, hx, hk⟩
  have hspot : 0 < cap → a.spot = none := by
   intro hc
   by_cases hl0 : 0 < len
   ·obtain ⟨c, x, h1, _, _⟩ := one 0 hl0
    obtain ⟨h2, h3⟩ := cells_some h1
    have h4 : c[0]? = some (c[0]'(by omega)) := List.getElem?_eq_getElem (by omega)
    have := spot_of_cell (h3 0 _ h4)
    simpa [Addr.add] using this
   ·obtain ⟨h1, h2⟩ := hsp rfl
    have h3 := h2 0 (by omega)
    have h4 : rest[0]? = some (rest[0]'(by omega)) := List.getElem?_eq_getElem (by omega)
    rw [h4, Option.bind_eq_some_iff] at h3
    obtain ⟨c, hc, _⟩ := h3
    have l0 : len = 0 := by omega
    subst l0
    obtain ⟨h5, h6⟩ := cells_some hc
    have h7 : c[0]? = some (c[0]'(by omega)) := List.getElem?_eq_getElem (by omega)
    have := spot_of_cell (h6 0 _ h7)
    simpa [Addr.add] using this
  classical
  let cel : Nat → List Value := fun i => if hi : i < len then Classical.choose (one i hi) else []
  let xs : Nat → A := fun i => if hi : i < len then Classical.choose (Classical.choose_spec (one i hi)) else default
  have hcx : ∀ i, i < len → W.cells? 0 (a.add (i * sz)) sz = some (cel i) ∧ RdIL (G.start W) (cel i) (mk (xs i)) ∧ ok (xs i) := by
   intro i hi
   simp only [cel, xs, dif_pos hi]
   exact Classical.choose_spec (Classical.choose_spec (one i hi))
  refine ⟨(len, xs), RdIL.one ?_, by show len ≤ maxLen; omega, fun i hi => (hcx i hi).2.2⟩
  by_cases hcap : cap = 0
  ·have l0 : len = 0 := by omega
   subst l0; subst hcap
   exact .slfn false _ (some a)
  ·obtain ⟨b, o, sp⟩ := a
   have hs := hspot (by omega)
   simp only at hs
   subst hs
   have hlenAll : ∀ x ∈ (List.range len).map cel, x.length = sz := fun x hx => by
    obtain ⟨i, hi, rfl⟩ := List.mem_map.1 hx
    exact (cells_some (hcx i (by simpa using hi)).1).1
   have hflat : ∀ (m : Nat), m ≤ len → (((List.range m).map cel).flatten).length = m * sz := by
    intro m
    induction m with
    | zero => intro _; simp
    | succ m ih =>
     intro hm
     rw [List.range_succ, List.map_append, List.flatten_append, List.length_append, ih (by omega), Nat.succ_mul]
     simp [(cells_some (hcx m (by omega)).1).1]
   have hat : ∀ (m : Nat), m ≤ len → ∀ i j, i < m → j < sz → (((List.range m).map cel).flatten)[i * sz + j]? = (cel i)[j]? := by
    intro m
    induction m with
    | zero => intro _ i j hi; omega
    | succ m ih =>
     intro hm i j hi hj
     rw [List.range_succ, List.map_append, List.flatten_append, List.getElem?_append, hflat m (by omega)]
     by_cases him : i < m
     ·have : i * sz + j < m * sz := by
       have : (i + 1) * sz ≤ m * sz := Nat.mul_le_mul_right _ him
       rw [Nat.succ_mul] at this
       omega
      rw [if_pos this]
      exact ih (by omega) i j him hj
     ·have : i = m := by omega
      subst this
      rw [if_neg (by omega)]
      simp
   refine .slf false len (fun i => toT (xs i)) sz b o cap (((List.range len).map cel).flatten) (fun hn => ?_) (fun i hi => by rw [htoT, hmk]) hl hm (fun q => by cases q) (hflat len (Nat.le_refl _)) (fun j v hv => ?_) (fun i j v c hi hj hv hc => ?_)
   ·obtain ⟨h1, _, _⟩ := hcx 0 (by omega)
    obtain ⟨h2, h3⟩ := cells_some h1
    have h4 : (cel 0)[0]? = some ((cel 0)[0]'(by omega)) := List.getElem?_eq_getElem (by omega)
    have := lt_of_cell (h3 0 _ h4)
    show b < W.heap.size
    simpa [Addr.add] using this
   ·have hj : j < len * sz := by
     rw [← hflat len (Nat.le_refl _)]
     exact (List.getElem?_eq_some_iff.1 hv).1
    have hd : j = j / sz * sz + j % sz := by rw [Nat.mul_comm]; exact (Nat.div_add_mod j sz).symm
    have hq : j / sz < len := by rw [Nat.div_lt_iff_lt_mul hpos]; exact hj
    have hr : j % sz < sz := Nat.mod_lt _ hpos
    rw [hd, hat len (Nat.le_refl _) _ _ hq hr] at hv
    have h1 := (cells_some (hcx _ hq).1).2 _ v hv
    show W.cell? ⟨b, o + j, none⟩ = some v
    have e : (Addr.add (Addr.add ⟨b, o, none⟩ (j / sz * sz)) (j % sz)) = ⟨b, o + j, none⟩ := by
     rw [Addr.add_lit, Addr.add_lit]
     congr 1
     omega
    rw [← e]; exact h1
   ·rw [hat len (Nat.le_refl _) i j hi hj] at hv
    rw [htoT] at hc
    exact (hcx i hi).2.1.2 j v c hv hc
theorem st_field {t : TypeId} {fuel : Nat} {cs : List Value} {x : DataW H × List MemPlace} (h : DataW.trod enc P W 0 (fun _ => true) true fuel t cs = some x) {i : Nat} {u : TypeId} {o s : Nat} (hf : fieldAt P t i = some (u, o, s)) :
  cs.length = P.cellsOf t ∧ ∃ n y, DataW.trod enc P W 0 (fun _ => true) true n u ((cs.drop o).take s) = some y := by
 unfold fieldAt at hf
 split at hf
 ·rename_i fs ht
  simp only [Option.map_eq_some_iff] at hf
  obtain ⟨f, hf, he⟩ := hf
  cases he
  obtain ⟨xs, n, _, _, hl, hlen, hx⟩ := DataW.trod_struct ht h
  refine ⟨hl, n, ?_⟩
  have hi : i < xs.length := by rw [hlen]; exact (Array.getElem?_eq_some_iff.1 hf).1
  exact ⟨xs[i], by rw [hx i f hf, List.getElem?_eq_getElem hi]⟩
 ·cases hf
theorem Opens.field {t u : TypeId} {A : Type} {mk : A → List T} {ok : A → Prop} (hu : Opens enc P W u mk ok) {fuel : Nat} {cs : List Value} {x : DataW H × List MemPlace} (h : DataW.trod enc P W 0 (fun _ => true) true fuel t cs = some x) {i o s : Nat} (hf : fieldAt P t i = some (u, o, s)) :
  ∃ a : A, RdIL (G.start W) ((cs.drop o).take s) (mk a) ∧ ok a := by
 obtain ⟨_, n, y, hy⟩ := st_field h hf
 exact hu _ _ _ hy
theorem RdIL.cut {g : G} {cs : List Value} {o s : Nat} {ts us : List T} (h : RdIL g ((cs.drop o).take s) ts) (k : RdIL g (cs.drop (o + s)) us) : RdIL g (cs.drop o) (ts ++ us) := by
 have := h.append k
 rwa [← List.drop_drop, List.take_append_drop] at this
end
end Go.Ps

/- What comes in is a tree; what the row's list gives. -/
set_option maxRecDepth 100000
namespace Go.Ps
instance : Inhabited Sp := ⟨⟨0, 0, fun _ => 0⟩⟩
instance : Inhabited Ln := ⟨⟨default, 0, 0, fun _ => default, 0, 0, []⟩⟩
def Sp.ok (s : Sp) : Prop := IntKind.i64.has s.entry ∧ s.n ≤ maxLen ∧ ∀ i, i < s.n → IntKind.i64.has (s.at_ i)
def Ln.ok (x : Ln) : Prop := x.st.ok ∧ IntKind.i64.has x.mass ∧ (x.k ≤ maxLen ∧ ∀ i, i < x.k → (x.from_ i).ok) ∧ IntKind.i64.has x.fate ∧ IntKind.i64.has x.closed ∧ x.node.length ≤ maxLen
def Ct.ok (c : Ct) : Prop := IntKind.i64.has c.entries ∧ IntKind.i64.has c.accepted ∧ IntKind.i64.has c.delivered ∧ IntKind.i64.has c.waiting ∧ IntKind.i64.has c.letters ∧ IntKind.i64.has c.discarded ∧ c.n ≤ maxLen ∧ ∀ i, i < c.n → (c.line i).ok
theorem gl_of_cell {W : World} {k : Nat} {x : T} {v : Value} {cs : Array Value} {e : TypeId} {fz : Nat × Nat} (hx : x.cells = [x]) (hb : W.heap[k]? = some (.cells cs e fz)) (hs : cs.size = 1) (hc : cs[0]? = some v) (hv : Rd (G.start W) v x) : GlAt (G.start W) k (.ref x 0) := by
 have hlt : k < W.heap.size := (Array.getElem?_eq_some_iff.1 hb).1
 refine ⟨?_, hlt, cs, e, fz, hb, by simp [T.refLen, hx, hs]⟩
 refine Rd.ref (g := G.start W) x 0 k 0 [v] hlt (by rw [hx]; rfl) (fun j w hw => ?_) (fun j w c hw hc' => ?_)
 ·match j with
  | 0 =>
   cases hw
   unfold World.cell?
   show (match W.heap[k]? with | some (.cells c _ _) => if (none : Option _).isSome then none else c[0 + 0]? | _ => none) = some v
   rw [hb]; simpa using hc
  | j + 1 => cases hw
 ·rw [hx] at hc'
  match j with
  | 0 => cases hw; cases hc'; exact hv
  | j + 1 => cases hw
end Go.Ps
namespace Go.Proofs.YtcndhbamkipifaaGreatDoor
open Go.ChangeShapes Go.WideShapes Go.ChangeAt Go.RowKit Go.Ps
theorem ownN : ownKnob Tryz.prog.godebug = none := by kernel_rfl
section
variable {H : Type} {enc : TypeId × Value → H} {W : World}
end
theorem below_of {g g' : G} (h : PStep g g') : Below g.w.heap.size g.w g'.w := ⟨h.os, h.tape, h.output, h.size, h.block⟩
/-! ### the package's variables -/
theorem star145 : "*" ++ "errors.errorString" = "*errors.errorString" := by decide
theorem row145 (u : TypeId) (h : Tryz.prog.typeName? 3 u = some "*errors.errorString") : u = 145 :=
 typeName_ptr_named (nm := "errors.errorString") (by rw [star145]; kernel_rfl) (by kernel_rfl) (by decide) u (by rw [star145]; exact h)
theorem maxLen_ex {W : World} (h : W.ShapedOpen Tryz.prog) : ∃ m, GlAt (G.start W) 1 (.ref (.int .i64 m) 0) := by
 obtain ⟨m, hm⟩ := cell_of_shapedOpen_int (g := 1) (t := 3) (k := .i64) h (of_decide_eq_true (by kernel_rfl)) (zero := #[.int .i64 0]) (by kernel_rfl) rfl (by kernel_rfl) (by kernel_rfl) Tryz.underlying3
 obtain ⟨cs, hh, hs, _⟩ := h.1 1 #[.int .i64 0] 3 (of_decide_eq_true (by kernel_rfl)) (by kernel_rfl)
 refine ⟨m, gl_of_cell rfl hh hs ?_ (Rd.int .i64 m)⟩
 unfold World.cell? at hm
 rw [hh] at hm
 simpa using hm
theorem err_at {W : World} {n : String} {k : Nat} {text : List UInt8} {r : List (String × DataW Unit)} (hk : Tryz.prog.globalNamed n = some k) (ht : (Tryz.prog.globals[k]?).map (·.type) = some 51)
  (h : laidMet Tryz.prog ((n, .iface "*errors.errorString" (.ptr (.agg [.lit (.string text)]))) :: r) W) : GlAt (G.start W) k (.ref (Tryz.errT 145) 0) := by
 obtain ⟨a, s, hv, hc, _, _⟩ := laid_sentinel h hk ht Tryz.underlying51 row145 Tryz.underlying145 Tryz.underlying147 rfl rfl Tryz.underlying9 (by kernel_rfl) (by kernel_rfl)
 unfold World.var? at hv
 rw [hk, Option.bind_some] at hv
 split at hv
 ·rename_i cs e fz hb
  cases hv
  refine gl_of_cell rfl hb rfl rfl (.iface 145 _ _ ?_)
  obtain ⟨b, o, w⟩ := a
  unfold World.cell? at hc
  split at hc
  ·rename_i c2 e2 f2 hb2
   cases w with
   | some w => simp at hc
   | none => exact Rd.ref (g := G.start W) (.agg []) 0 b o [] (Array.getElem?_eq_some_iff.1 hb2).1 rfl (fun j v hv => by cases hv) (fun j v c hv => by cases hv)
  all_goals cases hc
 ·cases hv
theorem glOkZ {W : World} (h : laidMet Tryz.prog Rows.balanceDecodesRow.laid W) (hS : W.ShapedOpen Tryz.prog) : ∃ m, GlOk (Tryz.gl1 m 145) (G.start W) := by
 obtain ⟨m, hm⟩ := maxLen_ex hS
 have h2 : laidMet Tryz.prog (("internal/strconv.uint64pow10", Lib.tabData .u64 Lib.pow10Tab) :: _) W := h.tail.tail
 have h3 := Lib.tabIs_of_head (g := 0) (t := 128) (e := 108) (n := 20) (by kernel_rfl) (by kernel_rfl) (by kernel_rfl) (by kernel_rfl) (by kernel_rfl) (by kernel_rfl) h2
 have e3 : GlAt (G.start W) 3 (.ref (Tryz.errT 145) 0) := err_at (by kernel_rfl) (by kernel_rfl) (h.tail.tail.tail.tail)
 have e2 : GlAt (G.start W) 2 (.ref (Tryz.errT 145) 0) := err_at (by kernel_rfl) (by kernel_rfl) (h.tail.tail.tail.tail.tail)
 refine ⟨m, fun k t ht => ?_⟩
 unfold Tryz.gl1 at ht
 split at ht
 ·rename_i e; subst e; cases ht; exact gl_of_tab (by kernel_rfl) h3
 ·split at ht
  ·rename_i e; subst e; cases ht; exact hm
  ·split at ht
   ·rename_i e; subst e; cases ht; exact e2
   ·split at ht
    ·rename_i e; subst e; cases ht; exact e3
    ·cases ht
noncomputable def door (os : Os) : World :=
 { World.doorLaid Tryz.prog 72 os with
  heap := (World.doorLaid Tryz.prog 72 os).heap.modify 4 fun o => match o with
   | .cells _ t f => .cells (Go.Pinned.utf8FirstZ.map fun n : Nat => Value.int .u8 (n : Int)).toArray t f
   | o => o }
end Go.Proofs.YtcndhbamkipifaaGreatDoor
