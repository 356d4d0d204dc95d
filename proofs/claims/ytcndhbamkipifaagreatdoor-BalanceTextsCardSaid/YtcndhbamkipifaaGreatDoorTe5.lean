/- Texts merged: D9, De, Df, Dg, Dh, Ra, S52, Sm, S31, Sn, S11, So, Xb, Ys, Y30, Yn, Yt, Xt, B3, Xn, B4, B5, B6, PsOp, Opn. -/
import Derived.Test.YtcndhbamkipifaaGreatDoorTe4
import Derived.Test.YtcndhbamkipifaaGreatDoorTe1
import Derived.ChangeArms
import Derived.Carry
import Derived.Test.YtcndhbamkipifaaGreatDoorCards
import Derived.Test.YtcndhbamkipifaaGreatDoorTie
import Derived.WalkKit
import Derived.ProofKit
import Derived.OpenShut
import Derived.Deep.DeepHandedRow
import Derived.Lib.LaidTab
import Derived.Stop.LaidErr
import Derived.LaidMore
import Derived.LaidLaws
import Derived.Shelf.Vars
set_option linter.unusedSimpArgs false
set_option linter.unusedVariables false
set_option linter.unusedSectionVars false
namespace Go.Proofs.Tryz
noncomputable section
open Go.Ps
set_option maxRecDepth 100000
/-! ### 9 -/
inductive S9z where
 | l0 (x64 x65 : Int) (H : Hp)
def k9z_s_0 (m : Int) (te : TypeId) (s : List UInt8) : List Bool := [decide ((spl ((spl s [10]).getD 0 []) [32]).length - 1 ≤ 1000000), pb (∀ (i : Nat), i < (spl ((spl s [10]).getD 0 []) [32]).length - 1 → ((spl ((spl s [10]).getD 0 []) [32]).getD (1 + i) []).length ≤ 281474976710656), isV (T.slf false ((spl ((spl s [10]).getD 0 []) [32]).length - 1) fun i => T.str ((spl ((spl s [10]).getD 0 []) [32]).getD (1 + i) [])) (T.slf false ((spl ((spl s [10]).getD 0 []) [32]).length - 1) fun i => T.str ((spl ((spl s [10]).getD 0 []) [32]).getD (1 + i) [])), true, decide (1 ≤ (↑(spl ((spl s [10]).getD 0 []) [32]).length : Int)), true, decide (((spl s [10]).getD 0 []).length < 4294967281), pb (([32] : List UInt8) ≠ []), true, decide (0 < (↑(spl s [10]).length : Int)), true, decide (s.length < 4294967281), pb (([10] : List UInt8) ≠ [])]
def k9z_s_1 (m : Int) (te : TypeId) (s : List UInt8) : List Bool := let y0 := allR (fun i => (spl ((spl s [10]).getD 0 []) [32]).getD (1 + i) []) ((spl ((spl s [10]).getD 0 []) [32]).length - 1) 0; (!!y0) :: (!!y0) :: (!!y0) :: (!!y0) :: k9z_s_0 m te s
def k9z_s_2 (m : Int) (te : TypeId) (s : List UInt8) : List Bool := let y0 := (↑(nN (fun i => (spl ((spl s [10]).getD 0 []) [32]).getD (1 + i) []) ((spl ((spl s [10]).getD 0 []) [32]).length - 1)) : Int) != 6; (!y0) :: (!y0) :: (!y0) :: (!y0) :: k9z_s_1 m te s
def g9z_s_1 (m : Int) (te : TypeId) (s : List UInt8) : List Bool := let y0 := allR (fun i => (spl ((spl s [10]).getD 0 []) [32]).getD (1 + i) []) ((spl ((spl s [10]).getD 0 []) [32]).length - 1) 0; true :: true :: true :: true :: true :: true :: true :: true :: (!y0) :: (!y0) :: (!y0) :: (!y0) :: k9z_s_0 m te s
def g9z_s_2 (m : Int) (te : TypeId) (s : List UInt8) : List Bool := let y0 := (↑(nN (fun i => (spl ((spl s [10]).getD 0 []) [32]).getD (1 + i) []) ((spl ((spl s [10]).getD 0 []) [32]).length - 1)) : Int) != 6; true :: true :: true :: true :: y0 :: y0 :: y0 :: y0 :: k9z_s_1 m te s
def g9z_s_3 (m : Int) (te : TypeId) (s : List UInt8) : List Bool := true :: true :: true :: (decide ((↑(spl s [10]).length : Int) < 2)) :: k9z_s_2 m te s
def g9z_s_4 (m : Int) (te : TypeId) (s : List UInt8) : List Bool := (decide (0 ≤ IntKind.i64.wrap ((↑(spl s [10]).length : Int) - 1))) :: (decide (IntKind.i64.wrap ((↑(spl s [10]).length : Int) - 1) ≤ (↑(spl s [10]).length : Int))) :: true :: (decide (1 ≤ (↑(IntKind.i64.wrap ((↑(spl s [10]).length : Int) - 1)).toNat : Int))) :: true :: true :: true :: true :: (decide (5 < (↑(nN (fun i => (spl ((spl s [10]).getD 0 []) [32]).getD (1 + i) []) ((spl ((spl s [10]).getD 0 []) [32]).length - 1)) : Int))) :: true :: true :: (decide (4 < (↑(nN (fun i => (spl ((spl s [10]).getD 0 []) [32]).getD (1 + i) []) ((spl ((spl s [10]).getD 0 []) [32]).length - 1)) : Int))) :: true :: true :: (decide (3 < (↑(nN (fun i => (spl ((spl s [10]).getD 0 []) [32]).getD (1 + i) []) ((spl ((spl s [10]).getD 0 []) [32]).length - 1)) : Int))) :: true :: true :: (decide (2 < (↑(nN (fun i => (spl ((spl s [10]).getD 0 []) [32]).getD (1 + i) []) ((spl ((spl s [10]).getD 0 []) [32]).length - 1)) : Int))) :: true :: true :: (decide (1 < (↑(nN (fun i => (spl ((spl s [10]).getD 0 []) [32]).getD (1 + i) []) ((spl ((spl s [10]).getD 0 []) [32]).length - 1)) : Int))) :: true :: true :: (decide (0 < (↑(nN (fun i => (spl ((spl s [10]).getD 0 []) [32]).getD (1 + i) []) ((spl ((spl s [10]).getD 0 []) [32]).length - 1)) : Int))) :: true :: (!decide ((↑(spl s [10]).length : Int) < 2)) :: k9z_s_2 m te s
def k9z_0_0 (m : Int) (te : TypeId) (s : List UInt8) (x64 x65 : Int) (H : Hp) : List Bool := [true, true, decide (((spl s [10]).getD (1 + x65.toNat) []).length ≤ 1000000), decide (0 ≤ x65), decide (x65 < (↑((IntKind.i64.wrap ((↑(spl s [10]).length : Int) - 1)).toNat - 1) : Int)), true, decide (x65 < x64)]
def k9z_0_1 (m : Int) (te : TypeId) (s : List UInt8) (x64 x65 : Int) (H : Hp) : List Bool := (obIn H 1 7) :: true :: (!!rOk ((spl s [10]).getD (1 + x65.toNat) [])) :: k9z_0_0 m te s x64 x65 H
def k9z_0_2 (m : Int) (te : TypeId) (s : List UInt8) (x64 x65 : Int) (H : Hp) : List Bool := [pb (LendC H (T.agg [(obv H 1).cells.getD 0 undefT, (obv H 1).cells.getD 1 undefT, (obv H 1).cells.getD 2 undefT, (obv H 1).cells.getD 3 undefT, (obv H 1).cells.getD 4 undefT, (obv H 1).cells.getD 5 undefT, (obv H 1).cells.getD 6 undefT]) (dcOf H ((obv H 1).cells.getD 0 undefT) ((obv H 1).cells.getD 1 undefT) ((obv H 1).cells.getD 2 undefT) ((obv H 1).cells.getD 3 undefT) ((obv H 1).cells.getD 4 undefT) ((obv H 1).cells.getD 5 undefT) ((obv H 1).cells.getD 6 undefT))), pb (encP (dcOf H ((obv H 1).cells.getD 0 undefT) ((obv H 1).cells.getD 1 undefT) ((obv H 1).cells.getD 2 undefT) ((obv H 1).cells.getD 3 undefT) ((obv H 1).cells.getD 4 undefT) ((obv H 1).cells.getD 5 undefT) ((obv H 1).cells.getD 6 undefT))), obIn H 1 7, !decide (x65 < x64)]
def k9z_0_3 (m : Int) (te : TypeId) (s : List UInt8) (x64 x65 : Int) (H : Hp) : List Bool := let y0 := CheckE (dcOf H ((obv H 1).cells.getD 0 undefT) ((obv H 1).cells.getD 1 undefT) ((obv H 1).cells.getD 2 undefT) ((obv H 1).cells.getD 3 undefT) ((obv H 1).cells.getD 4 undefT) ((obv H 1).cells.getD 5 undefT) ((obv H 1).cells.getD 6 undefT)) != 0; (!y0) :: (!y0) :: (!y0) :: (!y0) :: k9z_0_2 m te s x64 x65 H
def g9z_0_1 (m : Int) (te : TypeId) (s : List UInt8) (x64 x65 : Int) (H : Hp) : List Bool := true :: (obIn H 0 7) :: true :: (!rOk ((spl s [10]).getD (1 + x65.toNat) [])) :: k9z_0_0 m te s x64 x65 H
def g9z_0_2 (m : Int) (te : TypeId) (s : List UInt8) (x64 x65 : Int) (H : Hp) : List Bool := true :: (obIn (H.new { elem := 42, sz := 7, cells := [T.int .i64 (rL ((spl s [10]).getD (1 + x65.toNat) [])).st.entry, T.slf false (rL ((spl s [10]).getD (1 + x65.toNat) [])).st.n fun i => T.int .i64 ((rL ((spl s [10]).getD (1 + x65.toNat) [])).st.at_ i), T.int .i64 (rL ((spl s [10]).getD (1 + x65.toNat) [])).mass, T.slf false (rL ((spl s [10]).getD (1 + x65.toNat) [])).k fun i => spT ((rL ((spl s [10]).getD (1 + x65.toNat) [])).from_ i), T.int .i64 (rL ((spl s [10]).getD (1 + x65.toNat) [])).fate, T.int .i64 (rL ((spl s [10]).getD (1 + x65.toNat) [])).closed, T.str (rL ((spl s [10]).getD (1 + x65.toNat) [])).node] }) 1 7) :: true :: true :: true :: true :: (isNils ((obv H 1).cells.getD 6 undefT)) :: k9z_0_1 m te s x64 x65 H
def g9z_0_3 (m : Int) (te : TypeId) (s : List UInt8) (x64 x65 : Int) (H : Hp) : List Bool := true :: (obIn ((H.drop (oslL ((obv H 1).cells.getD 6 undefT))).new { elem := 42, sz := 7, cells := (obv H (oslL ((obv H 1).cells.getD 6 undefT))).cells ++ [T.int .i64 (rL ((spl s [10]).getD (1 + x65.toNat) [])).st.entry, T.slf false (rL ((spl s [10]).getD (1 + x65.toNat) [])).st.n fun i => T.int .i64 ((rL ((spl s [10]).getD (1 + x65.toNat) [])).st.at_ i), T.int .i64 (rL ((spl s [10]).getD (1 + x65.toNat) [])).mass, T.slf false (rL ((spl s [10]).getD (1 + x65.toNat) [])).k fun i => spT ((rL ((spl s [10]).getD (1 + x65.toNat) [])).from_ i), T.int .i64 (rL ((spl s [10]).getD (1 + x65.toNat) [])).fate, T.int .i64 (rL ((spl s [10]).getD (1 + x65.toNat) [])).closed, T.str (rL ((spl s [10]).getD (1 + x65.toNat) [])).node] }) 1 7) :: true :: true :: true :: (obApp H (oslL ((obv H 1).cells.getD 6 undefT)) 42 7 (oslN ((obv H 1).cells.getD 6 undefT))) :: (roomT (oslN ((obv H 1).cells.getD 6 undefT) + 1) 96) :: (isOslS 7 ((obv H 1).cells.getD 6 undefT)) :: k9z_0_1 m te s x64 x65 H
def g9z_0_4 (m : Int) (te : TypeId) (s : List UInt8) (x64 x65 : Int) (H : Hp) : List Bool := let y0 := CheckE (dcOf H ((obv H 1).cells.getD 0 undefT) ((obv H 1).cells.getD 1 undefT) ((obv H 1).cells.getD 2 undefT) ((obv H 1).cells.getD 3 undefT) ((obv H 1).cells.getD 4 undefT) ((obv H 1).cells.getD 5 undefT) ((obv H 1).cells.getD 6 undefT)) != 0; true :: (obIn H 0 7) :: true :: true :: y0 :: y0 :: y0 :: y0 :: k9z_0_2 m te s x64 x65 H
def g9z_0_5 (m : Int) (te : TypeId) (s : List UInt8) (x64 x65 : Int) (H : Hp) : List Bool := true :: (obIn H 0 7) :: true :: (!encT (dcOf H ((obv H 1).cells.getD 0 undefT) ((obv H 1).cells.getD 1 undefT) ((obv H 1).cells.getD 2 undefT) ((obv H 1).cells.getD 3 undefT) ((obv H 1).cells.getD 4 undefT) ((obv H 1).cells.getD 5 undefT) ((obv H 1).cells.getD 6 undefT)) == s) :: k9z_0_3 m te s x64 x65 H
def g9z_0_6 (m : Int) (te : TypeId) (s : List UInt8) (x64 x65 : Int) (H : Hp) : List Bool := true :: (obIn H 0 7) :: (allOne [(obv H 1).cells.getD 0 undefT, (obv H 1).cells.getD 1 undefT, (obv H 1).cells.getD 2 undefT, (obv H 1).cells.getD 3 undefT, (obv H 1).cells.getD 4 undefT, (obv H 1).cells.getD 5 undefT, (obv H 1).cells.getD 6 undefT]) :: (obIn H 1 7) :: (!!encT (dcOf H ((obv H 1).cells.getD 0 undefT) ((obv H 1).cells.getD 1 undefT) ((obv H 1).cells.getD 2 undefT) ((obv H 1).cells.getD 3 undefT) ((obv H 1).cells.getD 4 undefT) ((obv H 1).cells.getD 5 undefT) ((obv H 1).cells.getD 6 undefT)) == s) :: k9z_0_3 m te s x64 x65 H
def q9z_0_1 (m : Int) (te : TypeId) (s : List UInt8) (x64 x65 : Int) (H : Hp) : Option T := if (obIn { next := H.next, objs := setOb H.objs 0 (have __src := obv H 0; { elem := __src.elem, sz := __src.sz, cells := T.int .i64 0 :: T.int .i64 0 :: T.int .i64 0 :: T.int .i64 0 :: T.int .i64 0 :: T.int .i64 0 :: T.nils :: (List.drop (0 + 7) (obv H 0).cells) }) } 0 7 && true) = true then frzT 20 { next := H.next, objs := setOb H.objs 0 (have __src := obv H 0; { elem := __src.elem, sz := __src.sz, cells := T.int .i64 0 :: T.int .i64 0 :: T.int .i64 0 :: T.int .i64 0 :: T.int .i64 0 :: T.int .i64 0 :: T.nils :: (List.drop (0 + 7) (obv H 0).cells) }) } (T.tup [T.agg [(obv { next := H.next, objs := setOb H.objs 0 (have __src := obv H 0; { elem := __src.elem, sz := __src.sz, cells := T.int .i64 0 :: T.int .i64 0 :: T.int .i64 0 :: T.int .i64 0 :: T.int .i64 0 :: T.int .i64 0 :: T.nils :: (List.drop (0 + 7) (obv H 0).cells) }) } 0).cells.getD 0 undefT, (obv { next := H.next, objs := setOb H.objs 0 (have __src := obv H 0; { elem := __src.elem, sz := __src.sz, cells := T.int .i64 0 :: T.int .i64 0 :: T.int .i64 0 :: T.int .i64 0 :: T.int .i64 0 :: T.int .i64 0 :: T.nils :: (List.drop (0 + 7) (obv H 0).cells) }) } 0).cells.getD 1 undefT, (obv { next := H.next, objs := setOb H.objs 0 (have __src := obv H 0; { elem := __src.elem, sz := __src.sz, cells := T.int .i64 0 :: T.int .i64 0 :: T.int .i64 0 :: T.int .i64 0 :: T.int .i64 0 :: T.int .i64 0 :: T.nils :: (List.drop (0 + 7) (obv H 0).cells) }) } 0).cells.getD 2 undefT, (obv { next := H.next, objs := setOb H.objs 0 (have __src := obv H 0; { elem := __src.elem, sz := __src.sz, cells := T.int .i64 0 :: T.int .i64 0 :: T.int .i64 0 :: T.int .i64 0 :: T.int .i64 0 :: T.int .i64 0 :: T.nils :: (List.drop (0 + 7) (obv H 0).cells) }) } 0).cells.getD 3 undefT, (obv { next := H.next, objs := setOb H.objs 0 (have __src := obv H 0; { elem := __src.elem, sz := __src.sz, cells := T.int .i64 0 :: T.int .i64 0 :: T.int .i64 0 :: T.int .i64 0 :: T.int .i64 0 :: T.int .i64 0 :: T.nils :: (List.drop (0 + 7) (obv H 0).cells) }) } 0).cells.getD 4 undefT, (obv { next := H.next, objs := setOb H.objs 0 (have __src := obv H 0; { elem := __src.elem, sz := __src.sz, cells := T.int .i64 0 :: T.int .i64 0 :: T.int .i64 0 :: T.int .i64 0 :: T.int .i64 0 :: T.int .i64 0 :: T.nils :: (List.drop (0 + 7) (obv H 0).cells) }) } 0).cells.getD 5 undefT, (obv { next := H.next, objs := setOb H.objs 0 (have __src := obv H 0; { elem := __src.elem, sz := __src.sz, cells := T.int .i64 0 :: T.int .i64 0 :: T.int .i64 0 :: T.int .i64 0 :: T.int .i64 0 :: T.int .i64 0 :: T.nils :: (List.drop (0 + 7) (obv H 0).cells) }) } 0).cells.getD 6 undefT], T.int .i64 3]) else none
def q9z_0_4 (m : Int) (te : TypeId) (s : List UInt8) (x64 x65 : Int) (H : Hp) : Option T := if (obIn { next := H.next, objs := setOb H.objs 0 (have __src := obv H 0; { elem := __src.elem, sz := __src.sz, cells := T.int .i64 0 :: T.int .i64 0 :: T.int .i64 0 :: T.int .i64 0 :: T.int .i64 0 :: T.int .i64 0 :: T.nils :: (List.drop (0 + 7) (obv H 0).cells) }) } 0 7 && true) = true then frzT 20 { next := H.next, objs := setOb H.objs 0 (have __src := obv H 0; { elem := __src.elem, sz := __src.sz, cells := T.int .i64 0 :: T.int .i64 0 :: T.int .i64 0 :: T.int .i64 0 :: T.int .i64 0 :: T.int .i64 0 :: T.nils :: (List.drop (0 + 7) (obv H 0).cells) }) } (T.tup [T.agg [(obv { next := H.next, objs := setOb H.objs 0 (have __src := obv H 0; { elem := __src.elem, sz := __src.sz, cells := T.int .i64 0 :: T.int .i64 0 :: T.int .i64 0 :: T.int .i64 0 :: T.int .i64 0 :: T.int .i64 0 :: T.nils :: (List.drop (0 + 7) (obv H 0).cells) }) } 0).cells.getD 0 undefT, (obv { next := H.next, objs := setOb H.objs 0 (have __src := obv H 0; { elem := __src.elem, sz := __src.sz, cells := T.int .i64 0 :: T.int .i64 0 :: T.int .i64 0 :: T.int .i64 0 :: T.int .i64 0 :: T.int .i64 0 :: T.nils :: (List.drop (0 + 7) (obv H 0).cells) }) } 0).cells.getD 1 undefT, (obv { next := H.next, objs := setOb H.objs 0 (have __src := obv H 0; { elem := __src.elem, sz := __src.sz, cells := T.int .i64 0 :: T.int .i64 0 :: T.int .i64 0 :: T.int .i64 0 :: T.int .i64 0 :: T.int .i64 0 :: T.nils :: (List.drop (0 + 7) (obv H 0).cells) }) } 0).cells.getD 2 undefT, (obv { next := H.next, objs := setOb H.objs 0 (have __src := obv H 0; { elem := __src.elem, sz := __src.sz, cells := T.int .i64 0 :: T.int .i64 0 :: T.int .i64 0 :: T.int .i64 0 :: T.int .i64 0 :: T.int .i64 0 :: T.nils :: (List.drop (0 + 7) (obv H 0).cells) }) } 0).cells.getD 3 undefT, (obv { next := H.next, objs := setOb H.objs 0 (have __src := obv H 0; { elem := __src.elem, sz := __src.sz, cells := T.int .i64 0 :: T.int .i64 0 :: T.int .i64 0 :: T.int .i64 0 :: T.int .i64 0 :: T.int .i64 0 :: T.nils :: (List.drop (0 + 7) (obv H 0).cells) }) } 0).cells.getD 4 undefT, (obv { next := H.next, objs := setOb H.objs 0 (have __src := obv H 0; { elem := __src.elem, sz := __src.sz, cells := T.int .i64 0 :: T.int .i64 0 :: T.int .i64 0 :: T.int .i64 0 :: T.int .i64 0 :: T.int .i64 0 :: T.nils :: (List.drop (0 + 7) (obv H 0).cells) }) } 0).cells.getD 5 undefT, (obv { next := H.next, objs := setOb H.objs 0 (have __src := obv H 0; { elem := __src.elem, sz := __src.sz, cells := T.int .i64 0 :: T.int .i64 0 :: T.int .i64 0 :: T.int .i64 0 :: T.int .i64 0 :: T.int .i64 0 :: T.nils :: (List.drop (0 + 7) (obv H 0).cells) }) } 0).cells.getD 6 undefT], T.int .i64 3]) else none
def q9z_0_5 (m : Int) (te : TypeId) (s : List UInt8) (x64 x65 : Int) (H : Hp) : Option T := if (obIn { next := H.next, objs := setOb H.objs 0 (have __src := obv H 0; { elem := __src.elem, sz := __src.sz, cells := T.int .i64 0 :: T.int .i64 0 :: T.int .i64 0 :: T.int .i64 0 :: T.int .i64 0 :: T.int .i64 0 :: T.nils :: (List.drop (0 + 7) (obv H 0).cells) }) } 0 7 && true) = true then frzT 20 { next := H.next, objs := setOb H.objs 0 (have __src := obv H 0; { elem := __src.elem, sz := __src.sz, cells := T.int .i64 0 :: T.int .i64 0 :: T.int .i64 0 :: T.int .i64 0 :: T.int .i64 0 :: T.int .i64 0 :: T.nils :: (List.drop (0 + 7) (obv H 0).cells) }) } (T.tup [T.agg [(obv { next := H.next, objs := setOb H.objs 0 (have __src := obv H 0; { elem := __src.elem, sz := __src.sz, cells := T.int .i64 0 :: T.int .i64 0 :: T.int .i64 0 :: T.int .i64 0 :: T.int .i64 0 :: T.int .i64 0 :: T.nils :: (List.drop (0 + 7) (obv H 0).cells) }) } 0).cells.getD 0 undefT, (obv { next := H.next, objs := setOb H.objs 0 (have __src := obv H 0; { elem := __src.elem, sz := __src.sz, cells := T.int .i64 0 :: T.int .i64 0 :: T.int .i64 0 :: T.int .i64 0 :: T.int .i64 0 :: T.int .i64 0 :: T.nils :: (List.drop (0 + 7) (obv H 0).cells) }) } 0).cells.getD 1 undefT, (obv { next := H.next, objs := setOb H.objs 0 (have __src := obv H 0; { elem := __src.elem, sz := __src.sz, cells := T.int .i64 0 :: T.int .i64 0 :: T.int .i64 0 :: T.int .i64 0 :: T.int .i64 0 :: T.int .i64 0 :: T.nils :: (List.drop (0 + 7) (obv H 0).cells) }) } 0).cells.getD 2 undefT, (obv { next := H.next, objs := setOb H.objs 0 (have __src := obv H 0; { elem := __src.elem, sz := __src.sz, cells := T.int .i64 0 :: T.int .i64 0 :: T.int .i64 0 :: T.int .i64 0 :: T.int .i64 0 :: T.int .i64 0 :: T.nils :: (List.drop (0 + 7) (obv H 0).cells) }) } 0).cells.getD 3 undefT, (obv { next := H.next, objs := setOb H.objs 0 (have __src := obv H 0; { elem := __src.elem, sz := __src.sz, cells := T.int .i64 0 :: T.int .i64 0 :: T.int .i64 0 :: T.int .i64 0 :: T.int .i64 0 :: T.int .i64 0 :: T.nils :: (List.drop (0 + 7) (obv H 0).cells) }) } 0).cells.getD 4 undefT, (obv { next := H.next, objs := setOb H.objs 0 (have __src := obv H 0; { elem := __src.elem, sz := __src.sz, cells := T.int .i64 0 :: T.int .i64 0 :: T.int .i64 0 :: T.int .i64 0 :: T.int .i64 0 :: T.int .i64 0 :: T.nils :: (List.drop (0 + 7) (obv H 0).cells) }) } 0).cells.getD 5 undefT, (obv { next := H.next, objs := setOb H.objs 0 (have __src := obv H 0; { elem := __src.elem, sz := __src.sz, cells := T.int .i64 0 :: T.int .i64 0 :: T.int .i64 0 :: T.int .i64 0 :: T.int .i64 0 :: T.int .i64 0 :: T.nils :: (List.drop (0 + 7) (obv H 0).cells) }) } 0).cells.getD 6 undefT], T.int .i64 3]) else none
def q9z_0_6 (m : Int) (te : TypeId) (s : List UInt8) (x64 x65 : Int) (H : Hp) : Option T := if (obIn { next := H.next, objs := setOb H.objs 0 (have __src := obv H 0; { elem := __src.elem, sz := __src.sz, cells := (obv H 1).cells.getD 0 undefT :: (obv H 1).cells.getD 1 undefT :: (obv H 1).cells.getD 2 undefT :: (obv H 1).cells.getD 3 undefT :: (obv H 1).cells.getD 4 undefT :: (obv H 1).cells.getD 5 undefT :: (obv H 1).cells.getD 6 undefT :: (List.drop (0 + 7) (obv H 0).cells) }) } 0 7 && true) = true then frzT 20 { next := H.next, objs := setOb H.objs 0 (have __src := obv H 0; { elem := __src.elem, sz := __src.sz, cells := (obv H 1).cells.getD 0 undefT :: (obv H 1).cells.getD 1 undefT :: (obv H 1).cells.getD 2 undefT :: (obv H 1).cells.getD 3 undefT :: (obv H 1).cells.getD 4 undefT :: (obv H 1).cells.getD 5 undefT :: (obv H 1).cells.getD 6 undefT :: (List.drop (0 + 7) (obv H 0).cells) }) } (T.tup [T.agg [(obv { next := H.next, objs := setOb H.objs 0 (have __src := obv H 0; { elem := __src.elem, sz := __src.sz, cells := (obv H 1).cells.getD 0 undefT :: (obv H 1).cells.getD 1 undefT :: (obv H 1).cells.getD 2 undefT :: (obv H 1).cells.getD 3 undefT :: (obv H 1).cells.getD 4 undefT :: (obv H 1).cells.getD 5 undefT :: (obv H 1).cells.getD 6 undefT :: (List.drop (0 + 7) (obv H 0).cells) }) } 0).cells.getD 0 undefT, (obv { next := H.next, objs := setOb H.objs 0 (have __src := obv H 0; { elem := __src.elem, sz := __src.sz, cells := (obv H 1).cells.getD 0 undefT :: (obv H 1).cells.getD 1 undefT :: (obv H 1).cells.getD 2 undefT :: (obv H 1).cells.getD 3 undefT :: (obv H 1).cells.getD 4 undefT :: (obv H 1).cells.getD 5 undefT :: (obv H 1).cells.getD 6 undefT :: (List.drop (0 + 7) (obv H 0).cells) }) } 0).cells.getD 1 undefT, (obv { next := H.next, objs := setOb H.objs 0 (have __src := obv H 0; { elem := __src.elem, sz := __src.sz, cells := (obv H 1).cells.getD 0 undefT :: (obv H 1).cells.getD 1 undefT :: (obv H 1).cells.getD 2 undefT :: (obv H 1).cells.getD 3 undefT :: (obv H 1).cells.getD 4 undefT :: (obv H 1).cells.getD 5 undefT :: (obv H 1).cells.getD 6 undefT :: (List.drop (0 + 7) (obv H 0).cells) }) } 0).cells.getD 2 undefT, (obv { next := H.next, objs := setOb H.objs 0 (have __src := obv H 0; { elem := __src.elem, sz := __src.sz, cells := (obv H 1).cells.getD 0 undefT :: (obv H 1).cells.getD 1 undefT :: (obv H 1).cells.getD 2 undefT :: (obv H 1).cells.getD 3 undefT :: (obv H 1).cells.getD 4 undefT :: (obv H 1).cells.getD 5 undefT :: (obv H 1).cells.getD 6 undefT :: (List.drop (0 + 7) (obv H 0).cells) }) } 0).cells.getD 3 undefT, (obv { next := H.next, objs := setOb H.objs 0 (have __src := obv H 0; { elem := __src.elem, sz := __src.sz, cells := (obv H 1).cells.getD 0 undefT :: (obv H 1).cells.getD 1 undefT :: (obv H 1).cells.getD 2 undefT :: (obv H 1).cells.getD 3 undefT :: (obv H 1).cells.getD 4 undefT :: (obv H 1).cells.getD 5 undefT :: (obv H 1).cells.getD 6 undefT :: (List.drop (0 + 7) (obv H 0).cells) }) } 0).cells.getD 4 undefT, (obv { next := H.next, objs := setOb H.objs 0 (have __src := obv H 0; { elem := __src.elem, sz := __src.sz, cells := (obv H 1).cells.getD 0 undefT :: (obv H 1).cells.getD 1 undefT :: (obv H 1).cells.getD 2 undefT :: (obv H 1).cells.getD 3 undefT :: (obv H 1).cells.getD 4 undefT :: (obv H 1).cells.getD 5 undefT :: (obv H 1).cells.getD 6 undefT :: (List.drop (0 + 7) (obv H 0).cells) }) } 0).cells.getD 5 undefT, (obv { next := H.next, objs := setOb H.objs 0 (have __src := obv H 0; { elem := __src.elem, sz := __src.sz, cells := (obv H 1).cells.getD 0 undefT :: (obv H 1).cells.getD 1 undefT :: (obv H 1).cells.getD 2 undefT :: (obv H 1).cells.getD 3 undefT :: (obv H 1).cells.getD 4 undefT :: (obv H 1).cells.getD 5 undefT :: (obv H 1).cells.getD 6 undefT :: (List.drop (0 + 7) (obv H 0).cells) }) } 0).cells.getD 6 undefT], T.int .i64 0]) else none
def V9z_0 (m : Int) (te : TypeId) (s : List UInt8) (x64 x65 : Int) (H : Hp) : S9z ⊕ T :=
 (if decide (x65 < x64) then (if !rOk ((spl s [10]).getD (1 + x65.toNat) []) then (.inr ((q9z_0_1 m te s x64 x65 H).getD undefT)) else (if isNils ((obv H 1).cells.getD 6 undefT) then (.inl (.l0 x64 (IntKind.i64.wrap (x65 + 1)) ({ next := H.next + 1, objs := setOb ((H.next, { elem := 42, sz := 7, cells := [T.int .i64 (rL ((spl s [10]).getD (1 + x65.toNat) [])).st.entry, T.slf false (rL ((spl s [10]).getD (1 + x65.toNat) [])).st.n fun i => T.int .i64 ((rL ((spl s [10]).getD (1 + x65.toNat) [])).st.at_ i), T.int .i64 (rL ((spl s [10]).getD (1 + x65.toNat) [])).mass, T.slf false (rL ((spl s [10]).getD (1 + x65.toNat) [])).k fun i => spT ((rL ((spl s [10]).getD (1 + x65.toNat) [])).from_ i), T.int .i64 (rL ((spl s [10]).getD (1 + x65.toNat) [])).fate, T.int .i64 (rL ((spl s [10]).getD (1 + x65.toNat) [])).closed, T.str (rL ((spl s [10]).getD (1 + x65.toNat) [])).node] }) :: H.objs) 1 (have __src := obv (H.new { elem := 42, sz := 7, cells := [T.int .i64 (rL ((spl s [10]).getD (1 + x65.toNat) [])).st.entry, T.slf false (rL ((spl s [10]).getD (1 + x65.toNat) [])).st.n fun i => T.int .i64 ((rL ((spl s [10]).getD (1 + x65.toNat) [])).st.at_ i), T.int .i64 (rL ((spl s [10]).getD (1 + x65.toNat) [])).mass, T.slf false (rL ((spl s [10]).getD (1 + x65.toNat) [])).k fun i => spT ((rL ((spl s [10]).getD (1 + x65.toNat) [])).from_ i), T.int .i64 (rL ((spl s [10]).getD (1 + x65.toNat) [])).fate, T.int .i64 (rL ((spl s [10]).getD (1 + x65.toNat) [])).closed, T.str (rL ((spl s [10]).getD (1 + x65.toNat) [])).node] }) 1; { elem := __src.elem, sz := __src.sz, cells := spliceT (obv (H.new { elem := 42, sz := 7, cells := [T.int .i64 (rL ((spl s [10]).getD (1 + x65.toNat) [])).st.entry, T.slf false (rL ((spl s [10]).getD (1 + x65.toNat) [])).st.n fun i => T.int .i64 ((rL ((spl s [10]).getD (1 + x65.toNat) [])).st.at_ i), T.int .i64 (rL ((spl s [10]).getD (1 + x65.toNat) [])).mass, T.slf false (rL ((spl s [10]).getD (1 + x65.toNat) [])).k fun i => spT ((rL ((spl s [10]).getD (1 + x65.toNat) [])).from_ i), T.int .i64 (rL ((spl s [10]).getD (1 + x65.toNat) [])).fate, T.int .i64 (rL ((spl s [10]).getD (1 + x65.toNat) [])).closed, T.str (rL ((spl s [10]).getD (1 + x65.toNat) [])).node] }) 1).cells 6 [T.osl H.next 7 0 1] }) }))) else (.inl (.l0 x64 (IntKind.i64.wrap (x65 + 1)) ({ next := H.next + 1, objs := setOb ((H.next, { elem := 42, sz := 7, cells := (obv H (oslL ((obv H 1).cells.getD 6 undefT))).cells ++ [T.int .i64 (rL ((spl s [10]).getD (1 + x65.toNat) [])).st.entry, T.slf false (rL ((spl s [10]).getD (1 + x65.toNat) [])).st.n fun i => T.int .i64 ((rL ((spl s [10]).getD (1 + x65.toNat) [])).st.at_ i), T.int .i64 (rL ((spl s [10]).getD (1 + x65.toNat) [])).mass, T.slf false (rL ((spl s [10]).getD (1 + x65.toNat) [])).k fun i => spT ((rL ((spl s [10]).getD (1 + x65.toNat) [])).from_ i), T.int .i64 (rL ((spl s [10]).getD (1 + x65.toNat) [])).fate, T.int .i64 (rL ((spl s [10]).getD (1 + x65.toNat) [])).closed, T.str (rL ((spl s [10]).getD (1 + x65.toNat) [])).node] }) :: dropOb H.objs (oslL ((obv H 1).cells.getD 6 undefT))) 1 (have __src := obv ((H.drop (oslL ((obv H 1).cells.getD 6 undefT))).new { elem := 42, sz := 7, cells := (obv H (oslL ((obv H 1).cells.getD 6 undefT))).cells ++ [T.int .i64 (rL ((spl s [10]).getD (1 + x65.toNat) [])).st.entry, T.slf false (rL ((spl s [10]).getD (1 + x65.toNat) [])).st.n fun i => T.int .i64 ((rL ((spl s [10]).getD (1 + x65.toNat) [])).st.at_ i), T.int .i64 (rL ((spl s [10]).getD (1 + x65.toNat) [])).mass, T.slf false (rL ((spl s [10]).getD (1 + x65.toNat) [])).k fun i => spT ((rL ((spl s [10]).getD (1 + x65.toNat) [])).from_ i), T.int .i64 (rL ((spl s [10]).getD (1 + x65.toNat) [])).fate, T.int .i64 (rL ((spl s [10]).getD (1 + x65.toNat) [])).closed, T.str (rL ((spl s [10]).getD (1 + x65.toNat) [])).node] }) 1; { elem := __src.elem, sz := __src.sz, cells := spliceT (obv ((H.drop (oslL ((obv H 1).cells.getD 6 undefT))).new { elem := 42, sz := 7, cells := (obv H (oslL ((obv H 1).cells.getD 6 undefT))).cells ++ [T.int .i64 (rL ((spl s [10]).getD (1 + x65.toNat) [])).st.entry, T.slf false (rL ((spl s [10]).getD (1 + x65.toNat) [])).st.n fun i => T.int .i64 ((rL ((spl s [10]).getD (1 + x65.toNat) [])).st.at_ i), T.int .i64 (rL ((spl s [10]).getD (1 + x65.toNat) [])).mass, T.slf false (rL ((spl s [10]).getD (1 + x65.toNat) [])).k fun i => spT ((rL ((spl s [10]).getD (1 + x65.toNat) [])).from_ i), T.int .i64 (rL ((spl s [10]).getD (1 + x65.toNat) [])).fate, T.int .i64 (rL ((spl s [10]).getD (1 + x65.toNat) [])).closed, T.str (rL ((spl s [10]).getD (1 + x65.toNat) [])).node] }) 1).cells 6 [T.osl H.next 7 0 (oslN ((obv H 1).cells.getD 6 undefT) + 1)] }) }))))) else (if CheckE (dcOf H ((obv H 1).cells.getD 0 undefT) ((obv H 1).cells.getD 1 undefT) ((obv H 1).cells.getD 2 undefT) ((obv H 1).cells.getD 3 undefT) ((obv H 1).cells.getD 4 undefT) ((obv H 1).cells.getD 5 undefT) ((obv H 1).cells.getD 6 undefT)) != 0 then (.inr ((q9z_0_4 m te s x64 x65 H).getD undefT)) else (if !encT (dcOf H ((obv H 1).cells.getD 0 undefT) ((obv H 1).cells.getD 1 undefT) ((obv H 1).cells.getD 2 undefT) ((obv H 1).cells.getD 3 undefT) ((obv H 1).cells.getD 4 undefT) ((obv H 1).cells.getD 5 undefT) ((obv H 1).cells.getD 6 undefT)) == s then (.inr ((q9z_0_5 m te s x64 x65 H).getD undefT)) else (.inr ((q9z_0_6 m te s x64 x65 H).getD undefT)))))
def K9z_0 (m : Int) (te : TypeId) (s : List UInt8) (x64 x65 : Int) (H : Hp) : Bool :=
 (if decide (x65 < x64) then (if !rOk ((spl s [10]).getD (1 + x65.toNat) []) then (allT (g9z_0_1 m te s x64 x65 H) && (q9z_0_1 m te s x64 x65 H).isSome) else (if isNils ((obv H 1).cells.getD 6 undefT) then (allT (g9z_0_2 m te s x64 x65 H)) else (allT (g9z_0_3 m te s x64 x65 H)))) else (if CheckE (dcOf H ((obv H 1).cells.getD 0 undefT) ((obv H 1).cells.getD 1 undefT) ((obv H 1).cells.getD 2 undefT) ((obv H 1).cells.getD 3 undefT) ((obv H 1).cells.getD 4 undefT) ((obv H 1).cells.getD 5 undefT) ((obv H 1).cells.getD 6 undefT)) != 0 then (allT (g9z_0_4 m te s x64 x65 H) && (q9z_0_4 m te s x64 x65 H).isSome) else (if !encT (dcOf H ((obv H 1).cells.getD 0 undefT) ((obv H 1).cells.getD 1 undefT) ((obv H 1).cells.getD 2 undefT) ((obv H 1).cells.getD 3 undefT) ((obv H 1).cells.getD 4 undefT) ((obv H 1).cells.getD 5 undefT) ((obv H 1).cells.getD 6 undefT)) == s then (allT (g9z_0_5 m te s x64 x65 H) && (q9z_0_5 m te s x64 x65 H).isSome) else (allT (g9z_0_6 m te s x64 x65 H) && (q9z_0_6 m te s x64 x65 H).isSome))))
def step9z_0 (m : Int) (te : TypeId) (s : List UInt8) (x64 x65 : Int) (H : Hp) : Option (S9z ⊕ T) := if K9z_0 m te s x64 x65 H then some (V9z_0 m te s x64 x65 H) else none
theorem T9z_0 (m : Int) (te : TypeId) (s : List UInt8) (x64 x65 : Int) (H : Hp) (hk : K9z_0 m te s x64 x65 H = true) : step9z_0 m te s x64 x65 H = some (V9z_0 m te s x64 x65 H) := if_pos hk
def V9z_s (m : Int) (te : TypeId) (s : List UInt8) : S9z ⊕ T :=
 (if !allR (fun i => (spl ((spl s [10]).getD 0 []) [32]).getD (1 + i) []) ((spl ((spl s [10]).getD 0 []) [32]).length - 1) 0 then (.inr (T.tup [T.agg [T.int .i64 0, T.int .i64 0, T.int .i64 0, T.int .i64 0, T.int .i64 0, T.int .i64 0, T.nils], T.int .i64 3])) else (if (↑(nN (fun i => (spl ((spl s [10]).getD 0 []) [32]).getD (1 + i) []) ((spl ((spl s [10]).getD 0 []) [32]).length - 1)) : Int) != 6 then (.inr (T.tup [T.agg [T.int .i64 0, T.int .i64 0, T.int .i64 0, T.int .i64 0, T.int .i64 0, T.int .i64 0, T.nils], T.int .i64 3])) else (if decide ((↑(spl s [10]).length : Int) < 2) then (.inr (T.tup [T.agg [T.int .i64 0, T.int .i64 0, T.int .i64 0, T.int .i64 0, T.int .i64 0, T.int .i64 0, T.nils], T.int .i64 3])) else (.inl (.l0 (↑((IntKind.i64.wrap ((↑(spl s [10]).length : Int) - 1)).toNat - 1) : Int) 0 ({ next := 2, objs := [(1, { elem := 24, sz := 0, cells := [T.int .i64 (aV ((spl ((spl s [10]).getD 0 []) [32]).getD 1 [])), T.int .i64 (aV ((spl ((spl s [10]).getD 0 []) [32]).getD 2 [])), T.int .i64 (aV ((spl ((spl s [10]).getD 0 []) [32]).getD 3 [])), T.int .i64 (aV ((spl ((spl s [10]).getD 0 []) [32]).getD 4 [])), T.int .i64 (aV ((spl ((spl s [10]).getD 0 []) [32]).getD 5 [])), T.int .i64 (aV ((spl ((spl s [10]).getD 0 []) [32]).getD 6 [])), T.nils] }), (0, { elem := 24, sz := 0, cells := [T.int .i64 0, T.int .i64 0, T.int .i64 0, T.int .i64 0, T.int .i64 0, T.int .i64 0, T.nils] })] }))))))
def K9z_s (m : Int) (te : TypeId) (s : List UInt8) : Bool :=
 (if !allR (fun i => (spl ((spl s [10]).getD 0 []) [32]).getD (1 + i) []) ((spl ((spl s [10]).getD 0 []) [32]).length - 1) 0 then (allT (g9z_s_1 m te s)) else (if (↑(nN (fun i => (spl ((spl s [10]).getD 0 []) [32]).getD (1 + i) []) ((spl ((spl s [10]).getD 0 []) [32]).length - 1)) : Int) != 6 then (allT (g9z_s_2 m te s)) else (if decide ((↑(spl s [10]).length : Int) < 2) then (allT (g9z_s_3 m te s)) else (allT (g9z_s_4 m te s)))))
def step9z (m : Int) (te : TypeId) (s : List UInt8) : S9z → Option (S9z ⊕ T)
 | .l0 x64 x65 H => step9z_0 m te s x64 x65 H
def M9z (m : Int) (te : TypeId) (s : List UInt8) : Mch S9z where
 lp := fun σ => match σ with
  | .l0 .. => 0
 keep := fun ι => match ι with
  | 0 => [0, 2, 8, 63, 64, 65]
  | _ => []
 par := fun ι => match ι with
  | 0 => []
  | _ => []
 vs := fun σ => match σ with
  | .l0 x64 x65 H => [T.str s, T.ptr 0 0, T.ptr 1 0, T.slf (true && (IntKind.i64.wrap ((↑(spl s [10]).length : Int) - 1)).toNat == (spl s [10]).length) ((IntKind.i64.wrap ((↑(spl s [10]).length : Int) - 1)).toNat - 1) fun i => T.str ((spl s [10]).getD (1 + i) []), T.int .i64 x64, T.int .i64 x65]
 hp := fun σ => match σ with
  | .l0 _ _ H => H
 len := 98
 step := step9z m te s
def r9z_0 (m : Int) (te : TypeId) (s : List UInt8) (x64 x65 : Int) (H : Hp) (fr : List T) (ds : List Bool) : RD Out := (M9z m te s).rk prog (D61 m te) F9 f9 (.l0 x64 x65 H) fr ds
theorem w9z_0_1 (m : Int) (te : TypeId) (s : List UInt8) (x64 x65 : Int) (H : Hp) (fr : List T) : outK prog f9 20 [] (r9z_0 m te s x64 x65 H fr [true, true]) = wdq (q9z_0_1 m te s x64 x65 H) (g9z_0_1 m te s x64 x65 H) := by kernel_rfl
theorem w9z_0_2 (m : Int) (te : TypeId) (s : List UInt8) (x64 x65 : Int) (H : Hp) (fr : List T) : (M9z m te s).wa prog f9 (r9z_0 m te s x64 x65 H fr [true, false, true]) 0 (g9z_0_2 m te s x64 x65 H) (.l0 x64 (IntKind.i64.wrap (x65 + 1)) ({ next := H.next + 1, objs := setOb ((H.next, { elem := 42, sz := 7, cells := [T.int .i64 (rL ((spl s [10]).getD (1 + x65.toNat) [])).st.entry, T.slf false (rL ((spl s [10]).getD (1 + x65.toNat) [])).st.n fun i => T.int .i64 ((rL ((spl s [10]).getD (1 + x65.toNat) [])).st.at_ i), T.int .i64 (rL ((spl s [10]).getD (1 + x65.toNat) [])).mass, T.slf false (rL ((spl s [10]).getD (1 + x65.toNat) [])).k fun i => spT ((rL ((spl s [10]).getD (1 + x65.toNat) [])).from_ i), T.int .i64 (rL ((spl s [10]).getD (1 + x65.toNat) [])).fate, T.int .i64 (rL ((spl s [10]).getD (1 + x65.toNat) [])).closed, T.str (rL ((spl s [10]).getD (1 + x65.toNat) [])).node] }) :: H.objs) 1 (have __src := obv (H.new { elem := 42, sz := 7, cells := [T.int .i64 (rL ((spl s [10]).getD (1 + x65.toNat) [])).st.entry, T.slf false (rL ((spl s [10]).getD (1 + x65.toNat) [])).st.n fun i => T.int .i64 ((rL ((spl s [10]).getD (1 + x65.toNat) [])).st.at_ i), T.int .i64 (rL ((spl s [10]).getD (1 + x65.toNat) [])).mass, T.slf false (rL ((spl s [10]).getD (1 + x65.toNat) [])).k fun i => spT ((rL ((spl s [10]).getD (1 + x65.toNat) [])).from_ i), T.int .i64 (rL ((spl s [10]).getD (1 + x65.toNat) [])).fate, T.int .i64 (rL ((spl s [10]).getD (1 + x65.toNat) [])).closed, T.str (rL ((spl s [10]).getD (1 + x65.toNat) [])).node] }) 1; { elem := __src.elem, sz := __src.sz, cells := spliceT (obv (H.new { elem := 42, sz := 7, cells := [T.int .i64 (rL ((spl s [10]).getD (1 + x65.toNat) [])).st.entry, T.slf false (rL ((spl s [10]).getD (1 + x65.toNat) [])).st.n fun i => T.int .i64 ((rL ((spl s [10]).getD (1 + x65.toNat) [])).st.at_ i), T.int .i64 (rL ((spl s [10]).getD (1 + x65.toNat) [])).mass, T.slf false (rL ((spl s [10]).getD (1 + x65.toNat) [])).k fun i => spT ((rL ((spl s [10]).getD (1 + x65.toNat) [])).from_ i), T.int .i64 (rL ((spl s [10]).getD (1 + x65.toNat) [])).fate, T.int .i64 (rL ((spl s [10]).getD (1 + x65.toNat) [])).closed, T.str (rL ((spl s [10]).getD (1 + x65.toNat) [])).node] }) 1).cells 6 [T.osl H.next 7 0 1] }) })) := by unfold Mch.wa; kernel_rfl
theorem w9z_0_3 (m : Int) (te : TypeId) (s : List UInt8) (x64 x65 : Int) (H : Hp) (fr : List T) : (M9z m te s).wa prog f9 (r9z_0 m te s x64 x65 H fr [true, false, false]) 0 (g9z_0_3 m te s x64 x65 H) (.l0 x64 (IntKind.i64.wrap (x65 + 1)) ({ next := H.next + 1, objs := setOb ((H.next, { elem := 42, sz := 7, cells := (obv H (oslL ((obv H 1).cells.getD 6 undefT))).cells ++ [T.int .i64 (rL ((spl s [10]).getD (1 + x65.toNat) [])).st.entry, T.slf false (rL ((spl s [10]).getD (1 + x65.toNat) [])).st.n fun i => T.int .i64 ((rL ((spl s [10]).getD (1 + x65.toNat) [])).st.at_ i), T.int .i64 (rL ((spl s [10]).getD (1 + x65.toNat) [])).mass, T.slf false (rL ((spl s [10]).getD (1 + x65.toNat) [])).k fun i => spT ((rL ((spl s [10]).getD (1 + x65.toNat) [])).from_ i), T.int .i64 (rL ((spl s [10]).getD (1 + x65.toNat) [])).fate, T.int .i64 (rL ((spl s [10]).getD (1 + x65.toNat) [])).closed, T.str (rL ((spl s [10]).getD (1 + x65.toNat) [])).node] }) :: dropOb H.objs (oslL ((obv H 1).cells.getD 6 undefT))) 1 (have __src := obv ((H.drop (oslL ((obv H 1).cells.getD 6 undefT))).new { elem := 42, sz := 7, cells := (obv H (oslL ((obv H 1).cells.getD 6 undefT))).cells ++ [T.int .i64 (rL ((spl s [10]).getD (1 + x65.toNat) [])).st.entry, T.slf false (rL ((spl s [10]).getD (1 + x65.toNat) [])).st.n fun i => T.int .i64 ((rL ((spl s [10]).getD (1 + x65.toNat) [])).st.at_ i), T.int .i64 (rL ((spl s [10]).getD (1 + x65.toNat) [])).mass, T.slf false (rL ((spl s [10]).getD (1 + x65.toNat) [])).k fun i => spT ((rL ((spl s [10]).getD (1 + x65.toNat) [])).from_ i), T.int .i64 (rL ((spl s [10]).getD (1 + x65.toNat) [])).fate, T.int .i64 (rL ((spl s [10]).getD (1 + x65.toNat) [])).closed, T.str (rL ((spl s [10]).getD (1 + x65.toNat) [])).node] }) 1; { elem := __src.elem, sz := __src.sz, cells := spliceT (obv ((H.drop (oslL ((obv H 1).cells.getD 6 undefT))).new { elem := 42, sz := 7, cells := (obv H (oslL ((obv H 1).cells.getD 6 undefT))).cells ++ [T.int .i64 (rL ((spl s [10]).getD (1 + x65.toNat) [])).st.entry, T.slf false (rL ((spl s [10]).getD (1 + x65.toNat) [])).st.n fun i => T.int .i64 ((rL ((spl s [10]).getD (1 + x65.toNat) [])).st.at_ i), T.int .i64 (rL ((spl s [10]).getD (1 + x65.toNat) [])).mass, T.slf false (rL ((spl s [10]).getD (1 + x65.toNat) [])).k fun i => spT ((rL ((spl s [10]).getD (1 + x65.toNat) [])).from_ i), T.int .i64 (rL ((spl s [10]).getD (1 + x65.toNat) [])).fate, T.int .i64 (rL ((spl s [10]).getD (1 + x65.toNat) [])).closed, T.str (rL ((spl s [10]).getD (1 + x65.toNat) [])).node] }) 1).cells 6 [T.osl H.next 7 0 (oslN ((obv H 1).cells.getD 6 undefT) + 1)] }) })) := by unfold Mch.wa; kernel_rfl
theorem w9z_0_4 (m : Int) (te : TypeId) (s : List UInt8) (x64 x65 : Int) (H : Hp) (fr : List T) : outK prog f9 20 [] (r9z_0 m te s x64 x65 H fr (bt 6 62)) = wdq (q9z_0_4 m te s x64 x65 H) (g9z_0_4 m te s x64 x65 H) := by kernel_rfl
theorem w9z_0_5 (m : Int) (te : TypeId) (s : List UInt8) (x64 x65 : Int) (H : Hp) (fr : List T) : outK prog f9 20 [] (r9z_0 m te s x64 x65 H fr (bt 6 32)) = wdq (q9z_0_5 m te s x64 x65 H) (g9z_0_5 m te s x64 x65 H) := by kernel_rfl
theorem w9z_0_6 (m : Int) (te : TypeId) (s : List UInt8) (x64 x65 : Int) (H : Hp) (fr : List T) : outK prog f9 20 [] (r9z_0 m te s x64 x65 H fr (bt 6 0)) = wdq (q9z_0_6 m te s x64 x65 H) (g9z_0_6 m te s x64 x65 H) := by kernel_rfl
def r9z_s (m : Int) (te : TypeId) (s : List UInt8) (ds : List Bool) : RD Out := runK prog (D61 m te) F9 2000 (.code (bodyOf f9)) [] 0 ([.str s] ++ List.replicate 97 undefT) ⟨0, []⟩ ds []
theorem w9z_s_1 (m : Int) (te : TypeId) (s : List UInt8) : outK prog f9 20 [] (r9z_s m te s (bt 9 511)) = wdn (T.tup [T.agg [T.int .i64 0, T.int .i64 0, T.int .i64 0, T.int .i64 0, T.int .i64 0, T.int .i64 0, T.nils], T.int .i64 3]) (g9z_s_1 m te s) := by kernel_rfl
theorem w9z_s_2 (m : Int) (te : TypeId) (s : List UInt8) : outK prog f9 20 [] (r9z_s m te s (bt 9 496)) = wdn (T.tup [T.agg [T.int .i64 0, T.int .i64 0, T.int .i64 0, T.int .i64 0, T.int .i64 0, T.int .i64 0, T.nils], T.int .i64 3]) (g9z_s_2 m te s) := by kernel_rfl
theorem w9z_s_3 (m : Int) (te : TypeId) (s : List UInt8) : outK prog f9 20 [] (r9z_s m te s (bt 9 256)) = wdn (T.tup [T.agg [T.int .i64 0, T.int .i64 0, T.int .i64 0, T.int .i64 0, T.int .i64 0, T.int .i64 0, T.nils], T.int .i64 3]) (g9z_s_3 m te s) := by kernel_rfl
theorem w9z_s_4 (m : Int) (te : TypeId) (s : List UInt8) : (M9z m te s).wl prog f9 (r9z_s m te s (bt 9 0)) 0 (g9z_s_4 m te s) (.l0 (↑((IntKind.i64.wrap ((↑(spl s [10]).length : Int) - 1)).toNat - 1) : Int) 0 ({ next := 2, objs := [(1, { elem := 24, sz := 0, cells := [T.int .i64 (aV ((spl ((spl s [10]).getD 0 []) [32]).getD 1 [])), T.int .i64 (aV ((spl ((spl s [10]).getD 0 []) [32]).getD 2 [])), T.int .i64 (aV ((spl ((spl s [10]).getD 0 []) [32]).getD 3 [])), T.int .i64 (aV ((spl ((spl s [10]).getD 0 []) [32]).getD 4 [])), T.int .i64 (aV ((spl ((spl s [10]).getD 0 []) [32]).getD 5 [])), T.int .i64 (aV ((spl ((spl s [10]).getD 0 []) [32]).getD 6 [])), T.nils] }), (0, { elem := 24, sz := 0, cells := [T.int .i64 0, T.int .i64 0, T.int .i64 0, T.int .i64 0, T.int .i64 0, T.int .i64 0, T.nils] })] })) := by unfold Mch.wl; kernel_rfl
theorem ways9z (m : Int) (te : TypeId) (s : List UInt8) : (M9z m te s).Ways prog (D61 m te) F9 f9 20 := by
 intro σ o fr h
 cases σ with
 | l0 x64 x65 H =>
  obtain ⟨hk, ho⟩ := kv_some (K := K9z_0 m te s x64 x65 H) (V := V9z_0 m te s x64 x65 H) h
  exact (wk_if (wk_if (kO (w9z_0_1 m te s x64 x65 H fr)) (wk_if (kA (w9z_0_2 m te s x64 x65 H fr) rfl) (kA (w9z_0_3 m te s x64 x65 H fr) rfl))) (wk_if (kO (w9z_0_4 m te s x64 x65 H fr)) (wk_if (kO (w9z_0_5 m te s x64 x65 H fr)) (kO (w9z_0_6 m te s x64 x65 H fr))))) hk o ho
theorem oks9z (m : Int) (te : TypeId) (s : List UInt8) : ∀ σ, Ps.codeOk (loopAt f9 ((M9z m te s).lp σ)).1 = true ∧ ksOk (.lp :: (loopAt f9 ((M9z m te s).lp σ)).2) = true := oks_of 1 (by kernel_rfl) (by intro σ; cases σ <;> exact Nat.le_of_ble_eq_true rfl)
theorem c9z (m : Int) (te : TypeId) (s : List UInt8) (n : Nat) {r : T} (hk : K9z_s m te s = true) (hr : (M9z m te s).fin n (V9z_s m te s) = some r) : PureFn prog (gl1 m te) 9 [.str s] r :=
 pure_mach (M := (M9z m te s)) (fn := f9) (k := 20) (d := 8) (c := bodyOf f9) (cx61 m te) (gl1Frz m te) (by kernel_rfl) func9 (by kernel_rfl) rfl (by kernel_rfl) (by kernel_rfl) (L := 97) (by kernel_rfl) (ways9z m te s) (oks9z m te s) ((wk_if (kD (w9z_s_1 m te s)) (wk_if (kD (w9z_s_2 m te s)) (wk_if (kD (w9z_s_3 m te s)) (kL (w9z_s_4 m te s) rfl)))) hk _ rfl) hr
end
end Go.Proofs.Tryz

/- balance.Decode: its contract. -/
namespace Go.Proofs.Tryz
noncomputable section
open Go.Ps
set_option maxRecDepth 100000
section
variable (s : List UInt8)
def dP (j : Nat) : List UInt8 := (spl s [10]).getD j []
def dHs : List (List UInt8) := spl (dP s 0) [32]
def dh (j : Nat) : List UInt8 := (dHs s).getD j []
def dN : Nat := (spl s [10]).length - 2
def dl (i : Nat) : List UInt8 := dP s (1 + i)
def dHd : Bool := allR (fun i => dh s (1 + i)) ((dHs s).length - 1) 0 && (decide ((dHs s).length - 1 = 6) && decide (2 ≤ (spl s [10]).length))
def dAl : Nat → Nat → Bool
 | 0, _ => true
 | q + 1, i => rOk (dl s i) && dAl q (i + 1)
def dOk : Bool := dHd s && dAl s (dN s) 0
def dCs (i : Nat) : List T := (List.range i).flatMap fun j => (lnT (rL (dl s j))).cells
theorem dCs_succ (i : Nat) : dCs s (i + 1) = dCs s i ++ (lnT (rL (dl s i))).cells := by
 unfold dCs; rw [List.range_succ, List.flatMap_append]; simp
theorem dCs_len : ∀ i, (dCs s i).length = i * 7
 | 0 => rfl
 | i + 1 => by
  rw [dCs_succ, List.length_append, dCs_len i]
  show i * 7 + 7 = _
  omega
theorem dCs_pl (i : Nat) : ∀ c ∈ dCs s i, pl1 c = true := by
 intro c hc
 unfold dCs at hc
 obtain ⟨j, _, hj⟩ := List.mem_flatMap.1 hc
 simp only [lnT, T.cells, List.mem_cons, List.not_mem_nil, or_false] at hj
 rcases hj with rfl | rfl | rfl | rfl | rfl | rfl | rfl <;> rfl
def dX (fv : T) : List T := [T.int .i64 (aV (dh s 1)), T.int .i64 (aV (dh s 2)), T.int .i64 (aV (dh s 3)), T.int .i64 (aV (dh s 4)), T.int .i64 (aV (dh s 5)), T.int .i64 (aV (dh s 6)), fv]
def zC : List T := [T.int .i64 0, T.int .i64 0, T.int .i64 0, T.int .i64 0, T.int .i64 0, T.int .i64 0, T.nils]
structure DI (i : Nat) (H : Hp) : Prop where
 h0 : H.get 0 = some ⟨24, 0, zC⟩
 nx : 2 ≤ H.next
 h1 : ∃ fv, H.get 1 = some ⟨24, 0, dX s fv⟩ ∧ ((i = 0 ∧ fv = .nils) ∨ (0 < i ∧ ∃ L, fv = .osl L 7 0 i ∧ L ≠ 0 ∧ L ≠ 1 ∧ L < H.next ∧ H.get L = some ⟨42, 7, dCs s i⟩))
def dnC (Hd : Hp) (b : Int) : Option T := if (obIn Hd 0 7 && true) = true then frzT 20 Hd (T.tup [T.agg (cellsV Hd 0 0 7), T.int .i64 b]) else none
theorem dnC_eq {Hd : Hp} {b : Int} {a0 a1 a2 a3 a4 a5 a6 f6 : T} (h : Hd.get 0 = some ⟨24, 0, [a0, a1, a2, a3, a4, a5, a6]⟩) (h0 : pl1 a0 = true) (h1 : pl1 a1 = true) (h2 : pl1 a2 = true) (h3 : pl1 a3 = true) (h4 : pl1 a4 = true) (h5 : pl1 a5 = true)
  (h6 : frzT 18 Hd a6 = some f6) : dnC Hd b = some (T.tup [T.agg [a0, a1, a2, a3, a4, a5, f6], T.int .i64 b]) := by
 unfold dnC
 rw [obIn_get h (by simp)]
 have e : cellsV Hd 0 0 7 = [a0, a1, a2, a3, a4, a5, a6] := by
  unfold cellsV; rw [obv_get h]; rfl
 rw [e]
 simp only [Bool.and_true, if_true]
 have g0 : frzT 18 Hd a0 = some a0 := pl1_frz h0
 have g1 : frzT 18 Hd a1 = some a1 := pl1_frz h1
 have g2 : frzT 18 Hd a2 = some a2 := pl1_frz h2
 have g3 : frzT 18 Hd a3 = some a3 := pl1_frz h3
 have g4 : frzT 18 Hd a4 = some a4 := pl1_frz h4
 have g5 : frzT 18 Hd a5 = some a5 := pl1_frz h5
 have ea : frzT 19 Hd (T.agg [a0, a1, a2, a3, a4, a5, a6]) = some (T.agg [a0, a1, a2, a3, a4, a5, f6]) := by
  show (match mapO (frzT 18 Hd) [a0, a1, a2, a3, a4, a5, a6] with | some ds => some (T.agg ds) | none => none) = _
  simp only [mapO, g0, g1, g2, g3, g4, g5, h6]
 show (match mapO (frzT 19 Hd) [T.agg [a0, a1, a2, a3, a4, a5, a6], T.int .i64 b] with | some ds => some (T.tup ds) | none => none) = _
 simp only [mapO, ea]
 rfl
theorem DI.next {i : Nat} {H Hx : Hp} (hI : DI s i H) {cs : List T} (hn : Hx.next = H.next) (h0 : Hx.get 0 = H.get 0) (h1 : Hx.get 1 = H.get 1) (hc : cs = dCs s (i + 1)) :
  obIn (Hx.new ⟨42, 7, cs⟩) 1 7 = true ∧ DI s (i + 1) ((Hx.new ⟨42, 7, cs⟩).put 1 { obv (Hx.new ⟨42, 7, cs⟩) 1 with cells := spliceT (obv (Hx.new ⟨42, 7, cs⟩) 1).cells 6 [T.osl H.next 7 0 (i + 1)] }) := by
 obtain ⟨fv, g1, _⟩ := hI.h1
 have nx := hI.nx
 have e1 : (Hx.new ⟨42, 7, cs⟩).get 1 = some ⟨24, 0, dX s fv⟩ := by rw [get_new_ne _ (by omega), h1, g1]
 have e0 : (Hx.new ⟨42, 7, cs⟩).get 0 = some ⟨24, 0, zC⟩ := by rw [get_new_ne _ (by omega), h0, hI.h0]
 have eL : (Hx.new ⟨42, 7, cs⟩).get H.next = some ⟨42, 7, cs⟩ := by rw [← hn]; exact Go.Ps.get_new _ _
 have hs1 : ((Hx.new ⟨42, 7, cs⟩).get 1).isSome = true := by rw [e1]; rfl
 have eo := obv_get e1
 refine ⟨obIn_get e1 (by simp [dX]), ⟨?_, ?_, ⟨.osl H.next 7 0 (i + 1), ?_, .inr ⟨by omega, H.next, rfl, by omega, by omega, ?_, ?_⟩⟩⟩⟩
 ·rw [get_put_ne _ hs1 (by omega)]; exact e0
 ·show 2 ≤ Hx.next + 1; omega
 ·rw [get_put_same _ hs1, eo]; rfl
 ·show H.next < Hx.next + 1; omega
 ·rw [get_put_ne _ hs1 (by omega), eL, hc]
end
theorem rawd1 {s : List UInt8} {i : Nat} {b : Bool} (h : rOk (dl s i) = b) : rOk ((spl s [10]).getD (1 + i) []) = b := h
theorem rawd2 {s : List UInt8} {i : Nat} {b : Bool} (h : decide ((dl s i).length ≤ 1000000) = b) : decide (((spl s [10]).getD (1 + i) []).length ≤ 1000000) = b := h
section
variable (m : Int) (te : TypeId) (s : List UInt8) (hs : s.length ≤ 1000000) (h2 : 2 ≤ (spl s [10]).length)
include hs h2
theorem dN_eq : (IntKind.i64.wrap (((spl s [10]).length : Int) - 1)).toNat - 1 = dN s := by
 have := spl_len s 10
 rw [IntWalk.i64_in _ (by omega)]
 unfold dN
 omega
theorem dd_bad (i : Nat) (hi : i < dN s) (H : Hp) (hI : DI s i H) (hp : rOk (dl s i) = false) :
  (M9z m te s).step (.l0 (dN s) i H) = some (.inr (.tup [.agg zC, .int .i64 3])) := by
 have b1 : decide ((i : Int) < (dN s : Int)) = true := decide_eq_true (by omega)
 have b0 : decide ((0 : Int) ≤ i) = true := decide_eq_true (by omega)
 have b3 : decide ((dl s i).length ≤ 1000000) = true := decide_eq_true (by have := spl_piece s 10 (1 + i); show ((spl s [10]).getD (1 + i) []).length ≤ _; omega)
 have ho := obIn_get (k := 7) hI.h0 (by simp [zC])
 have hd : (H.put 0 { obv H 0 with cells := zC ++ List.drop (0 + 7) (obv H 0).cells }).get 0 = some ⟨24, 0, zC⟩ := by
  rw [get_put_same _ (by rw [hI.h0]; rfl), obv_get hI.h0]; rfl
 have hdn := dnC_eq (b := 3) (f6 := .nils) hd rfl rfl rfl rfl rfl rfl rfl
 show step9z_0 m te s _ _ _ = _
 rw [T9z_0]
 ·unfold V9z_0 q9z_0_1 q9z_0_4 q9z_0_5 q9z_0_6
  simp only [Int.toNat_natCast]
  refine congrArg some ?_
  refine tree_eq (fun _ => ?_) (fun e => by rw [b1] at e; cases e)
  refine tree_eq (fun _ => ?_) (fun e => by rw [rawd1 hp] at e; cases e)
  show (Sum.inr ((dnC (H.put 0 { obv H 0 with cells := zC ++ List.drop (0 + 7) (obv H 0).cells }) 3).getD undefT) : S9z ⊕ T) = _
  rw [hdn]; rfl
 ·unfold K9z_0 q9z_0_1 q9z_0_4 q9z_0_5 q9z_0_6
  simp only [Int.toNat_natCast]
  refine tree_eq (fun _ => ?_) (fun e => by rw [b1] at e; cases e)
  refine tree_eq (fun _ => ?_) (fun e => by rw [rawd1 hp] at e; cases e)
  show (allT (g9z_0_1 m te s _ _ H) && (dnC (H.put 0 { obv H 0 with cells := zC ++ List.drop (0 + 7) (obv H 0).cells }) 3).isSome) = true
  rw [hdn]
  simp only [g9z_0_1, Int.toNat_natCast, allT, ho, rawd1 hp, rawd2 b3, dN_eq s hs h2, b1, b0, Bool.and_true, Bool.not_false, Option.isSome_some, k9z_0_0]
theorem dd_next (i : Nat) (hi : i < dN s) (H : Hp) (hI : DI s i H) (hp : rOk (dl s i) = true) :
  ∃ H', (M9z m te s).step (.l0 (dN s) i H) = some (.inl (.l0 (dN s) (i + 1 : Nat) H')) ∧ DI s (i + 1) H' := by
 have hlen := spl_len s 10
 have eN : dN s = (spl s [10]).length - 2 := rfl
 have b1 : decide ((i : Int) < (dN s : Int)) = true := decide_eq_true (by omega)
 have b0 : decide ((0 : Int) ≤ i) = true := decide_eq_true (by omega)
 have b3 : decide ((dl s i).length ≤ 1000000) = true := decide_eq_true (by have := spl_piece s 10 (1 + i); show ((spl s [10]).getD (1 + i) []).length ≤ _; omega)
 have hw := wsucc i (by omega)
 obtain ⟨fv, h1, ⟨rfl, rfl⟩ | ⟨hpos, L, rfl, l0, l1, l2, hL⟩⟩ := hI.h1
 ·have eo := obv_get h1
  have en : (obv H 1).cells.getD 6 undefT = .nils := by rw [eo]; rfl
  have ho := obIn_get (k := 7) h1 (by simp [dX])
  obtain ⟨k1, k2⟩ := hI.next s (Hx := H) (cs := (lnT (rL (dl s 0))).cells) rfl rfl rfl rfl
  refine ⟨_, ?_, k2⟩
  show step9z_0 m te s _ _ _ = _
  rw [T9z_0]
  ·unfold V9z_0 q9z_0_1 q9z_0_4 q9z_0_5 q9z_0_6
   simp only [Int.toNat_natCast]
   refine congrArg some ?_
   refine tree_eq (fun _ => ?_) (fun e => by rw [b1] at e; cases e)
   refine tree_eq (fun e => by rw [rawd1 hp] at e; cases e) (fun _ => ?_)
   refine tree_eq (fun _ => ?_) (fun e => by rw [en] at e; cases e)
   rw [hw]
   rfl
  ·unfold K9z_0 q9z_0_1 q9z_0_4 q9z_0_5 q9z_0_6
   simp only [Int.toNat_natCast]
   refine tree_eq (fun _ => ?_) (fun e => by rw [b1] at e; cases e)
   refine tree_eq (fun e => by rw [rawd1 hp] at e; cases e) (fun _ => ?_)
   refine tree_eq (fun _ => ?_) (fun e => by rw [en] at e; cases e)
   simp only [g9z_0_2, Int.toNat_natCast, allT, en, isNils, ho, rawd1 hp, rawd2 b3, dN_eq s hs h2, b1, b0, Bool.not_false, Bool.not_true, Bool.and_true, Bool.true_and, k9z_0_1, k9z_0_0]
   exact k1
 ·have eo := obv_get h1
  have en : (obv H 1).cells.getD 6 undefT = .osl L 7 0 i := by rw [eo]; rfl
  have eL := obv_get hL
  have ho := obIn_get (k := 7) h1 (by simp [dX])
  have ha : obApp H L 42 7 i = true := by
   unfold obApp
   rw [hL]
   simp only [and_self, if_true]
   exact decide_eq_true (dCs_len s i)
  have hr : roomT (i + 1) 96 = true := by
   unfold roomT
   rw [decide_eq_true (show (i + 1) * 96 ≤ 70368744177664 by omega), decide_eq_true (show i + 1 ≤ 70368744177664 by omega)]
   rfl
  obtain ⟨k1, k2⟩ := hI.next s (Hx := H.drop L) (cs := (obv H L).cells ++ (lnT (rL (dl s i))).cells) rfl (get_drop_ne (fun e => l0 e.symm)) (get_drop_ne (fun e => l1 e.symm)) (by rw [eL, dCs_succ])
  refine ⟨_, ?_, k2⟩
  show step9z_0 m te s _ _ _ = _
  rw [T9z_0]
  ·unfold V9z_0 q9z_0_1 q9z_0_4 q9z_0_5 q9z_0_6
   simp only [Int.toNat_natCast]
   refine congrArg some ?_
   refine tree_eq (fun _ => ?_) (fun e => by rw [b1] at e; cases e)
   refine tree_eq (fun e => by rw [rawd1 hp] at e; cases e) (fun _ => ?_)
   refine tree_eq (fun e => by rw [en] at e; cases e) (fun _ => ?_)
   rw [hw]
   simp only [en]
   rfl
  ·unfold K9z_0 q9z_0_1 q9z_0_4 q9z_0_5 q9z_0_6
   simp only [Int.toNat_natCast]
   refine tree_eq (fun _ => ?_) (fun e => by rw [b1] at e; cases e)
   refine tree_eq (fun e => by rw [rawd1 hp] at e; cases e) (fun _ => ?_)
   refine tree_eq (fun e => by rw [en] at e; cases e) (fun _ => ?_)
   have hos : isOslS 7 (.osl L 7 0 i) = true := rfl
   simp only [g9z_0_3, Int.toNat_natCast, allT, en, oslL, oslN, ha, hr, hos, isNils, ho, rawd1 hp, rawd2 b3, dN_eq s hs h2, b1, b0, Bool.not_false, Bool.not_true, Bool.and_true, Bool.true_and, k9z_0_1, k9z_0_0]
   exact k1
end
end
end Go.Proofs.Tryz

/- balance.Decode: its end. -/
namespace Go.Proofs.Tryz
open Go.Ps
set_option maxRecDepth 100000
structure Agr (s : List UInt8) (c : Ct) : Prop where
 a1 : c.entries = aV (dh s 1)
 a2 : c.accepted = aV (dh s 2)
 a3 : c.delivered = aV (dh s 3)
 a4 : c.waiting = aV (dh s 4)
 a5 : c.letters = aV (dh s 5)
 a6 : c.discarded = aV (dh s 6)
 n : c.n = dN s
 l : ∀ i, i < c.n → c.line i = rL (dl s i)
 z : ∀ i, c.n ≤ i → c.line i = zLn
theorem dCs_at (s : List UInt8) (n : Nat) : ∀ i, i < n → ∀ (q : Nat), q < 7 → (dCs s n).getD (i * 7 + q) undefT = (lnT (rL (dl s i))).cells.getD q undefT := by
 induction n with
 | zero => intro i hi; omega
 | succ n ih =>
  intro i hi q hq
  have hl := dCs_len s n
  rw [dCs_succ]
  by_cases e : i < n
  ·rw [List.getD_eq_getElem?_getD, List.getElem?_append_left (by omega), ← List.getD_eq_getElem?_getD]; exact ih i e q hq
  ·have ei : i = n := by omega
   subst ei
   rw [List.getD_eq_getElem?_getD, List.getElem?_append_right (by omega), ← List.getD_eq_getElem?_getD, show i * 7 + q - (dCs s i).length = q by omega]
theorem dc_line {s : List UInt8} {H : Hp} {L n : Nat} (h : H.get L = some ⟨42, 7, dCs s n⟩) (i : Nat) (hi : i < n) : cellsV H L (i * 7) 7 = (lnT (rL (dl s i))).cells := by
 unfold cellsV
 rw [obv_get h]
 have e := dCs_at s n i hi
 show [(dCs s n).getD (i * 7 + 0) undefT, (dCs s n).getD (i * 7 + 1) undefT, (dCs s n).getD (i * 7 + 2) undefT, (dCs s n).getD (i * 7 + 3) undefT, (dCs s n).getD (i * 7 + 4) undefT, (dCs s n).getD (i * 7 + 5) undefT, (dCs s n).getD (i * 7 + 6) undefT] = _
 rw [e 0 (by omega), e 1 (by omega), e 2 (by omega), e 3 (by omega), e 4 (by omega), e 5 (by omega), e 6 (by omega)]
 rfl
theorem lnv_lnT (x : Ln) : lnv (lnT x) = x := rfl
theorem chunk_at (sz n : Nat) (cs : List T) : ∀ i, i < n → cs.length = n * sz → (chunk sz n cs)[i]? = some (.agg ((cs.drop (i * sz)).take sz)) := by
 induction n generalizing cs with
 | zero => intro i hi; omega
 | succ n ih =>
  intro i hi hl
  cases i with
  | zero => simp [chunk]
  | succ i =>
   simp only [chunk, List.getElem?_cons_succ]
   rw [ih (cs.drop sz) i (by omega) (by rw [List.length_drop, hl, Nat.succ_mul]; omega), List.drop_drop]
   congr 4
   rw [Nat.succ_mul]; omega
theorem row_slf {s : List UInt8} {H : Hp} {L n : Nat} (h : H.get L = some ⟨42, 7, dCs s n⟩) {g : G} {v : Value} (hr : Rd g v (.sl false (chunk 7 n (dCs s n)))) (f : Nat → Ln) (hf : ∀ i, i < n → f i = rL (dl s i)) : Rd g v (.slf false n fun i => lnT (f i)) := by
 have hlen := dCs_len s n
 obtain ⟨c1, c2, c3⟩ := chunk_flat 7 n (dCs s n) hlen
 refine rd_slf2 hr (fun x hx c hc => ?_) c3 (fun i hi => ?_)
 ·have hm : c ∈ (chunk 7 n (dCs s n)).flatMap T.cells := List.mem_flatMap.2 ⟨x, hx, hc⟩
  rw [c1] at hm
  exact dCs_pl s _ c hm
 ·rw [chunk_at 7 n _ i hi hlen, hf i hi]
  have := dc_line h i hi
  rw [cellsV_eq (by rw [obv_get h]; show i * 7 + 7 ≤ (dCs s n).length; omega), obv_get h] at this
  rw [this]; rfl
theorem rd_ct {g : G} {v : Value} {a b c d e f x x' : T} (hx : ∀ u, Rd g u x → Rd g u x') (hr : Rd g v (.agg [a, b, c, d, e, f, x])) : Rd g v (.agg [a, b, c, d, e, f, x']) := by
 cases hr with
 | agg _ vs h1 h2 =>
  refine .agg _ vs (by simpa using h1) (fun j w y hw hy => ?_)
  match j with
  | 0 => exact h2 0 w y hw hy
  | 1 => exact h2 1 w y hw hy
  | 2 => exact h2 2 w y hw hy
  | 3 => exact h2 3 w y hw hy
  | 4 => exact h2 4 w y hw hy
  | 5 => exact h2 5 w y hw hy
  | 6 => simp at hy; subst hy; exact hx w (h2 6 w x hw rfl)
  | n + 7 => simp at hy
section
variable (m : Int) (te : TypeId) (s : List UInt8) (hs : s.length ≤ 1000000) (h2 : 2 ≤ (spl s [10]).length) (hE : ∀ c, Agr s c → encP c)
include hs h2 hE
theorem dd_fin (H : Hp) (hI : DI s (dN s) H) :
  ∃ c r, Agr s c ∧ (M9z m te s).step (.l0 (dN s) (dN s : Nat) H) = some (.inr r) ∧
   ((CheckE c = 0 ∧ enc c = s ∧ ∀ g v, Rd g v r → Rd g v (.tup [ctT c, .int .i64 0])) ∨ (¬ (CheckE c = 0 ∧ enc c = s) ∧ r = .tup [.agg zC, .int .i64 3])) := by
 have b1 : decide ((dN s : Int) < (dN s : Int)) = false := decide_eq_false (by omega)
 obtain ⟨fv, h1, hfv⟩ := hI.h1
 have eo := obv_get h1
 have ho := obIn_get (k := 7) hI.h0 (by simp [zC])
 have ho1 := obIn_get (k := 7) h1 (by simp [dX])
 have hc : [(obv H 1).cells.getD 0 undefT, (obv H 1).cells.getD 1 undefT, (obv H 1).cells.getD 2 undefT, (obv H 1).cells.getD 3 undefT, (obv H 1).cells.getD 4 undefT, (obv H 1).cells.getD 5 undefT, (obv H 1).cells.getD 6 undefT] = dX s fv := by rw [eo]; rfl
 have ec : dcOf H ((obv H 1).cells.getD 0 undefT) ((obv H 1).cells.getD 1 undefT) ((obv H 1).cells.getD 2 undefT) ((obv H 1).cells.getD 3 undefT) ((obv H 1).cells.getD 4 undefT) ((obv H 1).cells.getD 5 undefT) ((obv H 1).cells.getD 6 undefT) =
   ⟨aV (dh s 1), aV (dh s 2), aV (dh s 3), aV (dh s 4), aV (dh s 5), aV (dh s 6), oslN fv, fun i => if i < oslN fv then lnv (.agg (cellsV H (oslL fv) (i * 7) 7)) else zLn⟩ := by rw [eo]; rfl
 obtain ⟨c, hcc⟩ : ∃ c : Ct, c = ⟨aV (dh s 1), aV (dh s 2), aV (dh s 3), aV (dh s 4), aV (dh s 5), aV (dh s 6), oslN fv, fun i => if i < oslN fv then lnv (.agg (cellsV H (oslL fv) (i * 7) 7)) else zLn⟩ := ⟨_, rfl⟩
 rw [← hcc] at ec
 have hAgr : Agr s c := by
  rw [hcc]
  refine ⟨rfl, rfl, rfl, rfl, rfl, rfl, ?_, fun i hi => ?_, fun i hi => if_neg (Nat.not_lt.2 hi)⟩
  ·rcases hfv with ⟨e, rfl⟩ | ⟨_, L, rfl, _⟩
   ·rw [e]; rfl
   ·rfl
  ·rcases hfv with ⟨e, rfl⟩ | ⟨_, L, rfl, _, _, _, hL⟩
   ·exact absurd hi (Nat.not_lt_zero _)
   ·show (if i < _ then lnv (.agg (cellsV H L (i * 7) 7)) else zLn) = _
    rw [if_pos hi]
    rw [dc_line hL i hi]; exact lnv_lnT _
 obtain ⟨f6, hz, hf6⟩ : ∃ f6, (∀ Hd : Hp, (∀ l, l ≠ 0 → Hd.get l = H.get l) → ∀ n, frzT (n + 2) Hd fv = some f6) ∧ ∀ g v, Rd g v f6 → Rd g v (.slf false c.n fun i => lnT (c.line i)) := by
  rcases hfv with ⟨e, rfl⟩ | ⟨_, L, rfl, l0, _, _, hL⟩
  ·refine ⟨.nils, fun Hd _ n => rfl, fun g v hv => ?_⟩
   rw [hAgr.n, e]
   exact rd_nslf _ _ hv
  ·refine ⟨.sl false (chunk 7 (dN s) (dCs s (dN s))), fun Hd hg n => ?_, fun g v hv => ?_⟩
   ·have hlen := dCs_len s (dN s)
    have hdL : Hd.get L = some ⟨42, 7, dCs s (dN s)⟩ := (hg L l0).trans hL
    have et : ((dCs s (dN s)).drop (0 * 7)).take (dN s * 7) = dCs s (dN s) := by
     rw [Nat.zero_mul, List.drop_zero, List.take_of_length_le (by omega)]
    exact frz_osl (n := n + 1) hdL ⟨by omega, rfl, by show (0 + dN s) * 7 ≤ (dCs s (dN s)).length; omega⟩ (by show mapO _ (((dCs s (dN s)).drop (0 * 7)).take (dN s * 7)) = _; rw [et]; exact pl1_map (n := n) (dCs_pl s (dN s))) (by omega)
   ·rw [hAgr.n]
    exact row_slf hL hv c.line (fun i hi => hAgr.l i (by rw [hAgr.n]; exact hi))
 have hct : ∀ g v, Rd g v (.agg (dX s f6)) → Rd g v (ctT c) := by
  intro g v hv
  have := rd_ct (fun u hu => hf6 g u hu) hv
  rw [hcc] at this ⊢
  exact this
 have hLend : LendC H (.agg (dX s fv)) c := by
  intro g v hst hv
  refine hct _ v (frz_ok hst 3 _ _ v ?_ hv)
  have e6 : frzT 2 H fv = some f6 := hz H (fun _ _ => rfl) 0
  show (match mapO (frzT 2 H) (dX s fv) with | some ds => some (T.agg ds) | none => none) = _
  have g1 : ∀ z, frzT 2 H (T.int .i64 z) = some (T.int .i64 z) := fun z => rfl
  simp only [dX, mapO, g1, e6]
 have p1 : pb (LendC H (.agg [(obv H 1).cells.getD 0 undefT, (obv H 1).cells.getD 1 undefT, (obv H 1).cells.getD 2 undefT, (obv H 1).cells.getD 3 undefT, (obv H 1).cells.getD 4 undefT, (obv H 1).cells.getD 5 undefT, (obv H 1).cells.getD 6 undefT]) c) = true := by rw [hc]; exact pb_iff.2 hLend
 have p2 : pb (encP c) = true := pb_iff.2 (hE c hAgr)
 have hdz' : (H.put 0 { obv H 0 with cells := zC ++ List.drop (0 + 7) (obv H 0).cells }).get 0 = some ⟨24, 0, zC⟩ := by
  rw [get_put_same _ (by rw [hI.h0]; rfl), obv_get hI.h0]; rfl
 have hdz := dnC_eq (b := 3) (f6 := .nils) hdz' rfl rfl rfl rfl rfl rfl rfl
 by_cases g0 : CheckE c = 0
 case neg =>
  have g0b : (CheckE c != 0) = true := bne_iff_ne.2 g0
  have g1b : True := trivial
  refine ⟨c, _, hAgr, ?_, .inr ⟨fun h => g0 h.1, rfl⟩⟩
  show step9z_0 m te s _ _ _ = _
  rw [T9z_0]
  ·unfold V9z_0 q9z_0_1 q9z_0_4 q9z_0_5 q9z_0_6
   simp only [Int.toNat_natCast, ec]
   refine congrArg some ?_
   refine tree_eq (fun e => by rw [b1] at e; cases e) (fun _ => ?_)
   refine tree_eq (fun _ => ?_) (fun e => by rw [g0b] at e; cases e)
   show (Sum.inr ((dnC (H.put 0 { obv H 0 with cells := zC ++ List.drop (0 + 7) (obv H 0).cells }) 3).getD undefT) : S9z ⊕ T) = _
   rw [hdz]; rfl
  ·unfold K9z_0 q9z_0_1 q9z_0_4 q9z_0_5 q9z_0_6
   simp only [Int.toNat_natCast, ec]
   refine tree_eq (fun e => by rw [b1] at e; cases e) (fun _ => ?_)
   refine tree_eq (fun _ => ?_) (fun e => by rw [g0b] at e; cases e)
   show (allT (g9z_0_4 m te s _ _ H) && (dnC (H.put 0 { obv H 0 with cells := zC ++ List.drop (0 + 7) (obv H 0).cells }) 3).isSome) = true
   rw [hdz]
   simp only [g9z_0_4, ec, allT, ho, ho1, b1, p1, p2, g0b, g1b, Bool.not_false, Bool.not_true, Bool.and_true, Option.isSome_some, k9z_0_2]
 have g0b : (CheckE c != 0) = false := by rw [g0]; rfl
 have eT : encT c = enc c := if_pos g0
 by_cases g1 : enc c = s
 case neg =>
  have g1b : (encT c == s) = false := by rw [eT, beq_eq_false_iff_ne]; exact g1
  refine ⟨c, _, hAgr, ?_, .inr ⟨fun h => g1 h.2, rfl⟩⟩
  show step9z_0 m te s _ _ _ = _
  rw [T9z_0]
  ·unfold V9z_0 q9z_0_1 q9z_0_4 q9z_0_5 q9z_0_6
   simp only [Int.toNat_natCast, ec]
   refine congrArg some ?_
   refine tree_eq (fun e => by rw [b1] at e; cases e) (fun _ => ?_)
   refine tree_eq (fun e => by rw [g0b] at e; cases e) (fun _ => ?_)
   refine tree_eq (fun _ => ?_) (fun e => by rw [g1b] at e; cases e)
   show (Sum.inr ((dnC (H.put 0 { obv H 0 with cells := zC ++ List.drop (0 + 7) (obv H 0).cells }) 3).getD undefT) : S9z ⊕ T) = _
   rw [hdz]; rfl
  ·unfold K9z_0 q9z_0_1 q9z_0_4 q9z_0_5 q9z_0_6
   simp only [Int.toNat_natCast, ec]
   refine tree_eq (fun e => by rw [b1] at e; cases e) (fun _ => ?_)
   refine tree_eq (fun e => by rw [g0b] at e; cases e) (fun _ => ?_)
   refine tree_eq (fun _ => ?_) (fun e => by rw [g1b] at e; cases e)
   show (allT (g9z_0_5 m te s _ _ H) && (dnC (H.put 0 { obv H 0 with cells := zC ++ List.drop (0 + 7) (obv H 0).cells }) 3).isSome) = true
   rw [hdz]
   simp only [g9z_0_5, ec, allT, ho, ho1, b1, p1, p2, g0b, g1b, Bool.not_false, Bool.not_true, Bool.and_true, Option.isSome_some, k9z_0_3, k9z_0_2]
 have g1b : (encT c == s) = true := by rw [eT, beq_iff_eq]; exact g1
 have hdx' : (H.put 0 { obv H 0 with cells := [(obv H 1).cells.getD 0 undefT, (obv H 1).cells.getD 1 undefT, (obv H 1).cells.getD 2 undefT, (obv H 1).cells.getD 3 undefT, (obv H 1).cells.getD 4 undefT, (obv H 1).cells.getD 5 undefT, (obv H 1).cells.getD 6 undefT] ++ List.drop (0 + 7) (obv H 0).cells }).get 0 = some ⟨24, 0, dX s fv⟩ := by
  rw [get_put_same _ (by rw [hI.h0]; rfl), obv_get hI.h0, hc]
  show some (Ob.mk 24 0 (dX s fv ++ [])) = _
  rw [List.append_nil]
 have hdx := dnC_eq (b := 0) hdx' rfl rfl rfl rfl rfl rfl (hz _ (fun l hl => get_put_ne _ (by rw [hI.h0]; rfl) hl) 16)
 refine ⟨c, .tup [.agg (dX s f6), .int .i64 0], hAgr, ?_, .inl ⟨g0, g1, fun g v hv => rd_tup1 (fun u hu => hct g u hu) hv⟩⟩
 show step9z_0 m te s _ _ _ = _
 rw [T9z_0]
 ·unfold V9z_0 q9z_0_1 q9z_0_4 q9z_0_5 q9z_0_6
  simp only [Int.toNat_natCast, ec]
  refine congrArg some ?_
  refine tree_eq (fun e => by rw [b1] at e; cases e) (fun _ => ?_)
  refine tree_eq (fun e => by rw [g0b] at e; cases e) (fun _ => ?_)
  refine tree_eq (fun e => by rw [g1b] at e; cases e) (fun _ => ?_)
  show (Sum.inr ((dnC (H.put 0 { obv H 0 with cells := [(obv H 1).cells.getD 0 undefT, (obv H 1).cells.getD 1 undefT, (obv H 1).cells.getD 2 undefT, (obv H 1).cells.getD 3 undefT, (obv H 1).cells.getD 4 undefT, (obv H 1).cells.getD 5 undefT, (obv H 1).cells.getD 6 undefT] ++ List.drop (0 + 7) (obv H 0).cells }) 0).getD undefT) : S9z ⊕ T) = _
  rw [hdx]; rfl
 ·unfold K9z_0 q9z_0_1 q9z_0_4 q9z_0_5 q9z_0_6
  simp only [Int.toNat_natCast, ec]
  refine tree_eq (fun e => by rw [b1] at e; cases e) (fun _ => ?_)
  refine tree_eq (fun e => by rw [g0b] at e; cases e) (fun _ => ?_)
  refine tree_eq (fun e => by rw [g1b] at e; cases e) (fun _ => ?_)
  show (allT (g9z_0_6 m te s _ _ H) && (dnC (H.put 0 { obv H 0 with cells := [(obv H 1).cells.getD 0 undefT, (obv H 1).cells.getD 1 undefT, (obv H 1).cells.getD 2 undefT, (obv H 1).cells.getD 3 undefT, (obv H 1).cells.getD 4 undefT, (obv H 1).cells.getD 5 undefT, (obv H 1).cells.getD 6 undefT] ++ List.drop (0 + 7) (obv H 0).cells }) 0).isSome) = true
  rw [hdx]
  have hone : allOne [(obv H 1).cells.getD 0 undefT, (obv H 1).cells.getD 1 undefT, (obv H 1).cells.getD 2 undefT, (obv H 1).cells.getD 3 undefT, (obv H 1).cells.getD 4 undefT, (obv H 1).cells.getD 5 undefT, (obv H 1).cells.getD 6 undefT] = true := by
   rw [hc]
   rcases hfv with ⟨_, rfl⟩ | ⟨_, L, rfl, _⟩ <;> rfl
  simp only [g9z_0_6, ec, allT, hone, ho, ho1, b1, p1, p2, g0b, g1b, Bool.not_false, Bool.not_true, Bool.and_true, Option.isSome_some, k9z_0_3, k9z_0_2]
end
end Go.Proofs.Tryz

/- balance.Decode: its contract. -/
namespace Go.Proofs.Tryz
open Go.Ps
set_option maxRecDepth 100000
section
variable (m : Int) (te : TypeId) (s : List UInt8) (hs : s.length ≤ 1000000)
include hs
theorem dd_run (h2 : 2 ≤ (spl s [10]).length) (hE : dAl s (dN s) 0 = true → ∀ c, Agr s c → encP c) : ∀ (q i : Nat), q + i = dN s → dAl s (dN s) 0 = dAl s q i → ∀ H, DI s i H → ∃ r, Runs (M9z m te s) (.l0 (dN s) (i : Nat) H) r ∧
  ((dAl s q i = false ∧ r = .tup [.agg zC, .int .i64 3]) ∨ (dAl s q i = true ∧ ∃ c, Agr s c ∧ ((CheckE c = 0 ∧ enc c = s ∧ ∀ g v, Rd g v r → Rd g v (.tup [ctT c, .int .i64 0])) ∨ (¬ (CheckE c = 0 ∧ enc c = s) ∧ r = .tup [.agg zC, .int .i64 3])))) := by
 intro q
 induction q with
 | zero =>
  intro i hi hq H hI
  have e : i = dN s := by omega
  subst e
  obtain ⟨c, r, h1, h3, h4⟩ := dd_fin m te s hs h2 (hE hq) H hI
  exact ⟨r, Runs.done h3, .inr ⟨rfl, c, h1, h4⟩⟩
 | succ q ih =>
  intro i hi hq H hI
  cases hp : rOk (dl s i) with
  | false => exact ⟨_, Runs.done (dd_bad m te s hs h2 i (by omega) H hI hp), .inl ⟨by simp [dAl, hp], rfl⟩⟩
  | true =>
   obtain ⟨H', h1, h3⟩ := dd_next m te s hs h2 i (by omega) H hI hp
   simp only [dAl, hp, Bool.true_and] at hq ⊢
   obtain ⟨r, h4, h5⟩ := ih (i + 1) (by omega) hq H' h3
   exact ⟨r, Runs.next h1 h4, h5⟩
theorem dd_K : K9z_s m te s = true := by
 have f1 : decide (s.length < 4294967281) = true := decide_eq_true (by omega)
 have f2 : pb (([32] : List UInt8) ≠ []) = true := pb_iff.2 (by simp)
 have f3 : pb (([10] : List UInt8) ≠ []) = true := pb_iff.2 (by simp)
 have l1 := spl_len s 10
 have l2 := spl_piece s 10 0
 have l3 := spl_len ((spl s [10]).getD 0 []) 32
 have n1 := List.length_pos_iff.2 (spl_join s 10).2
 have n2 := List.length_pos_iff.2 (spl_join ((spl s [10]).getD 0 []) 32).2
 have f4 : decide (((spl s [10]).getD 0 []).length < 4294967281) = true := decide_eq_true (by omega)
 have f5 : decide ((spl ((spl s [10]).getD 0 []) [32]).length - 1 ≤ 1000000) = true := decide_eq_true (by omega)
 have f6 : pb (∀ (i : Nat), i < (spl ((spl s [10]).getD 0 []) [32]).length - 1 → ((spl ((spl s [10]).getD 0 []) [32]).getD (1 + i) []).length ≤ 281474976710656) = true := pb_iff.2 (fun i _ => by have := spl_piece ((spl s [10]).getD 0 []) 32 (1 + i); omega)
 have f7 : decide ((0 : Int) < ((spl s [10]).length : Int)) = true := decide_eq_true (by omega)
 have f8 : decide ((1 : Int) ≤ ((spl ((spl s [10]).getD 0 []) [32]).length : Int)) = true := decide_eq_true (by omega)
 unfold K9z_s
 refine tree_eq (fun e1 => ?_) (fun e1 => ?_)
 ·simp only [g9z_s_1, allT, f1, f2, f3, f4, f5, f6, f7, f8, isV_self, e1, Bool.and_true, Bool.true_and, Bool.not_false, k9z_s_0]
 refine tree_eq (fun e2 => ?_) (fun e2 => ?_)
 ·simp only [g9z_s_2, allT, f1, f2, f3, f4, f5, f6, f7, f8, isV_self, e1, e2, Bool.and_true, Bool.true_and, Bool.not_false, k9z_s_1, k9z_s_0]
 refine tree_eq (fun e3 => ?_) (fun e3 => ?_)
 ·simp only [g9z_s_3, allT, f1, f2, f3, f4, f5, f6, f7, f8, isV_self, e1, e2, e3, Bool.and_true, Bool.true_and, Bool.not_false, k9z_s_2, k9z_s_1, k9z_s_0]
 ·have h2 : 2 ≤ (spl s [10]).length := by have := of_decide_eq_false e3; omega
  have w : IntKind.i64.wrap (((spl s [10]).length : Int) - 1) = ((spl s [10]).length : Int) - 1 := IntWalk.i64_in _ (by omega)
  have g1 : decide ((0 : Int) ≤ ((spl s [10]).length : Int) - 1) = true := decide_eq_true (by omega)
  have g2 : decide (((spl s [10]).length : Int) - 1 ≤ ((spl s [10]).length : Int)) = true := decide_eq_true (by omega)
  have g3 : decide ((1 : Int) ≤ ((((spl s [10]).length : Int) - 1).toNat : Int)) = true := decide_eq_true (by omega)
  have e6 : (nN (fun i => (spl ((spl s [10]).getD 0 []) [32]).getD (1 + i) []) ((spl ((spl s [10]).getD 0 []) [32]).length - 1) : Int) = 6 := by simpa using e2
  have e2' : ((6 : Int) != 6) = false := rfl
  have d0 : decide ((0 : Int) < 6) = true := rfl
  have d1 : decide ((1 : Int) < 6) = true := rfl
  have d2 : decide ((2 : Int) < 6) = true := rfl
  have d3 : decide ((3 : Int) < 6) = true := rfl
  have d4 : decide ((4 : Int) < 6) = true := rfl
  have d5 : decide ((5 : Int) < 6) = true := rfl
  simp only [g9z_s_4, allT, w, g1, g2, g3, e6, e2', d0, d1, d2, d3, d4, d5, f1, f2, f3, f4, f5, f6, f7, f8, isV_self, e1, e3, Bool.and_true, Bool.true_and, Bool.not_false, k9z_s_2, k9z_s_1, k9z_s_0]
theorem dd_V : (dHd s = false ∧ V9z_s m te s = .inr (.tup [.agg zC, .int .i64 3])) ∨
  (dHd s = true ∧ 2 ≤ (spl s [10]).length ∧ ∃ H, V9z_s m te s = .inl (.l0 (dN s) (0 : Nat) H) ∧ DI s 0 H) := by
 cases ha : allR (fun i => (spl ((spl s [10]).getD 0 []) [32]).getD (1 + i) []) ((spl ((spl s [10]).getD 0 []) [32]).length - 1) 0 with
 | false =>
  refine .inl ⟨?_, ?_⟩
  ·have ha' : allR (fun i => dh s (1 + i)) ((dHs s).length - 1) 0 = false := ha
   unfold dHd; rw [ha']; rfl
  ·unfold V9z_s
   rw [if_pos (by rw [ha]; rfl)]; rfl
 | true =>
  have ha' : allR (fun i => dh s (1 + i)) ((dHs s).length - 1) 0 = true := ha
  have c1 : ¬ (!allR (fun i => (spl ((spl s [10]).getD 0 []) [32]).getD (1 + i) []) ((spl ((spl s [10]).getD 0 []) [32]).length - 1) 0) = true := by rw [ha]; decide
  have hN : nN (fun i => (spl ((spl s [10]).getD 0 []) [32]).getD (1 + i) []) ((spl ((spl s [10]).getD 0 []) [32]).length - 1) = (dHs s).length - 1 := by
   unfold nN; rw [ha]; rfl
  by_cases h6 : (dHs s).length - 1 = 6
  case neg =>
   refine .inl ⟨?_, ?_⟩
   ·unfold dHd; rw [ha', decide_eq_false h6]; rfl
   ·unfold V9z_s
    rw [if_neg c1, hN, if_pos (by rw [bne_iff_ne]; omega)]; rfl
  have c2 : ¬ ((((dHs s).length - 1 : Nat) : Int) != 6) = true := by rw [h6]; decide
  by_cases h2 : 2 ≤ (spl s [10]).length
  case neg =>
   refine .inl ⟨?_, ?_⟩
   ·unfold dHd; rw [ha', decide_eq_true h6, decide_eq_false h2]; rfl
   ·unfold V9z_s
    rw [if_neg c1, hN, if_neg c2, if_pos (decide_eq_true (by omega))]; rfl
  refine .inr ⟨?_, h2, ?_⟩
  ·unfold dHd; rw [ha', decide_eq_true h6, decide_eq_true h2]; rfl
  ·have c3 : ¬ decide (((spl s [10]).length : Int) < 2) = true := by rw [decide_eq_false (by omega)]; decide
   unfold V9z_s
   rw [if_neg c1, hN, if_neg c2, if_neg c3, dN_eq s hs h2]
   exact ⟨_, rfl, ⟨rfl, Nat.le_refl 2, ⟨.nils, rfl, .inl ⟨rfl, rfl⟩⟩⟩⟩
end
def zeroCt : Ct := ⟨0, 0, 0, 0, 0, 0, 0, fun _ => ⟨⟨0, 0, fun _ => 0⟩, 0, 0, fun _ => ⟨0, 0, fun _ => 0⟩, 0, 0, []⟩⟩
theorem decode_ok {m : Int} {te : TypeId} (s : List UInt8) (hs : s.length ≤ 1000000) (hE : dOk s = true → ∀ c, Agr s c → encP c) :
  (∃ c, dOk s = true ∧ Agr s c ∧ CheckE c = 0 ∧ enc c = s ∧ PureFn prog (gl1 m te) 9 [.str s] (.tup [ctT c, .int .i64 0])) ∨
  ((dOk s = false ∨ ∃ c, Agr s c ∧ ¬ (CheckE c = 0 ∧ enc c = s)) ∧ PureFn prog (gl1 m te) 9 [.str s] (.tup [ctT zeroCt, .int .i64 3])) := by
 have hK := dd_K m te s hs
 have bad : PureFn prog (gl1 m te) 9 [.str s] (.tup [.agg zC, .int .i64 3]) → PureFn prog (gl1 m te) 9 [.str s] (.tup [ctT zeroCt, .int .i64 3]) := fun hp =>
  hp.mono fun g v hv => rd_tup1 (fun u hu => rd_ct (fun w hw => rd_nslf _ _ hw) hu) hv
 rcases dd_V m te s hs with ⟨h1, h3⟩ | ⟨h1, h2, H, h3, hI⟩
 ·exact .inr ⟨.inl (by unfold dOk; rw [h1]; rfl), bad (c9z m te s 0 hK (by rw [h3]; rfl))⟩
 ·have eO : dOk s = dAl s (dN s) 0 := by unfold dOk; rw [h1]; rfl
  obtain ⟨r, ⟨n, hn⟩, hr⟩ := dd_run m te s hs h2 (fun h => hE (eO.trans h)) (dN s) 0 (by omega) rfl H hI
  have hp := c9z m te s n hK (by rw [h3]; exact hn)
  rcases hr with ⟨ha, rfl⟩ | ⟨ha, c, hA, ⟨g0, g1, hf⟩ | ⟨hn', rfl⟩⟩
  ·exact .inr ⟨.inl (eO.trans ha), bad hp⟩
  ·exact .inl ⟨c, eO.trans ha, hA, g0, g1, hp.mono hf⟩
  ·exact .inr ⟨.inr ⟨c, hA, hn'⟩, bad hp⟩
end Go.Proofs.Tryz

/- A text of at most 1000 bytes that decodes holds a small certificate. -/
namespace Go.Proofs.Tryz
open Go.Ps
theorem nOk_ne {x : List UInt8} (h : nOk x = true) : x ≠ [] := by
 rintro rfl
 unfold nOk aOk aE at h
 simp [Lib.atoiAll, isNi, errT] at h
theorem pOk_len {x : List UInt8} (h : pOk x = true) : 3 ≤ x.length := by
 unfold pOk at h
 simp only [Bool.and_eq_true] at h
 have h1 := nOk_ne h.1
 have h2 : tlB x ≠ [] := by
  intro e
  have := h.2.1
  rw [e] at this
  have hm : (ByteArray.mk #[]) ∈ pcs [] := by unfold pcs; simp [Lib.splitB]
  have := List.all_eq_true.1 this _ hm
  exact nOk_ne this rfl
 unfold hdB at h1
 unfold tlB at h2
 unfold Lib.cut at h1 h2
 split at h2
 ·rename_i hge
  rw [if_pos hge] at h1
  have a1 : (x.take (Lib.index x [47]).toNat).length ≠ 0 := fun e => h1 (List.length_eq_zero_iff.1 e)
  have a2 : (x.drop ((Lib.index x [47]).toNat + [47].length)).length ≠ 0 := fun e => h2 (List.length_eq_zero_iff.1 e)
  simp only [List.length_take, List.length_drop, List.length_cons, List.length_nil] at a1 a2
  omega
 ·exact absurd rfl h2
end Go.Proofs.Tryz

/- The round trip: what Encode has written is what Decode reads (plain law). -/
namespace Go.Proofs.Tryz
open Go.Ps
/-! ### numbers -/
theorem digK_ne (k u : Nat) : digK (k + 1) u [] ≠ [] := by
 unfold digK
 split
 ·simp
 ·rw [digK_app]; simp
theorem digK_lenJ : ∀ (j k u : Nat), u < 10 ^ (j + 1) → j ≤ k → (digK (k + 1) u []).length ≤ j + 1
 | 0, k, u, h, _ => by
  unfold digK; rw [if_pos (by simpa using h)]; simp
 | j + 1, 0, u, h, hk => by omega
 | j + 1, k + 1, u, h, hk => by
  unfold digK
  split
  ·simp
  ·rw [digK_app]
   have := digK_lenJ j k (u / 10) (by rw [Nat.pow_succ] at h; omega) (by omega)
   simp only [List.length_append, List.length_cons, List.length_nil]; omega
theorem atoi_all {x : Int} (h0 : -9223372036854775808 ≤ x) (h1 : x ≤ 9223372036854775807) : Lib.atoiAll (itoaK x) = .ok x := by
 by_cases h : 0 ≤ x
 ·exact atoi_itoa h h1
 ·have e : itoaK x = 45 :: digK 20 x.natAbs [] := by unfold itoaK; rw [if_pos (by omega)]
  have hp := parse_dig 19 x.natAbs (by omega) (by omega)
  rw [e]
  unfold Lib.atoiAll
  simp only
  rw [if_pos (by decide)]
  unfold Lib.parseMag
  rw [if_neg (digK_ne 19 _), hp]
  simp only
  rw [if_neg (fun q => q.1 (by decide)), if_neg (by omega), if_pos (by decide)]
  congr 1; omega
theorem aV_it {x : Int} (h0 : -9223372036854775808 ≤ x) (h1 : x ≤ 9223372036854775807) : aV (itoaK x) = x := by
 unfold aV; rw [atoi_all h0 h1]
theorem aOk_it {x : Int} (h0 : -9223372036854775808 ≤ x) (h1 : x ≤ 9223372036854775807) : aOk (itoaK x) = true := by
 unfold aOk aE; rw [atoi_all h0 h1]; rfl
theorem nOk_it {x : Int} (h0 : 0 ≤ x) (h1 : x < 10000000) : nOk (itoaK x) = true := by
 unfold nOk
 rw [aOk_it (by omega) (by omega), aV_it (by omega) (by omega)]
 have : (itoaK x).length ≤ 7 := by
  unfold itoaK
  rw [if_neg (by omega)]
  exact digK_lenJ 6 19 x.toNat (by omega) (by omega)
 simp [this]
theorem itoaK_ge (x : Int) : ∀ c ∈ itoaK x, 45 ≤ c.toNat := by
 intro c hc
 by_cases h : 0 ≤ x
 ·have := itoaK_dig h c hc; unfold isDig at this; omega
 ·unfold itoaK at hc
  rw [if_pos (by omega)] at hc
  rcases List.mem_cons.1 hc with rfl | hc
  ·decide
  ·have := digK_dig 20 x.natAbs [] (fun _ h => by cases h) c hc; unfold isDig at this; omega
theorem joinL_mem (sep : List UInt8) (c : UInt8) : ∀ (ps : List (List UInt8)), c ∈ joinL sep ps → c ∈ sep ∨ ∃ p ∈ ps, c ∈ p
 | [], h => by cases h
 | [p], h => .inr ⟨p, by simp, h⟩
 | p :: q :: r, h => by
  simp only [joinL, List.mem_append] at h
  rcases h with (h | h) | h
  ·exact .inr ⟨p, by simp, h⟩
  ·exact .inl h
  ·rcases joinL_mem sep c (q :: r) h with h | ⟨z, hz, hc⟩
   ·exact .inl h
   ·exact .inr ⟨z, by simp at hz ⊢; exact .inr hz, hc⟩
theorem no_ge {l : List UInt8} {k : Nat} (h : ∀ c ∈ l, k ≤ c.toNat) (b : UInt8) (hb : b.toNat < k) : b ∉ l := fun hm => by have := h b hm; omega
theorem no_dig {l : List UInt8} (h : ∀ c ∈ l, isDig c) (b : UInt8) (hb : b.toNat < 48) : b ∉ l := fun hm => by have := h b hm; unfold isDig at this; omega
theorem spl_joinR (b : UInt8) (ps : List (List UInt8)) (h1 : ps ≠ []) (h2 : ∀ p ∈ ps, b ∉ p) : spl (joinL [b] ps) [b] = ps := splitB_join b ps h1 h2
/-! ### stamps -/
def nsp (s : Sp) : Sp := ⟨s.entry, s.n, fun j => if j < s.n then s.at_ j else 0⟩
def zSp : Sp := ⟨0, 0, fun _ => 0⟩
theorem pth_len (s : Sp) : (pth s).length = s.n := by simp [pth]
theorem pth_dig {s : Sp} (h : chk s = 0) : ∀ p ∈ pth s, ∀ c ∈ p, isDig c := by
 obtain ⟨z1, z2, z3, z4, z5⟩ := chk_zero h
 intro p hp
 obtain ⟨j, hj, rfl⟩ := List.mem_map.1 hp
 exact itoaK_dig (z5 j (List.mem_range.1 hj)).1
theorem txt_ge {s : Sp} (h : chk s = 0) : ∀ c ∈ txt s, 46 ≤ c.toNat := by
 intro c hc
 unfold txt at hc
 simp only [List.mem_append] at hc
 rcases hc with (hc | hc) | hc
 ·have := itoaK_dig (by have := (chk_zero h).1; omega) c hc; unfold isDig at this; omega
 ·simp at hc; subst hc; decide
 ·rcases joinL_mem _ c _ hc with hc | ⟨p, hp, hc⟩
  ·simp at hc; subst hc; decide
  ·have := pth_dig h p hp c hc; unfold isDig at this; omega
theorem txt_cut {s : Sp} (h : chk s = 0) : Lib.cut (txt s) [47] = (itoaK s.entry, joinL [46] (pth s), true) := by
 have e : txt s = itoaK s.entry ++ 47 :: joinL [46] (pth s) := by unfold txt; simp
 have hi := index_at 47 (joinL [46] (pth s)) (itoaK s.entry) (no_dig (itoaK_dig (by have := (chk_zero h).1; omega)) 47 (by decide))
 rw [e]
 unfold Lib.cut
 rw [hi, if_pos (by omega), Int.toNat_natCast, List.take_left' rfl]
 have e2 : (itoaK s.entry ++ 47 :: joinL [46] (pth s)).drop ((itoaK s.entry).length + ([47] : List UInt8).length) = joinL [46] (pth s) := by
  have : itoaK s.entry ++ 47 :: joinL [46] (pth s) = (itoaK s.entry ++ [47]) ++ joinL [46] (pth s) := by simp
  rw [this, List.drop_left' (by simp)]
 rw [e2]
theorem pcs_txt {s : Sp} (h : chk s = 0) : (pcs (joinL [46] (pth s))).map (·.data.toList) = pth s := by
 have hz := chk_zero h
 have hge := joinL_ge 46 (pth s)
 unfold pcs
 rw [Lib.splitB_data]
 refine splitK_join 46 (pth s) _ (fun e => ?_) (fun p hp => no_dig (pth_dig h p hp) 46 (by decide)) (by omega)
 have := pth_len s
 rw [e] at this
 simp at this
 omega
theorem getD_data (l : List ByteArray) (j : Nat) : (l.getD j ByteArray.empty).data.toList = (l.map (·.data.toList)).getD j [] := by
 rw [List.getD_eq_getElem?_getD, List.getD_eq_getElem?_getD, List.getElem?_map]
 cases l[j]? <;> rfl
theorem pth_at (s : Sp) (j : Nat) : (pth s).getD j [] = if j < s.n then itoaK (s.at_ j) else [] := by
 unfold pth
 rw [List.getD_eq_getElem?_getD, List.getElem?_map]
 split
 ·rename_i h; rw [List.getElem?_range h]; rfl
 ·rename_i h; rw [List.getElem?_eq_none (by simp; omega)]; rfl
theorem psp_txt {s : Sp} (h : chk s = 0) : psp (txt s) = nsp s := by
 obtain ⟨z1, z2, z3, z4, z5⟩ := chk_zero h
 unfold psp nsp hdB tlB
 rw [txt_cut h]
 have hl : (pcs (joinL [46] (pth s))).length = s.n := by
  have := congrArg List.length (pcs_txt h)
  rw [List.length_map, pth_len] at this
  exact this
 have ha : (fun i => aV ((pcs (joinL [46] (pth s))).getD i ByteArray.empty).data.toList) = fun j => if j < s.n then s.at_ j else 0 := by
  funext j
  rw [getD_data, pcs_txt h, pth_at]
  split
  ·rename_i hj
   exact aV_it (by have := (z5 j hj).1; omega) (by have := (z5 j hj).2; omega)
  ·rfl
 show Sp.mk (aV (itoaK s.entry)) (pcs (joinL [46] (pth s))).length _ = _
 rw [hl, ha, aV_it (by omega) (by omega)]
theorem chk_nsp (s : Sp) : chk (nsp s) = chk s := chk_congr rfl rfl (fun j hj => if_pos hj)
theorem pOk_txt {s : Sp} (h : chk s = 0) : pOk (txt s) = true := by
 obtain ⟨z1, z2, z3, z4, z5⟩ := chk_zero h
 unfold pOk
 rw [psp_txt h, chk_nsp, h]
 unfold hdB tlB
 rw [txt_cut h]
 simp only [Bool.and_eq_true]
 refine ⟨nOk_it (by omega) (by omega), List.all_eq_true.2 fun x hx => ?_, by decide⟩
 have hm : x.data.toList ∈ pth s := by rw [← pcs_txt h]; exact List.mem_map.2 ⟨x, hx, rfl⟩
 obtain ⟨j, hj, e⟩ := List.mem_map.1 hm
 rw [← e]
 have := z5 j (List.mem_range.1 hj)
 exact nOk_it (by omega) (by omega)
theorem pS_txt {s : Sp} (h : chk s = 0) : pS (txt s) = nsp s := by
 unfold pS
 rw [pOk_txt h, if_pos rfl, psp_txt h]
theorem pS_short {x : List UInt8} (h : x.length < 3) : pS x = zSp := by
 unfold pS
 rw [if_neg (fun q => by have := pOk_len q; omega)]
 rfl
/-! ### lines -/
noncomputable def lnB (x : Ln) : List UInt8 := joinL [32] ([108, 105, 110, 101] :: [txt x.st, itoaK x.mass, itoaK x.fate, itoaK x.closed, hy x.node, hy (joinL [44] (frS x))])
def nln (x : Ln) : Ln := ⟨nsp x.st, x.mass, x.k, fun k => if k < x.k then nsp (x.from_ k) else zSp, x.fate, x.closed, x.node⟩
structure GdL (x : Ln) : Prop where
 st : chk x.st = 0
 ms : 0 ≤ x.mass ∧ x.mass ≤ 1099511627776
 ft : 0 ≤ x.fate ∧ x.fate ≤ 4
 cl : 0 ≤ x.closed ∧ x.closed ≤ 6
 fr : ∀ k, k < x.k → chk (x.from_ k) = 0
 nd : ∀ c ∈ x.node, 48 ≤ c.toNat
theorem frS_len (x : Ln) : (frS x).length = x.k := by simp [frS]
theorem frS_ge {x : Ln} (h : GdL x) : ∀ p ∈ frS x, ∀ c ∈ p, 46 ≤ c.toNat := by
 intro p hp
 obtain ⟨j, hj, rfl⟩ := List.mem_map.1 hp
 exact txt_ge (h.fr j (List.mem_range.1 hj))
theorem frj_ge {x : Ln} (h : GdL x) : ∀ c ∈ joinL [44] (frS x), 44 ≤ c.toNat := by
 intro c hc
 rcases joinL_mem _ c _ hc with hc | ⟨p, hp, hc⟩
 ·simp at hc; subst hc; decide
 ·have := frS_ge h p hp c hc; omega
theorem hy_ge {k : Nat} {l : List UInt8} (hk : k ≤ 45) (h : ∀ c ∈ l, k ≤ c.toNat) : ∀ c ∈ hy l, k ≤ c.toNat := by
 intro c hc
 unfold hy at hc
 split at hc
 ·simp at hc; subst hc; exact hk
 ·exact h c hc
theorem lnP_ge {x : Ln} (h : GdL x) : ∀ p ∈ ([108, 105, 110, 101] :: [txt x.st, itoaK x.mass, itoaK x.fate, itoaK x.closed, hy x.node, hy (joinL [44] (frS x))] : List (List UInt8)), ∀ c ∈ p, 44 ≤ c.toNat := by
 intro p hp c hc
 simp only [List.mem_cons, List.not_mem_nil, or_false] at hp
 rcases hp with rfl | rfl | rfl | rfl | rfl | rfl | rfl
 ·simp at hc; rcases hc with rfl | rfl | rfl | rfl <;> decide
 ·have := txt_ge h.st c hc; omega
 ·have := itoaK_ge _ c hc; omega
 ·have := itoaK_ge _ c hc; omega
 ·have := itoaK_ge _ c hc; omega
 ·exact hy_ge (by omega) (fun c hc => by have := h.nd c hc; omega) c hc
 ·exact hy_ge (by omega) (frj_ge h) c hc
theorem lnB_no {x : Ln} (h : GdL x) : (10 : UInt8) ∉ lnB x := by
 intro hm
 rcases joinL_mem _ _ _ hm with hm | ⟨p, hp, hm⟩
 ·simp at hm
 ·have := lnP_ge h p hp 10 hm
  exact absurd this (by decide)
theorem lnB_spl {x : Ln} (h : GdL x) : spl (lnB x) [32] = [108, 105, 110, 101] :: [txt x.st, itoaK x.mass, itoaK x.fate, itoaK x.closed, hy x.node, hy (joinL [44] (frS x))] :=
 spl_joinR 32 _ (by simp) (fun p hp => no_ge (lnP_ge h p hp) 32 (by decide))
theorem frS_nil {x : Ln} (h : x.k = 0) : frS x = [] := by unfold frS; rw [h]; rfl
theorem frj_mem {x : Ln} (h : x.k ≠ 0) : (47 : UInt8) ∈ joinL [44] (frS x) := by
 have h0 : frS x = txt (x.from_ 0) :: (frS x).tail := by
  have hl := frS_len x
  match hq : frS x with
  | [] => rw [hq] at hl; simp at hl; omega
  | a :: r =>
   have : (frS x)[0]? = some (txt (x.from_ 0)) := by
    unfold frS; rw [List.getElem?_map, List.getElem?_range (by omega)]; rfl
   rw [hq] at this
   simp at this
   rw [this]; rfl
 have hm : (47 : UInt8) ∈ txt (x.from_ 0) := by unfold txt; simp
 rw [h0]
 cases (frS x).tail with
 | nil => exact hm
 | cons a r => simp only [joinL, List.mem_append]; exact .inl (.inl hm)
theorem frS_at (x : Ln) (j : Nat) : (frS x).getD j [] = if j < x.k then txt (x.from_ j) else [] := by
 unfold frS
 rw [List.getD_eq_getElem?_getD, List.getElem?_map]
 split
 ·rename_i h; rw [List.getElem?_range h]; rfl
 ·rename_i h; rw [List.getElem?_eq_none (by simp; omega)]; rfl
theorem rAl_of {s : List UInt8} : ∀ (q i : Nat), (∀ j, i ≤ j → j < i + q → pOk (rq s j) = true) → rAl s q i = true
 | 0, _, _ => rfl
 | q + 1, i, h => by
  simp only [rAl, Bool.and_eq_true]
  exact ⟨h i (by omega) (by omega), rAl_of q (i + 1) (fun j h1 h2 => h j (by omega) (by omega))⟩
section
variable {x : Ln} (h : GdL x)
include h
theorem rP_at (j : Nat) : rP (lnB x) j = ([108, 105, 110, 101] :: [txt x.st, itoaK x.mass, itoaK x.fate, itoaK x.closed, hy x.node, hy (joinL [44] (frS x))] : List (List UInt8)).getD j [] := by
 unfold rP; rw [lnB_spl h]
theorem rQ_at : rQ (lnB x) = if x.k = 0 then [[45]] else frS x := by
 unfold rQ
 rw [rP_at h]
 show spl (hy (joinL [44] (frS x))) [44] = _
 unfold hy
 split
 ·rename_i e
  have hk : x.k = 0 := by
   refine Classical.byContradiction fun q => ?_
   have := frj_mem q
   rw [e] at this; cases this
  rw [if_pos hk]
  exact spl_joinR 44 [[45]] (by simp) (by simp)
 ·rename_i e
  have hk : x.k ≠ 0 := fun q => e (by rw [frS_nil q]; rfl)
  rw [if_neg hk]
  refine spl_joinR 44 _ (fun q => e (by rw [q]; rfl)) (fun p hp => no_ge (frS_ge h p hp) 44 (by decide))
theorem r6 : rP (lnB x) 6 = [45] ↔ x.k = 0 := by
 rw [rP_at h]
 show hy (joinL [44] (frS x)) = [45] ↔ _
 unfold hy
 constructor
 ·intro e
  refine Classical.byContradiction fun q => ?_
  have hm := frj_mem q
  split at e
  ·rename_i e2; rw [e2] at hm; cases hm
  ·rw [e] at hm; simp at hm
 ·intro e
  rw [if_pos (by rw [frS_nil e]; rfl)]
theorem rq_at (j : Nat) : pS (rq (lnB x) j) = if j < x.k then nsp (x.from_ j) else zSp := by
 unfold rq
 rw [rQ_at h]
 by_cases e : x.k = 0
 ·rw [if_pos e, if_neg (by omega)]
  match j with
  | 0 => exact pS_short (by decide)
  | j + 1 => exact pS_short (x := []) (by decide)
 ·rw [if_neg e, frS_at]
  split
  ·rename_i hj; exact pS_txt (h.fr j hj)
  ·exact pS_short (by decide)
theorem rHd_ok : rHd (lnB x) = true := by
 have m1 := h.ms
 have m2 := h.ft
 have m3 := h.cl
 unfold rHd
 rw [rP_at h, rP_at h, lnB_spl h]
 simp only [Bool.and_eq_true]
 refine ⟨by rfl, by rfl, pOk_txt h.st, ?_⟩
 show (if aOk (itoaK x.mass) then (if aOk (itoaK x.fate) then (if aOk (itoaK x.closed) then true else false) else false) else false) = true
 rw [aOk_it (by omega) (by omega), aOk_it (by omega) (by omega), aOk_it (by omega) (by omega)]
 rfl
theorem rOk_ln : rOk (lnB x) = true := by
 unfold rOk
 rw [rHd_ok h, Bool.true_and]
 split
 ·rfl
 ·rename_i e
  have hk : x.k ≠ 0 := fun q => e ((r6 h).2 q)
  have hq : rQ (lnB x) = frS x := by rw [rQ_at h, if_neg hk]
  rw [hq, frS_len]
  refine rAl_of _ _ fun j h1 h2 => ?_
  unfold rq
  rw [hq, frS_at, if_pos (by omega)]
  exact pOk_txt (h.fr j (by omega))
theorem rL_ln : rL (lnB x) = nln x := by
 have m1 := h.ms
 have m2 := h.ft
 have m3 := h.cl
 have e1 : pS (rP (lnB x) 1) = nsp x.st := by rw [rP_at h]; exact pS_txt h.st
 have e2 : aV (rP (lnB x) 2) = x.mass := by rw [rP_at h]; exact aV_it (by omega) (by omega)
 have e3 : aV (rP (lnB x) 3) = x.fate := by rw [rP_at h]; exact aV_it (by omega) (by omega)
 have e4 : aV (rP (lnB x) 4) = x.closed := by rw [rP_at h]; exact aV_it (by omega) (by omega)
 have e5 : rK (lnB x) = x.k := by
  unfold rK
  split
  ·rename_i e; exact ((r6 h).1 e).symm
  ·rename_i e
   rw [rQ_at h, if_neg (fun q => e ((r6 h).2 q)), frS_len]
 have e6 : (fun i => pS (rq (lnB x) i)) = fun k => if k < x.k then nsp (x.from_ k) else zSp := by
  funext j; exact rq_at h j
 have e7 : rNd (lnB x) = x.node := by
  unfold rNd
  rw [rP_at h]
  show (if hy x.node = [45] then [] else hy x.node) = _
  unfold hy
  by_cases e : x.node = []
  ·rw [if_pos e, if_pos rfl, e]
  ·rw [if_neg e, if_neg]
   intro q
   have := h.nd 45 (by rw [q]; simp)
   exact absurd this (by decide)
 unfold rL nln
 rw [rOk_ln h, if_pos rfl, e1, e2, e3, e4, e5, e6, e7]
end
/-! ### the certificate -/
noncomputable def hdT (c : Ct) : List UInt8 := joinL [32] ([98, 97, 108, 97, 110, 99, 101] :: [itoaK c.entries, itoaK c.accepted, itoaK c.delivered, itoaK c.waiting, itoaK c.letters, itoaK c.discarded])
def nct (c : Ct) : Ct := ⟨c.entries, c.accepted, c.delivered, c.waiting, c.letters, c.discarded, c.n, fun i => if i < c.n then nln (c.line i) else zLn⟩
theorem joinL_end (b : UInt8) : ∀ (ps : List (List UInt8)), joinL [b] (ps ++ [[]]) = (ps.map (· ++ [b])).flatten
 | [] => rfl
 | [p] => by simp [joinL]
 | p :: q :: r => by
  have ih := joinL_end b (q :: r)
  rw [List.cons_append] at ih
  rw [List.cons_append, List.cons_append, joinL, ih]
  simp
theorem encR_eq (c : Ct) : ∀ i, encR c i = ((hdT c :: (List.range i).map fun j => lnB (c.line j)).map (· ++ [10])).flatten
 | 0 => by simp [encR]; rfl
 | i + 1 => by
  rw [encR, encR_eq c i, List.range_succ]
  simp only [List.map_cons, List.map_append, List.map_nil, List.flatten_cons, List.flatten_append, List.flatten_nil, List.append_assoc, List.append_nil]
  rfl
structure GdC (c : Ct) : Prop where
 z : ∀ z ∈ [c.entries, c.accepted, c.delivered, c.waiting, c.letters, c.discarded], -9223372036854775808 ≤ z ∧ z ≤ 9223372036854775807
 l : ∀ i, i < c.n → GdL (c.line i)
theorem hdP_ge (c : Ct) : ∀ p ∈ ([98, 97, 108, 97, 110, 99, 101] :: [itoaK c.entries, itoaK c.accepted, itoaK c.delivered, itoaK c.waiting, itoaK c.letters, itoaK c.discarded] : List (List UInt8)), ∀ x ∈ p, 45 ≤ x.toNat := by
 intro p hp x hx
 simp only [List.mem_cons, List.not_mem_nil, or_false] at hp
 rcases hp with rfl | rfl | rfl | rfl | rfl | rfl | rfl
 ·simp at hx; rcases hx with rfl | rfl | rfl | rfl | rfl | rfl | rfl <;> decide
 all_goals exact itoaK_ge _ x hx
theorem hdT_no (c : Ct) : (10 : UInt8) ∉ hdT c := by
 intro hm
 rcases joinL_mem _ _ _ hm with hm | ⟨p, hp, hm⟩
 ·simp at hm
 ·exact absurd (hdP_ge c p hp 10 hm) (by decide)
theorem hdT_spl (c : Ct) : spl (hdT c) [32] = [98, 97, 108, 97, 110, 99, 101] :: [itoaK c.entries, itoaK c.accepted, itoaK c.delivered, itoaK c.waiting, itoaK c.letters, itoaK c.discarded] :=
 spl_joinR 32 _ (by simp) (fun p hp => no_ge (hdP_ge c p hp) 32 (by decide))
theorem dAl_of {s : List UInt8} : ∀ (q i : Nat), (∀ j, i ≤ j → j < i + q → rOk (dl s j) = true) → dAl s q i = true
 | 0, _, _ => rfl
 | q + 1, i, h => by
  simp only [dAl, Bool.and_eq_true]
  exact ⟨h i (by omega) (by omega), dAl_of q (i + 1) (fun j h1 h2 => h j (by omega) (by omega))⟩
section
variable {c : Ct} (h : GdC c)
include h
theorem enc_spl : spl (enc c) [10] = (hdT c :: (List.range c.n).map fun j => lnB (c.line j)) ++ [[]] := by
 unfold enc
 rw [encR_eq, ← joinL_end]
 refine spl_joinR 10 _ (by simp) (fun p hp => ?_)
 simp only [List.cons_append, List.mem_cons, List.mem_append, List.mem_map, List.mem_range, List.not_mem_nil, or_false] at hp
 rcases hp with rfl | ⟨j, hj, rfl⟩ | rfl
 ·exact hdT_no c
 ·exact lnB_no (h.l j hj)
 ·simp
theorem dl_at (i : Nat) (hi : i < c.n) : dl (enc c) i = lnB (c.line i) := by
 unfold dl dP
 rw [enc_spl h, Nat.add_comm, List.cons_append, List.getD_cons_succ, List.getD_eq_getElem?_getD, List.getElem?_append_left (by simpa using hi), List.getElem?_map, List.getElem?_range hi]
 rfl
theorem spl_cnt : (spl (enc c) [10]).length = c.n + 2 := by rw [enc_spl h]; simp
theorem dN_at : dN (enc c) = c.n := by unfold dN; rw [spl_cnt h]; omega
theorem dHs_at : dHs (enc c) = [98, 97, 108, 97, 110, 99, 101] :: [itoaK c.entries, itoaK c.accepted, itoaK c.delivered, itoaK c.waiting, itoaK c.letters, itoaK c.discarded] := by
 unfold dHs dP
 rw [enc_spl h]
 exact hdT_spl c
theorem dOk_enc : dOk (enc c) = true := by
 have hz := h.z
 simp only [List.mem_cons, List.not_mem_nil, or_false, forall_eq_or_imp, forall_eq] at hz
 obtain ⟨z1, z2, z3, z4, z5, z6⟩ := hz
 unfold dOk dHd
 rw [spl_cnt h, dN_at h]
 have hd : dHs (enc c) = _ := dHs_at h
 have ha : allR (fun i => dh (enc c) (1 + i)) 6 0 = true := by
  unfold dh
  rw [hd]
  show (if aOk (itoaK c.entries) then (if aOk (itoaK c.accepted) then (if aOk (itoaK c.delivered) then (if aOk (itoaK c.waiting) then (if aOk (itoaK c.letters) then (if aOk (itoaK c.discarded) then true else false) else false) else false) else false) else false) else false) = true
  rw [aOk_it z1.1 z1.2, aOk_it z2.1 z2.2, aOk_it z3.1 z3.2, aOk_it z4.1 z4.2, aOk_it z5.1 z5.2, aOk_it z6.1 z6.2]
  rfl
 rw [hd]
 simp only [Bool.and_eq_true, decide_eq_true_eq]
 refine ⟨⟨ha, by rfl, by omega⟩, dAl_of _ _ fun j _ hj => ?_⟩
 rw [dl_at h j (by omega)]
 exact rOk_ln (h.l j (by omega))
theorem agr_enc : Agr (enc c) (nct c) := by
 have hz := h.z
 simp only [List.mem_cons, List.not_mem_nil, or_false, forall_eq_or_imp, forall_eq] at hz
 obtain ⟨z1, z2, z3, z4, z5, z6⟩ := hz
 have hd : ∀ j, dh (enc c) j = ([98, 97, 108, 97, 110, 99, 101] :: [itoaK c.entries, itoaK c.accepted, itoaK c.delivered, itoaK c.waiting, itoaK c.letters, itoaK c.discarded] : List (List UInt8)).getD j [] := fun j => by
  unfold dh; rw [dHs_at h]
 refine ⟨?_, ?_, ?_, ?_, ?_, ?_, (dN_at h).symm, fun i hi => ?_, fun i hi => if_neg (Nat.not_lt.2 hi)⟩
 ·rw [hd]; exact (aV_it z1.1 z1.2).symm
 ·rw [hd]; exact (aV_it z2.1 z2.2).symm
 ·rw [hd]; exact (aV_it z3.1 z3.2).symm
 ·rw [hd]; exact (aV_it z4.1 z4.2).symm
 ·rw [hd]; exact (aV_it z5.1 z5.2).symm
 ·rw [hd]; exact (aV_it z6.1 z6.2).symm
 ·have hi' : i < c.n := hi
  rw [dl_at h i hi', rL_ln (h.l i hi')]
  exact if_pos hi'
end
theorem agr_uni {s : List UInt8} {a b : Ct} (ha : Agr s a) (hb : Agr s b) : a = b := by
 have hl : a.line = b.line := by
  funext i
  by_cases e : i < a.n
  ·rw [ha.l i e, hb.l i (by rw [hb.n, ← ha.n]; exact e)]
  ·rw [ha.z i (by omega), hb.z i (by rw [hb.n, ← ha.n]; omega)]
 cases a; cases b
 have := ha.a1.trans hb.a1.symm
 have := ha.a2.trans hb.a2.symm
 have := ha.a3.trans hb.a3.symm
 have := ha.a4.trans hb.a4.symm
 have := ha.a5.trans hb.a5.symm
 have := ha.a6.trans hb.a6.symm
 have := ha.n.trans hb.n.symm
 simp_all
end Go.Proofs.Tryz

/- sameStamps as a machine, by program (gen2). -/
namespace Go.Proofs.Tryz
noncomputable section
open Go.Ps
set_option maxRecDepth 100000
/-! ### 52 -/
inductive S52z where
 | l0 (x5 : Int)
def g52z_s_1 (n1 : Nat) (f1 : Nat → Sp) (n2 : Nat) (f2 : Nat → Sp) : List Bool := [(↑n1 : Int) != (↑n2 : Int)]
def g52z_s_2 (n1 : Nat) (f1 : Nat → Sp) (n2 : Nat) (f2 : Nat → Sp) : List Bool := [!(↑n1 : Int) != (↑n2 : Int)]
def k52z_0_0 (n1 : Nat) (f1 : Nat → Sp) (n2 : Nat) (f2 : Nat → Sp) (x5 : Int) : List Bool := let y0 := decide (0 ≤ x5); let y1 := decide (x5 < (↑n1 : Int)); [isV (spT (f1 x5.toNat)) (spT (f1 x5.toNat)), isV (spT (f2 x5.toNat)) (spT (f2 x5.toNat)), decide ((f1 x5.toNat).n ≤ 281474976710656), y0, decide (x5 < (↑n2 : Int)), true, y0, y1, true, y1]
def g52z_0_1 (n1 : Nat) (f1 : Nat → Sp) (n2 : Nat) (f2 : Nat → Sp) (x5 : Int) : List Bool := (!eqS (f1 x5.toNat) (f2 x5.toNat)) :: k52z_0_0 n1 f1 n2 f2 x5
def g52z_0_2 (n1 : Nat) (f1 : Nat → Sp) (n2 : Nat) (f2 : Nat → Sp) (x5 : Int) : List Bool := (!!eqS (f1 x5.toNat) (f2 x5.toNat)) :: k52z_0_0 n1 f1 n2 f2 x5
def g52z_0_3 (n1 : Nat) (f1 : Nat → Sp) (n2 : Nat) (f2 : Nat → Sp) (x5 : Int) : List Bool := [!decide (x5 < (↑n1 : Int))]
def V52z_0 (n1 : Nat) (f1 : Nat → Sp) (n2 : Nat) (f2 : Nat → Sp) (x5 : Int) : S52z ⊕ T :=
 (if decide (x5 < (↑n1 : Int)) then (if !eqS (f1 x5.toNat) (f2 x5.toNat) then (.inr (T.bool false)) else (.inl (.l0 (IntKind.i64.wrap (x5 + 1))))) else (.inr (T.bool true)))
def K52z_0 (n1 : Nat) (f1 : Nat → Sp) (n2 : Nat) (f2 : Nat → Sp) (x5 : Int) : Bool :=
 (if decide (x5 < (↑n1 : Int)) then (if !eqS (f1 x5.toNat) (f2 x5.toNat) then (allT (g52z_0_1 n1 f1 n2 f2 x5)) else (allT (g52z_0_2 n1 f1 n2 f2 x5))) else (allT (g52z_0_3 n1 f1 n2 f2 x5)))
def step52z_0 (n1 : Nat) (f1 : Nat → Sp) (n2 : Nat) (f2 : Nat → Sp) (x5 : Int) : Option (S52z ⊕ T) := if K52z_0 n1 f1 n2 f2 x5 then some (V52z_0 n1 f1 n2 f2 x5) else none
theorem T52z_0 (n1 : Nat) (f1 : Nat → Sp) (n2 : Nat) (f2 : Nat → Sp) (x5 : Int) (hk : K52z_0 n1 f1 n2 f2 x5 = true) : step52z_0 n1 f1 n2 f2 x5 = some (V52z_0 n1 f1 n2 f2 x5) := if_pos hk
def V52z_s (n1 : Nat) (f1 : Nat → Sp) (n2 : Nat) (f2 : Nat → Sp) : S52z ⊕ T :=
 (if (↑n1 : Int) != (↑n2 : Int) then (.inr (T.bool false)) else (.inl (.l0 0)))
def K52z_s (n1 : Nat) (f1 : Nat → Sp) (n2 : Nat) (f2 : Nat → Sp) : Bool :=
 (if (↑n1 : Int) != (↑n2 : Int) then (allT (g52z_s_1 n1 f1 n2 f2)) else (allT (g52z_s_2 n1 f1 n2 f2)))
def step52z (n1 : Nat) (f1 : Nat → Sp) (n2 : Nat) (f2 : Nat → Sp) : S52z → Option (S52z ⊕ T)
 | .l0 x5 => step52z_0 n1 f1 n2 f2 x5
def M52z (n1 : Nat) (f1 : Nat → Sp) (n2 : Nat) (f2 : Nat → Sp) : Mch S52z where
 lp := fun σ => match σ with
  | .l0 .. => 0
 keep := fun ι => match ι with
  | 0 => [0, 1, 5]
  | _ => []
 par := fun ι => match ι with
  | 0 => []
  | _ => []
 vs := fun σ => match σ with
  | .l0 x5 => [T.slf false n1 fun i => spT (f1 i), T.slf false n2 fun i => spT (f2 i), T.int .i64 x5]
 hp := fun _ => ⟨0, []⟩
 len := 27
 step := step52z n1 f1 n2 f2
def r52z_0 (n1 : Nat) (f1 : Nat → Sp) (n2 : Nat) (f2 : Nat → Sp) (x5 : Int) (fr : List T) (ds : List Bool) : RD Out := (M52z n1 f1 n2 f2).rk prog D20 F0 f52 (.l0 x5) fr ds
theorem w52z_0_1 (n1 : Nat) (f1 : Nat → Sp) (n2 : Nat) (f2 : Nat → Sp) (x5 : Int) (fr : List T) : outK prog f52 20 [] (r52z_0 n1 f1 n2 f2 x5 fr [true, true]) = wdn (T.bool false) (g52z_0_1 n1 f1 n2 f2 x5) := by kernel_rfl
theorem w52z_0_2 (n1 : Nat) (f1 : Nat → Sp) (n2 : Nat) (f2 : Nat → Sp) (x5 : Int) (fr : List T) : (M52z n1 f1 n2 f2).wa prog f52 (r52z_0 n1 f1 n2 f2 x5 fr [true, false]) 0 (g52z_0_2 n1 f1 n2 f2 x5) (.l0 (IntKind.i64.wrap (x5 + 1))) := by unfold Mch.wa; kernel_rfl
theorem w52z_0_3 (n1 : Nat) (f1 : Nat → Sp) (n2 : Nat) (f2 : Nat → Sp) (x5 : Int) (fr : List T) : outK prog f52 20 [] (r52z_0 n1 f1 n2 f2 x5 fr [false]) = wdn (T.bool true) (g52z_0_3 n1 f1 n2 f2 x5) := by kernel_rfl
def r52z_s (n1 : Nat) (f1 : Nat → Sp) (n2 : Nat) (f2 : Nat → Sp) (ds : List Bool) : RD Out := runK prog D20 F0 2000 (.code (bodyOf f52)) [] 0 ([ssT n1 f1, ssT n2 f2] ++ List.replicate 25 undefT) ⟨0, []⟩ ds []
theorem w52z_s_1 (n1 : Nat) (f1 : Nat → Sp) (n2 : Nat) (f2 : Nat → Sp) : outK prog f52 20 [] (r52z_s n1 f1 n2 f2 [true]) = wdn (T.bool false) (g52z_s_1 n1 f1 n2 f2) := by kernel_rfl
theorem w52z_s_2 (n1 : Nat) (f1 : Nat → Sp) (n2 : Nat) (f2 : Nat → Sp) : (M52z n1 f1 n2 f2).wl prog f52 (r52z_s n1 f1 n2 f2 [false]) 0 (g52z_s_2 n1 f1 n2 f2) (.l0 0) := by unfold Mch.wl; kernel_rfl
theorem ways52z (n1 : Nat) (f1 : Nat → Sp) (n2 : Nat) (f2 : Nat → Sp) : (M52z n1 f1 n2 f2).Ways prog D20 F0 f52 20 := by
 intro σ o fr h
 cases σ with
 | l0 x5 =>
  obtain ⟨hk, ho⟩ := kv_some (K := K52z_0 n1 f1 n2 f2 x5) (V := V52z_0 n1 f1 n2 f2 x5) h
  exact (wk_if (wk_if (kD (w52z_0_1 n1 f1 n2 f2 x5 fr)) (kA (w52z_0_2 n1 f1 n2 f2 x5 fr) rfl)) (kD (w52z_0_3 n1 f1 n2 f2 x5 fr))) hk o ho
theorem oks52z (n1 : Nat) (f1 : Nat → Sp) (n2 : Nat) (f2 : Nat → Sp) : ∀ σ, Ps.codeOk (loopAt f52 ((M52z n1 f1 n2 f2).lp σ)).1 = true ∧ ksOk (.lp :: (loopAt f52 ((M52z n1 f1 n2 f2).lp σ)).2) = true := oks_of 1 (by kernel_rfl) (by intro σ; cases σ <;> exact Nat.le_of_ble_eq_true rfl)
theorem c52z (n1 : Nat) (f1 : Nat → Sp) (n2 : Nat) (f2 : Nat → Sp) (n : Nat) {r : T} (hk : K52z_s n1 f1 n2 f2 = true) (hr : (M52z n1 f1 n2 f2).fin n (V52z_s n1 f1 n2 f2) = some r) : PureFn prog gl 52 [ssT n1 f1, ssT n2 f2] r :=
 pure_mach (M := (M52z n1 f1 n2 f2)) (fn := f52) (k := 20) (d := 8) (c := bodyOf f52) cx20 glFrz (by kernel_rfl) func52 (by kernel_rfl) rfl (by kernel_rfl) (by kernel_rfl) (L := 25) (by kernel_rfl) (ways52z n1 f1 n2 f2) (oks52z n1 f1 n2 f2) ((wk_if (kD (w52z_s_1 n1 f1 n2 f2)) (kL (w52z_s_2 n1 f1 n2 f2) rfl)) hk _ rfl) hr
end
end Go.Proofs.Tryz

/- sameStamps of the law: the contract. -/
namespace Go.Proofs.Tryz
open Go.Ps
set_option maxRecDepth 100000
def alR (p : Nat → Bool) : Nat → Nat → Bool
 | 0, _ => true
 | q + 1, i => if p i then alR p q (i + 1) else false
theorem alR_iff {p : Nat → Bool} : ∀ (q i : Nat), alR p q i = true ↔ ∀ j, i ≤ j → j < i + q → p j = true
 | 0, i => ⟨fun _ j a b => by omega, fun _ => rfl⟩
 | q + 1, i => by
  unfold alR
  cases h : p i with
  | false => exact ⟨fun e => by simp at e, fun e => by have := e i (by omega) (by omega); rw [h] at this; cases this⟩
  | true =>
   simp only [if_true]
   rw [alR_iff q (i + 1)]
   refine ⟨fun e j a b => ?_, fun e j a b => e j (by omega) (by omega)⟩
   by_cases q1 : j = i
   ·subst q1; exact h
   ·exact e j (by omega) (by omega)
def smS (n1 : Nat) (f1 : Nat → Sp) (n2 : Nat) (f2 : Nat → Sp) : Bool := if n1 = n2 then alR (fun i => eqS (f1 i) (f2 i)) n1 0 else false
theorem sameStamps_ok (n1 : Nat) (f1 : Nat → Sp) (n2 : Nat) (f2 : Nat → Sp) (hn : n1 ≤ 1000000) (h1 : ∀ i, i < n1 → (f1 i).n ≤ 281474976710656) (h2 : ∀ i, i < n2 → (f2 i).n ≤ 281474976710656) :
  PureFn prog gl 52 [ssT n1 f1, ssT n2 f2] (.bool (smS n1 f1 n2 f2)) := by
 by_cases e : n1 = n2
 ·subst e
  have e0 : ((n1 : Int) != n1) = false := by simp
  have run : ∀ (q i : Nat), q + i = n1 → Runs (M52z n1 f1 n1 f2) (.l0 i) (.bool (alR (fun i => eqS (f1 i) (f2 i)) q i)) := by
   intro q
   induction q with
   | zero =>
    intro i hi
    have : i = n1 := by omega
    subst this
    have b0 : decide ((i : Int) < i) = false := decide_eq_false (by omega)
    refine .done ?_
    show step52z_0 i f1 i f2 i = _
    rw [T52z_0 i f1 i f2 i (by unfold K52z_0; rw [b0]; simp only [g52z_0_3, allT, b0, Bool.not_false, Bool.and_true, Bool.false_eq_true, if_false])]
    unfold V52z_0
    rw [b0]; rfl
   | succ q ih =>
    intro i hi
    have b1 : decide ((i : Int) < n1) = true := decide_eq_true (by omega)
    have b2 : decide ((0 : Int) ≤ i) = true := decide_eq_true (by omega)
    have b3 : decide ((f1 i).n ≤ 281474976710656) = true := decide_eq_true (h1 i (by omega))
    have b4 : decide ((f2 i).n ≤ 281474976710656) = true := decide_eq_true (h2 i (by omega))
    have b5 := wsucc i (by omega)
    have hst : (M52z n1 f1 n1 f2).step (.l0 i) = some (V52z_0 n1 f1 n1 f2 i) := by
     show step52z_0 n1 f1 n1 f2 i = _
     refine T52z_0 n1 f1 n1 f2 i ?_
     unfold K52z_0
     simp only [Int.toNat_natCast]
     rw [if_pos b1]
     refine tree_eq (fun e => ?_) (fun e => ?_) <;> simp only [g52z_0_1, g52z_0_2, Int.toNat_natCast, allT, isV_self, b1, b2, b3, b4, e, Bool.not_false, Bool.and_true, k52z_0_0]
    unfold V52z_0 at hst
    simp only [Int.toNat_natCast] at hst
    rw [if_pos b1, b5] at hst
    unfold alR
    cases hb : eqS (f1 i) (f2 i) with
    | false => simp only [hb, Bool.not_false, Bool.not_true, if_true, Bool.false_eq_true, if_false] at hst ⊢; exact .done hst
    | true => simp only [hb, Bool.not_false, Bool.not_true, if_true, Bool.false_eq_true, if_false] at hst ⊢; exact .next hst (ih (i + 1) (by omega))
  obtain ⟨n, hr⟩ := run n1 0 (by omega)
  unfold smS
  rw [if_pos rfl]
  refine c52z n1 f1 n1 f2 n ?_ ?_
  ·unfold K52z_s; rw [e0]; simp only [g52z_s_2, allT, e0, Bool.not_false, Bool.and_true, Bool.false_eq_true, if_false]
  ·unfold V52z_s; rw [e0]; exact hr
 ·have e0 : ((n1 : Int) != n2) = true := bne_iff_ne.2 (by omega)
  unfold smS
  rw [if_neg e]
  refine c52z n1 f1 n2 f2 0 ?_ ?_
  ·unfold K52z_s; rw [e0]; simp only [g52z_s_1, allT, e0, Bool.and_true, if_true]
  ·unfold V52z_s; rw [e0]; rfl
def mdL (x : Ln) : Prop := x.st.n ≤ 1000000 ∧ x.k ≤ 1000000 ∧ ∀ i, i < x.k → (x.from_ i).n ≤ 1000000
noncomputable def s52z : List T → Option (T × List Bool)
 | [t, u] => some (.bool (smS (slN t) (ssv t) (slN u) (ssv u)), [isV t (ssT (slN t) (ssv t)), isV u (ssT (slN u) (ssv u)), pb (slN t ≤ 1000000 ∧ (∀ i, i < slN t → (ssv t i).n ≤ 281474976710656) ∧ ∀ i, i < slN u → (ssv u i).n ≤ 281474976710656)])
 | _ => none
theorem s52z_ok (ts : List T) (r : T) (cs : List Bool) (h : s52z ts = some (r, cs)) (hc : allT cs = true) : PureFn prog gl 52 ts r := by
 unfold s52z at h
 split at h
 ·rename_i t u
  cases h
  simp only [allT, Bool.and_true, Bool.and_eq_true, isV_iff, pb_iff] at hc
  obtain ⟨e1, e2, e3, e4, e5⟩ := hc
  have := sameStamps_ok (slN t) (ssv t) (slN u) (ssv u) e3 e4 e5
  rw [← e1, ← e2] at this
  exact this
 ·cases h
noncomputable def D41 : Ed := ⟨gl, pdAdd 52 s52z D20.pd⟩
theorem cx41 : Cx prog D41 F0 := ⟨follows, pdAdd_ok cx20.hE s52z_ok, F0ok⟩
end Go.Proofs.Tryz

/- sameLine as a tree, by program (gen2). -/
namespace Go.Proofs.Tryz
noncomputable section
open Go.Ps
set_option maxRecDepth 100000
/-! ### 31 -/
def k31z_s_0 (x y : Ln) : List Bool := [isV (spT x.st) (spT x.st), isV (spT y.st) (spT y.st), decide (x.st.n ≤ 281474976710656)]
def k31z_s_1 (x y : Ln) : List Bool := let y0 := eqS x.st y.st; y0 :: y0 :: y0 :: y0 :: y0 :: y0 :: k31z_s_0 x y
def k31z_s_2 (x y : Ln) : List Bool := let y0 := x.mass == y.mass; y0 :: (isV (T.slf false x.k fun i => spT (x.from_ i)) (ssT x.k x.from_)) :: (isV (T.slf false y.k fun i => spT (y.from_ i)) (ssT y.k y.from_)) :: (pb (x.k ≤ 1000000 ∧ (∀ (i : Nat), i < x.k → (x.from_ i).n ≤ 281474976710656) ∧ ∀ (i : Nat), i < y.k → (y.from_ i).n ≤ 281474976710656)) :: y0 :: y0 :: y0 :: y0 :: y0 :: k31z_s_1 x y
def k31z_s_3 (x y : Ln) : List Bool := let y0 := smS x.k x.from_ y.k y.from_; y0 :: y0 :: y0 :: y0 :: y0 :: y0 :: k31z_s_2 x y
def k31z_s_4 (x y : Ln) : List Bool := let y0 := x.fate == y.fate; y0 :: y0 :: y0 :: y0 :: y0 :: y0 :: k31z_s_3 x y
def g31z_s_1 (x y : Ln) : List Bool := let y0 := x.closed == y.closed; y0 :: y0 :: y0 :: y0 :: y0 :: y0 :: k31z_s_4 x y
def g31z_s_2 (x y : Ln) : List Bool := let y0 := x.closed == y.closed; (!y0) :: (!y0) :: (!y0) :: (!y0) :: (!y0) :: (!y0) :: k31z_s_4 x y
def g31z_s_3 (x y : Ln) : List Bool := let y0 := x.fate == y.fate; true :: true :: true :: true :: true :: true :: (!y0) :: (!y0) :: (!y0) :: (!y0) :: (!y0) :: (!y0) :: k31z_s_3 x y
def g31z_s_4 (x y : Ln) : List Bool := let y0 := smS x.k x.from_ y.k y.from_; true :: true :: true :: true :: true :: true :: true :: true :: true :: true :: true :: true :: (!y0) :: (!y0) :: (!y0) :: (!y0) :: (!y0) :: (!y0) :: k31z_s_2 x y
def g31z_s_5 (x y : Ln) : List Bool := let y0 := x.mass == y.mass; true :: true :: true :: true :: true :: true :: true :: true :: true :: true :: true :: true :: true :: true :: true :: true :: true :: true :: (!y0) :: (!y0) :: (!y0) :: (!y0) :: (!y0) :: (!y0) :: k31z_s_1 x y
def g31z_s_6 (x y : Ln) : List Bool := let y0 := eqS x.st y.st; true :: true :: true :: true :: true :: true :: true :: true :: true :: true :: true :: true :: true :: true :: true :: true :: true :: true :: true :: true :: true :: true :: true :: true :: (!y0) :: (!y0) :: (!y0) :: (!y0) :: (!y0) :: (!y0) :: k31z_s_0 x y
def V31z_s (x y : Ln) : Empty ⊕ T :=
 (if eqS x.st y.st then (if x.mass == y.mass then (if smS x.k x.from_ y.k y.from_ then (if x.fate == y.fate then (if x.closed == y.closed then (.inr (T.bool (x.node == y.node))) else (.inr (T.bool false))) else (.inr (T.bool false))) else (.inr (T.bool false))) else (.inr (T.bool false))) else (.inr (T.bool false)))
def K31z_s (x y : Ln) : Bool :=
 (if eqS x.st y.st then (if x.mass == y.mass then (if smS x.k x.from_ y.k y.from_ then (if x.fate == y.fate then (if x.closed == y.closed then (allT (g31z_s_1 x y)) else (allT (g31z_s_2 x y))) else (allT (g31z_s_3 x y))) else (allT (g31z_s_4 x y))) else (allT (g31z_s_5 x y))) else (allT (g31z_s_6 x y)))
def r31z_s (x y : Ln) (ds : List Bool) : RD Out := runK prog D41 F0 2000 (.code (bodyOf f31)) [] 0 ([lnT x, lnT y] ++ List.replicate 43 undefT) ⟨0, []⟩ ds []
theorem w31z_s_1 (x y : Ln) : outK prog f31 20 [] (r31z_s x y (bt 30 1073741823)) = wdn (T.bool (x.node == y.node)) (g31z_s_1 x y) := by kernel_rfl
theorem w31z_s_2 (x y : Ln) : outK prog f31 20 [] (r31z_s x y (bt 30 16777215)) = wdn (T.bool false) (g31z_s_2 x y) := by kernel_rfl
theorem w31z_s_3 (x y : Ln) : outK prog f31 20 [] (r31z_s x y (bt 30 262143)) = wdn (T.bool false) (g31z_s_3 x y) := by kernel_rfl
theorem w31z_s_4 (x y : Ln) : outK prog f31 20 [] (r31z_s x y (bt 30 4095)) = wdn (T.bool false) (g31z_s_4 x y) := by kernel_rfl
theorem w31z_s_5 (x y : Ln) : outK prog f31 20 [] (r31z_s x y (bt 30 63)) = wdn (T.bool false) (g31z_s_5 x y) := by kernel_rfl
theorem w31z_s_6 (x y : Ln) : outK prog f31 20 [] (r31z_s x y (bt 30 0)) = wdn (T.bool false) (g31z_s_6 x y) := by kernel_rfl
theorem c31z (x y : Ln) (n : Nat) {r : T} (hk : K31z_s x y = true) (hr : noM.fin n (V31z_s x y) = some r) : PureFn prog gl 31 [lnT x, lnT y] r :=
 pure_mach (M := noM) (fn := f31) (k := 20) (d := 8) (c := bodyOf f31) cx41 glFrz (by kernel_rfl) func31 (by kernel_rfl) rfl (by kernel_rfl) (by kernel_rfl) (L := 43) (by kernel_rfl) noM_ways (fun σ => σ.elim) ((wk_if (wk_if (wk_if (wk_if (wk_if (kD (w31z_s_1 x y)) (kD (w31z_s_2 x y))) (kD (w31z_s_3 x y))) (kD (w31z_s_4 x y))) (kD (w31z_s_5 x y))) (kD (w31z_s_6 x y))) hk _ rfl) hr
end
end Go.Proofs.Tryz

/- sameLine of the law: the contract. -/
namespace Go.Proofs.Tryz
open Go.Ps
set_option maxRecDepth 100000
def smL (x y : Ln) : Bool := eqS x.st y.st && (x.mass == y.mass && (smS x.k x.from_ y.k y.from_ && (x.fate == y.fate && (x.closed == y.closed && x.node == y.node))))
theorem sameLine_ok (x y : Ln) (hx : mdL x) (hy : mdL y) : PureFn prog gl 31 [lnT x, lnT y] (.bool (smL x y)) := by
 have a1 : decide (x.st.n ≤ 281474976710656) = true := decide_eq_true (by have := hx.1; omega)
 have a2 : pb (x.k ≤ 1000000 ∧ (∀ i, i < x.k → (x.from_ i).n ≤ 281474976710656) ∧ ∀ i, i < y.k → (y.from_ i).n ≤ 281474976710656) = true :=
  pb_iff.2 ⟨hx.2.1, fun i hi => by have := hx.2.2 i hi; omega, fun i hi => by have := hy.2.2 i hi; omega⟩
 refine c31z x y 0 ?_ ?_
 ·unfold K31z_s
  repeat' (refine tree_eq (fun _ => ?_) (fun _ => ?_))
  all_goals (simp only [g31z_s_1, g31z_s_2, g31z_s_3, g31z_s_4, g31z_s_5, g31z_s_6, k31z_s_4, k31z_s_3, k31z_s_2, k31z_s_1, k31z_s_0] at *; first | (simp only [*, allT, ssT, isV_self, Bool.not_false, Bool.not_true, Bool.and_true]; done) | (simp_all [allT, ssT, ssv, slN, slF]; done))
 ·have hv : V31z_s x y = .inr (.bool (smL x y)) := by
   unfold V31z_s smL
   repeat' (refine tree_eq (fun _ => ?_) (fun _ => ?_))
   all_goals simp_all
  rw [hv]; rfl
noncomputable def s31z : List T → Option (T × List Bool)
 | [t, u] => some (.bool (smL (lnv t) (lnv u)), [isV t (lnT (lnv t)), isV u (lnT (lnv u)), pb (mdL (lnv t)), pb (mdL (lnv u))])
 | _ => none
theorem s31z_ok (ts : List T) (r : T) (cs : List Bool) (h : s31z ts = some (r, cs)) (hc : allT cs = true) : PureFn prog gl 31 ts r := by
 unfold s31z at h
 split at h
 ·rename_i t u
  cases h
  simp only [allT, Bool.and_true, Bool.and_eq_true, isV_iff, pb_iff] at hc
  obtain ⟨e1, e2, e3, e4⟩ := hc
  have := sameLine_ok _ _ e3 e4
  rw [← e1, ← e2] at this
  exact this
 ·cases h
noncomputable def D42 : Ed := ⟨gl, pdAdd 31 s31z D41.pd⟩
theorem cx42 : Cx prog D42 F0 := ⟨follows, pdAdd_ok cx41.hE s31z_ok, F0ok⟩
end Go.Proofs.Tryz

/- same as a machine, by program (gen2). -/
namespace Go.Proofs.Tryz
noncomputable section
open Go.Ps
set_option maxRecDepth 100000
/-! ### 11 -/
inductive S11z where
 | l0 (x5 : Int)
def k11z_s_0 (a b : Ct) : List Bool := let y0 := a.entries != b.entries; [!y0, !y0, !y0, !y0, !y0, !y0]
def k11z_s_1 (a b : Ct) : List Bool := let y0 := a.accepted != b.accepted; (!y0) :: (!y0) :: (!y0) :: (!y0) :: (!y0) :: (!y0) :: k11z_s_0 a b
def k11z_s_2 (a b : Ct) : List Bool := let y0 := a.delivered != b.delivered; (!y0) :: (!y0) :: (!y0) :: (!y0) :: (!y0) :: (!y0) :: k11z_s_1 a b
def k11z_s_3 (a b : Ct) : List Bool := let y0 := a.waiting != b.waiting; (!y0) :: (!y0) :: (!y0) :: (!y0) :: (!y0) :: (!y0) :: k11z_s_2 a b
def k11z_s_4 (a b : Ct) : List Bool := let y0 := a.letters != b.letters; (!y0) :: (!y0) :: (!y0) :: (!y0) :: (!y0) :: (!y0) :: k11z_s_3 a b
def k11z_s_5 (a b : Ct) : List Bool := let y0 := a.discarded != b.discarded; (!y0) :: (!y0) :: (!y0) :: (!y0) :: (!y0) :: (!y0) :: (!y0) :: (!y0) :: k11z_s_4 a b
def g11z_s_1 (a b : Ct) : List Bool := let y0 := a.entries != b.entries; [true, true, true, true, true, true, true, true, true, true, true, true, true, true, true, true, true, true, true, true, true, true, true, true, true, true, true, true, true, true, true, true, true, y0, y0, y0, y0, y0, y0]
def g11z_s_2 (a b : Ct) : List Bool := let y0 := a.accepted != b.accepted; true :: true :: true :: true :: true :: true :: true :: true :: true :: true :: true :: true :: true :: true :: true :: true :: true :: true :: true :: true :: true :: true :: true :: true :: true :: true :: true :: y0 :: y0 :: y0 :: y0 :: y0 :: y0 :: k11z_s_0 a b
def g11z_s_3 (a b : Ct) : List Bool := let y0 := a.delivered != b.delivered; true :: true :: true :: true :: true :: true :: true :: true :: true :: true :: true :: true :: true :: true :: true :: true :: true :: true :: true :: true :: true :: y0 :: y0 :: y0 :: y0 :: y0 :: y0 :: k11z_s_1 a b
def g11z_s_4 (a b : Ct) : List Bool := let y0 := a.waiting != b.waiting; true :: true :: true :: true :: true :: true :: true :: true :: true :: true :: true :: true :: true :: true :: true :: y0 :: y0 :: y0 :: y0 :: y0 :: y0 :: k11z_s_2 a b
def g11z_s_5 (a b : Ct) : List Bool := let y0 := a.letters != b.letters; true :: true :: true :: true :: true :: true :: true :: true :: true :: y0 :: y0 :: y0 :: y0 :: y0 :: y0 :: k11z_s_3 a b
def g11z_s_6 (a b : Ct) : List Bool := let y0 := a.discarded != b.discarded; true :: y0 :: y0 :: y0 :: y0 :: y0 :: y0 :: y0 :: y0 :: k11z_s_4 a b
def g11z_s_7 (a b : Ct) : List Bool := ((↑a.n : Int) != (↑b.n : Int)) :: k11z_s_5 a b
def g11z_s_8 (a b : Ct) : List Bool := (!(↑a.n : Int) != (↑b.n : Int)) :: k11z_s_5 a b
def k11z_0_0 (a b : Ct) (x5 : Int) : List Bool := let y0 := decide (0 ≤ x5); let y1 := decide (x5 < (↑a.n : Int)); [isV (lnT (a.line x5.toNat)) (lnT (a.line x5.toNat)), isV (lnT (b.line x5.toNat)) (lnT (b.line x5.toNat)), pb (mdL (a.line x5.toNat)), pb (mdL (b.line x5.toNat)), y0, decide (x5 < (↑b.n : Int)), true, y0, y1, true, y1]
def g11z_0_1 (a b : Ct) (x5 : Int) : List Bool := (!smL (a.line x5.toNat) (b.line x5.toNat)) :: k11z_0_0 a b x5
def g11z_0_2 (a b : Ct) (x5 : Int) : List Bool := (!!smL (a.line x5.toNat) (b.line x5.toNat)) :: k11z_0_0 a b x5
def g11z_0_3 (a b : Ct) (x5 : Int) : List Bool := [!decide (x5 < (↑a.n : Int))]
def V11z_0 (a b : Ct) (x5 : Int) : S11z ⊕ T :=
 (if decide (x5 < (↑a.n : Int)) then (if !smL (a.line x5.toNat) (b.line x5.toNat) then (.inr (T.bool false)) else (.inl (.l0 (IntKind.i64.wrap (x5 + 1))))) else (.inr (T.bool true)))
def K11z_0 (a b : Ct) (x5 : Int) : Bool :=
 (if decide (x5 < (↑a.n : Int)) then (if !smL (a.line x5.toNat) (b.line x5.toNat) then (allT (g11z_0_1 a b x5)) else (allT (g11z_0_2 a b x5))) else (allT (g11z_0_3 a b x5)))
def step11z_0 (a b : Ct) (x5 : Int) : Option (S11z ⊕ T) := if K11z_0 a b x5 then some (V11z_0 a b x5) else none
theorem T11z_0 (a b : Ct) (x5 : Int) (hk : K11z_0 a b x5 = true) : step11z_0 a b x5 = some (V11z_0 a b x5) := if_pos hk
def V11z_s (a b : Ct) : S11z ⊕ T :=
 (if a.entries != b.entries then (.inr (T.bool false)) else (if a.accepted != b.accepted then (.inr (T.bool false)) else (if a.delivered != b.delivered then (.inr (T.bool false)) else (if a.waiting != b.waiting then (.inr (T.bool false)) else (if a.letters != b.letters then (.inr (T.bool false)) else (if a.discarded != b.discarded then (.inr (T.bool false)) else (if (↑a.n : Int) != (↑b.n : Int) then (.inr (T.bool false)) else (.inl (.l0 0)))))))))
def K11z_s (a b : Ct) : Bool :=
 (if a.entries != b.entries then (allT (g11z_s_1 a b)) else (if a.accepted != b.accepted then (allT (g11z_s_2 a b)) else (if a.delivered != b.delivered then (allT (g11z_s_3 a b)) else (if a.waiting != b.waiting then (allT (g11z_s_4 a b)) else (if a.letters != b.letters then (allT (g11z_s_5 a b)) else (if a.discarded != b.discarded then (allT (g11z_s_6 a b)) else (if (↑a.n : Int) != (↑b.n : Int) then (allT (g11z_s_7 a b)) else (allT (g11z_s_8 a b)))))))))
def step11z (a b : Ct) : S11z → Option (S11z ⊕ T)
 | .l0 x5 => step11z_0 a b x5
def M11z (a b : Ct) : Mch S11z where
 lp := fun σ => match σ with
  | .l0 .. => 0
 keep := fun ι => match ι with
  | 0 => [2, 3, 5]
  | _ => []
 par := fun ι => match ι with
  | 0 => []
  | _ => []
 vs := fun σ => match σ with
  | .l0 x5 => [(ctT a).ref 0, (ctT b).ref 0, T.int .i64 x5]
 hp := fun _ => ⟨0, []⟩
 len := 74
 step := step11z a b
def r11z_0 (a b : Ct) (x5 : Int) (fr : List T) (ds : List Bool) : RD Out := (M11z a b).rk prog D42 F0 f11 (.l0 x5) fr ds
theorem w11z_0_1 (a b : Ct) (x5 : Int) (fr : List T) : outK prog f11 20 [] (r11z_0 a b x5 fr [true, true]) = wdn (T.bool false) (g11z_0_1 a b x5) := by kernel_rfl
theorem w11z_0_2 (a b : Ct) (x5 : Int) (fr : List T) : (M11z a b).wa prog f11 (r11z_0 a b x5 fr [true, false]) 0 (g11z_0_2 a b x5) (.l0 (IntKind.i64.wrap (x5 + 1))) := by unfold Mch.wa; kernel_rfl
theorem w11z_0_3 (a b : Ct) (x5 : Int) (fr : List T) : outK prog f11 20 [] (r11z_0 a b x5 fr [false]) = wdn (T.bool true) (g11z_0_3 a b x5) := by kernel_rfl
def r11z_s (a b : Ct) (ds : List Bool) : RD Out := runK prog D42 F0 2000 (.code (bodyOf f11)) [] 0 ([ctT a, ctT b] ++ List.replicate 72 undefT) ⟨0, []⟩ ds []
theorem w11z_s_1 (a b : Ct) : outK prog f11 20 [] (r11z_s a b (bt 39 549755813887)) = wdn (T.bool false) (g11z_s_1 a b) := by kernel_rfl
theorem w11z_s_2 (a b : Ct) : outK prog f11 20 [] (r11z_s a b (bt 39 549755813824)) = wdn (T.bool false) (g11z_s_2 a b) := by kernel_rfl
theorem w11z_s_3 (a b : Ct) : outK prog f11 20 [] (r11z_s a b (bt 39 549755809792)) = wdn (T.bool false) (g11z_s_3 a b) := by kernel_rfl
theorem w11z_s_4 (a b : Ct) : outK prog f11 20 [] (r11z_s a b (bt 39 549755551744)) = wdn (T.bool false) (g11z_s_4 a b) := by kernel_rfl
theorem w11z_s_5 (a b : Ct) : outK prog f11 20 [] (r11z_s a b (bt 39 549739036672)) = wdn (T.bool false) (g11z_s_5 a b) := by kernel_rfl
theorem w11z_s_6 (a b : Ct) : outK prog f11 20 [] (r11z_s a b (bt 39 548682072064)) = wdn (T.bool false) (g11z_s_6 a b) := by kernel_rfl
theorem w11z_s_7 (a b : Ct) : outK prog f11 20 [] (r11z_s a b (bt 39 274877906944)) = wdn (T.bool false) (g11z_s_7 a b) := by kernel_rfl
theorem w11z_s_8 (a b : Ct) : (M11z a b).wl prog f11 (r11z_s a b (bt 39 0)) 0 (g11z_s_8 a b) (.l0 0) := by unfold Mch.wl; kernel_rfl
theorem ways11z (a b : Ct) : (M11z a b).Ways prog D42 F0 f11 20 := by
 intro σ o fr h
 cases σ with
 | l0 x5 =>
  obtain ⟨hk, ho⟩ := kv_some (K := K11z_0 a b x5) (V := V11z_0 a b x5) h
  exact (wk_if (wk_if (kD (w11z_0_1 a b x5 fr)) (kA (w11z_0_2 a b x5 fr) rfl)) (kD (w11z_0_3 a b x5 fr))) hk o ho
theorem oks11z (a b : Ct) : ∀ σ, Ps.codeOk (loopAt f11 ((M11z a b).lp σ)).1 = true ∧ ksOk (.lp :: (loopAt f11 ((M11z a b).lp σ)).2) = true := oks_of 1 (by kernel_rfl) (by intro σ; cases σ <;> exact Nat.le_of_ble_eq_true rfl)
theorem c11z (a b : Ct) (n : Nat) {r : T} (hk : K11z_s a b = true) (hr : (M11z a b).fin n (V11z_s a b) = some r) : PureFn prog gl 11 [ctT a, ctT b] r :=
 pure_mach (M := (M11z a b)) (fn := f11) (k := 20) (d := 8) (c := bodyOf f11) cx42 glFrz (by kernel_rfl) func11 (by kernel_rfl) rfl (by kernel_rfl) (by kernel_rfl) (L := 72) (by kernel_rfl) (ways11z a b) (oks11z a b) ((wk_if (kD (w11z_s_1 a b)) (wk_if (kD (w11z_s_2 a b)) (wk_if (kD (w11z_s_3 a b)) (wk_if (kD (w11z_s_4 a b)) (wk_if (kD (w11z_s_5 a b)) (wk_if (kD (w11z_s_6 a b)) (wk_if (kD (w11z_s_7 a b)) (kL (w11z_s_8 a b) rfl)))))))) hk _ rfl) hr
end
end Go.Proofs.Tryz

/- same of the law: the contract. -/
namespace Go.Proofs.Tryz
open Go.Ps
set_option maxRecDepth 100000
def smHead (a b : Ct) : Prop := a.entries = b.entries ∧ a.accepted = b.accepted ∧ a.delivered = b.delivered ∧ a.waiting = b.waiting ∧ a.letters = b.letters ∧ a.discarded = b.discarded ∧ a.n = b.n
instance (a b : Ct) : Decidable (smHead a b) := by unfold smHead; infer_instance
def smC (a b : Ct) : Bool := if smHead a b then alR (fun i => smL (a.line i) (b.line i)) a.n 0 else false
def mdC (a : Ct) : Prop := a.n ≤ 1000000 ∧ ∀ i, i < a.n → mdL (a.line i)
theorem same_ok (a b : Ct) (ha : mdC a) (hb : mdC b) : PureFn prog gl 11 [ctT a, ctT b] (.bool (smC a b)) := by
 have hn := ha.1
 have hK : K11z_s a b = true := by
  unfold K11z_s
  repeat' (refine tree_eq (fun _ => ?_) (fun _ => ?_))
  all_goals (simp only [g11z_s_1, g11z_s_2, g11z_s_3, g11z_s_4, g11z_s_5, g11z_s_6, g11z_s_7, g11z_s_8, k11z_s_0, k11z_s_1, k11z_s_2, k11z_s_3, k11z_s_4, k11z_s_5] at *; simp only [*, allT, Bool.not_false, Bool.not_true, Bool.and_true])
 by_cases h : smHead a b
 ·obtain ⟨e1, e2, e3, e4, e5, e6, e7⟩ := h
  have run : ∀ (q i : Nat), q + i = a.n → Runs (M11z a b) (.l0 i) (.bool (alR (fun i => smL (a.line i) (b.line i)) q i)) := by
   intro q
   induction q with
   | zero =>
    intro i hi
    have : i = a.n := by omega
    subst this
    have b0 : decide ((a.n : Int) < a.n) = false := decide_eq_false (by omega)
    refine .done ?_
    show step11z_0 a b a.n = _
    rw [T11z_0 a b a.n (by unfold K11z_0; rw [b0]; simp only [g11z_0_3, allT, b0, Bool.not_false, Bool.and_true, Bool.false_eq_true, if_false])]
    unfold V11z_0
    rw [b0]; rfl
   | succ q ih =>
    intro i hi
    have b1 : decide ((i : Int) < a.n) = true := decide_eq_true (by omega)
    have b1' : decide ((i : Int) < b.n) = true := decide_eq_true (by omega)
    have b2 : decide ((0 : Int) ≤ i) = true := decide_eq_true (by omega)
    have b3 := pb_iff.2 (ha.2 i (by omega))
    have b4 := pb_iff.2 (hb.2 i (by omega))
    have b5 := wsucc i (by omega)
    have hst : (M11z a b).step (.l0 i) = some (V11z_0 a b i) := by
     show step11z_0 a b i = _
     refine T11z_0 a b i ?_
     unfold K11z_0
     simp only [Int.toNat_natCast]
     rw [if_pos b1]
     refine tree_eq (fun e => ?_) (fun e => ?_) <;> simp only [g11z_0_1, g11z_0_2, Int.toNat_natCast, allT, isV_self, b1, b1', b2, b3, b4, e, Bool.not_false, Bool.and_true, k11z_0_0]
    unfold V11z_0 at hst
    simp only [Int.toNat_natCast] at hst
    rw [if_pos b1, b5] at hst
    unfold alR
    cases hb : smL (a.line i) (b.line i) with
    | false => simp only [hb, Bool.not_false, Bool.not_true, if_true, Bool.false_eq_true, if_false] at hst ⊢; exact .done hst
    | true => simp only [hb, Bool.not_false, Bool.not_true, if_true, Bool.false_eq_true, if_false] at hst ⊢; exact .next hst (ih (i + 1) (by omega))
  obtain ⟨n, hr⟩ := run a.n 0 (by omega)
  unfold smC
  rw [if_pos ⟨e1, e2, e3, e4, e5, e6, e7⟩]
  refine c11z a b n hK ?_
  have hv : V11z_s a b = .inl (.l0 0) := by
   unfold V11z_s
   simp [e1, e2, e3, e4, e5, e6, e7]
  rw [hv]; exact hr
 ·unfold smC
  rw [if_neg h]
  refine c11z a b 0 hK ?_
  have hv : V11z_s a b = .inr (.bool false) := by
   unfold V11z_s
   unfold smHead at h
   repeat' (refine tree_eq (fun _ => ?_) (fun _ => ?_))
   all_goals first | rfl | (exfalso; apply h; simp only [bne_eq_false_iff_eq] at *; refine ⟨by assumption, by assumption, by assumption, by assumption, by assumption, by assumption, by omega⟩)
  rw [hv]; rfl
end Go.Proofs.Tryz

/- The contracts that BalanceDecodes calls. -/
namespace Go.Proofs.Tryz
open Go.Ps
end Go.Proofs.Tryz

/- The law's own number: its contract as one that is asked for. -/
namespace Go.Proofs.Tryz
open Go.Ps
noncomputable def s30z : List T → Option (T × List Bool)
 | [.int .i64 n] => some (.str (itoaK n), [pb (PureFn prog gl 30 [.int .i64 n] (.str (itoaK n)))])
 | _ => none
theorem s30z_ok (ts : List T) (r : T) (cs : List Bool) (h : s30z ts = some (r, cs)) (hc : allT cs = true) : PureFn prog gl 30 ts r := by
 unfold s30z at h
 split at h
 ·cases h
  simp only [allT, Bool.and_true, pb_iff] at hc
  exact hc
 ·cases h
noncomputable def D50 : Ed := ⟨gl, pdAdd 30 s30z D31.pd⟩
theorem cx50 : Cx prog D50 F0 := ⟨follows, pdAdd_ok (pdAdd_ok (pdAdd_ok (pdAdd_ok (pdAddH_ok cx20.hE s18z_ok) s16z_ok) s20z_ok) s19z_ok) s30z_ok, F0ok⟩
end Go.Proofs.Tryz

/- The law's number and text as machines, by program (gen2). -/
namespace Go.Proofs.Tryz
noncomputable section
open Go.Ps
set_option maxRecDepth 100000
/-! ### 30 -/
def g30z_s_1 (x : Int) : List Bool := [decide (1 + (itoaK (IntKind.i64.wrap (0 - x))).length ≤ maxStr), pb (PureFn prog gl 30 [T.int .i64 (IntKind.i64.wrap (0 - x))] (T.str (itoaK (IntKind.i64.wrap (0 - x))))), decide (x < 0)]
def g30z_s_2 (x : Int) : List Bool := [decide (x < 10), !decide (x < 0)]
def g30z_s_3 (x : Int) : List Bool := [decide ((itoaK (IntKind.i64.wrap (x.tdiv 10))).length + 1 ≤ maxStr), true, pb (PureFn prog gl 30 [T.int .i64 (IntKind.i64.wrap (x.tdiv 10))] (T.str (itoaK (IntKind.i64.wrap (x.tdiv 10))))), true, !decide (x < 10), !decide (x < 0)]
def V30z_s (x : Int) : Empty ⊕ T :=
 (if decide (x < 0) then (.inr (T.str (45 :: (itoaK (IntKind.i64.wrap (0 - x)))))) else (if decide (x < 10) then (.inr (T.str [UInt8.ofNat (IntKind.u8.wrap (IntKind.i64.wrap (48 + x))).toNat])) else (.inr (T.str (itoaK (IntKind.i64.wrap (x.tdiv 10)) ++ [UInt8.ofNat (IntKind.u8.wrap (IntKind.i64.wrap (48 + x.tmod 10))).toNat])))))
def K30z_s (x : Int) : Bool :=
 (if decide (x < 0) then (allT (g30z_s_1 x)) else (if decide (x < 10) then (allT (g30z_s_2 x)) else (allT (g30z_s_3 x))))
def r30z_s (x : Int) (ds : List Bool) : RD Out := runK prog D50 F0 2000 (.code (bodyOf f30)) [] 0 ([.int .i64 x] ++ List.replicate 25 undefT) ⟨0, []⟩ ds []
theorem w30z_s_1 (x : Int) : outK prog f30 20 [] (r30z_s x [true]) = wdn (T.str (45 :: (itoaK (IntKind.i64.wrap (0 - x))))) (g30z_s_1 x) := by kernel_rfl
theorem w30z_s_2 (x : Int) : outK prog f30 20 [] (r30z_s x [false, true]) = wdn (T.str [UInt8.ofNat (IntKind.u8.wrap (IntKind.i64.wrap (48 + x))).toNat]) (g30z_s_2 x) := by kernel_rfl
theorem w30z_s_3 (x : Int) : outK prog f30 20 [] (r30z_s x [false, false]) = wdn (T.str (itoaK (IntKind.i64.wrap (x.tdiv 10)) ++ [UInt8.ofNat (IntKind.u8.wrap (IntKind.i64.wrap (48 + x.tmod 10))).toNat])) (g30z_s_3 x) := by kernel_rfl
theorem c30z (x : Int) (n : Nat) {r : T} (hk : K30z_s x = true) (hr : noM.fin n (V30z_s x) = some r) : PureFn prog gl 30 [.int .i64 x] r :=
 pure_mach (M := noM) (fn := f30) (k := 20) (d := 8) (c := bodyOf f30) cx50 glFrz (by kernel_rfl) func30 (by kernel_rfl) rfl (by kernel_rfl) (by kernel_rfl) (L := 25) (by kernel_rfl) noM_ways (fun σ => σ.elim) ((wk_if (kD (w30z_s_1 x)) (wk_if (kD (w30z_s_2 x)) (kD (w30z_s_3 x)))) hk _ rfl) hr
/-! ### 10 -/
inductive S10z where
 | l0 (x3 : List UInt8) (x4 : Int)
 | l1 (x3 : List UInt8) (x4 : Int) (x9 : List UInt8) (x10 : Int) (nd : List UInt8)
def g10z_s_1 (c : Ct) : List Bool := [decide ((98 :: 97 :: 108 :: 97 :: 110 :: 99 :: 101 :: 32 :: (((((((((((((((((((((itoaK c.entries)) ++ [32])) ++ (itoaK c.accepted))) ++ [32])) ++ (itoaK c.delivered))) ++ [32])) ++ (itoaK c.waiting))) ++ [32])) ++ (itoaK c.letters))) ++ [32])) ++ (itoaK c.discarded))).length + 1 ≤ maxStr), decide ((98 :: 97 :: 108 :: 97 :: 110 :: 99 :: 101 :: 32 :: (((((((((((((((((((itoaK c.entries)) ++ [32])) ++ (itoaK c.accepted))) ++ [32])) ++ (itoaK c.delivered))) ++ [32])) ++ (itoaK c.waiting))) ++ [32])) ++ (itoaK c.letters))) ++ [32])).length + (itoaK c.discarded).length ≤ maxStr), pb (PureFn prog gl 30 [T.int .i64 c.discarded] (T.str (itoaK c.discarded))), decide ((98 :: 97 :: 108 :: 97 :: 110 :: 99 :: 101 :: 32 :: (((((((((((((((((itoaK c.entries)) ++ [32])) ++ (itoaK c.accepted))) ++ [32])) ++ (itoaK c.delivered))) ++ [32])) ++ (itoaK c.waiting))) ++ [32])) ++ (itoaK c.letters))).length + 1 ≤ maxStr), decide ((98 :: 97 :: 108 :: 97 :: 110 :: 99 :: 101 :: 32 :: (((((((((((((((itoaK c.entries)) ++ [32])) ++ (itoaK c.accepted))) ++ [32])) ++ (itoaK c.delivered))) ++ [32])) ++ (itoaK c.waiting))) ++ [32])).length + (itoaK c.letters).length ≤ maxStr), pb (PureFn prog gl 30 [T.int .i64 c.letters] (T.str (itoaK c.letters))), decide ((98 :: 97 :: 108 :: 97 :: 110 :: 99 :: 101 :: 32 :: (((((((((((((itoaK c.entries)) ++ [32])) ++ (itoaK c.accepted))) ++ [32])) ++ (itoaK c.delivered))) ++ [32])) ++ (itoaK c.waiting))).length + 1 ≤ maxStr), decide ((98 :: 97 :: 108 :: 97 :: 110 :: 99 :: 101 :: 32 :: (((((((((((itoaK c.entries)) ++ [32])) ++ (itoaK c.accepted))) ++ [32])) ++ (itoaK c.delivered))) ++ [32])).length + (itoaK c.waiting).length ≤ maxStr), pb (PureFn prog gl 30 [T.int .i64 c.waiting] (T.str (itoaK c.waiting))), decide ((98 :: 97 :: 108 :: 97 :: 110 :: 99 :: 101 :: 32 :: (((((((((itoaK c.entries)) ++ [32])) ++ (itoaK c.accepted))) ++ [32])) ++ (itoaK c.delivered))).length + 1 ≤ maxStr), decide ((98 :: 97 :: 108 :: 97 :: 110 :: 99 :: 101 :: 32 :: (((((((itoaK c.entries)) ++ [32])) ++ (itoaK c.accepted))) ++ [32])).length + (itoaK c.delivered).length ≤ maxStr), pb (PureFn prog gl 30 [T.int .i64 c.delivered] (T.str (itoaK c.delivered))), decide ((98 :: 97 :: 108 :: 97 :: 110 :: 99 :: 101 :: 32 :: (((((itoaK c.entries)) ++ [32])) ++ (itoaK c.accepted))).length + 1 ≤ maxStr), decide ((98 :: 97 :: 108 :: 97 :: 110 :: 99 :: 101 :: 32 :: (((itoaK c.entries)) ++ [32])).length + (itoaK c.accepted).length ≤ maxStr), pb (PureFn prog gl 30 [T.int .i64 c.accepted] (T.str (itoaK c.accepted))), decide ((98 :: 97 :: 108 :: 97 :: 110 :: 99 :: 101 :: 32 :: (itoaK c.entries)).length + 1 ≤ maxStr), decide (8 + (itoaK c.entries).length ≤ maxStr), pb (PureFn prog gl 30 [T.int .i64 c.entries] (T.str (itoaK c.entries)))]
def k10z_0_0 (c : Ct) (x3 : List UInt8) (x4 : Int) : List Bool := let y0 := decide (x4 < (↑c.n : Int)); [isV (spT (c.line x4.toNat).st) (spT (c.line x4.toNat).st), pb (chk (c.line x4.toNat).st = 0), true, true, decide (0 ≤ x4), y0, true, y0]
def g10z_0_1 (c : Ct) (x3 : List UInt8) (x4 : Int) : List Bool := ((c.line x4.toNat).node == []) :: k10z_0_0 c x3 x4
def g10z_0_2 (c : Ct) (x3 : List UInt8) (x4 : Int) : List Bool := (!(c.line x4.toNat).node == []) :: k10z_0_0 c x3 x4
def g10z_0_3 (c : Ct) (x3 : List UInt8) (x4 : Int) : List Bool := [!decide (x4 < (↑c.n : Int))]
def k10z_1_0 (c : Ct) (x3 : List UInt8) (x4 : Int) (x9 : List UInt8) (x10 : Int) (nd : List UInt8) : List Bool := let y0 := decide (x10 < (↑(c.line x4.toNat).k : Int)); [isV (spT ((c.line x4.toNat).from_ x10.toNat)) (spT ((c.line x4.toNat).from_ x10.toNat)), pb (chk ((c.line x4.toNat).from_ x10.toNat) = 0), decide (0 ≤ x10), y0, true, y0]
def k10z_1_1 (c : Ct) (x3 : List UInt8) (x4 : Int) (x9 : List UInt8) (x10 : Int) (nd : List UInt8) : List Bool := [!decide (x10 < (↑(c.line x4.toNat).k : Int))]
def g10z_1_1 (c : Ct) (x3 : List UInt8) (x4 : Int) (x9 : List UInt8) (x10 : Int) (nd : List UInt8) : List Bool := (decide ((x9 ++ [44]).length + (txt ((c.line x4.toNat).from_ x10.toNat)).length ≤ maxStr)) :: (decide (x9.length + 1 ≤ maxStr)) :: (decide (x10 > 0)) :: k10z_1_0 c x3 x4 x9 x10 nd
def g10z_1_2 (c : Ct) (x3 : List UInt8) (x4 : Int) (x9 : List UInt8) (x10 : Int) (nd : List UInt8) : List Bool := (decide (x9.length + (txt ((c.line x4.toNat).from_ x10.toNat)).length ≤ maxStr)) :: (!decide (x10 > 0)) :: k10z_1_0 c x3 x4 x9 x10 nd
def g10z_1_3 (c : Ct) (x3 : List UInt8) (x4 : Int) (x9 : List UInt8) (x10 : Int) (nd : List UInt8) : List Bool := (decide ((x3 ++ [108, 105, 110, 101, 32] ++ txt (c.line x4.toNat).st ++ [32] ++ itoaK (c.line x4.toNat).mass ++ [32] ++ itoaK (c.line x4.toNat).fate ++ [32] ++ itoaK (c.line x4.toNat).closed ++ [32] ++ nd ++ [32] ++ [45]).length + 1 ≤ maxStr)) :: (decide ((x3 ++ [108, 105, 110, 101, 32] ++ txt (c.line x4.toNat).st ++ [32] ++ itoaK (c.line x4.toNat).mass ++ [32] ++ itoaK (c.line x4.toNat).fate ++ [32] ++ itoaK (c.line x4.toNat).closed ++ [32] ++ nd ++ [32]).length + 1 ≤ maxStr)) :: (decide ((x3 ++ [108, 105, 110, 101, 32] ++ txt (c.line x4.toNat).st ++ [32] ++ itoaK (c.line x4.toNat).mass ++ [32] ++ itoaK (c.line x4.toNat).fate ++ [32] ++ itoaK (c.line x4.toNat).closed ++ [32] ++ nd).length + 1 ≤ maxStr)) :: (decide ((x3 ++ [108, 105, 110, 101, 32] ++ txt (c.line x4.toNat).st ++ [32] ++ itoaK (c.line x4.toNat).mass ++ [32] ++ itoaK (c.line x4.toNat).fate ++ [32] ++ itoaK (c.line x4.toNat).closed ++ [32]).length + nd.length ≤ maxStr)) :: (decide ((x3 ++ [108, 105, 110, 101, 32] ++ txt (c.line x4.toNat).st ++ [32] ++ itoaK (c.line x4.toNat).mass ++ [32] ++ itoaK (c.line x4.toNat).fate ++ [32] ++ itoaK (c.line x4.toNat).closed).length + 1 ≤ maxStr)) :: (decide ((x3 ++ [108, 105, 110, 101, 32] ++ txt (c.line x4.toNat).st ++ [32] ++ itoaK (c.line x4.toNat).mass ++ [32] ++ itoaK (c.line x4.toNat).fate ++ [32]).length + (itoaK (c.line x4.toNat).closed).length ≤ maxStr)) :: (pb (PureFn prog gl 30 [T.int .i64 (c.line x4.toNat).closed] (T.str (itoaK (c.line x4.toNat).closed)))) :: (decide ((x3 ++ [108, 105, 110, 101, 32] ++ txt (c.line x4.toNat).st ++ [32] ++ itoaK (c.line x4.toNat).mass ++ [32] ++ itoaK (c.line x4.toNat).fate).length + 1 ≤ maxStr)) :: (decide ((x3 ++ [108, 105, 110, 101, 32] ++ txt (c.line x4.toNat).st ++ [32] ++ itoaK (c.line x4.toNat).mass ++ [32]).length + (itoaK (c.line x4.toNat).fate).length ≤ maxStr)) :: (pb (PureFn prog gl 30 [T.int .i64 (c.line x4.toNat).fate] (T.str (itoaK (c.line x4.toNat).fate)))) :: (decide ((x3 ++ [108, 105, 110, 101, 32] ++ txt (c.line x4.toNat).st ++ [32] ++ itoaK (c.line x4.toNat).mass).length + 1 ≤ maxStr)) :: (decide ((x3 ++ [108, 105, 110, 101, 32] ++ txt (c.line x4.toNat).st ++ [32]).length + (itoaK (c.line x4.toNat).mass).length ≤ maxStr)) :: (pb (PureFn prog gl 30 [T.int .i64 (c.line x4.toNat).mass] (T.str (itoaK (c.line x4.toNat).mass)))) :: (decide ((x3 ++ [108, 105, 110, 101, 32] ++ txt (c.line x4.toNat).st).length + 1 ≤ maxStr)) :: (decide ((x3 ++ [108, 105, 110, 101, 32]).length + (txt (c.line x4.toNat).st).length ≤ maxStr)) :: (decide (x3.length + 5 ≤ maxStr)) :: (x9 == []) :: k10z_1_1 c x3 x4 x9 x10 nd
def g10z_1_4 (c : Ct) (x3 : List UInt8) (x4 : Int) (x9 : List UInt8) (x10 : Int) (nd : List UInt8) : List Bool := (decide ((x3 ++ [108, 105, 110, 101, 32] ++ txt (c.line x4.toNat).st ++ [32] ++ itoaK (c.line x4.toNat).mass ++ [32] ++ itoaK (c.line x4.toNat).fate ++ [32] ++ itoaK (c.line x4.toNat).closed ++ [32] ++ nd ++ [32] ++ x9).length + 1 ≤ maxStr)) :: (decide ((x3 ++ [108, 105, 110, 101, 32] ++ txt (c.line x4.toNat).st ++ [32] ++ itoaK (c.line x4.toNat).mass ++ [32] ++ itoaK (c.line x4.toNat).fate ++ [32] ++ itoaK (c.line x4.toNat).closed ++ [32] ++ nd ++ [32]).length + x9.length ≤ maxStr)) :: (decide ((x3 ++ [108, 105, 110, 101, 32] ++ txt (c.line x4.toNat).st ++ [32] ++ itoaK (c.line x4.toNat).mass ++ [32] ++ itoaK (c.line x4.toNat).fate ++ [32] ++ itoaK (c.line x4.toNat).closed ++ [32] ++ nd).length + 1 ≤ maxStr)) :: (decide ((x3 ++ [108, 105, 110, 101, 32] ++ txt (c.line x4.toNat).st ++ [32] ++ itoaK (c.line x4.toNat).mass ++ [32] ++ itoaK (c.line x4.toNat).fate ++ [32] ++ itoaK (c.line x4.toNat).closed ++ [32]).length + nd.length ≤ maxStr)) :: (decide ((x3 ++ [108, 105, 110, 101, 32] ++ txt (c.line x4.toNat).st ++ [32] ++ itoaK (c.line x4.toNat).mass ++ [32] ++ itoaK (c.line x4.toNat).fate ++ [32] ++ itoaK (c.line x4.toNat).closed).length + 1 ≤ maxStr)) :: (decide ((x3 ++ [108, 105, 110, 101, 32] ++ txt (c.line x4.toNat).st ++ [32] ++ itoaK (c.line x4.toNat).mass ++ [32] ++ itoaK (c.line x4.toNat).fate ++ [32]).length + (itoaK (c.line x4.toNat).closed).length ≤ maxStr)) :: (pb (PureFn prog gl 30 [T.int .i64 (c.line x4.toNat).closed] (T.str (itoaK (c.line x4.toNat).closed)))) :: (decide ((x3 ++ [108, 105, 110, 101, 32] ++ txt (c.line x4.toNat).st ++ [32] ++ itoaK (c.line x4.toNat).mass ++ [32] ++ itoaK (c.line x4.toNat).fate).length + 1 ≤ maxStr)) :: (decide ((x3 ++ [108, 105, 110, 101, 32] ++ txt (c.line x4.toNat).st ++ [32] ++ itoaK (c.line x4.toNat).mass ++ [32]).length + (itoaK (c.line x4.toNat).fate).length ≤ maxStr)) :: (pb (PureFn prog gl 30 [T.int .i64 (c.line x4.toNat).fate] (T.str (itoaK (c.line x4.toNat).fate)))) :: (decide ((x3 ++ [108, 105, 110, 101, 32] ++ txt (c.line x4.toNat).st ++ [32] ++ itoaK (c.line x4.toNat).mass).length + 1 ≤ maxStr)) :: (decide ((x3 ++ [108, 105, 110, 101, 32] ++ txt (c.line x4.toNat).st ++ [32]).length + (itoaK (c.line x4.toNat).mass).length ≤ maxStr)) :: (pb (PureFn prog gl 30 [T.int .i64 (c.line x4.toNat).mass] (T.str (itoaK (c.line x4.toNat).mass)))) :: (decide ((x3 ++ [108, 105, 110, 101, 32] ++ txt (c.line x4.toNat).st).length + 1 ≤ maxStr)) :: (decide ((x3 ++ [108, 105, 110, 101, 32]).length + (txt (c.line x4.toNat).st).length ≤ maxStr)) :: (decide (x3.length + 5 ≤ maxStr)) :: (!x9 == []) :: k10z_1_1 c x3 x4 x9 x10 nd
def V10z_0 (c : Ct) (x3 : List UInt8) (x4 : Int) : S10z ⊕ T :=
 (if decide (x4 < (↑c.n : Int)) then (if (c.line x4.toNat).node == [] then (.inl (.l1 x3 x4 ([]) 0 [45])) else (.inl (.l1 x3 x4 ([]) 0 (c.line x4.toNat).node))) else (.inr (T.str x3)))
def K10z_0 (c : Ct) (x3 : List UInt8) (x4 : Int) : Bool :=
 (if decide (x4 < (↑c.n : Int)) then (if (c.line x4.toNat).node == [] then (allT (g10z_0_1 c x3 x4)) else (allT (g10z_0_2 c x3 x4))) else (allT (g10z_0_3 c x3 x4)))
def step10z_0 (c : Ct) (x3 : List UInt8) (x4 : Int) : Option (S10z ⊕ T) := if K10z_0 c x3 x4 then some (V10z_0 c x3 x4) else none
theorem T10z_0 (c : Ct) (x3 : List UInt8) (x4 : Int) (hk : K10z_0 c x3 x4 = true) : step10z_0 c x3 x4 = some (V10z_0 c x3 x4) := if_pos hk
def V10z_1 (c : Ct) (x3 : List UInt8) (x4 : Int) (x9 : List UInt8) (x10 : Int) (nd : List UInt8) : S10z ⊕ T :=
 (if decide (x10 < (↑(c.line x4.toNat).k : Int)) then (if decide (x10 > 0) then (.inl (.l1 x3 x4 (x9 ++ [44] ++ txt ((c.line x4.toNat).from_ x10.toNat)) (IntKind.i64.wrap (x10 + 1)) nd)) else (.inl (.l1 x3 x4 (x9 ++ txt ((c.line x4.toNat).from_ x10.toNat)) (IntKind.i64.wrap (x10 + 1)) nd))) else (if x9 == [] then (.inl (.l0 (x3 ++ [108, 105, 110, 101, 32] ++ txt (c.line x4.toNat).st ++ [32] ++ itoaK (c.line x4.toNat).mass ++ [32] ++ itoaK (c.line x4.toNat).fate ++ [32] ++ itoaK (c.line x4.toNat).closed ++ [32] ++ nd ++ [32] ++ [45] ++ [10]) (IntKind.i64.wrap (x4 + 1)))) else (.inl (.l0 (x3 ++ [108, 105, 110, 101, 32] ++ txt (c.line x4.toNat).st ++ [32] ++ itoaK (c.line x4.toNat).mass ++ [32] ++ itoaK (c.line x4.toNat).fate ++ [32] ++ itoaK (c.line x4.toNat).closed ++ [32] ++ nd ++ [32] ++ x9 ++ [10]) (IntKind.i64.wrap (x4 + 1))))))
def K10z_1 (c : Ct) (x3 : List UInt8) (x4 : Int) (x9 : List UInt8) (x10 : Int) (nd : List UInt8) : Bool :=
 (if decide (x10 < (↑(c.line x4.toNat).k : Int)) then (if decide (x10 > 0) then (allT (g10z_1_1 c x3 x4 x9 x10 nd)) else (allT (g10z_1_2 c x3 x4 x9 x10 nd))) else (if x9 == [] then (allT (g10z_1_3 c x3 x4 x9 x10 nd)) else (allT (g10z_1_4 c x3 x4 x9 x10 nd))))
def step10z_1 (c : Ct) (x3 : List UInt8) (x4 : Int) (x9 : List UInt8) (x10 : Int) (nd : List UInt8) : Option (S10z ⊕ T) := if K10z_1 c x3 x4 x9 x10 nd then some (V10z_1 c x3 x4 x9 x10 nd) else none
theorem T10z_1 (c : Ct) (x3 : List UInt8) (x4 : Int) (x9 : List UInt8) (x10 : Int) (nd : List UInt8) (hk : K10z_1 c x3 x4 x9 x10 nd = true) : step10z_1 c x3 x4 x9 x10 nd = some (V10z_1 c x3 x4 x9 x10 nd) := if_pos hk
def V10z_s (c : Ct) : S10z ⊕ T :=
 (.inl (.l0 (98 :: 97 :: 108 :: 97 :: 110 :: 99 :: 101 :: 32 :: (((((((((((((((((((((((itoaK c.entries)) ++ [32])) ++ (itoaK c.accepted))) ++ [32])) ++ (itoaK c.delivered))) ++ [32])) ++ (itoaK c.waiting))) ++ [32])) ++ (itoaK c.letters))) ++ [32])) ++ (itoaK c.discarded))) ++ [10])) 0))
def K10z_s (c : Ct) : Bool :=
 (allT (g10z_s_1 c))
def step10z (c : Ct) : S10z → Option (S10z ⊕ T)
 | .l0 x3 x4 => step10z_0 c x3 x4
 | .l1 x3 x4 x9 x10 nd => step10z_1 c x3 x4 x9 x10 nd
def M10z (c : Ct) : Mch S10z where
 lp := fun σ => match σ with
  | .l0 .. => 0
  | .l1 .. => 1
 keep := fun ι => match ι with
  | 0 => [1, 3, 4]
  | 1 => [1, 3, 4, 5, 6, 8, 9, 10]
  | _ => []
 par := fun ι => match ι with
  | 0 => []
  | 1 => [0]
  | _ => []
 vs := fun σ => match σ with
  | .l0 x3 x4 => [(ctT c).ref 0, T.str x3, T.int .i64 x4]
  | .l1 x3 x4 x9 x10 nd => [(ctT c).ref 0, T.str x3, T.int .i64 x4, (lnT (c.line x4.toNat)).ref 0, T.str (txt (c.line x4.toNat).st), T.str nd, T.str x9, T.int .i64 x10]
 hp := fun _ => ⟨0, []⟩
 len := 117
 step := step10z c
def r10z_0 (c : Ct) (x3 : List UInt8) (x4 : Int) (fr : List T) (ds : List Bool) : RD Out := (M10z c).rk prog D50 F0 f10 (.l0 x3 x4) fr ds
theorem w10z_0_1 (c : Ct) (x3 : List UInt8) (x4 : Int) (fr : List T) : (M10z c).wl prog f10 (r10z_0 c x3 x4 fr [true, true]) 0 (g10z_0_1 c x3 x4) (.l1 x3 x4 ([]) 0 [45]) := by unfold Mch.wl; kernel_rfl
theorem w10z_0_2 (c : Ct) (x3 : List UInt8) (x4 : Int) (fr : List T) : (M10z c).wl prog f10 (r10z_0 c x3 x4 fr [true, false]) 0 (g10z_0_2 c x3 x4) (.l1 x3 x4 ([]) 0 (c.line x4.toNat).node) := by unfold Mch.wl; kernel_rfl
theorem w10z_0_3 (c : Ct) (x3 : List UInt8) (x4 : Int) (fr : List T) : outK prog f10 20 [] (r10z_0 c x3 x4 fr [false]) = wdn (T.str x3) (g10z_0_3 c x3 x4) := by kernel_rfl
def r10z_1 (c : Ct) (x3 : List UInt8) (x4 : Int) (x9 : List UInt8) (x10 : Int) (nd : List UInt8) (fr : List T) (ds : List Bool) : RD Out := (M10z c).rk prog D50 F0 f10 (.l1 x3 x4 x9 x10 nd) fr ds
theorem w10z_1_1 (c : Ct) (x3 : List UInt8) (x4 : Int) (x9 : List UInt8) (x10 : Int) (nd : List UInt8) (fr : List T) : (M10z c).wa prog f10 (r10z_1 c x3 x4 x9 x10 nd fr [true, true]) 0 (g10z_1_1 c x3 x4 x9 x10 nd) (.l1 x3 x4 (x9 ++ [44] ++ txt ((c.line x4.toNat).from_ x10.toNat)) (IntKind.i64.wrap (x10 + 1)) nd) := by unfold Mch.wa; kernel_rfl
theorem w10z_1_2 (c : Ct) (x3 : List UInt8) (x4 : Int) (x9 : List UInt8) (x10 : Int) (nd : List UInt8) (fr : List T) : (M10z c).wa prog f10 (r10z_1 c x3 x4 x9 x10 nd fr [true, false]) 0 (g10z_1_2 c x3 x4 x9 x10 nd) (.l1 x3 x4 (x9 ++ txt ((c.line x4.toNat).from_ x10.toNat)) (IntKind.i64.wrap (x10 + 1)) nd) := by unfold Mch.wa; kernel_rfl
theorem w10z_1_3 (c : Ct) (x3 : List UInt8) (x4 : Int) (x9 : List UInt8) (x10 : Int) (nd : List UInt8) (fr : List T) : (M10z c).wa prog f10 (r10z_1 c x3 x4 x9 x10 nd fr [false, true]) 1 (g10z_1_3 c x3 x4 x9 x10 nd) (.l0 (x3 ++ [108, 105, 110, 101, 32] ++ txt (c.line x4.toNat).st ++ [32] ++ itoaK (c.line x4.toNat).mass ++ [32] ++ itoaK (c.line x4.toNat).fate ++ [32] ++ itoaK (c.line x4.toNat).closed ++ [32] ++ nd ++ [32] ++ [45] ++ [10]) (IntKind.i64.wrap (x4 + 1))) := by unfold Mch.wa; kernel_rfl
theorem w10z_1_4 (c : Ct) (x3 : List UInt8) (x4 : Int) (x9 : List UInt8) (x10 : Int) (nd : List UInt8) (fr : List T) : (M10z c).wa prog f10 (r10z_1 c x3 x4 x9 x10 nd fr [false, false]) 1 (g10z_1_4 c x3 x4 x9 x10 nd) (.l0 (x3 ++ [108, 105, 110, 101, 32] ++ txt (c.line x4.toNat).st ++ [32] ++ itoaK (c.line x4.toNat).mass ++ [32] ++ itoaK (c.line x4.toNat).fate ++ [32] ++ itoaK (c.line x4.toNat).closed ++ [32] ++ nd ++ [32] ++ x9 ++ [10]) (IntKind.i64.wrap (x4 + 1))) := by unfold Mch.wa; kernel_rfl
theorem w10z_s_1 (c : Ct) : (M10z c).wl prog f10 (runK prog D50 F0 2000 (.code (bodyOf f10)) [] 0 ([ctT c] ++ List.replicate 116 undefT) ⟨0, []⟩ [] []) 0 (g10z_s_1 c) (.l0 (98 :: 97 :: 108 :: 97 :: 110 :: 99 :: 101 :: 32 :: (((((((((((((((((((((((itoaK c.entries)) ++ [32])) ++ (itoaK c.accepted))) ++ [32])) ++ (itoaK c.delivered))) ++ [32])) ++ (itoaK c.waiting))) ++ [32])) ++ (itoaK c.letters))) ++ [32])) ++ (itoaK c.discarded))) ++ [10])) 0) := by unfold Mch.wl; kernel_rfl
theorem ways10z (c : Ct) : (M10z c).Ways prog D50 F0 f10 20 := by
 intro σ o fr h
 cases σ with
 | l0 x3 x4 =>
  obtain ⟨hk, ho⟩ := kv_some (K := K10z_0 c x3 x4) (V := V10z_0 c x3 x4) h
  exact (wk_if (wk_if (kL (w10z_0_1 c x3 x4 fr) rfl) (kL (w10z_0_2 c x3 x4 fr) rfl)) (kD (w10z_0_3 c x3 x4 fr))) hk o ho
 | l1 x3 x4 x9 x10 nd =>
  obtain ⟨hk, ho⟩ := kv_some (K := K10z_1 c x3 x4 x9 x10 nd) (V := V10z_1 c x3 x4 x9 x10 nd) h
  exact (wk_if (wk_if (kA (w10z_1_1 c x3 x4 x9 x10 nd fr) rfl) (kA (w10z_1_2 c x3 x4 x9 x10 nd fr) rfl)) (wk_if (kA (w10z_1_3 c x3 x4 x9 x10 nd fr) rfl) (kA (w10z_1_4 c x3 x4 x9 x10 nd fr) rfl))) hk o ho
theorem oks10z (c : Ct) : ∀ σ, Ps.codeOk (loopAt f10 ((M10z c).lp σ)).1 = true ∧ ksOk (.lp :: (loopAt f10 ((M10z c).lp σ)).2) = true := oks_of 2 (by kernel_rfl) (by intro σ; cases σ <;> exact Nat.le_of_ble_eq_true rfl)
theorem c10z (c : Ct) (n : Nat) {r : T} (hk : K10z_s c = true) (hr : (M10z c).fin n (V10z_s c) = some r) : PureFn prog gl 10 [ctT c] r :=
 pure_mach (M := (M10z c)) (fn := f10) (k := 20) (d := 8) (c := bodyOf f10) cx50 glFrz (by kernel_rfl) func10 (by kernel_rfl) rfl (by kernel_rfl) (by kernel_rfl) (L := 116) (by kernel_rfl) (ways10z c) (oks10z c) ((kL (w10z_s_1 c) rfl) hk _ rfl) hr
end
end Go.Proofs.Tryz

/- The law's number writes the digits that Itoa writes. -/
namespace Go.Proofs.Tryz
open Go.Ps
set_option maxRecDepth 100000
theorem dig_app : ∀ (k u : Nat) (acc : List UInt8), digK k u acc = digK k u [] ++ acc
 | 0, _, acc => by simp [digK]
 | k + 1, u, acc => by
  unfold digK
  split
  ·rfl
  ·rw [dig_app k (u / 10) (UInt8.ofNat (48 + u % 10) :: acc), dig_app k (u / 10) [UInt8.ofNat (48 + u % 10)]]
   simp
theorem dig_fuel : ∀ (k u : Nat), u < 10 ^ (k + 1) → digK (k + 1) u [] = digK (k + 2) u []
 | 0, u, h => by
  have : u < 10 := by simpa using h
  simp [digK, this]
 | k + 1, u, h => by
  show (if u < 10 then UInt8.ofNat (48 + u) :: [] else digK (k + 1) (u / 10) [UInt8.ofNat (48 + u % 10)]) = (if u < 10 then UInt8.ofNat (48 + u) :: [] else digK (k + 2) (u / 10) [UInt8.ofNat (48 + u % 10)])
  split
  ·rfl
  ·rw [dig_app (k + 1), dig_app (k + 2), dig_fuel k (u / 10) (by rw [Nat.pow_succ] at h; omega)]
theorem itoaK_step {x : Int} (h1 : 10 ≤ x) (h2 : x ≤ 9223372036854775807) : itoaK x = itoaK (x / 10) ++ [UInt8.ofNat (48 + x % 10).toNat] := by
 unfold itoaK
 rw [if_neg (by omega), if_neg (by omega), digK]
 have e1 : (x / 10).toNat = x.toNat / 10 := by omega
 have e2 : (48 + x % 10).toNat = 48 + x.toNat % 10 := by omega
 rw [if_neg (by omega), dig_app, e1, e2, dig_fuel 18 (x.toNat / 10) (by omega)]
theorem itoaK_small {x : Int} (h1 : 0 ≤ x) (h2 : x < 10) : itoaK x = [UInt8.ofNat (48 + x).toNat] := by
 unfold itoaK
 have e2 : (48 + x).toNat = 48 + x.toNat := by omega
 rw [if_neg (by omega), digK, if_pos (by omega), e2]
theorem lnumber_ok : ∀ (k : Nat) (x : Int), 0 ≤ x → x ≤ 9223372036854775807 → x.toNat ≤ k → PureFn prog gl 30 [.int .i64 x] (.str (itoaK x)) := by
 intro k
 induction k using Nat.strongRecOn with
 | ind k ih =>
  intro x h1 h2 hk
  have b0 : decide (x < 0) = false := decide_eq_false (by omega)
  by_cases h10 : x < 10
  ·have b1 : decide (x < 10) = true := decide_eq_true h10
   have e : itoaK x = [UInt8.ofNat (IntKind.u8.wrap (IntKind.i64.wrap (48 + x))).toNat] := by
    rw [itoaK_small h1 h10, IntWalk.i64_in _ (by omega), IntWalk.u8_in _ (by omega)]
   refine c30z x 0 ?_ ?_
   ·unfold K30z_s; rw [b0, b1]; simp only [g30z_s_2, allT, b0, b1, Bool.not_false, Bool.and_true, Bool.false_eq_true, if_false, if_true]
   ·unfold V30z_s; rw [b0, b1, e]; rfl
  ·have b1 : decide (x < 10) = false := decide_eq_false h10
   have e1 : IntKind.i64.wrap (x.tdiv 10) = x / 10 := by rw [Int.tdiv_eq_ediv_of_nonneg h1, IntWalk.i64_in _ (by omega)]
   have e2 : IntKind.u8.wrap (IntKind.i64.wrap (48 + x.tmod 10)) = 48 + x % 10 := by rw [Int.tmod_eq_emod_of_nonneg h1, IntWalk.i64_in _ (by omega), IntWalk.u8_in _ (by omega)]
   have hp : pb (PureFn prog gl 30 [.int .i64 (x / 10)] (.str (itoaK (x / 10)))) = true := pb_iff.2 (ih (x / 10).toNat (by omega) (x / 10) (by omega) (by omega) (Nat.le_refl _))
   have hl : decide ((itoaK (x / 10)).length + 1 ≤ maxStr) = true := decide_eq_true (by have := itoaK_len (x / 10); unfold maxStr; omega)
   refine c30z x 0 ?_ ?_
   ·unfold K30z_s; rw [b0, b1]; simp only [g30z_s_3, e1, e2, allT, b0, b1, hp, hl, Bool.not_false, Bool.and_true, Bool.false_eq_true, if_false]; first | done | simp | decide
   ·unfold V30z_s; rw [b0, b1, e1, e2, itoaK_step (by omega) h2]; rfl
end Go.Proofs.Tryz

/- The law's text of a consistent certificate is what Encode writes. -/
namespace Go.Proofs.Tryz
open Go.Ps
set_option maxRecDepth 100000
theorem joinL_snoc (sep y : List UInt8) : ∀ (xs : List (List UInt8)), xs ≠ [] → joinL sep (xs ++ [y]) = joinL sep xs ++ sep ++ y
 | [], h => absurd rfl h
 | [x], _ => by simp [joinL]
 | x :: z :: r, _ => by
  have := joinL_snoc sep y (z :: r) (by simp)
  simp only [List.cons_append, joinL] at this ⊢
  rw [this]; simp
noncomputable def frP (x : Ln) (k : Nat) : List (List UInt8) := (List.range k).map fun k => txt (x.from_ k)
theorem frP_succ (x : Ln) (k : Nat) : frP x (k + 1) = frP x k ++ [txt (x.from_ k)] := by unfold frP; simp [List.range_succ]
theorem sum_range {F : Int → Ln → Int} {line : Nat → Ln} {n : Nat} (hF : ∀ i, i < n → ∀ s, 0 ≤ s → s ≤ 4611686018427387904 → 0 ≤ F s (line i) ∧ F s (line i) ≤ s + 1099511627776) :
  ∀ (q i : Nat) (s : Int), q + i = n → n ≤ 100 → 0 ≤ s → s + q * 1099511627776 ≤ 4611686018427387904 → 0 ≤ sumR F line q i s ∧ sumR F line q i s ≤ 4611686018427387904
 | 0, i, s, _, _, h1, h2 => ⟨h1, by simp only [sumR]; omega⟩
 | q + 1, i, s, hq, hn, h1, h2 => by
  have h3 := hF i (by omega) s h1 (by omega)
  simp only [sumR]
  exact sum_range hF q (i + 1) _ (by omega) hn h3.1 (by omega)
section
variable (c : Ct) (hs : small c) (h0 : CheckE c = 0) (hnd : ∀ i, i < c.n → (c.line i).node.length ≤ 1000000)
include hs h0 hnd
theorem tot_range : ∀ z ∈ [c.entries, c.accepted, c.delivered, c.waiting, c.letters, c.discarded], 0 ≤ z ∧ z ≤ 4611686018427387904 := by
 obtain ⟨g1, g2⟩ := good_of c hs h0 hnd
 have hm : ∀ i, i < c.n → 0 ≤ (c.line i).mass ∧ (c.line i).mass ≤ 1099511627776 := fun i hi => (g1 i hi).2.1
 have f58 : ∀ i, i < c.n → ∀ s : Int, 0 ≤ s → s ≤ 4611686018427387904 → 0 ≤ F58 s (c.line i) ∧ F58 s (c.line i) ≤ s + 1099511627776 := by
  intro i hi s a b
  unfold F58
  split
  ·rw [IntWalk.i64_in _ (by omega)]; omega
  ·omega
 have f57 : ∀ g i, i < c.n → ∀ s : Int, 0 ≤ s → s ≤ 4611686018427387904 → 0 ≤ F57 g s (c.line i) ∧ F57 g s (c.line i) ≤ s + 1099511627776 := by
  intro g i hi s a b
  have := hm i hi
  unfold F57
  split
  ·rw [IntWalk.i64_in _ (by omega)]; omega
  ·omega
 have hn := hs.1
 unfold CheckE at h0
 by_cases q1 : sizE c = 0
 case neg => rw [if_pos q1] at h0; exact absurd h0 q1
 rw [if_neg (by simp [q1])] at h0
 by_cases q2 : formE c = 0
 case neg => rw [if_pos q2] at h0; exact absurd h0 q2
 rw [if_neg (by simp [q2])] at h0
 by_cases q3 : parE c = 0
 case neg => rw [if_pos q3] at h0; exact absurd h0 q3
 rw [if_neg (by simp [q3])] at h0
 by_cases q4 : chE (rowsP c) c = 0
 case neg => rw [if_pos q4] at h0; exact absurd h0 q4
 rw [if_neg (by simp [q4])] at h0
 by_cases q5 : merE c = 0
 case neg => rw [if_pos q5] at h0; exact absurd h0 q5
 rw [if_neg (by simp [q5])] at h0
 unfold totE at h0
 split at h0
 ·exact absurd h0 (by decide)
 ·rename_i hne
  simp only [not_or, Decidable.not_not] at hne
  obtain ⟨e1, e2, e3, e4, e5⟩ := hne
  have he : 0 ≤ c.entries ∧ c.entries ≤ 4611686018427387904 := by
   unfold sizE at q1
   by_cases w1 : c.entries < 0 ∨ c.entries > 1048576
   ·rw [if_pos w1] at q1; exact absurd q1 (by decide)
   ·omega
  intro z hz
  simp only [List.mem_cons, List.not_mem_nil, or_false] at hz
  rcases hz with rfl | rfl | rfl | rfl | rfl | rfl
  ·exact he
  ·rw [e1]; exact sum_range f58 c.n 0 0 (by omega) hn (by omega) (by omega)
  ·rw [e2]; exact sum_range (f57 _) c.n 0 0 (by omega) hn (by omega) (by omega)
  ·rw [e3]; exact sum_range (f57 _) c.n 0 0 (by omega) hn (by omega) (by omega)
  ·rw [e4]; exact sum_range (f57 _) c.n 0 0 (by omega) hn (by omega) (by omega)
  ·rw [e5]; exact sum_range (f57 _) c.n 0 0 (by omega) hn (by omega) (by omega)
theorem text_hd (h : ∀ z ∈ [c.entries, c.accepted, c.delivered, c.waiting, c.letters, c.discarded], 0 ≤ z ∧ z ≤ 4611686018427387904) : K10z_s c = true ∧ V10z_s c = .inl (.l0 (hdS c) 0) := by
 have a := itoaK_len
 have h1 := a c.entries; have h2 := a c.accepted; have h3 := a c.delivered; have h4 := a c.waiting; have h5 := a c.letters; have h6 := a c.discarded
 have hM : maxStr = 4611686018427387904 := rfl
 have nm : ∀ z ∈ [c.entries, c.accepted, c.delivered, c.waiting, c.letters, c.discarded], pb (PureFn prog gl 30 [T.int IntKind.i64 z] (T.str (itoaK z))) = true := fun z hz => pb_iff.2 (lnumber_ok z.toNat z (h z hz).1 (by have := (h z hz).2; omega) (Nat.le_refl _))
 have m1 := nm c.entries (by simp); have m2 := nm c.accepted (by simp); have m3 := nm c.delivered (by simp); have m4 := nm c.waiting (by simp); have m5 := nm c.letters (by simp); have m6 := nm c.discarded (by simp)
 refine ⟨?_, ?_⟩
 ·unfold K10z_s
  simp only [g10z_s_1, m1, m2, m3, m4, m5, m6, allT, Bool.and_true, Bool.true_and, Bool.and_eq_true, decide_eq_true_eq, hM, List.length_append, List.length_cons, List.length_nil]
  repeat' apply And.intro
  all_goals omega
 ·unfold V10z_s hdS
  simp [joinL]
theorem text_l1 (i : Nat) (hi : i < c.n) : ∀ (q k : Nat), q + k = (c.line i).k → ∀ r, Runs (M10z c) (.l0 (encR c (i + 1)) (i + 1 : Nat)) r → Runs (M10z c) (.l1 (encR c i) i (joinL [44] (frP (c.line i) k)) k (Tryz.hy (c.line i).node)) r := by
 obtain ⟨g1, g2⟩ := good_of c hs h0 hnd
 have hM : maxStr = 4611686018427387904 := rfl
 have hsk := (hs.2 i hi).1
 have hl := enc_len c hs h0 hnd i (by omega)
 have hn := hs.1
 have hfl : ∀ k, k ≤ (c.line i).k → (joinL [44] (frP (c.line i) k)).length ≤ 3386100 := fun k hk => fr_len (by simp [frP]; omega) (fun y hy => by
  obtain ⟨j, hj, rfl⟩ := List.mem_map.1 hy
  exact txt_len (chk_zero (g2 i hi j (by simp at hj; omega))).2.2.2.1)
 intro q
 induction q with
 | zero =>
  intro k hk r hr
  have hk' : k = (c.line i).k := by omega
  subst hk'
  have b1 : decide (((c.line i).k : Int) < ((c.line i).k : Int)) = false := decide_eq_false (by omega)
  have hf := hfl _ (Nat.le_refl _)
  have ht := txt_len (chk_zero (g1 i hi).1).2.2.2.1
  have hh := hy_len (c.line i).node
  have hnn := hnd i hi
  have a1 := itoaK_len (c.line i).mass; have a2 := itoaK_len (c.line i).fate; have a3 := itoaK_len (c.line i).closed
  have n1 := pb_iff.2 <| lnumber_ok _ (c.line i).mass (g1 i hi).2.1.1 (by have := (g1 i hi).2.1.2; omega) (Nat.le_refl _)
  have n2 := pb_iff.2 <| lnumber_ok _ (c.line i).fate (g1 i hi).2.2.1.1 (by have := (g1 i hi).2.2.1.2; omega) (Nat.le_refl _)
  have n3 := pb_iff.2 <| lnumber_ok _ (c.line i).closed (g1 i hi).2.2.2.1 (by have := (g1 i hi).2.2.2.2; omega) (Nat.le_refl _)
  have hle : (encR c i).length ≤ 600000000 := by omega
  have hst : (M10z c).step (.l1 (encR c i) i (joinL [44] (frP (c.line i) (c.line i).k)) ((c.line i).k : Nat) (Tryz.hy (c.line i).node)) = some (.inl (.l0 (encR c (i + 1)) (i + 1 : Nat))) := by
   show step10z_1 c _ _ _ _ _ = _
   rw [T10z_1]
   ·unfold V10z_1
    simp only [Int.toNat_natCast]
    rw [b1, wsucc i (by omega)]
    simp only [Bool.false_eq_true, if_false]
    have key : encR c (i + 1) = encR c i ++ [108, 105, 110, 101, 32] ++ txt (c.line i).st ++ [32] ++ itoaK (c.line i).mass ++ [32] ++ itoaK (c.line i).fate ++ [32] ++ itoaK (c.line i).closed ++ [32] ++ Tryz.hy (c.line i).node ++ [32] ++ Tryz.hy (joinL [44] (frP (c.line i) (c.line i).k)) ++ [10] := by
     show encR c i ++ lnS (c.line i) = _
     unfold lnS frS frP
     simp [joinL]
    rw [key]
    by_cases e : joinL [44] (frP (c.line i) (c.line i).k) = []
    ·rw [e]; simp [Tryz.hy]
    ·have : (joinL [44] (frP (c.line i) (c.line i).k) == []) = false := by simpa using e
     rw [this]
     simp [Tryz.hy, e]
   ·unfold K10z_1
    simp only [Int.toNat_natCast]
    refine tree_eq (fun e => by rw [b1] at e; cases e) (fun _ => ?_)
    refine tree_eq (fun e => ?_) (fun e => ?_)
    ·simp only [g10z_1_3, e, b1, Int.toNat_natCast, allT, Bool.and_true, Bool.not_false, Bool.true_and, Bool.and_eq_true, decide_eq_true_eq, n1, n2, n3, hM, List.length_append, List.length_cons, List.length_nil, k10z_1_1]
     repeat' apply And.intro
     all_goals first | omega | rfl
    ·simp only [g10z_1_4, e, b1, Int.toNat_natCast, allT, Bool.and_true, Bool.not_false, Bool.true_and, Bool.and_eq_true, decide_eq_true_eq, n1, n2, n3, hM, List.length_append, List.length_cons, List.length_nil, k10z_1_1]
     repeat' apply And.intro
     all_goals first | omega | rfl
  exact Runs.next hst hr
 | succ q ih =>
  intro k hk r hr
  have hkk : k < (c.line i).k := by omega
  have b1 : decide ((k : Int) < ((c.line i).k : Int)) = true := decide_eq_true (by omega)
  have hf := hfl k (by omega)
  have hc := g2 i hi k hkk
  have ht := txt_len (chk_zero hc).2.2.2.1
  have b3 : decide ((0 : Int) ≤ k) = true := decide_eq_true (by omega)
  have b4 : pb (chk ((c.line i).from_ k) = 0) = true := pb_iff.2 hc
  have hst : (M10z c).step (.l1 (encR c i) i (joinL [44] (frP (c.line i) k)) (k : Nat) (Tryz.hy (c.line i).node)) = some (.inl (.l1 (encR c i) i (joinL [44] (frP (c.line i) (k + 1))) (k + 1 : Nat) (Tryz.hy (c.line i).node))) := by
   show step10z_1 c _ _ _ _ _ = _
   rw [T10z_1]
   ·unfold V10z_1
    simp only [Int.toNat_natCast]
    rw [b1, wsucc k (by omega)]
    simp only [if_true]
    by_cases e : k = 0
    ·subst e
     simp [frP, joinL]
    ·have b2 : decide ((k : Int) > 0) = true := decide_eq_true (by omega)
     rw [b2, frP_succ, joinL_snoc _ _ _ (by simp [frP]; omega)]
     simp
   ·unfold K10z_1
    simp only [Int.toNat_natCast]
    refine tree_eq (fun _ => ?_) (fun e => by rw [b1] at e; cases e)
    refine tree_eq (fun e => ?_) (fun e => ?_)
    ·simp only [g10z_1_1, e, b1, b3, b4, isV_self, Int.toNat_natCast, allT, Bool.and_true, Bool.not_false, Bool.true_and, Bool.and_eq_true, decide_eq_true_eq, hM, List.length_append, List.length_cons, List.length_nil, k10z_1_0]
     refine ⟨by omega, by omega⟩
    ·simp only [g10z_1_2, e, b1, b3, b4, isV_self, Int.toNat_natCast, allT, Bool.and_true, Bool.not_false, Bool.true_and, Bool.and_eq_true, decide_eq_true_eq, hM, List.length_append, List.length_cons, List.length_nil, k10z_1_0]
     omega
  exact Runs.next hst (ih (k + 1) (by omega) r hr)
theorem text_l0 : ∀ (q i : Nat), q + i = c.n → Runs (M10z c) (.l0 (encR c i) (i : Nat)) (.str (enc c)) := by
 obtain ⟨g1, g2⟩ := good_of c hs h0 hnd
 intro q
 induction q with
 | zero =>
  intro i hi
  have e : i = c.n := by omega
  subst e
  have b1 : decide ((c.n : Int) < (c.n : Int)) = false := decide_eq_false (by omega)
  refine Runs.done ?_
  show step10z_0 c _ _ = _
  rw [T10z_0]
  ·unfold V10z_0; rw [b1]; rfl
  ·unfold K10z_0; rw [b1]; simp only [Bool.false_eq_true, if_false, g10z_0_3, allT, b1]; rfl
 | succ q ih =>
  intro i hi
  have b1 : decide ((i : Int) < (c.n : Int)) = true := decide_eq_true (by omega)
  have b2 : decide ((0 : Int) ≤ i) = true := decide_eq_true (by omega)
  have b3 : pb (chk (c.line i).st = 0) = true := pb_iff.2 (g1 i (by omega)).1
  have hst : (M10z c).step (.l0 (encR c i) (i : Nat)) = some (.inl (.l1 (encR c i) i (joinL [44] (frP (c.line i) 0)) (0 : Nat) (Tryz.hy (c.line i).node))) := by
   show step10z_0 c _ _ = _
   rw [T10z_0]
   ·unfold V10z_0 Tryz.hy
    simp only [Int.toNat_natCast]
    rw [b1]
    by_cases e : (c.line i).node = []
    ·rw [if_pos e, e]; rfl
    ·have : ((c.line i).node == []) = false := by simpa using e
     rw [if_neg e, this]; rfl
   ·unfold K10z_0
    simp only [Int.toNat_natCast]
    rw [b1]
    simp only [if_true]
    refine tree_eq (fun e => ?_) (fun e => ?_)
    ·simp only [g10z_0_1, e, Int.toNat_natCast, b1, b2, b3, isV_self, allT, Bool.and_true, k10z_0_0]
    ·simp only [g10z_0_2, e, Int.toNat_natCast, b1, b2, b3, isV_self, allT, Bool.and_true, Bool.not_false, k10z_0_0]
  exact Runs.next hst (text_l1 c hs h0 hnd i (by omega) (c.line i).k 0 (by omega) _ (ih (i + 1) (by omega)))
theorem ltext_ok : PureFn prog gl 10 [ctT c] (.str (enc c)) := by
 obtain ⟨k1, k2⟩ := text_hd c hs h0 hnd (tot_range c hs h0 hnd)
 obtain ⟨n, hn⟩ := text_l0 c hs h0 hnd c.n 0 (by omega)
 exact c10z c n k1 (by rw [k2]; exact hn)
end
end Go.Proofs.Tryz

/- What BalanceTexts calls: contracts over a certificate that is told by its places alone. -/
namespace Go.Proofs.Tryz
noncomputable section
open Go.Ps
theorem fe_node {c : Ct} {i : Nat} (h : fe c i = 0) : (c.line i).node = [] ∨ isName (c.line i).node = true := by
 unfold fe at h
 split at h
 ·rename_i h1; exact absurd h h1
 ·split at h
  ·cases h
  ·split at h
   ·cases h
   ·split at h
    ·cases h
    ·split at h
     ·cases h
     ·split at h
      ·cases h
      ·split at h
       ·cases h
       ·rename_i h1 h2 h3 h4 h5 h6 h7
        by_cases w : (c.line i).node = []
        ·exact .inl w
        ·right
         by_cases v : (c.line i).fate = 0
         ·exact absurd (.inl ⟨v, w⟩) h7
         ·cases e : isName (c.line i).node with
          | true => rfl
          | false => exact absurd (.inr ⟨v, e⟩) h7
theorem gdc_of (c : Ct) (hs : small c) (h0 : CheckE c = 0) (hnd : ∀ i, i < c.n → (c.line i).node.length ≤ 1000000) : GdC c := by
 obtain ⟨g1, g2⟩ := good_of c hs h0 hnd
 have ht := tot_range c hs h0 hnd
 unfold CheckE at h0
 by_cases q1 : sizE c = 0
 case neg => rw [if_pos q1] at h0; exact absurd h0 q1
 rw [if_neg (by simp [q1])] at h0
 by_cases q2 : formE c = 0
 case neg => rw [if_pos q2] at h0; exact absurd h0 q2
 have hfe := fun i (hin : i < c.n) => fe_node (fst_zero c.n 0 q2 i (by omega) (by omega))
 refine ⟨fun z hz => ?_, fun i hi => ⟨(g1 i hi).1, (g1 i hi).2.1, (g1 i hi).2.2.1, (g1 i hi).2.2.2, g2 i hi, ?_⟩⟩
 ·have := ht z hz; omega
 ·rcases hfe i hi with h | h
  ·rw [h]; simp
  ·exact isName_ge h
/-! ### sizes -/
theorem txt_len' {s : Sp} (h : s.n ≤ 20) : (txt s).length ≤ 462 := by
 have h1 := itoaK_len s.entry
 have h2 := joinL_len [46] 21 (pth s) (fun x hx => by obtain ⟨j, _, rfl⟩ := List.mem_map.1 hx; exact itoaK_len _)
 have h3 : (pth s).length = s.n := by simp [pth]
 rw [h3] at h2
 have h4 : s.n * (21 + [46].length) ≤ 20 * 22 := Nat.mul_le_mul h (by simp)
 unfold txt
 simp only [List.length_append, List.length_cons, List.length_nil]
 omega
theorem fr_len' {xs : List (List UInt8)} (h1 : xs.length ≤ 10) (h2 : ∀ x ∈ xs, x.length ≤ 462) : (joinL [44] xs).length ≤ 4630 := by
 have a := joinL_len [44] 462 xs h2
 have b : xs.length * (462 + [44].length) ≤ 10 * 463 := Nat.mul_le_mul h1 (by simp)
 omega
theorem ln_len' (x : Ln) (h1 : x.st.n ≤ 20) (h2 : x.node.length ≤ 100) (h3 : x.k ≤ 10) (h4 : ∀ k, k < x.k → (x.from_ k).n ≤ 20) : (lnS x).length ≤ 10000 := by
 unfold lnS
 have a := itoaK_len
 have b := txt_len' h1
 have d := hy_len x.node
 have e := fr_len' (xs := frS x) (by simp [frS]; omega) (fun y hy => by
  obtain ⟨k, hk, rfl⟩ := List.mem_map.1 hy
  exact txt_len' (h4 k (by simpa using hk)))
 have f := hy_len (joinL [44] (frS x))
 simp only [joinL, List.length_append, List.length_cons, List.length_nil]
 have h1 := a x.mass; have h2 := a x.fate; have h3 := a x.closed
 omega
theorem enc_len' {c : Ct} (h : smallT c) : (enc c).length ≤ 1000000 := by
 have key : ∀ i, i ≤ c.n → (encR c i).length ≤ 1000 + i * 10000 := by
  intro i
  induction i with
  | zero => intro _; have := hd_len c; simpa [encR] using this
  | succ i ih =>
   intro hi
   have h1 := ih (by omega)
   obtain ⟨k1, k2, k3, k4⟩ := h.2 i (by omega)
   have h2 := ln_len' (c.line i) k2 k4 k1 k3
   rw [encR, List.length_append]
   omega
 have := key c.n (Nat.le_refl _)
 have := h.1
 unfold enc
 omega
/-! ### the contracts -/
theorem nodes_of {c : Ct} (h : smallT c) : ∀ i, i < c.n → (c.line i).node.length ≤ 1000000 := fun i hi => by have := (h.2 i hi).2.2.2; omega
theorem encP_of {c : Ct} (h : smallT c) (h0 : CheckE c = 0) : encP c :=
 ⟨small_of h, nodes_of h, (gdc_of c (small_of h) h0 (nodes_of h)).z⟩
theorem enc_bad {m : Int} {te : TypeId} {c : Ct} (hs : small c) (h0 : CheckE c ≠ 0) : PureFn prog (gl1 m te) 7 [ctT c] (.tup [.str [], .int .i64 (CheckE c)]) := by
 have hp : pB (small c) = true := pB_iff.2 hs
 have e0 : (CheckE c != 0) = true := bne_iff_ne.2 h0
 refine pure1 (c7z c 0 ?_ ?_)
 ·unfold K7z_s; rw [e0]; simp only [g7z_s_1, allT, isV_self, e0, hp, Bool.and_true, if_true]
 ·unfold V7z_s; rw [e0]; rfl
def s7t : List T → Option (T × List Bool)
 | [t] => some (.tup [.str (encT (ctv t)), .int .i64 (CheckE (ctv t))], [isV t (ctT (ctv t)), pb (smallT (ctv t))])
 | _ => none
theorem s7t_ok (m : Int) (te : TypeId) (ts : List T) (r : T) (cs : List Bool) (h : s7t ts = some (r, cs)) (hc : allT cs = true) : PureFn prog (gl1 m te) 7 ts r := by
 unfold s7t at h
 split at h
 ·rename_i t
  cases h
  simp only [allT, Bool.and_true, Bool.and_eq_true, isV_iff, pb_iff] at hc
  obtain ⟨h1, h2⟩ := hc
  generalize ctv t = c at *
  subst h1
  by_cases e : CheckE c = 0
  ·exact enc_pure (encP_of h2 e)
  ·have := enc_bad (m := m) (te := te) (small_of h2) e
   unfold encT
   rw [if_neg e]; exact this
 ·cases h
def s8t : List T → Option (T × List Bool)
 | [t] => some (.int .i64 (CheckE (ctv t)), [isV t (ctT (ctv t)), pb (smallT (ctv t))])
 | _ => none
theorem s8t_ok (m : Int) (te : TypeId) (ts : List T) (r : T) (cs : List Bool) (h : s8t ts = some (r, cs)) (hc : allT cs = true) : PureFn prog (gl1 m te) 8 ts r := by
 unfold s8t at h
 split at h
 ·rename_i t
  cases h
  simp only [allT, Bool.and_true, Bool.and_eq_true, isV_iff, pb_iff] at hc
  obtain ⟨h1, h2⟩ := hc
  generalize ctv t = c at *
  subst h1
  rw [check_same c (small_of h2)]
  exact pure1 (check_ok c (small_of h2))
 ·cases h
def s6t : List T → Option (T × List Bool)
 | [t] => some (.bool (smallB (ctv t)), [isV t (ctT (ctv t))])
 | _ => none
theorem s6t_ok (m : Int) (te : TypeId) (ts : List T) (r : T) (cs : List Bool) (h : s6t ts = some (r, cs)) (hc : allT cs = true) : PureFn prog (gl1 m te) 6 ts r := by
 unfold s6t at h
 split at h
 ·rename_i t
  cases h
  simp only [allT, Bool.and_true, isV_iff] at hc
  generalize ctv t = c at *
  subst hc
  exact pure1 (smallB_t c).2
 ·cases h
def s10t : List T → Option (T × List Bool)
 | [t] => some (.str (enc (ctv t)), [isV t (ctT (ctv t)), pb (smallT (ctv t)), pb (CheckE (ctv t) = 0)])
 | _ => none
theorem s10t_ok (m : Int) (te : TypeId) (ts : List T) (r : T) (cs : List Bool) (h : s10t ts = some (r, cs)) (hc : allT cs = true) : PureFn prog (gl1 m te) 10 ts r := by
 unfold s10t at h
 split at h
 ·rename_i t
  cases h
  simp only [allT, Bool.and_true, Bool.and_eq_true, isV_iff, pb_iff] at hc
  obtain ⟨h1, h2, h3⟩ := hc
  generalize ctv t = c at *
  subst h1
  exact pure1 (ltext_ok c (small_of h2) h3 (nodes_of h2))
 ·cases h
def s9t (c : Ct) : List T → Option (T × List Bool)
 | [.str s] => some (.tup [ctT c, .int .i64 0], [s == enc c, pb (nct c = c ∧ smallT c ∧ CheckE c = 0)])
 | _ => none
theorem s9t_ok (m : Int) (te : TypeId) (c : Ct) (ts : List T) (r : T) (cs : List Bool) (h : s9t c ts = some (r, cs)) (hc : allT cs = true) : PureFn prog (gl1 m te) 9 ts r := by
 unfold s9t at h
 split at h
 ·rename_i s
  cases h
  simp only [allT, Bool.and_true, Bool.and_eq_true, beq_iff_eq, pb_iff] at hc
  obtain ⟨rfl, hn, h2, h3⟩ := hc
  have hG := gdc_of c (small_of h2) h3 (nodes_of h2)
  have hA : Agr (enc c) c := by have := agr_enc hG; rwa [hn] at this
  rcases decode_ok (m := m) (te := te) (enc c) (enc_len' h2) (fun _ c' hA' => by rw [agr_uni hA' hA]; exact encP_of h2 h3) with ⟨c', _, hA', _, _, hp⟩ | ⟨hf | ⟨c', hA', hf⟩, _⟩
  ·rw [agr_uni hA' hA] at hp; exact hp
  ·rw [dOk_enc hG] at hf; cases hf
  ·rw [agr_uni hA' hA] at hf; exact absurd ⟨h3, rfl⟩ hf
 ·cases h
def s11t : List T → Option (T × List Bool)
 | [t, u] => some (.bool (smC (ctv t) (ctv u)), [isV t (ctT (ctv t)), isV u (ctT (ctv u)), pb (mdC (ctv t)), pb (mdC (ctv u))])
 | _ => none
theorem s11t_ok (m : Int) (te : TypeId) (ts : List T) (r : T) (cs : List Bool) (h : s11t ts = some (r, cs)) (hc : allT cs = true) : PureFn prog (gl1 m te) 11 ts r := by
 unfold s11t at h
 split at h
 ·rename_i t u
  cases h
  simp only [allT, Bool.and_true, Bool.and_eq_true, isV_iff, pb_iff] at hc
  obtain ⟨h1, h2, h3, h4⟩ := hc
  generalize ctv t = c at *
  generalize ctv u = d at *
  subst h1; subst h2
  exact pure1 (same_ok c d h3 h4)
 ·cases h
theorem eqS_self (s : Sp) : eqS s s = true := by unfold eqS; rw [cmpS_self]; rfl
theorem smC_self (c : Ct) : smC c c = true := by
 unfold smC
 rw [if_pos ⟨rfl, rfl, rfl, rfl, rfl, rfl, rfl⟩, alR_iff]
 intro j _ _
 unfold smL smS
 rw [if_pos rfl]
 simp only [Bool.and_eq_true, beq_self_eq_true, and_true, true_and, eqS_self]
 rw [alR_iff]
 exact fun _ _ _ => rfl
def D65 (m : Int) (te : TypeId) (c : Ct) : Ed := ⟨gl1 m te, pdAdd 9 (s9t c) (pdAdd 11 s11t (pdAdd 7 s7t (pdAdd 8 s8t (pdAdd 6 s6t (pdAdd 10 s10t D20.pd)))))⟩
theorem cx65 (m : Int) (te : TypeId) (c : Ct) : Cx prog (D65 m te c) F0 := ⟨follows, pdAdd_ok (pdAdd_ok (pdAdd_ok (pdAdd_ok (pdAdd_ok (pdAdd_ok (pe1 cx20.hE) (s10t_ok m te)) (s6t_ok m te)) (s8t_ok m te)) (s7t_ok m te)) (s11t_ok m te)) (s9t_ok m te c), eeNone_ok⟩
end
end Go.Proofs.Tryz

namespace Go.Proofs.Tryz
noncomputable section
open Go.Ps
set_option maxRecDepth 100000
/-! ### 3 -/
def k3z_s_0 (m : Int) (te : TypeId) (c : Ct) : List Bool := let y0 := isV (ctT c) (ctT c); let y1 := pb (smallT c); [y0, y1, y0, y1, !!smallB c, true, true, y0, true, true]
def k3z_s_1 (m : Int) (te : TypeId) (c : Ct) : List Bool := (isV (ctT c) (ctT c)) :: (pb (smallT c)) :: (pb (CheckE c = 0)) :: true :: true :: (encT c == enc c) :: (pb (nct c = c ∧ smallT c ∧ CheckE c = 0)) :: (!CheckE c != 0) :: k3z_s_0 m te c
def k3z_s_2 (m : Int) (te : TypeId) (c : Ct) : List Bool := let y0 := encT c == enc c; y0 :: y0 :: y0 :: k3z_s_1 m te c
def g3z_s_1 (m : Int) (te : TypeId) (c : Ct) : List Bool := [!smallB c, true, true, isV (ctT c) (ctT c), true, true]
def g3z_s_2 (m : Int) (te : TypeId) (c : Ct) : List Bool := (encT c == []) :: (encT c == []) :: (encT c == []) :: (encT c == []) :: (CheckE c != 0) :: k3z_s_0 m te c
def g3z_s_3 (m : Int) (te : TypeId) (c : Ct) : List Bool := (!encT c == []) :: (!encT c == []) :: (!encT c == []) :: (!encT c == []) :: (CheckE c != 0) :: k3z_s_0 m te c
def g3z_s_4 (m : Int) (te : TypeId) (c : Ct) : List Bool := let y0 := isV (ctT c) (ctT c); let y1 := CheckE c == 0; true :: y0 :: y0 :: (pb (mdC c)) :: (pb (mdC c)) :: true :: true :: true :: y1 :: y1 :: y1 :: k3z_s_2 m te c
def g3z_s_5 (m : Int) (te : TypeId) (c : Ct) : List Bool := let y0 := CheckE c == 0; true :: true :: true :: true :: (!y0) :: (!y0) :: (!y0) :: k3z_s_2 m te c
def g3z_s_6 (m : Int) (te : TypeId) (c : Ct) : List Bool := let y0 := encT c == enc c; true :: true :: true :: true :: true :: true :: true :: (!y0) :: (!y0) :: (!y0) :: k3z_s_1 m te c
def V3z_s (m : Int) (te : TypeId) (c : Ct) : Empty ⊕ T :=
 (if !smallB c then (.inr (T.bool true)) else (if CheckE c != 0 then (if encT c == [] then (.inr (T.bool (CheckE c == CheckE c))) else (.inr (T.bool false))) else (if encT c == enc c then (if CheckE c == 0 then (.inr (T.bool (smC c c))) else (.inr (T.bool false))) else (.inr (T.bool false)))))
def K3z_s (m : Int) (te : TypeId) (c : Ct) : Bool :=
 (if !smallB c then (allT (g3z_s_1 m te c)) else (if CheckE c != 0 then (if encT c == [] then (allT (g3z_s_2 m te c)) else (allT (g3z_s_3 m te c))) else (if encT c == enc c then (if CheckE c == 0 then (allT (g3z_s_4 m te c)) else (allT (g3z_s_5 m te c))) else (allT (g3z_s_6 m te c)))))
def r3z_s (m : Int) (te : TypeId) (c : Ct) (ds : List Bool) : RD Out := runK prog (D65 m te c) F0 2000 (.code (bodyOf f3)) [] 0 ([ctT c] ++ List.replicate 53 undefT) ⟨0, []⟩ ds []
theorem w3z_s_1 (m : Int) (te : TypeId) (c : Ct) : outK prog f3 20 [] (r3z_s m te c (bt 5 16)) = wdn (T.bool true) (g3z_s_1 m te c) := by kernel_rfl
theorem w3z_s_2 (m : Int) (te : TypeId) (c : Ct) : outK prog f3 20 [] (r3z_s m te c (bt 10 992)) = wdn (T.bool (CheckE c == CheckE c)) (g3z_s_2 m te c) := by kernel_rfl
theorem w3z_s_3 (m : Int) (te : TypeId) (c : Ct) : outK prog f3 20 [] (r3z_s m te c (bt 10 32)) = wdn (T.bool false) (g3z_s_3 m te c) := by kernel_rfl
theorem w3z_s_4 (m : Int) (te : TypeId) (c : Ct) : outK prog f3 20 [] (r3z_s m te c (bt 16 65472)) = wdn (T.bool (smC c c)) (g3z_s_4 m te c) := by kernel_rfl
theorem w3z_s_5 (m : Int) (te : TypeId) (c : Ct) : outK prog f3 20 [] (r3z_s m te c (bt 16 448)) = wdn (T.bool false) (g3z_s_5 m te c) := by kernel_rfl
theorem w3z_s_6 (m : Int) (te : TypeId) (c : Ct) : outK prog f3 20 [] (r3z_s m te c (bt 16 0)) = wdn (T.bool false) (g3z_s_6 m te c) := by kernel_rfl
theorem c3z (m : Int) (te : TypeId) (c : Ct) (n : Nat) {r : T} (hk : K3z_s m te c = true) (hr : noM.fin n (V3z_s m te c) = some r) : PureFn prog (gl1 m te) 3 [ctT c] r :=
 pure_mach (M := noM) (fn := f3) (k := 20) (d := 8) (c := bodyOf f3) (cx65 m te c) (gl1Frz m te) (by kernel_rfl) func3 (by kernel_rfl) rfl (by kernel_rfl) (by kernel_rfl) (L := 53) (by kernel_rfl) noM_ways (fun σ => σ.elim) ((wk_if (kD (w3z_s_1 m te c)) (wk_if (wk_if (kD (w3z_s_2 m te c)) (kD (w3z_s_3 m te c))) (wk_if (wk_if (kD (w3z_s_4 m te c)) (kD (w3z_s_5 m te c))) (kD (w3z_s_6 m te c))))) hk _ rfl) hr
end
end Go.Proofs.Tryz

/- A certificate is told by its places alone: what lies beyond them may be taken as nothing. -/
namespace Go.Proofs.Tryz
open Go.Ps
theorem rdI_ext {g : G} {v : Value} {full : Bool} {n : Nat} {f f' : Nat → T} (h : RdI g v (.slf full n f)) (hl : ∀ i, i < n → (f' i).cells.length = (f i).cells.length)
  (hx : ∀ i, i < n → ∀ (j : Nat) (u : Value) (c c' : T), (f i).cells[j]? = some c → (f' i).cells[j]? = some c' → RdI g u c → RdI g u c') : RdI g v (.slf full n f') := by
 cases h with
 | slfn _ _ p => exact .slfn full f' p
 | slf _ _ _ sz b o cap vs h1 h2 h3 h4 h5 h6 h7 h8 =>
  refine .slf full n f' sz b o cap vs h1 (fun i hi => (hl i hi).trans (h2 i hi)) h3 h4 h5 h6 h7 (fun i j u c' hi hj hu hc' => ?_)
  have hj' : j < (f i).cells.length := by rw [h2 i hi]; exact hj
  exact hx i hi j u _ c' (List.getElem?_eq_getElem hj') hc' (h8 i j u _ hi hj hu (List.getElem?_eq_getElem hj'))
theorem rd_ext {g : G} {v : Value} {full : Bool} {n : Nat} {f f' : Nat → T} (h : Rd g v (.slf full n f)) (hl : ∀ i, i < n → (f' i).cells.length = (f i).cells.length)
  (hx : ∀ i, i < n → ∀ (j : Nat) (u : Value) (c c' : T), (f i).cells[j]? = some c → (f' i).cells[j]? = some c' → RdI g u c → RdI g u c') : Rd g v (.slf full n f') := by
 cases h with
 | slfn _ _ p => exact .slfn full f' p
 | slf _ _ _ sz b o cap vs h1 h2 h3 h4 h5 h6 h7 h8 =>
  refine .slf full n f' sz b o cap vs h1 (fun i hi => (hl i hi).trans (h2 i hi)) h3 h4 h5 h6 h7 (fun i j u c' hi hj hu hc' => ?_)
  have hj' : j < (f i).cells.length := by rw [h2 i hi]; exact hj
  exact hx i hi j u _ c' (List.getElem?_eq_getElem hj') hc' (h8 i j u _ hi hj hu (List.getElem?_eq_getElem hj'))
theorem rdI_is {g : G} {v : Value} {n : Nat} {f f' : Nat → Int} (e : ∀ i, i < n → f' i = f i) (h : RdI g v (.slf false n fun i => .int .i64 (f i))) : RdI g v (.slf false n fun i => .int .i64 (f' i)) :=
 rdI_ext h (fun _ _ => rfl) (fun i hi j u c c' hc hc' hr => by
  have e' := e i hi
  rw [e'] at hc'
  rw [hc] at hc'
  cases hc'; exact hr)
theorem rdI_ss {g : G} {v : Value} {n : Nat} {f : Nat → Sp} (h : RdI g v (.slf false n fun i => spT (f i))) : RdI g v (.slf false n fun i => spT (if i < n then nsp (f i) else zSp)) :=
 rdI_ext h (fun i hi => by simp only [if_pos hi]; rfl) (fun i hi j u c c' hc hc' hr => by
  simp only [if_pos hi] at hc'
  match j with
  | 0 => cases hc; cases hc'; exact hr
  | 1 => cases hc; cases hc'; exact rdI_is (fun k hk => if_pos hk) hr
  | j + 2 => cases hc)
theorem rd_ls {g : G} {v : Value} {n : Nat} {f : Nat → Ln} (h : Rd g v (.slf false n fun i => lnT (f i))) : Rd g v (.slf false n fun i => lnT (if i < n then nln (f i) else zLn)) :=
 rd_ext h (fun i hi => by simp only [if_pos hi]; rfl) (fun i hi j u c c' hc hc' hr => by
  simp only [if_pos hi] at hc'
  match j with
  | 0 => cases hc; cases hc'; exact hr
  | 1 => cases hc; cases hc'; exact rdI_is (fun k hk => if_pos hk) hr
  | 2 => cases hc; cases hc'; exact hr
  | 3 => cases hc; cases hc'; exact rdI_ss hr
  | 4 => cases hc; cases hc'; exact hr
  | 5 => cases hc; cases hc'; exact hr
  | 6 => cases hc; cases hc'; exact hr
  | j + 7 => cases hc)
theorem rd_nct {g : G} {v : Value} {c : Ct} (h : Rd g v (ctT c)) : Rd g v (ctT (nct c)) := rd_ct (fun u hu => rd_ls hu) h
theorem nsp_idem (s : Sp) : nsp (nsp s) = nsp s := by
 unfold nsp
 congr 1
 funext j
 by_cases h : j < s.n <;> simp [h]
theorem nln_idem (x : Ln) : nln (nln x) = nln x := by
 unfold nln
 simp only [nsp_idem]
 congr 1
 funext k
 by_cases h : k < x.k <;> simp [h, nsp_idem]
theorem nct_idem (c : Ct) : nct (nct c) = nct c := by
 unfold nct
 congr 1
 funext i
 by_cases h : i < c.n <;> simp [h, nln_idem]
end Go.Proofs.Tryz

namespace Go.Proofs.Tryz
open Go.Ps
set_option maxRecDepth 100000
/-! ### 4 -/
end Go.Proofs.Tryz

/- BalanceDecodes returns true at every text. -/
namespace Go.Proofs.Tryz
open Go.Ps
theorem mdC_small {c : Ct} (h : small c) : mdC c :=
 ⟨by have := h.1; omega, fun i hi => ⟨by have := (h.2 i hi).2.1; omega, by have := (h.2 i hi).1; omega, fun k hk => by have := (h.2 i hi).2.2 k hk; omega⟩⟩
end Go.Proofs.Tryz

/- BalanceTexts returns true at every certificate that is told by its places. -/
namespace Go.Proofs.Tryz
open Go.Ps
theorem texts_ok (m : Int) (te : TypeId) (c : Ct) (hn : nct c = c) : PureFn prog (gl1 m te) 3 [ctT c] (.bool true) := by
 by_cases hb : smallB c = true
 ·have hT := (smallB_t c).1 hb
  have hS := small_of hT
  have p1 : pb (smallT c) = true := pb_iff.2 hT
  have p2 : pb (mdC c) = true := pb_iff.2 (mdC_small hS)
  by_cases h0 : CheckE c = 0
  ·have b0 : (CheckE c != 0) = false := by rw [h0]; rfl
   have b1 : (CheckE c == 0) = true := by rw [h0]; rfl
   have b2 : (encT c == enc c) = true := by unfold encT; rw [if_pos h0, beq_self_eq_true]
   have p3 : pb (nct c = c ∧ smallT c ∧ CheckE c = 0) = true := pb_iff.2 ⟨hn, hT, h0⟩
   have p4 : pb (CheckE c = 0) = true := pb_iff.2 h0
   refine c3z m te c 0 ?_ ?_
   ·unfold K3z_s
    refine tree_eq (fun e => by rw [hb] at e; cases e) (fun _ => ?_)
    refine tree_eq (fun e => by rw [b0] at e; cases e) (fun _ => ?_)
    refine tree_eq (fun _ => ?_) (fun e => by rw [b2] at e; cases e)
    refine tree_eq (fun _ => ?_) (fun e => by rw [b1] at e; cases e)
    simp only [g3z_s_4, allT, isV_self, hb, b0, b1, b2, p1, p2, p3, p4, Bool.not_false, Bool.not_true, Bool.and_true, k3z_s_2, k3z_s_1, k3z_s_0]
   ·have hv : V3z_s m te c = .inr (.bool true) := by
     unfold V3z_s
     refine tree_eq (fun _ => rfl) (fun _ => ?_)
     refine tree_eq (fun e => by rw [b0] at e; cases e) (fun _ => ?_)
     refine tree_eq (fun _ => ?_) (fun e => by rw [b2] at e; cases e)
     refine tree_eq (fun _ => ?_) (fun e => by rw [b1] at e; cases e)
     rw [smC_self]
    rw [hv]; rfl
  ·have b0 : (CheckE c != 0) = true := bne_iff_ne.2 h0
   have b2 : (encT c == []) = true := by unfold encT; rw [if_neg h0]; rfl
   refine c3z m te c 0 ?_ ?_
   ·unfold K3z_s
    refine tree_eq (fun e => by rw [hb] at e; cases e) (fun _ => ?_)
    refine tree_eq (fun _ => ?_) (fun e => by rw [b0] at e; cases e)
    refine tree_eq (fun _ => ?_) (fun e => by rw [b2] at e; cases e)
    simp only [g3z_s_2, allT, isV_self, hb, b0, b2, p1, Bool.not_false, Bool.not_true, Bool.and_true, k3z_s_0]
   ·have hv : V3z_s m te c = .inr (.bool true) := by
     unfold V3z_s
     refine tree_eq (fun _ => rfl) (fun _ => ?_)
     refine tree_eq (fun _ => ?_) (fun e => by rw [b0] at e; cases e)
     refine tree_eq (fun _ => ?_) (fun e => by rw [b2] at e; cases e)
     rw [beq_self_eq_true]
    rw [hv]; rfl
 ·have hb' : smallB c = false := by simpa using hb
  refine c3z m te c 0 ?_ ?_
  ·unfold K3z_s
   refine tree_eq (fun _ => ?_) (fun e => by rw [hb'] at e; cases e)
   simp only [g3z_s_1, allT, isV_self, hb', Bool.not_false, Bool.not_true, Bool.and_true]
  ·have hv : V3z_s m te c = .inr (.bool true) := by
    unfold V3z_s
    exact tree_eq (fun _ => rfl) (fun e => by rw [hb'] at e; cases e)
   rw [hv]; rfl
end Go.Proofs.Tryz

/- Opening an argument: what reads as plain data (numbers, texts, structures, slices of such) is a tree; it reads again where nothing that was there has changed. -/
namespace Go.Ps
def RdIL (g : G) (vs : List Value) (ts : List T) : Prop := vs.length = ts.length ∧ ∀ (j : Nat) (v : Value) (c : T), vs[j]? = some v → ts[j]? = some c → RdI g v c
section
variable {g : G}
theorem RdIL.nil : RdIL g [] [] := ⟨rfl, fun j v c h => by simp at h⟩
theorem RdIL.one {v : Value} {t : T} (h : RdI g v t) : RdIL g [v] [t] := by
 refine ⟨rfl, fun j u c hu hc => ?_⟩
 cases j with
 | zero => simp at hu hc; subst hu; subst hc; exact h
 | succ j => simp at hu
theorem RdIL.append {vs us : List Value} {ts ss : List T} (h : RdIL g vs ts) (k : RdIL g us ss) : RdIL g (vs ++ us) (ts ++ ss) := by
 refine ⟨by simp [h.1, k.1], fun j u c hu hc => ?_⟩
 rw [List.getElem?_append] at hu hc
 by_cases hj : j < vs.length
 ·rw [if_pos hj] at hu
  rw [if_pos (h.1 ▸ hj)] at hc
  exact h.2 j u c hu hc
 ·rw [if_neg hj] at hu
  rw [if_neg (h.1 ▸ hj), ← h.1] at hc
  exact k.2 _ u c hu hc
end
def fieldAt (P : Program) (t : TypeId) (i : Nat) : Option (TypeId × Nat × Nat) :=
 match P.underlying t with
 | some (.struct fs) => (fs[i]?).map fun f => (f.type, f.offset, P.cellsOf f.type)
 | _ => none
section
variable {H : Type} (enc : TypeId × Value → H) (P : Program) (W : World)
def Opens (t : TypeId) {A : Type} (mk : A → List T) (ok : A → Prop) : Prop :=
 ∀ (n : Nat) (cs : List Value) (y : DataW H × List MemPlace), DataW.trod enc P W 0 (fun _ => true) true n t cs = some y → ∃ a : A, RdIL (G.start W) cs (mk a) ∧ ok a
variable {enc P W}
theorem Opens.int {t : TypeId} {k : IntKind} (ht : P.underlying t = some (.int k)) : Opens enc P W t (fun n : Int => [.int k n]) (fun n => k.has n) := by
 intro n cs y h
 obtain ⟨m, rfl, _, hw⟩ := DataW.trod_int ht h
 refine ⟨m, RdIL.one (.int k m), ?_⟩
 simp [Lit.wf] at hw
 exact hw
theorem Opens.bool {t : TypeId} (ht : P.underlying t = some .bool) : Opens enc P W t (fun b : Bool => [.bool b]) (fun _ => True) := by
 intro n cs y h
 obtain ⟨b, rfl, _⟩ := DataW.trod_bool ht h
 exact ⟨b, RdIL.one (.bool b), trivial⟩
theorem Opens.str {t : TypeId} (ht : P.underlying t = some .string) : Opens enc P W t (fun s : List UInt8 => [.str s]) (fun s => s.length ≤ maxLen) := by
 intro n cs y h
 obtain ⟨s, rfl, _, hs⟩ := DataW.trod_string ht h
 exact ⟨s.data.toList, RdIL.one (.str s), by simpa using hs⟩
theorem cells_some {w : World} {a : Addr} {n : Nat} {cs : List Value} (h : w.cells? 0 a n = some cs) : cs.length = n ∧ ∀ (j : Nat) (v : Value), cs[j]? = some v → w.cell? (a.add j) = some v := by
 obtain ⟨_, hl, hc⟩ := World.cells?_some h
 refine ⟨hl, fun j v hv => ?_⟩
 have hj : j < n := by rw [← hl]; exact (List.getElem?_eq_some_iff.1 hv).1
 rw [hc j hj]; exact hv
theorem spot_of_cell {w : World} {a : Addr} {v : Value} (h : w.cell? a = some v) : a.spot = none := by
 unfold World.cell? at h
 split at h
 ·split at h
  ·cases h
  ·rename_i hs; simpa using hs
 ·cases h
theorem Opens.slice {t e : TypeId} {sz : Nat} {A : Type} [Inhabited A] {mk : A → List T} {ok : A → Prop} (toT : A → T) (ht : P.underlying t = some (.slice e)) (hsz : P.cellsOf e = sz) (hpos : 0 < sz) (hmk : ∀ a, (mk a).length = sz)
  (htoT : ∀ a, (toT a).cells = mk a) (he : Opens enc P W e mk ok) : Opens enc P W t (fun x : Nat × (Nat → A) => [.slf false x.1 (fun i => toT (x.2 i))]) (fun x => x.1 ≤ maxLen ∧ ∀ i, i < x.1 → ok (x.2 i)) := by
 intro n cs y h
 rcases DataW.trod_slice ht h with ⟨rfl, _⟩ | ⟨a, len, cap, elems, rest, n, _, rfl, _, _, hl, hm, hlen, hel, hsp, _⟩
 ·exact ⟨(0, default), RdIL.one (.slfn false _ none), by simp, fun i hi => by simp at hi⟩
 ·rw [hsz] at hel hsp
  have one : ∀ i, i < len → ∃ c x, W.cells? 0 (a.add (i * sz)) sz = some c ∧ RdIL (G.start W) c (mk x) ∧ ok x := by
   intro i hi
   have h1 := hel i hi
   have h2 : elems[i]? = some (elems[i]'(by omega)) := List.getElem?_eq_getElem (by omega)
   rw [h2, Option.bind_eq_some_iff] at h1
   obtain ⟨c, hc, hy⟩ := h1
   obtain ⟨x, hx, hk⟩ := he _ _ _ hy
   exact ⟨c, x, hc, hx, hk⟩
  have hspot : 0 < cap → a.spot = none := by
   intro hc
   by_cases hl0 : 0 < len
   ·obtain ⟨c, x, h1, _, _⟩ := one 0 hl0
    obtain ⟨h2, h3⟩ := cells_some h1
    have h4 : c[0]? = some (c[0]'(by omega)) := List.getElem?_eq_getElem (by omega)
    have := spot_of_cell (h3 0 _ h4)
    simpa [Addr.add] using this
   ·obtain ⟨h1, h2⟩ := hsp rfl
    have h3 := h2 0 (by omega)
    have h4 : rest[0]? = some (rest[0]'(by omega)) := List.getElem?_eq_getElem (by omega)
    rw [h4, Option.bind_eq_some_iff] at h3
    obtain ⟨c, hc, _⟩ := h3
    have l0 : len = 0 := by omega
    subst l0
    obtain ⟨h5, h6⟩ := cells_some hc
    have h7 : c[0]? = some (c[0]'(by omega)) := List.getElem?_eq_getElem (by omega)
    have := spot_of_cell (h6 0 _ h7)
    simpa [Addr.add] using this
  classical
  let cel : Nat → List Value := fun i => if hi : i < len then Classical.choose (one i hi) else []
  let xs : Nat → A := fun i => if hi : i < len then Classical.choose (Classical.choose_spec (one i hi)) else default
  have hcx : ∀ i, i < len → W.cells? 0 (a.add (i * sz)) sz = some (cel i) ∧ RdIL (G.start W) (cel i) (mk (xs i)) ∧ ok (xs i) := by
   intro i hi
   simp only [cel, xs, dif_pos hi]
   exact Classical.choose_spec (Classical.choose_spec (one i hi))
  refine ⟨(len, xs), RdIL.one ?_, by show len ≤ maxLen; omega, fun i hi => (hcx i hi).2.2⟩
  by_cases hcap : cap = 0
  ·have l0 : len = 0 := by omega
   subst l0; subst hcap
   exact .slfn false _ (some a)
  ·obtain ⟨b, o, sp⟩ := a
   have hs := hspot (by omega)
   simp only at hs
   subst hs
   have hlenAll : ∀ x ∈ (List.range len).map cel, x.length = sz := fun x hx => by
    obtain ⟨i, hi, rfl⟩ := List.mem_map.1 hx
    exact (cells_some (hcx i (by simpa using hi)).1).1
   have hflat : ∀ (m : Nat), m ≤ len → (((List.range m).map cel).flatten).length = m * sz := by
    intro m
    induction m with
    | zero => intro _; simp
    | succ m ih =>
     intro hm
     rw [List.range_succ, List.map_append, List.flatten_append, List.length_append, ih (by omega), Nat.succ_mul]
     simp [(cells_some (hcx m (by omega)).1).1]
   have hat : ∀ (m : Nat), m ≤ len → ∀ i j, i < m → j < sz → (((List.range m).map cel).flatten)[i * sz + j]? = (cel i)[j]? := by
    intro m
    induction m with
    | zero => intro _ i j hi; omega
    | succ m ih =>
     intro hm i j hi hj
     rw [List.range_succ, List.map_append, List.flatten_append, List.getElem?_append, hflat m (by omega)]
     by_cases him : i < m
     ·have : i * sz + j < m * sz := by
       have : (i + 1) * sz ≤ m * sz := Nat.mul_le_mul_right _ him
       rw [Nat.succ_mul] at this
       omega
      rw [if_pos this]
      exact ih (by omega) i j him hj
     ·have : i = m := by omega
      subst this
      rw [if_neg (by omega)]
      simp
   refine .slf false len (fun i => toT (xs i)) sz b o cap (((List.range len).map cel).flatten) (fun hn => ?_) (fun i hi => by rw [htoT, hmk]) hl hm (fun q => by cases q) (hflat len (Nat.le_refl _)) (fun j v hv => ?_) (fun i j v c hi hj hv hc => ?_)
   ·obtain ⟨h1, _, _⟩ := hcx 0 (by omega)
    obtain ⟨h2, h3⟩ := cells_some h1
    have h4 : (cel 0)[0]? = some ((cel 0)[0]'(by omega)) := List.getElem?_eq_getElem (by omega)
    have := lt_of_cell (h3 0 _ h4)
    show b < W.heap.size
    simpa [Addr.add] using this
   ·have hj : j < len * sz := by
     rw [← hflat len (Nat.le_refl _)]
     exact (List.getElem?_eq_some_iff.1 hv).1
    have hd : j = j / sz * sz + j % sz := by rw [Nat.mul_comm]; exact (Nat.div_add_mod j sz).symm
    have hq : j / sz < len := by rw [Nat.div_lt_iff_lt_mul hpos]; exact hj
    have hr : j % sz < sz := Nat.mod_lt _ hpos
    rw [hd, hat len (Nat.le_refl _) _ _ hq hr] at hv
    have h1 := (cells_some (hcx _ hq).1).2 _ v hv
    show W.cell? ⟨b, o + j, none⟩ = some v
    have e : (Addr.add (Addr.add ⟨b, o, none⟩ (j / sz * sz)) (j % sz)) = ⟨b, o + j, none⟩ := by
     rw [Addr.add_lit, Addr.add_lit]
     congr 1
     omega
    rw [← e]; exact h1
   ·rw [hat len (Nat.le_refl _) i j hi hj] at hv
    rw [htoT] at hc
    exact (hcx i hi).2.1.2 j v c hv hc
theorem st_field {t : TypeId} {fuel : Nat} {cs : List Value} {x : DataW H × List MemPlace} (h : DataW.trod enc P W 0 (fun _ => true) true fuel t cs = some x) {i : Nat} {u : TypeId} {o s : Nat} (hf : fieldAt P t i = some (u, o, s)) :
  cs.length = P.cellsOf t ∧ ∃ n y, DataW.trod enc P W 0 (fun _ => true) true n u ((cs.drop o).take s) = some y := by
 unfold fieldAt at hf
 split at hf
 ·rename_i fs ht
  simp only [Option.map_eq_some_iff] at hf
  obtain ⟨f, hf, he⟩ := hf
  cases he
  obtain ⟨xs, n, _, _, hl, hlen, hx⟩ := DataW.trod_struct ht h
  refine ⟨hl, n, ?_⟩
  have hi : i < xs.length := by rw [hlen]; exact (Array.getElem?_eq_some_iff.1 hf).1
  exact ⟨xs[i], by rw [hx i f hf, List.getElem?_eq_getElem hi]⟩
 ·cases hf
theorem Opens.field {t u : TypeId} {A : Type} {mk : A → List T} {ok : A → Prop} (hu : Opens enc P W u mk ok) {fuel : Nat} {cs : List Value} {x : DataW H × List MemPlace} (h : DataW.trod enc P W 0 (fun _ => true) true fuel t cs = some x) {i o s : Nat} (hf : fieldAt P t i = some (u, o, s)) :
  ∃ a : A, RdIL (G.start W) ((cs.drop o).take s) (mk a) ∧ ok a := by
 obtain ⟨_, n, y, hy⟩ := st_field h hf
 exact hu _ _ _ hy
theorem RdIL.cut {g : G} {cs : List Value} {o s : Nat} {ts us : List T} (h : RdIL g ((cs.drop o).take s) ts) (k : RdIL g (cs.drop (o + s)) us) : RdIL g (cs.drop o) (ts ++ us) := by
 have := h.append k
 rwa [← List.drop_drop, List.take_append_drop] at this
theorem RdIL.end_ {g : G} {cs : List Value} {o : Nat} (h : cs.length = o) : RdIL g (cs.drop o) [] := by
 rw [List.drop_eq_nil_of_le (by omega)]; exact RdIL.nil
theorem rd_struct {t : TypeId} {v : Value} {r : Reach} {base : Nat} {fs : Array Field} (ht : P.underlying t = some (.struct fs)) (hval : Value.okWide P W r base t v) : ∃ cs : Array Value, v = .agg cs ∧ v.cells.toList = cs.toList := by
 unfold Value.okWide at hval
 rw [ht] at hval
 obtain ⟨cs, rfl, _⟩ := hval
 exact ⟨cs, rfl, rfl⟩
theorem rd_agg {g : G} {cs : Array Value} {ts : List T} (h : RdIL g cs.toList ts) : Rd g (.agg cs) (.agg ts) := by
 have := (RdI.agg (g := g) ts cs.toList h.1 h.2).rd
 simpa using this
end
end Go.Ps

/- What comes in is a tree; what the row's list gives. -/
set_option maxRecDepth 100000
namespace Go.Ps
instance : Inhabited Sp := ⟨⟨0, 0, fun _ => 0⟩⟩
instance : Inhabited Ln := ⟨⟨default, 0, 0, fun _ => default, 0, 0, []⟩⟩
def Sp.ok (s : Sp) : Prop := IntKind.i64.has s.entry ∧ s.n ≤ maxLen ∧ ∀ i, i < s.n → IntKind.i64.has (s.at_ i)
def Ln.ok (x : Ln) : Prop := x.st.ok ∧ IntKind.i64.has x.mass ∧ (x.k ≤ maxLen ∧ ∀ i, i < x.k → (x.from_ i).ok) ∧ IntKind.i64.has x.fate ∧ IntKind.i64.has x.closed ∧ x.node.length ≤ maxLen
def Ct.ok (c : Ct) : Prop := IntKind.i64.has c.entries ∧ IntKind.i64.has c.accepted ∧ IntKind.i64.has c.delivered ∧ IntKind.i64.has c.waiting ∧ IntKind.i64.has c.letters ∧ IntKind.i64.has c.discarded ∧ c.n ≤ maxLen ∧ ∀ i, i < c.n → (c.line i).ok
theorem gl_of_cell {W : World} {k : Nat} {x : T} {v : Value} {cs : Array Value} {e : TypeId} {fz : Nat × Nat} (hx : x.cells = [x]) (hb : W.heap[k]? = some (.cells cs e fz)) (hs : cs.size = 1) (hc : cs[0]? = some v) (hv : Rd (G.start W) v x) : GlAt (G.start W) k (.ref x 0) := by
 have hlt : k < W.heap.size := (Array.getElem?_eq_some_iff.1 hb).1
 refine ⟨?_, hlt, cs, e, fz, hb, by simp [T.refLen, hx, hs]⟩
 refine Rd.ref (g := G.start W) x 0 k 0 [v] hlt (by rw [hx]; rfl) (fun j w hw => ?_) (fun j w c hw hc' => ?_)
 ·match j with
  | 0 =>
   cases hw
   unfold World.cell?
   show (match W.heap[k]? with | some (.cells c _ _) => if (none : Option _).isSome then none else c[0 + 0]? | _ => none) = some v
   rw [hb]; simpa using hc
  | j + 1 => cases hw
 ·rw [hx] at hc'
  match j with
  | 0 => cases hw; cases hc'; exact hv
  | j + 1 => cases hw
end Go.Ps
namespace Go.Proofs.YtcndhbamkipifaaGreatDoor
open Go.ChangeShapes Go.WideShapes Go.ChangeAt Go.RowKit Go.Ps
theorem ownN : ownKnob Tryz.prog.godebug = none := by kernel_rfl
section
variable {H : Type} {enc : TypeId × Value → H} {W : World}
theorem opInt : Opens enc Tryz.prog W 3 (fun n : Int => [T.int .i64 n]) (fun n => IntKind.i64.has n) := Opens.int Tryz.underlying3
theorem opStr : Opens enc Tryz.prog W 9 (fun s : List UInt8 => [T.str s]) (fun s => s.length ≤ maxLen) := Opens.str (by kernel_rfl)
theorem opInts : Opens enc Tryz.prog W 37 (fun x : Nat × (Nat → Int) => [T.slf false x.1 (fun i => T.int .i64 (x.2 i))]) (fun x => x.1 ≤ maxLen ∧ ∀ i, i < x.1 → IntKind.i64.has (x.2 i)) :=
 Opens.slice (sz := 1) (fun n => T.int .i64 n) (by kernel_rfl) (by kernel_rfl) (by decide) (fun _ => rfl) (fun _ => rfl) opInt
theorem opSp : Opens enc Tryz.prog W 39 (fun s : Sp => (spT s).cells) Sp.ok := by
 intro n cs y h
 obtain ⟨a, ha, oa⟩ := opInt.field h (i := 0) (o := 0) (s := 1) (by kernel_rfl)
 obtain ⟨p, hp, op⟩ := opInts.field h (i := 1) (o := 1) (s := 1) (by kernel_rfl)
 have hl : cs.length = 2 := (st_field h (i := 0) (u := 3) (o := 0) (s := 1) (by kernel_rfl)).1.trans (by kernel_rfl)
 exact ⟨⟨a, p.1, p.2⟩, by have := ha.cut (hp.cut (RdIL.end_ hl)); rw [List.drop_zero] at this; exact this, oa, op⟩
theorem opSps : Opens enc Tryz.prog W 40 (fun x : Nat × (Nat → Sp) => [T.slf false x.1 (fun i => spT (x.2 i))]) (fun x => x.1 ≤ maxLen ∧ ∀ i, i < x.1 → (x.2 i).ok) :=
 Opens.slice (sz := 2) spT (by kernel_rfl) (by kernel_rfl) (by decide) (fun _ => rfl) (fun _ => rfl) opSp
theorem opLn : Opens enc Tryz.prog W 42 (fun x : Ln => (lnT x).cells) Ln.ok := by
 intro n cs y h
 obtain ⟨a0, h0, o0⟩ := opSp.field h (i := 0) (o := 0) (s := 2) (by kernel_rfl)
 obtain ⟨a1, h1, o1⟩ := opInt.field h (i := 1) (o := 2) (s := 1) (by kernel_rfl)
 obtain ⟨a2, h2, o2⟩ := opSps.field h (i := 2) (o := 3) (s := 1) (by kernel_rfl)
 obtain ⟨a3, h3, o3⟩ := opInt.field h (i := 3) (o := 4) (s := 1) (by kernel_rfl)
 obtain ⟨a4, h4, o4⟩ := opInt.field h (i := 4) (o := 5) (s := 1) (by kernel_rfl)
 obtain ⟨a5, h5, o5⟩ := opStr.field h (i := 5) (o := 6) (s := 1) (by kernel_rfl)
 have hl : cs.length = 7 := (st_field h (i := 1) (u := 3) (o := 2) (s := 1) (by kernel_rfl)).1.trans (by kernel_rfl)
 exact ⟨⟨a0, a1, a2.1, a2.2, a3, a4, a5⟩, by have := h0.cut (h1.cut (h2.cut (h3.cut (h4.cut (h5.cut (RdIL.end_ hl)))))); rw [List.drop_zero] at this; exact this, o0, o1, o2, o3, o4, o5⟩
theorem opLns : Opens enc Tryz.prog W 22 (fun x : Nat × (Nat → Ln) => [T.slf false x.1 (fun i => lnT (x.2 i))]) (fun x => x.1 ≤ maxLen ∧ ∀ i, i < x.1 → (x.2 i).ok) :=
 Opens.slice (sz := 7) lnT (by kernel_rfl) (by kernel_rfl) (by decide) (fun _ => rfl) (fun _ => rfl) opLn
theorem opCt : Opens enc Tryz.prog W 24 (fun c : Ct => (ctT c).cells) Ct.ok := by
 intro n cs y h
 obtain ⟨a0, h0, o0⟩ := opInt.field h (i := 0) (o := 0) (s := 1) (by kernel_rfl)
 obtain ⟨a1, h1, o1⟩ := opInt.field h (i := 1) (o := 1) (s := 1) (by kernel_rfl)
 obtain ⟨a2, h2, o2⟩ := opInt.field h (i := 2) (o := 2) (s := 1) (by kernel_rfl)
 obtain ⟨a3, h3, o3⟩ := opInt.field h (i := 3) (o := 3) (s := 1) (by kernel_rfl)
 obtain ⟨a4, h4, o4⟩ := opInt.field h (i := 4) (o := 4) (s := 1) (by kernel_rfl)
 obtain ⟨a5, h5, o5⟩ := opInt.field h (i := 5) (o := 5) (s := 1) (by kernel_rfl)
 obtain ⟨a6, h6, o6⟩ := opLns.field h (i := 6) (o := 6) (s := 1) (by kernel_rfl)
 have hl : cs.length = 7 := (st_field h (i := 1) (u := 3) (o := 1) (s := 1) (by kernel_rfl)).1.trans (by kernel_rfl)
 exact ⟨⟨a0, a1, a2, a3, a4, a5, a6.1, a6.2⟩, by have := h0.cut (h1.cut (h2.cut (h3.cut (h4.cut (h5.cut (h6.cut (RdIL.end_ hl))))))); rw [List.drop_zero] at this; exact this, o0, o1, o2, o3, o4, o5, o6⟩
theorem openCt {base : Nat} {v : Value} {d : DataW H} {p : List MemPlace} (hval : Value.okWide Tryz.prog W .any base 24 v) (h : DataW.Trod enc Tryz.prog W 0 (fun _ => true) true 24 v d p) : ∃ c : Ct, Rd (G.start W) v (ctT c) ∧ c.ok := by
 obtain ⟨n, h⟩ := h
 obtain ⟨c, hc, ok⟩ := opCt n _ _ h
 have hst : ∃ fs, Tryz.prog.underlying 24 = some (.struct fs) := by
  have hu : (match Tryz.prog.underlying 24 with | some (.struct _) => true | _ => false) = true := by kernel_rfl
  split at hu
  ·rename_i fs e; exact ⟨fs, e⟩
  ·cases hu
 obtain ⟨fs, hst⟩ := hst
 obtain ⟨cs, rfl, e⟩ := rd_struct hst hval
 rw [e] at hc
 exact ⟨c, rd_agg hc, ok⟩
end
theorem below_of {g g' : G} (h : PStep g g') : Below g.w.heap.size g.w g'.w := ⟨h.os, h.tape, h.output, h.size, h.block⟩
/-! ### the package's variables -/
theorem star145 : "*" ++ "errors.errorString" = "*errors.errorString" := by decide
theorem row145 (u : TypeId) (h : Tryz.prog.typeName? 3 u = some "*errors.errorString") : u = 145 :=
 typeName_ptr_named (nm := "errors.errorString") (by rw [star145]; kernel_rfl) (by kernel_rfl) (by decide) u (by rw [star145]; exact h)
theorem maxLen_ex {W : World} (h : W.ShapedOpen Tryz.prog) : ∃ m, GlAt (G.start W) 1 (.ref (.int .i64 m) 0) := by
 obtain ⟨m, hm⟩ := cell_of_shapedOpen_int (g := 1) (t := 3) (k := .i64) h (of_decide_eq_true (by kernel_rfl)) (zero := #[.int .i64 0]) (by kernel_rfl) rfl (by kernel_rfl) (by kernel_rfl) Tryz.underlying3
 obtain ⟨cs, hh, hs, _⟩ := h.1 1 #[.int .i64 0] 3 (of_decide_eq_true (by kernel_rfl)) (by kernel_rfl)
 refine ⟨m, gl_of_cell rfl hh hs ?_ (Rd.int .i64 m)⟩
 unfold World.cell? at hm
 rw [hh] at hm
 simpa using hm
theorem err_at {W : World} {n : String} {k : Nat} {text : List UInt8} {r : List (String × DataW Unit)} (hk : Tryz.prog.globalNamed n = some k) (ht : (Tryz.prog.globals[k]?).map (·.type) = some 51)
  (h : laidMet Tryz.prog ((n, .iface "*errors.errorString" (.ptr (.agg [.lit (.string text)]))) :: r) W) : GlAt (G.start W) k (.ref (Tryz.errT 145) 0) := by
 obtain ⟨a, s, hv, hc, _, _⟩ := laid_sentinel h hk ht Tryz.underlying51 row145 Tryz.underlying145 Tryz.underlying147 rfl rfl Tryz.underlying9 (by kernel_rfl) (by kernel_rfl)
 unfold World.var? at hv
 rw [hk, Option.bind_some] at hv
 split at hv
 ·rename_i cs e fz hb
  cases hv
  refine gl_of_cell rfl hb rfl rfl (.iface 145 _ _ ?_)
  obtain ⟨b, o, w⟩ := a
  unfold World.cell? at hc
  split at hc
  ·rename_i c2 e2 f2 hb2
   cases w with
   | some w => simp at hc
   | none => exact Rd.ref (g := G.start W) (.agg []) 0 b o [] (Array.getElem?_eq_some_iff.1 hb2).1 rfl (fun j v hv => by cases hv) (fun j v c hv => by cases hv)
  all_goals cases hc
 ·cases hv
theorem glOkZ {W : World} (h : laidMet Tryz.prog Rows.balanceDecodesRow.laid W) (hS : W.ShapedOpen Tryz.prog) : ∃ m, GlOk (Tryz.gl1 m 145) (G.start W) := by
 obtain ⟨m, hm⟩ := maxLen_ex hS
 have h2 : laidMet Tryz.prog (("internal/strconv.uint64pow10", Lib.tabData .u64 Lib.pow10Tab) :: _) W := h.tail.tail
 have h3 := Lib.tabIs_of_head (g := 0) (t := 128) (e := 108) (n := 20) (by kernel_rfl) (by kernel_rfl) (by kernel_rfl) (by kernel_rfl) (by kernel_rfl) (by kernel_rfl) h2
 have e3 : GlAt (G.start W) 3 (.ref (Tryz.errT 145) 0) := err_at (by kernel_rfl) (by kernel_rfl) (h.tail.tail.tail.tail)
 have e2 : GlAt (G.start W) 2 (.ref (Tryz.errT 145) 0) := err_at (by kernel_rfl) (by kernel_rfl) (h.tail.tail.tail.tail.tail)
 refine ⟨m, fun k t ht => ?_⟩
 unfold Tryz.gl1 at ht
 split at ht
 ·rename_i e; subst e; cases ht; exact gl_of_tab (by kernel_rfl) h3
 ·split at ht
  ·rename_i e; subst e; cases ht; exact hm
  ·split at ht
   ·rename_i e; subst e; cases ht; exact e2
   ·split at ht
    ·rename_i e; subst e; cases ht; exact e3
    ·cases ht
noncomputable def door (os : Os) : World :=
 { World.doorLaid Tryz.prog 72 os with
  heap := (World.doorLaid Tryz.prog 72 os).heap.modify 4 fun o => match o with
   | .cells _ t f => .cells (Go.Pinned.utf8FirstZ.map fun n : Nat => Value.int .u8 (n : Int)).toArray t f
   | o => o }
end Go.Proofs.YtcndhbamkipifaaGreatDoor
