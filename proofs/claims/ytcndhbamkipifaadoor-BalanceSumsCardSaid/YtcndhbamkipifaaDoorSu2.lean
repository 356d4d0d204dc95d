/- Texts merged: B, Bc, K43, C1. -/
import Derived.Test.YtcndhbamkipifaaDoorSu1
/- The functions on stamps as machines, by program (gen2). -/
namespace Go.Proofs.Tryd
open Go.Ps
set_option maxRecDepth 100000

/-! ### 49 -/
set_option linter.unusedVariables false
theorem w49_s_1 (x y : Int) : outK prog f49 20 [] (runK prog D2 F0 2000 (.code (bodyOf f49)) [] 0 ([.int .i64 x, .int .i64 y] ++ List.replicate 18 undefT) ⟨0, []⟩ [false, false, true] [])
    = some (OutT.done (some (T.int .i64 (-1))), [decide (x < y), true, true], { next := 0, objs := [] }, [], 0) := by kernel_rfl
theorem w49_s_2 (x y : Int) : outK prog f49 20 [] (runK prog D2 F0 2000 (.code (bodyOf f49)) [] 0 ([.int .i64 x, .int .i64 y] ++ List.replicate 18 undefT) ⟨0, []⟩ (bt 4 8) [])
    = some (OutT.done (some (T.int .i64 1)), [decide (x > y), !decide (x < y), true, true], { next := 0, objs := [] }, [], 0) := by kernel_rfl
theorem w49_s_3 (x y : Int) : outK prog f49 20 [] (runK prog D2 F0 2000 (.code (bodyOf f49)) [] 0 ([.int .i64 x, .int .i64 y] ++ List.replicate 18 undefT) ⟨0, []⟩ (bt 4 0) [])
    = some (OutT.done (some (T.int .i64 0)), [!decide (x > y), !decide (x < y), true, true], { next := 0, objs := [] }, [], 0) := by kernel_rfl
noncomputable def o49 (x y : Int) : Option (Empty ⊕ T) :=
  if allT [decide (x < y), true, true] then some (.inr ((T.int .i64 (-1)))) else
  if allT [decide (x > y), !decide (x < y), true, true] then some (.inr ((T.int .i64 1))) else
  if allT [!decide (x > y), !decide (x < y), true, true] then some (.inr ((T.int .i64 0))) else
  none
theorem run49 (x y : Int) (cx : Cx prog D2 F0) {n : Nat} {o : Empty ⊕ T} {r : T} (h : o49 x y = some o) (hr : noM.fin n o = some r) : PureFn prog gl 49 [.int .i64 x, .int .i64 y] r := by
  refine pure_mach (M := noM) (fn := f49) (k := 20) (d := 8) (c := bodyOf f49) cx glFrz (by kernel_rfl) func49 (by kernel_rfl) rfl (by kernel_rfl) (by kernel_rfl) (L := 18) (by kernel_rfl) noM_ways (fun σ => σ.elim) ?_ hr
  unfold o49 at h
  rcases ite_or h with ⟨hk, h⟩ | h
  · cases h
    exact ⟨2000, _, _, _, _, _, _, w49_s_1 x y, hk⟩
  rcases ite_or h with ⟨hk, h⟩ | h
  · cases h
    exact ⟨2000, _, _, _, _, _, _, w49_s_2 x y, hk⟩
  rcases ite_or h with ⟨hk, h⟩ | h
  · cases h
    exact ⟨2000, _, _, _, _, _, _, w49_s_3 x y, hk⟩
  cases h

/-! ### 51 -/
set_option linter.unusedVariables false
theorem w51_s_1 (x y : Int) : outK prog f51 20 [] (runK prog D3 F0 2000 (.code (bodyOf f51)) [] 0 ([.int .i64 x, .int .i64 y] ++ List.replicate 6 undefT) ⟨0, []⟩ [] [])
    = some (OutT.done (some (T.int .i64 (cmpI x y))), [], { next := 0, objs := [] }, [], 0) := by kernel_rfl
noncomputable def o51 (x y : Int) : Option (Empty ⊕ T) :=
  if allT [] then some (.inr ((T.int .i64 (cmpI x y)))) else
  none
theorem run51 (x y : Int) (cx : Cx prog D3 F0) {n : Nat} {o : Empty ⊕ T} {r : T} (h : o51 x y = some o) (hr : noM.fin n o = some r) : PureFn prog gl 51 [.int .i64 x, .int .i64 y] r := by
  refine pure_mach (M := noM) (fn := f51) (k := 20) (d := 8) (c := bodyOf f51) cx glFrz (by kernel_rfl) func51 (by kernel_rfl) rfl (by kernel_rfl) (by kernel_rfl) (L := 6) (by kernel_rfl) noM_ways (fun σ => σ.elim) ?_ hr
  unfold o51 at h
  rcases ite_or h with ⟨hk, h⟩ | h
  · cases h
    exact ⟨2000, _, _, _, _, _, _, w51_s_1 x y, hk⟩
  cases h

/-! ### 50 -/
set_option linter.unusedVariables false
theorem w50_s_1 (n1 n2 : Nat) (f g : Nat → Int) : outK prog f50 20 [0, 1, 2, 11, 12, 13] (runK prog D4 F0 2000 (.code (bodyOf f50)) [] 0 ([isT n1 f, isT n2 g, .fn (.func 51) [] []] ++ List.replicate 36 undefT) ⟨0, []⟩ [] [])
    = some (OutT.loop 0 (loopAt f50 0).1 (loopAt f50 0).2, [], { next := 0, objs := [] }, [T.slf false n1 fun i => T.int .i64 (f i), T.slf false n2 fun i => T.int .i64 (g i), T.fn (Fn.func 51) [] [], T.slf false n1 fun i => T.int .i64 (f i), T.int .i64 (↑n1 : Int), T.int .i64 0], 39) := by kernel_rfl
theorem w50_0_1 (n1 n2 : Nat) (f g : Nat → Int) (x12 : Int) (x13 : Int) (fr : List T) : outK prog f50 20 [] (runK prog D4 F0 2000 (.code (loopAt f50 0).1) (.lp :: (loopAt f50 0).2) 0 (frK [0, 1, 2, 11, 12, 13] [T.slf false n1 fun i => T.int .i64 (f i), T.slf false n2 fun i => T.int .i64 (g i), T.fn (Fn.func 51) [] [], T.slf false n1 fun i => T.int .i64 (f i), T.int .i64 x12, T.int .i64 x13] fr 39) ⟨0, []⟩ [true, true] [])
    = some (OutT.done (some (T.int .i64 1)), [decide (x13 ≥ (↑n2 : Int)), decide (0 ≤ x13), decide (x13 < (↑n1 : Int)), true, decide (x13 < x12)], { next := 0, objs := [] }, [], 0) := by kernel_rfl
theorem w50_0_2 (n1 n2 : Nat) (f g : Nat → Int) (x12 : Int) (x13 : Int) (fr : List T) : outK prog f50 20 [] (runK prog D4 F0 2000 (.code (loopAt f50 0).1) (.lp :: (loopAt f50 0).2) 0 (frK [0, 1, 2, 11, 12, 13] [T.slf false n1 fun i => T.int .i64 (f i), T.slf false n2 fun i => T.int .i64 (g i), T.fn (Fn.func 51) [] [], T.slf false n1 fun i => T.int .i64 (f i), T.int .i64 x12, T.int .i64 x13] fr 39) ⟨0, []⟩ [true, false, true] [])
    = some (OutT.done (some (T.int .i64 (cmpI (f x13.toNat) (g x13.toNat)))), [cmpI (f x13.toNat) (g x13.toNat) != 0, decide (0 ≤ x13), decide (x13 < (↑n2 : Int)), true, !decide (x13 ≥ (↑n2 : Int)), decide (0 ≤ x13), decide (x13 < (↑n1 : Int)), true, decide (x13 < x12)], { next := 0, objs := [] }, [], 0) := by kernel_rfl
theorem w50_0_3 (n1 n2 : Nat) (f g : Nat → Int) (x12 : Int) (x13 : Int) (fr : List T) : outK prog f50 20 [0, 1, 2, 11, 12, 13] (runK prog D4 F0 2000 (.code (loopAt f50 0).1) (.lp :: (loopAt f50 0).2) 0 (frK [0, 1, 2, 11, 12, 13] [T.slf false n1 fun i => T.int .i64 (f i), T.slf false n2 fun i => T.int .i64 (g i), T.fn (Fn.func 51) [] [], T.slf false n1 fun i => T.int .i64 (f i), T.int .i64 x12, T.int .i64 x13] fr 39) ⟨0, []⟩ [true, false, false] [])
    = some (OutT.again 0, [!cmpI (f x13.toNat) (g x13.toNat) != 0, decide (0 ≤ x13), decide (x13 < (↑n2 : Int)), true, !decide (x13 ≥ (↑n2 : Int)), decide (0 ≤ x13), decide (x13 < (↑n1 : Int)), true, decide (x13 < x12)], { next := 0, objs := [] }, [T.slf false n1 fun i => T.int .i64 (f i), T.slf false n2 fun i => T.int .i64 (g i), T.fn (Fn.func 51) [] [], T.slf false n1 fun i => T.int .i64 (f i), T.int .i64 x12, T.int .i64 (IntKind.i64.wrap (x13 + 1))], 39) := by kernel_rfl
theorem w50_0_4 (n1 n2 : Nat) (f g : Nat → Int) (x12 : Int) (x13 : Int) (fr : List T) : outK prog f50 20 [] (runK prog D4 F0 2000 (.code (loopAt f50 0).1) (.lp :: (loopAt f50 0).2) 0 (frK [0, 1, 2, 11, 12, 13] [T.slf false n1 fun i => T.int .i64 (f i), T.slf false n2 fun i => T.int .i64 (g i), T.fn (Fn.func 51) [] [], T.slf false n1 fun i => T.int .i64 (f i), T.int .i64 x12, T.int .i64 x13] fr 39) ⟨0, []⟩ [false, true] [])
    = some (OutT.done (some (T.int .i64 (-1))), [decide ((↑n1 : Int) < (↑n2 : Int)), !decide (x13 < x12)], { next := 0, objs := [] }, [], 0) := by kernel_rfl
theorem w50_0_5 (n1 n2 : Nat) (f g : Nat → Int) (x12 : Int) (x13 : Int) (fr : List T) : outK prog f50 20 [] (runK prog D4 F0 2000 (.code (loopAt f50 0).1) (.lp :: (loopAt f50 0).2) 0 (frK [0, 1, 2, 11, 12, 13] [T.slf false n1 fun i => T.int .i64 (f i), T.slf false n2 fun i => T.int .i64 (g i), T.fn (Fn.func 51) [] [], T.slf false n1 fun i => T.int .i64 (f i), T.int .i64 x12, T.int .i64 x13] fr 39) ⟨0, []⟩ [false, false] [])
    = some (OutT.done (some (T.int .i64 0)), [!decide ((↑n1 : Int) < (↑n2 : Int)), !decide (x13 < x12)], { next := 0, objs := [] }, [], 0) := by kernel_rfl
inductive S50 where
  | l0 (x12 : Int) (x13 : Int)
noncomputable def step50_0 (n1 n2 : Nat) (f g : Nat → Int) (x12 : Int) (x13 : Int) : Option (S50 ⊕ T) :=
  if allT [decide (x13 ≥ (↑n2 : Int)), decide (0 ≤ x13), decide (x13 < (↑n1 : Int)), true, decide (x13 < x12)] then some (.inr ((T.int .i64 1))) else
  if allT [cmpI (f x13.toNat) (g x13.toNat) != 0, decide (0 ≤ x13), decide (x13 < (↑n2 : Int)), true, !decide (x13 ≥ (↑n2 : Int)), decide (0 ≤ x13), decide (x13 < (↑n1 : Int)), true, decide (x13 < x12)] then some (.inr ((T.int .i64 (cmpI (f x13.toNat) (g x13.toNat))))) else
  if allT [!cmpI (f x13.toNat) (g x13.toNat) != 0, decide (0 ≤ x13), decide (x13 < (↑n2 : Int)), true, !decide (x13 ≥ (↑n2 : Int)), decide (0 ≤ x13), decide (x13 < (↑n1 : Int)), true, decide (x13 < x12)] then some (.inl (.l0 x12 (IntKind.i64.wrap (x13 + 1)))) else
  if allT [decide ((↑n1 : Int) < (↑n2 : Int)), !decide (x13 < x12)] then some (.inr ((T.int .i64 (-1)))) else
  if allT [!decide ((↑n1 : Int) < (↑n2 : Int)), !decide (x13 < x12)] then some (.inr ((T.int .i64 0))) else
  none
noncomputable def step50 (n1 n2 : Nat) (f g : Nat → Int) : S50 → Option (S50 ⊕ T)
  | .l0 x12 x13 => step50_0 n1 n2 f g x12 x13
noncomputable def M50 (n1 n2 : Nat) (f g : Nat → Int) : Mch S50 where
  lp := fun σ => match σ with
    | .l0 .. => 0
  keep := fun ι => match ι with
    | 0 => [0, 1, 2, 11, 12, 13]
    | _ => []
  par := fun ι => match ι with
    | 0 => []
    | _ => []
  vs := fun σ => match σ with
    | .l0 x12 x13 => [T.slf false n1 fun i => T.int .i64 (f i), T.slf false n2 fun i => T.int .i64 (g i), T.fn (Fn.func 51) [] [], T.slf false n1 fun i => T.int .i64 (f i), T.int .i64 x12, T.int .i64 x13]
  hp := fun σ => match σ with
    | .l0 _ _ => ⟨0, []⟩
  len := 39
  step := step50 n1 n2 f g
theorem ways50 (n1 n2 : Nat) (f g : Nat → Int) : (M50 n1 n2 f g).Ways prog D4 F0 f50 20 := by
  intro σ o fr h
  cases σ with
  | l0 x12 x13 =>
    change step50_0 n1 n2 f g x12 x13 = some o at h
    unfold step50_0 at h
    rcases ite_or h with ⟨hk, h⟩ | h
    · cases h
      exact ⟨2000, _, _, _, _, _, _, w50_0_1 n1 n2 f g x12 x13 fr, hk⟩
    rcases ite_or h with ⟨hk, h⟩ | h
    · cases h
      exact ⟨2000, _, _, _, _, _, _, w50_0_2 n1 n2 f g x12 x13 fr, hk⟩
    rcases ite_or h with ⟨hk, h⟩ | h
    · cases h
      exact .inl ⟨2000, _, _, _, w50_0_3 n1 n2 f g x12 x13 fr, hk, rfl⟩
    rcases ite_or h with ⟨hk, h⟩ | h
    · cases h
      exact ⟨2000, _, _, _, _, _, _, w50_0_4 n1 n2 f g x12 x13 fr, hk⟩
    rcases ite_or h with ⟨hk, h⟩ | h
    · cases h
      exact ⟨2000, _, _, _, _, _, _, w50_0_5 n1 n2 f g x12 x13 fr, hk⟩
    cases h
theorem oks50 (n1 n2 : Nat) (f g : Nat → Int) : ∀ σ, codeOk (loopAt f50 ((M50 n1 n2 f g).lp σ)).1 = true ∧ ksOk (.lp :: (loopAt f50 ((M50 n1 n2 f g).lp σ)).2) = true := by
  intro σ
  cases σ
  · exact ⟨(show codeOk (loopAt f50 0).1 = true by kernel_rfl), (show ksOk (.lp :: (loopAt f50 0).2) = true by kernel_rfl)⟩
noncomputable def o50 (n1 n2 : Nat) (f g : Nat → Int) : Option (S50 ⊕ T) :=
  if allT [] then some (.inl (.l0 (↑n1 : Int) 0)) else
  none
theorem run50 (n1 n2 : Nat) (f g : Nat → Int) (cx : Cx prog D4 F0) {n : Nat} {o : S50 ⊕ T} {r : T} (h : o50 n1 n2 f g = some o) (hr : (M50 n1 n2 f g).fin n o = some r) : PureFn prog gl 50 [isT n1 f, isT n2 g, .fn (.func 51) [] []] r := by
  refine pure_mach (M := (M50 n1 n2 f g)) (fn := f50) (k := 20) (d := 8) (c := bodyOf f50) cx glFrz (by kernel_rfl) func50 (by kernel_rfl) rfl (by kernel_rfl) (by kernel_rfl) (L := 36) (by kernel_rfl) (ways50 n1 n2 f g) (oks50 n1 n2 f g) ?_ hr
  unfold o50 at h
  rcases ite_or h with ⟨hk, h⟩ | h
  · cases h
    exact .inr ⟨2000, _, _, _, w50_s_1 n1 n2 f g, hk, rfl⟩
  cases h

/-! ### 33 -/
set_option linter.unusedVariables false
theorem w33_s_1 (a b : Sp) : outK prog f33 20 [] (runK prog D5 F0 2000 (.code (bodyOf f33)) [] 0 ([spT a, spT b] ++ List.replicate 15 undefT) ⟨0, []⟩ [] [])
    = some (OutT.done (some (T.int .i64 (if cmpI a.entry b.entry ≠ 0 then cmpI a.entry b.entry else cmpP a.n a.at_ b.n b.at_))), [isV (T.slf false a.n fun i => T.int .i64 (a.at_ i)) (isT a.n a.at_), isV (T.slf false b.n fun i => T.int .i64 (b.at_ i)) (isT b.n b.at_), decide (a.n ≤ 281474976710656)], { next := 0, objs := [] }, [], 0) := by kernel_rfl
noncomputable def o33 (a b : Sp) : Option (Empty ⊕ T) :=
  if allT [isV (T.slf false a.n fun i => T.int .i64 (a.at_ i)) (isT a.n a.at_), isV (T.slf false b.n fun i => T.int .i64 (b.at_ i)) (isT b.n b.at_), decide (a.n ≤ 281474976710656)] then some (.inr ((T.int .i64 (if cmpI a.entry b.entry ≠ 0 then cmpI a.entry b.entry else cmpP a.n a.at_ b.n b.at_)))) else
  none
theorem run33 (a b : Sp) (cx : Cx prog D5 F0) {n : Nat} {o : Empty ⊕ T} {r : T} (h : o33 a b = some o) (hr : noM.fin n o = some r) : PureFn prog gl 33 [spT a, spT b] r := by
  refine pure_mach (M := noM) (fn := f33) (k := 20) (d := 8) (c := bodyOf f33) cx glFrz (by kernel_rfl) func33 (by kernel_rfl) rfl (by kernel_rfl) (by kernel_rfl) (L := 15) (by kernel_rfl) noM_ways (fun σ => σ.elim) ?_ hr
  unfold o33 at h
  rcases ite_or h with ⟨hk, h⟩ | h
  · cases h
    exact ⟨2000, _, _, _, _, _, _, w33_s_1 a b, hk⟩
  cases h

/-! ### 62 -/
set_option linter.unusedVariables false
theorem w62_s_1 (a b : Sp) : outK prog f62 20 [] (runK prog D6 F0 2000 (.code (bodyOf f62)) [] 0 ([spT a, spT b] ++ List.replicate 7 undefT) ⟨0, []⟩ [] [])
    = some (OutT.done (some (T.bool (cmpS a b == 0))), [isV (spT a) (spT a), isV (spT b) (spT b), decide (a.n ≤ 281474976710656)], { next := 0, objs := [] }, [], 0) := by kernel_rfl
noncomputable def o62 (a b : Sp) : Option (Empty ⊕ T) :=
  if allT [isV (spT a) (spT a), isV (spT b) (spT b), decide (a.n ≤ 281474976710656)] then some (.inr ((T.bool (cmpS a b == 0)))) else
  none
theorem run62 (a b : Sp) (cx : Cx prog D6 F0) {n : Nat} {o : Empty ⊕ T} {r : T} (h : o62 a b = some o) (hr : noM.fin n o = some r) : PureFn prog gl 62 [spT a, spT b] r := by
  refine pure_mach (M := noM) (fn := f62) (k := 20) (d := 8) (c := bodyOf f62) cx glFrz (by kernel_rfl) func62 (by kernel_rfl) rfl (by kernel_rfl) (by kernel_rfl) (L := 7) (by kernel_rfl) noM_ways (fun σ => σ.elim) ?_ hr
  unfold o62 at h
  rcases ite_or h with ⟨hk, h⟩ | h
  · cases h
    exact ⟨2000, _, _, _, _, _, _, w62_s_1 a b, hk⟩
  cases h

/-! ### 53 -/
set_option linter.unusedVariables false
theorem w53_s_1 (x : Ln) (b : Sp) : outK prog f53 20 [] (runK prog D6 F0 2000 (.code (bodyOf f53)) [] 0 ([lnT x, spT b] ++ List.replicate 7 undefT) ⟨0, []⟩ [] [])
    = some (OutT.done (some (T.int .i64 (cmpS x.st b))), [isV (spT x.st) (spT x.st), isV (spT b) (spT b), decide (x.st.n ≤ 281474976710656)], { next := 0, objs := [] }, [], 0) := by kernel_rfl
noncomputable def o53 (x : Ln) (b : Sp) : Option (Empty ⊕ T) :=
  if allT [isV (spT x.st) (spT x.st), isV (spT b) (spT b), decide (x.st.n ≤ 281474976710656)] then some (.inr ((T.int .i64 (cmpS x.st b)))) else
  none
theorem run53 (x : Ln) (b : Sp) (cx : Cx prog D6 F0) {n : Nat} {o : Empty ⊕ T} {r : T} (h : o53 x b = some o) (hr : noM.fin n o = some r) : PureFn prog gl 53 [lnT x, spT b] r := by
  refine pure_mach (M := noM) (fn := f53) (k := 20) (d := 8) (c := bodyOf f53) cx glFrz (by kernel_rfl) func53 (by kernel_rfl) rfl (by kernel_rfl) (by kernel_rfl) (L := 7) (by kernel_rfl) noM_ways (fun σ => σ.elim) ?_ hr
  unfold o53 at h
  rcases ite_or h with ⟨hk, h⟩ | h
  · cases h
    exact ⟨2000, _, _, _, _, _, _, w53_s_1 x b, hk⟩
  cases h

/-! ### 54 -/
set_option linter.unusedVariables false
theorem w54a_s_1 (m : Nat) (f : Nat → Int) : outK prog f54 20 [0, 1, 7, 8] (runK prog D2 F0 2000 (.code (bodyOf f54)) [] 0 ([isT m f, .fn (.func 47) [] []] ++ List.replicate 17 undefT) ⟨0, []⟩ [] [])
    = some (OutT.loop 0 (loopAt f54 0).1 (loopAt f54 0).2, [], { next := 0, objs := [] }, [T.slf false m fun i => T.int .i64 (f i), T.fn (Fn.func 47) [] [], T.int .i64 (↑m : Int), T.int .i64 0], 19) := by kernel_rfl
theorem w54a_0_1 (m : Nat) (f : Nat → Int) (x7 : Int) (x8 : Int) (fr : List T) : outK prog f54 20 [] (runK prog D2 F0 2000 (.code (loopAt f54 0).1) (.lp :: (loopAt f54 0).2) 0 (frK [0, 1, 7, 8] [T.slf false m fun i => T.int .i64 (f i), T.fn (Fn.func 47) [] [], T.int .i64 x7, T.int .i64 x8] fr 19) ⟨0, []⟩ [true, true] [])
    = some (OutT.done (some (T.int .i64 x8)), [bad (f x8.toNat), decide (0 ≤ x8), decide (x8 < (↑m : Int)), true, decide (x8 < x7)], { next := 0, objs := [] }, [], 0) := by kernel_rfl
theorem w54a_0_2 (m : Nat) (f : Nat → Int) (x7 : Int) (x8 : Int) (fr : List T) : outK prog f54 20 [0, 1, 7, 8] (runK prog D2 F0 2000 (.code (loopAt f54 0).1) (.lp :: (loopAt f54 0).2) 0 (frK [0, 1, 7, 8] [T.slf false m fun i => T.int .i64 (f i), T.fn (Fn.func 47) [] [], T.int .i64 x7, T.int .i64 x8] fr 19) ⟨0, []⟩ [true, false] [])
    = some (OutT.again 0, [!bad (f x8.toNat), decide (0 ≤ x8), decide (x8 < (↑m : Int)), true, decide (x8 < x7)], { next := 0, objs := [] }, [T.slf false m fun i => T.int .i64 (f i), T.fn (Fn.func 47) [] [], T.int .i64 x7, T.int .i64 (IntKind.i64.wrap (x8 + 1))], 19) := by kernel_rfl
theorem w54a_0_3 (m : Nat) (f : Nat → Int) (x7 : Int) (x8 : Int) (fr : List T) : outK prog f54 20 [] (runK prog D2 F0 2000 (.code (loopAt f54 0).1) (.lp :: (loopAt f54 0).2) 0 (frK [0, 1, 7, 8] [T.slf false m fun i => T.int .i64 (f i), T.fn (Fn.func 47) [] [], T.int .i64 x7, T.int .i64 x8] fr 19) ⟨0, []⟩ [false] [])
    = some (OutT.done (some (T.int .i64 (-1))), [!decide (x8 < x7)], { next := 0, objs := [] }, [], 0) := by kernel_rfl
inductive S54a where
  | l0 (x7 : Int) (x8 : Int)
noncomputable def step54a_0 (m : Nat) (f : Nat → Int) (x7 : Int) (x8 : Int) : Option (S54a ⊕ T) :=
  if allT [bad (f x8.toNat), decide (0 ≤ x8), decide (x8 < (↑m : Int)), true, decide (x8 < x7)] then some (.inr ((T.int .i64 x8))) else
  if allT [!bad (f x8.toNat), decide (0 ≤ x8), decide (x8 < (↑m : Int)), true, decide (x8 < x7)] then some (.inl (.l0 x7 (IntKind.i64.wrap (x8 + 1)))) else
  if allT [!decide (x8 < x7)] then some (.inr ((T.int .i64 (-1)))) else
  none
noncomputable def step54a (m : Nat) (f : Nat → Int) : S54a → Option (S54a ⊕ T)
  | .l0 x7 x8 => step54a_0 m f x7 x8
noncomputable def M54a (m : Nat) (f : Nat → Int) : Mch S54a where
  lp := fun σ => match σ with
    | .l0 .. => 0
  keep := fun ι => match ι with
    | 0 => [0, 1, 7, 8]
    | _ => []
  par := fun ι => match ι with
    | 0 => []
    | _ => []
  vs := fun σ => match σ with
    | .l0 x7 x8 => [T.slf false m fun i => T.int .i64 (f i), T.fn (Fn.func 47) [] [], T.int .i64 x7, T.int .i64 x8]
  hp := fun σ => match σ with
    | .l0 _ _ => ⟨0, []⟩
  len := 19
  step := step54a m f
theorem ways54a (m : Nat) (f : Nat → Int) : (M54a m f).Ways prog D2 F0 f54 20 := by
  intro σ o fr h
  cases σ with
  | l0 x7 x8 =>
    change step54a_0 m f x7 x8 = some o at h
    unfold step54a_0 at h
    rcases ite_or h with ⟨hk, h⟩ | h
    · cases h
      exact ⟨2000, _, _, _, _, _, _, w54a_0_1 m f x7 x8 fr, hk⟩
    rcases ite_or h with ⟨hk, h⟩ | h
    · cases h
      exact .inl ⟨2000, _, _, _, w54a_0_2 m f x7 x8 fr, hk, rfl⟩
    rcases ite_or h with ⟨hk, h⟩ | h
    · cases h
      exact ⟨2000, _, _, _, _, _, _, w54a_0_3 m f x7 x8 fr, hk⟩
    cases h
theorem oks54a (m : Nat) (f : Nat → Int) : ∀ σ, codeOk (loopAt f54 ((M54a m f).lp σ)).1 = true ∧ ksOk (.lp :: (loopAt f54 ((M54a m f).lp σ)).2) = true := by
  intro σ
  cases σ
  · exact ⟨(show codeOk (loopAt f54 0).1 = true by kernel_rfl), (show ksOk (.lp :: (loopAt f54 0).2) = true by kernel_rfl)⟩
noncomputable def o54a (m : Nat) (f : Nat → Int) : Option (S54a ⊕ T) :=
  if allT [] then some (.inl (.l0 (↑m : Int) 0)) else
  none
theorem run54a (m : Nat) (f : Nat → Int) (cx : Cx prog D2 F0) {n : Nat} {o : S54a ⊕ T} {r : T} (h : o54a m f = some o) (hr : (M54a m f).fin n o = some r) : PureFn prog gl 54 [isT m f, .fn (.func 47) [] []] r := by
  refine pure_mach (M := (M54a m f)) (fn := f54) (k := 20) (d := 8) (c := bodyOf f54) cx glFrz (by kernel_rfl) func54 (by kernel_rfl) rfl (by kernel_rfl) (by kernel_rfl) (L := 17) (by kernel_rfl) (ways54a m f) (oks54a m f) ?_ hr
  unfold o54a at h
  rcases ite_or h with ⟨hk, h⟩ | h
  · cases h
    exact .inr ⟨2000, _, _, _, w54a_s_1 m f, hk, rfl⟩
  cases h

/-! ### 54 -/
set_option linter.unusedVariables false
theorem w54b_s_1 (m : Nat) (f : Nat → Int) (c : Ct) : outK prog f54 20 [0, 1, 7, 8] (runK prog D2 F0 2000 (.code (bodyOf f54)) [] 0 ([isT m f, .fn (.func 39) [] [.ref (ctT c) 0]] ++ List.replicate 17 undefT) ⟨0, []⟩ [] [])
    = some (OutT.loop 0 (loopAt f54 0).1 (loopAt f54 0).2, [], { next := 0, objs := [] }, [T.slf false m fun i => T.int .i64 (f i), T.fn (Fn.func 39) [] [(ctT c).ref 0], T.int .i64 (↑m : Int), T.int .i64 0], 19) := by kernel_rfl
theorem w54b_0_1 (m : Nat) (f : Nat → Int) (c : Ct) (x7 : Int) (x8 : Int) (fr : List T) : outK prog f54 20 [] (runK prog D2 F0 2000 (.code (loopAt f54 0).1) (.lp :: (loopAt f54 0).2) 0 (frK [0, 1, 7, 8] [T.slf false m fun i => T.int .i64 (f i), T.fn (Fn.func 39) [] [(ctT c).ref 0], T.int .i64 x7, T.int .i64 x8] fr 19) ⟨0, []⟩ [true, true] [])
    = some (OutT.done (some (T.int .i64 x8)), [(↑(c.line (f x8.toNat).toNat).k : Int) != 1, isV (ctT c) (ctT c), decide (0 ≤ f x8.toNat), decide (f x8.toNat < (↑c.n : Int)), decide (0 ≤ x8), decide (x8 < (↑m : Int)), true, decide (x8 < x7)], { next := 0, objs := [] }, [], 0) := by kernel_rfl
theorem w54b_0_2 (m : Nat) (f : Nat → Int) (c : Ct) (x7 : Int) (x8 : Int) (fr : List T) : outK prog f54 20 [0, 1, 7, 8] (runK prog D2 F0 2000 (.code (loopAt f54 0).1) (.lp :: (loopAt f54 0).2) 0 (frK [0, 1, 7, 8] [T.slf false m fun i => T.int .i64 (f i), T.fn (Fn.func 39) [] [(ctT c).ref 0], T.int .i64 x7, T.int .i64 x8] fr 19) ⟨0, []⟩ [true, false] [])
    = some (OutT.again 0, [!(↑(c.line (f x8.toNat).toNat).k : Int) != 1, isV (ctT c) (ctT c), decide (0 ≤ f x8.toNat), decide (f x8.toNat < (↑c.n : Int)), decide (0 ≤ x8), decide (x8 < (↑m : Int)), true, decide (x8 < x7)], { next := 0, objs := [] }, [T.slf false m fun i => T.int .i64 (f i), T.fn (Fn.func 39) [] [(ctT c).ref 0], T.int .i64 x7, T.int .i64 (IntKind.i64.wrap (x8 + 1))], 19) := by kernel_rfl
theorem w54b_0_3 (m : Nat) (f : Nat → Int) (c : Ct) (x7 : Int) (x8 : Int) (fr : List T) : outK prog f54 20 [] (runK prog D2 F0 2000 (.code (loopAt f54 0).1) (.lp :: (loopAt f54 0).2) 0 (frK [0, 1, 7, 8] [T.slf false m fun i => T.int .i64 (f i), T.fn (Fn.func 39) [] [(ctT c).ref 0], T.int .i64 x7, T.int .i64 x8] fr 19) ⟨0, []⟩ [false] [])
    = some (OutT.done (some (T.int .i64 (-1))), [!decide (x8 < x7)], { next := 0, objs := [] }, [], 0) := by kernel_rfl
inductive S54b where
  | l0 (x7 : Int) (x8 : Int)
noncomputable def step54b_0 (m : Nat) (f : Nat → Int) (c : Ct) (x7 : Int) (x8 : Int) : Option (S54b ⊕ T) :=
  if allT [(↑(c.line (f x8.toNat).toNat).k : Int) != 1, isV (ctT c) (ctT c), decide (0 ≤ f x8.toNat), decide (f x8.toNat < (↑c.n : Int)), decide (0 ≤ x8), decide (x8 < (↑m : Int)), true, decide (x8 < x7)] then some (.inr ((T.int .i64 x8))) else
  if allT [!(↑(c.line (f x8.toNat).toNat).k : Int) != 1, isV (ctT c) (ctT c), decide (0 ≤ f x8.toNat), decide (f x8.toNat < (↑c.n : Int)), decide (0 ≤ x8), decide (x8 < (↑m : Int)), true, decide (x8 < x7)] then some (.inl (.l0 x7 (IntKind.i64.wrap (x8 + 1)))) else
  if allT [!decide (x8 < x7)] then some (.inr ((T.int .i64 (-1)))) else
  none
noncomputable def step54b (m : Nat) (f : Nat → Int) (c : Ct) : S54b → Option (S54b ⊕ T)
  | .l0 x7 x8 => step54b_0 m f c x7 x8
noncomputable def M54b (m : Nat) (f : Nat → Int) (c : Ct) : Mch S54b where
  lp := fun σ => match σ with
    | .l0 .. => 0
  keep := fun ι => match ι with
    | 0 => [0, 1, 7, 8]
    | _ => []
  par := fun ι => match ι with
    | 0 => []
    | _ => []
  vs := fun σ => match σ with
    | .l0 x7 x8 => [T.slf false m fun i => T.int .i64 (f i), T.fn (Fn.func 39) [] [(ctT c).ref 0], T.int .i64 x7, T.int .i64 x8]
  hp := fun σ => match σ with
    | .l0 _ _ => ⟨0, []⟩
  len := 19
  step := step54b m f c
theorem ways54b (m : Nat) (f : Nat → Int) (c : Ct) : (M54b m f c).Ways prog D2 F0 f54 20 := by
  intro σ o fr h
  cases σ with
  | l0 x7 x8 =>
    change step54b_0 m f c x7 x8 = some o at h
    unfold step54b_0 at h
    rcases ite_or h with ⟨hk, h⟩ | h
    · cases h
      exact ⟨2000, _, _, _, _, _, _, w54b_0_1 m f c x7 x8 fr, hk⟩
    rcases ite_or h with ⟨hk, h⟩ | h
    · cases h
      exact .inl ⟨2000, _, _, _, w54b_0_2 m f c x7 x8 fr, hk, rfl⟩
    rcases ite_or h with ⟨hk, h⟩ | h
    · cases h
      exact ⟨2000, _, _, _, _, _, _, w54b_0_3 m f c x7 x8 fr, hk⟩
    cases h
theorem oks54b (m : Nat) (f : Nat → Int) (c : Ct) : ∀ σ, codeOk (loopAt f54 ((M54b m f c).lp σ)).1 = true ∧ ksOk (.lp :: (loopAt f54 ((M54b m f c).lp σ)).2) = true := by
  intro σ
  cases σ
  · exact ⟨(show codeOk (loopAt f54 0).1 = true by kernel_rfl), (show ksOk (.lp :: (loopAt f54 0).2) = true by kernel_rfl)⟩
noncomputable def o54b (m : Nat) (f : Nat → Int) (c : Ct) : Option (S54b ⊕ T) :=
  if allT [] then some (.inl (.l0 (↑m : Int) 0)) else
  none
theorem run54b (m : Nat) (f : Nat → Int) (c : Ct) (cx : Cx prog D2 F0) {n : Nat} {o : S54b ⊕ T} {r : T} (h : o54b m f c = some o) (hr : (M54b m f c).fin n o = some r) : PureFn prog gl 54 [isT m f, .fn (.func 39) [] [.ref (ctT c) 0]] r := by
  refine pure_mach (M := (M54b m f c)) (fn := f54) (k := 20) (d := 8) (c := bodyOf f54) cx glFrz (by kernel_rfl) func54 (by kernel_rfl) rfl (by kernel_rfl) (by kernel_rfl) (L := 17) (by kernel_rfl) (ways54b m f c) (oks54b m f c) ?_ hr
  unfold o54b at h
  rcases ite_or h with ⟨hk, h⟩ | h
  · cases h
    exact .inr ⟨2000, _, _, _, w54b_s_1 m f c, hk, rfl⟩
  cases h

/-! ### 38 -/
set_option linter.unusedVariables false
theorem w38a_s_1 (m : Nat) (f : Nat → Int) : outK prog f38 20 [] (runK prog D7 F0 2000 (.code (bodyOf f38)) [] 0 ([isT m f, .fn (.func 47) [] []] ++ List.replicate 7 undefT) ⟨0, []⟩ [] [])
    = some (OutT.done (some (T.bool (decide ((idx m fun i => bad (f i)) ≥ 0)))), [isV (T.slf false m fun i => T.int .i64 (f i)) (isT m f), decide (m ≤ 281474976710656)], { next := 0, objs := [] }, [], 0) := by kernel_rfl
noncomputable def o38a (m : Nat) (f : Nat → Int) : Option (Empty ⊕ T) :=
  if allT [isV (T.slf false m fun i => T.int .i64 (f i)) (isT m f), decide (m ≤ 281474976710656)] then some (.inr ((T.bool (decide ((idx m fun i => bad (f i)) ≥ 0))))) else
  none
theorem run38a (m : Nat) (f : Nat → Int) (cx : Cx prog D7 F0) {n : Nat} {o : Empty ⊕ T} {r : T} (h : o38a m f = some o) (hr : noM.fin n o = some r) : PureFn prog gl 38 [isT m f, .fn (.func 47) [] []] r := by
  refine pure_mach (M := noM) (fn := f38) (k := 20) (d := 8) (c := bodyOf f38) cx glFrz (by kernel_rfl) func38 (by kernel_rfl) rfl (by kernel_rfl) (by kernel_rfl) (L := 7) (by kernel_rfl) noM_ways (fun σ => σ.elim) ?_ hr
  unfold o38a at h
  rcases ite_or h with ⟨hk, h⟩ | h
  · cases h
    exact ⟨2000, _, _, _, _, _, _, w38a_s_1 m f, hk⟩
  cases h

/-! ### 38 -/
set_option linter.unusedVariables false
theorem w38b_s_1 (m : Nat) (f : Nat → Int) (c : Ct) : outK prog f38 20 [] (runK prog D7 F0 2000 (.code (bodyOf f38)) [] 0 ([isT m f, .fn (.func 39) [] [.ref (ctT c) 0]] ++ List.replicate 7 undefT) ⟨0, []⟩ [] [])
    = some (OutT.done (some (T.bool (decide ((idx m fun i => (↑(c.line (f i).toNat).k : Int) != 1) ≥ 0)))), [isV (T.slf false m fun i => T.int .i64 (f i)) (isT m f), isV (ctT c) (ctT c), decide (m ≤ 281474976710656), decide (∀ (i : Nat), i < m → 0 ≤ f i ∧ f i < (↑c.n : Int))], { next := 0, objs := [] }, [], 0) := by kernel_rfl
noncomputable def o38b (m : Nat) (f : Nat → Int) (c : Ct) : Option (Empty ⊕ T) :=
  if allT [isV (T.slf false m fun i => T.int .i64 (f i)) (isT m f), isV (ctT c) (ctT c), decide (m ≤ 281474976710656), decide (∀ (i : Nat), i < m → 0 ≤ f i ∧ f i < (↑c.n : Int))] then some (.inr ((T.bool (decide ((idx m fun i => (↑(c.line (f i).toNat).k : Int) != 1) ≥ 0))))) else
  none
theorem run38b (m : Nat) (f : Nat → Int) (c : Ct) (cx : Cx prog D7 F0) {n : Nat} {o : Empty ⊕ T} {r : T} (h : o38b m f c = some o) (hr : noM.fin n o = some r) : PureFn prog gl 38 [isT m f, .fn (.func 39) [] [.ref (ctT c) 0]] r := by
  refine pure_mach (M := noM) (fn := f38) (k := 20) (d := 8) (c := bodyOf f38) cx glFrz (by kernel_rfl) func38 (by kernel_rfl) rfl (by kernel_rfl) (by kernel_rfl) (L := 7) (by kernel_rfl) noM_ways (fun σ => σ.elim) ?_ hr
  unfold o38b at h
  rcases ite_or h with ⟨hk, h⟩ | h
  · cases h
    exact ⟨2000, _, _, _, _, _, _, w38b_s_1 m f c, hk⟩
  cases h

/-! ### 32 -/
set_option linter.unusedVariables false
theorem w32_s_1 (s : Sp) : outK prog f32 20 [] (runK prog D8 F0 2000 (.code (bodyOf f32)) [] 0 ([spT s] ++ List.replicate 48 undefT) ⟨0, []⟩ (bt 5 31) [])
    = some (OutT.done (some (T.int .i64 2)), [true, decide (s.entry < 1), decide (s.entry < 1), decide (s.entry < 1), decide (s.entry < 1)], { next := 0, objs := [] }, [], 0) := by kernel_rfl
theorem w32_s_2 (s : Sp) : outK prog f32 20 [] (runK prog D8 F0 2000 (.code (bodyOf f32)) [] 0 ([spT s] ++ List.replicate 48 undefT) ⟨0, []⟩ (bt 5 16) [])
    = some (OutT.done (some (T.int .i64 2)), [decide (s.entry > 1048576), !decide (s.entry < 1), !decide (s.entry < 1), !decide (s.entry < 1), !decide (s.entry < 1)], { next := 0, objs := [] }, [], 0) := by kernel_rfl
theorem w32_s_3 (s : Sp) : outK prog f32 20 [] (runK prog D8 F0 2000 (.code (bodyOf f32)) [] 0 ([spT s] ++ List.replicate 48 undefT) ⟨0, []⟩ (bt 6 32) [])
    = some (OutT.done (some (T.int .i64 4)), [(↑s.n : Int) == 0, !decide (s.entry > 1048576), !decide (s.entry < 1), !decide (s.entry < 1), !decide (s.entry < 1), !decide (s.entry < 1)], { next := 0, objs := [] }, [], 0) := by kernel_rfl
theorem w32_s_4 (s : Sp) : outK prog f32 20 [] (runK prog D8 F0 2000 (.code (bodyOf f32)) [] 0 ([spT s] ++ List.replicate 48 undefT) ⟨0, []⟩ (bt 7 64) [])
    = some (OutT.done (some (T.int .i64 9)), [decide ((↑s.n : Int) > 512), !(↑s.n : Int) == 0, !decide (s.entry > 1048576), !decide (s.entry < 1), !decide (s.entry < 1), !decide (s.entry < 1), !decide (s.entry < 1)], { next := 0, objs := [] }, [], 0) := by kernel_rfl
theorem w32_s_5 (s : Sp) : outK prog f32 20 [] (runK prog D8 F0 2000 (.code (bodyOf f32)) [] 0 ([spT s] ++ List.replicate 48 undefT) ⟨0, []⟩ (bt 8 128) [])
    = some (OutT.done (some (T.int .i64 2)), [any s.n fun i => bad (s.at_ i), isV (T.slf false s.n fun i => T.int .i64 (s.at_ i)) (isT s.n s.at_), decide (s.n ≤ 281474976710656), !decide ((↑s.n : Int) > 512), !(↑s.n : Int) == 0, !decide (s.entry > 1048576), !decide (s.entry < 1), !decide (s.entry < 1), !decide (s.entry < 1), !decide (s.entry < 1)], { next := 0, objs := [] }, [], 0) := by kernel_rfl
theorem w32_s_6 (s : Sp) : outK prog f32 20 [] (runK prog D8 F0 2000 (.code (bodyOf f32)) [] 0 ([spT s] ++ List.replicate 48 undefT) ⟨0, []⟩ (bt 9 256) [])
    = some (OutT.done (some (T.int .i64 11)), [decide (s.at_ 0 > 1), true, decide (0 < (↑s.n : Int)), true, !any s.n fun i => bad (s.at_ i), isV (T.slf false s.n fun i => T.int .i64 (s.at_ i)) (isT s.n s.at_), decide (s.n ≤ 281474976710656), !decide ((↑s.n : Int) > 512), !(↑s.n : Int) == 0, !decide (s.entry > 1048576), !decide (s.entry < 1), !decide (s.entry < 1), !decide (s.entry < 1), !decide (s.entry < 1)], { next := 0, objs := [] }, [], 0) := by kernel_rfl
theorem w32_s_7 (s : Sp) : outK prog f32 20 [] (runK prog D8 F0 2000 (.code (bodyOf f32)) [] 0 ([spT s] ++ List.replicate 48 undefT) ⟨0, []⟩ (bt 10 512) [])
    = some (OutT.done (some (T.int .i64 0)), [s.at_ 0 == 1, true, decide (0 < (↑s.n : Int)), true, !decide (s.at_ 0 > 1), true, decide (0 < (↑s.n : Int)), true, !any s.n fun i => bad (s.at_ i), isV (T.slf false s.n fun i => T.int .i64 (s.at_ i)) (isT s.n s.at_), decide (s.n ≤ 281474976710656), !decide ((↑s.n : Int) > 512), !(↑s.n : Int) == 0, !decide (s.entry > 1048576), !decide (s.entry < 1), !decide (s.entry < 1), !decide (s.entry < 1), !decide (s.entry < 1)], { next := 0, objs := [] }, [], 0) := by kernel_rfl
theorem w32_s_8 (s : Sp) : outK prog f32 20 [] (runK prog D8 F0 2000 (.code (bodyOf f32)) [] 0 ([spT s] ++ List.replicate 48 undefT) ⟨0, []⟩ (bt 11 1024) [])
    = some (OutT.done (some (T.int .i64 4)), [(↑s.n : Int) == 1, !s.at_ 0 == 1, true, decide (0 < (↑s.n : Int)), true, !decide (s.at_ 0 > 1), true, decide (0 < (↑s.n : Int)), true, !any s.n fun i => bad (s.at_ i), isV (T.slf false s.n fun i => T.int .i64 (s.at_ i)) (isT s.n s.at_), decide (s.n ≤ 281474976710656), !decide ((↑s.n : Int) > 512), !(↑s.n : Int) == 0, !decide (s.entry > 1048576), !decide (s.entry < 1), !decide (s.entry < 1), !decide (s.entry < 1), !decide (s.entry < 1)], { next := 0, objs := [] }, [], 0) := by kernel_rfl
theorem w32_s_9 (s : Sp) : outK prog f32 20 [] (runK prog D8 F0 2000 (.code (bodyOf f32)) [] 0 ([spT s] ++ List.replicate 48 undefT) ⟨0, []⟩ (bt 12 2048) [])
    = some (OutT.done (some (T.int .i64 2)), [decide (s.at_ 1 ≥ 128), true, decide (1 < (↑s.n : Int)), true, !(↑s.n : Int) == 1, !s.at_ 0 == 1, true, decide (0 < (↑s.n : Int)), true, !decide (s.at_ 0 > 1), true, decide (0 < (↑s.n : Int)), true, !any s.n fun i => bad (s.at_ i), isV (T.slf false s.n fun i => T.int .i64 (s.at_ i)) (isT s.n s.at_), decide (s.n ≤ 281474976710656), !decide ((↑s.n : Int) > 512), !(↑s.n : Int) == 0, !decide (s.entry > 1048576), !decide (s.entry < 1), !decide (s.entry < 1), !decide (s.entry < 1), !decide (s.entry < 1)], { next := 0, objs := [] }, [], 0) := by kernel_rfl
theorem w32_s_10 (s : Sp) : outK prog f32 20 [] (runK prog D8 F0 2000 (.code (bodyOf f32)) [] 0 ([spT s] ++ List.replicate 48 undefT) ⟨0, []⟩ (bt 12 0) [])
    = some (OutT.done (some (T.int .i64 0)), [!decide (s.at_ 1 ≥ 128), true, decide (1 < (↑s.n : Int)), true, !(↑s.n : Int) == 1, !s.at_ 0 == 1, true, decide (0 < (↑s.n : Int)), true, !decide (s.at_ 0 > 1), true, decide (0 < (↑s.n : Int)), true, !any s.n fun i => bad (s.at_ i), isV (T.slf false s.n fun i => T.int .i64 (s.at_ i)) (isT s.n s.at_), decide (s.n ≤ 281474976710656), !decide ((↑s.n : Int) > 512), !(↑s.n : Int) == 0, !decide (s.entry > 1048576), !decide (s.entry < 1), !decide (s.entry < 1), !decide (s.entry < 1), !decide (s.entry < 1)], { next := 0, objs := [] }, [], 0) := by kernel_rfl
noncomputable def o32 (s : Sp) : Option (Empty ⊕ T) :=
  if allT [true, decide (s.entry < 1), decide (s.entry < 1), decide (s.entry < 1), decide (s.entry < 1)] then some (.inr ((T.int .i64 2))) else
  if allT [decide (s.entry > 1048576), !decide (s.entry < 1), !decide (s.entry < 1), !decide (s.entry < 1), !decide (s.entry < 1)] then some (.inr ((T.int .i64 2))) else
  if allT [(↑s.n : Int) == 0, !decide (s.entry > 1048576), !decide (s.entry < 1), !decide (s.entry < 1), !decide (s.entry < 1), !decide (s.entry < 1)] then some (.inr ((T.int .i64 4))) else
  if allT [decide ((↑s.n : Int) > 512), !(↑s.n : Int) == 0, !decide (s.entry > 1048576), !decide (s.entry < 1), !decide (s.entry < 1), !decide (s.entry < 1), !decide (s.entry < 1)] then some (.inr ((T.int .i64 9))) else
  if allT [any s.n fun i => bad (s.at_ i), isV (T.slf false s.n fun i => T.int .i64 (s.at_ i)) (isT s.n s.at_), decide (s.n ≤ 281474976710656), !decide ((↑s.n : Int) > 512), !(↑s.n : Int) == 0, !decide (s.entry > 1048576), !decide (s.entry < 1), !decide (s.entry < 1), !decide (s.entry < 1), !decide (s.entry < 1)] then some (.inr ((T.int .i64 2))) else
  if allT [decide (s.at_ 0 > 1), true, decide (0 < (↑s.n : Int)), true, !any s.n fun i => bad (s.at_ i), isV (T.slf false s.n fun i => T.int .i64 (s.at_ i)) (isT s.n s.at_), decide (s.n ≤ 281474976710656), !decide ((↑s.n : Int) > 512), !(↑s.n : Int) == 0, !decide (s.entry > 1048576), !decide (s.entry < 1), !decide (s.entry < 1), !decide (s.entry < 1), !decide (s.entry < 1)] then some (.inr ((T.int .i64 11))) else
  if allT [s.at_ 0 == 1, true, decide (0 < (↑s.n : Int)), true, !decide (s.at_ 0 > 1), true, decide (0 < (↑s.n : Int)), true, !any s.n fun i => bad (s.at_ i), isV (T.slf false s.n fun i => T.int .i64 (s.at_ i)) (isT s.n s.at_), decide (s.n ≤ 281474976710656), !decide ((↑s.n : Int) > 512), !(↑s.n : Int) == 0, !decide (s.entry > 1048576), !decide (s.entry < 1), !decide (s.entry < 1), !decide (s.entry < 1), !decide (s.entry < 1)] then some (.inr ((T.int .i64 0))) else
  if allT [(↑s.n : Int) == 1, !s.at_ 0 == 1, true, decide (0 < (↑s.n : Int)), true, !decide (s.at_ 0 > 1), true, decide (0 < (↑s.n : Int)), true, !any s.n fun i => bad (s.at_ i), isV (T.slf false s.n fun i => T.int .i64 (s.at_ i)) (isT s.n s.at_), decide (s.n ≤ 281474976710656), !decide ((↑s.n : Int) > 512), !(↑s.n : Int) == 0, !decide (s.entry > 1048576), !decide (s.entry < 1), !decide (s.entry < 1), !decide (s.entry < 1), !decide (s.entry < 1)] then some (.inr ((T.int .i64 4))) else
  if allT [decide (s.at_ 1 ≥ 128), true, decide (1 < (↑s.n : Int)), true, !(↑s.n : Int) == 1, !s.at_ 0 == 1, true, decide (0 < (↑s.n : Int)), true, !decide (s.at_ 0 > 1), true, decide (0 < (↑s.n : Int)), true, !any s.n fun i => bad (s.at_ i), isV (T.slf false s.n fun i => T.int .i64 (s.at_ i)) (isT s.n s.at_), decide (s.n ≤ 281474976710656), !decide ((↑s.n : Int) > 512), !(↑s.n : Int) == 0, !decide (s.entry > 1048576), !decide (s.entry < 1), !decide (s.entry < 1), !decide (s.entry < 1), !decide (s.entry < 1)] then some (.inr ((T.int .i64 2))) else
  if allT [!decide (s.at_ 1 ≥ 128), true, decide (1 < (↑s.n : Int)), true, !(↑s.n : Int) == 1, !s.at_ 0 == 1, true, decide (0 < (↑s.n : Int)), true, !decide (s.at_ 0 > 1), true, decide (0 < (↑s.n : Int)), true, !any s.n fun i => bad (s.at_ i), isV (T.slf false s.n fun i => T.int .i64 (s.at_ i)) (isT s.n s.at_), decide (s.n ≤ 281474976710656), !decide ((↑s.n : Int) > 512), !(↑s.n : Int) == 0, !decide (s.entry > 1048576), !decide (s.entry < 1), !decide (s.entry < 1), !decide (s.entry < 1), !decide (s.entry < 1)] then some (.inr ((T.int .i64 0))) else
  none
theorem run32 (s : Sp) (cx : Cx prog D8 F0) {n : Nat} {o : Empty ⊕ T} {r : T} (h : o32 s = some o) (hr : noM.fin n o = some r) : PureFn prog gl 32 [spT s] r := by
  refine pure_mach (M := noM) (fn := f32) (k := 20) (d := 8) (c := bodyOf f32) cx glFrz (by kernel_rfl) func32 (by kernel_rfl) rfl (by kernel_rfl) (by kernel_rfl) (L := 48) (by kernel_rfl) noM_ways (fun σ => σ.elim) ?_ hr
  unfold o32 at h
  rcases ite_or h with ⟨hk, h⟩ | h
  · cases h
    exact ⟨2000, _, _, _, _, _, _, w32_s_1 s, hk⟩
  rcases ite_or h with ⟨hk, h⟩ | h
  · cases h
    exact ⟨2000, _, _, _, _, _, _, w32_s_2 s, hk⟩
  rcases ite_or h with ⟨hk, h⟩ | h
  · cases h
    exact ⟨2000, _, _, _, _, _, _, w32_s_3 s, hk⟩
  rcases ite_or h with ⟨hk, h⟩ | h
  · cases h
    exact ⟨2000, _, _, _, _, _, _, w32_s_4 s, hk⟩
  rcases ite_or h with ⟨hk, h⟩ | h
  · cases h
    exact ⟨2000, _, _, _, _, _, _, w32_s_5 s, hk⟩
  rcases ite_or h with ⟨hk, h⟩ | h
  · cases h
    exact ⟨2000, _, _, _, _, _, _, w32_s_6 s, hk⟩
  rcases ite_or h with ⟨hk, h⟩ | h
  · cases h
    exact ⟨2000, _, _, _, _, _, _, w32_s_7 s, hk⟩
  rcases ite_or h with ⟨hk, h⟩ | h
  · cases h
    exact ⟨2000, _, _, _, _, _, _, w32_s_8 s, hk⟩
  rcases ite_or h with ⟨hk, h⟩ | h
  · cases h
    exact ⟨2000, _, _, _, _, _, _, w32_s_9 s, hk⟩
  rcases ite_or h with ⟨hk, h⟩ | h
  · cases h
    exact ⟨2000, _, _, _, _, _, _, w32_s_10 s, hk⟩
  cases h

/-! ### 52 -/
set_option linter.unusedVariables false
theorem w52_s_1 (m : Nat) (f : Nat → Ln) (s : Sp) : outK prog f52 20 [0, 2, 4, 8, 9, 10] (runK prog D7 F0 2000 (.code (bodyOf f52)) [] 0 ([lsT m f, spT s, .fn (.func 53) [] []] ++ List.replicate 46 undefT) ⟨0, []⟩ [] [])
    = some (OutT.loop 0 (loopAt f52 0).1 (loopAt f52 0).2, [], { next := 0, objs := [] }, [T.slf false m fun i => lnT (f i), T.fn (Fn.func 53) [] [], (spT s).ref 0, T.int .i64 (↑m : Int), T.int .i64 0, T.int .i64 (↑m : Int)], 49) := by kernel_rfl
theorem w52_0_1 (m : Nat) (f : Nat → Ln) (s : Sp) (x8 : Int) (x9 : Int) (x10 : Int) (fr : List T) : outK prog f52 20 [0, 2, 4, 8, 9, 10] (runK prog D7 F0 2000 (.code (loopAt f52 0).1) (.lp :: (loopAt f52 0).2) 0 (frK [0, 2, 4, 8, 9, 10] [T.slf false m fun i => lnT (f i), T.fn (Fn.func 53) [] [], (spT s).ref 0, T.int .i64 x8, T.int .i64 x9, T.int .i64 x10] fr 49) ⟨0, []⟩ [true, true] [])
    = some (OutT.again 0, [decide (cmpS (f (IntKind.i64.wrap ((IntKind.u64.wrap (IntKind.i64.wrap (x9 + x10))).fdiv (2 ^ 1))).toNat).st s < 0), isV (lnT (f (IntKind.i64.wrap ((IntKind.u64.wrap (IntKind.i64.wrap (x9 + x10))).fdiv (2 ^ 1))).toNat)) (lnT (f (IntKind.i64.wrap ((IntKind.u64.wrap (IntKind.i64.wrap (x9 + x10))).fdiv (2 ^ 1))).toNat)), isV (spT s) (spT s), decide ((f (IntKind.i64.wrap ((IntKind.u64.wrap (IntKind.i64.wrap (x9 + x10))).fdiv (2 ^ 1))).toNat).st.n ≤ 281474976710656), decide (0 ≤ IntKind.i64.wrap ((IntKind.u64.wrap (IntKind.i64.wrap (x9 + x10))).fdiv (2 ^ 1))), decide (IntKind.i64.wrap ((IntKind.u64.wrap (IntKind.i64.wrap (x9 + x10))).fdiv (2 ^ 1)) < (↑m : Int)), true, decide (x9 < x10)], { next := 0, objs := [] }, [T.slf false m fun i => lnT (f i), T.fn (Fn.func 53) [] [], (spT s).ref 0, T.int .i64 x8, T.int .i64 (IntKind.i64.wrap (IntKind.i64.wrap ((IntKind.u64.wrap (IntKind.i64.wrap (x9 + x10))).fdiv (2 ^ 1)) + 1)), T.int .i64 x10], 49) := by kernel_rfl
theorem w52_0_2 (m : Nat) (f : Nat → Ln) (s : Sp) (x8 : Int) (x9 : Int) (x10 : Int) (fr : List T) : outK prog f52 20 [0, 2, 4, 8, 9, 10] (runK prog D7 F0 2000 (.code (loopAt f52 0).1) (.lp :: (loopAt f52 0).2) 0 (frK [0, 2, 4, 8, 9, 10] [T.slf false m fun i => lnT (f i), T.fn (Fn.func 53) [] [], (spT s).ref 0, T.int .i64 x8, T.int .i64 x9, T.int .i64 x10] fr 49) ⟨0, []⟩ [true, false] [])
    = some (OutT.again 0, [!decide (cmpS (f (IntKind.i64.wrap ((IntKind.u64.wrap (IntKind.i64.wrap (x9 + x10))).fdiv (2 ^ 1))).toNat).st s < 0), isV (lnT (f (IntKind.i64.wrap ((IntKind.u64.wrap (IntKind.i64.wrap (x9 + x10))).fdiv (2 ^ 1))).toNat)) (lnT (f (IntKind.i64.wrap ((IntKind.u64.wrap (IntKind.i64.wrap (x9 + x10))).fdiv (2 ^ 1))).toNat)), isV (spT s) (spT s), decide ((f (IntKind.i64.wrap ((IntKind.u64.wrap (IntKind.i64.wrap (x9 + x10))).fdiv (2 ^ 1))).toNat).st.n ≤ 281474976710656), decide (0 ≤ IntKind.i64.wrap ((IntKind.u64.wrap (IntKind.i64.wrap (x9 + x10))).fdiv (2 ^ 1))), decide (IntKind.i64.wrap ((IntKind.u64.wrap (IntKind.i64.wrap (x9 + x10))).fdiv (2 ^ 1)) < (↑m : Int)), true, decide (x9 < x10)], { next := 0, objs := [] }, [T.slf false m fun i => lnT (f i), T.fn (Fn.func 53) [] [], (spT s).ref 0, T.int .i64 x8, T.int .i64 x9, T.int .i64 (IntKind.i64.wrap ((IntKind.u64.wrap (IntKind.i64.wrap (x9 + x10))).fdiv (2 ^ 1)))], 49) := by kernel_rfl
theorem w52_0_3 (m : Nat) (f : Nat → Ln) (s : Sp) (x8 : Int) (x9 : Int) (x10 : Int) (fr : List T) : outK prog f52 20 [] (runK prog D7 F0 2000 (.code (loopAt f52 0).1) (.lp :: (loopAt f52 0).2) 0 (frK [0, 2, 4, 8, 9, 10] [T.slf false m fun i => lnT (f i), T.fn (Fn.func 53) [] [], (spT s).ref 0, T.int .i64 x8, T.int .i64 x9, T.int .i64 x10] fr 49) ⟨0, []⟩ (bt 10 1022) [])
    = some (OutT.done (some (T.tup [T.int .i64 x9, T.bool (cmpS (f x9.toNat).st s == 0)])), [decide (x9 < x8), decide (x9 < x8), isV (lnT (f x9.toNat)) (lnT (f x9.toNat)), isV (spT s) (spT s), decide ((f x9.toNat).st.n ≤ 281474976710656), decide (x9 < x8), decide (x9 < x8), decide (x9 < x8), decide (0 ≤ x9), decide (x9 < (↑m : Int)), true, decide (x9 < x8), decide (x9 < x8), decide (x9 < x8), decide (x9 < x8), !decide (x9 < x10)], { next := 0, objs := [] }, [], 0) := by kernel_rfl
theorem w52_0_4 (m : Nat) (f : Nat → Ln) (s : Sp) (x8 : Int) (x9 : Int) (x10 : Int) (fr : List T) : outK prog f52 20 [] (runK prog D7 F0 2000 (.code (loopAt f52 0).1) (.lp :: (loopAt f52 0).2) 0 (frK [0, 2, 4, 8, 9, 10] [T.slf false m fun i => lnT (f i), T.fn (Fn.func 53) [] [], (spT s).ref 0, T.int .i64 x8, T.int .i64 x9, T.int .i64 x10] fr 49) ⟨0, []⟩ (bt 10 0) [])
    = some (OutT.done (some (T.tup [T.int .i64 x9, T.bool false])), [!decide (x9 < x8), !decide (x9 < x8), !decide (x9 < x8), !decide (x9 < x8), !decide (x9 < x8), !decide (x9 < x8), !decide (x9 < x8), !decide (x9 < x8), !decide (x9 < x8), !decide (x9 < x10)], { next := 0, objs := [] }, [], 0) := by kernel_rfl
inductive S52 where
  | l0 (x8 : Int) (x9 : Int) (x10 : Int)
noncomputable def step52_0 (m : Nat) (f : Nat → Ln) (s : Sp) (x8 : Int) (x9 : Int) (x10 : Int) : Option (S52 ⊕ T) :=
  if allT [decide (cmpS (f (IntKind.i64.wrap ((IntKind.u64.wrap (IntKind.i64.wrap (x9 + x10))).fdiv (2 ^ 1))).toNat).st s < 0), isV (lnT (f (IntKind.i64.wrap ((IntKind.u64.wrap (IntKind.i64.wrap (x9 + x10))).fdiv (2 ^ 1))).toNat)) (lnT (f (IntKind.i64.wrap ((IntKind.u64.wrap (IntKind.i64.wrap (x9 + x10))).fdiv (2 ^ 1))).toNat)), isV (spT s) (spT s), decide ((f (IntKind.i64.wrap ((IntKind.u64.wrap (IntKind.i64.wrap (x9 + x10))).fdiv (2 ^ 1))).toNat).st.n ≤ 281474976710656), decide (0 ≤ IntKind.i64.wrap ((IntKind.u64.wrap (IntKind.i64.wrap (x9 + x10))).fdiv (2 ^ 1))), decide (IntKind.i64.wrap ((IntKind.u64.wrap (IntKind.i64.wrap (x9 + x10))).fdiv (2 ^ 1)) < (↑m : Int)), true, decide (x9 < x10)] then some (.inl (.l0 x8 (IntKind.i64.wrap (IntKind.i64.wrap ((IntKind.u64.wrap (IntKind.i64.wrap (x9 + x10))).fdiv (2 ^ 1)) + 1)) x10)) else
  if allT [!decide (cmpS (f (IntKind.i64.wrap ((IntKind.u64.wrap (IntKind.i64.wrap (x9 + x10))).fdiv (2 ^ 1))).toNat).st s < 0), isV (lnT (f (IntKind.i64.wrap ((IntKind.u64.wrap (IntKind.i64.wrap (x9 + x10))).fdiv (2 ^ 1))).toNat)) (lnT (f (IntKind.i64.wrap ((IntKind.u64.wrap (IntKind.i64.wrap (x9 + x10))).fdiv (2 ^ 1))).toNat)), isV (spT s) (spT s), decide ((f (IntKind.i64.wrap ((IntKind.u64.wrap (IntKind.i64.wrap (x9 + x10))).fdiv (2 ^ 1))).toNat).st.n ≤ 281474976710656), decide (0 ≤ IntKind.i64.wrap ((IntKind.u64.wrap (IntKind.i64.wrap (x9 + x10))).fdiv (2 ^ 1))), decide (IntKind.i64.wrap ((IntKind.u64.wrap (IntKind.i64.wrap (x9 + x10))).fdiv (2 ^ 1)) < (↑m : Int)), true, decide (x9 < x10)] then some (.inl (.l0 x8 x9 (IntKind.i64.wrap ((IntKind.u64.wrap (IntKind.i64.wrap (x9 + x10))).fdiv (2 ^ 1))))) else
  if allT [decide (x9 < x8), decide (x9 < x8), isV (lnT (f x9.toNat)) (lnT (f x9.toNat)), isV (spT s) (spT s), decide ((f x9.toNat).st.n ≤ 281474976710656), decide (x9 < x8), decide (x9 < x8), decide (x9 < x8), decide (0 ≤ x9), decide (x9 < (↑m : Int)), true, decide (x9 < x8), decide (x9 < x8), decide (x9 < x8), decide (x9 < x8), !decide (x9 < x10)] then some (.inr ((T.tup [T.int .i64 x9, T.bool (cmpS (f x9.toNat).st s == 0)]))) else
  if allT [!decide (x9 < x8), !decide (x9 < x8), !decide (x9 < x8), !decide (x9 < x8), !decide (x9 < x8), !decide (x9 < x8), !decide (x9 < x8), !decide (x9 < x8), !decide (x9 < x8), !decide (x9 < x10)] then some (.inr ((T.tup [T.int .i64 x9, T.bool false]))) else
  none
noncomputable def step52 (m : Nat) (f : Nat → Ln) (s : Sp) : S52 → Option (S52 ⊕ T)
  | .l0 x8 x9 x10 => step52_0 m f s x8 x9 x10
noncomputable def M52 (m : Nat) (f : Nat → Ln) (s : Sp) : Mch S52 where
  lp := fun σ => match σ with
    | .l0 .. => 0
  keep := fun ι => match ι with
    | 0 => [0, 2, 4, 8, 9, 10]
    | _ => []
  par := fun ι => match ι with
    | 0 => []
    | _ => []
  vs := fun σ => match σ with
    | .l0 x8 x9 x10 => [T.slf false m fun i => lnT (f i), T.fn (Fn.func 53) [] [], (spT s).ref 0, T.int .i64 x8, T.int .i64 x9, T.int .i64 x10]
  hp := fun σ => match σ with
    | .l0 _ _ _ => ⟨0, []⟩
  len := 49
  step := step52 m f s
theorem ways52 (m : Nat) (f : Nat → Ln) (s : Sp) : (M52 m f s).Ways prog D7 F0 f52 20 := by
  intro σ o fr h
  cases σ with
  | l0 x8 x9 x10 =>
    change step52_0 m f s x8 x9 x10 = some o at h
    unfold step52_0 at h
    rcases ite_or h with ⟨hk, h⟩ | h
    · cases h
      exact .inl ⟨2000, _, _, _, w52_0_1 m f s x8 x9 x10 fr, hk, rfl⟩
    rcases ite_or h with ⟨hk, h⟩ | h
    · cases h
      exact .inl ⟨2000, _, _, _, w52_0_2 m f s x8 x9 x10 fr, hk, rfl⟩
    rcases ite_or h with ⟨hk, h⟩ | h
    · cases h
      exact ⟨2000, _, _, _, _, _, _, w52_0_3 m f s x8 x9 x10 fr, hk⟩
    rcases ite_or h with ⟨hk, h⟩ | h
    · cases h
      exact ⟨2000, _, _, _, _, _, _, w52_0_4 m f s x8 x9 x10 fr, hk⟩
    cases h
theorem oks52 (m : Nat) (f : Nat → Ln) (s : Sp) : ∀ σ, codeOk (loopAt f52 ((M52 m f s).lp σ)).1 = true ∧ ksOk (.lp :: (loopAt f52 ((M52 m f s).lp σ)).2) = true := by
  intro σ
  cases σ
  · exact ⟨(show codeOk (loopAt f52 0).1 = true by kernel_rfl), (show ksOk (.lp :: (loopAt f52 0).2) = true by kernel_rfl)⟩
noncomputable def o52 (m : Nat) (f : Nat → Ln) (s : Sp) : Option (S52 ⊕ T) :=
  if allT [] then some (.inl (.l0 (↑m : Int) 0 (↑m : Int))) else
  none
theorem run52 (m : Nat) (f : Nat → Ln) (s : Sp) (cx : Cx prog D7 F0) {n : Nat} {o : S52 ⊕ T} {r : T} (h : o52 m f s = some o) (hr : (M52 m f s).fin n o = some r) : PureFn prog gl 52 [lsT m f, spT s, .fn (.func 53) [] []] r := by
  refine pure_mach (M := (M52 m f s)) (fn := f52) (k := 20) (d := 8) (c := bodyOf f52) cx glFrz (by kernel_rfl) func52 (by kernel_rfl) rfl (by kernel_rfl) (by kernel_rfl) (L := 46) (by kernel_rfl) (ways52 m f s) (oks52 m f s) ?_ hr
  unfold o52 at h
  rcases ite_or h with ⟨hk, h⟩ | h
  · cases h
    exact .inr ⟨2000, _, _, _, w52_s_1 m f s, hk, rfl⟩
  cases h

/-! ### 36 -/
set_option linter.unusedVariables false
theorem w36_s_1 (m : Nat) (f : Nat → Ln) (s : Sp) : outK prog f36 20 [] (runK prog D8 F0 2000 (.code (bodyOf f36)) [] 0 ([lsT m f, spT s] ++ List.replicate 9 undefT) ⟨0, []⟩ [] [])
    = some (OutT.done (some (T.tup [T.int .i64 (↑(bs m fun i => cmpS (f i).st s) : Int), T.bool (found m fun i => cmpS (f i).st s)])), [isV (T.slf false m fun i => lnT (f i)) (lsT m f), isV (spT s) (spT s), modestB m f], { next := 0, objs := [] }, [], 0) := by kernel_rfl
noncomputable def o36 (m : Nat) (f : Nat → Ln) (s : Sp) : Option (Empty ⊕ T) :=
  if allT [isV (T.slf false m fun i => lnT (f i)) (lsT m f), isV (spT s) (spT s), modestB m f] then some (.inr ((T.tup [T.int .i64 (↑(bs m fun i => cmpS (f i).st s) : Int), T.bool (found m fun i => cmpS (f i).st s)]))) else
  none
theorem run36 (m : Nat) (f : Nat → Ln) (s : Sp) (cx : Cx prog D8 F0) {n : Nat} {o : Empty ⊕ T} {r : T} (h : o36 m f s = some o) (hr : noM.fin n o = some r) : PureFn prog gl 36 [lsT m f, spT s] r := by
  refine pure_mach (M := noM) (fn := f36) (k := 20) (d := 8) (c := bodyOf f36) cx glFrz (by kernel_rfl) func36 (by kernel_rfl) rfl (by kernel_rfl) (by kernel_rfl) (L := 9) (by kernel_rfl) noM_ways (fun σ => σ.elim) ?_ hr
  unfold o36 at h
  rcases ite_or h with ⟨hk, h⟩ | h
  · cases h
    exact ⟨2000, _, _, _, _, _, _, w36_s_1 m f s, hk⟩
  cases h

/-! ### 41 -/
set_option linter.unusedVariables false
theorem w41_s_1 (m : Nat) (f : Nat → Ln) (s : Sp) : outK prog f41 20 [0, 3, 5] (runK prog D7 F0 2000 (.code (bodyOf f41)) [] 0 ([lsT m f, spT s] ++ List.replicate 18 undefT) ⟨0, []⟩ [] [])
    = some (OutT.loop 0 (loopAt f41 0).1 (loopAt f41 0).2, [], { next := 0, objs := [] }, [T.slf false m fun i => lnT (f i), (spT s).ref 0, T.int .i64 0], 20) := by kernel_rfl
theorem w41_0_1 (m : Nat) (f : Nat → Ln) (s : Sp) (x5 : Int) (fr : List T) : outK prog f41 20 [] (runK prog D7 F0 2000 (.code (loopAt f41 0).1) (.lp :: (loopAt f41 0).2) 0 (frK [0, 3, 5] [T.slf false m fun i => lnT (f i), (spT s).ref 0, T.int .i64 x5] fr 20) ⟨0, []⟩ [true, true] [])
    = some (OutT.done (some (T.int .i64 x5)), [eqS (f x5.toNat).st s, isV (spT (f x5.toNat).st) (spT (f x5.toNat).st), isV (spT s) (spT s), decide ((f x5.toNat).st.n ≤ 281474976710656), decide (0 ≤ x5), decide (x5 < (↑m : Int)), true, decide (x5 < (↑m : Int))], { next := 0, objs := [] }, [], 0) := by kernel_rfl
theorem w41_0_2 (m : Nat) (f : Nat → Ln) (s : Sp) (x5 : Int) (fr : List T) : outK prog f41 20 [0, 3, 5] (runK prog D7 F0 2000 (.code (loopAt f41 0).1) (.lp :: (loopAt f41 0).2) 0 (frK [0, 3, 5] [T.slf false m fun i => lnT (f i), (spT s).ref 0, T.int .i64 x5] fr 20) ⟨0, []⟩ [true, false] [])
    = some (OutT.again 0, [!eqS (f x5.toNat).st s, isV (spT (f x5.toNat).st) (spT (f x5.toNat).st), isV (spT s) (spT s), decide ((f x5.toNat).st.n ≤ 281474976710656), decide (0 ≤ x5), decide (x5 < (↑m : Int)), true, decide (x5 < (↑m : Int))], { next := 0, objs := [] }, [T.slf false m fun i => lnT (f i), (spT s).ref 0, T.int .i64 (IntKind.i64.wrap (x5 + 1))], 20) := by kernel_rfl
theorem w41_0_3 (m : Nat) (f : Nat → Ln) (s : Sp) (x5 : Int) (fr : List T) : outK prog f41 20 [] (runK prog D7 F0 2000 (.code (loopAt f41 0).1) (.lp :: (loopAt f41 0).2) 0 (frK [0, 3, 5] [T.slf false m fun i => lnT (f i), (spT s).ref 0, T.int .i64 x5] fr 20) ⟨0, []⟩ [false] [])
    = some (OutT.done (some (T.int .i64 (-1))), [!decide (x5 < (↑m : Int))], { next := 0, objs := [] }, [], 0) := by kernel_rfl
inductive S41 where
  | l0 (x5 : Int)
noncomputable def step41_0 (m : Nat) (f : Nat → Ln) (s : Sp) (x5 : Int) : Option (S41 ⊕ T) :=
  if allT [eqS (f x5.toNat).st s, isV (spT (f x5.toNat).st) (spT (f x5.toNat).st), isV (spT s) (spT s), decide ((f x5.toNat).st.n ≤ 281474976710656), decide (0 ≤ x5), decide (x5 < (↑m : Int)), true, decide (x5 < (↑m : Int))] then some (.inr ((T.int .i64 x5))) else
  if allT [!eqS (f x5.toNat).st s, isV (spT (f x5.toNat).st) (spT (f x5.toNat).st), isV (spT s) (spT s), decide ((f x5.toNat).st.n ≤ 281474976710656), decide (0 ≤ x5), decide (x5 < (↑m : Int)), true, decide (x5 < (↑m : Int))] then some (.inl (.l0 (IntKind.i64.wrap (x5 + 1)))) else
  if allT [!decide (x5 < (↑m : Int))] then some (.inr ((T.int .i64 (-1)))) else
  none
noncomputable def step41 (m : Nat) (f : Nat → Ln) (s : Sp) : S41 → Option (S41 ⊕ T)
  | .l0 x5 => step41_0 m f s x5
noncomputable def M41 (m : Nat) (f : Nat → Ln) (s : Sp) : Mch S41 where
  lp := fun σ => match σ with
    | .l0 .. => 0
  keep := fun ι => match ι with
    | 0 => [0, 3, 5]
    | _ => []
  par := fun ι => match ι with
    | 0 => []
    | _ => []
  vs := fun σ => match σ with
    | .l0 x5 => [T.slf false m fun i => lnT (f i), (spT s).ref 0, T.int .i64 x5]
  hp := fun σ => match σ with
    | .l0 _ => ⟨0, []⟩
  len := 20
  step := step41 m f s
theorem ways41 (m : Nat) (f : Nat → Ln) (s : Sp) : (M41 m f s).Ways prog D7 F0 f41 20 := by
  intro σ o fr h
  cases σ with
  | l0 x5 =>
    change step41_0 m f s x5 = some o at h
    unfold step41_0 at h
    rcases ite_or h with ⟨hk, h⟩ | h
    · cases h
      exact ⟨2000, _, _, _, _, _, _, w41_0_1 m f s x5 fr, hk⟩
    rcases ite_or h with ⟨hk, h⟩ | h
    · cases h
      exact .inl ⟨2000, _, _, _, w41_0_2 m f s x5 fr, hk, rfl⟩
    rcases ite_or h with ⟨hk, h⟩ | h
    · cases h
      exact ⟨2000, _, _, _, _, _, _, w41_0_3 m f s x5 fr, hk⟩
    cases h
theorem oks41 (m : Nat) (f : Nat → Ln) (s : Sp) : ∀ σ, codeOk (loopAt f41 ((M41 m f s).lp σ)).1 = true ∧ ksOk (.lp :: (loopAt f41 ((M41 m f s).lp σ)).2) = true := by
  intro σ
  cases σ
  · exact ⟨(show codeOk (loopAt f41 0).1 = true by kernel_rfl), (show ksOk (.lp :: (loopAt f41 0).2) = true by kernel_rfl)⟩
noncomputable def o41 (m : Nat) (f : Nat → Ln) (s : Sp) : Option (S41 ⊕ T) :=
  if allT [] then some (.inl (.l0 0)) else
  none
theorem run41 (m : Nat) (f : Nat → Ln) (s : Sp) (cx : Cx prog D7 F0) {n : Nat} {o : S41 ⊕ T} {r : T} (h : o41 m f s = some o) (hr : (M41 m f s).fin n o = some r) : PureFn prog gl 41 [lsT m f, spT s] r := by
  refine pure_mach (M := (M41 m f s)) (fn := f41) (k := 20) (d := 8) (c := bodyOf f41) cx glFrz (by kernel_rfl) func41 (by kernel_rfl) rfl (by kernel_rfl) (by kernel_rfl) (L := 18) (by kernel_rfl) (ways41 m f s) (oks41 m f s) ?_ hr
  unfold o41 at h
  rcases ite_or h with ⟨hk, h⟩ | h
  · cases h
    exact .inr ⟨2000, _, _, _, w41_s_1 m f s, hk, rfl⟩
  cases h
end Go.Proofs.Tryd

/- What the functions on stamps compute: proved. -/
namespace Go.Proofs
open Go.Ps
set_option maxRecDepth 100000

/-! ### 48 -/
set_option linter.unusedVariables false
theorem Tryd.w48_s_1 (m : Nat) (f : Nat → Int) : outK Tryd.prog Tryd.f48 20 [3, 6, 7, 8] (runK Tryd.prog Tryd.D0 Tryd.F0 2000 (.code (bodyOf Tryd.f48)) [] 0 ([.slf true m (fun i => .int .i64 (f i))] ++ List.replicate 17 undefT) ⟨0, []⟩ [] [])
    = some (OutT.loop 0 (loopAt Tryd.f48 0).1 (loopAt Tryd.f48 0).2, [], { next := 0, objs := [] }, [T.int IntKind.i64 0, T.slf true m fun i => T.int IntKind.i64 (f i), T.int IntKind.i64 (↑m : Int), T.int IntKind.i64 0], 18) := by kernel_rfl
theorem Tryd.w48_0_1 (m : Nat) (f : Nat → Int) (x3 : Int) (x7 : Int) (x8 : Int) (fr : List T) : outK Tryd.prog Tryd.f48 20 [] (runK Tryd.prog Tryd.D0 Tryd.F0 2000 (.code (loopAt Tryd.f48 0).1) (.lp :: (loopAt Tryd.f48 0).2) 0 (frK [3, 6, 7, 8] [T.int IntKind.i64 x3, T.slf true m fun i => T.int IntKind.i64 (f i), T.int IntKind.i64 x7, T.int IntKind.i64 x8] fr 18) ⟨0, []⟩ [true, true] [])
    = some (OutT.done (some (T.int IntKind.i64 (f x8.toNat))), [f x8.toNat != x3, decide (0 ≤ x8), decide (x8 < (↑m : Int)), true, decide (x8 < x7)], { next := 0, objs := [] }, [], 0) := by kernel_rfl
theorem Tryd.w48_0_2 (m : Nat) (f : Nat → Int) (x3 : Int) (x7 : Int) (x8 : Int) (fr : List T) : outK Tryd.prog Tryd.f48 20 [3, 6, 7, 8] (runK Tryd.prog Tryd.D0 Tryd.F0 2000 (.code (loopAt Tryd.f48 0).1) (.lp :: (loopAt Tryd.f48 0).2) 0 (frK [3, 6, 7, 8] [T.int IntKind.i64 x3, T.slf true m fun i => T.int IntKind.i64 (f i), T.int IntKind.i64 x7, T.int IntKind.i64 x8] fr 18) ⟨0, []⟩ [true, false] [])
    = some (OutT.again 0, [!f x8.toNat != x3, decide (0 ≤ x8), decide (x8 < (↑m : Int)), true, decide (x8 < x7)], { next := 0, objs := [] }, [T.int IntKind.i64 x3, T.slf true m fun i => T.int IntKind.i64 (f i), T.int IntKind.i64 x7, T.int IntKind.i64 (IntKind.i64.wrap (x8 + 1))], 18) := by kernel_rfl
theorem Tryd.w48_0_3 (m : Nat) (f : Nat → Int) (x3 : Int) (x7 : Int) (x8 : Int) (fr : List T) : outK Tryd.prog Tryd.f48 20 [] (runK Tryd.prog Tryd.D0 Tryd.F0 2000 (.code (loopAt Tryd.f48 0).1) (.lp :: (loopAt Tryd.f48 0).2) 0 (frK [3, 6, 7, 8] [T.int IntKind.i64 x3, T.slf true m fun i => T.int IntKind.i64 (f i), T.int IntKind.i64 x7, T.int IntKind.i64 x8] fr 18) ⟨0, []⟩ [false] [])
    = some (OutT.done (some (T.int IntKind.i64 x3)), [!decide (x8 < x7)], { next := 0, objs := [] }, [], 0) := by kernel_rfl
inductive Tryd.S48 where
  | l0 (x3 : Int) (x7 : Int) (x8 : Int)
noncomputable def Tryd.step48_0 (m : Nat) (f : Nat → Int) (x3 : Int) (x7 : Int) (x8 : Int) : Option (Tryd.S48 ⊕ T) :=
  if allT [f x8.toNat != x3, decide (0 ≤ x8), decide (x8 < (↑m : Int)), true, decide (x8 < x7)] then some (.inr ((T.int IntKind.i64 (f x8.toNat)))) else
  if allT [!f x8.toNat != x3, decide (0 ≤ x8), decide (x8 < (↑m : Int)), true, decide (x8 < x7)] then some (.inl (.l0 x3 x7 (IntKind.i64.wrap (x8 + 1)))) else
  if allT [!decide (x8 < x7)] then some (.inr ((T.int IntKind.i64 x3))) else
  none
noncomputable def Tryd.step48 (m : Nat) (f : Nat → Int) : Tryd.S48 → Option (Tryd.S48 ⊕ T)
  | .l0 x3 x7 x8 => Tryd.step48_0 m f x3 x7 x8
noncomputable def Tryd.M48 (m : Nat) (f : Nat → Int) : Mch Tryd.S48 where
  lp := fun σ => match σ with
    | .l0 .. => 0
  keep := fun ι => match ι with
    | 0 => [3, 6, 7, 8]
    | _ => []
  par := fun ι => match ι with
    | 0 => []
    | _ => []
  vs := fun σ => match σ with
    | .l0 x3 x7 x8 => [T.int IntKind.i64 x3, T.slf true m fun i => T.int IntKind.i64 (f i), T.int IntKind.i64 x7, T.int IntKind.i64 x8]
  hp := fun σ => match σ with
    | .l0 _ _ _ => ⟨0, []⟩
  len := 18
  step := Tryd.step48 m f
theorem Tryd.ways48 (m : Nat) (f : Nat → Int) : (Tryd.M48 m f).Ways Tryd.prog Tryd.D0 Tryd.F0 Tryd.f48 20 := by
  intro σ o fr h
  cases σ with
  | l0 x3 x7 x8 =>
    change Tryd.step48_0 m f x3 x7 x8 = some o at h
    unfold Tryd.step48_0 at h
    rcases ite_or h with ⟨hk, h⟩ | h
    · cases h
      exact ⟨2000, _, _, _, _, _, _, Tryd.w48_0_1 m f x3 x7 x8 fr, hk⟩
    rcases ite_or h with ⟨hk, h⟩ | h
    · cases h
      exact .inl ⟨2000, _, _, _, Tryd.w48_0_2 m f x3 x7 x8 fr, hk, rfl⟩
    rcases ite_or h with ⟨hk, h⟩ | h
    · cases h
      exact ⟨2000, _, _, _, _, _, _, Tryd.w48_0_3 m f x3 x7 x8 fr, hk⟩
    cases h
theorem Tryd.oks48 (m : Nat) (f : Nat → Int) : ∀ σ, codeOk (loopAt Tryd.f48 ((Tryd.M48 m f).lp σ)).1 = true ∧ ksOk (.lp :: (loopAt Tryd.f48 ((Tryd.M48 m f).lp σ)).2) = true := by
  intro σ
  cases σ
  · exact ⟨(show codeOk (loopAt Tryd.f48 0).1 = true by kernel_rfl), (show ksOk (.lp :: (loopAt Tryd.f48 0).2) = true by kernel_rfl)⟩
noncomputable def Tryd.o48 (m : Nat) (f : Nat → Int) : Option (Tryd.S48 ⊕ T) :=
  if allT [] then some (.inl (.l0 0 (↑m : Int) 0)) else
  none
theorem Tryd.run48 (m : Nat) (f : Nat → Int) {n : Nat} {o : Tryd.S48 ⊕ T} {r : T} (h : Tryd.o48 m f = some o) (hr : (Tryd.M48 m f).fin n o = some r) : PureFn Tryd.prog Tryd.gl 48 [.slf true m (fun i => .int .i64 (f i))] r := by
  refine pure_mach (M := (Tryd.M48 m f)) (fn := Tryd.f48) (k := 20) (d := 8) (c := bodyOf Tryd.f48) Tryd.cx0 Tryd.glFrz (by kernel_rfl) Tryd.func48 (by kernel_rfl) rfl (by kernel_rfl) (by kernel_rfl) (L := 17) (by kernel_rfl) (Tryd.ways48 m f) (Tryd.oks48 m f) ?_ hr
  unfold Tryd.o48 at h
  rcases ite_or h with ⟨hk, h⟩ | h
  · cases h
    exact .inr ⟨2000, _, _, _, Tryd.w48_s_1 m f, hk, rfl⟩
  cases h

theorem Tryd.wsucc (i : Nat) (h : i < 4611686018427387904) : IntKind.i64.wrap ((i : Int) + 1) = ((i + 1 : Nat) : Int) := by
  rw [IntWalk.i64_in _ (by omega)]; omega

theorem Tryd.args_of {f : FuncId} {ts ts' : List T} {r : T} (h : PureFn Tryd.prog Tryd.gl f ts' r) (k : ∀ g vs, RdL g vs ts → RdL g vs ts') : PureFn Tryd.prog Tryd.gl f ts r :=
  ⟨h.1, fun g vs hg hN hgl hv => h.2 g vs hg hN hgl (k g vs hv)⟩

/-! ### cmp.Or -/
theorem Tryd.c48 (x y : Int) : PureFn Tryd.prog Tryd.gl 48 [.sl true [.int .i64 x, .int .i64 y]] (.int .i64 (if x ≠ 0 then x else y)) := by
  have key : PureFn Tryd.prog Tryd.gl 48 [.slf true 2 (fun i => .int .i64 (if i = 0 then x else y))] (.int .i64 (if x ≠ 0 then x else y)) := by
    refine Tryd.run48 2 (fun i => if i = 0 then x else y) (n := 4) (o := .inl (.l0 0 2 0)) (by simp [Tryd.o48, allT]) ?_
    show (Tryd.M48 2 _).run 4 _ = _
    by_cases h : x = 0
    · by_cases h' : y = 0
      · simp [Mch.run, Tryd.M48, Tryd.step48, Tryd.step48_0, allT, h, h', show IntKind.i64.wrap 1 = 1 from rfl, show IntKind.i64.wrap 2 = 2 from rfl]
      · simp [Mch.run, Tryd.M48, Tryd.step48, Tryd.step48_0, allT, h, h', show IntKind.i64.wrap 1 = 1 from rfl]
    · simp [Mch.run, Tryd.M48, Tryd.step48, Tryd.step48_0, allT, h]
  refine Tryd.args_of key fun g vs hv => ?_
  match vs, hv with
  | [v], hv =>
    obtain ⟨h1, _⟩ := hv.inv_cons
    refine RdL.cons (rd_slf h1 (by simp [scal1]) rfl (fun i hi => ?_)) RdL.nil
    match i, hi with
    | 0, _ => rfl
    | 1, _ => rfl
  | [], hv => exact absurd hv.1 (by simp)
  | _ :: _ :: _, hv => exact absurd hv.1 (by simp)

theorem Tryd.c49 (x y : Int) : PureFn Tryd.prog Tryd.gl 49 [.int .i64 x, .int .i64 y] (.int .i64 (Tryd.cmpI x y)) := by
  unfold Tryd.cmpI
  by_cases h1 : x < y
  · rw [if_pos h1]; exact Tryd.run49 x y Tryd.cx2 (n := 0) (o := .inr (.int .i64 (-1))) (by simp [Tryd.o49, allT, h1]) rfl
  · by_cases h2 : x > y
    · rw [if_neg h1, if_pos h2]; exact Tryd.run49 x y Tryd.cx2 (n := 0) (o := .inr (.int .i64 1)) (by simp [Tryd.o49, allT, h1, h2]) rfl
    · rw [if_neg h1, if_neg h2]; exact Tryd.run49 x y Tryd.cx2 (n := 0) (o := .inr (.int .i64 0)) (by simp [Tryd.o49, allT, h1, h2]) rfl

theorem Tryd.s49_ok (ts : List T) (r : T) (cs : List Bool) (h : Tryd.s49 ts = some (r, cs)) (_ : allT cs = true) : PureFn Tryd.prog Tryd.gl 49 ts r := by
  unfold Tryd.s49 at h; split at h
  · cases h; exact Tryd.c49 _ _
  · cases h
theorem Tryd.s48_ok (ts : List T) (r : T) (cs : List Bool) (h : Tryd.s48 ts = some (r, cs)) (_ : allT cs = true) : PureFn Tryd.prog Tryd.gl 48 ts r := by
  unfold Tryd.s48 at h; split at h
  · cases h; exact Tryd.c48 _ _
  · cases h
theorem Tryd.cx3 : Cx Tryd.prog Tryd.D3 Tryd.F0 := ⟨Tryd.follows, pdAdd_ok (pdAdd_ok Tryd.cx2.hE Tryd.s48_ok) Tryd.s49_ok, Tryd.F0ok⟩
theorem Tryd.s51_ok (ts : List T) (r : T) (cs : List Bool) (h : Tryd.s49 ts = some (r, cs)) (_ : allT cs = true) : PureFn Tryd.prog Tryd.gl 51 ts r := by
  unfold Tryd.s49 at h; split at h
  · cases h; exact Tryd.run51 _ _ Tryd.cx3 (n := 0) (o := .inr _) (by unfold Tryd.o51; exact if_pos rfl) rfl
  · cases h
theorem Tryd.cx4 : Cx Tryd.prog Tryd.D4 Tryd.F0 := ⟨Tryd.follows, pdAdd_ok Tryd.cx3.hE Tryd.s51_ok, Tryd.F0ok⟩

/-! ### slices.CompareFunc -/
theorem Tryd.run50_eq (n1 n2 : Nat) (f g : Nat → Int) (hn : n1 ≤ 281474976710656) : ∀ (k i : Nat), k + i = n1 → (Tryd.M50 n1 n2 f g).run (k + 1) (.l0 n1 i) = some (.int .i64 (Tryd.cmpR n1 n2 f g k i)) := by
  intro k
  induction k with
  | zero =>
    intro i hi
    have h1 : ¬ ((i : Int) < n1) := by omega
    rw [Mch.run_succ]
    show (Tryd.step50_0 n1 n2 f g n1 i).bind ((Tryd.M50 n1 n2 f g).fin 0) = _
    unfold Tryd.step50_0 Tryd.cmpR
    by_cases h2 : n1 < n2
    · simp [allT, h1, h2]
    · simp [allT, h1, h2]
  | succ k ih =>
    intro i hi
    have h1 : ((i : Int) < n1) := by omega
    have h1' : i < n1 := by omega
    have h2 := Tryd.wsucc i (by omega)
    rw [Mch.run_succ]
    show (Tryd.step50_0 n1 n2 f g n1 i).bind ((Tryd.M50 n1 n2 f g).fin (k + 1)) = _
    unfold Tryd.step50_0 Tryd.cmpR
    rw [h2, Int.toNat_natCast]
    by_cases h3 : n2 ≤ i
    · have h3' : ((i : Int) ≥ n2) := by omega
      rw [if_pos h3, if_pos (by simp [allT, h3, h1'])]; rfl
    · have h3' : ¬ ((i : Int) ≥ n2) := by omega
      have h4 : i < n2 := by omega
      rw [if_neg h3, if_neg (by simp [allT, h3])]
      by_cases h5 : Tryd.cmpI (f i) (g i) = 0
      · rw [if_neg (by simp [allT, h5]), if_pos (by simp [allT, h5, h3, h4, h1']), if_neg (by simp [h5])]
        exact ih (i + 1) (by omega)
      · rw [if_pos (by simp [allT, h5, h3, h4, h1']), if_pos (by simp [h5])]; rfl

theorem Tryd.c50 (n1 n2 : Nat) (f g : Nat → Int) (hn : n1 ≤ 281474976710656) : PureFn Tryd.prog Tryd.gl 50 [isT n1 f, isT n2 g, .fn (.func 51) [] []] (.int .i64 (Tryd.cmpP n1 f n2 g)) :=
  Tryd.run50 n1 n2 f g Tryd.cx4 (n := n1 + 1) (o := .inl (.l0 n1 (0 : Nat))) (by simp [Tryd.o50, allT]) (Tryd.run50_eq n1 n2 f g hn n1 0 rfl)
theorem Tryd.s50_ok (ts : List T) (r : T) (cs : List Bool) (h : Tryd.s50 ts = some (r, cs)) (k : allT cs = true) : PureFn Tryd.prog Tryd.gl 50 ts r := by
  unfold Tryd.s50 at h; split at h
  · cases h
    simp only [allT, Bool.and_true, Bool.and_eq_true, isV_iff, decide_eq_true_eq] at k
    rw [k.1, k.2.1]; exact Tryd.c50 _ _ _ _ k.2.2
  · cases h
theorem Tryd.cx5 : Cx Tryd.prog Tryd.D5 Tryd.F0 := ⟨Tryd.follows, pdAdd_ok Tryd.cx4.hE Tryd.s50_ok, Tryd.F0ok⟩

theorem Tryd.c33 (a b : Sp) (h : a.n ≤ 281474976710656) : PureFn Tryd.prog Tryd.gl 33 [spT a, spT b] (.int .i64 (Tryd.cmpS a b)) :=
  Tryd.run33 a b Tryd.cx5 (n := 0) (o := .inr _) (by unfold Tryd.o33; exact if_pos (by simp [allT, isT, h])) rfl
theorem Tryd.s33_ok (ts : List T) (r : T) (cs : List Bool) (h : Tryd.s33 ts = some (r, cs)) (k : allT cs = true) : PureFn Tryd.prog Tryd.gl 33 ts r := by
  unfold Tryd.s33 at h; split at h
  · cases h
    simp only [allT, Bool.and_true, Bool.and_eq_true, isV_iff, decide_eq_true_eq] at k
    rw [k.1, k.2.1]; exact Tryd.c33 _ _ k.2.2
  · cases h
theorem Tryd.cx6 : Cx Tryd.prog Tryd.D6 Tryd.F0 := ⟨Tryd.follows, pdAdd_ok Tryd.cx5.hE Tryd.s33_ok, Tryd.F0ok⟩

theorem Tryd.s62_ok (ts : List T) (r : T) (cs : List Bool) (h : Tryd.s62 ts = some (r, cs)) (k : allT cs = true) : PureFn Tryd.prog Tryd.gl 62 ts r := by
  unfold Tryd.s62 at h; split at h
  · cases h
    simp only [allT, Bool.and_true, Bool.and_eq_true, isV_iff, decide_eq_true_eq] at k
    rw [k.1, k.2.1]; exact Tryd.run62 _ _ Tryd.cx6 (n := 0) (o := .inr _) (by unfold Tryd.o62; exact if_pos (by simp [allT, spT, k.2.2])) rfl
  · cases h
theorem Tryd.s53_ok (ts : List T) (r : T) (cs : List Bool) (h : Tryd.s53 ts = some (r, cs)) (k : allT cs = true) : PureFn Tryd.prog Tryd.gl 53 ts r := by
  unfold Tryd.s53 at h; split at h
  · cases h
    simp only [allT, Bool.and_true, Bool.and_eq_true, isV_iff, decide_eq_true_eq] at k
    rw [k.1, k.2.1]; exact Tryd.run53 _ _ Tryd.cx6 (n := 0) (o := .inr _) (by unfold Tryd.o53; exact if_pos (by simp [allT, spT, k.2.2])) rfl
  · cases h

/-! ### slices.IndexFunc -/
theorem Tryd.run54a_eq (m : Nat) (f : Nat → Int) (hn : m ≤ 281474976710656) : ∀ (k i : Nat), k + i = m → (Tryd.M54a m f).run (k + 1) (.l0 m i) = some (.int .i64 (Tryd.idxR (fun i => Tryd.bad (f i)) k i)) := by
  intro k
  induction k with
  | zero =>
    intro i hi
    have h1 : ¬ ((i : Int) < m) := by omega
    rw [Mch.run_succ]
    show (Tryd.step54a_0 m f m i).bind ((Tryd.M54a m f).fin 0) = _
    unfold Tryd.step54a_0 Tryd.idxR
    simp [allT, h1]
  | succ k ih =>
    intro i hi
    have h1 : ((i : Int) < m) := by omega
    rw [Mch.run_succ]
    show (Tryd.step54a_0 m f m i).bind ((Tryd.M54a m f).fin (k + 1)) = _
    unfold Tryd.step54a_0 Tryd.idxR
    rw [Tryd.wsucc i (by omega), Int.toNat_natCast, decide_eq_true h1, decide_eq_true (show (0 : Int) ≤ i by omega)]
    cases hb : Tryd.bad (f i)
    · simp only [allT]
      exact ih (i + 1) (by omega)
    · simp [allT]
theorem Tryd.run54b_eq (m : Nat) (f : Nat → Int) (c : Ct) (hn : m ≤ 281474976710656) (hf : ∀ i, i < m → 0 ≤ f i ∧ f i < c.n) : ∀ (k i : Nat), k + i = m → (Tryd.M54b m f c).run (k + 1) (.l0 m i) = some (.int .i64 (Tryd.idxR (fun i => ((c.line (f i).toNat).k : Int) != 1) k i)) := by
  intro k
  induction k with
  | zero =>
    intro i hi
    have h1 : ¬ ((i : Int) < m) := by omega
    rw [Mch.run_succ]
    show (Tryd.step54b_0 m f c m i).bind ((Tryd.M54b m f c).fin 0) = _
    unfold Tryd.step54b_0 Tryd.idxR
    simp [allT, h1]
  | succ k ih =>
    intro i hi
    have h1 : ((i : Int) < m) := by omega
    obtain ⟨h3, h4⟩ := hf i (by omega)
    rw [Mch.run_succ]
    show (Tryd.step54b_0 m f c m i).bind ((Tryd.M54b m f c).fin (k + 1)) = _
    unfold Tryd.step54b_0 Tryd.idxR
    rw [Tryd.wsucc i (by omega), Int.toNat_natCast, decide_eq_true h1, decide_eq_true (show (0 : Int) ≤ i by omega), decide_eq_true h3, decide_eq_true h4]
    cases hb : (((c.line (f i).toNat).k : Int) != 1)
    · simp only [allT, isV_self]
      exact ih (i + 1) (by omega)
    · simp [allT]
theorem Tryd.s54_ok (ts : List T) (r : T) (cs : List Bool) (h : Tryd.s54 ts = some (r, cs)) (k : allT cs = true) : PureFn Tryd.prog Tryd.gl 54 ts r := by
  unfold Tryd.s54 at h; split at h
  · rename_i t
    cases h
    simp only [allT, Bool.and_true, Bool.and_eq_true, isV_iff, decide_eq_true_eq] at k
    rw [k.1]; exact Tryd.run54a _ _ Tryd.cx2 (n := slN t + 1) (o := .inl (.l0 (slN t) (0 : Nat))) (by simp [Tryd.o54a, allT]) (Tryd.run54a_eq _ _ k.2 (slN t) 0 rfl)
  · rename_i t c
    cases h
    simp only [allT, Bool.and_true, Bool.and_eq_true, isV_iff, decide_eq_true_eq] at k
    rw [k.1, k.2.1]; exact Tryd.run54b _ _ _ Tryd.cx2 (n := slN t + 1) (o := .inl (.l0 (slN t) (0 : Nat))) (by simp [Tryd.o54b, allT]) (Tryd.run54b_eq _ _ _ k.2.2.1 k.2.2.2 (slN t) 0 rfl)
  · cases h
theorem Tryd.cx7 : Cx Tryd.prog Tryd.D7 Tryd.F0 := ⟨Tryd.follows, pdAdd_ok (pdAdd_ok (pdAdd_ok Tryd.cx6.hE Tryd.s54_ok) Tryd.s53_ok) Tryd.s62_ok, Tryd.F0ok⟩

theorem Tryd.s38_ok (ts : List T) (r : T) (cs : List Bool) (h : Tryd.s38 ts = some (r, cs)) (k : allT cs = true) : PureFn Tryd.prog Tryd.gl 38 ts r := by
  unfold Tryd.s38 at h; split at h
  · rename_i t
    cases h
    simp only [allT, Bool.and_true, Bool.and_eq_true, isV_iff, decide_eq_true_eq] at k
    rw [k.1]; exact Tryd.run38a _ _ Tryd.cx7 (n := 0) (o := .inr _) (by unfold Tryd.o38a; exact if_pos (by simp [allT, isT, k.2])) rfl
  · rename_i t c
    cases h
    simp only [allT, Bool.and_true, Bool.and_eq_true, isV_iff, decide_eq_true_eq] at k
    rw [k.1, k.2.1]; exact Tryd.run38b _ _ _ Tryd.cx7 (n := 0) (o := .inr _) (by unfold Tryd.o38b; refine if_pos ?_; simp only [allT, isT, isV_self, k.2.2.1, decide_true, Bool.and_true, Bool.true_and, decide_eq_true_eq]; exact k.2.2.2) rfl
  · cases h

/-! ### slices.BinarySearchFunc -/
theorem Tryd.mid (i j : Nat) (h : i + j < 4611686018427387904) : IntKind.i64.wrap ((IntKind.u64.wrap (IntKind.i64.wrap ((i : Int) + j))).fdiv (2 ^ 1)) = (((i + j) / 2 : Nat) : Int) := by
  have h0 : IntKind.i64.wrap ((i : Int) + j) = (i : Int) + j := IntWalk.i64_in _ (by omega)
  have h1 : IntKind.u64.wrap ((i : Int) + j) = (i : Int) + j := by
    show ((i : Int) + j) % 18446744073709551616 = _
    omega
  rw [h0, h1, Int.fdiv_eq_ediv_of_nonneg _ (by decide), IntWalk.i64_in _ (by omega)]
  omega
theorem Tryd.run52_eq (m : Nat) (f : Nat → Ln) (s : Sp) (hm : Tryd.modest m f) : ∀ (k i j : Nat), j - i ≤ k → i ≤ j → j ≤ m → (Tryd.M52 m f s).run (k + 1) (.l0 m i j) = some (.tup [.int .i64 (Tryd.bsR (fun i => Tryd.cmpS (f i).st s) k i j), .bool (decide (Tryd.bsR (fun i => Tryd.cmpS (f i).st s) k i j < m) && Tryd.cmpS (f (Tryd.bsR (fun i => Tryd.cmpS (f i).st s) k i j)).st s == 0)]) := by
  intro k
  have ends : ∀ (n i j : Nat), i = j → j ≤ m → (Tryd.step52_0 m f s m i j).bind ((Tryd.M52 m f s).fin n) = some (.tup [.int .i64 (i : Nat), .bool (decide (i < m) && Tryd.cmpS (f i).st s == 0)]) := by
    intro n i j hij hjm
    subst hij
    unfold Tryd.step52_0
    by_cases h3 : i < m
    · have h4 := hm.2 i h3
      simp [allT, lnT, spT, h3, h4]
    · simp [allT, h3]
  induction k with
  | zero =>
    intro i j h1 h2 h3
    rw [Mch.run_succ]
    show (Tryd.step52_0 m f s m i j).bind ((Tryd.M52 m f s).fin 0) = _
    rw [ends 0 i j (by omega) h3]
    rfl
  | succ k ih =>
    intro i j h1 h2 h3
    rw [Mch.run_succ]
    show (Tryd.step52_0 m f s m i j).bind ((Tryd.M52 m f s).fin (k + 1)) = _
    by_cases h4 : i < j
    · have hb := hm.1
      have hmid := Tryd.mid i j (by omega)
      have h5 : (i + j) / 2 < m := by omega
      have h6 := hm.2 _ h5
      unfold Tryd.step52_0
      rw [hmid, Int.toNat_natCast, Tryd.wsucc ((i + j) / 2) (by omega)]
      unfold Tryd.bsR
      rw [if_pos h4]
      by_cases h7 : Tryd.cmpS (f ((i + j) / 2)).st s < 0
      · rw [if_pos (by simp [allT, lnT, spT, h4, h6, h7]; omega), if_pos h7]
        exact ih _ _ (by omega) (by omega) h3
      · rw [if_neg (by simp [allT, h7]), if_pos (by simp [allT, lnT, spT, h4, h6, h7]; omega), if_neg h7]
        exact ih _ _ (by omega) (by omega) (by omega)
    · rw [ends (k + 1) i j (by omega) h3]
      unfold Tryd.bsR
      rw [if_neg h4]
theorem Tryd.modestB_iff {n : Nat} {f : Nat → Ln} : Tryd.modestB n f = true ↔ Tryd.modest n f := by unfold Tryd.modestB; simp
theorem Tryd.s52_ok (ts : List T) (r : T) (cs : List Bool) (h : Tryd.s52 ts = some (r, cs)) (k : allT cs = true) : PureFn Tryd.prog Tryd.gl 52 ts r := by
  unfold Tryd.s52 at h; split at h
  · rename_i t u
    cases h
    simp only [allT, Bool.and_true, Bool.and_eq_true, isV_iff, Tryd.modestB_iff] at k
    rw [k.1, k.2.1]; exact Tryd.run52 _ _ _ Tryd.cx7 (n := slN t + 1) (o := .inl (.l0 (slN t) (0 : Nat) (slN t))) (by simp [Tryd.o52, allT]) (Tryd.run52_eq _ _ _ k.2.2 (slN t) 0 (slN t) (by omega) (by omega) (by omega))
  · cases h

/-! ### find of the law -/
theorem Tryd.run41_eq (m : Nat) (f : Nat → Ln) (s : Sp) (hm : Tryd.modest m f) : ∀ (k i : Nat), k + i = m → (Tryd.M41 m f s).run (k + 1) (.l0 i) = some (.int .i64 (Tryd.idxR (fun i => Tryd.eqS (f i).st s) k i)) := by
  intro k
  induction k with
  | zero =>
    intro i hi
    have h1 : ¬ ((i : Int) < m) := by omega
    rw [Mch.run_succ]
    show (Tryd.step41_0 m f s i).bind ((Tryd.M41 m f s).fin 0) = _
    unfold Tryd.step41_0 Tryd.idxR
    simp [allT, h1]
  | succ k ih =>
    intro i hi
    have h1 : ((i : Int) < m) := by omega
    have h2 := hm.2 i (by omega)
    have h3 := hm.1
    rw [Mch.run_succ]
    show (Tryd.step41_0 m f s i).bind ((Tryd.M41 m f s).fin (k + 1)) = _
    unfold Tryd.step41_0 Tryd.idxR
    rw [Tryd.wsucc i (by omega), Int.toNat_natCast, decide_eq_true h1, decide_eq_true (show (0 : Int) ≤ i by omega)]
    cases hb : Tryd.eqS (f i).st s
    · simp only [allT, spT, isV_self, decide_eq_true h2]
      exact ih (i + 1) (by omega)
    · simp [allT, spT, h2]
theorem Tryd.s41_ok (ts : List T) (r : T) (cs : List Bool) (h : Tryd.s41 ts = some (r, cs)) (k : allT cs = true) : PureFn Tryd.prog Tryd.gl 41 ts r := by
  unfold Tryd.s41 at h; split at h
  · rename_i t u
    cases h
    simp only [allT, Bool.and_true, Bool.and_eq_true, isV_iff, Tryd.modestB_iff] at k
    rw [k.1, k.2.1]; exact Tryd.run41 _ _ _ Tryd.cx7 (n := slN t + 1) (o := .inl (.l0 (0 : Nat))) (by simp [Tryd.o41, allT]) (Tryd.run41_eq _ _ _ k.2.2 (slN t) 0 rfl)
  · cases h
theorem Tryd.cx8 : Cx Tryd.prog Tryd.D8 Tryd.F0 := ⟨Tryd.follows, pdAdd_ok (pdAdd_ok (pdAdd_ok Tryd.cx7.hE Tryd.s41_ok) Tryd.s52_ok) Tryd.s38_ok, Tryd.F0ok⟩

theorem Tryd.s36_ok (ts : List T) (r : T) (cs : List Bool) (h : Tryd.s36 ts = some (r, cs)) (k : allT cs = true) : PureFn Tryd.prog Tryd.gl 36 ts r := by
  unfold Tryd.s36 at h; split at h
  · rename_i t u
    cases h
    simp only [allT, Bool.and_true, Bool.and_eq_true, isV_iff] at k
    rw [k.1, k.2.1]; exact Tryd.run36 _ _ _ Tryd.cx8 (n := 0) (o := .inr _) (by unfold Tryd.o36; exact if_pos (by simp [allT, lsT, spT, k.2.2])) rfl
  · cases h
theorem Tryd.c32 (s : Sp) (h : s.n ≤ 281474976710656) : PureFn Tryd.prog Tryd.gl 32 [spT s] (.int .i64 (Tryd.chk s)) := by
  refine Tryd.run32 s Tryd.cx8 (n := 0) (o := .inr (.int .i64 (Tryd.chk s))) ?_ rfl
  unfold Tryd.o32 Tryd.chk
  cases e1 : decide (s.entry < 1) with
  | true => simp only [allT, isT, isV_self, Bool.and_true, Bool.true_and, Bool.and_false, Bool.false_and, Bool.not_true, Bool.not_false, reduceIte, Bool.false_eq_true]
  | false =>
    cases e2 : decide (s.entry > 1048576) with
    | true => simp only [allT, isT, isV_self, Bool.and_true, Bool.true_and, Bool.and_false, Bool.false_and, Bool.not_true, Bool.not_false, reduceIte, Bool.false_eq_true]
    | false =>
      cases e3 : ((s.n : Int) == 0) with
      | true => simp only [allT, isT, isV_self, Bool.and_true, Bool.true_and, Bool.and_false, Bool.false_and, Bool.not_true, Bool.not_false, reduceIte, Bool.false_eq_true]
      | false =>
        have e0 : decide ((0 : Int) < s.n) = true := by
          simp only [beq_eq_false_iff_ne] at e3
          exact decide_eq_true (by omega)
        cases e4 : decide ((s.n : Int) > 512) with
        | true => simp only [allT, isT, isV_self, Bool.and_true, Bool.true_and, Bool.and_false, Bool.false_and, Bool.not_true, Bool.not_false, reduceIte, Bool.false_eq_true]
        | false =>
          cases e5 : Tryd.any s.n (fun i => Tryd.bad (s.at_ i)) with
          | true => simp only [allT, isT, isV_self, Bool.and_true, Bool.true_and, Bool.and_false, Bool.false_and, Bool.not_true, Bool.not_false, reduceIte, Bool.false_eq_true, decide_eq_true h]
          | false =>
            cases e6 : decide (s.at_ 0 > 1) with
            | true => simp only [allT, isT, isV_self, Bool.and_true, Bool.true_and, Bool.and_false, Bool.false_and, Bool.not_true, Bool.not_false, reduceIte, Bool.false_eq_true, decide_eq_true h, e0]
            | false =>
              cases e7 : (s.at_ 0 == 1) with
              | true => simp only [allT, isT, isV_self, Bool.and_true, Bool.true_and, Bool.and_false, Bool.false_and, Bool.not_true, Bool.not_false, reduceIte, Bool.false_eq_true, decide_eq_true h, e0]
              | false =>
                cases e8 : ((s.n : Int) == 1) with
                | true => simp only [allT, isT, isV_self, Bool.and_true, Bool.true_and, Bool.and_false, Bool.false_and, Bool.not_true, Bool.not_false, reduceIte, Bool.false_eq_true, decide_eq_true h, e0]
                | false =>
                  have e9 : decide ((1 : Int) < s.n) = true := by
                    simp only [beq_eq_false_iff_ne] at e3 e8
                    exact decide_eq_true (by omega)
                  cases e10 : decide (s.at_ 1 ≥ 128) with
                  | true => simp only [allT, isT, isV_self, Bool.and_true, Bool.true_and, Bool.and_false, Bool.false_and, Bool.not_true, Bool.not_false, reduceIte, Bool.false_eq_true, decide_eq_true h, e0, e9]
                  | false => simp only [allT, isT, isV_self, Bool.and_true, Bool.true_and, Bool.and_false, Bool.false_and, Bool.not_true, Bool.not_false, reduceIte, Bool.false_eq_true, decide_eq_true h, e0, e9]
theorem Tryd.s32_ok (ts : List T) (r : T) (cs : List Bool) (h : Tryd.s32 ts = some (r, cs)) (k : allT cs = true) : PureFn Tryd.prog Tryd.gl 32 ts r := by
  unfold Tryd.s32 at h; split at h
  · cases h
    simp only [allT, Bool.and_true, Bool.and_eq_true, isV_iff, decide_eq_true_eq] at k
    rw [k.1]; exact Tryd.c32 _ k.2
  · cases h
theorem Tryd.cx9 : Cx Tryd.prog Tryd.D9 Tryd.F0 := ⟨Tryd.follows, pdAdd_ok (pdAdd_ok Tryd.cx8.hE Tryd.s32_ok) Tryd.s36_ok, Tryd.F0ok⟩
end Go.Proofs

/- children of the law as a machine, by program (gen2). -/
namespace Go.Proofs.Tryd
open Go.Ps
set_option maxRecDepth 100000
set_option linter.unusedVariables false
set_option linter.unusedSimpArgs false

/-! ### 43 -/
inductive S43 where
  | l0n (x6 : Int)
  | l0o (L : Nat) (N : Nat) (x6 : Int) (H : Hp)
  | l1n (x6 : Int) (x7 : Int)
  | l1o (L : Nat) (N : Nat) (x6 : Int) (x7 : Int) (H : Hp)
noncomputable def g43_s_1 (m : Nat) (f : Nat → Ln) (s : Sp) : List Bool := []
theorem w43_s_1 (m : Nat) (f : Nat → Ln) (s : Sp) : outK prog f43 20 [0, 3, 5, 6] (runK prog D9 F0 2000 (.code (bodyOf f43)) [] 0 ([lsT m f, spT s] ++ List.replicate 37 undefT) ⟨0, []⟩ [] [])
    = some (OutT.loop 0 (loopAt f43 0).1 (loopAt f43 0).2, g43_s_1 m f s, { next := 0, objs := [] }, [T.slf false m fun i => lnT (f i), (spT s).ref 0, T.nils, T.int .i64 0], 39) := by kernel_rfl
noncomputable def g43_0n_1 (m : Nat) (f : Nat → Ln) (s : Sp) (x6 : Int) : List Bool := [decide (x6 < (↑m : Int))]
theorem w43_0n_1 (m : Nat) (f : Nat → Ln) (s : Sp) (x6 : Int) (fr : List T) : outK prog f43 20 [0, 3, 5, 6, 7] (runK prog D9 F0 2000 (.code (loopAt f43 0).1) (.lp :: (loopAt f43 0).2) 0 (frK [0, 3, 5, 6] [T.slf false m fun i => lnT (f i), (spT s).ref 0, T.nils, T.int .i64 x6] fr 39) ⟨0, []⟩ [true] [])
    = some (OutT.loop 0 (loopAt f43 1).1 (loopAt f43 1).2, g43_0n_1 m f s x6, { next := 0, objs := [] }, [T.slf false m fun i => lnT (f i), (spT s).ref 0, T.nils, T.int .i64 x6, T.int .i64 0], 39) := by kernel_rfl
noncomputable def g43_0n_2 (m : Nat) (f : Nat → Ln) (s : Sp) (x6 : Int) : List Bool := [!decide (x6 < (↑m : Int))]
theorem w43_0n_2 (m : Nat) (f : Nat → Ln) (s : Sp) (x6 : Int) (fr : List T) : outK prog f43 20 [] (runK prog D9 F0 2000 (.code (loopAt f43 0).1) (.lp :: (loopAt f43 0).2) 0 (frK [0, 3, 5, 6] [T.slf false m fun i => lnT (f i), (spT s).ref 0, T.nils, T.int .i64 x6] fr 39) ⟨0, []⟩ [false] [])
    = some (OutT.done (some T.nils), g43_0n_2 m f s x6, { next := 0, objs := [] }, [], 0) := by kernel_rfl
noncomputable def g43_1n_1 (m : Nat) (f : Nat → Ln) (s : Sp) (x6 : Int) (x7 : Int) : List Bool := [true, true, true, eqS ((f x6.toNat).from_ x7.toNat) s, isV (spT ((f x6.toNat).from_ x7.toNat)) (spT ((f x6.toNat).from_ x7.toNat)), isV (spT s) (spT s), decide (((f x6.toNat).from_ x7.toNat).n ≤ 281474976710656), decide (0 ≤ x7), decide (x7 < (↑(f x6.toNat).k : Int)), true, decide (0 ≤ x6), decide (x6 < (↑m : Int)), true, decide (x7 < (↑(f x6.toNat).k : Int)), decide (0 ≤ x6), decide (x6 < (↑m : Int)), true]
theorem w43_1n_1 (m : Nat) (f : Nat → Ln) (s : Sp) (x6 : Int) (x7 : Int) (fr : List T) : outK prog f43 20 [0, 3, 5, 6, 7] (runK prog D9 F0 2000 (.code (loopAt f43 1).1) (.lp :: (loopAt f43 1).2) 0 (frK [0, 3, 5, 6, 7] [T.slf false m fun i => lnT (f i), (spT s).ref 0, T.nils, T.int .i64 x6, T.int .i64 x7] fr 39) ⟨0, []⟩ [true, true] [])
    = some (OutT.again 0, g43_1n_1 m f s x6 x7, { next := 1, objs := [(0, { elem := 3, sz := 1, cells := [T.int .i64 x6] })] }, [T.slf false m fun i => lnT (f i), (spT s).ref 0, T.osl 0 1 0 1, T.int .i64 x6, T.int .i64 (IntKind.i64.wrap (x7 + 1))], 39) := by kernel_rfl
noncomputable def g43_1n_2 (m : Nat) (f : Nat → Ln) (s : Sp) (x6 : Int) (x7 : Int) : List Bool := [!eqS ((f x6.toNat).from_ x7.toNat) s, isV (spT ((f x6.toNat).from_ x7.toNat)) (spT ((f x6.toNat).from_ x7.toNat)), isV (spT s) (spT s), decide (((f x6.toNat).from_ x7.toNat).n ≤ 281474976710656), decide (0 ≤ x7), decide (x7 < (↑(f x6.toNat).k : Int)), true, decide (0 ≤ x6), decide (x6 < (↑m : Int)), true, decide (x7 < (↑(f x6.toNat).k : Int)), decide (0 ≤ x6), decide (x6 < (↑m : Int)), true]
theorem w43_1n_2 (m : Nat) (f : Nat → Ln) (s : Sp) (x6 : Int) (x7 : Int) (fr : List T) : outK prog f43 20 [0, 3, 5, 6, 7] (runK prog D9 F0 2000 (.code (loopAt f43 1).1) (.lp :: (loopAt f43 1).2) 0 (frK [0, 3, 5, 6, 7] [T.slf false m fun i => lnT (f i), (spT s).ref 0, T.nils, T.int .i64 x6, T.int .i64 x7] fr 39) ⟨0, []⟩ [true, false] [])
    = some (OutT.again 0, g43_1n_2 m f s x6 x7, { next := 0, objs := [] }, [T.slf false m fun i => lnT (f i), (spT s).ref 0, T.nils, T.int .i64 x6, T.int .i64 (IntKind.i64.wrap (x7 + 1))], 39) := by kernel_rfl
noncomputable def g43_1n_3 (m : Nat) (f : Nat → Ln) (s : Sp) (x6 : Int) (x7 : Int) : List Bool := [!decide (x7 < (↑(f x6.toNat).k : Int)), decide (0 ≤ x6), decide (x6 < (↑m : Int)), true]
theorem w43_1n_3 (m : Nat) (f : Nat → Ln) (s : Sp) (x6 : Int) (x7 : Int) (fr : List T) : outK prog f43 20 [0, 3, 5, 6] (runK prog D9 F0 2000 (.code (loopAt f43 1).1) (.lp :: (loopAt f43 1).2) 0 (frK [0, 3, 5, 6, 7] [T.slf false m fun i => lnT (f i), (spT s).ref 0, T.nils, T.int .i64 x6, T.int .i64 x7] fr 39) ⟨0, []⟩ [false] [])
    = some (OutT.again 1, g43_1n_3 m f s x6 x7, { next := 0, objs := [] }, [T.slf false m fun i => lnT (f i), (spT s).ref 0, T.nils, T.int .i64 (IntKind.i64.wrap (x6 + 1))], 39) := by kernel_rfl
noncomputable def g43_1o_1 (m : Nat) (f : Nat → Ln) (s : Sp) (L : Nat) (N : Nat) (x6 : Int) (x7 : Int) (H : Hp) : List Bool := [true, true, obApp H L 3 1 N, roomT (N + 1) 8, eqS ((f x6.toNat).from_ x7.toNat) s, isV (spT ((f x6.toNat).from_ x7.toNat)) (spT ((f x6.toNat).from_ x7.toNat)), isV (spT s) (spT s), decide (((f x6.toNat).from_ x7.toNat).n ≤ 281474976710656), decide (0 ≤ x7), decide (x7 < (↑(f x6.toNat).k : Int)), true, decide (0 ≤ x6), decide (x6 < (↑m : Int)), true, decide (x7 < (↑(f x6.toNat).k : Int)), decide (0 ≤ x6), decide (x6 < (↑m : Int)), true]
theorem w43_1o_1 (m : Nat) (f : Nat → Ln) (s : Sp) (L : Nat) (N : Nat) (x6 : Int) (x7 : Int) (H : Hp) (fr : List T) : outK prog f43 20 [0, 3, 5, 6, 7] (runK prog D9 F0 2000 (.code (loopAt f43 1).1) (.lp :: (loopAt f43 1).2) 0 (frK [0, 3, 5, 6, 7] [T.slf false m fun i => lnT (f i), (spT s).ref 0, T.osl L 1 0 N, T.int .i64 x6, T.int .i64 x7] fr 39) H [true, true] [])
    = some (OutT.again 0, g43_1o_1 m f s L N x6 x7 H, { next := H.next + 1, objs := (H.next, { elem := 3, sz := 1, cells := (obv H L).cells ++ [T.int .i64 x6] }) :: dropOb H.objs L }, [T.slf false m fun i => lnT (f i), (spT s).ref 0, T.osl H.next 1 0 (N + 1), T.int .i64 x6, T.int .i64 (IntKind.i64.wrap (x7 + 1))], 39) := by kernel_rfl
noncomputable def g43_1o_2 (m : Nat) (f : Nat → Ln) (s : Sp) (L : Nat) (N : Nat) (x6 : Int) (x7 : Int) (H : Hp) : List Bool := [!eqS ((f x6.toNat).from_ x7.toNat) s, isV (spT ((f x6.toNat).from_ x7.toNat)) (spT ((f x6.toNat).from_ x7.toNat)), isV (spT s) (spT s), decide (((f x6.toNat).from_ x7.toNat).n ≤ 281474976710656), decide (0 ≤ x7), decide (x7 < (↑(f x6.toNat).k : Int)), true, decide (0 ≤ x6), decide (x6 < (↑m : Int)), true, decide (x7 < (↑(f x6.toNat).k : Int)), decide (0 ≤ x6), decide (x6 < (↑m : Int)), true]
theorem w43_1o_2 (m : Nat) (f : Nat → Ln) (s : Sp) (L : Nat) (N : Nat) (x6 : Int) (x7 : Int) (H : Hp) (fr : List T) : outK prog f43 20 [0, 3, 5, 6, 7] (runK prog D9 F0 2000 (.code (loopAt f43 1).1) (.lp :: (loopAt f43 1).2) 0 (frK [0, 3, 5, 6, 7] [T.slf false m fun i => lnT (f i), (spT s).ref 0, T.osl L 1 0 N, T.int .i64 x6, T.int .i64 x7] fr 39) H [true, false] [])
    = some (OutT.again 0, g43_1o_2 m f s L N x6 x7 H, H, [T.slf false m fun i => lnT (f i), (spT s).ref 0, T.osl L 1 0 N, T.int .i64 x6, T.int .i64 (IntKind.i64.wrap (x7 + 1))], 39) := by kernel_rfl
noncomputable def g43_1o_3 (m : Nat) (f : Nat → Ln) (s : Sp) (L : Nat) (N : Nat) (x6 : Int) (x7 : Int) (H : Hp) : List Bool := [!decide (x7 < (↑(f x6.toNat).k : Int)), decide (0 ≤ x6), decide (x6 < (↑m : Int)), true]
theorem w43_1o_3 (m : Nat) (f : Nat → Ln) (s : Sp) (L : Nat) (N : Nat) (x6 : Int) (x7 : Int) (H : Hp) (fr : List T) : outK prog f43 20 [0, 3, 5, 6] (runK prog D9 F0 2000 (.code (loopAt f43 1).1) (.lp :: (loopAt f43 1).2) 0 (frK [0, 3, 5, 6, 7] [T.slf false m fun i => lnT (f i), (spT s).ref 0, T.osl L 1 0 N, T.int .i64 x6, T.int .i64 x7] fr 39) H [false] [])
    = some (OutT.again 1, g43_1o_3 m f s L N x6 x7 H, H, [T.slf false m fun i => lnT (f i), (spT s).ref 0, T.osl L 1 0 N, T.int .i64 (IntKind.i64.wrap (x6 + 1))], 39) := by kernel_rfl
noncomputable def g43_0o_1 (m : Nat) (f : Nat → Ln) (s : Sp) (L : Nat) (N : Nat) (x6 : Int) (H : Hp) : List Bool := [decide (x6 < (↑m : Int))]
theorem w43_0o_1 (m : Nat) (f : Nat → Ln) (s : Sp) (L : Nat) (N : Nat) (x6 : Int) (H : Hp) (fr : List T) : outK prog f43 20 [0, 3, 5, 6, 7] (runK prog D9 F0 2000 (.code (loopAt f43 0).1) (.lp :: (loopAt f43 0).2) 0 (frK [0, 3, 5, 6] [T.slf false m fun i => lnT (f i), (spT s).ref 0, T.osl L 1 0 N, T.int .i64 x6] fr 39) H [true] [])
    = some (OutT.loop 0 (loopAt f43 1).1 (loopAt f43 1).2, g43_0o_1 m f s L N x6 H, H, [T.slf false m fun i => lnT (f i), (spT s).ref 0, T.osl L 1 0 N, T.int .i64 x6, T.int .i64 0], 39) := by kernel_rfl
noncomputable def g43_0o_2 (m : Nat) (f : Nat → Ln) (s : Sp) (L : Nat) (N : Nat) (x6 : Int) (H : Hp) : List Bool := [!decide (x6 < (↑m : Int))]
theorem w43_0o_2 (m : Nat) (f : Nat → Ln) (s : Sp) (L : Nat) (N : Nat) (x6 : Int) (H : Hp) (fr : List T) : outK prog f43 20 [] (runK prog D9 F0 2000 (.code (loopAt f43 0).1) (.lp :: (loopAt f43 0).2) 0 (frK [0, 3, 5, 6] [T.slf false m fun i => lnT (f i), (spT s).ref 0, T.osl L 1 0 N, T.int .i64 x6] fr 39) H [false] [])
    = some (OutT.done (frzT 20 H (T.osl L 1 0 N)), g43_0o_2 m f s L N x6 H, { next := 0, objs := [] }, [], 0) := by kernel_rfl
noncomputable def step43_0n (m : Nat) (f : Nat → Ln) (s : Sp) (x6 : Int) : Option (S43 ⊕ T) :=
  (if decide (x6 < (↑m : Int)) then (if allT (g43_0n_1 m f s x6) then some (.inl (.l1n x6 0)) else none) else (if allT (g43_0n_2 m f s x6) then some (.inr (T.nils)) else none))
noncomputable def V43_0n (m : Nat) (f : Nat → Ln) (s : Sp) (x6 : Int) : S43 ⊕ T :=
  (if decide (x6 < (↑m : Int)) then (.inl (.l1n x6 0)) else (.inr (T.nils)))
noncomputable def K43_0n (m : Nat) (f : Nat → Ln) (s : Sp) (x6 : Int) : Bool :=
  (if decide (x6 < (↑m : Int)) then (allT (g43_0n_1 m f s x6)) else (allT (g43_0n_2 m f s x6)))
theorem T43_0n (m : Nat) (f : Nat → Ln) (s : Sp) (x6 : Int) (hk : K43_0n m f s x6 = true) : step43_0n m f s x6 = some (V43_0n m f s x6) :=
  (tree_if tree_leaf tree_leaf) hk
noncomputable def step43_0o (m : Nat) (f : Nat → Ln) (s : Sp) (L : Nat) (N : Nat) (x6 : Int) (H : Hp) : Option (S43 ⊕ T) :=
  (if decide (x6 < (↑m : Int)) then (if allT (g43_0o_1 m f s L N x6 H) then some (.inl (.l1o L N x6 0 H)) else none) else (if allT (g43_0o_2 m f s L N x6 H) then ((frzT 20 H (T.osl L 1 0 N))).map .inr else none))
noncomputable def V43_0o (m : Nat) (f : Nat → Ln) (s : Sp) (L : Nat) (N : Nat) (x6 : Int) (H : Hp) : S43 ⊕ T :=
  (if decide (x6 < (↑m : Int)) then (.inl (.l1o L N x6 0 H)) else (.inr (((frzT 20 H (T.osl L 1 0 N))).getD undefT)))
noncomputable def K43_0o (m : Nat) (f : Nat → Ln) (s : Sp) (L : Nat) (N : Nat) (x6 : Int) (H : Hp) : Bool :=
  (if decide (x6 < (↑m : Int)) then (allT (g43_0o_1 m f s L N x6 H)) else (allT (g43_0o_2 m f s L N x6 H) && ((frzT 20 H (T.osl L 1 0 N))).isSome))
theorem T43_0o (m : Nat) (f : Nat → Ln) (s : Sp) (L : Nat) (N : Nat) (x6 : Int) (H : Hp) (hk : K43_0o m f s L N x6 H = true) : step43_0o m f s L N x6 H = some (V43_0o m f s L N x6 H) :=
  (tree_if tree_leaf tree_leafO) hk
noncomputable def step43_1n (m : Nat) (f : Nat → Ln) (s : Sp) (x6 : Int) (x7 : Int) : Option (S43 ⊕ T) :=
  (if decide (x7 < (↑(f x6.toNat).k : Int)) then (if eqS ((f x6.toNat).from_ x7.toNat) s then (if allT (g43_1n_1 m f s x6 x7) then some (.inl (.l1o 0 1 x6 (IntKind.i64.wrap (x7 + 1)) ({ next := 1, objs := [(0, { elem := 3, sz := 1, cells := [T.int .i64 x6] })] }))) else none) else (if allT (g43_1n_2 m f s x6 x7) then some (.inl (.l1n x6 (IntKind.i64.wrap (x7 + 1)))) else none)) else (if allT (g43_1n_3 m f s x6 x7) then some (.inl (.l0n (IntKind.i64.wrap (x6 + 1)))) else none))
noncomputable def V43_1n (m : Nat) (f : Nat → Ln) (s : Sp) (x6 : Int) (x7 : Int) : S43 ⊕ T :=
  (if decide (x7 < (↑(f x6.toNat).k : Int)) then (if eqS ((f x6.toNat).from_ x7.toNat) s then (.inl (.l1o 0 1 x6 (IntKind.i64.wrap (x7 + 1)) ({ next := 1, objs := [(0, { elem := 3, sz := 1, cells := [T.int .i64 x6] })] }))) else (.inl (.l1n x6 (IntKind.i64.wrap (x7 + 1))))) else (.inl (.l0n (IntKind.i64.wrap (x6 + 1)))))
noncomputable def K43_1n (m : Nat) (f : Nat → Ln) (s : Sp) (x6 : Int) (x7 : Int) : Bool :=
  (if decide (x7 < (↑(f x6.toNat).k : Int)) then (if eqS ((f x6.toNat).from_ x7.toNat) s then (allT (g43_1n_1 m f s x6 x7)) else (allT (g43_1n_2 m f s x6 x7))) else (allT (g43_1n_3 m f s x6 x7)))
theorem T43_1n (m : Nat) (f : Nat → Ln) (s : Sp) (x6 : Int) (x7 : Int) (hk : K43_1n m f s x6 x7 = true) : step43_1n m f s x6 x7 = some (V43_1n m f s x6 x7) :=
  (tree_if (tree_if tree_leaf tree_leaf) tree_leaf) hk
noncomputable def step43_1o (m : Nat) (f : Nat → Ln) (s : Sp) (L : Nat) (N : Nat) (x6 : Int) (x7 : Int) (H : Hp) : Option (S43 ⊕ T) :=
  (if decide (x7 < (↑(f x6.toNat).k : Int)) then (if eqS ((f x6.toNat).from_ x7.toNat) s then (if allT (g43_1o_1 m f s L N x6 x7 H) then some (.inl (.l1o H.next (N + 1) x6 (IntKind.i64.wrap (x7 + 1)) ({ next := H.next + 1, objs := (H.next, { elem := 3, sz := 1, cells := (obv H L).cells ++ [T.int .i64 x6] }) :: dropOb H.objs L }))) else none) else (if allT (g43_1o_2 m f s L N x6 x7 H) then some (.inl (.l1o L N x6 (IntKind.i64.wrap (x7 + 1)) H)) else none)) else (if allT (g43_1o_3 m f s L N x6 x7 H) then some (.inl (.l0o L N (IntKind.i64.wrap (x6 + 1)) H)) else none))
noncomputable def V43_1o (m : Nat) (f : Nat → Ln) (s : Sp) (L : Nat) (N : Nat) (x6 : Int) (x7 : Int) (H : Hp) : S43 ⊕ T :=
  (if decide (x7 < (↑(f x6.toNat).k : Int)) then (if eqS ((f x6.toNat).from_ x7.toNat) s then (.inl (.l1o H.next (N + 1) x6 (IntKind.i64.wrap (x7 + 1)) ({ next := H.next + 1, objs := (H.next, { elem := 3, sz := 1, cells := (obv H L).cells ++ [T.int .i64 x6] }) :: dropOb H.objs L }))) else (.inl (.l1o L N x6 (IntKind.i64.wrap (x7 + 1)) H))) else (.inl (.l0o L N (IntKind.i64.wrap (x6 + 1)) H)))
noncomputable def K43_1o (m : Nat) (f : Nat → Ln) (s : Sp) (L : Nat) (N : Nat) (x6 : Int) (x7 : Int) (H : Hp) : Bool :=
  (if decide (x7 < (↑(f x6.toNat).k : Int)) then (if eqS ((f x6.toNat).from_ x7.toNat) s then (allT (g43_1o_1 m f s L N x6 x7 H)) else (allT (g43_1o_2 m f s L N x6 x7 H))) else (allT (g43_1o_3 m f s L N x6 x7 H)))
theorem T43_1o (m : Nat) (f : Nat → Ln) (s : Sp) (L : Nat) (N : Nat) (x6 : Int) (x7 : Int) (H : Hp) (hk : K43_1o m f s L N x6 x7 H = true) : step43_1o m f s L N x6 x7 H = some (V43_1o m f s L N x6 x7 H) :=
  (tree_if (tree_if tree_leaf tree_leaf) tree_leaf) hk
noncomputable def o43 (m : Nat) (f : Nat → Ln) (s : Sp) : Option (S43 ⊕ T) :=
  (if allT (g43_s_1 m f s) then some (.inl (.l0n 0)) else none)
noncomputable def V43_s (m : Nat) (f : Nat → Ln) (s : Sp) : S43 ⊕ T :=
  (.inl (.l0n 0))
noncomputable def K43_s (m : Nat) (f : Nat → Ln) (s : Sp) : Bool :=
  (allT (g43_s_1 m f s))
theorem T43_s (m : Nat) (f : Nat → Ln) (s : Sp) (hk : K43_s m f s = true) : o43 m f s = some (V43_s m f s) :=
  tree_leaf hk
noncomputable def step43 (m : Nat) (f : Nat → Ln) (s : Sp) : S43 → Option (S43 ⊕ T)
  | .l0n x6 => step43_0n m f s x6
  | .l0o L N x6 H => step43_0o m f s L N x6 H
  | .l1n x6 x7 => step43_1n m f s x6 x7
  | .l1o L N x6 x7 H => step43_1o m f s L N x6 x7 H
noncomputable def M43 (m : Nat) (f : Nat → Ln) (s : Sp) : Mch S43 where
  lp := fun σ => match σ with
    | .l0n .. => 0
    | .l0o .. => 0
    | .l1n .. => 1
    | .l1o .. => 1
  keep := fun ι => match ι with
    | 0 => [0, 3, 5, 6]
    | 1 => [0, 3, 5, 6, 7]
    | _ => []
  par := fun ι => match ι with
    | 0 => []
    | 1 => [0]
    | _ => []
  vs := fun σ => match σ with
    | .l0n x6 => [T.slf false m fun i => lnT (f i), (spT s).ref 0, T.nils, T.int .i64 x6]
    | .l0o L N x6 H => [T.slf false m fun i => lnT (f i), (spT s).ref 0, T.osl L 1 0 N, T.int .i64 x6]
    | .l1n x6 x7 => [T.slf false m fun i => lnT (f i), (spT s).ref 0, T.nils, T.int .i64 x6, T.int .i64 x7]
    | .l1o L N x6 x7 H => [T.slf false m fun i => lnT (f i), (spT s).ref 0, T.osl L 1 0 N, T.int .i64 x6, T.int .i64 x7]
  hp := fun σ => match σ with
    | .l0n _ => ⟨0, []⟩
    | .l0o _ _ _ H => H
    | .l1n _ _ => ⟨0, []⟩
    | .l1o _ _ _ _ H => H
  len := 39
  step := step43 m f s
theorem ways43 (m : Nat) (f : Nat → Ln) (s : Sp) : (M43 m f s).Ways prog D9 F0 f43 20 := by
  intro σ o fr h
  cases σ with
  | l0n x6 =>
    change step43_0n m f s x6 = some o at h
    exact (ways_if (ways_leaf fun hk => .inr ⟨2000, _, _, _, w43_0n_1 m f s x6 fr, hk, rfl⟩) (ways_leaf fun hk => ⟨2000, _, _, _, _, _, _, w43_0n_2 m f s x6 fr, hk⟩)) o h
  | l0o L N x6 H =>
    change step43_0o m f s L N x6 H = some o at h
    exact (ways_if (ways_leaf fun hk => .inr ⟨2000, _, _, _, w43_0o_1 m f s L N x6 H fr, hk, rfl⟩) (ways_leafO fun hk r hr => ⟨2000, _, _, _, _, _, _, (by have := w43_0o_2 m f s L N x6 H fr; rw [hr] at this; exact this), hk⟩)) o h
  | l1n x6 x7 =>
    change step43_1n m f s x6 x7 = some o at h
    exact (ways_if (ways_if (ways_leaf fun hk => .inl ⟨2000, _, _, _, w43_1n_1 m f s x6 x7 fr, hk, rfl⟩) (ways_leaf fun hk => .inl ⟨2000, _, _, _, w43_1n_2 m f s x6 x7 fr, hk, rfl⟩)) (ways_leaf fun hk => .inl ⟨2000, _, _, _, w43_1n_3 m f s x6 x7 fr, hk, rfl⟩)) o h
  | l1o L N x6 x7 H =>
    change step43_1o m f s L N x6 x7 H = some o at h
    exact (ways_if (ways_if (ways_leaf fun hk => .inl ⟨2000, _, _, _, w43_1o_1 m f s L N x6 x7 H fr, hk, rfl⟩) (ways_leaf fun hk => .inl ⟨2000, _, _, _, w43_1o_2 m f s L N x6 x7 H fr, hk, rfl⟩)) (ways_leaf fun hk => .inl ⟨2000, _, _, _, w43_1o_3 m f s L N x6 x7 H fr, hk, rfl⟩)) o h
theorem oks43 (m : Nat) (f : Nat → Ln) (s : Sp) : ∀ σ, codeOk (loopAt f43 ((M43 m f s).lp σ)).1 = true ∧ ksOk (.lp :: (loopAt f43 ((M43 m f s).lp σ)).2) = true := by
  intro σ
  cases σ
  · exact ⟨(show codeOk (loopAt f43 0).1 = true by kernel_rfl), (show ksOk (.lp :: (loopAt f43 0).2) = true by kernel_rfl)⟩
  · exact ⟨(show codeOk (loopAt f43 0).1 = true by kernel_rfl), (show ksOk (.lp :: (loopAt f43 0).2) = true by kernel_rfl)⟩
  · exact ⟨(show codeOk (loopAt f43 1).1 = true by kernel_rfl), (show ksOk (.lp :: (loopAt f43 1).2) = true by kernel_rfl)⟩
  · exact ⟨(show codeOk (loopAt f43 1).1 = true by kernel_rfl), (show ksOk (.lp :: (loopAt f43 1).2) = true by kernel_rfl)⟩
theorem run43 (m : Nat) (f : Nat → Ln) (s : Sp) {n : Nat} {o : S43 ⊕ T} {r : T} (h : o43 m f s = some o) (hr : (M43 m f s).fin n o = some r) : PureFn prog gl 43 [lsT m f, spT s] r := by
  refine pure_mach (M := (M43 m f s)) (fn := f43) (k := 20) (d := 8) (c := bodyOf f43) cx9 glFrz (by kernel_rfl) func43 (by kernel_rfl) rfl (by kernel_rfl) (by kernel_rfl) (L := 37) (by kernel_rfl) (ways43 m f s) (oks43 m f s) ?_ hr
  exact (ways_leaf fun hk => .inr ⟨2000, _, _, _, w43_s_1 m f s, hk, rfl⟩) o h
theorem c43 (m : Nat) (f : Nat → Ln) (s : Sp) (n : Nat) {r : T} (hk : K43_s m f s = true) (hr : (M43 m f s).fin n (V43_s m f s) = some r) : PureFn prog gl 43 [lsT m f, spT s] r := run43 m f s (T43_s m f s hk) hr
end Go.Proofs.Tryd

/- Machines of the rules, by program (gen2). -/
namespace Go.Proofs.Tryd
open Go.Ps
set_option maxRecDepth 100000
set_option linter.unusedVariables false
set_option linter.unusedSimpArgs false

/-! ### 14 -/
noncomputable def g14_s_1 (c : Ct) : List Bool := [true, decide (c.entries < 0), decide (c.entries < 0), decide (c.entries < 0), decide (c.entries < 0)]
theorem w14_s_1 (c : Ct) : outK prog f14 20 [] (runK prog D9 F0 2000 (.code (bodyOf f14)) [] 0 ([ctT c] ++ List.replicate 16 undefT) ⟨0, []⟩ (bt 5 31) [])
    = some (OutT.done (some (T.int .i64 2)), g14_s_1 c, { next := 0, objs := [] }, [], 0) := by kernel_rfl
noncomputable def g14_s_2 (c : Ct) : List Bool := [decide (c.entries > 1048576), !decide (c.entries < 0), !decide (c.entries < 0), !decide (c.entries < 0), !decide (c.entries < 0)]
theorem w14_s_2 (c : Ct) : outK prog f14 20 [] (runK prog D9 F0 2000 (.code (bodyOf f14)) [] 0 ([ctT c] ++ List.replicate 16 undefT) ⟨0, []⟩ (bt 5 16) [])
    = some (OutT.done (some (T.int .i64 2)), g14_s_2 c, { next := 0, objs := [] }, [], 0) := by kernel_rfl
noncomputable def g14_s_3 (c : Ct) : List Bool := [decide ((↑c.n : Int) > 65536), !decide (c.entries > 1048576), !decide (c.entries < 0), !decide (c.entries < 0), !decide (c.entries < 0), !decide (c.entries < 0)]
theorem w14_s_3 (c : Ct) : outK prog f14 20 [] (runK prog D9 F0 2000 (.code (bodyOf f14)) [] 0 ([ctT c] ++ List.replicate 16 undefT) ⟨0, []⟩ (bt 6 32) [])
    = some (OutT.done (some (T.int .i64 9)), g14_s_3 c, { next := 0, objs := [] }, [], 0) := by kernel_rfl
noncomputable def g14_s_4 (c : Ct) : List Bool := [!decide ((↑c.n : Int) > 65536), !decide (c.entries > 1048576), !decide (c.entries < 0), !decide (c.entries < 0), !decide (c.entries < 0), !decide (c.entries < 0)]
theorem w14_s_4 (c : Ct) : outK prog f14 20 [] (runK prog D9 F0 2000 (.code (bodyOf f14)) [] 0 ([ctT c] ++ List.replicate 16 undefT) ⟨0, []⟩ (bt 6 0) [])
    = some (OutT.done (some (T.int .i64 0)), g14_s_4 c, { next := 0, objs := [] }, [], 0) := by kernel_rfl
noncomputable def o14 (c : Ct) : Option (Empty ⊕ T) :=
  (if decide (c.entries < 0) then (if allT (g14_s_1 c) then some (.inr ((T.int .i64 2))) else none) else (if decide (c.entries > 1048576) then (if allT (g14_s_2 c) then some (.inr ((T.int .i64 2))) else none) else (if decide ((↑c.n : Int) > 65536) then (if allT (g14_s_3 c) then some (.inr ((T.int .i64 9))) else none) else (if allT (g14_s_4 c) then some (.inr ((T.int .i64 0))) else none))))
noncomputable def V14_s (c : Ct) : Empty ⊕ T :=
  (if decide (c.entries < 0) then (.inr ((T.int .i64 2))) else (if decide (c.entries > 1048576) then (.inr ((T.int .i64 2))) else (if decide ((↑c.n : Int) > 65536) then (.inr ((T.int .i64 9))) else (.inr ((T.int .i64 0))))))
noncomputable def K14_s (c : Ct) : Bool :=
  (if decide (c.entries < 0) then (allT (g14_s_1 c)) else (if decide (c.entries > 1048576) then (allT (g14_s_2 c)) else (if decide ((↑c.n : Int) > 65536) then (allT (g14_s_3 c)) else (allT (g14_s_4 c)))))
theorem T14_s (c : Ct) (hk : K14_s c = true) : o14 c = some (V14_s c) :=
  (tree_if tree_leaf (tree_if tree_leaf (tree_if tree_leaf tree_leaf))) hk
theorem run14 (c : Ct) {n : Nat} {o : Empty ⊕ T} {r : T} (h : o14 c = some o) (hr : noM.fin n o = some r) : PureFn prog gl 14 [ctT c] r := by
  refine pure_mach (M := noM) (fn := f14) (k := 20) (d := 8) (c := bodyOf f14) cx9 glFrz (by kernel_rfl) func14 (by kernel_rfl) rfl (by kernel_rfl) (by kernel_rfl) (L := 16) (by kernel_rfl) noM_ways (fun σ => σ.elim) ?_ hr
  exact (ways_if (ways_leaf fun hk => ⟨2000, _, _, _, _, _, _, w14_s_1 c, hk⟩) (ways_if (ways_leaf fun hk => ⟨2000, _, _, _, _, _, _, w14_s_2 c, hk⟩) (ways_if (ways_leaf fun hk => ⟨2000, _, _, _, _, _, _, w14_s_3 c, hk⟩) (ways_leaf fun hk => ⟨2000, _, _, _, _, _, _, w14_s_4 c, hk⟩)))) o h
theorem c14 (c : Ct) (n : Nat) {r : T} (hk : K14_s c = true) (hr : noM.fin n (V14_s c) = some r) : PureFn prog gl 14 [ctT c] r := run14 c (T14_s c hk) hr


/-! ### 16 -/
inductive S16 where
  | l0 (x13 : Int) (x14 : Int)
  | l1 (x13 : Int) (x14 : Int) (x20 : Int) (x21 : Int)
  | l2 (x13 : Int) (x14 : Int) (x49 : Int) (x50 : Int)
noncomputable def g16_s_1 (c : Ct) : List Bool := []
theorem w16_s_1 (c : Ct) : outK prog f16 20 [1, 12, 13, 14] (runK prog D9 F0 2000 (.code (bodyOf f16)) [] 0 ([ctT c] ++ List.replicate 79 undefT) ⟨0, []⟩ [] [])
    = some (OutT.loop 0 (loopAt f16 0).1 (loopAt f16 0).2, g16_s_1 c, { next := 0, objs := [] }, [(ctT c).ref 0, T.slf false c.n fun i => lnT (c.line i), T.int .i64 (↑c.n : Int), T.int .i64 0], 80) := by kernel_rfl
noncomputable def g16_0_1 (c : Ct) (x13 : Int) (x14 : Int) : List Bool := [true, true, decide (0 ≤ x14), decide (x14 < (↑c.n : Int)), true, decide (x14 < x13)]
theorem w16_0_1 (c : Ct) (x13 : Int) (x14 : Int) (fr : List T) : outK prog f16 20 [1, 4, 12, 13, 14, 19, 20, 21] (runK prog D9 F0 2000 (.code (loopAt f16 0).1) (.lp :: (loopAt f16 0).2) 0 (frK [1, 12, 13, 14] [(ctT c).ref 0, T.slf false c.n fun i => lnT (c.line i), T.int .i64 x13, T.int .i64 x14] fr 80) ⟨0, []⟩ [true] [])
    = some (OutT.loop 0 (loopAt f16 1).1 (loopAt f16 1).2, g16_0_1 c x13 x14, { next := 0, objs := [] }, [(ctT c).ref 0, (lnT (c.line x14.toNat)).ref 0, T.slf false c.n fun i => lnT (c.line i), T.int .i64 x13, T.int .i64 x14, T.slf false (c.line x14.toNat).k fun i => spT ((c.line x14.toNat).from_ i), T.int .i64 (↑(c.line x14.toNat).k : Int), T.int .i64 0], 80) := by kernel_rfl
noncomputable def g16_0_2 (c : Ct) (x13 : Int) (x14 : Int) : List Bool := [!decide (x14 < x13)]
theorem w16_0_2 (c : Ct) (x13 : Int) (x14 : Int) (fr : List T) : outK prog f16 20 [] (runK prog D9 F0 2000 (.code (loopAt f16 0).1) (.lp :: (loopAt f16 0).2) 0 (frK [1, 12, 13, 14] [(ctT c).ref 0, T.slf false c.n fun i => lnT (c.line i), T.int .i64 x13, T.int .i64 x14] fr 80) ⟨0, []⟩ [false] [])
    = some (OutT.done (some (T.int .i64 0)), g16_0_2 c x13 x14, { next := 0, objs := [] }, [], 0) := by kernel_rfl
noncomputable def g16_1_1 (c : Ct) (x13 : Int) (x14 : Int) (x20 : Int) (x21 : Int) : List Bool := [true, decide (cmpS ((c.line x14.toNat).from_ (IntKind.i64.wrap (x21 - 1)).toNat) ((c.line x14.toNat).from_ x21.toNat) ≥ 0), decide (cmpS ((c.line x14.toNat).from_ (IntKind.i64.wrap (x21 - 1)).toNat) ((c.line x14.toNat).from_ x21.toNat) ≥ 0), decide (cmpS ((c.line x14.toNat).from_ (IntKind.i64.wrap (x21 - 1)).toNat) ((c.line x14.toNat).from_ x21.toNat) ≥ 0), decide (cmpS ((c.line x14.toNat).from_ (IntKind.i64.wrap (x21 - 1)).toNat) ((c.line x14.toNat).from_ x21.toNat) ≥ 0), decide (cmpS ((c.line x14.toNat).from_ (IntKind.i64.wrap (x21 - 1)).toNat) ((c.line x14.toNat).from_ x21.toNat) ≥ 0), decide (cmpS ((c.line x14.toNat).from_ (IntKind.i64.wrap (x21 - 1)).toNat) ((c.line x14.toNat).from_ x21.toNat) ≥ 0), decide (x21 > 0), decide (x21 > 0), isV (spT ((c.line x14.toNat).from_ (IntKind.i64.wrap (x21 - 1)).toNat)) (spT ((c.line x14.toNat).from_ (IntKind.i64.wrap (x21 - 1)).toNat)), isV (spT ((c.line x14.toNat).from_ x21.toNat)) (spT ((c.line x14.toNat).from_ x21.toNat)), decide (((c.line x14.toNat).from_ (IntKind.i64.wrap (x21 - 1)).toNat).n ≤ 281474976710656), decide (x21 > 0), decide (x21 > 0), decide (x21 > 0), decide (0 ≤ IntKind.i64.wrap (x21 - 1)), decide (IntKind.i64.wrap (x21 - 1) < (↑(c.line x14.toNat).k : Int)), true, decide (x21 > 0), decide (x21 > 0), decide (x21 > 0), decide (x21 > 0), decide (x21 > 0), true, true, decide (0 ≤ x21), decide (x21 < (↑(c.line x14.toNat).k : Int)), true, decide (x21 < x20)]
theorem w16_1_1 (c : Ct) (x13 : Int) (x14 : Int) (x20 : Int) (x21 : Int) (fr : List T) : outK prog f16 20 [] (runK prog D9 F0 2000 (.code (loopAt f16 1).1) (.lp :: (loopAt f16 1).2) 0 (frK [1, 4, 12, 13, 14, 19, 20, 21] [(ctT c).ref 0, (lnT (c.line x14.toNat)).ref 0, T.slf false c.n fun i => lnT (c.line i), T.int .i64 x13, T.int .i64 x14, T.slf false (c.line x14.toNat).k fun i => spT ((c.line x14.toNat).from_ i), T.int .i64 x20, T.int .i64 x21] fr 80) ⟨0, []⟩ (bt 18 262143) [])
    = some (OutT.done (some (T.int .i64 24)), g16_1_1 c x13 x14 x20 x21, { next := 0, objs := [] }, [], 0) := by kernel_rfl
noncomputable def g16_1_2 (c : Ct) (x13 : Int) (x14 : Int) (x20 : Int) (x21 : Int) : List Bool := [decide (cmpS ((c.line x14.toNat).from_ x21.toNat) (c.line x14.toNat).st ≥ 0), !decide (cmpS ((c.line x14.toNat).from_ (IntKind.i64.wrap (x21 - 1)).toNat) ((c.line x14.toNat).from_ x21.toNat) ≥ 0), !decide (cmpS ((c.line x14.toNat).from_ (IntKind.i64.wrap (x21 - 1)).toNat) ((c.line x14.toNat).from_ x21.toNat) ≥ 0), isV (spT ((c.line x14.toNat).from_ x21.toNat)) (spT ((c.line x14.toNat).from_ x21.toNat)), isV (spT (c.line x14.toNat).st) (spT (c.line x14.toNat).st), decide (((c.line x14.toNat).from_ x21.toNat).n ≤ 281474976710656), !decide (cmpS ((c.line x14.toNat).from_ (IntKind.i64.wrap (x21 - 1)).toNat) ((c.line x14.toNat).from_ x21.toNat) ≥ 0), !decide (cmpS ((c.line x14.toNat).from_ (IntKind.i64.wrap (x21 - 1)).toNat) ((c.line x14.toNat).from_ x21.toNat) ≥ 0), !decide (cmpS ((c.line x14.toNat).from_ (IntKind.i64.wrap (x21 - 1)).toNat) ((c.line x14.toNat).from_ x21.toNat) ≥ 0), !decide (cmpS ((c.line x14.toNat).from_ (IntKind.i64.wrap (x21 - 1)).toNat) ((c.line x14.toNat).from_ x21.toNat) ≥ 0), decide (x21 > 0), decide (x21 > 0), isV (spT ((c.line x14.toNat).from_ (IntKind.i64.wrap (x21 - 1)).toNat)) (spT ((c.line x14.toNat).from_ (IntKind.i64.wrap (x21 - 1)).toNat)), isV (spT ((c.line x14.toNat).from_ x21.toNat)) (spT ((c.line x14.toNat).from_ x21.toNat)), decide (((c.line x14.toNat).from_ (IntKind.i64.wrap (x21 - 1)).toNat).n ≤ 281474976710656), decide (x21 > 0), decide (x21 > 0), decide (x21 > 0), decide (0 ≤ IntKind.i64.wrap (x21 - 1)), decide (IntKind.i64.wrap (x21 - 1) < (↑(c.line x14.toNat).k : Int)), true, decide (x21 > 0), decide (x21 > 0), decide (x21 > 0), decide (x21 > 0), decide (x21 > 0), true, true, decide (0 ≤ x21), decide (x21 < (↑(c.line x14.toNat).k : Int)), true, decide (x21 < x20)]
theorem w16_1_2 (c : Ct) (x13 : Int) (x14 : Int) (x20 : Int) (x21 : Int) (fr : List T) : outK prog f16 20 [] (runK prog D9 F0 2000 (.code (loopAt f16 1).1) (.lp :: (loopAt f16 1).2) 0 (frK [1, 4, 12, 13, 14, 19, 20, 21] [(ctT c).ref 0, (lnT (c.line x14.toNat)).ref 0, T.slf false c.n fun i => lnT (c.line i), T.int .i64 x13, T.int .i64 x14, T.slf false (c.line x14.toNat).k fun i => spT ((c.line x14.toNat).from_ i), T.int .i64 x20, T.int .i64 x21] fr 80) ⟨0, []⟩ (bt 18 133119) [])
    = some (OutT.done (some (T.int .i64 24)), g16_1_2 c x13 x14 x20 x21, { next := 0, objs := [] }, [], 0) := by kernel_rfl
noncomputable def g16_1_3 (c : Ct) (x13 : Int) (x14 : Int) (x20 : Int) (x21 : Int) : List Bool := [!decide (cmpS ((c.line x14.toNat).from_ x21.toNat) (c.line x14.toNat).st ≥ 0), !decide (cmpS ((c.line x14.toNat).from_ (IntKind.i64.wrap (x21 - 1)).toNat) ((c.line x14.toNat).from_ x21.toNat) ≥ 0), !decide (cmpS ((c.line x14.toNat).from_ (IntKind.i64.wrap (x21 - 1)).toNat) ((c.line x14.toNat).from_ x21.toNat) ≥ 0), isV (spT ((c.line x14.toNat).from_ x21.toNat)) (spT ((c.line x14.toNat).from_ x21.toNat)), isV (spT (c.line x14.toNat).st) (spT (c.line x14.toNat).st), decide (((c.line x14.toNat).from_ x21.toNat).n ≤ 281474976710656), !decide (cmpS ((c.line x14.toNat).from_ (IntKind.i64.wrap (x21 - 1)).toNat) ((c.line x14.toNat).from_ x21.toNat) ≥ 0), !decide (cmpS ((c.line x14.toNat).from_ (IntKind.i64.wrap (x21 - 1)).toNat) ((c.line x14.toNat).from_ x21.toNat) ≥ 0), !decide (cmpS ((c.line x14.toNat).from_ (IntKind.i64.wrap (x21 - 1)).toNat) ((c.line x14.toNat).from_ x21.toNat) ≥ 0), !decide (cmpS ((c.line x14.toNat).from_ (IntKind.i64.wrap (x21 - 1)).toNat) ((c.line x14.toNat).from_ x21.toNat) ≥ 0), decide (x21 > 0), decide (x21 > 0), isV (spT ((c.line x14.toNat).from_ (IntKind.i64.wrap (x21 - 1)).toNat)) (spT ((c.line x14.toNat).from_ (IntKind.i64.wrap (x21 - 1)).toNat)), isV (spT ((c.line x14.toNat).from_ x21.toNat)) (spT ((c.line x14.toNat).from_ x21.toNat)), decide (((c.line x14.toNat).from_ (IntKind.i64.wrap (x21 - 1)).toNat).n ≤ 281474976710656), decide (x21 > 0), decide (x21 > 0), decide (x21 > 0), decide (0 ≤ IntKind.i64.wrap (x21 - 1)), decide (IntKind.i64.wrap (x21 - 1) < (↑(c.line x14.toNat).k : Int)), true, decide (x21 > 0), decide (x21 > 0), decide (x21 > 0), decide (x21 > 0), decide (x21 > 0), true, true, decide (0 ≤ x21), decide (x21 < (↑(c.line x14.toNat).k : Int)), true, decide (x21 < x20)]
theorem w16_1_3 (c : Ct) (x13 : Int) (x14 : Int) (x20 : Int) (x21 : Int) (fr : List T) : outK prog f16 20 [1, 4, 12, 13, 14, 19, 20, 21] (runK prog D9 F0 2000 (.code (loopAt f16 1).1) (.lp :: (loopAt f16 1).2) 0 (frK [1, 4, 12, 13, 14, 19, 20, 21] [(ctT c).ref 0, (lnT (c.line x14.toNat)).ref 0, T.slf false c.n fun i => lnT (c.line i), T.int .i64 x13, T.int .i64 x14, T.slf false (c.line x14.toNat).k fun i => spT ((c.line x14.toNat).from_ i), T.int .i64 x20, T.int .i64 x21] fr 80) ⟨0, []⟩ (bt 18 2047) [])
    = some (OutT.again 0, g16_1_3 c x13 x14 x20 x21, { next := 0, objs := [] }, [(ctT c).ref 0, (lnT (c.line x14.toNat)).ref 0, T.slf false c.n fun i => lnT (c.line i), T.int .i64 x13, T.int .i64 x14, T.slf false (c.line x14.toNat).k fun i => spT ((c.line x14.toNat).from_ i), T.int .i64 x20, T.int .i64 (IntKind.i64.wrap (x21 + 1))], 80) := by kernel_rfl
noncomputable def g16_1_4 (c : Ct) (x13 : Int) (x14 : Int) (x20 : Int) (x21 : Int) : List Bool := [decide (cmpS ((c.line x14.toNat).from_ x21.toNat) (c.line x14.toNat).st ≥ 0), true, true, isV (spT ((c.line x14.toNat).from_ x21.toNat)) (spT ((c.line x14.toNat).from_ x21.toNat)), isV (spT (c.line x14.toNat).st) (spT (c.line x14.toNat).st), decide (((c.line x14.toNat).from_ x21.toNat).n ≤ 281474976710656), true, true, true, true, !decide (x21 > 0), !decide (x21 > 0), !decide (x21 > 0), !decide (x21 > 0), !decide (x21 > 0), !decide (x21 > 0), !decide (x21 > 0), !decide (x21 > 0), !decide (x21 > 0), !decide (x21 > 0), true, true, decide (0 ≤ x21), decide (x21 < (↑(c.line x14.toNat).k : Int)), true, decide (x21 < x20)]
theorem w16_1_4 (c : Ct) (x13 : Int) (x14 : Int) (x20 : Int) (x21 : Int) (fr : List T) : outK prog f16 20 [] (runK prog D9 F0 2000 (.code (loopAt f16 1).1) (.lp :: (loopAt f16 1).2) 0 (frK [1, 4, 12, 13, 14, 19, 20, 21] [(ctT c).ref 0, (lnT (c.line x14.toNat)).ref 0, T.slf false c.n fun i => lnT (c.line i), T.int .i64 x13, T.int .i64 x14, T.slf false (c.line x14.toNat).k fun i => spT ((c.line x14.toNat).from_ i), T.int .i64 x20, T.int .i64 x21] fr 80) ⟨0, []⟩ (bt 18 131073) [])
    = some (OutT.done (some (T.int .i64 24)), g16_1_4 c x13 x14 x20 x21, { next := 0, objs := [] }, [], 0) := by kernel_rfl
noncomputable def g16_1_5 (c : Ct) (x13 : Int) (x14 : Int) (x20 : Int) (x21 : Int) : List Bool := [!decide (cmpS ((c.line x14.toNat).from_ x21.toNat) (c.line x14.toNat).st ≥ 0), true, true, isV (spT ((c.line x14.toNat).from_ x21.toNat)) (spT ((c.line x14.toNat).from_ x21.toNat)), isV (spT (c.line x14.toNat).st) (spT (c.line x14.toNat).st), decide (((c.line x14.toNat).from_ x21.toNat).n ≤ 281474976710656), true, true, true, true, !decide (x21 > 0), !decide (x21 > 0), !decide (x21 > 0), !decide (x21 > 0), !decide (x21 > 0), !decide (x21 > 0), !decide (x21 > 0), !decide (x21 > 0), !decide (x21 > 0), !decide (x21 > 0), true, true, decide (0 ≤ x21), decide (x21 < (↑(c.line x14.toNat).k : Int)), true, decide (x21 < x20)]
theorem w16_1_5 (c : Ct) (x13 : Int) (x14 : Int) (x20 : Int) (x21 : Int) (fr : List T) : outK prog f16 20 [1, 4, 12, 13, 14, 19, 20, 21] (runK prog D9 F0 2000 (.code (loopAt f16 1).1) (.lp :: (loopAt f16 1).2) 0 (frK [1, 4, 12, 13, 14, 19, 20, 21] [(ctT c).ref 0, (lnT (c.line x14.toNat)).ref 0, T.slf false c.n fun i => lnT (c.line i), T.int .i64 x13, T.int .i64 x14, T.slf false (c.line x14.toNat).k fun i => spT ((c.line x14.toNat).from_ i), T.int .i64 x20, T.int .i64 x21] fr 80) ⟨0, []⟩ (bt 18 1) [])
    = some (OutT.again 0, g16_1_5 c x13 x14 x20 x21, { next := 0, objs := [] }, [(ctT c).ref 0, (lnT (c.line x14.toNat)).ref 0, T.slf false c.n fun i => lnT (c.line i), T.int .i64 x13, T.int .i64 x14, T.slf false (c.line x14.toNat).k fun i => spT ((c.line x14.toNat).from_ i), T.int .i64 x20, T.int .i64 (IntKind.i64.wrap (x21 + 1))], 80) := by kernel_rfl
noncomputable def g16_1_6 (c : Ct) (x13 : Int) (x14 : Int) (x20 : Int) (x21 : Int) : List Bool := [!decide (x21 < x20)]
theorem w16_1_6 (c : Ct) (x13 : Int) (x14 : Int) (x20 : Int) (x21 : Int) (fr : List T) : outK prog f16 20 [1, 4, 12, 13, 14, 48, 49, 50] (runK prog D9 F0 2000 (.code (loopAt f16 1).1) (.lp :: (loopAt f16 1).2) 0 (frK [1, 4, 12, 13, 14, 19, 20, 21] [(ctT c).ref 0, (lnT (c.line x14.toNat)).ref 0, T.slf false c.n fun i => lnT (c.line i), T.int .i64 x13, T.int .i64 x14, T.slf false (c.line x14.toNat).k fun i => spT ((c.line x14.toNat).from_ i), T.int .i64 x20, T.int .i64 x21] fr 80) ⟨0, []⟩ [false] [])
    = some (OutT.loop 1 (loopAt f16 2).1 (loopAt f16 2).2, g16_1_6 c x13 x14 x20 x21, { next := 0, objs := [] }, [(ctT c).ref 0, (lnT (c.line x14.toNat)).ref 0, T.slf false c.n fun i => lnT (c.line i), T.int .i64 x13, T.int .i64 x14, T.slf false (c.line x14.toNat).k fun i => spT ((c.line x14.toNat).from_ i), T.int .i64 (↑(c.line x14.toNat).k : Int), T.int .i64 0], 80) := by kernel_rfl
noncomputable def g16_2_1 (c : Ct) (x13 : Int) (x14 : Int) (x49 : Int) (x50 : Int) : List Bool := [!found c.n fun i => cmpS (c.line i).st ((c.line x14.toNat).from_ x50.toNat), isV (T.slf false c.n fun i => lnT (c.line i)) (lsT c.n c.line), isV (spT ((c.line x14.toNat).from_ x50.toNat)) (spT ((c.line x14.toNat).from_ x50.toNat)), modestB c.n c.line, true, true, decide (0 ≤ x50), decide (x50 < (↑(c.line x14.toNat).k : Int)), true, decide (x50 < x49)]
theorem w16_2_1 (c : Ct) (x13 : Int) (x14 : Int) (x49 : Int) (x50 : Int) (fr : List T) : outK prog f16 20 [] (runK prog D9 F0 2000 (.code (loopAt f16 2).1) (.lp :: (loopAt f16 2).2) 0 (frK [1, 4, 12, 13, 14, 48, 49, 50] [(ctT c).ref 0, (lnT (c.line x14.toNat)).ref 0, T.slf false c.n fun i => lnT (c.line i), T.int .i64 x13, T.int .i64 x14, T.slf false (c.line x14.toNat).k fun i => spT ((c.line x14.toNat).from_ i), T.int .i64 x49, T.int .i64 x50] fr 80) ⟨0, []⟩ [true, true] [])
    = some (OutT.done (some (T.int .i64 8)), g16_2_1 c x13 x14 x49 x50, { next := 0, objs := [] }, [], 0) := by kernel_rfl
noncomputable def g16_2_2 (c : Ct) (x13 : Int) (x14 : Int) (x49 : Int) (x50 : Int) : List Bool := [!!found c.n fun i => cmpS (c.line i).st ((c.line x14.toNat).from_ x50.toNat), isV (T.slf false c.n fun i => lnT (c.line i)) (lsT c.n c.line), isV (spT ((c.line x14.toNat).from_ x50.toNat)) (spT ((c.line x14.toNat).from_ x50.toNat)), modestB c.n c.line, true, true, decide (0 ≤ x50), decide (x50 < (↑(c.line x14.toNat).k : Int)), true, decide (x50 < x49)]
theorem w16_2_2 (c : Ct) (x13 : Int) (x14 : Int) (x49 : Int) (x50 : Int) (fr : List T) : outK prog f16 20 [1, 4, 12, 13, 14, 48, 49, 50] (runK prog D9 F0 2000 (.code (loopAt f16 2).1) (.lp :: (loopAt f16 2).2) 0 (frK [1, 4, 12, 13, 14, 48, 49, 50] [(ctT c).ref 0, (lnT (c.line x14.toNat)).ref 0, T.slf false c.n fun i => lnT (c.line i), T.int .i64 x13, T.int .i64 x14, T.slf false (c.line x14.toNat).k fun i => spT ((c.line x14.toNat).from_ i), T.int .i64 x49, T.int .i64 x50] fr 80) ⟨0, []⟩ [true, false] [])
    = some (OutT.again 0, g16_2_2 c x13 x14 x49 x50, { next := 0, objs := [] }, [(ctT c).ref 0, (lnT (c.line x14.toNat)).ref 0, T.slf false c.n fun i => lnT (c.line i), T.int .i64 x13, T.int .i64 x14, T.slf false (c.line x14.toNat).k fun i => spT ((c.line x14.toNat).from_ i), T.int .i64 x49, T.int .i64 (IntKind.i64.wrap (x50 + 1))], 80) := by kernel_rfl
noncomputable def g16_2_3 (c : Ct) (x13 : Int) (x14 : Int) (x49 : Int) (x50 : Int) : List Bool := [true, (↑(c.line x14.toNat).k : Int) == 0, !arr (c.line x14.toNat).st, (↑(c.line x14.toNat).k : Int) == 0, !arr (c.line x14.toNat).st, !arr (c.line x14.toNat).st, !arr (c.line x14.toNat).st, (↑(c.line x14.toNat).k : Int) == 0, (↑(c.line x14.toNat).k : Int) == 0, isV (spT (c.line x14.toNat).st) (spT (c.line x14.toNat).st), (↑(c.line x14.toNat).k : Int) == 0, (↑(c.line x14.toNat).k : Int) == 0, (↑(c.line x14.toNat).k : Int) == 0, !decide (x50 < x49)]
theorem w16_2_3 (c : Ct) (x13 : Int) (x14 : Int) (x49 : Int) (x50 : Int) (fr : List T) : outK prog f16 20 [] (runK prog D9 F0 2000 (.code (loopAt f16 2).1) (.lp :: (loopAt f16 2).2) 0 (frK [1, 4, 12, 13, 14, 48, 49, 50] [(ctT c).ref 0, (lnT (c.line x14.toNat)).ref 0, T.slf false c.n fun i => lnT (c.line i), T.int .i64 x13, T.int .i64 x14, T.slf false (c.line x14.toNat).k fun i => spT ((c.line x14.toNat).from_ i), T.int .i64 x49, T.int .i64 x50] fr 80) ⟨0, []⟩ (bt 13 8190) [])
    = some (OutT.done (some (T.int .i64 38)), g16_2_3 c x13 x14 x49 x50, { next := 0, objs := [] }, [], 0) := by kernel_rfl
noncomputable def g16_2_4 (c : Ct) (x13 : Int) (x14 : Int) (x49 : Int) (x50 : Int) : List Bool := [(c.line x14.toNat).mass != 1048576, (↑(c.line x14.toNat).k : Int) == 0, !!arr (c.line x14.toNat).st, (↑(c.line x14.toNat).k : Int) == 0, !!arr (c.line x14.toNat).st, !!arr (c.line x14.toNat).st, !!arr (c.line x14.toNat).st, (↑(c.line x14.toNat).k : Int) == 0, (↑(c.line x14.toNat).k : Int) == 0, isV (spT (c.line x14.toNat).st) (spT (c.line x14.toNat).st), (↑(c.line x14.toNat).k : Int) == 0, (↑(c.line x14.toNat).k : Int) == 0, (↑(c.line x14.toNat).k : Int) == 0, !decide (x50 < x49)]
theorem w16_2_4 (c : Ct) (x13 : Int) (x14 : Int) (x49 : Int) (x50 : Int) (fr : List T) : outK prog f16 20 [] (runK prog D9 F0 2000 (.code (loopAt f16 2).1) (.lp :: (loopAt f16 2).2) 0 (frK [1, 4, 12, 13, 14, 48, 49, 50] [(ctT c).ref 0, (lnT (c.line x14.toNat)).ref 0, T.slf false c.n fun i => lnT (c.line i), T.int .i64 x13, T.int .i64 x14, T.slf false (c.line x14.toNat).k fun i => spT ((c.line x14.toNat).from_ i), T.int .i64 x49, T.int .i64 x50] fr 80) ⟨0, []⟩ (bt 13 6718) [])
    = some (OutT.done (some (T.int .i64 38)), g16_2_4 c x13 x14 x49 x50, { next := 0, objs := [] }, [], 0) := by kernel_rfl
noncomputable def g16_2_5 (c : Ct) (x13 : Int) (x14 : Int) (x49 : Int) (x50 : Int) : List Bool := [!(c.line x14.toNat).mass != 1048576, (↑(c.line x14.toNat).k : Int) == 0, !!arr (c.line x14.toNat).st, (↑(c.line x14.toNat).k : Int) == 0, !!arr (c.line x14.toNat).st, !!arr (c.line x14.toNat).st, !!arr (c.line x14.toNat).st, (↑(c.line x14.toNat).k : Int) == 0, (↑(c.line x14.toNat).k : Int) == 0, isV (spT (c.line x14.toNat).st) (spT (c.line x14.toNat).st), (↑(c.line x14.toNat).k : Int) == 0, (↑(c.line x14.toNat).k : Int) == 0, (↑(c.line x14.toNat).k : Int) == 0, !decide (x50 < x49)]
theorem w16_2_5 (c : Ct) (x13 : Int) (x14 : Int) (x49 : Int) (x50 : Int) (fr : List T) : outK prog f16 20 [1, 12, 13, 14] (runK prog D9 F0 2000 (.code (loopAt f16 2).1) (.lp :: (loopAt f16 2).2) 0 (frK [1, 4, 12, 13, 14, 48, 49, 50] [(ctT c).ref 0, (lnT (c.line x14.toNat)).ref 0, T.slf false c.n fun i => lnT (c.line i), T.int .i64 x13, T.int .i64 x14, T.slf false (c.line x14.toNat).k fun i => spT ((c.line x14.toNat).from_ i), T.int .i64 x49, T.int .i64 x50] fr 80) ⟨0, []⟩ (bt 13 2622) [])
    = some (OutT.again 1, g16_2_5 c x13 x14 x49 x50, { next := 0, objs := [] }, [(ctT c).ref 0, T.slf false c.n fun i => lnT (c.line i), T.int .i64 x13, T.int .i64 (IntKind.i64.wrap (x14 + 1))], 80) := by kernel_rfl
noncomputable def g16_2_6 (c : Ct) (x13 : Int) (x14 : Int) (x49 : Int) (x50 : Int) : List Bool := [true, !(↑(c.line x14.toNat).k : Int) == 0, !(↑(c.line x14.toNat).k : Int) == 0, !(↑(c.line x14.toNat).k : Int) == 0, !(↑(c.line x14.toNat).k : Int) == 0, !(↑(c.line x14.toNat).k : Int) == 0, !(↑(c.line x14.toNat).k : Int) == 0, !(↑(c.line x14.toNat).k : Int) == 0, !decide (x50 < x49)]
theorem w16_2_6 (c : Ct) (x13 : Int) (x14 : Int) (x49 : Int) (x50 : Int) (fr : List T) : outK prog f16 20 [1, 12, 13, 14] (runK prog D9 F0 2000 (.code (loopAt f16 2).1) (.lp :: (loopAt f16 2).2) 0 (frK [1, 4, 12, 13, 14, 48, 49, 50] [(ctT c).ref 0, (lnT (c.line x14.toNat)).ref 0, T.slf false c.n fun i => lnT (c.line i), T.int .i64 x13, T.int .i64 x14, T.slf false (c.line x14.toNat).k fun i => spT ((c.line x14.toNat).from_ i), T.int .i64 x49, T.int .i64 x50] fr 80) ⟨0, []⟩ (bt 9 0) [])
    = some (OutT.again 1, g16_2_6 c x13 x14 x49 x50, { next := 0, objs := [] }, [(ctT c).ref 0, T.slf false c.n fun i => lnT (c.line i), T.int .i64 x13, T.int .i64 (IntKind.i64.wrap (x14 + 1))], 80) := by kernel_rfl
noncomputable def step16_0 (c : Ct) (x13 : Int) (x14 : Int) : Option (S16 ⊕ T) :=
  (if decide (x14 < x13) then (if allT (g16_0_1 c x13 x14) then some (.inl (.l1 x13 x14 (↑(c.line x14.toNat).k : Int) 0)) else none) else (if allT (g16_0_2 c x13 x14) then some (.inr ((T.int .i64 0))) else none))
noncomputable def V16_0 (c : Ct) (x13 : Int) (x14 : Int) : S16 ⊕ T :=
  (if decide (x14 < x13) then (.inl (.l1 x13 x14 (↑(c.line x14.toNat).k : Int) 0)) else (.inr ((T.int .i64 0))))
noncomputable def K16_0 (c : Ct) (x13 : Int) (x14 : Int) : Bool :=
  (if decide (x14 < x13) then (allT (g16_0_1 c x13 x14)) else (allT (g16_0_2 c x13 x14)))
theorem T16_0 (c : Ct) (x13 : Int) (x14 : Int) (hk : K16_0 c x13 x14 = true) : step16_0 c x13 x14 = some (V16_0 c x13 x14) :=
  (tree_if tree_leaf tree_leaf) hk
noncomputable def step16_1 (c : Ct) (x13 : Int) (x14 : Int) (x20 : Int) (x21 : Int) : Option (S16 ⊕ T) :=
  (if decide (x21 < x20) then (if decide (x21 > 0) then (if decide (cmpS ((c.line x14.toNat).from_ (IntKind.i64.wrap (x21 - 1)).toNat) ((c.line x14.toNat).from_ x21.toNat) ≥ 0) then (if allT (g16_1_1 c x13 x14 x20 x21) then some (.inr ((T.int .i64 24))) else none) else (if decide (cmpS ((c.line x14.toNat).from_ x21.toNat) (c.line x14.toNat).st ≥ 0) then (if allT (g16_1_2 c x13 x14 x20 x21) then some (.inr ((T.int .i64 24))) else none) else (if allT (g16_1_3 c x13 x14 x20 x21) then some (.inl (.l1 x13 x14 x20 (IntKind.i64.wrap (x21 + 1)))) else none))) else (if decide (cmpS ((c.line x14.toNat).from_ x21.toNat) (c.line x14.toNat).st ≥ 0) then (if allT (g16_1_4 c x13 x14 x20 x21) then some (.inr ((T.int .i64 24))) else none) else (if allT (g16_1_5 c x13 x14 x20 x21) then some (.inl (.l1 x13 x14 x20 (IntKind.i64.wrap (x21 + 1)))) else none))) else (if allT (g16_1_6 c x13 x14 x20 x21) then some (.inl (.l2 x13 x14 (↑(c.line x14.toNat).k : Int) 0)) else none))
noncomputable def V16_1 (c : Ct) (x13 : Int) (x14 : Int) (x20 : Int) (x21 : Int) : S16 ⊕ T :=
  (if decide (x21 < x20) then (if decide (x21 > 0) then (if decide (cmpS ((c.line x14.toNat).from_ (IntKind.i64.wrap (x21 - 1)).toNat) ((c.line x14.toNat).from_ x21.toNat) ≥ 0) then (.inr ((T.int .i64 24))) else (if decide (cmpS ((c.line x14.toNat).from_ x21.toNat) (c.line x14.toNat).st ≥ 0) then (.inr ((T.int .i64 24))) else (.inl (.l1 x13 x14 x20 (IntKind.i64.wrap (x21 + 1)))))) else (if decide (cmpS ((c.line x14.toNat).from_ x21.toNat) (c.line x14.toNat).st ≥ 0) then (.inr ((T.int .i64 24))) else (.inl (.l1 x13 x14 x20 (IntKind.i64.wrap (x21 + 1)))))) else (.inl (.l2 x13 x14 (↑(c.line x14.toNat).k : Int) 0)))
noncomputable def K16_1 (c : Ct) (x13 : Int) (x14 : Int) (x20 : Int) (x21 : Int) : Bool :=
  (if decide (x21 < x20) then (if decide (x21 > 0) then (if decide (cmpS ((c.line x14.toNat).from_ (IntKind.i64.wrap (x21 - 1)).toNat) ((c.line x14.toNat).from_ x21.toNat) ≥ 0) then (allT (g16_1_1 c x13 x14 x20 x21)) else (if decide (cmpS ((c.line x14.toNat).from_ x21.toNat) (c.line x14.toNat).st ≥ 0) then (allT (g16_1_2 c x13 x14 x20 x21)) else (allT (g16_1_3 c x13 x14 x20 x21)))) else (if decide (cmpS ((c.line x14.toNat).from_ x21.toNat) (c.line x14.toNat).st ≥ 0) then (allT (g16_1_4 c x13 x14 x20 x21)) else (allT (g16_1_5 c x13 x14 x20 x21)))) else (allT (g16_1_6 c x13 x14 x20 x21)))
theorem T16_1 (c : Ct) (x13 : Int) (x14 : Int) (x20 : Int) (x21 : Int) (hk : K16_1 c x13 x14 x20 x21 = true) : step16_1 c x13 x14 x20 x21 = some (V16_1 c x13 x14 x20 x21) :=
  (tree_if (tree_if (tree_if tree_leaf (tree_if tree_leaf tree_leaf)) (tree_if tree_leaf tree_leaf)) tree_leaf) hk
noncomputable def step16_2 (c : Ct) (x13 : Int) (x14 : Int) (x49 : Int) (x50 : Int) : Option (S16 ⊕ T) :=
  (if decide (x50 < x49) then (if !found c.n fun i => cmpS (c.line i).st ((c.line x14.toNat).from_ x50.toNat) then (if allT (g16_2_1 c x13 x14 x49 x50) then some (.inr ((T.int .i64 8))) else none) else (if allT (g16_2_2 c x13 x14 x49 x50) then some (.inl (.l2 x13 x14 x49 (IntKind.i64.wrap (x50 + 1)))) else none)) else (if (↑(c.line x14.toNat).k : Int) == 0 then (if !arr (c.line x14.toNat).st then (if allT (g16_2_3 c x13 x14 x49 x50) then some (.inr ((T.int .i64 38))) else none) else (if (c.line x14.toNat).mass != 1048576 then (if allT (g16_2_4 c x13 x14 x49 x50) then some (.inr ((T.int .i64 38))) else none) else (if allT (g16_2_5 c x13 x14 x49 x50) then some (.inl (.l0 x13 (IntKind.i64.wrap (x14 + 1)))) else none))) else (if allT (g16_2_6 c x13 x14 x49 x50) then some (.inl (.l0 x13 (IntKind.i64.wrap (x14 + 1)))) else none)))
noncomputable def V16_2 (c : Ct) (x13 : Int) (x14 : Int) (x49 : Int) (x50 : Int) : S16 ⊕ T :=
  (if decide (x50 < x49) then (if !found c.n fun i => cmpS (c.line i).st ((c.line x14.toNat).from_ x50.toNat) then (.inr ((T.int .i64 8))) else (.inl (.l2 x13 x14 x49 (IntKind.i64.wrap (x50 + 1))))) else (if (↑(c.line x14.toNat).k : Int) == 0 then (if !arr (c.line x14.toNat).st then (.inr ((T.int .i64 38))) else (if (c.line x14.toNat).mass != 1048576 then (.inr ((T.int .i64 38))) else (.inl (.l0 x13 (IntKind.i64.wrap (x14 + 1)))))) else (.inl (.l0 x13 (IntKind.i64.wrap (x14 + 1))))))
noncomputable def K16_2 (c : Ct) (x13 : Int) (x14 : Int) (x49 : Int) (x50 : Int) : Bool :=
  (if decide (x50 < x49) then (if !found c.n fun i => cmpS (c.line i).st ((c.line x14.toNat).from_ x50.toNat) then (allT (g16_2_1 c x13 x14 x49 x50)) else (allT (g16_2_2 c x13 x14 x49 x50))) else (if (↑(c.line x14.toNat).k : Int) == 0 then (if !arr (c.line x14.toNat).st then (allT (g16_2_3 c x13 x14 x49 x50)) else (if (c.line x14.toNat).mass != 1048576 then (allT (g16_2_4 c x13 x14 x49 x50)) else (allT (g16_2_5 c x13 x14 x49 x50)))) else (allT (g16_2_6 c x13 x14 x49 x50))))
theorem T16_2 (c : Ct) (x13 : Int) (x14 : Int) (x49 : Int) (x50 : Int) (hk : K16_2 c x13 x14 x49 x50 = true) : step16_2 c x13 x14 x49 x50 = some (V16_2 c x13 x14 x49 x50) :=
  (tree_if (tree_if tree_leaf tree_leaf) (tree_if (tree_if tree_leaf (tree_if tree_leaf tree_leaf)) tree_leaf)) hk
noncomputable def o16 (c : Ct) : Option (S16 ⊕ T) :=
  (if allT (g16_s_1 c) then some (.inl (.l0 (↑c.n : Int) 0)) else none)
noncomputable def V16_s (c : Ct) : S16 ⊕ T :=
  (.inl (.l0 (↑c.n : Int) 0))
noncomputable def K16_s (c : Ct) : Bool :=
  (allT (g16_s_1 c))
theorem T16_s (c : Ct) (hk : K16_s c = true) : o16 c = some (V16_s c) :=
  tree_leaf hk
noncomputable def step16 (c : Ct) : S16 → Option (S16 ⊕ T)
  | .l0 x13 x14 => step16_0 c x13 x14
  | .l1 x13 x14 x20 x21 => step16_1 c x13 x14 x20 x21
  | .l2 x13 x14 x49 x50 => step16_2 c x13 x14 x49 x50
noncomputable def M16 (c : Ct) : Mch S16 where
  lp := fun σ => match σ with
    | .l0 .. => 0
    | .l1 .. => 1
    | .l2 .. => 2
  keep := fun ι => match ι with
    | 0 => [1, 12, 13, 14]
    | 1 => [1, 4, 12, 13, 14, 19, 20, 21]
    | 2 => [1, 4, 12, 13, 14, 48, 49, 50]
    | _ => []
  par := fun ι => match ι with
    | 0 => []
    | 1 => [0]
    | 2 => [0]
    | _ => []
  vs := fun σ => match σ with
    | .l0 x13 x14 => [(ctT c).ref 0, T.slf false c.n fun i => lnT (c.line i), T.int .i64 x13, T.int .i64 x14]
    | .l1 x13 x14 x20 x21 => [(ctT c).ref 0, (lnT (c.line x14.toNat)).ref 0, T.slf false c.n fun i => lnT (c.line i), T.int .i64 x13, T.int .i64 x14, T.slf false (c.line x14.toNat).k fun i => spT ((c.line x14.toNat).from_ i), T.int .i64 x20, T.int .i64 x21]
    | .l2 x13 x14 x49 x50 => [(ctT c).ref 0, (lnT (c.line x14.toNat)).ref 0, T.slf false c.n fun i => lnT (c.line i), T.int .i64 x13, T.int .i64 x14, T.slf false (c.line x14.toNat).k fun i => spT ((c.line x14.toNat).from_ i), T.int .i64 x49, T.int .i64 x50]
  hp := fun σ => match σ with
    | .l0 _ _ => ⟨0, []⟩
    | .l1 _ _ _ _ => ⟨0, []⟩
    | .l2 _ _ _ _ => ⟨0, []⟩
  len := 80
  step := step16 c
theorem ways16 (c : Ct) : (M16 c).Ways prog D9 F0 f16 20 := by
  intro σ o fr h
  cases σ with
  | l0 x13 x14 =>
    change step16_0 c x13 x14 = some o at h
    exact (ways_if (ways_leaf fun hk => .inr ⟨2000, _, _, _, w16_0_1 c x13 x14 fr, hk, rfl⟩) (ways_leaf fun hk => ⟨2000, _, _, _, _, _, _, w16_0_2 c x13 x14 fr, hk⟩)) o h
  | l1 x13 x14 x20 x21 =>
    change step16_1 c x13 x14 x20 x21 = some o at h
    exact (ways_if (ways_if (ways_if (ways_leaf fun hk => ⟨2000, _, _, _, _, _, _, w16_1_1 c x13 x14 x20 x21 fr, hk⟩) (ways_if (ways_leaf fun hk => ⟨2000, _, _, _, _, _, _, w16_1_2 c x13 x14 x20 x21 fr, hk⟩) (ways_leaf fun hk => .inl ⟨2000, _, _, _, w16_1_3 c x13 x14 x20 x21 fr, hk, rfl⟩))) (ways_if (ways_leaf fun hk => ⟨2000, _, _, _, _, _, _, w16_1_4 c x13 x14 x20 x21 fr, hk⟩) (ways_leaf fun hk => .inl ⟨2000, _, _, _, w16_1_5 c x13 x14 x20 x21 fr, hk, rfl⟩))) (ways_leaf fun hk => .inr ⟨2000, _, _, _, w16_1_6 c x13 x14 x20 x21 fr, hk, rfl⟩)) o h
  | l2 x13 x14 x49 x50 =>
    change step16_2 c x13 x14 x49 x50 = some o at h
    exact (ways_if (ways_if (ways_leaf fun hk => ⟨2000, _, _, _, _, _, _, w16_2_1 c x13 x14 x49 x50 fr, hk⟩) (ways_leaf fun hk => .inl ⟨2000, _, _, _, w16_2_2 c x13 x14 x49 x50 fr, hk, rfl⟩)) (ways_if (ways_if (ways_leaf fun hk => ⟨2000, _, _, _, _, _, _, w16_2_3 c x13 x14 x49 x50 fr, hk⟩) (ways_if (ways_leaf fun hk => ⟨2000, _, _, _, _, _, _, w16_2_4 c x13 x14 x49 x50 fr, hk⟩) (ways_leaf fun hk => .inl ⟨2000, _, _, _, w16_2_5 c x13 x14 x49 x50 fr, hk, rfl⟩))) (ways_leaf fun hk => .inl ⟨2000, _, _, _, w16_2_6 c x13 x14 x49 x50 fr, hk, rfl⟩))) o h
theorem oks16 (c : Ct) : ∀ σ, codeOk (loopAt f16 ((M16 c).lp σ)).1 = true ∧ ksOk (.lp :: (loopAt f16 ((M16 c).lp σ)).2) = true := by
  intro σ
  cases σ
  · exact ⟨(show codeOk (loopAt f16 0).1 = true by kernel_rfl), (show ksOk (.lp :: (loopAt f16 0).2) = true by kernel_rfl)⟩
  · exact ⟨(show codeOk (loopAt f16 1).1 = true by kernel_rfl), (show ksOk (.lp :: (loopAt f16 1).2) = true by kernel_rfl)⟩
  · exact ⟨(show codeOk (loopAt f16 2).1 = true by kernel_rfl), (show ksOk (.lp :: (loopAt f16 2).2) = true by kernel_rfl)⟩
theorem run16 (c : Ct) {n : Nat} {o : S16 ⊕ T} {r : T} (h : o16 c = some o) (hr : (M16 c).fin n o = some r) : PureFn prog gl 16 [ctT c] r := by
  refine pure_mach (M := (M16 c)) (fn := f16) (k := 20) (d := 8) (c := bodyOf f16) cx9 glFrz (by kernel_rfl) func16 (by kernel_rfl) rfl (by kernel_rfl) (by kernel_rfl) (L := 79) (by kernel_rfl) (ways16 c) (oks16 c) ?_ hr
  exact (ways_leaf fun hk => .inr ⟨2000, _, _, _, w16_s_1 c, hk, rfl⟩) o h
theorem c16 (c : Ct) (n : Nat) {r : T} (hk : K16_s c = true) (hr : (M16 c).fin n (V16_s c) = some r) : PureFn prog gl 16 [ctT c] r := run16 c (T16_s c hk) hr


/-! ### 18 -/
inductive S18 where
  | l0 (x13 : Int) (x14 : Int)
  | l1 (x5 : Int) (x6 : Int) (x13 : Int) (x14 : Int) (x20 : Int) (x21 : Int)
noncomputable def g18_s_1 (c : Ct) : List Bool := []
theorem w18_s_1 (c : Ct) : outK prog f18 20 [1, 12, 13, 14] (runK prog D9 F0 2000 (.code (bodyOf f18)) [] 0 ([ctT c] ++ List.replicate 69 undefT) ⟨0, []⟩ [] [])
    = some (OutT.loop 0 (loopAt f18 0).1 (loopAt f18 0).2, g18_s_1 c, { next := 0, objs := [] }, [(ctT c).ref 0, T.slf false c.n fun i => lnT (c.line i), T.int .i64 (↑c.n : Int), T.int .i64 0], 70) := by kernel_rfl
noncomputable def g18_0_1 (c : Ct) (x13 : Int) (x14 : Int) : List Bool := [true, true, decide (0 ≤ x14), decide (x14 < (↑c.n : Int)), true, decide (x14 < x13)]
theorem w18_0_1 (c : Ct) (x13 : Int) (x14 : Int) (fr : List T) : outK prog f18 20 [1, 4, 5, 6, 12, 13, 14, 19, 20, 21] (runK prog D9 F0 2000 (.code (loopAt f18 0).1) (.lp :: (loopAt f18 0).2) 0 (frK [1, 12, 13, 14] [(ctT c).ref 0, T.slf false c.n fun i => lnT (c.line i), T.int .i64 x13, T.int .i64 x14] fr 70) ⟨0, []⟩ [true] [])
    = some (OutT.loop 0 (loopAt f18 1).1 (loopAt f18 1).2, g18_0_1 c x13 x14, { next := 0, objs := [] }, [(ctT c).ref 0, (lnT (c.line x14.toNat)).ref 0, T.int .i64 0, T.int .i64 0, T.slf false c.n fun i => lnT (c.line i), T.int .i64 x13, T.int .i64 x14, T.slf false (c.line x14.toNat).k fun i => spT ((c.line x14.toNat).from_ i), T.int .i64 (↑(c.line x14.toNat).k : Int), T.int .i64 0], 70) := by kernel_rfl
noncomputable def g18_0_2 (c : Ct) (x13 : Int) (x14 : Int) : List Bool := [!decide (x14 < x13)]
theorem w18_0_2 (c : Ct) (x13 : Int) (x14 : Int) (fr : List T) : outK prog f18 20 [] (runK prog D9 F0 2000 (.code (loopAt f18 0).1) (.lp :: (loopAt f18 0).2) 0 (frK [1, 12, 13, 14] [(ctT c).ref 0, T.slf false c.n fun i => lnT (c.line i), T.int .i64 x13, T.int .i64 x14] fr 70) ⟨0, []⟩ [false] [])
    = some (OutT.done (some (T.int .i64 0)), g18_0_2 c x13 x14, { next := 0, objs := [] }, [], 0) := by kernel_rfl
noncomputable def g18_1_1 (c : Ct) (x5 : Int) (x6 : Int) (x13 : Int) (x14 : Int) (x20 : Int) (x21 : Int) : List Bool := [(c.line (↑(bs c.n fun i => cmpS (c.line i).st ((c.line x14.toNat).from_ x21.toNat)) : Int).toNat).fate == 2, true, decide ((↑(bs c.n fun i => cmpS (c.line i).st ((c.line x14.toNat).from_ x21.toNat)) : Int) < (↑c.n : Int)), true, true, decide ((↑(bs c.n fun i => cmpS (c.line i).st ((c.line x14.toNat).from_ x21.toNat)) : Int) < (↑c.n : Int)), true, isV (T.slf false c.n fun i => lnT (c.line i)) (lsT c.n c.line), isV (spT ((c.line x14.toNat).from_ x21.toNat)) (spT ((c.line x14.toNat).from_ x21.toNat)), modestB c.n c.line, true, true, decide (0 ≤ x21), decide (x21 < (↑(c.line x14.toNat).k : Int)), true, decide (x21 < x20)]
theorem w18_1_1 (c : Ct) (x5 : Int) (x6 : Int) (x13 : Int) (x14 : Int) (x20 : Int) (x21 : Int) (fr : List T) : outK prog f18 20 [1, 4, 5, 6, 12, 13, 14, 19, 20, 21] (runK prog D9 F0 2000 (.code (loopAt f18 1).1) (.lp :: (loopAt f18 1).2) 0 (frK [1, 4, 5, 6, 12, 13, 14, 19, 20, 21] [(ctT c).ref 0, (lnT (c.line x14.toNat)).ref 0, T.int .i64 x5, T.int .i64 x6, T.slf false c.n fun i => lnT (c.line i), T.int .i64 x13, T.int .i64 x14, T.slf false (c.line x14.toNat).k fun i => spT ((c.line x14.toNat).from_ i), T.int .i64 x20, T.int .i64 x21] fr 70) ⟨0, []⟩ [true, true] [])
    = some (OutT.again 0, g18_1_1 c x5 x6 x13 x14 x20 x21, { next := 0, objs := [] }, [(ctT c).ref 0, (lnT (c.line x14.toNat)).ref 0, T.int .i64 (IntKind.i64.wrap (x5 + 1)), T.int .i64 (IntKind.i64.wrap (x6 + (c.line (↑(bs c.n fun i => cmpS (c.line i).st ((c.line x14.toNat).from_ x21.toNat)) : Int).toNat).mass)), T.slf false c.n fun i => lnT (c.line i), T.int .i64 x13, T.int .i64 x14, T.slf false (c.line x14.toNat).k fun i => spT ((c.line x14.toNat).from_ i), T.int .i64 x20, T.int .i64 (IntKind.i64.wrap (x21 + 1))], 70) := by kernel_rfl
noncomputable def g18_1_2 (c : Ct) (x5 : Int) (x6 : Int) (x13 : Int) (x14 : Int) (x20 : Int) (x21 : Int) : List Bool := [!(c.line (↑(bs c.n fun i => cmpS (c.line i).st ((c.line x14.toNat).from_ x21.toNat)) : Int).toNat).fate == 2, true, decide ((↑(bs c.n fun i => cmpS (c.line i).st ((c.line x14.toNat).from_ x21.toNat)) : Int) < (↑c.n : Int)), true, true, decide ((↑(bs c.n fun i => cmpS (c.line i).st ((c.line x14.toNat).from_ x21.toNat)) : Int) < (↑c.n : Int)), true, isV (T.slf false c.n fun i => lnT (c.line i)) (lsT c.n c.line), isV (spT ((c.line x14.toNat).from_ x21.toNat)) (spT ((c.line x14.toNat).from_ x21.toNat)), modestB c.n c.line, true, true, decide (0 ≤ x21), decide (x21 < (↑(c.line x14.toNat).k : Int)), true, decide (x21 < x20)]
theorem w18_1_2 (c : Ct) (x5 : Int) (x6 : Int) (x13 : Int) (x14 : Int) (x20 : Int) (x21 : Int) (fr : List T) : outK prog f18 20 [1, 4, 5, 6, 12, 13, 14, 19, 20, 21] (runK prog D9 F0 2000 (.code (loopAt f18 1).1) (.lp :: (loopAt f18 1).2) 0 (frK [1, 4, 5, 6, 12, 13, 14, 19, 20, 21] [(ctT c).ref 0, (lnT (c.line x14.toNat)).ref 0, T.int .i64 x5, T.int .i64 x6, T.slf false c.n fun i => lnT (c.line i), T.int .i64 x13, T.int .i64 x14, T.slf false (c.line x14.toNat).k fun i => spT ((c.line x14.toNat).from_ i), T.int .i64 x20, T.int .i64 x21] fr 70) ⟨0, []⟩ [true, false] [])
    = some (OutT.again 0, g18_1_2 c x5 x6 x13 x14 x20 x21, { next := 0, objs := [] }, [(ctT c).ref 0, (lnT (c.line x14.toNat)).ref 0, T.int .i64 x5, T.int .i64 (IntKind.i64.wrap (x6 + (c.line (↑(bs c.n fun i => cmpS (c.line i).st ((c.line x14.toNat).from_ x21.toNat)) : Int).toNat).mass)), T.slf false c.n fun i => lnT (c.line i), T.int .i64 x13, T.int .i64 x14, T.slf false (c.line x14.toNat).k fun i => spT ((c.line x14.toNat).from_ i), T.int .i64 x20, T.int .i64 (IntKind.i64.wrap (x21 + 1))], 70) := by kernel_rfl
noncomputable def g18_1_3 (c : Ct) (x5 : Int) (x6 : Int) (x13 : Int) (x14 : Int) (x20 : Int) (x21 : Int) : List Bool := [decide (x5 < (↑(c.line x14.toNat).k : Int)), decide (x5 > 0), decide (x5 > 0), decide (x5 > 0), decide (x5 > 0), decide (x5 > 0), decide (x5 > 0), !decide (x21 < x20)]
theorem w18_1_3 (c : Ct) (x5 : Int) (x6 : Int) (x13 : Int) (x14 : Int) (x20 : Int) (x21 : Int) (fr : List T) : outK prog f18 20 [] (runK prog D9 F0 2000 (.code (loopAt f18 1).1) (.lp :: (loopAt f18 1).2) 0 (frK [1, 4, 5, 6, 12, 13, 14, 19, 20, 21] [(ctT c).ref 0, (lnT (c.line x14.toNat)).ref 0, T.int .i64 x5, T.int .i64 x6, T.slf false c.n fun i => lnT (c.line i), T.int .i64 x13, T.int .i64 x14, T.slf false (c.line x14.toNat).k fun i => spT ((c.line x14.toNat).from_ i), T.int .i64 x20, T.int .i64 x21] fr 70) ⟨0, []⟩ (bt 8 254) [])
    = some (OutT.done (some (T.int .i64 10)), g18_1_3 c x5 x6 x13 x14 x20 x21, { next := 0, objs := [] }, [], 0) := by kernel_rfl
noncomputable def g18_1_4 (c : Ct) (x5 : Int) (x6 : Int) (x13 : Int) (x14 : Int) (x20 : Int) (x21 : Int) : List Bool := [x6 != (c.line x14.toNat).mass, decide (x5 > 0), decide (x5 > 0), decide (x5 > 0), decide (x5 > 0), decide (x5 > 0), !decide (x5 < (↑(c.line x14.toNat).k : Int)), decide (x5 > 0), decide (x5 > 0), decide (x5 > 0), decide (x5 > 0), decide (x5 > 0), decide (x5 > 0), !decide (x21 < x20)]
theorem w18_1_4 (c : Ct) (x5 : Int) (x6 : Int) (x13 : Int) (x14 : Int) (x20 : Int) (x21 : Int) (fr : List T) : outK prog f18 20 [] (runK prog D9 F0 2000 (.code (loopAt f18 1).1) (.lp :: (loopAt f18 1).2) 0 (frK [1, 4, 5, 6, 12, 13, 14, 19, 20, 21] [(ctT c).ref 0, (lnT (c.line x14.toNat)).ref 0, T.int .i64 x5, T.int .i64 x6, T.slf false c.n fun i => lnT (c.line i), T.int .i64 x13, T.int .i64 x14, T.slf false (c.line x14.toNat).k fun i => spT ((c.line x14.toNat).from_ i), T.int .i64 x20, T.int .i64 x21] fr 70) ⟨0, []⟩ (bt 14 16254) [])
    = some (OutT.done (some (T.int .i64 38)), g18_1_4 c x5 x6 x13 x14 x20 x21, { next := 0, objs := [] }, [], 0) := by kernel_rfl
noncomputable def g18_1_5 (c : Ct) (x5 : Int) (x6 : Int) (x13 : Int) (x14 : Int) (x20 : Int) (x21 : Int) : List Bool := [!x6 != (c.line x14.toNat).mass, decide (x5 > 0), decide (x5 > 0), decide (x5 > 0), decide (x5 > 0), decide (x5 > 0), !decide (x5 < (↑(c.line x14.toNat).k : Int)), decide (x5 > 0), decide (x5 > 0), decide (x5 > 0), decide (x5 > 0), decide (x5 > 0), decide (x5 > 0), !decide (x21 < x20)]
theorem w18_1_5 (c : Ct) (x5 : Int) (x6 : Int) (x13 : Int) (x14 : Int) (x20 : Int) (x21 : Int) (fr : List T) : outK prog f18 20 [1, 12, 13, 14] (runK prog D9 F0 2000 (.code (loopAt f18 1).1) (.lp :: (loopAt f18 1).2) 0 (frK [1, 4, 5, 6, 12, 13, 14, 19, 20, 21] [(ctT c).ref 0, (lnT (c.line x14.toNat)).ref 0, T.int .i64 x5, T.int .i64 x6, T.slf false c.n fun i => lnT (c.line i), T.int .i64 x13, T.int .i64 x14, T.slf false (c.line x14.toNat).k fun i => spT ((c.line x14.toNat).from_ i), T.int .i64 x20, T.int .i64 x21] fr 70) ⟨0, []⟩ (bt 14 8062) [])
    = some (OutT.again 1, g18_1_5 c x5 x6 x13 x14 x20 x21, { next := 0, objs := [] }, [(ctT c).ref 0, T.slf false c.n fun i => lnT (c.line i), T.int .i64 x13, T.int .i64 (IntKind.i64.wrap (x14 + 1))], 70) := by kernel_rfl
noncomputable def g18_1_6 (c : Ct) (x5 : Int) (x6 : Int) (x13 : Int) (x14 : Int) (x20 : Int) (x21 : Int) : List Bool := [true, !decide (x5 > 0), !decide (x5 > 0), !decide (x5 > 0), !decide (x5 > 0), !decide (x5 > 0), true, !decide (x5 > 0), !decide (x5 > 0), !decide (x5 > 0), !decide (x5 > 0), !decide (x5 > 0), !decide (x5 > 0), !decide (x21 < x20)]
theorem w18_1_6 (c : Ct) (x5 : Int) (x6 : Int) (x13 : Int) (x14 : Int) (x20 : Int) (x21 : Int) (fr : List T) : outK prog f18 20 [1, 12, 13, 14] (runK prog D9 F0 2000 (.code (loopAt f18 1).1) (.lp :: (loopAt f18 1).2) 0 (frK [1, 4, 5, 6, 12, 13, 14, 19, 20, 21] [(ctT c).ref 0, (lnT (c.line x14.toNat)).ref 0, T.int .i64 x5, T.int .i64 x6, T.slf false c.n fun i => lnT (c.line i), T.int .i64 x13, T.int .i64 x14, T.slf false (c.line x14.toNat).k fun i => spT ((c.line x14.toNat).from_ i), T.int .i64 x20, T.int .i64 x21] fr 70) ⟨0, []⟩ (bt 14 0) [])
    = some (OutT.again 1, g18_1_6 c x5 x6 x13 x14 x20 x21, { next := 0, objs := [] }, [(ctT c).ref 0, T.slf false c.n fun i => lnT (c.line i), T.int .i64 x13, T.int .i64 (IntKind.i64.wrap (x14 + 1))], 70) := by kernel_rfl
noncomputable def step18_0 (c : Ct) (x13 : Int) (x14 : Int) : Option (S18 ⊕ T) :=
  (if decide (x14 < x13) then (if allT (g18_0_1 c x13 x14) then some (.inl (.l1 0 0 x13 x14 (↑(c.line x14.toNat).k : Int) 0)) else none) else (if allT (g18_0_2 c x13 x14) then some (.inr ((T.int .i64 0))) else none))
noncomputable def V18_0 (c : Ct) (x13 : Int) (x14 : Int) : S18 ⊕ T :=
  (if decide (x14 < x13) then (.inl (.l1 0 0 x13 x14 (↑(c.line x14.toNat).k : Int) 0)) else (.inr ((T.int .i64 0))))
noncomputable def K18_0 (c : Ct) (x13 : Int) (x14 : Int) : Bool :=
  (if decide (x14 < x13) then (allT (g18_0_1 c x13 x14)) else (allT (g18_0_2 c x13 x14)))
theorem T18_0 (c : Ct) (x13 : Int) (x14 : Int) (hk : K18_0 c x13 x14 = true) : step18_0 c x13 x14 = some (V18_0 c x13 x14) :=
  (tree_if tree_leaf tree_leaf) hk
noncomputable def step18_1 (c : Ct) (x5 : Int) (x6 : Int) (x13 : Int) (x14 : Int) (x20 : Int) (x21 : Int) : Option (S18 ⊕ T) :=
  (if decide (x21 < x20) then (if (c.line (↑(bs c.n fun i => cmpS (c.line i).st ((c.line x14.toNat).from_ x21.toNat)) : Int).toNat).fate == 2 then (if allT (g18_1_1 c x5 x6 x13 x14 x20 x21) then some (.inl (.l1 (IntKind.i64.wrap (x5 + 1)) (IntKind.i64.wrap (x6 + (c.line (↑(bs c.n fun i => cmpS (c.line i).st ((c.line x14.toNat).from_ x21.toNat)) : Int).toNat).mass)) x13 x14 x20 (IntKind.i64.wrap (x21 + 1)))) else none) else (if allT (g18_1_2 c x5 x6 x13 x14 x20 x21) then some (.inl (.l1 x5 (IntKind.i64.wrap (x6 + (c.line (↑(bs c.n fun i => cmpS (c.line i).st ((c.line x14.toNat).from_ x21.toNat)) : Int).toNat).mass)) x13 x14 x20 (IntKind.i64.wrap (x21 + 1)))) else none)) else (if decide (x5 > 0) then (if decide (x5 < (↑(c.line x14.toNat).k : Int)) then (if allT (g18_1_3 c x5 x6 x13 x14 x20 x21) then some (.inr ((T.int .i64 10))) else none) else (if x6 != (c.line x14.toNat).mass then (if allT (g18_1_4 c x5 x6 x13 x14 x20 x21) then some (.inr ((T.int .i64 38))) else none) else (if allT (g18_1_5 c x5 x6 x13 x14 x20 x21) then some (.inl (.l0 x13 (IntKind.i64.wrap (x14 + 1)))) else none))) else (if allT (g18_1_6 c x5 x6 x13 x14 x20 x21) then some (.inl (.l0 x13 (IntKind.i64.wrap (x14 + 1)))) else none)))
noncomputable def V18_1 (c : Ct) (x5 : Int) (x6 : Int) (x13 : Int) (x14 : Int) (x20 : Int) (x21 : Int) : S18 ⊕ T :=
  (if decide (x21 < x20) then (if (c.line (↑(bs c.n fun i => cmpS (c.line i).st ((c.line x14.toNat).from_ x21.toNat)) : Int).toNat).fate == 2 then (.inl (.l1 (IntKind.i64.wrap (x5 + 1)) (IntKind.i64.wrap (x6 + (c.line (↑(bs c.n fun i => cmpS (c.line i).st ((c.line x14.toNat).from_ x21.toNat)) : Int).toNat).mass)) x13 x14 x20 (IntKind.i64.wrap (x21 + 1)))) else (.inl (.l1 x5 (IntKind.i64.wrap (x6 + (c.line (↑(bs c.n fun i => cmpS (c.line i).st ((c.line x14.toNat).from_ x21.toNat)) : Int).toNat).mass)) x13 x14 x20 (IntKind.i64.wrap (x21 + 1))))) else (if decide (x5 > 0) then (if decide (x5 < (↑(c.line x14.toNat).k : Int)) then (.inr ((T.int .i64 10))) else (if x6 != (c.line x14.toNat).mass then (.inr ((T.int .i64 38))) else (.inl (.l0 x13 (IntKind.i64.wrap (x14 + 1)))))) else (.inl (.l0 x13 (IntKind.i64.wrap (x14 + 1))))))
noncomputable def K18_1 (c : Ct) (x5 : Int) (x6 : Int) (x13 : Int) (x14 : Int) (x20 : Int) (x21 : Int) : Bool :=
  (if decide (x21 < x20) then (if (c.line (↑(bs c.n fun i => cmpS (c.line i).st ((c.line x14.toNat).from_ x21.toNat)) : Int).toNat).fate == 2 then (allT (g18_1_1 c x5 x6 x13 x14 x20 x21)) else (allT (g18_1_2 c x5 x6 x13 x14 x20 x21))) else (if decide (x5 > 0) then (if decide (x5 < (↑(c.line x14.toNat).k : Int)) then (allT (g18_1_3 c x5 x6 x13 x14 x20 x21)) else (if x6 != (c.line x14.toNat).mass then (allT (g18_1_4 c x5 x6 x13 x14 x20 x21)) else (allT (g18_1_5 c x5 x6 x13 x14 x20 x21)))) else (allT (g18_1_6 c x5 x6 x13 x14 x20 x21))))
theorem T18_1 (c : Ct) (x5 : Int) (x6 : Int) (x13 : Int) (x14 : Int) (x20 : Int) (x21 : Int) (hk : K18_1 c x5 x6 x13 x14 x20 x21 = true) : step18_1 c x5 x6 x13 x14 x20 x21 = some (V18_1 c x5 x6 x13 x14 x20 x21) :=
  (tree_if (tree_if tree_leaf tree_leaf) (tree_if (tree_if tree_leaf (tree_if tree_leaf tree_leaf)) tree_leaf)) hk
noncomputable def o18 (c : Ct) : Option (S18 ⊕ T) :=
  (if allT (g18_s_1 c) then some (.inl (.l0 (↑c.n : Int) 0)) else none)
noncomputable def V18_s (c : Ct) : S18 ⊕ T :=
  (.inl (.l0 (↑c.n : Int) 0))
noncomputable def K18_s (c : Ct) : Bool :=
  (allT (g18_s_1 c))
theorem T18_s (c : Ct) (hk : K18_s c = true) : o18 c = some (V18_s c) :=
  tree_leaf hk
noncomputable def step18 (c : Ct) : S18 → Option (S18 ⊕ T)
  | .l0 x13 x14 => step18_0 c x13 x14
  | .l1 x5 x6 x13 x14 x20 x21 => step18_1 c x5 x6 x13 x14 x20 x21
noncomputable def M18 (c : Ct) : Mch S18 where
  lp := fun σ => match σ with
    | .l0 .. => 0
    | .l1 .. => 1
  keep := fun ι => match ι with
    | 0 => [1, 12, 13, 14]
    | 1 => [1, 4, 5, 6, 12, 13, 14, 19, 20, 21]
    | _ => []
  par := fun ι => match ι with
    | 0 => []
    | 1 => [0]
    | _ => []
  vs := fun σ => match σ with
    | .l0 x13 x14 => [(ctT c).ref 0, T.slf false c.n fun i => lnT (c.line i), T.int .i64 x13, T.int .i64 x14]
    | .l1 x5 x6 x13 x14 x20 x21 => [(ctT c).ref 0, (lnT (c.line x14.toNat)).ref 0, T.int .i64 x5, T.int .i64 x6, T.slf false c.n fun i => lnT (c.line i), T.int .i64 x13, T.int .i64 x14, T.slf false (c.line x14.toNat).k fun i => spT ((c.line x14.toNat).from_ i), T.int .i64 x20, T.int .i64 x21]
  hp := fun σ => match σ with
    | .l0 _ _ => ⟨0, []⟩
    | .l1 _ _ _ _ _ _ => ⟨0, []⟩
  len := 70
  step := step18 c
theorem ways18 (c : Ct) : (M18 c).Ways prog D9 F0 f18 20 := by
  intro σ o fr h
  cases σ with
  | l0 x13 x14 =>
    change step18_0 c x13 x14 = some o at h
    exact (ways_if (ways_leaf fun hk => .inr ⟨2000, _, _, _, w18_0_1 c x13 x14 fr, hk, rfl⟩) (ways_leaf fun hk => ⟨2000, _, _, _, _, _, _, w18_0_2 c x13 x14 fr, hk⟩)) o h
  | l1 x5 x6 x13 x14 x20 x21 =>
    change step18_1 c x5 x6 x13 x14 x20 x21 = some o at h
    exact (ways_if (ways_if (ways_leaf fun hk => .inl ⟨2000, _, _, _, w18_1_1 c x5 x6 x13 x14 x20 x21 fr, hk, rfl⟩) (ways_leaf fun hk => .inl ⟨2000, _, _, _, w18_1_2 c x5 x6 x13 x14 x20 x21 fr, hk, rfl⟩)) (ways_if (ways_if (ways_leaf fun hk => ⟨2000, _, _, _, _, _, _, w18_1_3 c x5 x6 x13 x14 x20 x21 fr, hk⟩) (ways_if (ways_leaf fun hk => ⟨2000, _, _, _, _, _, _, w18_1_4 c x5 x6 x13 x14 x20 x21 fr, hk⟩) (ways_leaf fun hk => .inl ⟨2000, _, _, _, w18_1_5 c x5 x6 x13 x14 x20 x21 fr, hk, rfl⟩))) (ways_leaf fun hk => .inl ⟨2000, _, _, _, w18_1_6 c x5 x6 x13 x14 x20 x21 fr, hk, rfl⟩))) o h
theorem oks18 (c : Ct) : ∀ σ, codeOk (loopAt f18 ((M18 c).lp σ)).1 = true ∧ ksOk (.lp :: (loopAt f18 ((M18 c).lp σ)).2) = true := by
  intro σ
  cases σ
  · exact ⟨(show codeOk (loopAt f18 0).1 = true by kernel_rfl), (show ksOk (.lp :: (loopAt f18 0).2) = true by kernel_rfl)⟩
  · exact ⟨(show codeOk (loopAt f18 1).1 = true by kernel_rfl), (show ksOk (.lp :: (loopAt f18 1).2) = true by kernel_rfl)⟩
theorem run18 (c : Ct) {n : Nat} {o : S18 ⊕ T} {r : T} (h : o18 c = some o) (hr : (M18 c).fin n o = some r) : PureFn prog gl 18 [ctT c] r := by
  refine pure_mach (M := (M18 c)) (fn := f18) (k := 20) (d := 8) (c := bodyOf f18) cx9 glFrz (by kernel_rfl) func18 (by kernel_rfl) rfl (by kernel_rfl) (by kernel_rfl) (L := 69) (by kernel_rfl) (ways18 c) (oks18 c) ?_ hr
  exact (ways_leaf fun hk => .inr ⟨2000, _, _, _, w18_s_1 c, hk, rfl⟩) o h
theorem c18 (c : Ct) (n : Nat) {r : T} (hk : K18_s c = true) (hr : (M18 c).fin n (V18_s c) = some r) : PureFn prog gl 18 [ctT c] r := run18 c (T18_s c hk) hr


/-! ### 21 -/
inductive S21 where
  | l0 (x6 : Int)
  | l1 (x7 : Int)
noncomputable def g21_s_1 (c : Ct) (i : Int) : List Bool := [true, true, decide (0 ≤ i), decide (i < (↑c.n : Int)), true]
theorem w21_s_1 (c : Ct) (i : Int) : outK prog f21 20 [2, 5, 6] (runK prog D9 F0 2000 (.code (bodyOf f21)) [] 0 ([ctT c, .int .i64 i] ++ List.replicate 77 undefT) ⟨0, []⟩ [] [])
    = some (OutT.loop 0 (loopAt f21 0).1 (loopAt f21 0).2, g21_s_1 c i, { next := 0, objs := [] }, [(ctT c).ref 0, (lnT (c.line i.toNat)).ref 0, T.int .i64 0], 79) := by kernel_rfl
noncomputable def g21_0_1 (c : Ct) (i : Int) (x6 : Int) : List Bool := [true, decide (cmpS ((c.line i.toNat).from_ (IntKind.i64.wrap (x6 - 1)).toNat) ((c.line i.toNat).from_ x6.toNat) ≥ 0), decide (cmpS ((c.line i.toNat).from_ (IntKind.i64.wrap (x6 - 1)).toNat) ((c.line i.toNat).from_ x6.toNat) ≥ 0), decide (cmpS ((c.line i.toNat).from_ (IntKind.i64.wrap (x6 - 1)).toNat) ((c.line i.toNat).from_ x6.toNat) ≥ 0), decide (cmpS ((c.line i.toNat).from_ (IntKind.i64.wrap (x6 - 1)).toNat) ((c.line i.toNat).from_ x6.toNat) ≥ 0), decide (cmpS ((c.line i.toNat).from_ (IntKind.i64.wrap (x6 - 1)).toNat) ((c.line i.toNat).from_ x6.toNat) ≥ 0), decide (cmpS ((c.line i.toNat).from_ (IntKind.i64.wrap (x6 - 1)).toNat) ((c.line i.toNat).from_ x6.toNat) ≥ 0), decide (cmpS ((c.line i.toNat).from_ (IntKind.i64.wrap (x6 - 1)).toNat) ((c.line i.toNat).from_ x6.toNat) ≥ 0), decide (cmpS ((c.line i.toNat).from_ (IntKind.i64.wrap (x6 - 1)).toNat) ((c.line i.toNat).from_ x6.toNat) ≥ 0), decide (cmpS ((c.line i.toNat).from_ (IntKind.i64.wrap (x6 - 1)).toNat) ((c.line i.toNat).from_ x6.toNat) ≥ 0), decide (cmpS ((c.line i.toNat).from_ (IntKind.i64.wrap (x6 - 1)).toNat) ((c.line i.toNat).from_ x6.toNat) ≥ 0), decide (x6 > 0), decide (x6 > 0), isV (spT ((c.line i.toNat).from_ (IntKind.i64.wrap (x6 - 1)).toNat)) (spT ((c.line i.toNat).from_ (IntKind.i64.wrap (x6 - 1)).toNat)), isV (spT ((c.line i.toNat).from_ x6.toNat)) (spT ((c.line i.toNat).from_ x6.toNat)), decide (((c.line i.toNat).from_ (IntKind.i64.wrap (x6 - 1)).toNat).n ≤ 281474976710656), decide (x6 > 0), decide (x6 > 0), decide (0 ≤ x6), decide (x6 < (↑(c.line i.toNat).k : Int)), true, decide (x6 > 0), decide (x6 > 0), decide (x6 > 0), decide (x6 > 0), decide (x6 > 0), decide (0 ≤ IntKind.i64.wrap (x6 - 1)), decide (IntKind.i64.wrap (x6 - 1) < (↑(c.line i.toNat).k : Int)), true, decide (x6 > 0), decide (x6 > 0), decide (x6 > 0), decide (x6 > 0), decide (x6 > 0), decide (x6 < (↑(c.line i.toNat).k : Int))]
theorem w21_0_1 (c : Ct) (i : Int) (x6 : Int) (fr : List T) : outK prog f21 20 [] (runK prog D9 F0 2000 (.code (loopAt f21 0).1) (.lp :: (loopAt f21 0).2) 0 (frK [2, 5, 6] [(ctT c).ref 0, (lnT (c.line i.toNat)).ref 0, T.int .i64 x6] fr 79) ⟨0, []⟩ (bt 26 67108863) [])
    = some (OutT.done (some (T.int .i64 24)), g21_0_1 c i x6, { next := 0, objs := [] }, [], 0) := by kernel_rfl
noncomputable def g21_0_2 (c : Ct) (i : Int) (x6 : Int) : List Bool := [decide (cmpS ((c.line i.toNat).from_ x6.toNat) (c.line i.toNat).st ≥ 0), !decide (cmpS ((c.line i.toNat).from_ (IntKind.i64.wrap (x6 - 1)).toNat) ((c.line i.toNat).from_ x6.toNat) ≥ 0), !decide (cmpS ((c.line i.toNat).from_ (IntKind.i64.wrap (x6 - 1)).toNat) ((c.line i.toNat).from_ x6.toNat) ≥ 0), isV (spT ((c.line i.toNat).from_ x6.toNat)) (spT ((c.line i.toNat).from_ x6.toNat)), isV (spT (c.line i.toNat).st) (spT (c.line i.toNat).st), decide (((c.line i.toNat).from_ x6.toNat).n ≤ 281474976710656), !decide (cmpS ((c.line i.toNat).from_ (IntKind.i64.wrap (x6 - 1)).toNat) ((c.line i.toNat).from_ x6.toNat) ≥ 0), !decide (cmpS ((c.line i.toNat).from_ (IntKind.i64.wrap (x6 - 1)).toNat) ((c.line i.toNat).from_ x6.toNat) ≥ 0), !decide (cmpS ((c.line i.toNat).from_ (IntKind.i64.wrap (x6 - 1)).toNat) ((c.line i.toNat).from_ x6.toNat) ≥ 0), !decide (cmpS ((c.line i.toNat).from_ (IntKind.i64.wrap (x6 - 1)).toNat) ((c.line i.toNat).from_ x6.toNat) ≥ 0), decide (0 ≤ x6), decide (x6 < (↑(c.line i.toNat).k : Int)), true, !decide (cmpS ((c.line i.toNat).from_ (IntKind.i64.wrap (x6 - 1)).toNat) ((c.line i.toNat).from_ x6.toNat) ≥ 0), !decide (cmpS ((c.line i.toNat).from_ (IntKind.i64.wrap (x6 - 1)).toNat) ((c.line i.toNat).from_ x6.toNat) ≥ 0), !decide (cmpS ((c.line i.toNat).from_ (IntKind.i64.wrap (x6 - 1)).toNat) ((c.line i.toNat).from_ x6.toNat) ≥ 0), !decide (cmpS ((c.line i.toNat).from_ (IntKind.i64.wrap (x6 - 1)).toNat) ((c.line i.toNat).from_ x6.toNat) ≥ 0), decide (x6 > 0), decide (x6 > 0), isV (spT ((c.line i.toNat).from_ (IntKind.i64.wrap (x6 - 1)).toNat)) (spT ((c.line i.toNat).from_ (IntKind.i64.wrap (x6 - 1)).toNat)), isV (spT ((c.line i.toNat).from_ x6.toNat)) (spT ((c.line i.toNat).from_ x6.toNat)), decide (((c.line i.toNat).from_ (IntKind.i64.wrap (x6 - 1)).toNat).n ≤ 281474976710656), decide (x6 > 0), decide (x6 > 0), decide (0 ≤ x6), decide (x6 < (↑(c.line i.toNat).k : Int)), true, decide (x6 > 0), decide (x6 > 0), decide (x6 > 0), decide (x6 > 0), decide (x6 > 0), decide (0 ≤ IntKind.i64.wrap (x6 - 1)), decide (IntKind.i64.wrap (x6 - 1) < (↑(c.line i.toNat).k : Int)), true, decide (x6 > 0), decide (x6 > 0), decide (x6 > 0), decide (x6 > 0), decide (x6 > 0), decide (x6 < (↑(c.line i.toNat).k : Int))]
theorem w21_0_2 (c : Ct) (i : Int) (x6 : Int) (fr : List T) : outK prog f21 20 [] (runK prog D9 F0 2000 (.code (loopAt f21 0).1) (.lp :: (loopAt f21 0).2) 0 (frK [2, 5, 6] [(ctT c).ref 0, (lnT (c.line i.toNat)).ref 0, T.int .i64 x6] fr 79) ⟨0, []⟩ (bt 26 33587199) [])
    = some (OutT.done (some (T.int .i64 24)), g21_0_2 c i x6, { next := 0, objs := [] }, [], 0) := by kernel_rfl
noncomputable def g21_0_3 (c : Ct) (i : Int) (x6 : Int) : List Bool := [!decide (cmpS ((c.line i.toNat).from_ x6.toNat) (c.line i.toNat).st ≥ 0), !decide (cmpS ((c.line i.toNat).from_ (IntKind.i64.wrap (x6 - 1)).toNat) ((c.line i.toNat).from_ x6.toNat) ≥ 0), !decide (cmpS ((c.line i.toNat).from_ (IntKind.i64.wrap (x6 - 1)).toNat) ((c.line i.toNat).from_ x6.toNat) ≥ 0), isV (spT ((c.line i.toNat).from_ x6.toNat)) (spT ((c.line i.toNat).from_ x6.toNat)), isV (spT (c.line i.toNat).st) (spT (c.line i.toNat).st), decide (((c.line i.toNat).from_ x6.toNat).n ≤ 281474976710656), !decide (cmpS ((c.line i.toNat).from_ (IntKind.i64.wrap (x6 - 1)).toNat) ((c.line i.toNat).from_ x6.toNat) ≥ 0), !decide (cmpS ((c.line i.toNat).from_ (IntKind.i64.wrap (x6 - 1)).toNat) ((c.line i.toNat).from_ x6.toNat) ≥ 0), !decide (cmpS ((c.line i.toNat).from_ (IntKind.i64.wrap (x6 - 1)).toNat) ((c.line i.toNat).from_ x6.toNat) ≥ 0), !decide (cmpS ((c.line i.toNat).from_ (IntKind.i64.wrap (x6 - 1)).toNat) ((c.line i.toNat).from_ x6.toNat) ≥ 0), decide (0 ≤ x6), decide (x6 < (↑(c.line i.toNat).k : Int)), true, !decide (cmpS ((c.line i.toNat).from_ (IntKind.i64.wrap (x6 - 1)).toNat) ((c.line i.toNat).from_ x6.toNat) ≥ 0), !decide (cmpS ((c.line i.toNat).from_ (IntKind.i64.wrap (x6 - 1)).toNat) ((c.line i.toNat).from_ x6.toNat) ≥ 0), !decide (cmpS ((c.line i.toNat).from_ (IntKind.i64.wrap (x6 - 1)).toNat) ((c.line i.toNat).from_ x6.toNat) ≥ 0), !decide (cmpS ((c.line i.toNat).from_ (IntKind.i64.wrap (x6 - 1)).toNat) ((c.line i.toNat).from_ x6.toNat) ≥ 0), decide (x6 > 0), decide (x6 > 0), isV (spT ((c.line i.toNat).from_ (IntKind.i64.wrap (x6 - 1)).toNat)) (spT ((c.line i.toNat).from_ (IntKind.i64.wrap (x6 - 1)).toNat)), isV (spT ((c.line i.toNat).from_ x6.toNat)) (spT ((c.line i.toNat).from_ x6.toNat)), decide (((c.line i.toNat).from_ (IntKind.i64.wrap (x6 - 1)).toNat).n ≤ 281474976710656), decide (x6 > 0), decide (x6 > 0), decide (0 ≤ x6), decide (x6 < (↑(c.line i.toNat).k : Int)), true, decide (x6 > 0), decide (x6 > 0), decide (x6 > 0), decide (x6 > 0), decide (x6 > 0), decide (0 ≤ IntKind.i64.wrap (x6 - 1)), decide (IntKind.i64.wrap (x6 - 1) < (↑(c.line i.toNat).k : Int)), true, decide (x6 > 0), decide (x6 > 0), decide (x6 > 0), decide (x6 > 0), decide (x6 > 0), decide (x6 < (↑(c.line i.toNat).k : Int))]
theorem w21_0_3 (c : Ct) (i : Int) (x6 : Int) (fr : List T) : outK prog f21 20 [2, 5, 6] (runK prog D9 F0 2000 (.code (loopAt f21 0).1) (.lp :: (loopAt f21 0).2) 0 (frK [2, 5, 6] [(ctT c).ref 0, (lnT (c.line i.toNat)).ref 0, T.int .i64 x6] fr 79) ⟨0, []⟩ (bt 26 32767) [])
    = some (OutT.again 0, g21_0_3 c i x6, { next := 0, objs := [] }, [(ctT c).ref 0, (lnT (c.line i.toNat)).ref 0, T.int .i64 (IntKind.i64.wrap (x6 + 1))], 79) := by kernel_rfl
noncomputable def g21_0_4 (c : Ct) (i : Int) (x6 : Int) : List Bool := [decide (cmpS ((c.line i.toNat).from_ x6.toNat) (c.line i.toNat).st ≥ 0), true, true, isV (spT ((c.line i.toNat).from_ x6.toNat)) (spT ((c.line i.toNat).from_ x6.toNat)), isV (spT (c.line i.toNat).st) (spT (c.line i.toNat).st), decide (((c.line i.toNat).from_ x6.toNat).n ≤ 281474976710656), true, true, true, true, decide (0 ≤ x6), decide (x6 < (↑(c.line i.toNat).k : Int)), true, true, true, true, true, !decide (x6 > 0), !decide (x6 > 0), !decide (x6 > 0), !decide (x6 > 0), !decide (x6 > 0), !decide (x6 > 0), !decide (x6 > 0), !decide (x6 > 0), !decide (x6 > 0), !decide (x6 > 0), !decide (x6 > 0), !decide (x6 > 0), !decide (x6 > 0), !decide (x6 > 0), decide (x6 < (↑(c.line i.toNat).k : Int))]
theorem w21_0_4 (c : Ct) (i : Int) (x6 : Int) (fr : List T) : outK prog f21 20 [] (runK prog D9 F0 2000 (.code (loopAt f21 0).1) (.lp :: (loopAt f21 0).2) 0 (frK [2, 5, 6] [(ctT c).ref 0, (lnT (c.line i.toNat)).ref 0, T.int .i64 x6] fr 79) ⟨0, []⟩ (bt 26 33554433) [])
    = some (OutT.done (some (T.int .i64 24)), g21_0_4 c i x6, { next := 0, objs := [] }, [], 0) := by kernel_rfl
noncomputable def g21_0_5 (c : Ct) (i : Int) (x6 : Int) : List Bool := [!decide (cmpS ((c.line i.toNat).from_ x6.toNat) (c.line i.toNat).st ≥ 0), true, true, isV (spT ((c.line i.toNat).from_ x6.toNat)) (spT ((c.line i.toNat).from_ x6.toNat)), isV (spT (c.line i.toNat).st) (spT (c.line i.toNat).st), decide (((c.line i.toNat).from_ x6.toNat).n ≤ 281474976710656), true, true, true, true, decide (0 ≤ x6), decide (x6 < (↑(c.line i.toNat).k : Int)), true, true, true, true, true, !decide (x6 > 0), !decide (x6 > 0), !decide (x6 > 0), !decide (x6 > 0), !decide (x6 > 0), !decide (x6 > 0), !decide (x6 > 0), !decide (x6 > 0), !decide (x6 > 0), !decide (x6 > 0), !decide (x6 > 0), !decide (x6 > 0), !decide (x6 > 0), !decide (x6 > 0), decide (x6 < (↑(c.line i.toNat).k : Int))]
theorem w21_0_5 (c : Ct) (i : Int) (x6 : Int) (fr : List T) : outK prog f21 20 [2, 5, 6] (runK prog D9 F0 2000 (.code (loopAt f21 0).1) (.lp :: (loopAt f21 0).2) 0 (frK [2, 5, 6] [(ctT c).ref 0, (lnT (c.line i.toNat)).ref 0, T.int .i64 x6] fr 79) ⟨0, []⟩ (bt 26 1) [])
    = some (OutT.again 0, g21_0_5 c i x6, { next := 0, objs := [] }, [(ctT c).ref 0, (lnT (c.line i.toNat)).ref 0, T.int .i64 (IntKind.i64.wrap (x6 + 1))], 79) := by kernel_rfl
noncomputable def g21_0_6 (c : Ct) (i : Int) (x6 : Int) : List Bool := [!decide (x6 < (↑(c.line i.toNat).k : Int))]
theorem w21_0_6 (c : Ct) (i : Int) (x6 : Int) (fr : List T) : outK prog f21 20 [2, 5, 7] (runK prog D9 F0 2000 (.code (loopAt f21 0).1) (.lp :: (loopAt f21 0).2) 0 (frK [2, 5, 6] [(ctT c).ref 0, (lnT (c.line i.toNat)).ref 0, T.int .i64 x6] fr 79) ⟨0, []⟩ [false] [])
    = some (OutT.loop 1 (loopAt f21 1).1 (loopAt f21 1).2, g21_0_6 c i x6, { next := 0, objs := [] }, [(ctT c).ref 0, (lnT (c.line i.toNat)).ref 0, T.int .i64 0], 79) := by kernel_rfl
noncomputable def g21_1_1 (c : Ct) (i : Int) (x7 : Int) : List Bool := [decide ((idx c.n fun i_1 => eqS (c.line i_1).st ((c.line i.toNat).from_ x7.toNat)) < 0), isV (T.slf false c.n fun i => lnT (c.line i)) (lsT c.n c.line), isV (spT ((c.line i.toNat).from_ x7.toNat)) (spT ((c.line i.toNat).from_ x7.toNat)), modestB c.n c.line, decide (0 ≤ x7), decide (x7 < (↑(c.line i.toNat).k : Int)), true, decide (x7 < (↑(c.line i.toNat).k : Int))]
theorem w21_1_1 (c : Ct) (i : Int) (x7 : Int) (fr : List T) : outK prog f21 20 [] (runK prog D9 F0 2000 (.code (loopAt f21 1).1) (.lp :: (loopAt f21 1).2) 0 (frK [2, 5, 7] [(ctT c).ref 0, (lnT (c.line i.toNat)).ref 0, T.int .i64 x7] fr 79) ⟨0, []⟩ [true, true] [])
    = some (OutT.done (some (T.int .i64 8)), g21_1_1 c i x7, { next := 0, objs := [] }, [], 0) := by kernel_rfl
noncomputable def g21_1_2 (c : Ct) (i : Int) (x7 : Int) : List Bool := [!decide ((idx c.n fun i_1 => eqS (c.line i_1).st ((c.line i.toNat).from_ x7.toNat)) < 0), isV (T.slf false c.n fun i => lnT (c.line i)) (lsT c.n c.line), isV (spT ((c.line i.toNat).from_ x7.toNat)) (spT ((c.line i.toNat).from_ x7.toNat)), modestB c.n c.line, decide (0 ≤ x7), decide (x7 < (↑(c.line i.toNat).k : Int)), true, decide (x7 < (↑(c.line i.toNat).k : Int))]
theorem w21_1_2 (c : Ct) (i : Int) (x7 : Int) (fr : List T) : outK prog f21 20 [2, 5, 7] (runK prog D9 F0 2000 (.code (loopAt f21 1).1) (.lp :: (loopAt f21 1).2) 0 (frK [2, 5, 7] [(ctT c).ref 0, (lnT (c.line i.toNat)).ref 0, T.int .i64 x7] fr 79) ⟨0, []⟩ [true, false] [])
    = some (OutT.again 0, g21_1_2 c i x7, { next := 0, objs := [] }, [(ctT c).ref 0, (lnT (c.line i.toNat)).ref 0, T.int .i64 (IntKind.i64.wrap (x7 + 1))], 79) := by kernel_rfl
noncomputable def g21_1_3 (c : Ct) (i : Int) (x7 : Int) : List Bool := [true, (↑(c.line i.toNat).k : Int) == 0, !arr (c.line i.toNat).st, (↑(c.line i.toNat).k : Int) == 0, !arr (c.line i.toNat).st, !arr (c.line i.toNat).st, !arr (c.line i.toNat).st, (↑(c.line i.toNat).k : Int) == 0, (↑(c.line i.toNat).k : Int) == 0, isV (spT (c.line i.toNat).st) (spT (c.line i.toNat).st), (↑(c.line i.toNat).k : Int) == 0, (↑(c.line i.toNat).k : Int) == 0, (↑(c.line i.toNat).k : Int) == 0, !decide (x7 < (↑(c.line i.toNat).k : Int))]
theorem w21_1_3 (c : Ct) (i : Int) (x7 : Int) (fr : List T) : outK prog f21 20 [] (runK prog D9 F0 2000 (.code (loopAt f21 1).1) (.lp :: (loopAt f21 1).2) 0 (frK [2, 5, 7] [(ctT c).ref 0, (lnT (c.line i.toNat)).ref 0, T.int .i64 x7] fr 79) ⟨0, []⟩ (bt 13 8190) [])
    = some (OutT.done (some (T.int .i64 38)), g21_1_3 c i x7, { next := 0, objs := [] }, [], 0) := by kernel_rfl
noncomputable def g21_1_4 (c : Ct) (i : Int) (x7 : Int) : List Bool := [(c.line i.toNat).mass != 1048576, (↑(c.line i.toNat).k : Int) == 0, !!arr (c.line i.toNat).st, (↑(c.line i.toNat).k : Int) == 0, !!arr (c.line i.toNat).st, !!arr (c.line i.toNat).st, !!arr (c.line i.toNat).st, (↑(c.line i.toNat).k : Int) == 0, (↑(c.line i.toNat).k : Int) == 0, isV (spT (c.line i.toNat).st) (spT (c.line i.toNat).st), (↑(c.line i.toNat).k : Int) == 0, (↑(c.line i.toNat).k : Int) == 0, (↑(c.line i.toNat).k : Int) == 0, !decide (x7 < (↑(c.line i.toNat).k : Int))]
theorem w21_1_4 (c : Ct) (i : Int) (x7 : Int) (fr : List T) : outK prog f21 20 [] (runK prog D9 F0 2000 (.code (loopAt f21 1).1) (.lp :: (loopAt f21 1).2) 0 (frK [2, 5, 7] [(ctT c).ref 0, (lnT (c.line i.toNat)).ref 0, T.int .i64 x7] fr 79) ⟨0, []⟩ (bt 13 6718) [])
    = some (OutT.done (some (T.int .i64 38)), g21_1_4 c i x7, { next := 0, objs := [] }, [], 0) := by kernel_rfl
noncomputable def g21_1_5 (c : Ct) (i : Int) (x7 : Int) : List Bool := [!(c.line i.toNat).mass != 1048576, (↑(c.line i.toNat).k : Int) == 0, !!arr (c.line i.toNat).st, (↑(c.line i.toNat).k : Int) == 0, !!arr (c.line i.toNat).st, !!arr (c.line i.toNat).st, !!arr (c.line i.toNat).st, (↑(c.line i.toNat).k : Int) == 0, (↑(c.line i.toNat).k : Int) == 0, isV (spT (c.line i.toNat).st) (spT (c.line i.toNat).st), (↑(c.line i.toNat).k : Int) == 0, (↑(c.line i.toNat).k : Int) == 0, (↑(c.line i.toNat).k : Int) == 0, !decide (x7 < (↑(c.line i.toNat).k : Int))]
theorem w21_1_5 (c : Ct) (i : Int) (x7 : Int) (fr : List T) : outK prog f21 20 [] (runK prog D9 F0 2000 (.code (loopAt f21 1).1) (.lp :: (loopAt f21 1).2) 0 (frK [2, 5, 7] [(ctT c).ref 0, (lnT (c.line i.toNat)).ref 0, T.int .i64 x7] fr 79) ⟨0, []⟩ (bt 13 2622) [])
    = some (OutT.done (some (T.int .i64 0)), g21_1_5 c i x7, { next := 0, objs := [] }, [], 0) := by kernel_rfl
noncomputable def g21_1_6 (c : Ct) (i : Int) (x7 : Int) : List Bool := [true, !(↑(c.line i.toNat).k : Int) == 0, !(↑(c.line i.toNat).k : Int) == 0, !(↑(c.line i.toNat).k : Int) == 0, !(↑(c.line i.toNat).k : Int) == 0, !(↑(c.line i.toNat).k : Int) == 0, !(↑(c.line i.toNat).k : Int) == 0, !(↑(c.line i.toNat).k : Int) == 0, !decide (x7 < (↑(c.line i.toNat).k : Int))]
theorem w21_1_6 (c : Ct) (i : Int) (x7 : Int) (fr : List T) : outK prog f21 20 [] (runK prog D9 F0 2000 (.code (loopAt f21 1).1) (.lp :: (loopAt f21 1).2) 0 (frK [2, 5, 7] [(ctT c).ref 0, (lnT (c.line i.toNat)).ref 0, T.int .i64 x7] fr 79) ⟨0, []⟩ (bt 9 0) [])
    = some (OutT.done (some (T.int .i64 0)), g21_1_6 c i x7, { next := 0, objs := [] }, [], 0) := by kernel_rfl
noncomputable def step21_0 (c : Ct) (i : Int) (x6 : Int) : Option (S21 ⊕ T) :=
  (if decide (x6 < (↑(c.line i.toNat).k : Int)) then (if decide (x6 > 0) then (if decide (cmpS ((c.line i.toNat).from_ (IntKind.i64.wrap (x6 - 1)).toNat) ((c.line i.toNat).from_ x6.toNat) ≥ 0) then (if allT (g21_0_1 c i x6) then some (.inr ((T.int .i64 24))) else none) else (if decide (cmpS ((c.line i.toNat).from_ x6.toNat) (c.line i.toNat).st ≥ 0) then (if allT (g21_0_2 c i x6) then some (.inr ((T.int .i64 24))) else none) else (if allT (g21_0_3 c i x6) then some (.inl (.l0 (IntKind.i64.wrap (x6 + 1)))) else none))) else (if decide (cmpS ((c.line i.toNat).from_ x6.toNat) (c.line i.toNat).st ≥ 0) then (if allT (g21_0_4 c i x6) then some (.inr ((T.int .i64 24))) else none) else (if allT (g21_0_5 c i x6) then some (.inl (.l0 (IntKind.i64.wrap (x6 + 1)))) else none))) else (if allT (g21_0_6 c i x6) then some (.inl (.l1 0)) else none))
noncomputable def V21_0 (c : Ct) (i : Int) (x6 : Int) : S21 ⊕ T :=
  (if decide (x6 < (↑(c.line i.toNat).k : Int)) then (if decide (x6 > 0) then (if decide (cmpS ((c.line i.toNat).from_ (IntKind.i64.wrap (x6 - 1)).toNat) ((c.line i.toNat).from_ x6.toNat) ≥ 0) then (.inr ((T.int .i64 24))) else (if decide (cmpS ((c.line i.toNat).from_ x6.toNat) (c.line i.toNat).st ≥ 0) then (.inr ((T.int .i64 24))) else (.inl (.l0 (IntKind.i64.wrap (x6 + 1)))))) else (if decide (cmpS ((c.line i.toNat).from_ x6.toNat) (c.line i.toNat).st ≥ 0) then (.inr ((T.int .i64 24))) else (.inl (.l0 (IntKind.i64.wrap (x6 + 1)))))) else (.inl (.l1 0)))
noncomputable def K21_0 (c : Ct) (i : Int) (x6 : Int) : Bool :=
  (if decide (x6 < (↑(c.line i.toNat).k : Int)) then (if decide (x6 > 0) then (if decide (cmpS ((c.line i.toNat).from_ (IntKind.i64.wrap (x6 - 1)).toNat) ((c.line i.toNat).from_ x6.toNat) ≥ 0) then (allT (g21_0_1 c i x6)) else (if decide (cmpS ((c.line i.toNat).from_ x6.toNat) (c.line i.toNat).st ≥ 0) then (allT (g21_0_2 c i x6)) else (allT (g21_0_3 c i x6)))) else (if decide (cmpS ((c.line i.toNat).from_ x6.toNat) (c.line i.toNat).st ≥ 0) then (allT (g21_0_4 c i x6)) else (allT (g21_0_5 c i x6)))) else (allT (g21_0_6 c i x6)))
theorem T21_0 (c : Ct) (i : Int) (x6 : Int) (hk : K21_0 c i x6 = true) : step21_0 c i x6 = some (V21_0 c i x6) :=
  (tree_if (tree_if (tree_if tree_leaf (tree_if tree_leaf tree_leaf)) (tree_if tree_leaf tree_leaf)) tree_leaf) hk
noncomputable def step21_1 (c : Ct) (i : Int) (x7 : Int) : Option (S21 ⊕ T) :=
  (if decide (x7 < (↑(c.line i.toNat).k : Int)) then (if decide ((idx c.n fun i_1 => eqS (c.line i_1).st ((c.line i.toNat).from_ x7.toNat)) < 0) then (if allT (g21_1_1 c i x7) then some (.inr ((T.int .i64 8))) else none) else (if allT (g21_1_2 c i x7) then some (.inl (.l1 (IntKind.i64.wrap (x7 + 1)))) else none)) else (if (↑(c.line i.toNat).k : Int) == 0 then (if !arr (c.line i.toNat).st then (if allT (g21_1_3 c i x7) then some (.inr ((T.int .i64 38))) else none) else (if (c.line i.toNat).mass != 1048576 then (if allT (g21_1_4 c i x7) then some (.inr ((T.int .i64 38))) else none) else (if allT (g21_1_5 c i x7) then some (.inr ((T.int .i64 0))) else none))) else (if allT (g21_1_6 c i x7) then some (.inr ((T.int .i64 0))) else none)))
noncomputable def V21_1 (c : Ct) (i : Int) (x7 : Int) : S21 ⊕ T :=
  (if decide (x7 < (↑(c.line i.toNat).k : Int)) then (if decide ((idx c.n fun i_1 => eqS (c.line i_1).st ((c.line i.toNat).from_ x7.toNat)) < 0) then (.inr ((T.int .i64 8))) else (.inl (.l1 (IntKind.i64.wrap (x7 + 1))))) else (if (↑(c.line i.toNat).k : Int) == 0 then (if !arr (c.line i.toNat).st then (.inr ((T.int .i64 38))) else (if (c.line i.toNat).mass != 1048576 then (.inr ((T.int .i64 38))) else (.inr ((T.int .i64 0))))) else (.inr ((T.int .i64 0)))))
noncomputable def K21_1 (c : Ct) (i : Int) (x7 : Int) : Bool :=
  (if decide (x7 < (↑(c.line i.toNat).k : Int)) then (if decide ((idx c.n fun i_1 => eqS (c.line i_1).st ((c.line i.toNat).from_ x7.toNat)) < 0) then (allT (g21_1_1 c i x7)) else (allT (g21_1_2 c i x7))) else (if (↑(c.line i.toNat).k : Int) == 0 then (if !arr (c.line i.toNat).st then (allT (g21_1_3 c i x7)) else (if (c.line i.toNat).mass != 1048576 then (allT (g21_1_4 c i x7)) else (allT (g21_1_5 c i x7)))) else (allT (g21_1_6 c i x7))))
theorem T21_1 (c : Ct) (i : Int) (x7 : Int) (hk : K21_1 c i x7 = true) : step21_1 c i x7 = some (V21_1 c i x7) :=
  (tree_if (tree_if tree_leaf tree_leaf) (tree_if (tree_if tree_leaf (tree_if tree_leaf tree_leaf)) tree_leaf)) hk
noncomputable def o21 (c : Ct) (i : Int) : Option (S21 ⊕ T) :=
  (if allT (g21_s_1 c i) then some (.inl (.l0 0)) else none)
noncomputable def V21_s (c : Ct) (i : Int) : S21 ⊕ T :=
  (.inl (.l0 0))
noncomputable def K21_s (c : Ct) (i : Int) : Bool :=
  (allT (g21_s_1 c i))
theorem T21_s (c : Ct) (i : Int) (hk : K21_s c i = true) : o21 c i = some (V21_s c i) :=
  tree_leaf hk
noncomputable def step21 (c : Ct) (i : Int) : S21 → Option (S21 ⊕ T)
  | .l0 x6 => step21_0 c i x6
  | .l1 x7 => step21_1 c i x7
noncomputable def M21 (c : Ct) (i : Int) : Mch S21 where
  lp := fun σ => match σ with
    | .l0 .. => 0
    | .l1 .. => 1
  keep := fun ι => match ι with
    | 0 => [2, 5, 6]
    | 1 => [2, 5, 7]
    | _ => []
  par := fun ι => match ι with
    | 0 => []
    | 1 => []
    | _ => []
  vs := fun σ => match σ with
    | .l0 x6 => [(ctT c).ref 0, (lnT (c.line i.toNat)).ref 0, T.int .i64 x6]
    | .l1 x7 => [(ctT c).ref 0, (lnT (c.line i.toNat)).ref 0, T.int .i64 x7]
  hp := fun σ => match σ with
    | .l0 _ => ⟨0, []⟩
    | .l1 _ => ⟨0, []⟩
  len := 79
  step := step21 c i
theorem ways21 (c : Ct) (i : Int) : (M21 c i).Ways prog D9 F0 f21 20 := by
  intro σ o fr h
  cases σ with
  | l0 x6 =>
    change step21_0 c i x6 = some o at h
    exact (ways_if (ways_if (ways_if (ways_leaf fun hk => ⟨2000, _, _, _, _, _, _, w21_0_1 c i x6 fr, hk⟩) (ways_if (ways_leaf fun hk => ⟨2000, _, _, _, _, _, _, w21_0_2 c i x6 fr, hk⟩) (ways_leaf fun hk => .inl ⟨2000, _, _, _, w21_0_3 c i x6 fr, hk, rfl⟩))) (ways_if (ways_leaf fun hk => ⟨2000, _, _, _, _, _, _, w21_0_4 c i x6 fr, hk⟩) (ways_leaf fun hk => .inl ⟨2000, _, _, _, w21_0_5 c i x6 fr, hk, rfl⟩))) (ways_leaf fun hk => .inr ⟨2000, _, _, _, w21_0_6 c i x6 fr, hk, rfl⟩)) o h
  | l1 x7 =>
    change step21_1 c i x7 = some o at h
    exact (ways_if (ways_if (ways_leaf fun hk => ⟨2000, _, _, _, _, _, _, w21_1_1 c i x7 fr, hk⟩) (ways_leaf fun hk => .inl ⟨2000, _, _, _, w21_1_2 c i x7 fr, hk, rfl⟩)) (ways_if (ways_if (ways_leaf fun hk => ⟨2000, _, _, _, _, _, _, w21_1_3 c i x7 fr, hk⟩) (ways_if (ways_leaf fun hk => ⟨2000, _, _, _, _, _, _, w21_1_4 c i x7 fr, hk⟩) (ways_leaf fun hk => ⟨2000, _, _, _, _, _, _, w21_1_5 c i x7 fr, hk⟩))) (ways_leaf fun hk => ⟨2000, _, _, _, _, _, _, w21_1_6 c i x7 fr, hk⟩))) o h
theorem oks21 (c : Ct) (i : Int) : ∀ σ, codeOk (loopAt f21 ((M21 c i).lp σ)).1 = true ∧ ksOk (.lp :: (loopAt f21 ((M21 c i).lp σ)).2) = true := by
  intro σ
  cases σ
  · exact ⟨(show codeOk (loopAt f21 0).1 = true by kernel_rfl), (show ksOk (.lp :: (loopAt f21 0).2) = true by kernel_rfl)⟩
  · exact ⟨(show codeOk (loopAt f21 1).1 = true by kernel_rfl), (show ksOk (.lp :: (loopAt f21 1).2) = true by kernel_rfl)⟩
theorem run21 (c : Ct) (i : Int) {n : Nat} {o : S21 ⊕ T} {r : T} (h : o21 c i = some o) (hr : (M21 c i).fin n o = some r) : PureFn prog gl 21 [ctT c, .int .i64 i] r := by
  refine pure_mach (M := (M21 c i)) (fn := f21) (k := 20) (d := 8) (c := bodyOf f21) cx9 glFrz (by kernel_rfl) func21 (by kernel_rfl) rfl (by kernel_rfl) (by kernel_rfl) (L := 77) (by kernel_rfl) (ways21 c i) (oks21 c i) ?_ hr
  exact (ways_leaf fun hk => .inr ⟨2000, _, _, _, w21_s_1 c i, hk, rfl⟩) o h
theorem c21 (c : Ct) (i : Int) (n : Nat) {r : T} (hk : K21_s c i = true) (hr : (M21 c i).fin n (V21_s c i) = some r) : PureFn prog gl 21 [ctT c, .int .i64 i] r := run21 c i (T21_s c i hk) hr


/-! ### 23 -/
inductive S23 where
  | l0 (x6 : Int) (x7 : Int) (x8 : Int)
noncomputable def g23_s_1 (c : Ct) (i : Int) : List Bool := [true, true, decide (0 ≤ i), decide (i < (↑c.n : Int)), true]
theorem w23_s_1 (c : Ct) (i : Int) : outK prog f23 20 [2, 5, 6, 7, 8] (runK prog D9 F0 2000 (.code (bodyOf f23)) [] 0 ([ctT c, .int .i64 i] ++ List.replicate 58 undefT) ⟨0, []⟩ [] [])
    = some (OutT.loop 0 (loopAt f23 0).1 (loopAt f23 0).2, g23_s_1 c i, { next := 0, objs := [] }, [(ctT c).ref 0, (lnT (c.line i.toNat)).ref 0, T.int .i64 0, T.int .i64 0, T.int .i64 0], 60) := by kernel_rfl
noncomputable def g23_0_1 (c : Ct) (i : Int) (x6 : Int) (x7 : Int) (x8 : Int) : List Bool := [(c.line (idx c.n fun i_1 => eqS (c.line i_1).st ((c.line i.toNat).from_ x8.toNat)).toNat).fate == 2, true, true, decide (0 ≤ idx c.n fun i_1 => eqS (c.line i_1).st ((c.line i.toNat).from_ x8.toNat)), decide ((idx c.n fun i_1 => eqS (c.line i_1).st ((c.line i.toNat).from_ x8.toNat)) < (↑c.n : Int)), true, isV (T.slf false c.n fun i => lnT (c.line i)) (lsT c.n c.line), isV (spT ((c.line i.toNat).from_ x8.toNat)) (spT ((c.line i.toNat).from_ x8.toNat)), modestB c.n c.line, decide (0 ≤ x8), decide (x8 < (↑(c.line i.toNat).k : Int)), true, decide (x8 < (↑(c.line i.toNat).k : Int))]
theorem w23_0_1 (c : Ct) (i : Int) (x6 : Int) (x7 : Int) (x8 : Int) (fr : List T) : outK prog f23 20 [2, 5, 6, 7, 8] (runK prog D9 F0 2000 (.code (loopAt f23 0).1) (.lp :: (loopAt f23 0).2) 0 (frK [2, 5, 6, 7, 8] [(ctT c).ref 0, (lnT (c.line i.toNat)).ref 0, T.int .i64 x6, T.int .i64 x7, T.int .i64 x8] fr 60) ⟨0, []⟩ [true, true] [])
    = some (OutT.again 0, g23_0_1 c i x6 x7 x8, { next := 0, objs := [] }, [(ctT c).ref 0, (lnT (c.line i.toNat)).ref 0, T.int .i64 (IntKind.i64.wrap (x6 + 1)), T.int .i64 (IntKind.i64.wrap (x7 + (c.line (idx c.n fun i_1 => eqS (c.line i_1).st ((c.line i.toNat).from_ x8.toNat)).toNat).mass)), T.int .i64 (IntKind.i64.wrap (x8 + 1))], 60) := by kernel_rfl
noncomputable def g23_0_2 (c : Ct) (i : Int) (x6 : Int) (x7 : Int) (x8 : Int) : List Bool := [!(c.line (idx c.n fun i_1 => eqS (c.line i_1).st ((c.line i.toNat).from_ x8.toNat)).toNat).fate == 2, true, true, decide (0 ≤ idx c.n fun i_1 => eqS (c.line i_1).st ((c.line i.toNat).from_ x8.toNat)), decide ((idx c.n fun i_1 => eqS (c.line i_1).st ((c.line i.toNat).from_ x8.toNat)) < (↑c.n : Int)), true, isV (T.slf false c.n fun i => lnT (c.line i)) (lsT c.n c.line), isV (spT ((c.line i.toNat).from_ x8.toNat)) (spT ((c.line i.toNat).from_ x8.toNat)), modestB c.n c.line, decide (0 ≤ x8), decide (x8 < (↑(c.line i.toNat).k : Int)), true, decide (x8 < (↑(c.line i.toNat).k : Int))]
theorem w23_0_2 (c : Ct) (i : Int) (x6 : Int) (x7 : Int) (x8 : Int) (fr : List T) : outK prog f23 20 [2, 5, 6, 7, 8] (runK prog D9 F0 2000 (.code (loopAt f23 0).1) (.lp :: (loopAt f23 0).2) 0 (frK [2, 5, 6, 7, 8] [(ctT c).ref 0, (lnT (c.line i.toNat)).ref 0, T.int .i64 x6, T.int .i64 x7, T.int .i64 x8] fr 60) ⟨0, []⟩ [true, false] [])
    = some (OutT.again 0, g23_0_2 c i x6 x7 x8, { next := 0, objs := [] }, [(ctT c).ref 0, (lnT (c.line i.toNat)).ref 0, T.int .i64 x6, T.int .i64 (IntKind.i64.wrap (x7 + (c.line (idx c.n fun i_1 => eqS (c.line i_1).st ((c.line i.toNat).from_ x8.toNat)).toNat).mass)), T.int .i64 (IntKind.i64.wrap (x8 + 1))], 60) := by kernel_rfl
noncomputable def g23_0_3 (c : Ct) (i : Int) (x6 : Int) (x7 : Int) (x8 : Int) : List Bool := [decide (x6 < (↑(c.line i.toNat).k : Int)), decide (x6 > 0), decide (x6 > 0), decide (x6 > 0), decide (x6 > 0), decide (x6 > 0), decide (x6 > 0), !decide (x8 < (↑(c.line i.toNat).k : Int))]
theorem w23_0_3 (c : Ct) (i : Int) (x6 : Int) (x7 : Int) (x8 : Int) (fr : List T) : outK prog f23 20 [] (runK prog D9 F0 2000 (.code (loopAt f23 0).1) (.lp :: (loopAt f23 0).2) 0 (frK [2, 5, 6, 7, 8] [(ctT c).ref 0, (lnT (c.line i.toNat)).ref 0, T.int .i64 x6, T.int .i64 x7, T.int .i64 x8] fr 60) ⟨0, []⟩ (bt 8 254) [])
    = some (OutT.done (some (T.int .i64 10)), g23_0_3 c i x6 x7 x8, { next := 0, objs := [] }, [], 0) := by kernel_rfl
noncomputable def g23_0_4 (c : Ct) (i : Int) (x6 : Int) (x7 : Int) (x8 : Int) : List Bool := [x7 != (c.line i.toNat).mass, decide (x6 > 0), decide (x6 > 0), decide (x6 > 0), decide (x6 > 0), decide (x6 > 0), !decide (x6 < (↑(c.line i.toNat).k : Int)), decide (x6 > 0), decide (x6 > 0), decide (x6 > 0), decide (x6 > 0), decide (x6 > 0), decide (x6 > 0), !decide (x8 < (↑(c.line i.toNat).k : Int))]
theorem w23_0_4 (c : Ct) (i : Int) (x6 : Int) (x7 : Int) (x8 : Int) (fr : List T) : outK prog f23 20 [] (runK prog D9 F0 2000 (.code (loopAt f23 0).1) (.lp :: (loopAt f23 0).2) 0 (frK [2, 5, 6, 7, 8] [(ctT c).ref 0, (lnT (c.line i.toNat)).ref 0, T.int .i64 x6, T.int .i64 x7, T.int .i64 x8] fr 60) ⟨0, []⟩ (bt 14 16254) [])
    = some (OutT.done (some (T.int .i64 38)), g23_0_4 c i x6 x7 x8, { next := 0, objs := [] }, [], 0) := by kernel_rfl
noncomputable def g23_0_5 (c : Ct) (i : Int) (x6 : Int) (x7 : Int) (x8 : Int) : List Bool := [!x7 != (c.line i.toNat).mass, decide (x6 > 0), decide (x6 > 0), decide (x6 > 0), decide (x6 > 0), decide (x6 > 0), !decide (x6 < (↑(c.line i.toNat).k : Int)), decide (x6 > 0), decide (x6 > 0), decide (x6 > 0), decide (x6 > 0), decide (x6 > 0), decide (x6 > 0), !decide (x8 < (↑(c.line i.toNat).k : Int))]
theorem w23_0_5 (c : Ct) (i : Int) (x6 : Int) (x7 : Int) (x8 : Int) (fr : List T) : outK prog f23 20 [] (runK prog D9 F0 2000 (.code (loopAt f23 0).1) (.lp :: (loopAt f23 0).2) 0 (frK [2, 5, 6, 7, 8] [(ctT c).ref 0, (lnT (c.line i.toNat)).ref 0, T.int .i64 x6, T.int .i64 x7, T.int .i64 x8] fr 60) ⟨0, []⟩ (bt 14 8062) [])
    = some (OutT.done (some (T.int .i64 0)), g23_0_5 c i x6 x7 x8, { next := 0, objs := [] }, [], 0) := by kernel_rfl
noncomputable def g23_0_6 (c : Ct) (i : Int) (x6 : Int) (x7 : Int) (x8 : Int) : List Bool := [true, !decide (x6 > 0), !decide (x6 > 0), !decide (x6 > 0), !decide (x6 > 0), !decide (x6 > 0), true, !decide (x6 > 0), !decide (x6 > 0), !decide (x6 > 0), !decide (x6 > 0), !decide (x6 > 0), !decide (x6 > 0), !decide (x8 < (↑(c.line i.toNat).k : Int))]
theorem w23_0_6 (c : Ct) (i : Int) (x6 : Int) (x7 : Int) (x8 : Int) (fr : List T) : outK prog f23 20 [] (runK prog D9 F0 2000 (.code (loopAt f23 0).1) (.lp :: (loopAt f23 0).2) 0 (frK [2, 5, 6, 7, 8] [(ctT c).ref 0, (lnT (c.line i.toNat)).ref 0, T.int .i64 x6, T.int .i64 x7, T.int .i64 x8] fr 60) ⟨0, []⟩ (bt 14 0) [])
    = some (OutT.done (some (T.int .i64 0)), g23_0_6 c i x6 x7 x8, { next := 0, objs := [] }, [], 0) := by kernel_rfl
noncomputable def step23_0 (c : Ct) (i : Int) (x6 : Int) (x7 : Int) (x8 : Int) : Option (S23 ⊕ T) :=
  (if decide (x8 < (↑(c.line i.toNat).k : Int)) then (if (c.line (idx c.n fun i_1 => eqS (c.line i_1).st ((c.line i.toNat).from_ x8.toNat)).toNat).fate == 2 then (if allT (g23_0_1 c i x6 x7 x8) then some (.inl (.l0 (IntKind.i64.wrap (x6 + 1)) (IntKind.i64.wrap (x7 + (c.line (idx c.n fun i_1 => eqS (c.line i_1).st ((c.line i.toNat).from_ x8.toNat)).toNat).mass)) (IntKind.i64.wrap (x8 + 1)))) else none) else (if allT (g23_0_2 c i x6 x7 x8) then some (.inl (.l0 x6 (IntKind.i64.wrap (x7 + (c.line (idx c.n fun i_1 => eqS (c.line i_1).st ((c.line i.toNat).from_ x8.toNat)).toNat).mass)) (IntKind.i64.wrap (x8 + 1)))) else none)) else (if decide (x6 > 0) then (if decide (x6 < (↑(c.line i.toNat).k : Int)) then (if allT (g23_0_3 c i x6 x7 x8) then some (.inr ((T.int .i64 10))) else none) else (if x7 != (c.line i.toNat).mass then (if allT (g23_0_4 c i x6 x7 x8) then some (.inr ((T.int .i64 38))) else none) else (if allT (g23_0_5 c i x6 x7 x8) then some (.inr ((T.int .i64 0))) else none))) else (if allT (g23_0_6 c i x6 x7 x8) then some (.inr ((T.int .i64 0))) else none)))
noncomputable def V23_0 (c : Ct) (i : Int) (x6 : Int) (x7 : Int) (x8 : Int) : S23 ⊕ T :=
  (if decide (x8 < (↑(c.line i.toNat).k : Int)) then (if (c.line (idx c.n fun i_1 => eqS (c.line i_1).st ((c.line i.toNat).from_ x8.toNat)).toNat).fate == 2 then (.inl (.l0 (IntKind.i64.wrap (x6 + 1)) (IntKind.i64.wrap (x7 + (c.line (idx c.n fun i_1 => eqS (c.line i_1).st ((c.line i.toNat).from_ x8.toNat)).toNat).mass)) (IntKind.i64.wrap (x8 + 1)))) else (.inl (.l0 x6 (IntKind.i64.wrap (x7 + (c.line (idx c.n fun i_1 => eqS (c.line i_1).st ((c.line i.toNat).from_ x8.toNat)).toNat).mass)) (IntKind.i64.wrap (x8 + 1))))) else (if decide (x6 > 0) then (if decide (x6 < (↑(c.line i.toNat).k : Int)) then (.inr ((T.int .i64 10))) else (if x7 != (c.line i.toNat).mass then (.inr ((T.int .i64 38))) else (.inr ((T.int .i64 0))))) else (.inr ((T.int .i64 0)))))
noncomputable def K23_0 (c : Ct) (i : Int) (x6 : Int) (x7 : Int) (x8 : Int) : Bool :=
  (if decide (x8 < (↑(c.line i.toNat).k : Int)) then (if (c.line (idx c.n fun i_1 => eqS (c.line i_1).st ((c.line i.toNat).from_ x8.toNat)).toNat).fate == 2 then (allT (g23_0_1 c i x6 x7 x8)) else (allT (g23_0_2 c i x6 x7 x8))) else (if decide (x6 > 0) then (if decide (x6 < (↑(c.line i.toNat).k : Int)) then (allT (g23_0_3 c i x6 x7 x8)) else (if x7 != (c.line i.toNat).mass then (allT (g23_0_4 c i x6 x7 x8)) else (allT (g23_0_5 c i x6 x7 x8)))) else (allT (g23_0_6 c i x6 x7 x8))))
theorem T23_0 (c : Ct) (i : Int) (x6 : Int) (x7 : Int) (x8 : Int) (hk : K23_0 c i x6 x7 x8 = true) : step23_0 c i x6 x7 x8 = some (V23_0 c i x6 x7 x8) :=
  (tree_if (tree_if tree_leaf tree_leaf) (tree_if (tree_if tree_leaf (tree_if tree_leaf tree_leaf)) tree_leaf)) hk
noncomputable def o23 (c : Ct) (i : Int) : Option (S23 ⊕ T) :=
  (if allT (g23_s_1 c i) then some (.inl (.l0 0 0 0)) else none)
noncomputable def V23_s (c : Ct) (i : Int) : S23 ⊕ T :=
  (.inl (.l0 0 0 0))
noncomputable def K23_s (c : Ct) (i : Int) : Bool :=
  (allT (g23_s_1 c i))
theorem T23_s (c : Ct) (i : Int) (hk : K23_s c i = true) : o23 c i = some (V23_s c i) :=
  tree_leaf hk
noncomputable def step23 (c : Ct) (i : Int) : S23 → Option (S23 ⊕ T)
  | .l0 x6 x7 x8 => step23_0 c i x6 x7 x8
noncomputable def M23 (c : Ct) (i : Int) : Mch S23 where
  lp := fun σ => match σ with
    | .l0 .. => 0
  keep := fun ι => match ι with
    | 0 => [2, 5, 6, 7, 8]
    | _ => []
  par := fun ι => match ι with
    | 0 => []
    | _ => []
  vs := fun σ => match σ with
    | .l0 x6 x7 x8 => [(ctT c).ref 0, (lnT (c.line i.toNat)).ref 0, T.int .i64 x6, T.int .i64 x7, T.int .i64 x8]
  hp := fun σ => match σ with
    | .l0 _ _ _ => ⟨0, []⟩
  len := 60
  step := step23 c i
theorem ways23 (c : Ct) (i : Int) : (M23 c i).Ways prog D9 F0 f23 20 := by
  intro σ o fr h
  cases σ with
  | l0 x6 x7 x8 =>
    change step23_0 c i x6 x7 x8 = some o at h
    exact (ways_if (ways_if (ways_leaf fun hk => .inl ⟨2000, _, _, _, w23_0_1 c i x6 x7 x8 fr, hk, rfl⟩) (ways_leaf fun hk => .inl ⟨2000, _, _, _, w23_0_2 c i x6 x7 x8 fr, hk, rfl⟩)) (ways_if (ways_if (ways_leaf fun hk => ⟨2000, _, _, _, _, _, _, w23_0_3 c i x6 x7 x8 fr, hk⟩) (ways_if (ways_leaf fun hk => ⟨2000, _, _, _, _, _, _, w23_0_4 c i x6 x7 x8 fr, hk⟩) (ways_leaf fun hk => ⟨2000, _, _, _, _, _, _, w23_0_5 c i x6 x7 x8 fr, hk⟩))) (ways_leaf fun hk => ⟨2000, _, _, _, _, _, _, w23_0_6 c i x6 x7 x8 fr, hk⟩))) o h
theorem oks23 (c : Ct) (i : Int) : ∀ σ, codeOk (loopAt f23 ((M23 c i).lp σ)).1 = true ∧ ksOk (.lp :: (loopAt f23 ((M23 c i).lp σ)).2) = true := by
  intro σ
  cases σ
  · exact ⟨(show codeOk (loopAt f23 0).1 = true by kernel_rfl), (show ksOk (.lp :: (loopAt f23 0).2) = true by kernel_rfl)⟩
theorem run23 (c : Ct) (i : Int) {n : Nat} {o : S23 ⊕ T} {r : T} (h : o23 c i = some o) (hr : (M23 c i).fin n o = some r) : PureFn prog gl 23 [ctT c, .int .i64 i] r := by
  refine pure_mach (M := (M23 c i)) (fn := f23) (k := 20) (d := 8) (c := bodyOf f23) cx9 glFrz (by kernel_rfl) func23 (by kernel_rfl) rfl (by kernel_rfl) (by kernel_rfl) (L := 58) (by kernel_rfl) (ways23 c i) (oks23 c i) ?_ hr
  exact (ways_leaf fun hk => .inr ⟨2000, _, _, _, w23_s_1 c i, hk, rfl⟩) o h
theorem c23 (c : Ct) (i : Int) (n : Nat) {r : T} (hk : K23_s c i = true) (hr : (M23 c i).fin n (V23_s c i) = some r) : PureFn prog gl 23 [ctT c, .int .i64 i] r := run23 c i (T23_s c i hk) hr


/-! ### 58 -/
noncomputable def g58_s_1 (s : Int) (x : Ln) : List Bool := [(↑x.k : Int) == 0]
theorem w58_s_1 (s : Int) (x : Ln) : outK prog f58 20 [] (runK prog D9 F0 2000 (.code (bodyOf f58)) [] 0 ([.int .i64 s, lnT x] ++ List.replicate 10 undefT) ⟨0, []⟩ [true] [])
    = some (OutT.done (some (T.int .i64 (IntKind.i64.wrap (s + 1048576)))), g58_s_1 s x, { next := 0, objs := [] }, [], 0) := by kernel_rfl
noncomputable def g58_s_2 (s : Int) (x : Ln) : List Bool := [!(↑x.k : Int) == 0]
theorem w58_s_2 (s : Int) (x : Ln) : outK prog f58 20 [] (runK prog D9 F0 2000 (.code (bodyOf f58)) [] 0 ([.int .i64 s, lnT x] ++ List.replicate 10 undefT) ⟨0, []⟩ [false] [])
    = some (OutT.done (some (T.int .i64 s)), g58_s_2 s x, { next := 0, objs := [] }, [], 0) := by kernel_rfl
noncomputable def o58 (s : Int) (x : Ln) : Option (Empty ⊕ T) :=
  (if (↑x.k : Int) == 0 then (if allT (g58_s_1 s x) then some (.inr ((T.int .i64 (IntKind.i64.wrap (s + 1048576))))) else none) else (if allT (g58_s_2 s x) then some (.inr ((T.int .i64 s))) else none))
noncomputable def V58_s (s : Int) (x : Ln) : Empty ⊕ T :=
  (if (↑x.k : Int) == 0 then (.inr ((T.int .i64 (IntKind.i64.wrap (s + 1048576))))) else (.inr ((T.int .i64 s))))
noncomputable def K58_s (s : Int) (x : Ln) : Bool :=
  (if (↑x.k : Int) == 0 then (allT (g58_s_1 s x)) else (allT (g58_s_2 s x)))
theorem T58_s (s : Int) (x : Ln) (hk : K58_s s x = true) : o58 s x = some (V58_s s x) :=
  (tree_if tree_leaf tree_leaf) hk
theorem run58 (s : Int) (x : Ln) {n : Nat} {o : Empty ⊕ T} {r : T} (h : o58 s x = some o) (hr : noM.fin n o = some r) : PureFn prog gl 58 [.int .i64 s, lnT x] r := by
  refine pure_mach (M := noM) (fn := f58) (k := 20) (d := 8) (c := bodyOf f58) cx9 glFrz (by kernel_rfl) func58 (by kernel_rfl) rfl (by kernel_rfl) (by kernel_rfl) (L := 10) (by kernel_rfl) noM_ways (fun σ => σ.elim) ?_ hr
  exact (ways_if (ways_leaf fun hk => ⟨2000, _, _, _, _, _, _, w58_s_1 s x, hk⟩) (ways_leaf fun hk => ⟨2000, _, _, _, _, _, _, w58_s_2 s x, hk⟩)) o h
theorem c58 (s : Int) (x : Ln) (n : Nat) {r : T} (hk : K58_s s x = true) (hr : noM.fin n (V58_s s x) = some r) : PureFn prog gl 58 [.int .i64 s, lnT x] r := run58 s x (T58_s s x hk) hr


/-! ### 59 -/
noncomputable def g59_s_1 (x : Ln) : List Bool := []
theorem w59_s_1 (x : Ln) : outK prog f59 20 [] (runK prog D9 F0 2000 (.code (bodyOf f59)) [] 0 ([lnT x] ++ List.replicate 5 undefT) ⟨0, []⟩ [] [])
    = some (OutT.done (some (T.bool (x.fate == 3))), g59_s_1 x, { next := 0, objs := [] }, [], 0) := by kernel_rfl
noncomputable def o59 (x : Ln) : Option (Empty ⊕ T) :=
  (if allT (g59_s_1 x) then some (.inr ((T.bool (x.fate == 3)))) else none)
noncomputable def V59_s (x : Ln) : Empty ⊕ T :=
  (.inr ((T.bool (x.fate == 3))))
noncomputable def K59_s (x : Ln) : Bool :=
  (allT (g59_s_1 x))
theorem T59_s (x : Ln) (hk : K59_s x = true) : o59 x = some (V59_s x) :=
  tree_leaf hk
theorem run59 (x : Ln) {n : Nat} {o : Empty ⊕ T} {r : T} (h : o59 x = some o) (hr : noM.fin n o = some r) : PureFn prog gl 59 [lnT x] r := by
  refine pure_mach (M := noM) (fn := f59) (k := 20) (d := 8) (c := bodyOf f59) cx9 glFrz (by kernel_rfl) func59 (by kernel_rfl) rfl (by kernel_rfl) (by kernel_rfl) (L := 5) (by kernel_rfl) noM_ways (fun σ => σ.elim) ?_ hr
  exact (ways_leaf fun hk => ⟨2000, _, _, _, _, _, _, w59_s_1 x, hk⟩) o h
theorem c59 (x : Ln) (n : Nat) {r : T} (hk : K59_s x = true) (hr : noM.fin n (V59_s x) = some r) : PureFn prog gl 59 [lnT x] r := run59 x (T59_s x hk) hr


/-! ### 60 -/
noncomputable def g60_s_1 (x : Ln) : List Bool := [x.fate == 4, x.fate == 4, x.fate == 4, x.fate == 4]
theorem w60_s_1 (x : Ln) : outK prog f60 20 [] (runK prog D9 F0 2000 (.code (bodyOf f60)) [] 0 ([lnT x] ++ List.replicate 10 undefT) ⟨0, []⟩ (bt 4 15) [])
    = some (OutT.done (some (T.bool (x.closed == 0))), g60_s_1 x, { next := 0, objs := [] }, [], 0) := by kernel_rfl
noncomputable def g60_s_2 (x : Ln) : List Bool := [!x.fate == 4, !x.fate == 4, !x.fate == 4, !x.fate == 4]
theorem w60_s_2 (x : Ln) : outK prog f60 20 [] (runK prog D9 F0 2000 (.code (bodyOf f60)) [] 0 ([lnT x] ++ List.replicate 10 undefT) ⟨0, []⟩ (bt 4 0) [])
    = some (OutT.done (some (T.bool false)), g60_s_2 x, { next := 0, objs := [] }, [], 0) := by kernel_rfl
noncomputable def o60 (x : Ln) : Option (Empty ⊕ T) :=
  (if x.fate == 4 then (if allT (g60_s_1 x) then some (.inr ((T.bool (x.closed == 0)))) else none) else (if allT (g60_s_2 x) then some (.inr ((T.bool false))) else none))
noncomputable def V60_s (x : Ln) : Empty ⊕ T :=
  (if x.fate == 4 then (.inr ((T.bool (x.closed == 0)))) else (.inr ((T.bool false))))
noncomputable def K60_s (x : Ln) : Bool :=
  (if x.fate == 4 then (allT (g60_s_1 x)) else (allT (g60_s_2 x)))
theorem T60_s (x : Ln) (hk : K60_s x = true) : o60 x = some (V60_s x) :=
  (tree_if tree_leaf tree_leaf) hk
theorem run60 (x : Ln) {n : Nat} {o : Empty ⊕ T} {r : T} (h : o60 x = some o) (hr : noM.fin n o = some r) : PureFn prog gl 60 [lnT x] r := by
  refine pure_mach (M := noM) (fn := f60) (k := 20) (d := 8) (c := bodyOf f60) cx9 glFrz (by kernel_rfl) func60 (by kernel_rfl) rfl (by kernel_rfl) (by kernel_rfl) (L := 10) (by kernel_rfl) noM_ways (fun σ => σ.elim) ?_ hr
  exact (ways_if (ways_leaf fun hk => ⟨2000, _, _, _, _, _, _, w60_s_1 x, hk⟩) (ways_leaf fun hk => ⟨2000, _, _, _, _, _, _, w60_s_2 x, hk⟩)) o h
theorem c60 (x : Ln) (n : Nat) {r : T} (hk : K60_s x = true) (hr : noM.fin n (V60_s x) = some r) : PureFn prog gl 60 [lnT x] r := run60 x (T60_s x hk) hr


/-! ### 61 -/
noncomputable def g61_s_1 (x : Ln) : List Bool := []
theorem w61_s_1 (x : Ln) : outK prog f61 20 [] (runK prog D9 F0 2000 (.code (bodyOf f61)) [] 0 ([lnT x] ++ List.replicate 5 undefT) ⟨0, []⟩ [] [])
    = some (OutT.done (some (T.bool (x.closed == 6))), g61_s_1 x, { next := 0, objs := [] }, [], 0) := by kernel_rfl
noncomputable def o61 (x : Ln) : Option (Empty ⊕ T) :=
  (if allT (g61_s_1 x) then some (.inr ((T.bool (x.closed == 6)))) else none)
noncomputable def V61_s (x : Ln) : Empty ⊕ T :=
  (.inr ((T.bool (x.closed == 6))))
noncomputable def K61_s (x : Ln) : Bool :=
  (allT (g61_s_1 x))
theorem T61_s (x : Ln) (hk : K61_s x = true) : o61 x = some (V61_s x) :=
  tree_leaf hk
theorem run61 (x : Ln) {n : Nat} {o : Empty ⊕ T} {r : T} (h : o61 x = some o) (hr : noM.fin n o = some r) : PureFn prog gl 61 [lnT x] r := by
  refine pure_mach (M := noM) (fn := f61) (k := 20) (d := 8) (c := bodyOf f61) cx9 glFrz (by kernel_rfl) func61 (by kernel_rfl) rfl (by kernel_rfl) (by kernel_rfl) (L := 5) (by kernel_rfl) noM_ways (fun σ => σ.elim) ?_ hr
  exact (ways_leaf fun hk => ⟨2000, _, _, _, _, _, _, w61_s_1 x, hk⟩) o h
theorem c61 (x : Ln) (n : Nat) {r : T} (hk : K61_s x = true) (hr : noM.fin n (V61_s x) = some r) : PureFn prog gl 61 [lnT x] r := run61 x (T61_s x hk) hr
end Go.Proofs.Tryd
