/- Texts merged: B, Bc, Xs, T19, C1, C15, C20, L, Cc, Cd, Tx. -/
import Derived.Test.YtcndhbamkipifaaGreatDoorTe1
set_option linter.unusedSimpArgs false
set_option linter.unusedVariables false
set_option linter.unusedSectionVars false
/- The functions on stamps as machines, by program (gen2). -/
namespace Go.Proofs.Tryz
noncomputable section
open Go.Ps
set_option maxRecDepth 100000
/-! ### 49 -/
def r49_s (x y : Int) (ds : List Bool) : RD Out := runK prog D2 F0 2000 (.code (bodyOf f64)) [] 0 ([.int .i64 x, .int .i64 y] ++ List.replicate 18 undefT) ⟨0, []⟩ ds []
theorem w49_s_1 (x y : Int) : outK prog f64 20 [] (r49_s x y [false, false, true])
  = some (OutT.done (some (T.int .i64 (-1))), [decide (x < y), true, true], ⟨0, []⟩, [], 0) := by kernel_rfl
theorem w49_s_2 (x y : Int) : outK prog f64 20 [] (r49_s x y (bt 4 8))
  = some (OutT.done (some (T.int .i64 1)), [decide (x > y), !decide (x < y), true, true], ⟨0, []⟩, [], 0) := by kernel_rfl
theorem w49_s_3 (x y : Int) : outK prog f64 20 [] (r49_s x y (bt 4 0))
  = some (OutT.done (some (T.int .i64 0)), [!decide (x > y), !decide (x < y), true, true], ⟨0, []⟩, [], 0) := by kernel_rfl
def o49 (x y : Int) : Option (Empty ⊕ T) :=
 if allT [decide (x < y), true, true] then some (.inr (T.int .i64 (-1))) else
 if allT [decide (x > y), !decide (x < y), true, true] then some (.inr (T.int .i64 1)) else
 if allT [!decide (x > y), !decide (x < y), true, true] then some (.inr (T.int .i64 0)) else
 none
theorem run49 (x y : Int) (cx : Cx prog D2 F0) {n : Nat} {o : Empty ⊕ T} {r : T} (h : o49 x y = some o) (hr : noM.fin n o = some r) : PureFn prog gl 64 [.int .i64 x, .int .i64 y] r := by
 refine pure_mach (M := noM) (fn := f64) (k := 20) (d := 8) (c := bodyOf f64) cx glFrz (by kernel_rfl) func64 (by kernel_rfl) rfl (by kernel_rfl) (by kernel_rfl) (L := 18) (by kernel_rfl) noM_ways (fun σ => σ.elim) ?_ hr
 unfold o49 at h
 rcases ite_or h with ⟨hk, h⟩ | h
 ·cases h
  exact ⟨2000, _, _, _, _, _, _, w49_s_1 x y, hk⟩
 rcases ite_or h with ⟨hk, h⟩ | h
 ·cases h
  exact ⟨2000, _, _, _, _, _, _, w49_s_2 x y, hk⟩
 rcases ite_or h with ⟨hk, h⟩ | h
 ·cases h
  exact ⟨2000, _, _, _, _, _, _, w49_s_3 x y, hk⟩
 cases h
/-! ### 51 -/
theorem w51_s_1 (x y : Int) : outK prog f66 20 [] (runK prog D3 F0 2000 (.code (bodyOf f66)) [] 0 ([.int .i64 x, .int .i64 y] ++ List.replicate 6 undefT) ⟨0, []⟩ [] [])
  = some (OutT.done (some (T.int .i64 (cmpI x y))), [], ⟨0, []⟩, [], 0) := by kernel_rfl
def o51 (x y : Int) : Option (Empty ⊕ T) :=
 if allT [] then some (.inr (T.int .i64 (cmpI x y))) else
 none
theorem run51 (x y : Int) (cx : Cx prog D3 F0) {n : Nat} {o : Empty ⊕ T} {r : T} (h : o51 x y = some o) (hr : noM.fin n o = some r) : PureFn prog gl 66 [.int .i64 x, .int .i64 y] r := by
 refine pure_mach (M := noM) (fn := f66) (k := 20) (d := 8) (c := bodyOf f66) cx glFrz (by kernel_rfl) func66 (by kernel_rfl) rfl (by kernel_rfl) (by kernel_rfl) (L := 6) (by kernel_rfl) noM_ways (fun σ => σ.elim) ?_ hr
 unfold o51 at h
 rcases ite_or h with ⟨hk, h⟩ | h
 ·cases h
  exact ⟨2000, _, _, _, _, _, _, w51_s_1 x y, hk⟩
 cases h
/-! ### 50 -/
theorem w50_s_1 (n1 n2 : Nat) (f g : Nat → Int) : outK prog f65 20 [0, 1, 2, 11, 12, 13] (runK prog D4 F0 2000 (.code (bodyOf f65)) [] 0 ([isT n1 f, isT n2 g, .fn (.func 66) [] []] ++ List.replicate 36 undefT) ⟨0, []⟩ [] [])
  = some (OutT.loop 0 (loopAt f65 0).1 (loopAt f65 0).2, [], ⟨0, []⟩, [T.slf false n1 fun i => T.int .i64 (f i), T.slf false n2 fun i => T.int .i64 (g i), T.fn (Fn.func 66) [] [], T.slf false n1 fun i => T.int .i64 (f i), T.int .i64 (↑n1 : Int), T.int .i64 0], 39) := by kernel_rfl
def r50_0 (n1 n2 : Nat) (f g : Nat → Int) (x12 x13 : Int) (fr : List T) (ds : List Bool) : RD Out := runK prog D4 F0 2000 (.code (loopAt f65 0).1) (.lp :: (loopAt f65 0).2) 0 (frK [0, 1, 2, 11, 12, 13] [T.slf false n1 fun i => T.int .i64 (f i), T.slf false n2 fun i => T.int .i64 (g i), T.fn (Fn.func 66) [] [], T.slf false n1 fun i => T.int .i64 (f i), T.int .i64 x12, T.int .i64 x13] fr 39) ⟨0, []⟩ ds []
theorem w50_0_1 (n1 n2 : Nat) (f g : Nat → Int) (x12 x13 : Int) (fr : List T) : outK prog f65 20 [] (r50_0 n1 n2 f g x12 x13 fr [true, true])
  = some (OutT.done (some (T.int .i64 1)), [decide (x13 ≥ (↑n2 : Int)), decide (0 ≤ x13), decide (x13 < (↑n1 : Int)), true, decide (x13 < x12)], ⟨0, []⟩, [], 0) := by kernel_rfl
theorem w50_0_2 (n1 n2 : Nat) (f g : Nat → Int) (x12 x13 : Int) (fr : List T) : outK prog f65 20 [] (r50_0 n1 n2 f g x12 x13 fr [true, false, true])
  = some (OutT.done (some (T.int .i64 (cmpI (f x13.toNat) (g x13.toNat)))), [cmpI (f x13.toNat) (g x13.toNat) != 0, decide (0 ≤ x13), decide (x13 < (↑n2 : Int)), true, !decide (x13 ≥ (↑n2 : Int)), decide (0 ≤ x13), decide (x13 < (↑n1 : Int)), true, decide (x13 < x12)], ⟨0, []⟩, [], 0) := by kernel_rfl
theorem w50_0_3 (n1 n2 : Nat) (f g : Nat → Int) (x12 x13 : Int) (fr : List T) : outK prog f65 20 [0, 1, 2, 11, 12, 13] (r50_0 n1 n2 f g x12 x13 fr [true, false, false])
  = some (OutT.again 0, [!cmpI (f x13.toNat) (g x13.toNat) != 0, decide (0 ≤ x13), decide (x13 < (↑n2 : Int)), true, !decide (x13 ≥ (↑n2 : Int)), decide (0 ≤ x13), decide (x13 < (↑n1 : Int)), true, decide (x13 < x12)], ⟨0, []⟩, [T.slf false n1 fun i => T.int .i64 (f i), T.slf false n2 fun i => T.int .i64 (g i), T.fn (Fn.func 66) [] [], T.slf false n1 fun i => T.int .i64 (f i), T.int .i64 x12, T.int .i64 (IntKind.i64.wrap (x13 + 1))], 39) := by kernel_rfl
theorem w50_0_4 (n1 n2 : Nat) (f g : Nat → Int) (x12 x13 : Int) (fr : List T) : outK prog f65 20 [] (r50_0 n1 n2 f g x12 x13 fr [false, true])
  = some (OutT.done (some (T.int .i64 (-1))), [decide ((↑n1 : Int) < (↑n2 : Int)), !decide (x13 < x12)], ⟨0, []⟩, [], 0) := by kernel_rfl
theorem w50_0_5 (n1 n2 : Nat) (f g : Nat → Int) (x12 x13 : Int) (fr : List T) : outK prog f65 20 [] (r50_0 n1 n2 f g x12 x13 fr [false, false])
  = some (OutT.done (some (T.int .i64 0)), [!decide ((↑n1 : Int) < (↑n2 : Int)), !decide (x13 < x12)], ⟨0, []⟩, [], 0) := by kernel_rfl
inductive S50 where
 | l0 (x12 x13 : Int)
def step50_0 (n1 n2 : Nat) (f g : Nat → Int) (x12 x13 : Int) : Option (S50 ⊕ T) :=
 if allT [decide (x13 ≥ (↑n2 : Int)), decide (0 ≤ x13), decide (x13 < (↑n1 : Int)), true, decide (x13 < x12)] then some (.inr (T.int .i64 1)) else
 if allT [cmpI (f x13.toNat) (g x13.toNat) != 0, decide (0 ≤ x13), decide (x13 < (↑n2 : Int)), true, !decide (x13 ≥ (↑n2 : Int)), decide (0 ≤ x13), decide (x13 < (↑n1 : Int)), true, decide (x13 < x12)] then some (.inr (T.int .i64 (cmpI (f x13.toNat) (g x13.toNat)))) else
 if allT [!cmpI (f x13.toNat) (g x13.toNat) != 0, decide (0 ≤ x13), decide (x13 < (↑n2 : Int)), true, !decide (x13 ≥ (↑n2 : Int)), decide (0 ≤ x13), decide (x13 < (↑n1 : Int)), true, decide (x13 < x12)] then some (.inl (.l0 x12 (IntKind.i64.wrap (x13 + 1)))) else
 if allT [decide ((↑n1 : Int) < (↑n2 : Int)), !decide (x13 < x12)] then some (.inr (T.int .i64 (-1))) else
 if allT [!decide ((↑n1 : Int) < (↑n2 : Int)), !decide (x13 < x12)] then some (.inr (T.int .i64 0)) else
 none
def step50 (n1 n2 : Nat) (f g : Nat → Int) : S50 → Option (S50 ⊕ T)
 | .l0 x12 x13 => step50_0 n1 n2 f g x12 x13
def M50 (n1 n2 : Nat) (f g : Nat → Int) : Mch S50 where
 lp := fun σ => match σ with
  | .l0 .. => 0
 keep := fun ι => match ι with
  | 0 => [0, 1, 2, 11, 12, 13]
  | _ => []
 par := fun ι => match ι with
  | 0 => []
  | _ => []
 vs := fun σ => match σ with
  | .l0 x12 x13 => [T.slf false n1 fun i => T.int .i64 (f i), T.slf false n2 fun i => T.int .i64 (g i), T.fn (Fn.func 66) [] [], T.slf false n1 fun i => T.int .i64 (f i), T.int .i64 x12, T.int .i64 x13]
 hp := fun σ => match σ with
  | .l0 _ _ => ⟨0, []⟩
 len := 39
 step := step50 n1 n2 f g
theorem ways50 (n1 n2 : Nat) (f g : Nat → Int) : (M50 n1 n2 f g).Ways prog D4 F0 f65 20 := by
 intro σ o fr h
 cases σ with
 | l0 x12 x13 =>
  change step50_0 n1 n2 f g x12 x13 = some o at h
  unfold step50_0 at h
  rcases ite_or h with ⟨hk, h⟩ | h
  ·cases h
   exact ⟨2000, _, _, _, _, _, _, w50_0_1 n1 n2 f g x12 x13 fr, hk⟩
  rcases ite_or h with ⟨hk, h⟩ | h
  ·cases h
   exact ⟨2000, _, _, _, _, _, _, w50_0_2 n1 n2 f g x12 x13 fr, hk⟩
  rcases ite_or h with ⟨hk, h⟩ | h
  ·cases h
   exact .inl ⟨2000, _, _, _, w50_0_3 n1 n2 f g x12 x13 fr, hk, rfl⟩
  rcases ite_or h with ⟨hk, h⟩ | h
  ·cases h
   exact ⟨2000, _, _, _, _, _, _, w50_0_4 n1 n2 f g x12 x13 fr, hk⟩
  rcases ite_or h with ⟨hk, h⟩ | h
  ·cases h
   exact ⟨2000, _, _, _, _, _, _, w50_0_5 n1 n2 f g x12 x13 fr, hk⟩
  cases h
theorem oks50 (n1 n2 : Nat) (f g : Nat → Int) : ∀ σ, Ps.codeOk (loopAt f65 ((M50 n1 n2 f g).lp σ)).1 = true ∧ ksOk (.lp :: (loopAt f65 ((M50 n1 n2 f g).lp σ)).2) = true := oks_of 1 (by kernel_rfl) (by intro σ; cases σ <;> exact Nat.le_of_ble_eq_true rfl)
def o50 (n1 n2 : Nat) (f g : Nat → Int) : Option (S50 ⊕ T) :=
 if allT [] then some (.inl (.l0 (↑n1 : Int) 0)) else
 none
theorem run50 (n1 n2 : Nat) (f g : Nat → Int) (cx : Cx prog D4 F0) {n : Nat} {o : S50 ⊕ T} {r : T} (h : o50 n1 n2 f g = some o) (hr : (M50 n1 n2 f g).fin n o = some r) : PureFn prog gl 65 [isT n1 f, isT n2 g, .fn (.func 66) [] []] r := by
 refine pure_mach (M := (M50 n1 n2 f g)) (fn := f65) (k := 20) (d := 8) (c := bodyOf f65) cx glFrz (by kernel_rfl) func65 (by kernel_rfl) rfl (by kernel_rfl) (by kernel_rfl) (L := 36) (by kernel_rfl) (ways50 n1 n2 f g) (oks50 n1 n2 f g) ?_ hr
 unfold o50 at h
 rcases ite_or h with ⟨hk, h⟩ | h
 ·cases h
  exact .inr ⟨2000, _, _, _, w50_s_1 n1 n2 f g, hk, rfl⟩
 cases h
/-! ### 33 -/
theorem w33_s_1 (a b : Sp) : outK prog f42 20 [] (runK prog D5 F0 2000 (.code (bodyOf f42)) [] 0 ([spT a, spT b] ++ List.replicate 15 undefT) ⟨0, []⟩ [] [])
  = some (OutT.done (some (T.int .i64 (if cmpI a.entry b.entry ≠ 0 then cmpI a.entry b.entry else cmpP a.n a.at_ b.n b.at_))), [isV (T.slf false a.n fun i => T.int .i64 (a.at_ i)) (isT a.n a.at_), isV (T.slf false b.n fun i => T.int .i64 (b.at_ i)) (isT b.n b.at_), decide (a.n ≤ 281474976710656)], ⟨0, []⟩, [], 0) := by kernel_rfl
def o33 (a b : Sp) : Option (Empty ⊕ T) :=
 if allT [isV (T.slf false a.n fun i => T.int .i64 (a.at_ i)) (isT a.n a.at_), isV (T.slf false b.n fun i => T.int .i64 (b.at_ i)) (isT b.n b.at_), decide (a.n ≤ 281474976710656)] then some (.inr (T.int .i64 (if cmpI a.entry b.entry ≠ 0 then cmpI a.entry b.entry else cmpP a.n a.at_ b.n b.at_))) else
 none
theorem run33 (a b : Sp) (cx : Cx prog D5 F0) {n : Nat} {o : Empty ⊕ T} {r : T} (h : o33 a b = some o) (hr : noM.fin n o = some r) : PureFn prog gl 42 [spT a, spT b] r := by
 refine pure_mach (M := noM) (fn := f42) (k := 20) (d := 8) (c := bodyOf f42) cx glFrz (by kernel_rfl) func42 (by kernel_rfl) rfl (by kernel_rfl) (by kernel_rfl) (L := 15) (by kernel_rfl) noM_ways (fun σ => σ.elim) ?_ hr
 unfold o33 at h
 rcases ite_or h with ⟨hk, h⟩ | h
 ·cases h
  exact ⟨2000, _, _, _, _, _, _, w33_s_1 a b, hk⟩
 cases h
/-! ### 62 -/
theorem w62_s_1 (a b : Sp) : outK prog f51 20 [] (runK prog D6 F0 2000 (.code (bodyOf f51)) [] 0 ([spT a, spT b] ++ List.replicate 7 undefT) ⟨0, []⟩ [] [])
  = some (OutT.done (some (T.bool (cmpS a b == 0))), [isV (spT a) (spT a), isV (spT b) (spT b), decide (a.n ≤ 281474976710656)], ⟨0, []⟩, [], 0) := by kernel_rfl
def o62 (a b : Sp) : Option (Empty ⊕ T) :=
 if allT [isV (spT a) (spT a), isV (spT b) (spT b), decide (a.n ≤ 281474976710656)] then some (.inr (T.bool (cmpS a b == 0))) else
 none
theorem run62 (a b : Sp) (cx : Cx prog D6 F0) {n : Nat} {o : Empty ⊕ T} {r : T} (h : o62 a b = some o) (hr : noM.fin n o = some r) : PureFn prog gl 51 [spT a, spT b] r := by
 refine pure_mach (M := noM) (fn := f51) (k := 20) (d := 8) (c := bodyOf f51) cx glFrz (by kernel_rfl) func51 (by kernel_rfl) rfl (by kernel_rfl) (by kernel_rfl) (L := 7) (by kernel_rfl) noM_ways (fun σ => σ.elim) ?_ hr
 unfold o62 at h
 rcases ite_or h with ⟨hk, h⟩ | h
 ·cases h
  exact ⟨2000, _, _, _, _, _, _, w62_s_1 a b, hk⟩
 cases h
/-! ### 53 -/
theorem w53_s_1 (x : Ln) (b : Sp) : outK prog f76 20 [] (runK prog D6 F0 2000 (.code (bodyOf f76)) [] 0 ([lnT x, spT b] ++ List.replicate 7 undefT) ⟨0, []⟩ [] [])
  = some (OutT.done (some (T.int .i64 (cmpS x.st b))), [isV (spT x.st) (spT x.st), isV (spT b) (spT b), decide (x.st.n ≤ 281474976710656)], ⟨0, []⟩, [], 0) := by kernel_rfl
def o53 (x : Ln) (b : Sp) : Option (Empty ⊕ T) :=
 if allT [isV (spT x.st) (spT x.st), isV (spT b) (spT b), decide (x.st.n ≤ 281474976710656)] then some (.inr (T.int .i64 (cmpS x.st b))) else
 none
theorem run53 (x : Ln) (b : Sp) (cx : Cx prog D6 F0) {n : Nat} {o : Empty ⊕ T} {r : T} (h : o53 x b = some o) (hr : noM.fin n o = some r) : PureFn prog gl 76 [lnT x, spT b] r := by
 refine pure_mach (M := noM) (fn := f76) (k := 20) (d := 8) (c := bodyOf f76) cx glFrz (by kernel_rfl) func76 (by kernel_rfl) rfl (by kernel_rfl) (by kernel_rfl) (L := 7) (by kernel_rfl) noM_ways (fun σ => σ.elim) ?_ hr
 unfold o53 at h
 rcases ite_or h with ⟨hk, h⟩ | h
 ·cases h
  exact ⟨2000, _, _, _, _, _, _, w53_s_1 x b, hk⟩
 cases h
/-! ### 54 -/
theorem w54a_s_1 (m : Nat) (f : Nat → Int) : outK prog f77 20 [0, 1, 7, 8] (runK prog D2 F0 2000 (.code (bodyOf f77)) [] 0 ([isT m f, .fn (.func 62) [] []] ++ List.replicate 17 undefT) ⟨0, []⟩ [] [])
  = some (OutT.loop 0 (loopAt f77 0).1 (loopAt f77 0).2, [], ⟨0, []⟩, [T.slf false m fun i => T.int .i64 (f i), T.fn (Fn.func 62) [] [], T.int .i64 (↑m : Int), T.int .i64 0], 19) := by kernel_rfl
def r54a_0 (m : Nat) (f : Nat → Int) (x7 x8 : Int) (fr : List T) (ds : List Bool) : RD Out := runK prog D2 F0 2000 (.code (loopAt f77 0).1) (.lp :: (loopAt f77 0).2) 0 (frK [0, 1, 7, 8] [T.slf false m fun i => T.int .i64 (f i), T.fn (Fn.func 62) [] [], T.int .i64 x7, T.int .i64 x8] fr 19) ⟨0, []⟩ ds []
theorem w54a_0_1 (m : Nat) (f : Nat → Int) (x7 x8 : Int) (fr : List T) : outK prog f77 20 [] (r54a_0 m f x7 x8 fr [true, true])
  = some (OutT.done (some (T.int .i64 x8)), [bad (f x8.toNat), decide (0 ≤ x8), decide (x8 < (↑m : Int)), true, decide (x8 < x7)], ⟨0, []⟩, [], 0) := by kernel_rfl
theorem w54a_0_2 (m : Nat) (f : Nat → Int) (x7 x8 : Int) (fr : List T) : outK prog f77 20 [0, 1, 7, 8] (r54a_0 m f x7 x8 fr [true, false])
  = some (OutT.again 0, [!bad (f x8.toNat), decide (0 ≤ x8), decide (x8 < (↑m : Int)), true, decide (x8 < x7)], ⟨0, []⟩, [T.slf false m fun i => T.int .i64 (f i), T.fn (Fn.func 62) [] [], T.int .i64 x7, T.int .i64 (IntKind.i64.wrap (x8 + 1))], 19) := by kernel_rfl
theorem w54a_0_3 (m : Nat) (f : Nat → Int) (x7 x8 : Int) (fr : List T) : outK prog f77 20 [] (r54a_0 m f x7 x8 fr [false])
  = some (OutT.done (some (T.int .i64 (-1))), [!decide (x8 < x7)], ⟨0, []⟩, [], 0) := by kernel_rfl
inductive S54a where
 | l0 (x7 x8 : Int)
def step54a_0 (m : Nat) (f : Nat → Int) (x7 x8 : Int) : Option (S54a ⊕ T) :=
 if allT [bad (f x8.toNat), decide (0 ≤ x8), decide (x8 < (↑m : Int)), true, decide (x8 < x7)] then some (.inr (T.int .i64 x8)) else
 if allT [!bad (f x8.toNat), decide (0 ≤ x8), decide (x8 < (↑m : Int)), true, decide (x8 < x7)] then some (.inl (.l0 x7 (IntKind.i64.wrap (x8 + 1)))) else
 if allT [!decide (x8 < x7)] then some (.inr (T.int .i64 (-1))) else
 none
def step54a (m : Nat) (f : Nat → Int) : S54a → Option (S54a ⊕ T)
 | .l0 x7 x8 => step54a_0 m f x7 x8
def M54a (m : Nat) (f : Nat → Int) : Mch S54a where
 lp := fun σ => match σ with
  | .l0 .. => 0
 keep := fun ι => match ι with
  | 0 => [0, 1, 7, 8]
  | _ => []
 par := fun ι => match ι with
  | 0 => []
  | _ => []
 vs := fun σ => match σ with
  | .l0 x7 x8 => [T.slf false m fun i => T.int .i64 (f i), T.fn (Fn.func 62) [] [], T.int .i64 x7, T.int .i64 x8]
 hp := fun σ => match σ with
  | .l0 _ _ => ⟨0, []⟩
 len := 19
 step := step54a m f
theorem ways54a (m : Nat) (f : Nat → Int) : (M54a m f).Ways prog D2 F0 f77 20 := by
 intro σ o fr h
 cases σ with
 | l0 x7 x8 =>
  change step54a_0 m f x7 x8 = some o at h
  unfold step54a_0 at h
  rcases ite_or h with ⟨hk, h⟩ | h
  ·cases h
   exact ⟨2000, _, _, _, _, _, _, w54a_0_1 m f x7 x8 fr, hk⟩
  rcases ite_or h with ⟨hk, h⟩ | h
  ·cases h
   exact .inl ⟨2000, _, _, _, w54a_0_2 m f x7 x8 fr, hk, rfl⟩
  rcases ite_or h with ⟨hk, h⟩ | h
  ·cases h
   exact ⟨2000, _, _, _, _, _, _, w54a_0_3 m f x7 x8 fr, hk⟩
  cases h
theorem oks54a (m : Nat) (f : Nat → Int) : ∀ σ, Ps.codeOk (loopAt f77 ((M54a m f).lp σ)).1 = true ∧ ksOk (.lp :: (loopAt f77 ((M54a m f).lp σ)).2) = true := oks_of 1 (by kernel_rfl) (by intro σ; cases σ <;> exact Nat.le_of_ble_eq_true rfl)
def o54a (m : Nat) (f : Nat → Int) : Option (S54a ⊕ T) :=
 if allT [] then some (.inl (.l0 (↑m : Int) 0)) else
 none
theorem run54a (m : Nat) (f : Nat → Int) (cx : Cx prog D2 F0) {n : Nat} {o : S54a ⊕ T} {r : T} (h : o54a m f = some o) (hr : (M54a m f).fin n o = some r) : PureFn prog gl 77 [isT m f, .fn (.func 62) [] []] r := by
 refine pure_mach (M := (M54a m f)) (fn := f77) (k := 20) (d := 8) (c := bodyOf f77) cx glFrz (by kernel_rfl) func77 (by kernel_rfl) rfl (by kernel_rfl) (by kernel_rfl) (L := 17) (by kernel_rfl) (ways54a m f) (oks54a m f) ?_ hr
 unfold o54a at h
 rcases ite_or h with ⟨hk, h⟩ | h
 ·cases h
  exact .inr ⟨2000, _, _, _, w54a_s_1 m f, hk, rfl⟩
 cases h
/-! ### 54 -/
theorem w54b_s_1 (m : Nat) (f : Nat → Int) (c : Ct) : outK prog f77 20 [0, 1, 7, 8] (runK prog D2 F0 2000 (.code (bodyOf f77)) [] 0 ([isT m f, .fn (.func 57) [] [.ref (ctT c) 0]] ++ List.replicate 17 undefT) ⟨0, []⟩ [] [])
  = some (OutT.loop 0 (loopAt f77 0).1 (loopAt f77 0).2, [], ⟨0, []⟩, [T.slf false m fun i => T.int .i64 (f i), T.fn (Fn.func 57) [] [(ctT c).ref 0], T.int .i64 (↑m : Int), T.int .i64 0], 19) := by kernel_rfl
def r54b_0 (m : Nat) (f : Nat → Int) (c : Ct) (x7 x8 : Int) (fr : List T) (ds : List Bool) : RD Out := runK prog D2 F0 2000 (.code (loopAt f77 0).1) (.lp :: (loopAt f77 0).2) 0 (frK [0, 1, 7, 8] [T.slf false m fun i => T.int .i64 (f i), T.fn (Fn.func 57) [] [(ctT c).ref 0], T.int .i64 x7, T.int .i64 x8] fr 19) ⟨0, []⟩ ds []
theorem w54b_0_1 (m : Nat) (f : Nat → Int) (c : Ct) (x7 x8 : Int) (fr : List T) : outK prog f77 20 [] (r54b_0 m f c x7 x8 fr [true, true])
  = some (OutT.done (some (T.int .i64 x8)), [(↑(c.line (f x8.toNat).toNat).k : Int) != 1, isV (ctT c) (ctT c), decide (0 ≤ f x8.toNat), decide (f x8.toNat < (↑c.n : Int)), decide (0 ≤ x8), decide (x8 < (↑m : Int)), true, decide (x8 < x7)], ⟨0, []⟩, [], 0) := by kernel_rfl
theorem w54b_0_2 (m : Nat) (f : Nat → Int) (c : Ct) (x7 x8 : Int) (fr : List T) : outK prog f77 20 [0, 1, 7, 8] (r54b_0 m f c x7 x8 fr [true, false])
  = some (OutT.again 0, [!(↑(c.line (f x8.toNat).toNat).k : Int) != 1, isV (ctT c) (ctT c), decide (0 ≤ f x8.toNat), decide (f x8.toNat < (↑c.n : Int)), decide (0 ≤ x8), decide (x8 < (↑m : Int)), true, decide (x8 < x7)], ⟨0, []⟩, [T.slf false m fun i => T.int .i64 (f i), T.fn (Fn.func 57) [] [(ctT c).ref 0], T.int .i64 x7, T.int .i64 (IntKind.i64.wrap (x8 + 1))], 19) := by kernel_rfl
theorem w54b_0_3 (m : Nat) (f : Nat → Int) (c : Ct) (x7 x8 : Int) (fr : List T) : outK prog f77 20 [] (r54b_0 m f c x7 x8 fr [false])
  = some (OutT.done (some (T.int .i64 (-1))), [!decide (x8 < x7)], ⟨0, []⟩, [], 0) := by kernel_rfl
inductive S54b where
 | l0 (x7 x8 : Int)
def step54b_0 (m : Nat) (f : Nat → Int) (c : Ct) (x7 x8 : Int) : Option (S54b ⊕ T) :=
 if allT [(↑(c.line (f x8.toNat).toNat).k : Int) != 1, isV (ctT c) (ctT c), decide (0 ≤ f x8.toNat), decide (f x8.toNat < (↑c.n : Int)), decide (0 ≤ x8), decide (x8 < (↑m : Int)), true, decide (x8 < x7)] then some (.inr (T.int .i64 x8)) else
 if allT [!(↑(c.line (f x8.toNat).toNat).k : Int) != 1, isV (ctT c) (ctT c), decide (0 ≤ f x8.toNat), decide (f x8.toNat < (↑c.n : Int)), decide (0 ≤ x8), decide (x8 < (↑m : Int)), true, decide (x8 < x7)] then some (.inl (.l0 x7 (IntKind.i64.wrap (x8 + 1)))) else
 if allT [!decide (x8 < x7)] then some (.inr (T.int .i64 (-1))) else
 none
def step54b (m : Nat) (f : Nat → Int) (c : Ct) : S54b → Option (S54b ⊕ T)
 | .l0 x7 x8 => step54b_0 m f c x7 x8
def M54b (m : Nat) (f : Nat → Int) (c : Ct) : Mch S54b where
 lp := fun σ => match σ with
  | .l0 .. => 0
 keep := fun ι => match ι with
  | 0 => [0, 1, 7, 8]
  | _ => []
 par := fun ι => match ι with
  | 0 => []
  | _ => []
 vs := fun σ => match σ with
  | .l0 x7 x8 => [T.slf false m fun i => T.int .i64 (f i), T.fn (Fn.func 57) [] [(ctT c).ref 0], T.int .i64 x7, T.int .i64 x8]
 hp := fun σ => match σ with
  | .l0 _ _ => ⟨0, []⟩
 len := 19
 step := step54b m f c
theorem ways54b (m : Nat) (f : Nat → Int) (c : Ct) : (M54b m f c).Ways prog D2 F0 f77 20 := by
 intro σ o fr h
 cases σ with
 | l0 x7 x8 =>
  change step54b_0 m f c x7 x8 = some o at h
  unfold step54b_0 at h
  rcases ite_or h with ⟨hk, h⟩ | h
  ·cases h
   exact ⟨2000, _, _, _, _, _, _, w54b_0_1 m f c x7 x8 fr, hk⟩
  rcases ite_or h with ⟨hk, h⟩ | h
  ·cases h
   exact .inl ⟨2000, _, _, _, w54b_0_2 m f c x7 x8 fr, hk, rfl⟩
  rcases ite_or h with ⟨hk, h⟩ | h
  ·cases h
   exact ⟨2000, _, _, _, _, _, _, w54b_0_3 m f c x7 x8 fr, hk⟩
  cases h
theorem oks54b (m : Nat) (f : Nat → Int) (c : Ct) : ∀ σ, Ps.codeOk (loopAt f77 ((M54b m f c).lp σ)).1 = true ∧ ksOk (.lp :: (loopAt f77 ((M54b m f c).lp σ)).2) = true := oks_of 1 (by kernel_rfl) (by intro σ; cases σ <;> exact Nat.le_of_ble_eq_true rfl)
def o54b (m : Nat) (f : Nat → Int) (c : Ct) : Option (S54b ⊕ T) :=
 if allT [] then some (.inl (.l0 (↑m : Int) 0)) else
 none
theorem run54b (m : Nat) (f : Nat → Int) (c : Ct) (cx : Cx prog D2 F0) {n : Nat} {o : S54b ⊕ T} {r : T} (h : o54b m f c = some o) (hr : (M54b m f c).fin n o = some r) : PureFn prog gl 77 [isT m f, .fn (.func 57) [] [.ref (ctT c) 0]] r := by
 refine pure_mach (M := (M54b m f c)) (fn := f77) (k := 20) (d := 8) (c := bodyOf f77) cx glFrz (by kernel_rfl) func77 (by kernel_rfl) rfl (by kernel_rfl) (by kernel_rfl) (L := 17) (by kernel_rfl) (ways54b m f c) (oks54b m f c) ?_ hr
 unfold o54b at h
 rcases ite_or h with ⟨hk, h⟩ | h
 ·cases h
  exact .inr ⟨2000, _, _, _, w54b_s_1 m f c, hk, rfl⟩
 cases h
/-! ### 38 -/
theorem w38a_s_1 (m : Nat) (f : Nat → Int) : outK prog f56 20 [] (runK prog D7 F0 2000 (.code (bodyOf f56)) [] 0 ([isT m f, .fn (.func 62) [] []] ++ List.replicate 7 undefT) ⟨0, []⟩ [] [])
  = some (OutT.done (some (T.bool (decide ((idx m fun i => bad (f i)) ≥ 0)))), [isV (T.slf false m fun i => T.int .i64 (f i)) (isT m f), decide (m ≤ 281474976710656)], ⟨0, []⟩, [], 0) := by kernel_rfl
def o38a (m : Nat) (f : Nat → Int) : Option (Empty ⊕ T) :=
 if allT [isV (T.slf false m fun i => T.int .i64 (f i)) (isT m f), decide (m ≤ 281474976710656)] then some (.inr (T.bool (decide ((idx m fun i => bad (f i)) ≥ 0)))) else
 none
theorem run38a (m : Nat) (f : Nat → Int) (cx : Cx prog D7 F0) {n : Nat} {o : Empty ⊕ T} {r : T} (h : o38a m f = some o) (hr : noM.fin n o = some r) : PureFn prog gl 56 [isT m f, .fn (.func 62) [] []] r := by
 refine pure_mach (M := noM) (fn := f56) (k := 20) (d := 8) (c := bodyOf f56) cx glFrz (by kernel_rfl) func56 (by kernel_rfl) rfl (by kernel_rfl) (by kernel_rfl) (L := 7) (by kernel_rfl) noM_ways (fun σ => σ.elim) ?_ hr
 unfold o38a at h
 rcases ite_or h with ⟨hk, h⟩ | h
 ·cases h
  exact ⟨2000, _, _, _, _, _, _, w38a_s_1 m f, hk⟩
 cases h
/-! ### 38 -/
theorem w38b_s_1 (m : Nat) (f : Nat → Int) (c : Ct) : outK prog f56 20 [] (runK prog D7 F0 2000 (.code (bodyOf f56)) [] 0 ([isT m f, .fn (.func 57) [] [.ref (ctT c) 0]] ++ List.replicate 7 undefT) ⟨0, []⟩ [] [])
  = some (OutT.done (some (T.bool (decide ((idx m fun i => (↑(c.line (f i).toNat).k : Int) != 1) ≥ 0)))), [isV (T.slf false m fun i => T.int .i64 (f i)) (isT m f), isV (ctT c) (ctT c), decide (m ≤ 281474976710656), decide (∀ (i : Nat), i < m → 0 ≤ f i ∧ f i < (↑c.n : Int))], ⟨0, []⟩, [], 0) := by kernel_rfl
def o38b (m : Nat) (f : Nat → Int) (c : Ct) : Option (Empty ⊕ T) :=
 if allT [isV (T.slf false m fun i => T.int .i64 (f i)) (isT m f), isV (ctT c) (ctT c), decide (m ≤ 281474976710656), decide (∀ (i : Nat), i < m → 0 ≤ f i ∧ f i < (↑c.n : Int))] then some (.inr (T.bool (decide ((idx m fun i => (↑(c.line (f i).toNat).k : Int) != 1) ≥ 0)))) else
 none
theorem run38b (m : Nat) (f : Nat → Int) (c : Ct) (cx : Cx prog D7 F0) {n : Nat} {o : Empty ⊕ T} {r : T} (h : o38b m f c = some o) (hr : noM.fin n o = some r) : PureFn prog gl 56 [isT m f, .fn (.func 57) [] [.ref (ctT c) 0]] r := by
 refine pure_mach (M := noM) (fn := f56) (k := 20) (d := 8) (c := bodyOf f56) cx glFrz (by kernel_rfl) func56 (by kernel_rfl) rfl (by kernel_rfl) (by kernel_rfl) (L := 7) (by kernel_rfl) noM_ways (fun σ => σ.elim) ?_ hr
 unfold o38b at h
 rcases ite_or h with ⟨hk, h⟩ | h
 ·cases h
  exact ⟨2000, _, _, _, _, _, _, w38b_s_1 m f c, hk⟩
 cases h
/-! ### 32 -/
def r32_s (s : Sp) (ds : List Bool) : RD Out := runK prog D8 F0 2000 (.code (bodyOf f41)) [] 0 ([spT s] ++ List.replicate 48 undefT) ⟨0, []⟩ ds []
theorem w32_s_1 (s : Sp) : outK prog f41 20 [] (r32_s s (bt 5 31))
  = some (OutT.done (some (T.int .i64 2)), [true, decide (s.entry < 1), decide (s.entry < 1), decide (s.entry < 1), decide (s.entry < 1)], ⟨0, []⟩, [], 0) := by kernel_rfl
theorem w32_s_2 (s : Sp) : outK prog f41 20 [] (r32_s s (bt 5 16))
  = some (OutT.done (some (T.int .i64 2)), [decide (s.entry > 1048576), !decide (s.entry < 1), !decide (s.entry < 1), !decide (s.entry < 1), !decide (s.entry < 1)], ⟨0, []⟩, [], 0) := by kernel_rfl
theorem w32_s_3 (s : Sp) : outK prog f41 20 [] (r32_s s (bt 6 32))
  = some (OutT.done (some (T.int .i64 4)), [(↑s.n : Int) == 0, !decide (s.entry > 1048576), !decide (s.entry < 1), !decide (s.entry < 1), !decide (s.entry < 1), !decide (s.entry < 1)], ⟨0, []⟩, [], 0) := by kernel_rfl
theorem w32_s_4 (s : Sp) : outK prog f41 20 [] (r32_s s (bt 7 64))
  = some (OutT.done (some (T.int .i64 9)), [decide ((↑s.n : Int) > 512), !(↑s.n : Int) == 0, !decide (s.entry > 1048576), !decide (s.entry < 1), !decide (s.entry < 1), !decide (s.entry < 1), !decide (s.entry < 1)], ⟨0, []⟩, [], 0) := by kernel_rfl
theorem w32_s_5 (s : Sp) : outK prog f41 20 [] (r32_s s (bt 8 128))
  = some (OutT.done (some (T.int .i64 2)), [any s.n fun i => bad (s.at_ i), isV (T.slf false s.n fun i => T.int .i64 (s.at_ i)) (isT s.n s.at_), decide (s.n ≤ 281474976710656), !decide ((↑s.n : Int) > 512), !(↑s.n : Int) == 0, !decide (s.entry > 1048576), !decide (s.entry < 1), !decide (s.entry < 1), !decide (s.entry < 1), !decide (s.entry < 1)], ⟨0, []⟩, [], 0) := by kernel_rfl
theorem w32_s_6 (s : Sp) : outK prog f41 20 [] (r32_s s (bt 9 256))
  = some (OutT.done (some (T.int .i64 11)), [decide (s.at_ 0 > 1), true, decide (0 < (↑s.n : Int)), true, !any s.n fun i => bad (s.at_ i), isV (T.slf false s.n fun i => T.int .i64 (s.at_ i)) (isT s.n s.at_), decide (s.n ≤ 281474976710656), !decide ((↑s.n : Int) > 512), !(↑s.n : Int) == 0, !decide (s.entry > 1048576), !decide (s.entry < 1), !decide (s.entry < 1), !decide (s.entry < 1), !decide (s.entry < 1)], ⟨0, []⟩, [], 0) := by kernel_rfl
theorem w32_s_7 (s : Sp) : outK prog f41 20 [] (r32_s s (bt 10 512))
  = some (OutT.done (some (T.int .i64 0)), [s.at_ 0 == 1, true, decide (0 < (↑s.n : Int)), true, !decide (s.at_ 0 > 1), true, decide (0 < (↑s.n : Int)), true, !any s.n fun i => bad (s.at_ i), isV (T.slf false s.n fun i => T.int .i64 (s.at_ i)) (isT s.n s.at_), decide (s.n ≤ 281474976710656), !decide ((↑s.n : Int) > 512), !(↑s.n : Int) == 0, !decide (s.entry > 1048576), !decide (s.entry < 1), !decide (s.entry < 1), !decide (s.entry < 1), !decide (s.entry < 1)], ⟨0, []⟩, [], 0) := by kernel_rfl
theorem w32_s_8 (s : Sp) : outK prog f41 20 [] (r32_s s (bt 11 1024))
  = some (OutT.done (some (T.int .i64 4)), [(↑s.n : Int) == 1, !s.at_ 0 == 1, true, decide (0 < (↑s.n : Int)), true, !decide (s.at_ 0 > 1), true, decide (0 < (↑s.n : Int)), true, !any s.n fun i => bad (s.at_ i), isV (T.slf false s.n fun i => T.int .i64 (s.at_ i)) (isT s.n s.at_), decide (s.n ≤ 281474976710656), !decide ((↑s.n : Int) > 512), !(↑s.n : Int) == 0, !decide (s.entry > 1048576), !decide (s.entry < 1), !decide (s.entry < 1), !decide (s.entry < 1), !decide (s.entry < 1)], ⟨0, []⟩, [], 0) := by kernel_rfl
theorem w32_s_9 (s : Sp) : outK prog f41 20 [] (r32_s s (bt 12 2048))
  = some (OutT.done (some (T.int .i64 2)), [decide (s.at_ 1 ≥ 128), true, decide (1 < (↑s.n : Int)), true, !(↑s.n : Int) == 1, !s.at_ 0 == 1, true, decide (0 < (↑s.n : Int)), true, !decide (s.at_ 0 > 1), true, decide (0 < (↑s.n : Int)), true, !any s.n fun i => bad (s.at_ i), isV (T.slf false s.n fun i => T.int .i64 (s.at_ i)) (isT s.n s.at_), decide (s.n ≤ 281474976710656), !decide ((↑s.n : Int) > 512), !(↑s.n : Int) == 0, !decide (s.entry > 1048576), !decide (s.entry < 1), !decide (s.entry < 1), !decide (s.entry < 1), !decide (s.entry < 1)], ⟨0, []⟩, [], 0) := by kernel_rfl
theorem w32_s_10 (s : Sp) : outK prog f41 20 [] (r32_s s (bt 12 0))
  = some (OutT.done (some (T.int .i64 0)), [!decide (s.at_ 1 ≥ 128), true, decide (1 < (↑s.n : Int)), true, !(↑s.n : Int) == 1, !s.at_ 0 == 1, true, decide (0 < (↑s.n : Int)), true, !decide (s.at_ 0 > 1), true, decide (0 < (↑s.n : Int)), true, !any s.n fun i => bad (s.at_ i), isV (T.slf false s.n fun i => T.int .i64 (s.at_ i)) (isT s.n s.at_), decide (s.n ≤ 281474976710656), !decide ((↑s.n : Int) > 512), !(↑s.n : Int) == 0, !decide (s.entry > 1048576), !decide (s.entry < 1), !decide (s.entry < 1), !decide (s.entry < 1), !decide (s.entry < 1)], ⟨0, []⟩, [], 0) := by kernel_rfl
def o32 (s : Sp) : Option (Empty ⊕ T) :=
 if allT [true, decide (s.entry < 1), decide (s.entry < 1), decide (s.entry < 1), decide (s.entry < 1)] then some (.inr (T.int .i64 2)) else
 if allT [decide (s.entry > 1048576), !decide (s.entry < 1), !decide (s.entry < 1), !decide (s.entry < 1), !decide (s.entry < 1)] then some (.inr (T.int .i64 2)) else
 if allT [(↑s.n : Int) == 0, !decide (s.entry > 1048576), !decide (s.entry < 1), !decide (s.entry < 1), !decide (s.entry < 1), !decide (s.entry < 1)] then some (.inr (T.int .i64 4)) else
 if allT [decide ((↑s.n : Int) > 512), !(↑s.n : Int) == 0, !decide (s.entry > 1048576), !decide (s.entry < 1), !decide (s.entry < 1), !decide (s.entry < 1), !decide (s.entry < 1)] then some (.inr (T.int .i64 9)) else
 if allT [any s.n fun i => bad (s.at_ i), isV (T.slf false s.n fun i => T.int .i64 (s.at_ i)) (isT s.n s.at_), decide (s.n ≤ 281474976710656), !decide ((↑s.n : Int) > 512), !(↑s.n : Int) == 0, !decide (s.entry > 1048576), !decide (s.entry < 1), !decide (s.entry < 1), !decide (s.entry < 1), !decide (s.entry < 1)] then some (.inr (T.int .i64 2)) else
 if allT [decide (s.at_ 0 > 1), true, decide (0 < (↑s.n : Int)), true, !any s.n fun i => bad (s.at_ i), isV (T.slf false s.n fun i => T.int .i64 (s.at_ i)) (isT s.n s.at_), decide (s.n ≤ 281474976710656), !decide ((↑s.n : Int) > 512), !(↑s.n : Int) == 0, !decide (s.entry > 1048576), !decide (s.entry < 1), !decide (s.entry < 1), !decide (s.entry < 1), !decide (s.entry < 1)] then some (.inr (T.int .i64 11)) else
 if allT [s.at_ 0 == 1, true, decide (0 < (↑s.n : Int)), true, !decide (s.at_ 0 > 1), true, decide (0 < (↑s.n : Int)), true, !any s.n fun i => bad (s.at_ i), isV (T.slf false s.n fun i => T.int .i64 (s.at_ i)) (isT s.n s.at_), decide (s.n ≤ 281474976710656), !decide ((↑s.n : Int) > 512), !(↑s.n : Int) == 0, !decide (s.entry > 1048576), !decide (s.entry < 1), !decide (s.entry < 1), !decide (s.entry < 1), !decide (s.entry < 1)] then some (.inr (T.int .i64 0)) else
 if allT [(↑s.n : Int) == 1, !s.at_ 0 == 1, true, decide (0 < (↑s.n : Int)), true, !decide (s.at_ 0 > 1), true, decide (0 < (↑s.n : Int)), true, !any s.n fun i => bad (s.at_ i), isV (T.slf false s.n fun i => T.int .i64 (s.at_ i)) (isT s.n s.at_), decide (s.n ≤ 281474976710656), !decide ((↑s.n : Int) > 512), !(↑s.n : Int) == 0, !decide (s.entry > 1048576), !decide (s.entry < 1), !decide (s.entry < 1), !decide (s.entry < 1), !decide (s.entry < 1)] then some (.inr (T.int .i64 4)) else
 if allT [decide (s.at_ 1 ≥ 128), true, decide (1 < (↑s.n : Int)), true, !(↑s.n : Int) == 1, !s.at_ 0 == 1, true, decide (0 < (↑s.n : Int)), true, !decide (s.at_ 0 > 1), true, decide (0 < (↑s.n : Int)), true, !any s.n fun i => bad (s.at_ i), isV (T.slf false s.n fun i => T.int .i64 (s.at_ i)) (isT s.n s.at_), decide (s.n ≤ 281474976710656), !decide ((↑s.n : Int) > 512), !(↑s.n : Int) == 0, !decide (s.entry > 1048576), !decide (s.entry < 1), !decide (s.entry < 1), !decide (s.entry < 1), !decide (s.entry < 1)] then some (.inr (T.int .i64 2)) else
 if allT [!decide (s.at_ 1 ≥ 128), true, decide (1 < (↑s.n : Int)), true, !(↑s.n : Int) == 1, !s.at_ 0 == 1, true, decide (0 < (↑s.n : Int)), true, !decide (s.at_ 0 > 1), true, decide (0 < (↑s.n : Int)), true, !any s.n fun i => bad (s.at_ i), isV (T.slf false s.n fun i => T.int .i64 (s.at_ i)) (isT s.n s.at_), decide (s.n ≤ 281474976710656), !decide ((↑s.n : Int) > 512), !(↑s.n : Int) == 0, !decide (s.entry > 1048576), !decide (s.entry < 1), !decide (s.entry < 1), !decide (s.entry < 1), !decide (s.entry < 1)] then some (.inr (T.int .i64 0)) else
 none
theorem run32 (s : Sp) (cx : Cx prog D8 F0) {n : Nat} {o : Empty ⊕ T} {r : T} (h : o32 s = some o) (hr : noM.fin n o = some r) : PureFn prog gl 41 [spT s] r := by
 refine pure_mach (M := noM) (fn := f41) (k := 20) (d := 8) (c := bodyOf f41) cx glFrz (by kernel_rfl) func41 (by kernel_rfl) rfl (by kernel_rfl) (by kernel_rfl) (L := 48) (by kernel_rfl) noM_ways (fun σ => σ.elim) ?_ hr
 unfold o32 at h
 rcases ite_or h with ⟨hk, h⟩ | h
 ·cases h
  exact ⟨2000, _, _, _, _, _, _, w32_s_1 s, hk⟩
 rcases ite_or h with ⟨hk, h⟩ | h
 ·cases h
  exact ⟨2000, _, _, _, _, _, _, w32_s_2 s, hk⟩
 rcases ite_or h with ⟨hk, h⟩ | h
 ·cases h
  exact ⟨2000, _, _, _, _, _, _, w32_s_3 s, hk⟩
 rcases ite_or h with ⟨hk, h⟩ | h
 ·cases h
  exact ⟨2000, _, _, _, _, _, _, w32_s_4 s, hk⟩
 rcases ite_or h with ⟨hk, h⟩ | h
 ·cases h
  exact ⟨2000, _, _, _, _, _, _, w32_s_5 s, hk⟩
 rcases ite_or h with ⟨hk, h⟩ | h
 ·cases h
  exact ⟨2000, _, _, _, _, _, _, w32_s_6 s, hk⟩
 rcases ite_or h with ⟨hk, h⟩ | h
 ·cases h
  exact ⟨2000, _, _, _, _, _, _, w32_s_7 s, hk⟩
 rcases ite_or h with ⟨hk, h⟩ | h
 ·cases h
  exact ⟨2000, _, _, _, _, _, _, w32_s_8 s, hk⟩
 rcases ite_or h with ⟨hk, h⟩ | h
 ·cases h
  exact ⟨2000, _, _, _, _, _, _, w32_s_9 s, hk⟩
 rcases ite_or h with ⟨hk, h⟩ | h
 ·cases h
  exact ⟨2000, _, _, _, _, _, _, w32_s_10 s, hk⟩
 cases h
/-! ### 52 -/
theorem w52_s_1 (m : Nat) (f : Nat → Ln) (s : Sp) : outK prog f75 20 [0, 2, 4, 8, 9, 10] (runK prog D7 F0 2000 (.code (bodyOf f75)) [] 0 ([lsT m f, spT s, .fn (.func 76) [] []] ++ List.replicate 46 undefT) ⟨0, []⟩ [] [])
  = some (OutT.loop 0 (loopAt f75 0).1 (loopAt f75 0).2, [], ⟨0, []⟩, [T.slf false m fun i => lnT (f i), T.fn (Fn.func 76) [] [], (spT s).ref 0, T.int .i64 (↑m : Int), T.int .i64 0, T.int .i64 (↑m : Int)], 49) := by kernel_rfl
def r52_0 (m : Nat) (f : Nat → Ln) (s : Sp) (x8 x9 x10 : Int) (fr : List T) (ds : List Bool) : RD Out := runK prog D7 F0 2000 (.code (loopAt f75 0).1) (.lp :: (loopAt f75 0).2) 0 (frK [0, 2, 4, 8, 9, 10] [T.slf false m fun i => lnT (f i), T.fn (Fn.func 76) [] [], (spT s).ref 0, T.int .i64 x8, T.int .i64 x9, T.int .i64 x10] fr 49) ⟨0, []⟩ ds []
theorem w52_0_1 (m : Nat) (f : Nat → Ln) (s : Sp) (x8 x9 x10 : Int) (fr : List T) : outK prog f75 20 [0, 2, 4, 8, 9, 10] (r52_0 m f s x8 x9 x10 fr [true, true])
  = some (OutT.again 0, [decide (cmpS (f (IntKind.i64.wrap ((IntKind.u64.wrap (IntKind.i64.wrap (x9 + x10))).fdiv (2 ^ 1))).toNat).st s < 0), isV (lnT (f (IntKind.i64.wrap ((IntKind.u64.wrap (IntKind.i64.wrap (x9 + x10))).fdiv (2 ^ 1))).toNat)) (lnT (f (IntKind.i64.wrap ((IntKind.u64.wrap (IntKind.i64.wrap (x9 + x10))).fdiv (2 ^ 1))).toNat)), isV (spT s) (spT s), decide ((f (IntKind.i64.wrap ((IntKind.u64.wrap (IntKind.i64.wrap (x9 + x10))).fdiv (2 ^ 1))).toNat).st.n ≤ 281474976710656), decide (0 ≤ IntKind.i64.wrap ((IntKind.u64.wrap (IntKind.i64.wrap (x9 + x10))).fdiv (2 ^ 1))), decide (IntKind.i64.wrap ((IntKind.u64.wrap (IntKind.i64.wrap (x9 + x10))).fdiv (2 ^ 1)) < (↑m : Int)), true, decide (x9 < x10)], ⟨0, []⟩, [T.slf false m fun i => lnT (f i), T.fn (Fn.func 76) [] [], (spT s).ref 0, T.int .i64 x8, T.int .i64 (IntKind.i64.wrap (IntKind.i64.wrap ((IntKind.u64.wrap (IntKind.i64.wrap (x9 + x10))).fdiv (2 ^ 1)) + 1)), T.int .i64 x10], 49) := by kernel_rfl
theorem w52_0_2 (m : Nat) (f : Nat → Ln) (s : Sp) (x8 x9 x10 : Int) (fr : List T) : outK prog f75 20 [0, 2, 4, 8, 9, 10] (r52_0 m f s x8 x9 x10 fr [true, false])
  = some (OutT.again 0, [!decide (cmpS (f (IntKind.i64.wrap ((IntKind.u64.wrap (IntKind.i64.wrap (x9 + x10))).fdiv (2 ^ 1))).toNat).st s < 0), isV (lnT (f (IntKind.i64.wrap ((IntKind.u64.wrap (IntKind.i64.wrap (x9 + x10))).fdiv (2 ^ 1))).toNat)) (lnT (f (IntKind.i64.wrap ((IntKind.u64.wrap (IntKind.i64.wrap (x9 + x10))).fdiv (2 ^ 1))).toNat)), isV (spT s) (spT s), decide ((f (IntKind.i64.wrap ((IntKind.u64.wrap (IntKind.i64.wrap (x9 + x10))).fdiv (2 ^ 1))).toNat).st.n ≤ 281474976710656), decide (0 ≤ IntKind.i64.wrap ((IntKind.u64.wrap (IntKind.i64.wrap (x9 + x10))).fdiv (2 ^ 1))), decide (IntKind.i64.wrap ((IntKind.u64.wrap (IntKind.i64.wrap (x9 + x10))).fdiv (2 ^ 1)) < (↑m : Int)), true, decide (x9 < x10)], ⟨0, []⟩, [T.slf false m fun i => lnT (f i), T.fn (Fn.func 76) [] [], (spT s).ref 0, T.int .i64 x8, T.int .i64 x9, T.int .i64 (IntKind.i64.wrap ((IntKind.u64.wrap (IntKind.i64.wrap (x9 + x10))).fdiv (2 ^ 1)))], 49) := by kernel_rfl
theorem w52_0_3 (m : Nat) (f : Nat → Ln) (s : Sp) (x8 x9 x10 : Int) (fr : List T) : outK prog f75 20 [] (r52_0 m f s x8 x9 x10 fr (bt 10 1022))
  = some (OutT.done (some (T.tup [T.int .i64 x9, T.bool (cmpS (f x9.toNat).st s == 0)])), [decide (x9 < x8), decide (x9 < x8), isV (lnT (f x9.toNat)) (lnT (f x9.toNat)), isV (spT s) (spT s), decide ((f x9.toNat).st.n ≤ 281474976710656), decide (x9 < x8), decide (x9 < x8), decide (x9 < x8), decide (0 ≤ x9), decide (x9 < (↑m : Int)), true, decide (x9 < x8), decide (x9 < x8), decide (x9 < x8), decide (x9 < x8), !decide (x9 < x10)], ⟨0, []⟩, [], 0) := by kernel_rfl
theorem w52_0_4 (m : Nat) (f : Nat → Ln) (s : Sp) (x8 x9 x10 : Int) (fr : List T) : outK prog f75 20 [] (r52_0 m f s x8 x9 x10 fr (bt 10 0))
  = some (OutT.done (some (T.tup [T.int .i64 x9, T.bool false])), [!decide (x9 < x8), !decide (x9 < x8), !decide (x9 < x8), !decide (x9 < x8), !decide (x9 < x8), !decide (x9 < x8), !decide (x9 < x8), !decide (x9 < x8), !decide (x9 < x8), !decide (x9 < x10)], ⟨0, []⟩, [], 0) := by kernel_rfl
inductive S52 where
 | l0 (x8 x9 x10 : Int)
def step52_0 (m : Nat) (f : Nat → Ln) (s : Sp) (x8 x9 x10 : Int) : Option (S52 ⊕ T) :=
 if allT [decide (cmpS (f (IntKind.i64.wrap ((IntKind.u64.wrap (IntKind.i64.wrap (x9 + x10))).fdiv (2 ^ 1))).toNat).st s < 0), isV (lnT (f (IntKind.i64.wrap ((IntKind.u64.wrap (IntKind.i64.wrap (x9 + x10))).fdiv (2 ^ 1))).toNat)) (lnT (f (IntKind.i64.wrap ((IntKind.u64.wrap (IntKind.i64.wrap (x9 + x10))).fdiv (2 ^ 1))).toNat)), isV (spT s) (spT s), decide ((f (IntKind.i64.wrap ((IntKind.u64.wrap (IntKind.i64.wrap (x9 + x10))).fdiv (2 ^ 1))).toNat).st.n ≤ 281474976710656), decide (0 ≤ IntKind.i64.wrap ((IntKind.u64.wrap (IntKind.i64.wrap (x9 + x10))).fdiv (2 ^ 1))), decide (IntKind.i64.wrap ((IntKind.u64.wrap (IntKind.i64.wrap (x9 + x10))).fdiv (2 ^ 1)) < (↑m : Int)), true, decide (x9 < x10)] then some (.inl (.l0 x8 (IntKind.i64.wrap (IntKind.i64.wrap ((IntKind.u64.wrap (IntKind.i64.wrap (x9 + x10))).fdiv (2 ^ 1)) + 1)) x10)) else
 if allT [!decide (cmpS (f (IntKind.i64.wrap ((IntKind.u64.wrap (IntKind.i64.wrap (x9 + x10))).fdiv (2 ^ 1))).toNat).st s < 0), isV (lnT (f (IntKind.i64.wrap ((IntKind.u64.wrap (IntKind.i64.wrap (x9 + x10))).fdiv (2 ^ 1))).toNat)) (lnT (f (IntKind.i64.wrap ((IntKind.u64.wrap (IntKind.i64.wrap (x9 + x10))).fdiv (2 ^ 1))).toNat)), isV (spT s) (spT s), decide ((f (IntKind.i64.wrap ((IntKind.u64.wrap (IntKind.i64.wrap (x9 + x10))).fdiv (2 ^ 1))).toNat).st.n ≤ 281474976710656), decide (0 ≤ IntKind.i64.wrap ((IntKind.u64.wrap (IntKind.i64.wrap (x9 + x10))).fdiv (2 ^ 1))), decide (IntKind.i64.wrap ((IntKind.u64.wrap (IntKind.i64.wrap (x9 + x10))).fdiv (2 ^ 1)) < (↑m : Int)), true, decide (x9 < x10)] then some (.inl (.l0 x8 x9 (IntKind.i64.wrap ((IntKind.u64.wrap (IntKind.i64.wrap (x9 + x10))).fdiv (2 ^ 1))))) else
 if allT [decide (x9 < x8), decide (x9 < x8), isV (lnT (f x9.toNat)) (lnT (f x9.toNat)), isV (spT s) (spT s), decide ((f x9.toNat).st.n ≤ 281474976710656), decide (x9 < x8), decide (x9 < x8), decide (x9 < x8), decide (0 ≤ x9), decide (x9 < (↑m : Int)), true, decide (x9 < x8), decide (x9 < x8), decide (x9 < x8), decide (x9 < x8), !decide (x9 < x10)] then some (.inr (T.tup [T.int .i64 x9, T.bool (cmpS (f x9.toNat).st s == 0)])) else
 if allT [!decide (x9 < x8), !decide (x9 < x8), !decide (x9 < x8), !decide (x9 < x8), !decide (x9 < x8), !decide (x9 < x8), !decide (x9 < x8), !decide (x9 < x8), !decide (x9 < x8), !decide (x9 < x10)] then some (.inr (T.tup [T.int .i64 x9, T.bool false])) else
 none
def step52 (m : Nat) (f : Nat → Ln) (s : Sp) : S52 → Option (S52 ⊕ T)
 | .l0 x8 x9 x10 => step52_0 m f s x8 x9 x10
def M52 (m : Nat) (f : Nat → Ln) (s : Sp) : Mch S52 where
 lp := fun σ => match σ with
  | .l0 .. => 0
 keep := fun ι => match ι with
  | 0 => [0, 2, 4, 8, 9, 10]
  | _ => []
 par := fun ι => match ι with
  | 0 => []
  | _ => []
 vs := fun σ => match σ with
  | .l0 x8 x9 x10 => [T.slf false m fun i => lnT (f i), T.fn (Fn.func 76) [] [], (spT s).ref 0, T.int .i64 x8, T.int .i64 x9, T.int .i64 x10]
 hp := fun σ => match σ with
  | .l0 _ _ _ => ⟨0, []⟩
 len := 49
 step := step52 m f s
theorem ways52 (m : Nat) (f : Nat → Ln) (s : Sp) : (M52 m f s).Ways prog D7 F0 f75 20 := by
 intro σ o fr h
 cases σ with
 | l0 x8 x9 x10 =>
  change step52_0 m f s x8 x9 x10 = some o at h
  unfold step52_0 at h
  rcases ite_or h with ⟨hk, h⟩ | h
  ·cases h
   exact .inl ⟨2000, _, _, _, w52_0_1 m f s x8 x9 x10 fr, hk, rfl⟩
  rcases ite_or h with ⟨hk, h⟩ | h
  ·cases h
   exact .inl ⟨2000, _, _, _, w52_0_2 m f s x8 x9 x10 fr, hk, rfl⟩
  rcases ite_or h with ⟨hk, h⟩ | h
  ·cases h
   exact ⟨2000, _, _, _, _, _, _, w52_0_3 m f s x8 x9 x10 fr, hk⟩
  rcases ite_or h with ⟨hk, h⟩ | h
  ·cases h
   exact ⟨2000, _, _, _, _, _, _, w52_0_4 m f s x8 x9 x10 fr, hk⟩
  cases h
theorem oks52 (m : Nat) (f : Nat → Ln) (s : Sp) : ∀ σ, Ps.codeOk (loopAt f75 ((M52 m f s).lp σ)).1 = true ∧ ksOk (.lp :: (loopAt f75 ((M52 m f s).lp σ)).2) = true := oks_of 1 (by kernel_rfl) (by intro σ; cases σ <;> exact Nat.le_of_ble_eq_true rfl)
def o52 (m : Nat) (f : Nat → Ln) (s : Sp) : Option (S52 ⊕ T) :=
 if allT [] then some (.inl (.l0 (↑m : Int) 0 (↑m : Int))) else
 none
theorem run52 (m : Nat) (f : Nat → Ln) (s : Sp) (cx : Cx prog D7 F0) {n : Nat} {o : S52 ⊕ T} {r : T} (h : o52 m f s = some o) (hr : (M52 m f s).fin n o = some r) : PureFn prog gl 75 [lsT m f, spT s, .fn (.func 76) [] []] r := by
 refine pure_mach (M := (M52 m f s)) (fn := f75) (k := 20) (d := 8) (c := bodyOf f75) cx glFrz (by kernel_rfl) func75 (by kernel_rfl) rfl (by kernel_rfl) (by kernel_rfl) (L := 46) (by kernel_rfl) (ways52 m f s) (oks52 m f s) ?_ hr
 unfold o52 at h
 rcases ite_or h with ⟨hk, h⟩ | h
 ·cases h
  exact .inr ⟨2000, _, _, _, w52_s_1 m f s, hk, rfl⟩
 cases h
/-! ### 36 -/
theorem w36_s_1 (m : Nat) (f : Nat → Ln) (s : Sp) : outK prog f54 20 [] (runK prog D8 F0 2000 (.code (bodyOf f54)) [] 0 ([lsT m f, spT s] ++ List.replicate 9 undefT) ⟨0, []⟩ [] [])
  = some (OutT.done (some (T.tup [T.int .i64 (↑(bs m fun i => cmpS (f i).st s) : Int), T.bool (found m fun i => cmpS (f i).st s)])), [isV (T.slf false m fun i => lnT (f i)) (lsT m f), isV (spT s) (spT s), modestB m f], ⟨0, []⟩, [], 0) := by kernel_rfl
def o36 (m : Nat) (f : Nat → Ln) (s : Sp) : Option (Empty ⊕ T) :=
 if allT [isV (T.slf false m fun i => lnT (f i)) (lsT m f), isV (spT s) (spT s), modestB m f] then some (.inr (T.tup [T.int .i64 (↑(bs m fun i => cmpS (f i).st s) : Int), T.bool (found m fun i => cmpS (f i).st s)])) else
 none
theorem run36 (m : Nat) (f : Nat → Ln) (s : Sp) (cx : Cx prog D8 F0) {n : Nat} {o : Empty ⊕ T} {r : T} (h : o36 m f s = some o) (hr : noM.fin n o = some r) : PureFn prog gl 54 [lsT m f, spT s] r := by
 refine pure_mach (M := noM) (fn := f54) (k := 20) (d := 8) (c := bodyOf f54) cx glFrz (by kernel_rfl) func54 (by kernel_rfl) rfl (by kernel_rfl) (by kernel_rfl) (L := 9) (by kernel_rfl) noM_ways (fun σ => σ.elim) ?_ hr
 unfold o36 at h
 rcases ite_or h with ⟨hk, h⟩ | h
 ·cases h
  exact ⟨2000, _, _, _, _, _, _, w36_s_1 m f s, hk⟩
 cases h
/-! ### 41 -/
theorem w41_s_1 (m : Nat) (f : Nat → Ln) (s : Sp) : outK prog f44 20 [0, 3, 5] (runK prog D7 F0 2000 (.code (bodyOf f44)) [] 0 ([lsT m f, spT s] ++ List.replicate 18 undefT) ⟨0, []⟩ [] [])
  = some (OutT.loop 0 (loopAt f44 0).1 (loopAt f44 0).2, [], ⟨0, []⟩, [T.slf false m fun i => lnT (f i), (spT s).ref 0, T.int .i64 0], 20) := by kernel_rfl
def r41_0 (m : Nat) (f : Nat → Ln) (s : Sp) (x5 : Int) (fr : List T) (ds : List Bool) : RD Out := runK prog D7 F0 2000 (.code (loopAt f44 0).1) (.lp :: (loopAt f44 0).2) 0 (frK [0, 3, 5] [T.slf false m fun i => lnT (f i), (spT s).ref 0, T.int .i64 x5] fr 20) ⟨0, []⟩ ds []
theorem w41_0_1 (m : Nat) (f : Nat → Ln) (s : Sp) (x5 : Int) (fr : List T) : outK prog f44 20 [] (r41_0 m f s x5 fr [true, true])
  = some (OutT.done (some (T.int .i64 x5)), [eqS (f x5.toNat).st s, isV (spT (f x5.toNat).st) (spT (f x5.toNat).st), isV (spT s) (spT s), decide ((f x5.toNat).st.n ≤ 281474976710656), decide (0 ≤ x5), decide (x5 < (↑m : Int)), true, decide (x5 < (↑m : Int))], ⟨0, []⟩, [], 0) := by kernel_rfl
theorem w41_0_2 (m : Nat) (f : Nat → Ln) (s : Sp) (x5 : Int) (fr : List T) : outK prog f44 20 [0, 3, 5] (r41_0 m f s x5 fr [true, false])
  = some (OutT.again 0, [!eqS (f x5.toNat).st s, isV (spT (f x5.toNat).st) (spT (f x5.toNat).st), isV (spT s) (spT s), decide ((f x5.toNat).st.n ≤ 281474976710656), decide (0 ≤ x5), decide (x5 < (↑m : Int)), true, decide (x5 < (↑m : Int))], ⟨0, []⟩, [T.slf false m fun i => lnT (f i), (spT s).ref 0, T.int .i64 (IntKind.i64.wrap (x5 + 1))], 20) := by kernel_rfl
theorem w41_0_3 (m : Nat) (f : Nat → Ln) (s : Sp) (x5 : Int) (fr : List T) : outK prog f44 20 [] (r41_0 m f s x5 fr [false])
  = some (OutT.done (some (T.int .i64 (-1))), [!decide (x5 < (↑m : Int))], ⟨0, []⟩, [], 0) := by kernel_rfl
inductive S41 where
 | l0 (x5 : Int)
def step41_0 (m : Nat) (f : Nat → Ln) (s : Sp) (x5 : Int) : Option (S41 ⊕ T) :=
 if allT [eqS (f x5.toNat).st s, isV (spT (f x5.toNat).st) (spT (f x5.toNat).st), isV (spT s) (spT s), decide ((f x5.toNat).st.n ≤ 281474976710656), decide (0 ≤ x5), decide (x5 < (↑m : Int)), true, decide (x5 < (↑m : Int))] then some (.inr (T.int .i64 x5)) else
 if allT [!eqS (f x5.toNat).st s, isV (spT (f x5.toNat).st) (spT (f x5.toNat).st), isV (spT s) (spT s), decide ((f x5.toNat).st.n ≤ 281474976710656), decide (0 ≤ x5), decide (x5 < (↑m : Int)), true, decide (x5 < (↑m : Int))] then some (.inl (.l0 (IntKind.i64.wrap (x5 + 1)))) else
 if allT [!decide (x5 < (↑m : Int))] then some (.inr (T.int .i64 (-1))) else
 none
def step41 (m : Nat) (f : Nat → Ln) (s : Sp) : S41 → Option (S41 ⊕ T)
 | .l0 x5 => step41_0 m f s x5
def M41 (m : Nat) (f : Nat → Ln) (s : Sp) : Mch S41 where
 lp := fun σ => match σ with
  | .l0 .. => 0
 keep := fun ι => match ι with
  | 0 => [0, 3, 5]
  | _ => []
 par := fun ι => match ι with
  | 0 => []
  | _ => []
 vs := fun σ => match σ with
  | .l0 x5 => [T.slf false m fun i => lnT (f i), (spT s).ref 0, T.int .i64 x5]
 hp := fun σ => match σ with
  | .l0 _ => ⟨0, []⟩
 len := 20
 step := step41 m f s
theorem ways41 (m : Nat) (f : Nat → Ln) (s : Sp) : (M41 m f s).Ways prog D7 F0 f44 20 := by
 intro σ o fr h
 cases σ with
 | l0 x5 =>
  change step41_0 m f s x5 = some o at h
  unfold step41_0 at h
  rcases ite_or h with ⟨hk, h⟩ | h
  ·cases h
   exact ⟨2000, _, _, _, _, _, _, w41_0_1 m f s x5 fr, hk⟩
  rcases ite_or h with ⟨hk, h⟩ | h
  ·cases h
   exact .inl ⟨2000, _, _, _, w41_0_2 m f s x5 fr, hk, rfl⟩
  rcases ite_or h with ⟨hk, h⟩ | h
  ·cases h
   exact ⟨2000, _, _, _, _, _, _, w41_0_3 m f s x5 fr, hk⟩
  cases h
theorem oks41 (m : Nat) (f : Nat → Ln) (s : Sp) : ∀ σ, Ps.codeOk (loopAt f44 ((M41 m f s).lp σ)).1 = true ∧ ksOk (.lp :: (loopAt f44 ((M41 m f s).lp σ)).2) = true := oks_of 1 (by kernel_rfl) (by intro σ; cases σ <;> exact Nat.le_of_ble_eq_true rfl)
def o41 (m : Nat) (f : Nat → Ln) (s : Sp) : Option (S41 ⊕ T) :=
 if allT [] then some (.inl (.l0 0)) else
 none
theorem run41 (m : Nat) (f : Nat → Ln) (s : Sp) (cx : Cx prog D7 F0) {n : Nat} {o : S41 ⊕ T} {r : T} (h : o41 m f s = some o) (hr : (M41 m f s).fin n o = some r) : PureFn prog gl 44 [lsT m f, spT s] r := by
 refine pure_mach (M := (M41 m f s)) (fn := f44) (k := 20) (d := 8) (c := bodyOf f44) cx glFrz (by kernel_rfl) func44 (by kernel_rfl) rfl (by kernel_rfl) (by kernel_rfl) (L := 18) (by kernel_rfl) (ways41 m f s) (oks41 m f s) ?_ hr
 unfold o41 at h
 rcases ite_or h with ⟨hk, h⟩ | h
 ·cases h
  exact .inr ⟨2000, _, _, _, w41_s_1 m f s, hk, rfl⟩
 cases h
end
end Go.Proofs.Tryz

/- What the functions on stamps compute: proved. -/
namespace Go.Proofs.Tryz
noncomputable section
open Go.Ps
set_option maxRecDepth 100000
/-! ### 48 -/
theorem w48_s_1 (m : Nat) (f : Nat → Int) : outK prog f63 20 [3, 6, 7, 8] (runK prog D0 F0 2000 (.code (bodyOf f63)) [] 0 ([.slf true m (fun i => .int .i64 (f i))] ++ List.replicate 17 undefT) ⟨0, []⟩ [] [])
  = some (OutT.loop 0 (loopAt f63 0).1 (loopAt f63 0).2, [], ⟨0, []⟩, [T.int IntKind.i64 0, T.slf true m fun i => T.int IntKind.i64 (f i), T.int IntKind.i64 (↑m : Int), T.int IntKind.i64 0], 18) := by kernel_rfl
theorem w48_0_1 (m : Nat) (f : Nat → Int) (x3 x7 x8 : Int) (fr : List T) : outK prog f63 20 [] (runK prog D0 F0 2000 (.code (loopAt f63 0).1) (.lp :: (loopAt f63 0).2) 0 (frK [3, 6, 7, 8] [T.int IntKind.i64 x3, T.slf true m fun i => T.int IntKind.i64 (f i), T.int IntKind.i64 x7, T.int IntKind.i64 x8] fr 18) ⟨0, []⟩ [true, true] [])
  = some (OutT.done (some (T.int IntKind.i64 (f x8.toNat))), [f x8.toNat != x3, decide (0 ≤ x8), decide (x8 < (↑m : Int)), true, decide (x8 < x7)], ⟨0, []⟩, [], 0) := by kernel_rfl
theorem w48_0_2 (m : Nat) (f : Nat → Int) (x3 x7 x8 : Int) (fr : List T) : outK prog f63 20 [3, 6, 7, 8] (runK prog D0 F0 2000 (.code (loopAt f63 0).1) (.lp :: (loopAt f63 0).2) 0 (frK [3, 6, 7, 8] [T.int IntKind.i64 x3, T.slf true m fun i => T.int IntKind.i64 (f i), T.int IntKind.i64 x7, T.int IntKind.i64 x8] fr 18) ⟨0, []⟩ [true, false] [])
  = some (OutT.again 0, [!f x8.toNat != x3, decide (0 ≤ x8), decide (x8 < (↑m : Int)), true, decide (x8 < x7)], ⟨0, []⟩, [T.int IntKind.i64 x3, T.slf true m fun i => T.int IntKind.i64 (f i), T.int IntKind.i64 x7, T.int IntKind.i64 (IntKind.i64.wrap (x8 + 1))], 18) := by kernel_rfl
theorem w48_0_3 (m : Nat) (f : Nat → Int) (x3 x7 x8 : Int) (fr : List T) : outK prog f63 20 [] (runK prog D0 F0 2000 (.code (loopAt f63 0).1) (.lp :: (loopAt f63 0).2) 0 (frK [3, 6, 7, 8] [T.int IntKind.i64 x3, T.slf true m fun i => T.int IntKind.i64 (f i), T.int IntKind.i64 x7, T.int IntKind.i64 x8] fr 18) ⟨0, []⟩ [false] [])
  = some (OutT.done (some (T.int IntKind.i64 x3)), [!decide (x8 < x7)], ⟨0, []⟩, [], 0) := by kernel_rfl
inductive S48 where
 | l0 (x3 x7 x8 : Int)
def step48_0 (m : Nat) (f : Nat → Int) (x3 x7 x8 : Int) : Option (S48 ⊕ T) :=
 if allT [f x8.toNat != x3, decide (0 ≤ x8), decide (x8 < (↑m : Int)), true, decide (x8 < x7)] then some (.inr (T.int IntKind.i64 (f x8.toNat))) else
 if allT [!f x8.toNat != x3, decide (0 ≤ x8), decide (x8 < (↑m : Int)), true, decide (x8 < x7)] then some (.inl (.l0 x3 x7 (IntKind.i64.wrap (x8 + 1)))) else
 if allT [!decide (x8 < x7)] then some (.inr (T.int IntKind.i64 x3)) else
 none
def step48 (m : Nat) (f : Nat → Int) : S48 → Option (S48 ⊕ T)
 | .l0 x3 x7 x8 => step48_0 m f x3 x7 x8
def M48 (m : Nat) (f : Nat → Int) : Mch S48 where
 lp := fun σ => match σ with
  | .l0 .. => 0
 keep := fun ι => match ι with
  | 0 => [3, 6, 7, 8]
  | _ => []
 par := fun ι => match ι with
  | 0 => []
  | _ => []
 vs := fun σ => match σ with
  | .l0 x3 x7 x8 => [T.int IntKind.i64 x3, T.slf true m fun i => T.int IntKind.i64 (f i), T.int IntKind.i64 x7, T.int IntKind.i64 x8]
 hp := fun σ => match σ with
  | .l0 _ _ _ => ⟨0, []⟩
 len := 18
 step := step48 m f
theorem ways48 (m : Nat) (f : Nat → Int) : (M48 m f).Ways prog D0 F0 f63 20 := by
 intro σ o fr h
 cases σ with
 | l0 x3 x7 x8 =>
  change step48_0 m f x3 x7 x8 = some o at h
  unfold step48_0 at h
  rcases ite_or h with ⟨hk, h⟩ | h
  ·cases h
   exact ⟨2000, _, _, _, _, _, _, w48_0_1 m f x3 x7 x8 fr, hk⟩
  rcases ite_or h with ⟨hk, h⟩ | h
  ·cases h
   exact .inl ⟨2000, _, _, _, w48_0_2 m f x3 x7 x8 fr, hk, rfl⟩
  rcases ite_or h with ⟨hk, h⟩ | h
  ·cases h
   exact ⟨2000, _, _, _, _, _, _, w48_0_3 m f x3 x7 x8 fr, hk⟩
  cases h
theorem oks48 (m : Nat) (f : Nat → Int) : ∀ σ, codeOk (loopAt f63 ((M48 m f).lp σ)).1 = true ∧ ksOk (.lp :: (loopAt f63 ((M48 m f).lp σ)).2) = true := by
 intro σ
 cases σ
 ·exact ⟨(show codeOk (loopAt f63 0).1 = true by kernel_rfl), (show ksOk (.lp :: (loopAt f63 0).2) = true by kernel_rfl)⟩
def o48 (m : Nat) (f : Nat → Int) : Option (S48 ⊕ T) :=
 if allT [] then some (.inl (.l0 0 (↑m : Int) 0)) else
 none
theorem run48 (m : Nat) (f : Nat → Int) {n : Nat} {o : S48 ⊕ T} {r : T} (h : o48 m f = some o) (hr : (M48 m f).fin n o = some r) : PureFn prog gl 63 [.slf true m (fun i => .int .i64 (f i))] r := by
 refine pure_mach (M := (M48 m f)) (fn := f63) (k := 20) (d := 8) (c := bodyOf f63) cx0 glFrz (by kernel_rfl) func63 (by kernel_rfl) rfl (by kernel_rfl) (by kernel_rfl) (L := 17) (by kernel_rfl) (ways48 m f) (oks48 m f) ?_ hr
 unfold o48 at h
 rcases ite_or h with ⟨hk, h⟩ | h
 ·cases h
  exact .inr ⟨2000, _, _, _, w48_s_1 m f, hk, rfl⟩
 cases h
theorem wsucc (i : Nat) (h : i < 4611686018427387904) : IntKind.i64.wrap ((i : Int) + 1) = ((i + 1 : Nat) : Int) := by
 rw [IntWalk.i64_in _ (by omega)]; omega
theorem args_of {f : FuncId} {ts ts' : List T} {r : T} (h : PureFn prog gl f ts' r) (k : ∀ g vs, RdL g vs ts → RdL g vs ts') : PureFn prog gl f ts r :=
 ⟨h.1, fun g vs hg hN hgl hv => h.2 g vs hg hN hgl (k g vs hv)⟩
/-! ### cmp.Or -/
theorem c48 (x y : Int) : PureFn prog gl 63 [.sl true [.int .i64 x, .int .i64 y]] (.int .i64 (if x ≠ 0 then x else y)) := by
 have key : PureFn prog gl 63 [.slf true 2 (fun i => .int .i64 (if i = 0 then x else y))] (.int .i64 (if x ≠ 0 then x else y)) := by
  refine run48 2 (fun i => if i = 0 then x else y) (n := 4) (o := .inl (.l0 0 2 0)) (by simp [o48, allT]) ?_
  show (M48 2 _).run 4 _ = _
  by_cases h : x = 0
  ·by_cases h' : y = 0
   ·simp [Mch.run, M48, step48, step48_0, allT, h, h', show IntKind.i64.wrap 1 = 1 from rfl, show IntKind.i64.wrap 2 = 2 from rfl]
   ·simp [Mch.run, M48, step48, step48_0, allT, h, h', show IntKind.i64.wrap 1 = 1 from rfl]
  ·simp [Mch.run, M48, step48, step48_0, allT, h]
 refine args_of key fun g vs hv => ?_
 match vs, hv with
 | [v], hv =>
  obtain ⟨h1, _⟩ := hv.inv_cons
  refine RdL.cons (rd_slf h1 (by simp [scal1]) rfl (fun i hi => ?_)) RdL.nil
  match i, hi with
  | 0, _ => rfl
  | 1, _ => rfl
 | [], hv => exact absurd hv.1 (by simp)
 | _ :: _ :: _, hv => exact absurd hv.1 (by simp)
theorem c49 (x y : Int) : PureFn prog gl 64 [.int .i64 x, .int .i64 y] (.int .i64 (cmpI x y)) := by
 unfold cmpI
 by_cases h1 : x < y
 ·rw [if_pos h1]; exact run49 x y cx2 (n := 0) (o := .inr (.int .i64 (-1))) (by simp [o49, allT, h1]) rfl
 ·by_cases h2 : x > y
  ·rw [if_neg h1, if_pos h2]; exact run49 x y cx2 (n := 0) (o := .inr (.int .i64 1)) (by simp [o49, allT, h1, h2]) rfl
  ·rw [if_neg h1, if_neg h2]; exact run49 x y cx2 (n := 0) (o := .inr (.int .i64 0)) (by simp [o49, allT, h1, h2]) rfl
theorem s49_ok (ts : List T) (r : T) (cs : List Bool) (h : s49 ts = some (r, cs)) (_ : allT cs = true) : PureFn prog gl 64 ts r := by
 unfold s49 at h; split at h
 ·cases h; exact c49 _ _
 ·cases h
theorem s48_ok (ts : List T) (r : T) (cs : List Bool) (h : s48 ts = some (r, cs)) (_ : allT cs = true) : PureFn prog gl 63 ts r := by
 unfold s48 at h; split at h
 ·cases h; exact c48 _ _
 ·cases h
theorem cx3 : Cx prog D3 F0 := ⟨follows, pdAdd_ok (pdAdd_ok cx2.hE s48_ok) s49_ok, F0ok⟩
theorem s51_ok (ts : List T) (r : T) (cs : List Bool) (h : s49 ts = some (r, cs)) (_ : allT cs = true) : PureFn prog gl 66 ts r := by
 unfold s49 at h; split at h
 ·cases h; exact run51 _ _ cx3 (n := 0) (o := .inr _) (by unfold o51; exact if_pos rfl) rfl
 ·cases h
theorem cx4 : Cx prog D4 F0 := ⟨follows, pdAdd_ok cx3.hE s51_ok, F0ok⟩
/-! ### slices.CompareFunc -/
theorem run50_eq (n1 n2 : Nat) (f g : Nat → Int) (hn : n1 ≤ 281474976710656) : ∀ (k i : Nat), k + i = n1 → (M50 n1 n2 f g).run (k + 1) (.l0 n1 i) = some (.int .i64 (cmpR n1 n2 f g k i)) := by
 intro k
 induction k with
 | zero =>
  intro i hi
  have h1 : ¬ ((i : Int) < n1) := by omega
  rw [Mch.run_succ]
  show (step50_0 n1 n2 f g n1 i).bind ((M50 n1 n2 f g).fin 0) = _
  unfold step50_0 cmpR
  by_cases h2 : n1 < n2
  ·simp [allT, h1, h2]
  ·simp [allT, h1, h2]
 | succ k ih =>
  intro i hi
  have h1 : ((i : Int) < n1) := by omega
  have h1' : i < n1 := by omega
  have h2 := wsucc i (by omega)
  rw [Mch.run_succ]
  show (step50_0 n1 n2 f g n1 i).bind ((M50 n1 n2 f g).fin (k + 1)) = _
  unfold step50_0 cmpR
  rw [h2, Int.toNat_natCast]
  by_cases h3 : n2 ≤ i
  ·have h3' : ((i : Int) ≥ n2) := by omega
   rw [if_pos h3, if_pos (by simp [allT, h3, h1'])]; rfl
  ·have h3' : ¬ ((i : Int) ≥ n2) := by omega
   have h4 : i < n2 := by omega
   rw [if_neg h3, if_neg (by simp [allT, h3])]
   by_cases h5 : cmpI (f i) (g i) = 0
   ·rw [if_neg (by simp [allT, h5]), if_pos (by simp [allT, h5, h3, h4, h1']), if_neg (by simp [h5])]
    exact ih (i + 1) (by omega)
   ·rw [if_pos (by simp [allT, h5, h3, h4, h1']), if_pos (by simp [h5])]; rfl
theorem c50 (n1 n2 : Nat) (f g : Nat → Int) (hn : n1 ≤ 281474976710656) : PureFn prog gl 65 [isT n1 f, isT n2 g, .fn (.func 66) [] []] (.int .i64 (cmpP n1 f n2 g)) :=
 run50 n1 n2 f g cx4 (n := n1 + 1) (o := .inl (.l0 n1 (0 : Nat))) (by simp [o50, allT]) (run50_eq n1 n2 f g hn n1 0 rfl)
theorem s50_ok (ts : List T) (r : T) (cs : List Bool) (h : s50 ts = some (r, cs)) (k : allT cs = true) : PureFn prog gl 65 ts r := by
 unfold s50 at h; split at h
 ·cases h
  simp only [allT, Bool.and_true, Bool.and_eq_true, isV_iff, decide_eq_true_eq] at k
  rw [k.1, k.2.1]; exact c50 _ _ _ _ k.2.2
 ·cases h
theorem cx5 : Cx prog D5 F0 := ⟨follows, pdAdd_ok cx4.hE s50_ok, F0ok⟩
theorem c33 (a b : Sp) (h : a.n ≤ 281474976710656) : PureFn prog gl 42 [spT a, spT b] (.int .i64 (cmpS a b)) :=
 run33 a b cx5 (n := 0) (o := .inr _) (by unfold o33; exact if_pos (by simp [allT, isT, h])) rfl
theorem s33_ok (ts : List T) (r : T) (cs : List Bool) (h : s33 ts = some (r, cs)) (k : allT cs = true) : PureFn prog gl 42 ts r := by
 unfold s33 at h; split at h
 ·cases h
  simp only [allT, Bool.and_true, Bool.and_eq_true, isV_iff, decide_eq_true_eq] at k
  rw [k.1, k.2.1]; exact c33 _ _ k.2.2
 ·cases h
theorem cx6 : Cx prog D6 F0 := ⟨follows, pdAdd_ok cx5.hE s33_ok, F0ok⟩
theorem s62_ok (ts : List T) (r : T) (cs : List Bool) (h : s62 ts = some (r, cs)) (k : allT cs = true) : PureFn prog gl 51 ts r := by
 unfold s62 at h; split at h
 ·cases h
  simp only [allT, Bool.and_true, Bool.and_eq_true, isV_iff, decide_eq_true_eq] at k
  rw [k.1, k.2.1]; exact run62 _ _ cx6 (n := 0) (o := .inr _) (by unfold o62; exact if_pos (by simp [allT, spT, k.2.2])) rfl
 ·cases h
theorem s53_ok (ts : List T) (r : T) (cs : List Bool) (h : s53 ts = some (r, cs)) (k : allT cs = true) : PureFn prog gl 76 ts r := by
 unfold s53 at h; split at h
 ·cases h
  simp only [allT, Bool.and_true, Bool.and_eq_true, isV_iff, decide_eq_true_eq] at k
  rw [k.1, k.2.1]; exact run53 _ _ cx6 (n := 0) (o := .inr _) (by unfold o53; exact if_pos (by simp [allT, spT, k.2.2])) rfl
 ·cases h
/-! ### slices.IndexFunc -/
theorem run54a_eq (m : Nat) (f : Nat → Int) (hn : m ≤ 281474976710656) : ∀ (k i : Nat), k + i = m → (M54a m f).run (k + 1) (.l0 m i) = some (.int .i64 (idxR (fun i => bad (f i)) k i)) := by
 intro k
 induction k with
 | zero =>
  intro i hi
  have h1 : ¬ ((i : Int) < m) := by omega
  rw [Mch.run_succ]
  show (step54a_0 m f m i).bind ((M54a m f).fin 0) = _
  unfold step54a_0 idxR
  simp [allT, h1]
 | succ k ih =>
  intro i hi
  have h1 : ((i : Int) < m) := by omega
  rw [Mch.run_succ]
  show (step54a_0 m f m i).bind ((M54a m f).fin (k + 1)) = _
  unfold step54a_0 idxR
  rw [wsucc i (by omega), Int.toNat_natCast, decide_eq_true h1, decide_eq_true (show (0 : Int) ≤ i by omega)]
  cases hb : bad (f i)
  ·simp only [allT]
   exact ih (i + 1) (by omega)
  ·simp [allT]
theorem run54b_eq (m : Nat) (f : Nat → Int) (c : Ct) (hn : m ≤ 281474976710656) (hf : ∀ i, i < m → 0 ≤ f i ∧ f i < c.n) : ∀ (k i : Nat), k + i = m → (M54b m f c).run (k + 1) (.l0 m i) = some (.int .i64 (idxR (fun i => ((c.line (f i).toNat).k : Int) != 1) k i)) := by
 intro k
 induction k with
 | zero =>
  intro i hi
  have h1 : ¬ ((i : Int) < m) := by omega
  rw [Mch.run_succ]
  show (step54b_0 m f c m i).bind ((M54b m f c).fin 0) = _
  unfold step54b_0 idxR
  simp [allT, h1]
 | succ k ih =>
  intro i hi
  have h1 : ((i : Int) < m) := by omega
  obtain ⟨h3, h4⟩ := hf i (by omega)
  rw [Mch.run_succ]
  show (step54b_0 m f c m i).bind ((M54b m f c).fin (k + 1)) = _
  unfold step54b_0 idxR
  rw [wsucc i (by omega), Int.toNat_natCast, decide_eq_true h1, decide_eq_true (show (0 : Int) ≤ i by omega), decide_eq_true h3, decide_eq_true h4]
  cases hb : (((c.line (f i).toNat).k : Int) != 1)
  ·simp only [allT, isV_self]
   exact ih (i + 1) (by omega)
  ·simp [allT]
theorem s54_ok (ts : List T) (r : T) (cs : List Bool) (h : s54 ts = some (r, cs)) (k : allT cs = true) : PureFn prog gl 77 ts r := by
 unfold s54 at h; split at h
 ·rename_i t
  cases h
  simp only [allT, Bool.and_true, Bool.and_eq_true, isV_iff, decide_eq_true_eq] at k
  rw [k.1]; exact run54a _ _ cx2 (n := slN t + 1) (o := .inl (.l0 (slN t) (0 : Nat))) (by simp [o54a, allT]) (run54a_eq _ _ k.2 (slN t) 0 rfl)
 ·rename_i t c
  cases h
  simp only [allT, Bool.and_true, Bool.and_eq_true, isV_iff, decide_eq_true_eq] at k
  rw [k.1, k.2.1]; exact run54b _ _ _ cx2 (n := slN t + 1) (o := .inl (.l0 (slN t) (0 : Nat))) (by simp [o54b, allT]) (run54b_eq _ _ _ k.2.2.1 k.2.2.2 (slN t) 0 rfl)
 ·cases h
theorem cx7 : Cx prog D7 F0 := ⟨follows, pdAdd_ok (pdAdd_ok (pdAdd_ok cx6.hE s54_ok) s53_ok) s62_ok, F0ok⟩
theorem s38_ok (ts : List T) (r : T) (cs : List Bool) (h : s38 ts = some (r, cs)) (k : allT cs = true) : PureFn prog gl 56 ts r := by
 unfold s38 at h; split at h
 ·rename_i t
  cases h
  simp only [allT, Bool.and_true, Bool.and_eq_true, isV_iff, decide_eq_true_eq] at k
  rw [k.1]; exact run38a _ _ cx7 (n := 0) (o := .inr _) (by unfold o38a; exact if_pos (by simp [allT, isT, k.2])) rfl
 ·rename_i t c
  cases h
  simp only [allT, Bool.and_true, Bool.and_eq_true, isV_iff, decide_eq_true_eq] at k
  rw [k.1, k.2.1]; exact run38b _ _ _ cx7 (n := 0) (o := .inr _) (by unfold o38b; refine if_pos ?_; simp only [allT, isT, isV_self, k.2.2.1, decide_true, Bool.and_true, Bool.true_and, decide_eq_true_eq]; exact k.2.2.2) rfl
 ·cases h
/-! ### slices.BinarySearchFunc -/
theorem mid (i j : Nat) (h : i + j < 4611686018427387904) : IntKind.i64.wrap ((IntKind.u64.wrap (IntKind.i64.wrap ((i : Int) + j))).fdiv (2 ^ 1)) = (((i + j) / 2 : Nat) : Int) := by
 have h0 : IntKind.i64.wrap ((i : Int) + j) = (i : Int) + j := IntWalk.i64_in _ (by omega)
 have h1 : IntKind.u64.wrap ((i : Int) + j) = (i : Int) + j := by
  show ((i : Int) + j) % 18446744073709551616 = _
  omega
 rw [h0, h1, Int.fdiv_eq_ediv_of_nonneg _ (by decide), IntWalk.i64_in _ (by omega)]
 omega
theorem run52_eq (m : Nat) (f : Nat → Ln) (s : Sp) (hm : modest m f) : ∀ (k i j : Nat), j - i ≤ k → i ≤ j → j ≤ m → (M52 m f s).run (k + 1) (.l0 m i j) = some (.tup [.int .i64 (bsR (fun i => cmpS (f i).st s) k i j), .bool (decide (bsR (fun i => cmpS (f i).st s) k i j < m) && cmpS (f (bsR (fun i => cmpS (f i).st s) k i j)).st s == 0)]) := by
 intro k
 have ends : ∀ (n i j : Nat), i = j → j ≤ m → (step52_0 m f s m i j).bind ((M52 m f s).fin n) = some (.tup [.int .i64 (i : Nat), .bool (decide (i < m) && cmpS (f i).st s == 0)]) := by
  intro n i j hij hjm
  subst hij
  unfold step52_0
  by_cases h3 : i < m
  ·have h4 := hm.2 i h3
   simp [allT, lnT, spT, h3, h4]
  ·simp [allT, h3]
 induction k with
 | zero =>
  intro i j h1 h2 h3
  rw [Mch.run_succ]
  show (step52_0 m f s m i j).bind ((M52 m f s).fin 0) = _
  rw [ends 0 i j (by omega) h3]
  rfl
 | succ k ih =>
  intro i j h1 h2 h3
  rw [Mch.run_succ]
  show (step52_0 m f s m i j).bind ((M52 m f s).fin (k + 1)) = _
  by_cases h4 : i < j
  ·have hb := hm.1
   have hmid := mid i j (by omega)
   have h5 : (i + j) / 2 < m := by omega
   have h6 := hm.2 _ h5
   unfold step52_0
   rw [hmid, Int.toNat_natCast, wsucc ((i + j) / 2) (by omega)]
   unfold bsR
   rw [if_pos h4]
   by_cases h7 : cmpS (f ((i + j) / 2)).st s < 0
   ·rw [if_pos (by simp [allT, lnT, spT, h4, h6, h7]; omega), if_pos h7]
    exact ih _ _ (by omega) (by omega) h3
   ·rw [if_neg (by simp [allT, h7]), if_pos (by simp [allT, lnT, spT, h4, h6, h7]; omega), if_neg h7]
    exact ih _ _ (by omega) (by omega) (by omega)
  ·rw [ends (k + 1) i j (by omega) h3]
   unfold bsR
   rw [if_neg h4]
theorem modestB_iff {n : Nat} {f : Nat → Ln} : modestB n f = true ↔ modest n f := by unfold modestB; simp
theorem s52_ok (ts : List T) (r : T) (cs : List Bool) (h : s52 ts = some (r, cs)) (k : allT cs = true) : PureFn prog gl 75 ts r := by
 unfold s52 at h; split at h
 ·rename_i t u
  cases h
  simp only [allT, Bool.and_true, Bool.and_eq_true, isV_iff, modestB_iff] at k
  rw [k.1, k.2.1]; exact run52 _ _ _ cx7 (n := slN t + 1) (o := .inl (.l0 (slN t) (0 : Nat) (slN t))) (by simp [o52, allT]) (run52_eq _ _ _ k.2.2 (slN t) 0 (slN t) (by omega) (by omega) (by omega))
 ·cases h
/-! ### find of the law -/
theorem run41_eq (m : Nat) (f : Nat → Ln) (s : Sp) (hm : modest m f) : ∀ (k i : Nat), k + i = m → (M41 m f s).run (k + 1) (.l0 i) = some (.int .i64 (idxR (fun i => eqS (f i).st s) k i)) := by
 intro k
 induction k with
 | zero =>
  intro i hi
  have h1 : ¬ ((i : Int) < m) := by omega
  rw [Mch.run_succ]
  show (step41_0 m f s i).bind ((M41 m f s).fin 0) = _
  unfold step41_0 idxR
  simp [allT, h1]
 | succ k ih =>
  intro i hi
  have h1 : ((i : Int) < m) := by omega
  have h2 := hm.2 i (by omega)
  have h3 := hm.1
  rw [Mch.run_succ]
  show (step41_0 m f s i).bind ((M41 m f s).fin (k + 1)) = _
  unfold step41_0 idxR
  rw [wsucc i (by omega), Int.toNat_natCast, decide_eq_true h1, decide_eq_true (show (0 : Int) ≤ i by omega)]
  cases hb : eqS (f i).st s
  ·simp only [allT, spT, isV_self, decide_eq_true h2]
   exact ih (i + 1) (by omega)
  ·simp [allT, spT, h2]
theorem s41_ok (ts : List T) (r : T) (cs : List Bool) (h : s41 ts = some (r, cs)) (k : allT cs = true) : PureFn prog gl 44 ts r := by
 unfold s41 at h; split at h
 ·rename_i t u
  cases h
  simp only [allT, Bool.and_true, Bool.and_eq_true, isV_iff, modestB_iff] at k
  rw [k.1, k.2.1]; exact run41 _ _ _ cx7 (n := slN t + 1) (o := .inl (.l0 (0 : Nat))) (by simp [o41, allT]) (run41_eq _ _ _ k.2.2 (slN t) 0 rfl)
 ·cases h
theorem cx8 : Cx prog D8 F0 := ⟨follows, pdAdd_ok (pdAdd_ok (pdAdd_ok cx7.hE s41_ok) s52_ok) s38_ok, F0ok⟩
theorem s36_ok (ts : List T) (r : T) (cs : List Bool) (h : s36 ts = some (r, cs)) (k : allT cs = true) : PureFn prog gl 54 ts r := by
 unfold s36 at h; split at h
 ·rename_i t u
  cases h
  simp only [allT, Bool.and_true, Bool.and_eq_true, isV_iff] at k
  rw [k.1, k.2.1]; exact run36 _ _ _ cx8 (n := 0) (o := .inr _) (by unfold o36; exact if_pos (by simp [allT, lsT, spT, k.2.2])) rfl
 ·cases h
theorem c32 (s : Sp) (h : s.n ≤ 281474976710656) : PureFn prog gl 41 [spT s] (.int .i64 (chk s)) := by
 refine run32 s cx8 (n := 0) (o := .inr (.int .i64 (chk s))) ?_ rfl
 unfold o32 chk
 cases e1 : decide (s.entry < 1) with
 | true => simp only [allT, isT, isV_self, Bool.and_true, Bool.true_and, Bool.and_false, Bool.false_and, Bool.not_true, Bool.not_false, reduceIte, Bool.false_eq_true]
 | false =>
  cases e2 : decide (s.entry > 1048576) with
  | true => simp only [allT, isT, isV_self, Bool.and_true, Bool.true_and, Bool.and_false, Bool.false_and, Bool.not_true, Bool.not_false, reduceIte, Bool.false_eq_true]
  | false =>
   cases e3 : ((s.n : Int) == 0) with
   | true => simp only [allT, isT, isV_self, Bool.and_true, Bool.true_and, Bool.and_false, Bool.false_and, Bool.not_true, Bool.not_false, reduceIte, Bool.false_eq_true]
   | false =>
    have e0 : decide ((0 : Int) < s.n) = true := by
     simp only [beq_eq_false_iff_ne] at e3
     exact decide_eq_true (by omega)
    cases e4 : decide ((s.n : Int) > 512) with
    | true => simp only [allT, isT, isV_self, Bool.and_true, Bool.true_and, Bool.and_false, Bool.false_and, Bool.not_true, Bool.not_false, reduceIte, Bool.false_eq_true]
    | false =>
     cases e5 : any s.n (fun i => bad (s.at_ i)) with
     | true => simp only [allT, isT, isV_self, Bool.and_true, Bool.true_and, Bool.and_false, Bool.false_and, Bool.not_true, Bool.not_false, reduceIte, Bool.false_eq_true, decide_eq_true h]
     | false =>
      cases e6 : decide (s.at_ 0 > 1) with
      | true => simp only [allT, isT, isV_self, Bool.and_true, Bool.true_and, Bool.and_false, Bool.false_and, Bool.not_true, Bool.not_false, reduceIte, Bool.false_eq_true, decide_eq_true h, e0]
      | false =>
       cases e7 : (s.at_ 0 == 1) with
       | true => simp only [allT, isT, isV_self, Bool.and_true, Bool.true_and, Bool.and_false, Bool.false_and, Bool.not_true, Bool.not_false, reduceIte, Bool.false_eq_true, decide_eq_true h, e0]
       | false =>
        cases e8 : ((s.n : Int) == 1) with
        | true => simp only [allT, isT, isV_self, Bool.and_true, Bool.true_and, Bool.and_false, Bool.false_and, Bool.not_true, Bool.not_false, reduceIte, Bool.false_eq_true, decide_eq_true h, e0]
        | false =>
         have e9 : decide ((1 : Int) < s.n) = true := by
          simp only [beq_eq_false_iff_ne] at e3 e8
          exact decide_eq_true (by omega)
         cases e10 : decide (s.at_ 1 ≥ 128) with
         | true => simp only [allT, isT, isV_self, Bool.and_true, Bool.true_and, Bool.and_false, Bool.false_and, Bool.not_true, Bool.not_false, reduceIte, Bool.false_eq_true, decide_eq_true h, e0, e9]
         | false => simp only [allT, isT, isV_self, Bool.and_true, Bool.true_and, Bool.and_false, Bool.false_and, Bool.not_true, Bool.not_false, reduceIte, Bool.false_eq_true, decide_eq_true h, e0, e9]
theorem s32_ok (ts : List T) (r : T) (cs : List Bool) (h : s32 ts = some (r, cs)) (k : allT cs = true) : PureFn prog gl 41 ts r := by
 unfold s32 at h; split at h
 ·cases h
  simp only [allT, Bool.and_true, Bool.and_eq_true, isV_iff, decide_eq_true_eq] at k
  rw [k.1]; exact c32 _ k.2
 ·cases h
theorem cx9 : Cx prog D9 F0 := ⟨follows, pdAdd_ok (pdAdd_ok cx8.hE s32_ok) s36_ok, F0ok⟩
end
end Go.Proofs.Tryz

/- Itoa and Join as contracts with what they ask; Join of a row of the caller's own. -/
namespace Go.Proofs.Tryz
open Go.Ps
def strs (l : List (List UInt8)) : List T := l.map T.str
theorem strsX_eq : ∀ (l : List (List UInt8)), strsX (strs l) = some l
 | [] => rfl
 | s :: r => by
  have := strsX_eq r
  unfold strs at this ⊢
  simp only [List.map_cons, strsX, this]
def strv (cs : List T) : List (List UInt8) := cs.map Go.Ps.strv
theorem strv_strs (l : List (List UInt8)) : strv (strs l) = l := by
 unfold strv strs
 rw [List.map_map]
 conv => rhs; rw [← List.map_id l]
 exact List.map_congr_left fun _ _ => rfl
theorem strs_scal : ∀ (l : List (List UInt8)), (strs l).all scal1 = true
 | [] => rfl
 | s :: r => by
  have := strs_scal r
  unfold strs at this ⊢
  simp only [List.map_cons, List.all_cons, this]; rfl
def s16z : List T → Option (T × List Bool)
 | [.int .i64 n] => some (.str (itoaK n), [decide (-9223372036854775808 ≤ n), decide (n ≤ 9223372036854775807)])
 | _ => none
theorem s16z_ok (ts : List T) (r : T) (cs : List Bool) (h : s16z ts = some (r, cs)) (hc : allT cs = true) : PureFn prog gl 16 ts r := by
 unfold s16z at h
 split at h
 ·cases h
  simp only [allT, Bool.and_true, Bool.and_eq_true, decide_eq_true_eq] at hc
  exact itoa_pc (ρ := laysM171_ren) (by kernel_rfl) (fun g hg n h0 h1 => tab hg n h0 h1) _ _ (by simp [itoaX, hc])
 ·cases h
def rowS (H : Hp) (L n : Nat) : Prop := ∃ l, H.get L = some ⟨9, 1, strs l⟩ ∧ l.length = n
noncomputable def s18z (H : Hp) : List T → Option (T × List Bool)
 | [.nils, .str _] => some (.str [], [])
 | [.osl L 1 0 n, .str sep] => some (.str (joinL sep (strv (obv H L).cells)), [pb (rowS H L n), decide ((joinL sep (strv (obv H L).cells)).length ≤ 140737488355328), decide (n ≤ 140737488355328)])
 | _ => none
theorem s18z_ok (H : Hp) (ts : List T) (r : T) (cs : List Bool) (h : s18z H ts = some (r, cs)) (hc : allT cs = true) : PeFn prog gl H 18 ts r := by
 have key := lend_ok (k := 20) glFrz pcK
 unfold s18z at h
 split at h
 ·cases h
  exact key H 18 _ _ (by rfl)
 ·rename_i L n sep
  cases h
  simp only [allT, Bool.and_true, Bool.and_eq_true, decide_eq_true_eq, pb_iff] at hc
  obtain ⟨⟨l, hl, hn⟩, h2, h3⟩ := hc
  rw [obv_eq hl, strv_strs] at h2 ⊢
  refine key H 18 _ _ ?_
  have e1 : mapO (frzT 20 ⟨0, []⟩) [.osl L 1 0 n, .str sep] = none := rfl
  have e2 : frzT 20 H (.osl L 1 0 n) = some (.sl false (strs l)) := frz_row (d := 18) hl rfl (by simp [strs, hn]) (strs_scal l)
  unfold lend
  rw [e1]
  simp only [mapO, e2]
  have e3 : frzT 20 H (.str sep) = some (.str sep) := rfl
  rw [e3]
  have e4 : peK 18 [.sl false (strs l), .str sep] = some (.str (joinL sep l)) := by
   unfold peK
   rw [if_neg (by decide), if_pos rfl]
   unfold joinX
   simp only [strsX_eq]
   rw [if_pos ⟨h2, by omega⟩]
  simp only [e4]
  rfl
 ·cases h
noncomputable def D30 : Ed := ⟨gl, pdAdd 16 s16z (pdAddH 18 s18z D9.pd)⟩
theorem cx30 : Cx prog D30 F0 := ⟨follows, pdAdd_ok (pdAddH_ok cx9.hE s18z_ok) s16z_ok, F0ok⟩
end Go.Proofs.Tryz

/- Text of a stamp and hyphen as machines, by program (gen2). -/
namespace Go.Proofs.Tryz
noncomputable section
open Go.Ps
set_option maxRecDepth 100000
/-! ### 19 -/
inductive S19z where
 | l0n (x15 x16 : Int)
 | l0o (L N : Nat) (x15 x16 : Int) (H : Hp)
def k19z_s_0 (s : Sp) : List Bool := [isV (spT s) (spT s), decide (s.n ≤ 281474976710656)]
def g19z_s_1 (s : Sp) : List Bool := (chk s != 0) :: k19z_s_0 s
def g19z_s_2 (s : Sp) : List Bool := (!chk s != 0) :: k19z_s_0 s
def g19z_0n_1 (s : Sp) (x15 x16 : Int) : List Bool := [true, true, true, decide (-9223372036854775808 ≤ s.at_ x16.toNat), decide (s.at_ x16.toNat ≤ 9223372036854775807), decide (0 ≤ x16), decide (x16 < (↑s.n : Int)), true, decide (x16 < x15)]
def g19z_0n_2 (s : Sp) (x15 x16 : Int) : List Bool := [decide ((itoaK s.entry ++ [47]).length + 0 ≤ maxStr), decide ((itoaK s.entry).length + 1 ≤ maxStr), decide (-9223372036854775808 ≤ s.entry), decide (s.entry ≤ 9223372036854775807), !decide (x16 < x15)]
def g19z_0o_1 (s : Sp) (L N : Nat) (x15 x16 : Int) (H : Hp) : List Bool := [true, true, obApp H L 9 1 N, roomT (N + 1) 16, decide (-9223372036854775808 ≤ s.at_ x16.toNat), decide (s.at_ x16.toNat ≤ 9223372036854775807), decide (0 ≤ x16), decide (x16 < (↑s.n : Int)), true, decide (x16 < x15)]
def g19z_0o_2 (s : Sp) (L N : Nat) (x15 x16 : Int) (H : Hp) : List Bool := [decide ((itoaK s.entry ++ [47]).length + (joinL [46] (strv (obv H L).cells)).length ≤ maxStr), pb (rowS H L N), decide ((joinL [46] (strv (obv H L).cells)).length ≤ 140737488355328), decide (N ≤ 140737488355328), decide ((itoaK s.entry).length + 1 ≤ maxStr), decide (-9223372036854775808 ≤ s.entry), decide (s.entry ≤ 9223372036854775807), !decide (x16 < x15)]
def V19z_0n (s : Sp) (x15 x16 : Int) : S19z ⊕ T :=
 (if decide (x16 < x15) then (.inl (.l0o 0 1 x15 (IntKind.i64.wrap (x16 + 1)) ({ next := 1, objs := [(0, { elem := 9, sz := 1, cells := [T.str (itoaK (s.at_ x16.toNat))] })] }))) else (.inr (T.tup [T.str (itoaK s.entry ++ [47] ++ []), T.int .i64 0])))
def K19z_0n (s : Sp) (x15 x16 : Int) : Bool :=
 (if decide (x16 < x15) then (allT (g19z_0n_1 s x15 x16)) else (allT (g19z_0n_2 s x15 x16)))
def step19z_0n (s : Sp) (x15 x16 : Int) : Option (S19z ⊕ T) := if K19z_0n s x15 x16 then some (V19z_0n s x15 x16) else none
theorem T19z_0n (s : Sp) (x15 x16 : Int) (hk : K19z_0n s x15 x16 = true) : step19z_0n s x15 x16 = some (V19z_0n s x15 x16) := if_pos hk
def V19z_0o (s : Sp) (L N : Nat) (x15 x16 : Int) (H : Hp) : S19z ⊕ T :=
 (if decide (x16 < x15) then (.inl (.l0o H.next (N + 1) x15 (IntKind.i64.wrap (x16 + 1)) ({ next := H.next + 1, objs := (H.next, { elem := 9, sz := 1, cells := (obv H L).cells ++ [T.str (itoaK (s.at_ x16.toNat))] }) :: dropOb H.objs L }))) else (.inr (T.tup [T.str (itoaK s.entry ++ [47] ++ joinL [46] (strv (obv H L).cells)), T.int .i64 0])))
def K19z_0o (s : Sp) (L N : Nat) (x15 x16 : Int) (H : Hp) : Bool :=
 (if decide (x16 < x15) then (allT (g19z_0o_1 s L N x15 x16 H)) else (allT (g19z_0o_2 s L N x15 x16 H)))
def step19z_0o (s : Sp) (L N : Nat) (x15 x16 : Int) (H : Hp) : Option (S19z ⊕ T) := if K19z_0o s L N x15 x16 H then some (V19z_0o s L N x15 x16 H) else none
theorem T19z_0o (s : Sp) (L N : Nat) (x15 x16 : Int) (H : Hp) (hk : K19z_0o s L N x15 x16 H = true) : step19z_0o s L N x15 x16 H = some (V19z_0o s L N x15 x16 H) := if_pos hk
def V19z_s (s : Sp) : S19z ⊕ T :=
 (if chk s != 0 then (.inr (T.tup [T.str [], T.int .i64 (chk s)])) else (.inl (.l0n (↑s.n : Int) 0)))
def K19z_s (s : Sp) : Bool :=
 (if chk s != 0 then (allT (g19z_s_1 s)) else (allT (g19z_s_2 s)))
def step19z (s : Sp) : S19z → Option (S19z ⊕ T)
 | .l0n x15 x16 => step19z_0n s x15 x16
 | .l0o L N x15 x16 H => step19z_0o s L N x15 x16 H
def M19z (s : Sp) : Mch S19z where
 lp := fun σ => match σ with
  | .l0n .. => 0
  | .l0o .. => 0
 keep := fun ι => match ι with
  | 0 => [1, 5, 14, 15, 16]
  | _ => []
 par := fun ι => match ι with
  | 0 => []
  | _ => []
 vs := fun σ => match σ with
  | .l0n x15 x16 => [(spT s).ref 0, T.nils, T.slf false s.n fun i => T.int .i64 (s.at_ i), T.int .i64 x15, T.int .i64 x16]
  | .l0o L N x15 x16 H => [(spT s).ref 0, T.osl L 1 0 N, T.slf false s.n fun i => T.int .i64 (s.at_ i), T.int .i64 x15, T.int .i64 x16]
 hp := fun σ => match σ with
  | .l0n _ _ => ⟨0, []⟩
  | .l0o _ _ _ _ H => H
 len := 33
 step := step19z s
def r19z_0n (s : Sp) (x15 x16 : Int) (fr : List T) (ds : List Bool) : RD Out := (M19z s).rk prog D30 F0 f19 (.l0n x15 x16) fr ds
theorem w19z_0n_1 (s : Sp) (x15 x16 : Int) (fr : List T) : (M19z s).wa prog f19 (r19z_0n s x15 x16 fr [true]) 0 (g19z_0n_1 s x15 x16) (.l0o 0 1 x15 (IntKind.i64.wrap (x16 + 1)) ({ next := 1, objs := [(0, { elem := 9, sz := 1, cells := [T.str (itoaK (s.at_ x16.toNat))] })] })) := by unfold Mch.wa; kernel_rfl
theorem w19z_0n_2 (s : Sp) (x15 x16 : Int) (fr : List T) : outK prog f19 20 [] (r19z_0n s x15 x16 fr [false]) = wdn (T.tup [T.str (itoaK s.entry ++ [47] ++ []), T.int .i64 0]) (g19z_0n_2 s x15 x16) := by kernel_rfl
def r19z_0o (s : Sp) (L N : Nat) (x15 x16 : Int) (H : Hp) (fr : List T) (ds : List Bool) : RD Out := (M19z s).rk prog D30 F0 f19 (.l0o L N x15 x16 H) fr ds
theorem w19z_0o_1 (s : Sp) (L N : Nat) (x15 x16 : Int) (H : Hp) (fr : List T) : (M19z s).wa prog f19 (r19z_0o s L N x15 x16 H fr [true]) 0 (g19z_0o_1 s L N x15 x16 H) (.l0o H.next (N + 1) x15 (IntKind.i64.wrap (x16 + 1)) ({ next := H.next + 1, objs := (H.next, { elem := 9, sz := 1, cells := (obv H L).cells ++ [T.str (itoaK (s.at_ x16.toNat))] }) :: dropOb H.objs L })) := by unfold Mch.wa; kernel_rfl
theorem w19z_0o_2 (s : Sp) (L N : Nat) (x15 x16 : Int) (H : Hp) (fr : List T) : outK prog f19 20 [] (r19z_0o s L N x15 x16 H fr [false]) = wdn (T.tup [T.str (itoaK s.entry ++ [47] ++ joinL [46] (strv (obv H L).cells)), T.int .i64 0]) (g19z_0o_2 s L N x15 x16 H) := by kernel_rfl
def r19z_s (s : Sp) (ds : List Bool) : RD Out := runK prog D30 F0 2000 (.code (bodyOf f19)) [] 0 ([spT s] ++ List.replicate 32 undefT) ⟨0, []⟩ ds []
theorem w19z_s_1 (s : Sp) : outK prog f19 20 [] (r19z_s s [true]) = wdn (T.tup [T.str [], T.int .i64 (chk s)]) (g19z_s_1 s) := by kernel_rfl
theorem w19z_s_2 (s : Sp) : (M19z s).wl prog f19 (r19z_s s [false]) 0 (g19z_s_2 s) (.l0n (↑s.n : Int) 0) := by unfold Mch.wl; kernel_rfl
theorem ways19z (s : Sp) : (M19z s).Ways prog D30 F0 f19 20 := by
 intro σ o fr h
 cases σ with
 | l0n x15 x16 =>
  obtain ⟨hk, ho⟩ := kv_some (K := K19z_0n s x15 x16) (V := V19z_0n s x15 x16) h
  exact (wk_if (kA (w19z_0n_1 s x15 x16 fr) rfl) (kD (w19z_0n_2 s x15 x16 fr))) hk o ho
 | l0o L N x15 x16 H =>
  obtain ⟨hk, ho⟩ := kv_some (K := K19z_0o s L N x15 x16 H) (V := V19z_0o s L N x15 x16 H) h
  exact (wk_if (kA (w19z_0o_1 s L N x15 x16 H fr) rfl) (kD (w19z_0o_2 s L N x15 x16 H fr))) hk o ho
theorem oks19z (s : Sp) : ∀ σ, Ps.codeOk (loopAt f19 ((M19z s).lp σ)).1 = true ∧ ksOk (.lp :: (loopAt f19 ((M19z s).lp σ)).2) = true := oks_of 1 (by kernel_rfl) (by intro σ; cases σ <;> exact Nat.le_of_ble_eq_true rfl)
theorem c19z (s : Sp) (n : Nat) {r : T} (hk : K19z_s s = true) (hr : (M19z s).fin n (V19z_s s) = some r) : PureFn prog gl 19 [spT s] r :=
 pure_mach (M := (M19z s)) (fn := f19) (k := 20) (d := 8) (c := bodyOf f19) cx30 glFrz (by kernel_rfl) func19 (by kernel_rfl) rfl (by kernel_rfl) (by kernel_rfl) (L := 32) (by kernel_rfl) (ways19z s) (oks19z s) ((wk_if (kD (w19z_s_1 s)) (kL (w19z_s_2 s) rfl)) hk _ rfl) hr
/-! ### 20 -/
def g20z_s_1 (s : List UInt8) : List Bool := [s == []]
def g20z_s_2 (s : List UInt8) : List Bool := [!s == []]
def V20z_s (s : List UInt8) : Empty ⊕ T :=
 (if s == [] then (.inr (T.str [45])) else (.inr (T.str s)))
def K20z_s (s : List UInt8) : Bool :=
 (if s == [] then (allT (g20z_s_1 s)) else (allT (g20z_s_2 s)))
def r20z_s (s : List UInt8) (ds : List Bool) : RD Out := runK prog D30 F0 2000 (.code (bodyOf f20)) [] 0 ([.str s] ++ List.replicate 5 undefT) ⟨0, []⟩ ds []
theorem w20z_s_1 (s : List UInt8) : outK prog f20 20 [] (r20z_s s [true]) = wdn (T.str [45]) (g20z_s_1 s) := by kernel_rfl
theorem w20z_s_2 (s : List UInt8) : outK prog f20 20 [] (r20z_s s [false]) = wdn (T.str s) (g20z_s_2 s) := by kernel_rfl
theorem c20z (s : List UInt8) (n : Nat) {r : T} (hk : K20z_s s = true) (hr : noM.fin n (V20z_s s) = some r) : PureFn prog gl 20 [.str s] r :=
 pure_mach (M := noM) (fn := f20) (k := 20) (d := 8) (c := bodyOf f20) cx30 glFrz (by kernel_rfl) func20 (by kernel_rfl) rfl (by kernel_rfl) (by kernel_rfl) (L := 5) (by kernel_rfl) noM_ways (fun σ => σ.elim) ((wk_if (kD (w20z_s_1 s)) (kD (w20z_s_2 s))) hk _ rfl) hr
end
end Go.Proofs.Tryz

/- Machines of the rules, by program (gen2). -/
namespace Go.Proofs.Tryz
noncomputable section
open Go.Ps
set_option maxRecDepth 100000
/-! ### 14 -/
def k14_s_0 (c : Ct) : List Bool := let y0 := decide (c.entries < 0); [!y0, !y0, !y0, !y0]
def g14_s_1 (c : Ct) : List Bool := let y0 := decide (c.entries < 0); [true, y0, y0, y0, y0]
def g14_s_2 (c : Ct) : List Bool := (decide (c.entries > 1048576)) :: k14_s_0 c
def g14_s_3 (c : Ct) : List Bool := (decide ((↑c.n : Int) > 65536)) :: (!decide (c.entries > 1048576)) :: k14_s_0 c
def g14_s_4 (c : Ct) : List Bool := (!decide ((↑c.n : Int) > 65536)) :: (!decide (c.entries > 1048576)) :: k14_s_0 c
def V14_s (c : Ct) : Empty ⊕ T :=
 (if decide (c.entries < 0) then (.inr (T.int .i64 2)) else (if decide (c.entries > 1048576) then (.inr (T.int .i64 2)) else (if decide ((↑c.n : Int) > 65536) then (.inr (T.int .i64 9)) else (.inr (T.int .i64 0)))))
def K14_s (c : Ct) : Bool :=
 (if decide (c.entries < 0) then (allT (g14_s_1 c)) else (if decide (c.entries > 1048576) then (allT (g14_s_2 c)) else (if decide ((↑c.n : Int) > 65536) then (allT (g14_s_3 c)) else (allT (g14_s_4 c)))))
def r14_s (c : Ct) (ds : List Bool) : RD Out := runK prog D9 F0 2000 (.code (bodyOf f32)) [] 0 ([ctT c] ++ List.replicate 16 undefT) ⟨0, []⟩ ds []
theorem w14_s_1 (c : Ct) : outK prog f32 20 [] (r14_s c (bt 5 31)) = wdn (T.int .i64 2) (g14_s_1 c) := by kernel_rfl
theorem w14_s_2 (c : Ct) : outK prog f32 20 [] (r14_s c (bt 5 16)) = wdn (T.int .i64 2) (g14_s_2 c) := by kernel_rfl
theorem w14_s_3 (c : Ct) : outK prog f32 20 [] (r14_s c (bt 6 32)) = wdn (T.int .i64 9) (g14_s_3 c) := by kernel_rfl
theorem w14_s_4 (c : Ct) : outK prog f32 20 [] (r14_s c (bt 6 0)) = wdn (T.int .i64 0) (g14_s_4 c) := by kernel_rfl
theorem c14 (c : Ct) (n : Nat) {r : T} (hk : K14_s c = true) (hr : noM.fin n (V14_s c) = some r) : PureFn prog gl 32 [ctT c] r :=
 pure_mach (M := noM) (fn := f32) (k := 20) (d := 8) (c := bodyOf f32) cx9 glFrz (by kernel_rfl) func32 (by kernel_rfl) rfl (by kernel_rfl) (by kernel_rfl) (L := 16) (by kernel_rfl) noM_ways (fun σ => σ.elim) ((wk_if (kD (w14_s_1 c)) (wk_if (kD (w14_s_2 c)) (wk_if (kD (w14_s_3 c)) (kD (w14_s_4 c))))) hk _ rfl) hr
/-! ### 16 -/
inductive S16 where
 | l0 (x13 x14 : Int)
 | l1 (x13 x14 x20 x21 : Int)
 | l2 (x13 x14 x49 x50 : Int)
def g16_s_1 (c : Ct) : List Bool := []
def g16_0_1 (c : Ct) (x13 x14 : Int) : List Bool := [true, true, decide (0 ≤ x14), decide (x14 < (↑c.n : Int)), true, decide (x14 < x13)]
def g16_0_2 (c : Ct) (x13 x14 : Int) : List Bool := [!decide (x14 < x13)]
def k16_1_0 (c : Ct) (x13 x14 x20 x21 : Int) : List Bool := [true, true, decide (0 ≤ x21), decide (x21 < (↑(c.line x14.toNat).k : Int)), true, decide (x21 < x20)]
def k16_1_1 (c : Ct) (x13 x14 x20 x21 : Int) : List Bool := let y0 := decide (x21 > 0); y0 :: y0 :: (isV (spT ((c.line x14.toNat).from_ (IntKind.i64.wrap (x21 - 1)).toNat)) (spT ((c.line x14.toNat).from_ (IntKind.i64.wrap (x21 - 1)).toNat))) :: (isV (spT ((c.line x14.toNat).from_ x21.toNat)) (spT ((c.line x14.toNat).from_ x21.toNat))) :: (decide (((c.line x14.toNat).from_ (IntKind.i64.wrap (x21 - 1)).toNat).n ≤ 281474976710656)) :: y0 :: y0 :: y0 :: (decide (0 ≤ IntKind.i64.wrap (x21 - 1))) :: (decide (IntKind.i64.wrap (x21 - 1) < (↑(c.line x14.toNat).k : Int))) :: true :: y0 :: y0 :: y0 :: y0 :: y0 :: k16_1_0 c x13 x14 x20 x21
def k16_1_2 (c : Ct) (x13 x14 x20 x21 : Int) : List Bool := let y0 := decide (cmpS ((c.line x14.toNat).from_ (IntKind.i64.wrap (x21 - 1)).toNat) ((c.line x14.toNat).from_ x21.toNat) ≥ 0); (!y0) :: (!y0) :: (isV (spT ((c.line x14.toNat).from_ x21.toNat)) (spT ((c.line x14.toNat).from_ x21.toNat))) :: (isV (spT (c.line x14.toNat).st) (spT (c.line x14.toNat).st)) :: (decide (((c.line x14.toNat).from_ x21.toNat).n ≤ 281474976710656)) :: (!y0) :: (!y0) :: (!y0) :: (!y0) :: k16_1_1 c x13 x14 x20 x21
def k16_1_3 (c : Ct) (x13 x14 x20 x21 : Int) : List Bool := let y0 := decide (x21 > 0); true :: true :: (isV (spT ((c.line x14.toNat).from_ x21.toNat)) (spT ((c.line x14.toNat).from_ x21.toNat))) :: (isV (spT (c.line x14.toNat).st) (spT (c.line x14.toNat).st)) :: (decide (((c.line x14.toNat).from_ x21.toNat).n ≤ 281474976710656)) :: true :: true :: true :: true :: (!y0) :: (!y0) :: (!y0) :: (!y0) :: (!y0) :: (!y0) :: (!y0) :: (!y0) :: (!y0) :: (!y0) :: k16_1_0 c x13 x14 x20 x21
def g16_1_1 (c : Ct) (x13 x14 x20 x21 : Int) : List Bool := let y0 := decide (cmpS ((c.line x14.toNat).from_ (IntKind.i64.wrap (x21 - 1)).toNat) ((c.line x14.toNat).from_ x21.toNat) ≥ 0); true :: y0 :: y0 :: y0 :: y0 :: y0 :: y0 :: k16_1_1 c x13 x14 x20 x21
def g16_1_2 (c : Ct) (x13 x14 x20 x21 : Int) : List Bool := (decide (cmpS ((c.line x14.toNat).from_ x21.toNat) (c.line x14.toNat).st ≥ 0)) :: k16_1_2 c x13 x14 x20 x21
def g16_1_3 (c : Ct) (x13 x14 x20 x21 : Int) : List Bool := (!decide (cmpS ((c.line x14.toNat).from_ x21.toNat) (c.line x14.toNat).st ≥ 0)) :: k16_1_2 c x13 x14 x20 x21
def g16_1_4 (c : Ct) (x13 x14 x20 x21 : Int) : List Bool := (decide (cmpS ((c.line x14.toNat).from_ x21.toNat) (c.line x14.toNat).st ≥ 0)) :: k16_1_3 c x13 x14 x20 x21
def g16_1_5 (c : Ct) (x13 x14 x20 x21 : Int) : List Bool := (!decide (cmpS ((c.line x14.toNat).from_ x21.toNat) (c.line x14.toNat).st ≥ 0)) :: k16_1_3 c x13 x14 x20 x21
def g16_1_6 (c : Ct) (x13 x14 x20 x21 : Int) : List Bool := [!decide (x21 < x20)]
def k16_2_0 (c : Ct) (x13 x14 x49 x50 : Int) : List Bool := [isV (T.slf false c.n fun i => lnT (c.line i)) (lsT c.n c.line), isV (spT ((c.line x14.toNat).from_ x50.toNat)) (spT ((c.line x14.toNat).from_ x50.toNat)), modestB c.n c.line, true, true, decide (0 ≤ x50), decide (x50 < (↑(c.line x14.toNat).k : Int)), true, decide (x50 < x49)]
def k16_2_1 (c : Ct) (x13 x14 x49 x50 : Int) : List Bool := let y0 := (↑(c.line x14.toNat).k : Int) == 0; [y0, y0, isV (spT (c.line x14.toNat).st) (spT (c.line x14.toNat).st), y0, y0, y0, !decide (x50 < x49)]
def k16_2_2 (c : Ct) (x13 x14 x49 x50 : Int) : List Bool := let y0 := (↑(c.line x14.toNat).k : Int) == 0; let y1 := arr (c.line x14.toNat).st; y0 :: (!!y1) :: y0 :: (!!y1) :: (!!y1) :: (!!y1) :: k16_2_1 c x13 x14 x49 x50
def g16_2_1 (c : Ct) (x13 x14 x49 x50 : Int) : List Bool := (!found c.n fun i => cmpS (c.line i).st ((c.line x14.toNat).from_ x50.toNat)) :: k16_2_0 c x13 x14 x49 x50
def g16_2_2 (c : Ct) (x13 x14 x49 x50 : Int) : List Bool := (!!found c.n fun i => cmpS (c.line i).st ((c.line x14.toNat).from_ x50.toNat)) :: k16_2_0 c x13 x14 x49 x50
def g16_2_3 (c : Ct) (x13 x14 x49 x50 : Int) : List Bool := let y0 := (↑(c.line x14.toNat).k : Int) == 0; let y1 := arr (c.line x14.toNat).st; true :: y0 :: (!y1) :: y0 :: (!y1) :: (!y1) :: (!y1) :: k16_2_1 c x13 x14 x49 x50
def g16_2_4 (c : Ct) (x13 x14 x49 x50 : Int) : List Bool := ((c.line x14.toNat).mass != 1048576) :: k16_2_2 c x13 x14 x49 x50
def g16_2_5 (c : Ct) (x13 x14 x49 x50 : Int) : List Bool := (!(c.line x14.toNat).mass != 1048576) :: k16_2_2 c x13 x14 x49 x50
def g16_2_6 (c : Ct) (x13 x14 x49 x50 : Int) : List Bool := let y0 := (↑(c.line x14.toNat).k : Int) == 0; [true, !y0, !y0, !y0, !y0, !y0, !y0, !y0, !decide (x50 < x49)]
def V16_0 (c : Ct) (x13 x14 : Int) : S16 ⊕ T :=
 (if decide (x14 < x13) then (.inl (.l1 x13 x14 (↑(c.line x14.toNat).k : Int) 0)) else (.inr (T.int .i64 0)))
def K16_0 (c : Ct) (x13 x14 : Int) : Bool :=
 (if decide (x14 < x13) then (allT (g16_0_1 c x13 x14)) else (allT (g16_0_2 c x13 x14)))
def step16_0 (c : Ct) (x13 x14 : Int) : Option (S16 ⊕ T) := if K16_0 c x13 x14 then some (V16_0 c x13 x14) else none
theorem T16_0 (c : Ct) (x13 x14 : Int) (hk : K16_0 c x13 x14 = true) : step16_0 c x13 x14 = some (V16_0 c x13 x14) := if_pos hk
def V16_1 (c : Ct) (x13 x14 x20 x21 : Int) : S16 ⊕ T :=
 (if decide (x21 < x20) then (if decide (x21 > 0) then (if decide (cmpS ((c.line x14.toNat).from_ (IntKind.i64.wrap (x21 - 1)).toNat) ((c.line x14.toNat).from_ x21.toNat) ≥ 0) then (.inr (T.int .i64 24)) else (if decide (cmpS ((c.line x14.toNat).from_ x21.toNat) (c.line x14.toNat).st ≥ 0) then (.inr (T.int .i64 24)) else (.inl (.l1 x13 x14 x20 (IntKind.i64.wrap (x21 + 1)))))) else (if decide (cmpS ((c.line x14.toNat).from_ x21.toNat) (c.line x14.toNat).st ≥ 0) then (.inr (T.int .i64 24)) else (.inl (.l1 x13 x14 x20 (IntKind.i64.wrap (x21 + 1)))))) else (.inl (.l2 x13 x14 (↑(c.line x14.toNat).k : Int) 0)))
def K16_1 (c : Ct) (x13 x14 x20 x21 : Int) : Bool :=
 (if decide (x21 < x20) then (if decide (x21 > 0) then (if decide (cmpS ((c.line x14.toNat).from_ (IntKind.i64.wrap (x21 - 1)).toNat) ((c.line x14.toNat).from_ x21.toNat) ≥ 0) then (allT (g16_1_1 c x13 x14 x20 x21)) else (if decide (cmpS ((c.line x14.toNat).from_ x21.toNat) (c.line x14.toNat).st ≥ 0) then (allT (g16_1_2 c x13 x14 x20 x21)) else (allT (g16_1_3 c x13 x14 x20 x21)))) else (if decide (cmpS ((c.line x14.toNat).from_ x21.toNat) (c.line x14.toNat).st ≥ 0) then (allT (g16_1_4 c x13 x14 x20 x21)) else (allT (g16_1_5 c x13 x14 x20 x21)))) else (allT (g16_1_6 c x13 x14 x20 x21)))
def step16_1 (c : Ct) (x13 x14 x20 x21 : Int) : Option (S16 ⊕ T) := if K16_1 c x13 x14 x20 x21 then some (V16_1 c x13 x14 x20 x21) else none
theorem T16_1 (c : Ct) (x13 x14 x20 x21 : Int) (hk : K16_1 c x13 x14 x20 x21 = true) : step16_1 c x13 x14 x20 x21 = some (V16_1 c x13 x14 x20 x21) := if_pos hk
def V16_2 (c : Ct) (x13 x14 x49 x50 : Int) : S16 ⊕ T :=
 (if decide (x50 < x49) then (if !found c.n fun i => cmpS (c.line i).st ((c.line x14.toNat).from_ x50.toNat) then (.inr (T.int .i64 8)) else (.inl (.l2 x13 x14 x49 (IntKind.i64.wrap (x50 + 1))))) else (if (↑(c.line x14.toNat).k : Int) == 0 then (if !arr (c.line x14.toNat).st then (.inr (T.int .i64 38)) else (if (c.line x14.toNat).mass != 1048576 then (.inr (T.int .i64 38)) else (.inl (.l0 x13 (IntKind.i64.wrap (x14 + 1)))))) else (.inl (.l0 x13 (IntKind.i64.wrap (x14 + 1))))))
def K16_2 (c : Ct) (x13 x14 x49 x50 : Int) : Bool :=
 (if decide (x50 < x49) then (if !found c.n fun i => cmpS (c.line i).st ((c.line x14.toNat).from_ x50.toNat) then (allT (g16_2_1 c x13 x14 x49 x50)) else (allT (g16_2_2 c x13 x14 x49 x50))) else (if (↑(c.line x14.toNat).k : Int) == 0 then (if !arr (c.line x14.toNat).st then (allT (g16_2_3 c x13 x14 x49 x50)) else (if (c.line x14.toNat).mass != 1048576 then (allT (g16_2_4 c x13 x14 x49 x50)) else (allT (g16_2_5 c x13 x14 x49 x50)))) else (allT (g16_2_6 c x13 x14 x49 x50))))
def step16_2 (c : Ct) (x13 x14 x49 x50 : Int) : Option (S16 ⊕ T) := if K16_2 c x13 x14 x49 x50 then some (V16_2 c x13 x14 x49 x50) else none
theorem T16_2 (c : Ct) (x13 x14 x49 x50 : Int) (hk : K16_2 c x13 x14 x49 x50 = true) : step16_2 c x13 x14 x49 x50 = some (V16_2 c x13 x14 x49 x50) := if_pos hk
def V16_s (c : Ct) : S16 ⊕ T :=
 (.inl (.l0 (↑c.n : Int) 0))
def K16_s (c : Ct) : Bool :=
 (allT (g16_s_1 c))
def step16 (c : Ct) : S16 → Option (S16 ⊕ T)
 | .l0 x13 x14 => step16_0 c x13 x14
 | .l1 x13 x14 x20 x21 => step16_1 c x13 x14 x20 x21
 | .l2 x13 x14 x49 x50 => step16_2 c x13 x14 x49 x50
def M16 (c : Ct) : Mch S16 where
 lp := fun σ => match σ with
  | .l0 .. => 0
  | .l1 .. => 1
  | .l2 .. => 2
 keep := fun ι => match ι with
  | 0 => [1, 12, 13, 14]
  | 1 => [1, 4, 12, 13, 14, 19, 20, 21]
  | 2 => [1, 4, 12, 13, 14, 48, 49, 50]
  | _ => []
 par := fun ι => match ι with
  | 0 => []
  | 1 => [0]
  | 2 => [0]
  | _ => []
 vs := fun σ => match σ with
  | .l0 x13 x14 => [(ctT c).ref 0, T.slf false c.n fun i => lnT (c.line i), T.int .i64 x13, T.int .i64 x14]
  | .l1 x13 x14 x20 x21 => [(ctT c).ref 0, (lnT (c.line x14.toNat)).ref 0, T.slf false c.n fun i => lnT (c.line i), T.int .i64 x13, T.int .i64 x14, T.slf false (c.line x14.toNat).k fun i => spT ((c.line x14.toNat).from_ i), T.int .i64 x20, T.int .i64 x21]
  | .l2 x13 x14 x49 x50 => [(ctT c).ref 0, (lnT (c.line x14.toNat)).ref 0, T.slf false c.n fun i => lnT (c.line i), T.int .i64 x13, T.int .i64 x14, T.slf false (c.line x14.toNat).k fun i => spT ((c.line x14.toNat).from_ i), T.int .i64 x49, T.int .i64 x50]
 hp := fun _ => ⟨0, []⟩
 len := 80
 step := step16 c
def r16_0 (c : Ct) (x13 x14 : Int) (fr : List T) (ds : List Bool) : RD Out := (M16 c).rk prog D9 F0 f34 (.l0 x13 x14) fr ds
theorem w16_0_1 (c : Ct) (x13 x14 : Int) (fr : List T) : (M16 c).wl prog f34 (r16_0 c x13 x14 fr [true]) 0 (g16_0_1 c x13 x14) (.l1 x13 x14 (↑(c.line x14.toNat).k : Int) 0) := by unfold Mch.wl; kernel_rfl
theorem w16_0_2 (c : Ct) (x13 x14 : Int) (fr : List T) : outK prog f34 20 [] (r16_0 c x13 x14 fr [false]) = wdn (T.int .i64 0) (g16_0_2 c x13 x14) := by kernel_rfl
def r16_1 (c : Ct) (x13 x14 x20 x21 : Int) (fr : List T) (ds : List Bool) : RD Out := (M16 c).rk prog D9 F0 f34 (.l1 x13 x14 x20 x21) fr ds
theorem w16_1_1 (c : Ct) (x13 x14 x20 x21 : Int) (fr : List T) : outK prog f34 20 [] (r16_1 c x13 x14 x20 x21 fr (bt 18 262143)) = wdn (T.int .i64 24) (g16_1_1 c x13 x14 x20 x21) := by kernel_rfl
theorem w16_1_2 (c : Ct) (x13 x14 x20 x21 : Int) (fr : List T) : outK prog f34 20 [] (r16_1 c x13 x14 x20 x21 fr (bt 18 133119)) = wdn (T.int .i64 24) (g16_1_2 c x13 x14 x20 x21) := by kernel_rfl
theorem w16_1_3 (c : Ct) (x13 x14 x20 x21 : Int) (fr : List T) : (M16 c).wa prog f34 (r16_1 c x13 x14 x20 x21 fr (bt 18 2047)) 0 (g16_1_3 c x13 x14 x20 x21) (.l1 x13 x14 x20 (IntKind.i64.wrap (x21 + 1))) := by unfold Mch.wa; kernel_rfl
theorem w16_1_4 (c : Ct) (x13 x14 x20 x21 : Int) (fr : List T) : outK prog f34 20 [] (r16_1 c x13 x14 x20 x21 fr (bt 18 131073)) = wdn (T.int .i64 24) (g16_1_4 c x13 x14 x20 x21) := by kernel_rfl
theorem w16_1_5 (c : Ct) (x13 x14 x20 x21 : Int) (fr : List T) : (M16 c).wa prog f34 (r16_1 c x13 x14 x20 x21 fr (bt 18 1)) 0 (g16_1_5 c x13 x14 x20 x21) (.l1 x13 x14 x20 (IntKind.i64.wrap (x21 + 1))) := by unfold Mch.wa; kernel_rfl
theorem w16_1_6 (c : Ct) (x13 x14 x20 x21 : Int) (fr : List T) : (M16 c).wl prog f34 (r16_1 c x13 x14 x20 x21 fr [false]) 1 (g16_1_6 c x13 x14 x20 x21) (.l2 x13 x14 (↑(c.line x14.toNat).k : Int) 0) := by unfold Mch.wl; kernel_rfl
def r16_2 (c : Ct) (x13 x14 x49 x50 : Int) (fr : List T) (ds : List Bool) : RD Out := (M16 c).rk prog D9 F0 f34 (.l2 x13 x14 x49 x50) fr ds
theorem w16_2_1 (c : Ct) (x13 x14 x49 x50 : Int) (fr : List T) : outK prog f34 20 [] (r16_2 c x13 x14 x49 x50 fr [true, true]) = wdn (T.int .i64 8) (g16_2_1 c x13 x14 x49 x50) := by kernel_rfl
theorem w16_2_2 (c : Ct) (x13 x14 x49 x50 : Int) (fr : List T) : (M16 c).wa prog f34 (r16_2 c x13 x14 x49 x50 fr [true, false]) 0 (g16_2_2 c x13 x14 x49 x50) (.l2 x13 x14 x49 (IntKind.i64.wrap (x50 + 1))) := by unfold Mch.wa; kernel_rfl
theorem w16_2_3 (c : Ct) (x13 x14 x49 x50 : Int) (fr : List T) : outK prog f34 20 [] (r16_2 c x13 x14 x49 x50 fr (bt 13 8190)) = wdn (T.int .i64 38) (g16_2_3 c x13 x14 x49 x50) := by kernel_rfl
theorem w16_2_4 (c : Ct) (x13 x14 x49 x50 : Int) (fr : List T) : outK prog f34 20 [] (r16_2 c x13 x14 x49 x50 fr (bt 13 6718)) = wdn (T.int .i64 38) (g16_2_4 c x13 x14 x49 x50) := by kernel_rfl
theorem w16_2_5 (c : Ct) (x13 x14 x49 x50 : Int) (fr : List T) : (M16 c).wa prog f34 (r16_2 c x13 x14 x49 x50 fr (bt 13 2622)) 1 (g16_2_5 c x13 x14 x49 x50) (.l0 x13 (IntKind.i64.wrap (x14 + 1))) := by unfold Mch.wa; kernel_rfl
theorem w16_2_6 (c : Ct) (x13 x14 x49 x50 : Int) (fr : List T) : (M16 c).wa prog f34 (r16_2 c x13 x14 x49 x50 fr (bt 9 0)) 1 (g16_2_6 c x13 x14 x49 x50) (.l0 x13 (IntKind.i64.wrap (x14 + 1))) := by unfold Mch.wa; kernel_rfl
theorem w16_s_1 (c : Ct) : (M16 c).wl prog f34 (runK prog D9 F0 2000 (.code (bodyOf f34)) [] 0 ([ctT c] ++ List.replicate 79 undefT) ⟨0, []⟩ [] []) 0 (g16_s_1 c) (.l0 (↑c.n : Int) 0) := by unfold Mch.wl; kernel_rfl
theorem ways16 (c : Ct) : (M16 c).Ways prog D9 F0 f34 20 := by
 intro σ o fr h
 cases σ with
 | l0 x13 x14 =>
  obtain ⟨hk, ho⟩ := kv_some (K := K16_0 c x13 x14) (V := V16_0 c x13 x14) h
  exact (wk_if (kL (w16_0_1 c x13 x14 fr) rfl) (kD (w16_0_2 c x13 x14 fr))) hk o ho
 | l1 x13 x14 x20 x21 =>
  obtain ⟨hk, ho⟩ := kv_some (K := K16_1 c x13 x14 x20 x21) (V := V16_1 c x13 x14 x20 x21) h
  exact (wk_if (wk_if (wk_if (kD (w16_1_1 c x13 x14 x20 x21 fr)) (wk_if (kD (w16_1_2 c x13 x14 x20 x21 fr)) (kA (w16_1_3 c x13 x14 x20 x21 fr) rfl))) (wk_if (kD (w16_1_4 c x13 x14 x20 x21 fr)) (kA (w16_1_5 c x13 x14 x20 x21 fr) rfl))) (kL (w16_1_6 c x13 x14 x20 x21 fr) rfl)) hk o ho
 | l2 x13 x14 x49 x50 =>
  obtain ⟨hk, ho⟩ := kv_some (K := K16_2 c x13 x14 x49 x50) (V := V16_2 c x13 x14 x49 x50) h
  exact (wk_if (wk_if (kD (w16_2_1 c x13 x14 x49 x50 fr)) (kA (w16_2_2 c x13 x14 x49 x50 fr) rfl)) (wk_if (wk_if (kD (w16_2_3 c x13 x14 x49 x50 fr)) (wk_if (kD (w16_2_4 c x13 x14 x49 x50 fr)) (kA (w16_2_5 c x13 x14 x49 x50 fr) rfl))) (kA (w16_2_6 c x13 x14 x49 x50 fr) rfl))) hk o ho
theorem oks16 (c : Ct) : ∀ σ, Ps.codeOk (loopAt f34 ((M16 c).lp σ)).1 = true ∧ ksOk (.lp :: (loopAt f34 ((M16 c).lp σ)).2) = true := oks_of 3 (by kernel_rfl) (by intro σ; cases σ <;> exact Nat.le_of_ble_eq_true rfl)
theorem c16 (c : Ct) (n : Nat) {r : T} (hk : K16_s c = true) (hr : (M16 c).fin n (V16_s c) = some r) : PureFn prog gl 34 [ctT c] r :=
 pure_mach (M := (M16 c)) (fn := f34) (k := 20) (d := 8) (c := bodyOf f34) cx9 glFrz (by kernel_rfl) func34 (by kernel_rfl) rfl (by kernel_rfl) (by kernel_rfl) (L := 79) (by kernel_rfl) (ways16 c) (oks16 c) ((kL (w16_s_1 c) rfl) hk _ rfl) hr
/-! ### 18 -/
inductive S18 where
 | l0 (x13 x14 : Int)
 | l1 (x5 x6 x13 x14 x20 x21 : Int)
def g18_s_1 (c : Ct) : List Bool := []
def g18_0_1 (c : Ct) (x13 x14 : Int) : List Bool := [true, true, decide (0 ≤ x14), decide (x14 < (↑c.n : Int)), true, decide (x14 < x13)]
def g18_0_2 (c : Ct) (x13 x14 : Int) : List Bool := [!decide (x14 < x13)]
def k18_1_0 (c : Ct) (x5 x6 x13 x14 x20 x21 : Int) : List Bool := let y0 := decide ((↑(bs c.n fun i => cmpS (c.line i).st ((c.line x14.toNat).from_ x21.toNat)) : Int) < (↑c.n : Int)); [true, y0, true, true, y0, true, isV (T.slf false c.n fun i => lnT (c.line i)) (lsT c.n c.line), isV (spT ((c.line x14.toNat).from_ x21.toNat)) (spT ((c.line x14.toNat).from_ x21.toNat)), modestB c.n c.line, true, true, decide (0 ≤ x21), decide (x21 < (↑(c.line x14.toNat).k : Int)), true, decide (x21 < x20)]
def k18_1_1 (c : Ct) (x5 x6 x13 x14 x20 x21 : Int) : List Bool := let y0 := decide (x5 > 0); [y0, y0, y0, y0, y0, y0, !decide (x21 < x20)]
def k18_1_2 (c : Ct) (x5 x6 x13 x14 x20 x21 : Int) : List Bool := let y0 := decide (x5 > 0); y0 :: y0 :: y0 :: y0 :: y0 :: (!decide (x5 < (↑(c.line x14.toNat).k : Int))) :: k18_1_1 c x5 x6 x13 x14 x20 x21
def g18_1_1 (c : Ct) (x5 x6 x13 x14 x20 x21 : Int) : List Bool := ((c.line (↑(bs c.n fun i => cmpS (c.line i).st ((c.line x14.toNat).from_ x21.toNat)) : Int).toNat).fate == 2) :: k18_1_0 c x5 x6 x13 x14 x20 x21
def g18_1_2 (c : Ct) (x5 x6 x13 x14 x20 x21 : Int) : List Bool := (!(c.line (↑(bs c.n fun i => cmpS (c.line i).st ((c.line x14.toNat).from_ x21.toNat)) : Int).toNat).fate == 2) :: k18_1_0 c x5 x6 x13 x14 x20 x21
def g18_1_3 (c : Ct) (x5 x6 x13 x14 x20 x21 : Int) : List Bool := (decide (x5 < (↑(c.line x14.toNat).k : Int))) :: k18_1_1 c x5 x6 x13 x14 x20 x21
def g18_1_4 (c : Ct) (x5 x6 x13 x14 x20 x21 : Int) : List Bool := (x6 != (c.line x14.toNat).mass) :: k18_1_2 c x5 x6 x13 x14 x20 x21
def g18_1_5 (c : Ct) (x5 x6 x13 x14 x20 x21 : Int) : List Bool := (!x6 != (c.line x14.toNat).mass) :: k18_1_2 c x5 x6 x13 x14 x20 x21
def g18_1_6 (c : Ct) (x5 x6 x13 x14 x20 x21 : Int) : List Bool := let y0 := decide (x5 > 0); [true, !y0, !y0, !y0, !y0, !y0, true, !y0, !y0, !y0, !y0, !y0, !y0, !decide (x21 < x20)]
def V18_0 (c : Ct) (x13 x14 : Int) : S18 ⊕ T :=
 (if decide (x14 < x13) then (.inl (.l1 0 0 x13 x14 (↑(c.line x14.toNat).k : Int) 0)) else (.inr (T.int .i64 0)))
def K18_0 (c : Ct) (x13 x14 : Int) : Bool :=
 (if decide (x14 < x13) then (allT (g18_0_1 c x13 x14)) else (allT (g18_0_2 c x13 x14)))
def step18_0 (c : Ct) (x13 x14 : Int) : Option (S18 ⊕ T) := if K18_0 c x13 x14 then some (V18_0 c x13 x14) else none
theorem T18_0 (c : Ct) (x13 x14 : Int) (hk : K18_0 c x13 x14 = true) : step18_0 c x13 x14 = some (V18_0 c x13 x14) := if_pos hk
def V18_1 (c : Ct) (x5 x6 x13 x14 x20 x21 : Int) : S18 ⊕ T :=
 (if decide (x21 < x20) then (if (c.line (↑(bs c.n fun i => cmpS (c.line i).st ((c.line x14.toNat).from_ x21.toNat)) : Int).toNat).fate == 2 then (.inl (.l1 (IntKind.i64.wrap (x5 + 1)) (IntKind.i64.wrap (x6 + (c.line (↑(bs c.n fun i => cmpS (c.line i).st ((c.line x14.toNat).from_ x21.toNat)) : Int).toNat).mass)) x13 x14 x20 (IntKind.i64.wrap (x21 + 1)))) else (.inl (.l1 x5 (IntKind.i64.wrap (x6 + (c.line (↑(bs c.n fun i => cmpS (c.line i).st ((c.line x14.toNat).from_ x21.toNat)) : Int).toNat).mass)) x13 x14 x20 (IntKind.i64.wrap (x21 + 1))))) else (if decide (x5 > 0) then (if decide (x5 < (↑(c.line x14.toNat).k : Int)) then (.inr (T.int .i64 10)) else (if x6 != (c.line x14.toNat).mass then (.inr (T.int .i64 38)) else (.inl (.l0 x13 (IntKind.i64.wrap (x14 + 1)))))) else (.inl (.l0 x13 (IntKind.i64.wrap (x14 + 1))))))
def K18_1 (c : Ct) (x5 x6 x13 x14 x20 x21 : Int) : Bool :=
 (if decide (x21 < x20) then (if (c.line (↑(bs c.n fun i => cmpS (c.line i).st ((c.line x14.toNat).from_ x21.toNat)) : Int).toNat).fate == 2 then (allT (g18_1_1 c x5 x6 x13 x14 x20 x21)) else (allT (g18_1_2 c x5 x6 x13 x14 x20 x21))) else (if decide (x5 > 0) then (if decide (x5 < (↑(c.line x14.toNat).k : Int)) then (allT (g18_1_3 c x5 x6 x13 x14 x20 x21)) else (if x6 != (c.line x14.toNat).mass then (allT (g18_1_4 c x5 x6 x13 x14 x20 x21)) else (allT (g18_1_5 c x5 x6 x13 x14 x20 x21)))) else (allT (g18_1_6 c x5 x6 x13 x14 x20 x21))))
def step18_1 (c : Ct) (x5 x6 x13 x14 x20 x21 : Int) : Option (S18 ⊕ T) := if K18_1 c x5 x6 x13 x14 x20 x21 then some (V18_1 c x5 x6 x13 x14 x20 x21) else none
theorem T18_1 (c : Ct) (x5 x6 x13 x14 x20 x21 : Int) (hk : K18_1 c x5 x6 x13 x14 x20 x21 = true) : step18_1 c x5 x6 x13 x14 x20 x21 = some (V18_1 c x5 x6 x13 x14 x20 x21) := if_pos hk
def V18_s (c : Ct) : S18 ⊕ T :=
 (.inl (.l0 (↑c.n : Int) 0))
def K18_s (c : Ct) : Bool :=
 (allT (g18_s_1 c))
def step18 (c : Ct) : S18 → Option (S18 ⊕ T)
 | .l0 x13 x14 => step18_0 c x13 x14
 | .l1 x5 x6 x13 x14 x20 x21 => step18_1 c x5 x6 x13 x14 x20 x21
def M18 (c : Ct) : Mch S18 where
 lp := fun σ => match σ with
  | .l0 .. => 0
  | .l1 .. => 1
 keep := fun ι => match ι with
  | 0 => [1, 12, 13, 14]
  | 1 => [1, 4, 5, 6, 12, 13, 14, 19, 20, 21]
  | _ => []
 par := fun ι => match ι with
  | 0 => []
  | 1 => [0]
  | _ => []
 vs := fun σ => match σ with
  | .l0 x13 x14 => [(ctT c).ref 0, T.slf false c.n fun i => lnT (c.line i), T.int .i64 x13, T.int .i64 x14]
  | .l1 x5 x6 x13 x14 x20 x21 => [(ctT c).ref 0, (lnT (c.line x14.toNat)).ref 0, T.int .i64 x5, T.int .i64 x6, T.slf false c.n fun i => lnT (c.line i), T.int .i64 x13, T.int .i64 x14, T.slf false (c.line x14.toNat).k fun i => spT ((c.line x14.toNat).from_ i), T.int .i64 x20, T.int .i64 x21]
 hp := fun _ => ⟨0, []⟩
 len := 70
 step := step18 c
def r18_0 (c : Ct) (x13 x14 : Int) (fr : List T) (ds : List Bool) : RD Out := (M18 c).rk prog D9 F0 f36 (.l0 x13 x14) fr ds
theorem w18_0_1 (c : Ct) (x13 x14 : Int) (fr : List T) : (M18 c).wl prog f36 (r18_0 c x13 x14 fr [true]) 0 (g18_0_1 c x13 x14) (.l1 0 0 x13 x14 (↑(c.line x14.toNat).k : Int) 0) := by unfold Mch.wl; kernel_rfl
theorem w18_0_2 (c : Ct) (x13 x14 : Int) (fr : List T) : outK prog f36 20 [] (r18_0 c x13 x14 fr [false]) = wdn (T.int .i64 0) (g18_0_2 c x13 x14) := by kernel_rfl
def r18_1 (c : Ct) (x5 x6 x13 x14 x20 x21 : Int) (fr : List T) (ds : List Bool) : RD Out := (M18 c).rk prog D9 F0 f36 (.l1 x5 x6 x13 x14 x20 x21) fr ds
theorem w18_1_1 (c : Ct) (x5 x6 x13 x14 x20 x21 : Int) (fr : List T) : (M18 c).wa prog f36 (r18_1 c x5 x6 x13 x14 x20 x21 fr [true, true]) 0 (g18_1_1 c x5 x6 x13 x14 x20 x21) (.l1 (IntKind.i64.wrap (x5 + 1)) (IntKind.i64.wrap (x6 + (c.line (↑(bs c.n fun i => cmpS (c.line i).st ((c.line x14.toNat).from_ x21.toNat)) : Int).toNat).mass)) x13 x14 x20 (IntKind.i64.wrap (x21 + 1))) := by unfold Mch.wa; kernel_rfl
theorem w18_1_2 (c : Ct) (x5 x6 x13 x14 x20 x21 : Int) (fr : List T) : (M18 c).wa prog f36 (r18_1 c x5 x6 x13 x14 x20 x21 fr [true, false]) 0 (g18_1_2 c x5 x6 x13 x14 x20 x21) (.l1 x5 (IntKind.i64.wrap (x6 + (c.line (↑(bs c.n fun i => cmpS (c.line i).st ((c.line x14.toNat).from_ x21.toNat)) : Int).toNat).mass)) x13 x14 x20 (IntKind.i64.wrap (x21 + 1))) := by unfold Mch.wa; kernel_rfl
theorem w18_1_3 (c : Ct) (x5 x6 x13 x14 x20 x21 : Int) (fr : List T) : outK prog f36 20 [] (r18_1 c x5 x6 x13 x14 x20 x21 fr (bt 8 254)) = wdn (T.int .i64 10) (g18_1_3 c x5 x6 x13 x14 x20 x21) := by kernel_rfl
theorem w18_1_4 (c : Ct) (x5 x6 x13 x14 x20 x21 : Int) (fr : List T) : outK prog f36 20 [] (r18_1 c x5 x6 x13 x14 x20 x21 fr (bt 14 16254)) = wdn (T.int .i64 38) (g18_1_4 c x5 x6 x13 x14 x20 x21) := by kernel_rfl
theorem w18_1_5 (c : Ct) (x5 x6 x13 x14 x20 x21 : Int) (fr : List T) : (M18 c).wa prog f36 (r18_1 c x5 x6 x13 x14 x20 x21 fr (bt 14 8062)) 1 (g18_1_5 c x5 x6 x13 x14 x20 x21) (.l0 x13 (IntKind.i64.wrap (x14 + 1))) := by unfold Mch.wa; kernel_rfl
theorem w18_1_6 (c : Ct) (x5 x6 x13 x14 x20 x21 : Int) (fr : List T) : (M18 c).wa prog f36 (r18_1 c x5 x6 x13 x14 x20 x21 fr (bt 14 0)) 1 (g18_1_6 c x5 x6 x13 x14 x20 x21) (.l0 x13 (IntKind.i64.wrap (x14 + 1))) := by unfold Mch.wa; kernel_rfl
theorem w18_s_1 (c : Ct) : (M18 c).wl prog f36 (runK prog D9 F0 2000 (.code (bodyOf f36)) [] 0 ([ctT c] ++ List.replicate 69 undefT) ⟨0, []⟩ [] []) 0 (g18_s_1 c) (.l0 (↑c.n : Int) 0) := by unfold Mch.wl; kernel_rfl
theorem ways18 (c : Ct) : (M18 c).Ways prog D9 F0 f36 20 := by
 intro σ o fr h
 cases σ with
 | l0 x13 x14 =>
  obtain ⟨hk, ho⟩ := kv_some (K := K18_0 c x13 x14) (V := V18_0 c x13 x14) h
  exact (wk_if (kL (w18_0_1 c x13 x14 fr) rfl) (kD (w18_0_2 c x13 x14 fr))) hk o ho
 | l1 x5 x6 x13 x14 x20 x21 =>
  obtain ⟨hk, ho⟩ := kv_some (K := K18_1 c x5 x6 x13 x14 x20 x21) (V := V18_1 c x5 x6 x13 x14 x20 x21) h
  exact (wk_if (wk_if (kA (w18_1_1 c x5 x6 x13 x14 x20 x21 fr) rfl) (kA (w18_1_2 c x5 x6 x13 x14 x20 x21 fr) rfl)) (wk_if (wk_if (kD (w18_1_3 c x5 x6 x13 x14 x20 x21 fr)) (wk_if (kD (w18_1_4 c x5 x6 x13 x14 x20 x21 fr)) (kA (w18_1_5 c x5 x6 x13 x14 x20 x21 fr) rfl))) (kA (w18_1_6 c x5 x6 x13 x14 x20 x21 fr) rfl))) hk o ho
theorem oks18 (c : Ct) : ∀ σ, Ps.codeOk (loopAt f36 ((M18 c).lp σ)).1 = true ∧ ksOk (.lp :: (loopAt f36 ((M18 c).lp σ)).2) = true := oks_of 2 (by kernel_rfl) (by intro σ; cases σ <;> exact Nat.le_of_ble_eq_true rfl)
theorem c18 (c : Ct) (n : Nat) {r : T} (hk : K18_s c = true) (hr : (M18 c).fin n (V18_s c) = some r) : PureFn prog gl 36 [ctT c] r :=
 pure_mach (M := (M18 c)) (fn := f36) (k := 20) (d := 8) (c := bodyOf f36) cx9 glFrz (by kernel_rfl) func36 (by kernel_rfl) rfl (by kernel_rfl) (by kernel_rfl) (L := 69) (by kernel_rfl) (ways18 c) (oks18 c) ((kL (w18_s_1 c) rfl) hk _ rfl) hr
/-! ### 21 -/
inductive S21 where
 | l0 (x6 : Int)
 | l1 (x7 : Int)
def g21_s_1 (c : Ct) (i : Int) : List Bool := [true, true, decide (0 ≤ i), decide (i < (↑c.n : Int)), true]
def k21_0_0 (c : Ct) (i x6 : Int) : List Bool := [decide (x6 < (↑(c.line i.toNat).k : Int))]
def k21_0_1 (c : Ct) (i x6 : Int) : List Bool := let y0 := decide (x6 > 0); y0 :: y0 :: (isV (spT ((c.line i.toNat).from_ (IntKind.i64.wrap (x6 - 1)).toNat)) (spT ((c.line i.toNat).from_ (IntKind.i64.wrap (x6 - 1)).toNat))) :: (isV (spT ((c.line i.toNat).from_ x6.toNat)) (spT ((c.line i.toNat).from_ x6.toNat))) :: (decide (((c.line i.toNat).from_ (IntKind.i64.wrap (x6 - 1)).toNat).n ≤ 281474976710656)) :: y0 :: y0 :: (decide (0 ≤ x6)) :: (decide (x6 < (↑(c.line i.toNat).k : Int))) :: true :: y0 :: y0 :: y0 :: y0 :: y0 :: (decide (0 ≤ IntKind.i64.wrap (x6 - 1))) :: (decide (IntKind.i64.wrap (x6 - 1) < (↑(c.line i.toNat).k : Int))) :: true :: y0 :: y0 :: y0 :: y0 :: y0 :: k21_0_0 c i x6
def k21_0_2 (c : Ct) (i x6 : Int) : List Bool := let y0 := decide (cmpS ((c.line i.toNat).from_ (IntKind.i64.wrap (x6 - 1)).toNat) ((c.line i.toNat).from_ x6.toNat) ≥ 0); (!y0) :: (!y0) :: (isV (spT ((c.line i.toNat).from_ x6.toNat)) (spT ((c.line i.toNat).from_ x6.toNat))) :: (isV (spT (c.line i.toNat).st) (spT (c.line i.toNat).st)) :: (decide (((c.line i.toNat).from_ x6.toNat).n ≤ 281474976710656)) :: (!y0) :: (!y0) :: (!y0) :: (!y0) :: (decide (0 ≤ x6)) :: (decide (x6 < (↑(c.line i.toNat).k : Int))) :: true :: (!y0) :: (!y0) :: (!y0) :: (!y0) :: k21_0_1 c i x6
def k21_0_3 (c : Ct) (i x6 : Int) : List Bool := let y0 := decide (x6 > 0); true :: true :: (isV (spT ((c.line i.toNat).from_ x6.toNat)) (spT ((c.line i.toNat).from_ x6.toNat))) :: (isV (spT (c.line i.toNat).st) (spT (c.line i.toNat).st)) :: (decide (((c.line i.toNat).from_ x6.toNat).n ≤ 281474976710656)) :: true :: true :: true :: true :: (decide (0 ≤ x6)) :: (decide (x6 < (↑(c.line i.toNat).k : Int))) :: true :: true :: true :: true :: true :: (!y0) :: (!y0) :: (!y0) :: (!y0) :: (!y0) :: (!y0) :: (!y0) :: (!y0) :: (!y0) :: (!y0) :: (!y0) :: (!y0) :: (!y0) :: (!y0) :: k21_0_0 c i x6
def g21_0_1 (c : Ct) (i x6 : Int) : List Bool := let y0 := decide (cmpS ((c.line i.toNat).from_ (IntKind.i64.wrap (x6 - 1)).toNat) ((c.line i.toNat).from_ x6.toNat) ≥ 0); true :: y0 :: y0 :: y0 :: y0 :: y0 :: y0 :: y0 :: y0 :: y0 :: y0 :: k21_0_1 c i x6
def g21_0_2 (c : Ct) (i x6 : Int) : List Bool := (decide (cmpS ((c.line i.toNat).from_ x6.toNat) (c.line i.toNat).st ≥ 0)) :: k21_0_2 c i x6
def g21_0_3 (c : Ct) (i x6 : Int) : List Bool := (!decide (cmpS ((c.line i.toNat).from_ x6.toNat) (c.line i.toNat).st ≥ 0)) :: k21_0_2 c i x6
def g21_0_4 (c : Ct) (i x6 : Int) : List Bool := (decide (cmpS ((c.line i.toNat).from_ x6.toNat) (c.line i.toNat).st ≥ 0)) :: k21_0_3 c i x6
def g21_0_5 (c : Ct) (i x6 : Int) : List Bool := (!decide (cmpS ((c.line i.toNat).from_ x6.toNat) (c.line i.toNat).st ≥ 0)) :: k21_0_3 c i x6
def g21_0_6 (c : Ct) (i x6 : Int) : List Bool := [!decide (x6 < (↑(c.line i.toNat).k : Int))]
def k21_1_0 (c : Ct) (i x7 : Int) : List Bool := let y0 := decide (x7 < (↑(c.line i.toNat).k : Int)); [isV (T.slf false c.n fun i => lnT (c.line i)) (lsT c.n c.line), isV (spT ((c.line i.toNat).from_ x7.toNat)) (spT ((c.line i.toNat).from_ x7.toNat)), modestB c.n c.line, decide (0 ≤ x7), y0, true, y0]
def k21_1_1 (c : Ct) (i x7 : Int) : List Bool := [!decide (x7 < (↑(c.line i.toNat).k : Int))]
def k21_1_2 (c : Ct) (i x7 : Int) : List Bool := let y0 := (↑(c.line i.toNat).k : Int) == 0; y0 :: y0 :: (isV (spT (c.line i.toNat).st) (spT (c.line i.toNat).st)) :: y0 :: y0 :: y0 :: k21_1_1 c i x7
def k21_1_3 (c : Ct) (i x7 : Int) : List Bool := let y0 := (↑(c.line i.toNat).k : Int) == 0; let y1 := arr (c.line i.toNat).st; y0 :: (!!y1) :: y0 :: (!!y1) :: (!!y1) :: (!!y1) :: k21_1_2 c i x7
def g21_1_1 (c : Ct) (i x7 : Int) : List Bool := (decide ((idx c.n fun i_1 => eqS (c.line i_1).st ((c.line i.toNat).from_ x7.toNat)) < 0)) :: k21_1_0 c i x7
def g21_1_2 (c : Ct) (i x7 : Int) : List Bool := (!decide ((idx c.n fun i_1 => eqS (c.line i_1).st ((c.line i.toNat).from_ x7.toNat)) < 0)) :: k21_1_0 c i x7
def g21_1_3 (c : Ct) (i x7 : Int) : List Bool := let y0 := (↑(c.line i.toNat).k : Int) == 0; let y1 := arr (c.line i.toNat).st; true :: y0 :: (!y1) :: y0 :: (!y1) :: (!y1) :: (!y1) :: k21_1_2 c i x7
def g21_1_4 (c : Ct) (i x7 : Int) : List Bool := ((c.line i.toNat).mass != 1048576) :: k21_1_3 c i x7
def g21_1_5 (c : Ct) (i x7 : Int) : List Bool := (!(c.line i.toNat).mass != 1048576) :: k21_1_3 c i x7
def g21_1_6 (c : Ct) (i x7 : Int) : List Bool := let y0 := (↑(c.line i.toNat).k : Int) == 0; true :: (!y0) :: (!y0) :: (!y0) :: (!y0) :: (!y0) :: (!y0) :: (!y0) :: k21_1_1 c i x7
def V21_0 (c : Ct) (i x6 : Int) : S21 ⊕ T :=
 (if decide (x6 < (↑(c.line i.toNat).k : Int)) then (if decide (x6 > 0) then (if decide (cmpS ((c.line i.toNat).from_ (IntKind.i64.wrap (x6 - 1)).toNat) ((c.line i.toNat).from_ x6.toNat) ≥ 0) then (.inr (T.int .i64 24)) else (if decide (cmpS ((c.line i.toNat).from_ x6.toNat) (c.line i.toNat).st ≥ 0) then (.inr (T.int .i64 24)) else (.inl (.l0 (IntKind.i64.wrap (x6 + 1)))))) else (if decide (cmpS ((c.line i.toNat).from_ x6.toNat) (c.line i.toNat).st ≥ 0) then (.inr (T.int .i64 24)) else (.inl (.l0 (IntKind.i64.wrap (x6 + 1)))))) else (.inl (.l1 0)))
def K21_0 (c : Ct) (i x6 : Int) : Bool :=
 (if decide (x6 < (↑(c.line i.toNat).k : Int)) then (if decide (x6 > 0) then (if decide (cmpS ((c.line i.toNat).from_ (IntKind.i64.wrap (x6 - 1)).toNat) ((c.line i.toNat).from_ x6.toNat) ≥ 0) then (allT (g21_0_1 c i x6)) else (if decide (cmpS ((c.line i.toNat).from_ x6.toNat) (c.line i.toNat).st ≥ 0) then (allT (g21_0_2 c i x6)) else (allT (g21_0_3 c i x6)))) else (if decide (cmpS ((c.line i.toNat).from_ x6.toNat) (c.line i.toNat).st ≥ 0) then (allT (g21_0_4 c i x6)) else (allT (g21_0_5 c i x6)))) else (allT (g21_0_6 c i x6)))
def step21_0 (c : Ct) (i x6 : Int) : Option (S21 ⊕ T) := if K21_0 c i x6 then some (V21_0 c i x6) else none
theorem T21_0 (c : Ct) (i x6 : Int) (hk : K21_0 c i x6 = true) : step21_0 c i x6 = some (V21_0 c i x6) := if_pos hk
def V21_1 (c : Ct) (i x7 : Int) : S21 ⊕ T :=
 (if decide (x7 < (↑(c.line i.toNat).k : Int)) then (if decide ((idx c.n fun i_1 => eqS (c.line i_1).st ((c.line i.toNat).from_ x7.toNat)) < 0) then (.inr (T.int .i64 8)) else (.inl (.l1 (IntKind.i64.wrap (x7 + 1))))) else (if (↑(c.line i.toNat).k : Int) == 0 then (if !arr (c.line i.toNat).st then (.inr (T.int .i64 38)) else (if (c.line i.toNat).mass != 1048576 then (.inr (T.int .i64 38)) else (.inr (T.int .i64 0)))) else (.inr (T.int .i64 0))))
def K21_1 (c : Ct) (i x7 : Int) : Bool :=
 (if decide (x7 < (↑(c.line i.toNat).k : Int)) then (if decide ((idx c.n fun i_1 => eqS (c.line i_1).st ((c.line i.toNat).from_ x7.toNat)) < 0) then (allT (g21_1_1 c i x7)) else (allT (g21_1_2 c i x7))) else (if (↑(c.line i.toNat).k : Int) == 0 then (if !arr (c.line i.toNat).st then (allT (g21_1_3 c i x7)) else (if (c.line i.toNat).mass != 1048576 then (allT (g21_1_4 c i x7)) else (allT (g21_1_5 c i x7)))) else (allT (g21_1_6 c i x7))))
def step21_1 (c : Ct) (i x7 : Int) : Option (S21 ⊕ T) := if K21_1 c i x7 then some (V21_1 c i x7) else none
theorem T21_1 (c : Ct) (i x7 : Int) (hk : K21_1 c i x7 = true) : step21_1 c i x7 = some (V21_1 c i x7) := if_pos hk
def V21_s (c : Ct) (i : Int) : S21 ⊕ T :=
 (.inl (.l0 0))
def K21_s (c : Ct) (i : Int) : Bool :=
 (allT (g21_s_1 c i))
def step21 (c : Ct) (i : Int) : S21 → Option (S21 ⊕ T)
 | .l0 x6 => step21_0 c i x6
 | .l1 x7 => step21_1 c i x7
def M21 (c : Ct) (i : Int) : Mch S21 where
 lp := fun σ => match σ with
  | .l0 .. => 0
  | .l1 .. => 1
 keep := fun ι => match ι with
  | 0 => [2, 5, 6]
  | 1 => [2, 5, 7]
  | _ => []
 par := fun ι => match ι with
  | 0 => []
  | 1 => []
  | _ => []
 vs := fun σ => match σ with
  | .l0 x6 => [(ctT c).ref 0, (lnT (c.line i.toNat)).ref 0, T.int .i64 x6]
  | .l1 x7 => [(ctT c).ref 0, (lnT (c.line i.toNat)).ref 0, T.int .i64 x7]
 hp := fun _ => ⟨0, []⟩
 len := 79
 step := step21 c i
def r21_0 (c : Ct) (i x6 : Int) (fr : List T) (ds : List Bool) : RD Out := (M21 c i).rk prog D9 F0 f23 (.l0 x6) fr ds
theorem w21_0_1 (c : Ct) (i x6 : Int) (fr : List T) : outK prog f23 20 [] (r21_0 c i x6 fr (bt 26 67108863)) = wdn (T.int .i64 24) (g21_0_1 c i x6) := by kernel_rfl
theorem w21_0_2 (c : Ct) (i x6 : Int) (fr : List T) : outK prog f23 20 [] (r21_0 c i x6 fr (bt 26 33587199)) = wdn (T.int .i64 24) (g21_0_2 c i x6) := by kernel_rfl
theorem w21_0_3 (c : Ct) (i x6 : Int) (fr : List T) : (M21 c i).wa prog f23 (r21_0 c i x6 fr (bt 26 32767)) 0 (g21_0_3 c i x6) (.l0 (IntKind.i64.wrap (x6 + 1))) := by unfold Mch.wa; kernel_rfl
theorem w21_0_4 (c : Ct) (i x6 : Int) (fr : List T) : outK prog f23 20 [] (r21_0 c i x6 fr (bt 26 33554433)) = wdn (T.int .i64 24) (g21_0_4 c i x6) := by kernel_rfl
theorem w21_0_5 (c : Ct) (i x6 : Int) (fr : List T) : (M21 c i).wa prog f23 (r21_0 c i x6 fr (bt 26 1)) 0 (g21_0_5 c i x6) (.l0 (IntKind.i64.wrap (x6 + 1))) := by unfold Mch.wa; kernel_rfl
theorem w21_0_6 (c : Ct) (i x6 : Int) (fr : List T) : (M21 c i).wl prog f23 (r21_0 c i x6 fr [false]) 1 (g21_0_6 c i x6) (.l1 0) := by unfold Mch.wl; kernel_rfl
def r21_1 (c : Ct) (i x7 : Int) (fr : List T) (ds : List Bool) : RD Out := (M21 c i).rk prog D9 F0 f23 (.l1 x7) fr ds
theorem w21_1_1 (c : Ct) (i x7 : Int) (fr : List T) : outK prog f23 20 [] (r21_1 c i x7 fr [true, true]) = wdn (T.int .i64 8) (g21_1_1 c i x7) := by kernel_rfl
theorem w21_1_2 (c : Ct) (i x7 : Int) (fr : List T) : (M21 c i).wa prog f23 (r21_1 c i x7 fr [true, false]) 0 (g21_1_2 c i x7) (.l1 (IntKind.i64.wrap (x7 + 1))) := by unfold Mch.wa; kernel_rfl
theorem w21_1_3 (c : Ct) (i x7 : Int) (fr : List T) : outK prog f23 20 [] (r21_1 c i x7 fr (bt 13 8190)) = wdn (T.int .i64 38) (g21_1_3 c i x7) := by kernel_rfl
theorem w21_1_4 (c : Ct) (i x7 : Int) (fr : List T) : outK prog f23 20 [] (r21_1 c i x7 fr (bt 13 6718)) = wdn (T.int .i64 38) (g21_1_4 c i x7) := by kernel_rfl
theorem w21_1_5 (c : Ct) (i x7 : Int) (fr : List T) : outK prog f23 20 [] (r21_1 c i x7 fr (bt 13 2622)) = wdn (T.int .i64 0) (g21_1_5 c i x7) := by kernel_rfl
theorem w21_1_6 (c : Ct) (i x7 : Int) (fr : List T) : outK prog f23 20 [] (r21_1 c i x7 fr (bt 9 0)) = wdn (T.int .i64 0) (g21_1_6 c i x7) := by kernel_rfl
theorem w21_s_1 (c : Ct) (i : Int) : (M21 c i).wl prog f23 (runK prog D9 F0 2000 (.code (bodyOf f23)) [] 0 ([ctT c, .int .i64 i] ++ List.replicate 77 undefT) ⟨0, []⟩ [] []) 0 (g21_s_1 c i) (.l0 0) := by unfold Mch.wl; kernel_rfl
theorem ways21 (c : Ct) (i : Int) : (M21 c i).Ways prog D9 F0 f23 20 := by
 intro σ o fr h
 cases σ with
 | l0 x6 =>
  obtain ⟨hk, ho⟩ := kv_some (K := K21_0 c i x6) (V := V21_0 c i x6) h
  exact (wk_if (wk_if (wk_if (kD (w21_0_1 c i x6 fr)) (wk_if (kD (w21_0_2 c i x6 fr)) (kA (w21_0_3 c i x6 fr) rfl))) (wk_if (kD (w21_0_4 c i x6 fr)) (kA (w21_0_5 c i x6 fr) rfl))) (kL (w21_0_6 c i x6 fr) rfl)) hk o ho
 | l1 x7 =>
  obtain ⟨hk, ho⟩ := kv_some (K := K21_1 c i x7) (V := V21_1 c i x7) h
  exact (wk_if (wk_if (kD (w21_1_1 c i x7 fr)) (kA (w21_1_2 c i x7 fr) rfl)) (wk_if (wk_if (kD (w21_1_3 c i x7 fr)) (wk_if (kD (w21_1_4 c i x7 fr)) (kD (w21_1_5 c i x7 fr)))) (kD (w21_1_6 c i x7 fr)))) hk o ho
theorem oks21 (c : Ct) (i : Int) : ∀ σ, Ps.codeOk (loopAt f23 ((M21 c i).lp σ)).1 = true ∧ ksOk (.lp :: (loopAt f23 ((M21 c i).lp σ)).2) = true := oks_of 2 (by kernel_rfl) (by intro σ; cases σ <;> exact Nat.le_of_ble_eq_true rfl)
theorem c21 (c : Ct) (i : Int) (n : Nat) {r : T} (hk : K21_s c i = true) (hr : (M21 c i).fin n (V21_s c i) = some r) : PureFn prog gl 23 [ctT c, .int .i64 i] r :=
 pure_mach (M := (M21 c i)) (fn := f23) (k := 20) (d := 8) (c := bodyOf f23) cx9 glFrz (by kernel_rfl) func23 (by kernel_rfl) rfl (by kernel_rfl) (by kernel_rfl) (L := 77) (by kernel_rfl) (ways21 c i) (oks21 c i) ((kL (w21_s_1 c i) rfl) hk _ rfl) hr
/-! ### 23 -/
inductive S23 where
 | l0 (x6 x7 x8 : Int)
def g23_s_1 (c : Ct) (i : Int) : List Bool := [true, true, decide (0 ≤ i), decide (i < (↑c.n : Int)), true]
def k23_0_0 (c : Ct) (i x6 x7 x8 : Int) : List Bool := let y0 := decide (x8 < (↑(c.line i.toNat).k : Int)); [true, true, decide (0 ≤ idx c.n fun i_1 => eqS (c.line i_1).st ((c.line i.toNat).from_ x8.toNat)), decide ((idx c.n fun i_1 => eqS (c.line i_1).st ((c.line i.toNat).from_ x8.toNat)) < (↑c.n : Int)), true, isV (T.slf false c.n fun i => lnT (c.line i)) (lsT c.n c.line), isV (spT ((c.line i.toNat).from_ x8.toNat)) (spT ((c.line i.toNat).from_ x8.toNat)), modestB c.n c.line, decide (0 ≤ x8), y0, true, y0]
def k23_0_1 (c : Ct) (i x6 x7 x8 : Int) : List Bool := [!decide (x8 < (↑(c.line i.toNat).k : Int))]
def k23_0_2 (c : Ct) (i x6 x7 x8 : Int) : List Bool := let y0 := decide (x6 > 0); y0 :: y0 :: y0 :: y0 :: y0 :: y0 :: k23_0_1 c i x6 x7 x8
def k23_0_3 (c : Ct) (i x6 x7 x8 : Int) : List Bool := let y0 := decide (x6 > 0); y0 :: y0 :: y0 :: y0 :: y0 :: (!decide (x6 < (↑(c.line i.toNat).k : Int))) :: k23_0_2 c i x6 x7 x8
def g23_0_1 (c : Ct) (i x6 x7 x8 : Int) : List Bool := ((c.line (idx c.n fun i_1 => eqS (c.line i_1).st ((c.line i.toNat).from_ x8.toNat)).toNat).fate == 2) :: k23_0_0 c i x6 x7 x8
def g23_0_2 (c : Ct) (i x6 x7 x8 : Int) : List Bool := (!(c.line (idx c.n fun i_1 => eqS (c.line i_1).st ((c.line i.toNat).from_ x8.toNat)).toNat).fate == 2) :: k23_0_0 c i x6 x7 x8
def g23_0_3 (c : Ct) (i x6 x7 x8 : Int) : List Bool := (decide (x6 < (↑(c.line i.toNat).k : Int))) :: k23_0_2 c i x6 x7 x8
def g23_0_4 (c : Ct) (i x6 x7 x8 : Int) : List Bool := (x7 != (c.line i.toNat).mass) :: k23_0_3 c i x6 x7 x8
def g23_0_5 (c : Ct) (i x6 x7 x8 : Int) : List Bool := (!x7 != (c.line i.toNat).mass) :: k23_0_3 c i x6 x7 x8
def g23_0_6 (c : Ct) (i x6 x7 x8 : Int) : List Bool := let y0 := decide (x6 > 0); true :: (!y0) :: (!y0) :: (!y0) :: (!y0) :: (!y0) :: true :: (!y0) :: (!y0) :: (!y0) :: (!y0) :: (!y0) :: (!y0) :: k23_0_1 c i x6 x7 x8
def V23_0 (c : Ct) (i x6 x7 x8 : Int) : S23 ⊕ T :=
 (if decide (x8 < (↑(c.line i.toNat).k : Int)) then (if (c.line (idx c.n fun i_1 => eqS (c.line i_1).st ((c.line i.toNat).from_ x8.toNat)).toNat).fate == 2 then (.inl (.l0 (IntKind.i64.wrap (x6 + 1)) (IntKind.i64.wrap (x7 + (c.line (idx c.n fun i_1 => eqS (c.line i_1).st ((c.line i.toNat).from_ x8.toNat)).toNat).mass)) (IntKind.i64.wrap (x8 + 1)))) else (.inl (.l0 x6 (IntKind.i64.wrap (x7 + (c.line (idx c.n fun i_1 => eqS (c.line i_1).st ((c.line i.toNat).from_ x8.toNat)).toNat).mass)) (IntKind.i64.wrap (x8 + 1))))) else (if decide (x6 > 0) then (if decide (x6 < (↑(c.line i.toNat).k : Int)) then (.inr (T.int .i64 10)) else (if x7 != (c.line i.toNat).mass then (.inr (T.int .i64 38)) else (.inr (T.int .i64 0)))) else (.inr (T.int .i64 0))))
def K23_0 (c : Ct) (i x6 x7 x8 : Int) : Bool :=
 (if decide (x8 < (↑(c.line i.toNat).k : Int)) then (if (c.line (idx c.n fun i_1 => eqS (c.line i_1).st ((c.line i.toNat).from_ x8.toNat)).toNat).fate == 2 then (allT (g23_0_1 c i x6 x7 x8)) else (allT (g23_0_2 c i x6 x7 x8))) else (if decide (x6 > 0) then (if decide (x6 < (↑(c.line i.toNat).k : Int)) then (allT (g23_0_3 c i x6 x7 x8)) else (if x7 != (c.line i.toNat).mass then (allT (g23_0_4 c i x6 x7 x8)) else (allT (g23_0_5 c i x6 x7 x8)))) else (allT (g23_0_6 c i x6 x7 x8))))
def step23_0 (c : Ct) (i x6 x7 x8 : Int) : Option (S23 ⊕ T) := if K23_0 c i x6 x7 x8 then some (V23_0 c i x6 x7 x8) else none
theorem T23_0 (c : Ct) (i x6 x7 x8 : Int) (hk : K23_0 c i x6 x7 x8 = true) : step23_0 c i x6 x7 x8 = some (V23_0 c i x6 x7 x8) := if_pos hk
def V23_s (c : Ct) (i : Int) : S23 ⊕ T :=
 (.inl (.l0 0 0 0))
def K23_s (c : Ct) (i : Int) : Bool :=
 (allT (g23_s_1 c i))
def step23 (c : Ct) (i : Int) : S23 → Option (S23 ⊕ T)
 | .l0 x6 x7 x8 => step23_0 c i x6 x7 x8
def M23 (c : Ct) (i : Int) : Mch S23 where
 lp := fun σ => match σ with
  | .l0 .. => 0
 keep := fun ι => match ι with
  | 0 => [2, 5, 6, 7, 8]
  | _ => []
 par := fun ι => match ι with
  | 0 => []
  | _ => []
 vs := fun σ => match σ with
  | .l0 x6 x7 x8 => [(ctT c).ref 0, (lnT (c.line i.toNat)).ref 0, T.int .i64 x6, T.int .i64 x7, T.int .i64 x8]
 hp := fun _ => ⟨0, []⟩
 len := 60
 step := step23 c i
def r23_0 (c : Ct) (i x6 x7 x8 : Int) (fr : List T) (ds : List Bool) : RD Out := (M23 c i).rk prog D9 F0 f25 (.l0 x6 x7 x8) fr ds
theorem w23_0_1 (c : Ct) (i x6 x7 x8 : Int) (fr : List T) : (M23 c i).wa prog f25 (r23_0 c i x6 x7 x8 fr [true, true]) 0 (g23_0_1 c i x6 x7 x8) (.l0 (IntKind.i64.wrap (x6 + 1)) (IntKind.i64.wrap (x7 + (c.line (idx c.n fun i_1 => eqS (c.line i_1).st ((c.line i.toNat).from_ x8.toNat)).toNat).mass)) (IntKind.i64.wrap (x8 + 1))) := by unfold Mch.wa; kernel_rfl
theorem w23_0_2 (c : Ct) (i x6 x7 x8 : Int) (fr : List T) : (M23 c i).wa prog f25 (r23_0 c i x6 x7 x8 fr [true, false]) 0 (g23_0_2 c i x6 x7 x8) (.l0 x6 (IntKind.i64.wrap (x7 + (c.line (idx c.n fun i_1 => eqS (c.line i_1).st ((c.line i.toNat).from_ x8.toNat)).toNat).mass)) (IntKind.i64.wrap (x8 + 1))) := by unfold Mch.wa; kernel_rfl
theorem w23_0_3 (c : Ct) (i x6 x7 x8 : Int) (fr : List T) : outK prog f25 20 [] (r23_0 c i x6 x7 x8 fr (bt 8 254)) = wdn (T.int .i64 10) (g23_0_3 c i x6 x7 x8) := by kernel_rfl
theorem w23_0_4 (c : Ct) (i x6 x7 x8 : Int) (fr : List T) : outK prog f25 20 [] (r23_0 c i x6 x7 x8 fr (bt 14 16254)) = wdn (T.int .i64 38) (g23_0_4 c i x6 x7 x8) := by kernel_rfl
theorem w23_0_5 (c : Ct) (i x6 x7 x8 : Int) (fr : List T) : outK prog f25 20 [] (r23_0 c i x6 x7 x8 fr (bt 14 8062)) = wdn (T.int .i64 0) (g23_0_5 c i x6 x7 x8) := by kernel_rfl
theorem w23_0_6 (c : Ct) (i x6 x7 x8 : Int) (fr : List T) : outK prog f25 20 [] (r23_0 c i x6 x7 x8 fr (bt 14 0)) = wdn (T.int .i64 0) (g23_0_6 c i x6 x7 x8) := by kernel_rfl
theorem w23_s_1 (c : Ct) (i : Int) : (M23 c i).wl prog f25 (runK prog D9 F0 2000 (.code (bodyOf f25)) [] 0 ([ctT c, .int .i64 i] ++ List.replicate 58 undefT) ⟨0, []⟩ [] []) 0 (g23_s_1 c i) (.l0 0 0 0) := by unfold Mch.wl; kernel_rfl
theorem ways23 (c : Ct) (i : Int) : (M23 c i).Ways prog D9 F0 f25 20 := by
 intro σ o fr h
 cases σ with
 | l0 x6 x7 x8 =>
  obtain ⟨hk, ho⟩ := kv_some (K := K23_0 c i x6 x7 x8) (V := V23_0 c i x6 x7 x8) h
  exact (wk_if (wk_if (kA (w23_0_1 c i x6 x7 x8 fr) rfl) (kA (w23_0_2 c i x6 x7 x8 fr) rfl)) (wk_if (wk_if (kD (w23_0_3 c i x6 x7 x8 fr)) (wk_if (kD (w23_0_4 c i x6 x7 x8 fr)) (kD (w23_0_5 c i x6 x7 x8 fr)))) (kD (w23_0_6 c i x6 x7 x8 fr)))) hk o ho
theorem oks23 (c : Ct) (i : Int) : ∀ σ, Ps.codeOk (loopAt f25 ((M23 c i).lp σ)).1 = true ∧ ksOk (.lp :: (loopAt f25 ((M23 c i).lp σ)).2) = true := oks_of 1 (by kernel_rfl) (by intro σ; cases σ <;> exact Nat.le_of_ble_eq_true rfl)
theorem c23 (c : Ct) (i : Int) (n : Nat) {r : T} (hk : K23_s c i = true) (hr : (M23 c i).fin n (V23_s c i) = some r) : PureFn prog gl 25 [ctT c, .int .i64 i] r :=
 pure_mach (M := (M23 c i)) (fn := f25) (k := 20) (d := 8) (c := bodyOf f25) cx9 glFrz (by kernel_rfl) func25 (by kernel_rfl) rfl (by kernel_rfl) (by kernel_rfl) (L := 58) (by kernel_rfl) (ways23 c i) (oks23 c i) ((kL (w23_s_1 c i) rfl) hk _ rfl) hr
/-! ### 58 -/
def g58_s_1 (s : Int) (x : Ln) : List Bool := [(↑x.k : Int) == 0]
def g58_s_2 (s : Int) (x : Ln) : List Bool := [!(↑x.k : Int) == 0]
def V58_s (s : Int) (x : Ln) : Empty ⊕ T :=
 (if (↑x.k : Int) == 0 then (.inr (T.int .i64 (IntKind.i64.wrap (s + 1048576)))) else (.inr (T.int .i64 s)))
def K58_s (s : Int) (x : Ln) : Bool :=
 (if (↑x.k : Int) == 0 then (allT (g58_s_1 s x)) else (allT (g58_s_2 s x)))
def r58_s (s : Int) (x : Ln) (ds : List Bool) : RD Out := runK prog D9 F0 2000 (.code (bodyOf f81)) [] 0 ([.int .i64 s, lnT x] ++ List.replicate 10 undefT) ⟨0, []⟩ ds []
theorem w58_s_1 (s : Int) (x : Ln) : outK prog f81 20 [] (r58_s s x [true]) = wdn (T.int .i64 (IntKind.i64.wrap (s + 1048576))) (g58_s_1 s x) := by kernel_rfl
theorem w58_s_2 (s : Int) (x : Ln) : outK prog f81 20 [] (r58_s s x [false]) = wdn (T.int .i64 s) (g58_s_2 s x) := by kernel_rfl
theorem c58 (s : Int) (x : Ln) (n : Nat) {r : T} (hk : K58_s s x = true) (hr : noM.fin n (V58_s s x) = some r) : PureFn prog gl 81 [.int .i64 s, lnT x] r :=
 pure_mach (M := noM) (fn := f81) (k := 20) (d := 8) (c := bodyOf f81) cx9 glFrz (by kernel_rfl) func81 (by kernel_rfl) rfl (by kernel_rfl) (by kernel_rfl) (L := 10) (by kernel_rfl) noM_ways (fun σ => σ.elim) ((wk_if (kD (w58_s_1 s x)) (kD (w58_s_2 s x))) hk _ rfl) hr
/-! ### 59 -/
def g59_s_1 (x : Ln) : List Bool := []
def V59_s (x : Ln) : Empty ⊕ T :=
 (.inr (T.bool (x.fate == 3)))
def K59_s (x : Ln) : Bool :=
 (allT (g59_s_1 x))
theorem w59_s_1 (x : Ln) : outK prog f82 20 [] (runK prog D9 F0 2000 (.code (bodyOf f82)) [] 0 ([lnT x] ++ List.replicate 5 undefT) ⟨0, []⟩ [] []) = wdn (T.bool (x.fate == 3)) (g59_s_1 x) := by kernel_rfl
theorem c59 (x : Ln) (n : Nat) {r : T} (hk : K59_s x = true) (hr : noM.fin n (V59_s x) = some r) : PureFn prog gl 82 [lnT x] r :=
 pure_mach (M := noM) (fn := f82) (k := 20) (d := 8) (c := bodyOf f82) cx9 glFrz (by kernel_rfl) func82 (by kernel_rfl) rfl (by kernel_rfl) (by kernel_rfl) (L := 5) (by kernel_rfl) noM_ways (fun σ => σ.elim) ((kD (w59_s_1 x)) hk _ rfl) hr
/-! ### 60 -/
def g60_s_1 (x : Ln) : List Bool := [x.fate == 4, x.fate == 4, x.fate == 4, x.fate == 4]
def g60_s_2 (x : Ln) : List Bool := [!x.fate == 4, !x.fate == 4, !x.fate == 4, !x.fate == 4]
def V60_s (x : Ln) : Empty ⊕ T :=
 (if x.fate == 4 then (.inr (T.bool (x.closed == 0))) else (.inr (T.bool false)))
def K60_s (x : Ln) : Bool :=
 (if x.fate == 4 then (allT (g60_s_1 x)) else (allT (g60_s_2 x)))
def r60_s (x : Ln) (ds : List Bool) : RD Out := runK prog D9 F0 2000 (.code (bodyOf f83)) [] 0 ([lnT x] ++ List.replicate 10 undefT) ⟨0, []⟩ ds []
theorem w60_s_1 (x : Ln) : outK prog f83 20 [] (r60_s x (bt 4 15)) = wdn (T.bool (x.closed == 0)) (g60_s_1 x) := by kernel_rfl
theorem w60_s_2 (x : Ln) : outK prog f83 20 [] (r60_s x (bt 4 0)) = wdn (T.bool false) (g60_s_2 x) := by kernel_rfl
theorem c60 (x : Ln) (n : Nat) {r : T} (hk : K60_s x = true) (hr : noM.fin n (V60_s x) = some r) : PureFn prog gl 83 [lnT x] r :=
 pure_mach (M := noM) (fn := f83) (k := 20) (d := 8) (c := bodyOf f83) cx9 glFrz (by kernel_rfl) func83 (by kernel_rfl) rfl (by kernel_rfl) (by kernel_rfl) (L := 10) (by kernel_rfl) noM_ways (fun σ => σ.elim) ((wk_if (kD (w60_s_1 x)) (kD (w60_s_2 x))) hk _ rfl) hr
/-! ### 61 -/
def g61_s_1 (x : Ln) : List Bool := []
def V61_s (x : Ln) : Empty ⊕ T :=
 (.inr (T.bool (x.closed == 6)))
def K61_s (x : Ln) : Bool :=
 (allT (g61_s_1 x))
theorem w61_s_1 (x : Ln) : outK prog f84 20 [] (runK prog D9 F0 2000 (.code (bodyOf f84)) [] 0 ([lnT x] ++ List.replicate 5 undefT) ⟨0, []⟩ [] []) = wdn (T.bool (x.closed == 6)) (g61_s_1 x) := by kernel_rfl
theorem c61 (x : Ln) (n : Nat) {r : T} (hk : K61_s x = true) (hr : noM.fin n (V61_s x) = some r) : PureFn prog gl 84 [lnT x] r :=
 pure_mach (M := noM) (fn := f84) (k := 20) (d := 8) (c := bodyOf f84) cx9 glFrz (by kernel_rfl) func84 (by kernel_rfl) rfl (by kernel_rfl) (by kernel_rfl) (L := 5) (by kernel_rfl) noM_ways (fun σ => σ.elim) ((kD (w61_s_1 x)) hk _ rfl) hr
end
end Go.Proofs.Tryz

/- form as a machine, by program (gen2). -/
namespace Go.Proofs.Tryz
noncomputable section
open Go.Ps
set_option maxRecDepth 100000
/-! ### 15 -/
inductive S15 where
 | l0 (x9 x10 : Int)
def g15_s_1 (c : Ct) : List Bool := []
def k15_0_0 (c : Ct) (x9 x10 : Int) : List Bool := [isV (spT (c.line x10.toNat).st) (spT (c.line x10.toNat).st), decide ((c.line x10.toNat).st.n ≤ 281474976710656), true, true, decide (0 ≤ x10), decide (x10 < (↑c.n : Int)), true, decide (x10 < x9)]
def k15_0_1 (c : Ct) (x9 x10 : Int) : List Bool := let y0 := (c.line x10.toNat).closed == 0; y0 :: y0 :: y0 :: y0 :: y0 :: y0 :: (!chk (c.line x10.toNat).st != 0) :: k15_0_0 c x9 x10
def k15_0_2 (c : Ct) (x9 x10 : Int) : List Bool := (!decide ((c.line x10.toNat).st.entry > c.entries)) :: k15_0_1 c x9 x10
def k15_0_3 (c : Ct) (x9 x10 : Int) : List Bool := let y0 := decide (x10 > 0); y0 :: y0 :: (isV (spT (c.line x10.toNat).st) (spT (c.line x10.toNat).st)) :: (isV (spT (c.line (IntKind.i64.wrap (x10 - 1)).toNat).st) (spT (c.line (IntKind.i64.wrap (x10 - 1)).toNat).st)) :: (decide ((c.line x10.toNat).st.n ≤ 281474976710656)) :: y0 :: y0 :: y0 :: (decide (0 ≤ IntKind.i64.wrap (x10 - 1))) :: (decide (IntKind.i64.wrap (x10 - 1) < (↑c.n : Int))) :: true :: y0 :: y0 :: y0 :: y0 :: y0 :: y0 :: y0 :: k15_0_2 c x9 x10
def k15_0_4 (c : Ct) (x9 x10 : Int) : List Bool := (!decide (cmpS (c.line x10.toNat).st (c.line (IntKind.i64.wrap (x10 - 1)).toNat).st ≤ 0)) :: k15_0_3 c x9 x10
def k15_0_5 (c : Ct) (x9 x10 : Int) : List Bool := let y0 := decide ((c.line x10.toNat).mass < 0); (!y0) :: (!y0) :: (!y0) :: (!y0) :: k15_0_4 c x9 x10
def k15_0_6 (c : Ct) (x9 x10 : Int) : List Bool := (!decide ((c.line x10.toNat).mass > 1099511627776)) :: k15_0_5 c x9 x10
def k15_0_7 (c : Ct) (x9 x10 : Int) : List Bool := let y0 := decide ((c.line x10.toNat).fate < 0); (!y0) :: (!y0) :: (!y0) :: (!y0) :: k15_0_6 c x9 x10
def k15_0_8 (c : Ct) (x9 x10 : Int) : List Bool := (isV (lnT (c.line x10.toNat)) (lnT (c.line x10.toNat))) :: true :: (!decide ((c.line x10.toNat).fate > 4)) :: k15_0_7 c x9 x10
def k15_0_9 (c : Ct) (x9 x10 : Int) : List Bool := let y0 := (c.line x10.toNat).fate == 0; y0 :: y0 :: y0 :: y0 :: k15_0_8 c x9 x10
def k15_0_10 (c : Ct) (x9 x10 : Int) : List Bool := let y0 := (c.line x10.toNat).node == []; (!!y0) :: (!!y0) :: (isV (lnT (c.line x10.toNat)) (lnT (c.line x10.toNat))) :: (!!y0) :: (!!y0) :: k15_0_9 c x9 x10
def k15_0_11 (c : Ct) (x9 x10 : Int) : List Bool := let y0 := (c.line x10.toNat).node == []; let y1 := (c.line x10.toNat).fate == 0; (!!y0) :: (!y1) :: (!!y0) :: (!y1) :: (isV (T.str (c.line x10.toNat).node) (T.str (c.line x10.toNat).node)) :: (!y1) :: (!y1) :: (!y1) :: k15_0_10 c x9 x10
def k15_0_12 (c : Ct) (x9 x10 : Int) : List Bool := let y0 := (c.line x10.toNat).fate == 0; true :: true :: (isV (lnT (c.line x10.toNat)) (lnT (c.line x10.toNat))) :: true :: true :: (!y0) :: (!y0) :: (!y0) :: (!y0) :: k15_0_8 c x9 x10
def k15_0_13 (c : Ct) (x9 x10 : Int) : List Bool := let y0 := (c.line x10.toNat).fate == 0; true :: (!y0) :: true :: (!y0) :: (isV (T.str (c.line x10.toNat).node) (T.str (c.line x10.toNat).node)) :: (!y0) :: (!y0) :: (!y0) :: k15_0_12 c x9 x10
def k15_0_14 (c : Ct) (x9 x10 : Int) : List Bool := let y0 := decide (x10 > 0); true :: (!y0) :: (!y0) :: (!y0) :: (!y0) :: (!y0) :: (!y0) :: (!y0) :: (!y0) :: (!y0) :: (!y0) :: (!y0) :: (!y0) :: k15_0_2 c x9 x10
def k15_0_15 (c : Ct) (x9 x10 : Int) : List Bool := let y0 := decide ((c.line x10.toNat).mass < 0); (!y0) :: (!y0) :: (!y0) :: (!y0) :: k15_0_14 c x9 x10
def k15_0_16 (c : Ct) (x9 x10 : Int) : List Bool := (!decide ((c.line x10.toNat).mass > 1099511627776)) :: k15_0_15 c x9 x10
def k15_0_17 (c : Ct) (x9 x10 : Int) : List Bool := let y0 := decide ((c.line x10.toNat).fate < 0); (!y0) :: (!y0) :: (!y0) :: (!y0) :: k15_0_16 c x9 x10
def k15_0_18 (c : Ct) (x9 x10 : Int) : List Bool := (isV (lnT (c.line x10.toNat)) (lnT (c.line x10.toNat))) :: true :: (!decide ((c.line x10.toNat).fate > 4)) :: k15_0_17 c x9 x10
def k15_0_19 (c : Ct) (x9 x10 : Int) : List Bool := let y0 := (c.line x10.toNat).fate == 0; y0 :: y0 :: y0 :: y0 :: k15_0_18 c x9 x10
def k15_0_20 (c : Ct) (x9 x10 : Int) : List Bool := let y0 := (c.line x10.toNat).node == []; (!!y0) :: (!!y0) :: (isV (lnT (c.line x10.toNat)) (lnT (c.line x10.toNat))) :: (!!y0) :: (!!y0) :: k15_0_19 c x9 x10
def k15_0_21 (c : Ct) (x9 x10 : Int) : List Bool := let y0 := (c.line x10.toNat).node == []; let y1 := (c.line x10.toNat).fate == 0; (!!y0) :: (!y1) :: (!!y0) :: (!y1) :: (isV (T.str (c.line x10.toNat).node) (T.str (c.line x10.toNat).node)) :: (!y1) :: (!y1) :: (!y1) :: k15_0_20 c x9 x10
def k15_0_22 (c : Ct) (x9 x10 : Int) : List Bool := let y0 := (c.line x10.toNat).fate == 0; true :: true :: (isV (lnT (c.line x10.toNat)) (lnT (c.line x10.toNat))) :: true :: true :: (!y0) :: (!y0) :: (!y0) :: (!y0) :: k15_0_18 c x9 x10
def k15_0_23 (c : Ct) (x9 x10 : Int) : List Bool := let y0 := (c.line x10.toNat).fate == 0; true :: (!y0) :: true :: (!y0) :: (isV (T.str (c.line x10.toNat).node) (T.str (c.line x10.toNat).node)) :: (!y0) :: (!y0) :: (!y0) :: k15_0_22 c x9 x10
def k15_0_24 (c : Ct) (x9 x10 : Int) : List Bool := let y0 := (c.line x10.toNat).closed == 0; (!y0) :: (!y0) :: (!y0) :: (!y0) :: (!chk (c.line x10.toNat).st != 0) :: k15_0_0 c x9 x10
def k15_0_25 (c : Ct) (x9 x10 : Int) : List Bool := let y0 := (c.line x10.toNat).fate == 4; y0 :: y0 :: y0 :: y0 :: k15_0_24 c x9 x10
def k15_0_26 (c : Ct) (x9 x10 : Int) : List Bool := let y0 := (c.line x10.toNat).closed == 0; let y1 := (c.line x10.toNat).fate == 4; let y2 := (c.line x10.toNat).closed == 5; (!y0) :: y1 :: (!y0) :: y2 :: y1 :: y2 :: y2 :: y2 :: k15_0_25 c x9 x10
def k15_0_27 (c : Ct) (x9 x10 : Int) : List Bool := (!decide ((c.line x10.toNat).st.entry > c.entries)) :: k15_0_26 c x9 x10
def k15_0_28 (c : Ct) (x9 x10 : Int) : List Bool := let y0 := decide (x10 > 0); y0 :: y0 :: (isV (spT (c.line x10.toNat).st) (spT (c.line x10.toNat).st)) :: (isV (spT (c.line (IntKind.i64.wrap (x10 - 1)).toNat).st) (spT (c.line (IntKind.i64.wrap (x10 - 1)).toNat).st)) :: (decide ((c.line x10.toNat).st.n ≤ 281474976710656)) :: y0 :: y0 :: y0 :: (decide (0 ≤ IntKind.i64.wrap (x10 - 1))) :: (decide (IntKind.i64.wrap (x10 - 1) < (↑c.n : Int))) :: true :: y0 :: y0 :: y0 :: y0 :: y0 :: y0 :: y0 :: k15_0_27 c x9 x10
def k15_0_29 (c : Ct) (x9 x10 : Int) : List Bool := (!decide (cmpS (c.line x10.toNat).st (c.line (IntKind.i64.wrap (x10 - 1)).toNat).st ≤ 0)) :: k15_0_28 c x9 x10
def k15_0_30 (c : Ct) (x9 x10 : Int) : List Bool := let y0 := decide ((c.line x10.toNat).mass < 0); (!y0) :: (!y0) :: (!y0) :: (!y0) :: k15_0_29 c x9 x10
def k15_0_31 (c : Ct) (x9 x10 : Int) : List Bool := (!decide ((c.line x10.toNat).mass > 1099511627776)) :: k15_0_30 c x9 x10
def k15_0_32 (c : Ct) (x9 x10 : Int) : List Bool := let y0 := decide ((c.line x10.toNat).fate < 0); (!y0) :: (!y0) :: (!y0) :: (!y0) :: k15_0_31 c x9 x10
def k15_0_33 (c : Ct) (x9 x10 : Int) : List Bool := (isV (lnT (c.line x10.toNat)) (lnT (c.line x10.toNat))) :: true :: (!decide ((c.line x10.toNat).fate > 4)) :: k15_0_32 c x9 x10
def k15_0_34 (c : Ct) (x9 x10 : Int) : List Bool := let y0 := (c.line x10.toNat).fate == 0; y0 :: y0 :: y0 :: y0 :: k15_0_33 c x9 x10
def k15_0_35 (c : Ct) (x9 x10 : Int) : List Bool := let y0 := (c.line x10.toNat).node == []; (!!y0) :: (!!y0) :: (isV (lnT (c.line x10.toNat)) (lnT (c.line x10.toNat))) :: (!!y0) :: (!!y0) :: k15_0_34 c x9 x10
def k15_0_36 (c : Ct) (x9 x10 : Int) : List Bool := let y0 := (c.line x10.toNat).node == []; let y1 := (c.line x10.toNat).fate == 0; (!!y0) :: (!y1) :: (!!y0) :: (!y1) :: (isV (T.str (c.line x10.toNat).node) (T.str (c.line x10.toNat).node)) :: (!y1) :: (!y1) :: (!y1) :: k15_0_35 c x9 x10
def k15_0_37 (c : Ct) (x9 x10 : Int) : List Bool := let y0 := (c.line x10.toNat).fate == 0; true :: true :: (isV (lnT (c.line x10.toNat)) (lnT (c.line x10.toNat))) :: true :: true :: (!y0) :: (!y0) :: (!y0) :: (!y0) :: k15_0_33 c x9 x10
def k15_0_38 (c : Ct) (x9 x10 : Int) : List Bool := let y0 := (c.line x10.toNat).fate == 0; true :: (!y0) :: true :: (!y0) :: (isV (T.str (c.line x10.toNat).node) (T.str (c.line x10.toNat).node)) :: (!y0) :: (!y0) :: (!y0) :: k15_0_37 c x9 x10
def k15_0_39 (c : Ct) (x9 x10 : Int) : List Bool := let y0 := decide (x10 > 0); true :: (!y0) :: (!y0) :: (!y0) :: (!y0) :: (!y0) :: (!y0) :: (!y0) :: (!y0) :: (!y0) :: (!y0) :: (!y0) :: (!y0) :: k15_0_27 c x9 x10
def k15_0_40 (c : Ct) (x9 x10 : Int) : List Bool := let y0 := decide ((c.line x10.toNat).mass < 0); (!y0) :: (!y0) :: (!y0) :: (!y0) :: k15_0_39 c x9 x10
def k15_0_41 (c : Ct) (x9 x10 : Int) : List Bool := (!decide ((c.line x10.toNat).mass > 1099511627776)) :: k15_0_40 c x9 x10
def k15_0_42 (c : Ct) (x9 x10 : Int) : List Bool := let y0 := decide ((c.line x10.toNat).fate < 0); (!y0) :: (!y0) :: (!y0) :: (!y0) :: k15_0_41 c x9 x10
def k15_0_43 (c : Ct) (x9 x10 : Int) : List Bool := (isV (lnT (c.line x10.toNat)) (lnT (c.line x10.toNat))) :: true :: (!decide ((c.line x10.toNat).fate > 4)) :: k15_0_42 c x9 x10
def k15_0_44 (c : Ct) (x9 x10 : Int) : List Bool := let y0 := (c.line x10.toNat).fate == 0; y0 :: y0 :: y0 :: y0 :: k15_0_43 c x9 x10
def k15_0_45 (c : Ct) (x9 x10 : Int) : List Bool := let y0 := (c.line x10.toNat).node == []; (!!y0) :: (!!y0) :: (isV (lnT (c.line x10.toNat)) (lnT (c.line x10.toNat))) :: (!!y0) :: (!!y0) :: k15_0_44 c x9 x10
def k15_0_46 (c : Ct) (x9 x10 : Int) : List Bool := let y0 := (c.line x10.toNat).node == []; let y1 := (c.line x10.toNat).fate == 0; (!!y0) :: (!y1) :: (!!y0) :: (!y1) :: (isV (T.str (c.line x10.toNat).node) (T.str (c.line x10.toNat).node)) :: (!y1) :: (!y1) :: (!y1) :: k15_0_45 c x9 x10
def k15_0_47 (c : Ct) (x9 x10 : Int) : List Bool := let y0 := (c.line x10.toNat).fate == 0; true :: true :: (isV (lnT (c.line x10.toNat)) (lnT (c.line x10.toNat))) :: true :: true :: (!y0) :: (!y0) :: (!y0) :: (!y0) :: k15_0_43 c x9 x10
def k15_0_48 (c : Ct) (x9 x10 : Int) : List Bool := let y0 := (c.line x10.toNat).fate == 0; true :: (!y0) :: true :: (!y0) :: (isV (T.str (c.line x10.toNat).node) (T.str (c.line x10.toNat).node)) :: (!y0) :: (!y0) :: (!y0) :: k15_0_47 c x9 x10
def k15_0_49 (c : Ct) (x9 x10 : Int) : List Bool := let y0 := (c.line x10.toNat).closed == 0; let y1 := (c.line x10.toNat).fate == 4; let y2 := (c.line x10.toNat).closed == 5; (!y0) :: y1 :: (!y0) :: (!y2) :: y1 :: (!y2) :: (!y2) :: (!y2) :: k15_0_25 c x9 x10
def k15_0_50 (c : Ct) (x9 x10 : Int) : List Bool := (!decide ((c.line x10.toNat).st.entry > c.entries)) :: k15_0_49 c x9 x10
def k15_0_51 (c : Ct) (x9 x10 : Int) : List Bool := let y0 := decide (x10 > 0); y0 :: y0 :: (isV (spT (c.line x10.toNat).st) (spT (c.line x10.toNat).st)) :: (isV (spT (c.line (IntKind.i64.wrap (x10 - 1)).toNat).st) (spT (c.line (IntKind.i64.wrap (x10 - 1)).toNat).st)) :: (decide ((c.line x10.toNat).st.n ≤ 281474976710656)) :: y0 :: y0 :: y0 :: (decide (0 ≤ IntKind.i64.wrap (x10 - 1))) :: (decide (IntKind.i64.wrap (x10 - 1) < (↑c.n : Int))) :: true :: y0 :: y0 :: y0 :: y0 :: y0 :: y0 :: y0 :: k15_0_50 c x9 x10
def k15_0_52 (c : Ct) (x9 x10 : Int) : List Bool := (!decide (cmpS (c.line x10.toNat).st (c.line (IntKind.i64.wrap (x10 - 1)).toNat).st ≤ 0)) :: k15_0_51 c x9 x10
def k15_0_53 (c : Ct) (x9 x10 : Int) : List Bool := let y0 := decide ((c.line x10.toNat).mass < 0); (!y0) :: (!y0) :: (!y0) :: (!y0) :: k15_0_52 c x9 x10
def k15_0_54 (c : Ct) (x9 x10 : Int) : List Bool := (!decide ((c.line x10.toNat).mass > 1099511627776)) :: k15_0_53 c x9 x10
def k15_0_55 (c : Ct) (x9 x10 : Int) : List Bool := let y0 := decide ((c.line x10.toNat).fate < 0); (!y0) :: (!y0) :: (!y0) :: (!y0) :: k15_0_54 c x9 x10
def k15_0_56 (c : Ct) (x9 x10 : Int) : List Bool := (isV (lnT (c.line x10.toNat)) (lnT (c.line x10.toNat))) :: (!!(c.line x10.toNat).closed == 6) :: (!decide ((c.line x10.toNat).fate > 4)) :: k15_0_55 c x9 x10
def k15_0_57 (c : Ct) (x9 x10 : Int) : List Bool := let y0 := (c.line x10.toNat).fate == 0; y0 :: y0 :: y0 :: y0 :: k15_0_56 c x9 x10
def k15_0_58 (c : Ct) (x9 x10 : Int) : List Bool := let y0 := (c.line x10.toNat).node == []; (!!y0) :: (!!y0) :: (isV (lnT (c.line x10.toNat)) (lnT (c.line x10.toNat))) :: (!!y0) :: (!!y0) :: k15_0_57 c x9 x10
def k15_0_59 (c : Ct) (x9 x10 : Int) : List Bool := let y0 := (c.line x10.toNat).node == []; let y1 := (c.line x10.toNat).fate == 0; (!!y0) :: (!y1) :: (!!y0) :: (!y1) :: (isV (T.str (c.line x10.toNat).node) (T.str (c.line x10.toNat).node)) :: (!y1) :: (!y1) :: (!y1) :: k15_0_58 c x9 x10
def k15_0_60 (c : Ct) (x9 x10 : Int) : List Bool := let y0 := (c.line x10.toNat).fate == 0; true :: true :: (isV (lnT (c.line x10.toNat)) (lnT (c.line x10.toNat))) :: true :: true :: (!y0) :: (!y0) :: (!y0) :: (!y0) :: k15_0_56 c x9 x10
def k15_0_61 (c : Ct) (x9 x10 : Int) : List Bool := let y0 := (c.line x10.toNat).fate == 0; true :: (!y0) :: true :: (!y0) :: (isV (T.str (c.line x10.toNat).node) (T.str (c.line x10.toNat).node)) :: (!y0) :: (!y0) :: (!y0) :: k15_0_60 c x9 x10
def k15_0_62 (c : Ct) (x9 x10 : Int) : List Bool := let y0 := decide (x10 > 0); true :: (!y0) :: (!y0) :: (!y0) :: (!y0) :: (!y0) :: (!y0) :: (!y0) :: (!y0) :: (!y0) :: (!y0) :: (!y0) :: (!y0) :: k15_0_50 c x9 x10
def k15_0_63 (c : Ct) (x9 x10 : Int) : List Bool := let y0 := decide ((c.line x10.toNat).mass < 0); (!y0) :: (!y0) :: (!y0) :: (!y0) :: k15_0_62 c x9 x10
def k15_0_64 (c : Ct) (x9 x10 : Int) : List Bool := (!decide ((c.line x10.toNat).mass > 1099511627776)) :: k15_0_63 c x9 x10
def k15_0_65 (c : Ct) (x9 x10 : Int) : List Bool := let y0 := decide ((c.line x10.toNat).fate < 0); (!y0) :: (!y0) :: (!y0) :: (!y0) :: k15_0_64 c x9 x10
def k15_0_66 (c : Ct) (x9 x10 : Int) : List Bool := (isV (lnT (c.line x10.toNat)) (lnT (c.line x10.toNat))) :: (!!(c.line x10.toNat).closed == 6) :: (!decide ((c.line x10.toNat).fate > 4)) :: k15_0_65 c x9 x10
def k15_0_67 (c : Ct) (x9 x10 : Int) : List Bool := let y0 := (c.line x10.toNat).fate == 0; y0 :: y0 :: y0 :: y0 :: k15_0_66 c x9 x10
def k15_0_68 (c : Ct) (x9 x10 : Int) : List Bool := let y0 := (c.line x10.toNat).node == []; (!!y0) :: (!!y0) :: (isV (lnT (c.line x10.toNat)) (lnT (c.line x10.toNat))) :: (!!y0) :: (!!y0) :: k15_0_67 c x9 x10
def k15_0_69 (c : Ct) (x9 x10 : Int) : List Bool := let y0 := (c.line x10.toNat).node == []; let y1 := (c.line x10.toNat).fate == 0; (!!y0) :: (!y1) :: (!!y0) :: (!y1) :: (isV (T.str (c.line x10.toNat).node) (T.str (c.line x10.toNat).node)) :: (!y1) :: (!y1) :: (!y1) :: k15_0_68 c x9 x10
def k15_0_70 (c : Ct) (x9 x10 : Int) : List Bool := let y0 := (c.line x10.toNat).fate == 0; true :: true :: (isV (lnT (c.line x10.toNat)) (lnT (c.line x10.toNat))) :: true :: true :: (!y0) :: (!y0) :: (!y0) :: (!y0) :: k15_0_66 c x9 x10
def k15_0_71 (c : Ct) (x9 x10 : Int) : List Bool := let y0 := (c.line x10.toNat).fate == 0; true :: (!y0) :: true :: (!y0) :: (isV (T.str (c.line x10.toNat).node) (T.str (c.line x10.toNat).node)) :: (!y0) :: (!y0) :: (!y0) :: k15_0_70 c x9 x10
def k15_0_72 (c : Ct) (x9 x10 : Int) : List Bool := let y0 := (c.line x10.toNat).closed == 0; let y1 := (c.line x10.toNat).fate == 4; (!y0) :: (!y1) :: (!y0) :: (!y1) :: (!y1) :: (!y1) :: (!y1) :: (!y1) :: k15_0_24 c x9 x10
def k15_0_73 (c : Ct) (x9 x10 : Int) : List Bool := (!decide ((c.line x10.toNat).st.entry > c.entries)) :: k15_0_72 c x9 x10
def k15_0_74 (c : Ct) (x9 x10 : Int) : List Bool := let y0 := decide (x10 > 0); y0 :: y0 :: (isV (spT (c.line x10.toNat).st) (spT (c.line x10.toNat).st)) :: (isV (spT (c.line (IntKind.i64.wrap (x10 - 1)).toNat).st) (spT (c.line (IntKind.i64.wrap (x10 - 1)).toNat).st)) :: (decide ((c.line x10.toNat).st.n ≤ 281474976710656)) :: y0 :: y0 :: y0 :: (decide (0 ≤ IntKind.i64.wrap (x10 - 1))) :: (decide (IntKind.i64.wrap (x10 - 1) < (↑c.n : Int))) :: true :: y0 :: y0 :: y0 :: y0 :: y0 :: y0 :: y0 :: k15_0_73 c x9 x10
def k15_0_75 (c : Ct) (x9 x10 : Int) : List Bool := (!decide (cmpS (c.line x10.toNat).st (c.line (IntKind.i64.wrap (x10 - 1)).toNat).st ≤ 0)) :: k15_0_74 c x9 x10
def k15_0_76 (c : Ct) (x9 x10 : Int) : List Bool := let y0 := decide ((c.line x10.toNat).mass < 0); (!y0) :: (!y0) :: (!y0) :: (!y0) :: k15_0_75 c x9 x10
def k15_0_77 (c : Ct) (x9 x10 : Int) : List Bool := (!decide ((c.line x10.toNat).mass > 1099511627776)) :: k15_0_76 c x9 x10
def k15_0_78 (c : Ct) (x9 x10 : Int) : List Bool := let y0 := decide ((c.line x10.toNat).fate < 0); (!y0) :: (!y0) :: (!y0) :: (!y0) :: k15_0_77 c x9 x10
def k15_0_79 (c : Ct) (x9 x10 : Int) : List Bool := let y0 := decide (x10 > 0); true :: (!y0) :: (!y0) :: (!y0) :: (!y0) :: (!y0) :: (!y0) :: (!y0) :: (!y0) :: (!y0) :: (!y0) :: (!y0) :: (!y0) :: k15_0_73 c x9 x10
def k15_0_80 (c : Ct) (x9 x10 : Int) : List Bool := let y0 := decide ((c.line x10.toNat).mass < 0); (!y0) :: (!y0) :: (!y0) :: (!y0) :: k15_0_79 c x9 x10
def k15_0_81 (c : Ct) (x9 x10 : Int) : List Bool := (!decide ((c.line x10.toNat).mass > 1099511627776)) :: k15_0_80 c x9 x10
def k15_0_82 (c : Ct) (x9 x10 : Int) : List Bool := let y0 := decide ((c.line x10.toNat).fate < 0); (!y0) :: (!y0) :: (!y0) :: (!y0) :: k15_0_81 c x9 x10
def g15_0_1 (c : Ct) (x9 x10 : Int) : List Bool := (chk (c.line x10.toNat).st != 0) :: k15_0_0 c x9 x10
def g15_0_2 (c : Ct) (x9 x10 : Int) : List Bool := (decide ((c.line x10.toNat).st.entry > c.entries)) :: k15_0_1 c x9 x10
def g15_0_3 (c : Ct) (x9 x10 : Int) : List Bool := (decide (cmpS (c.line x10.toNat).st (c.line (IntKind.i64.wrap (x10 - 1)).toNat).st ≤ 0)) :: k15_0_3 c x9 x10
def g15_0_4 (c : Ct) (x9 x10 : Int) : List Bool := let y0 := decide ((c.line x10.toNat).mass < 0); true :: y0 :: y0 :: y0 :: y0 :: k15_0_4 c x9 x10
def g15_0_5 (c : Ct) (x9 x10 : Int) : List Bool := (decide ((c.line x10.toNat).mass > 1099511627776)) :: k15_0_5 c x9 x10
def g15_0_6 (c : Ct) (x9 x10 : Int) : List Bool := let y0 := decide ((c.line x10.toNat).fate < 0); true :: y0 :: y0 :: y0 :: y0 :: k15_0_6 c x9 x10
def g15_0_7 (c : Ct) (x9 x10 : Int) : List Bool := (decide ((c.line x10.toNat).fate > 4)) :: k15_0_7 c x9 x10
def g15_0_8 (c : Ct) (x9 x10 : Int) : List Bool := let y0 := (c.line x10.toNat).node == []; true :: (!y0) :: (!y0) :: (!y0) :: (!y0) :: (!y0) :: (!y0) :: k15_0_9 c x9 x10
def g15_0_9 (c : Ct) (x9 x10 : Int) : List Bool := (!isName (c.line x10.toNat).node) :: k15_0_11 c x9 x10
def g15_0_10 (c : Ct) (x9 x10 : Int) : List Bool := (!!isName (c.line x10.toNat).node) :: k15_0_11 c x9 x10
def g15_0_11 (c : Ct) (x9 x10 : Int) : List Bool := let y0 := (c.line x10.toNat).node == []; let y1 := (c.line x10.toNat).fate == 0; true :: (!!y0) :: (!!y1) :: (!!y0) :: (!!y1) :: (!!y1) :: (!!y1) :: (!!y1) :: k15_0_10 c x9 x10
def g15_0_12 (c : Ct) (x9 x10 : Int) : List Bool := (!isName (c.line x10.toNat).node) :: k15_0_13 c x9 x10
def g15_0_13 (c : Ct) (x9 x10 : Int) : List Bool := (!!isName (c.line x10.toNat).node) :: k15_0_13 c x9 x10
def g15_0_14 (c : Ct) (x9 x10 : Int) : List Bool := let y0 := (c.line x10.toNat).fate == 0; true :: true :: (!!y0) :: true :: (!!y0) :: (!!y0) :: (!!y0) :: (!!y0) :: k15_0_12 c x9 x10
def g15_0_15 (c : Ct) (x9 x10 : Int) : List Bool := let y0 := decide ((c.line x10.toNat).mass < 0); true :: y0 :: y0 :: y0 :: y0 :: k15_0_14 c x9 x10
def g15_0_16 (c : Ct) (x9 x10 : Int) : List Bool := (decide ((c.line x10.toNat).mass > 1099511627776)) :: k15_0_15 c x9 x10
def g15_0_17 (c : Ct) (x9 x10 : Int) : List Bool := let y0 := decide ((c.line x10.toNat).fate < 0); true :: y0 :: y0 :: y0 :: y0 :: k15_0_16 c x9 x10
def g15_0_18 (c : Ct) (x9 x10 : Int) : List Bool := (decide ((c.line x10.toNat).fate > 4)) :: k15_0_17 c x9 x10
def g15_0_19 (c : Ct) (x9 x10 : Int) : List Bool := let y0 := (c.line x10.toNat).node == []; true :: (!y0) :: (!y0) :: (!y0) :: (!y0) :: (!y0) :: (!y0) :: k15_0_19 c x9 x10
def g15_0_20 (c : Ct) (x9 x10 : Int) : List Bool := (!isName (c.line x10.toNat).node) :: k15_0_21 c x9 x10
def g15_0_21 (c : Ct) (x9 x10 : Int) : List Bool := (!!isName (c.line x10.toNat).node) :: k15_0_21 c x9 x10
def g15_0_22 (c : Ct) (x9 x10 : Int) : List Bool := let y0 := (c.line x10.toNat).node == []; let y1 := (c.line x10.toNat).fate == 0; true :: (!!y0) :: (!!y1) :: (!!y0) :: (!!y1) :: (!!y1) :: (!!y1) :: (!!y1) :: k15_0_20 c x9 x10
def g15_0_23 (c : Ct) (x9 x10 : Int) : List Bool := (!isName (c.line x10.toNat).node) :: k15_0_23 c x9 x10
def g15_0_24 (c : Ct) (x9 x10 : Int) : List Bool := (!!isName (c.line x10.toNat).node) :: k15_0_23 c x9 x10
def g15_0_25 (c : Ct) (x9 x10 : Int) : List Bool := let y0 := (c.line x10.toNat).fate == 0; true :: true :: (!!y0) :: true :: (!!y0) :: (!!y0) :: (!!y0) :: (!!y0) :: k15_0_22 c x9 x10
def g15_0_26 (c : Ct) (x9 x10 : Int) : List Bool := (decide ((c.line x10.toNat).st.entry > c.entries)) :: k15_0_26 c x9 x10
def g15_0_27 (c : Ct) (x9 x10 : Int) : List Bool := (decide (cmpS (c.line x10.toNat).st (c.line (IntKind.i64.wrap (x10 - 1)).toNat).st ≤ 0)) :: k15_0_28 c x9 x10
def g15_0_28 (c : Ct) (x9 x10 : Int) : List Bool := let y0 := decide ((c.line x10.toNat).mass < 0); true :: y0 :: y0 :: y0 :: y0 :: k15_0_29 c x9 x10
def g15_0_29 (c : Ct) (x9 x10 : Int) : List Bool := (decide ((c.line x10.toNat).mass > 1099511627776)) :: k15_0_30 c x9 x10
def g15_0_30 (c : Ct) (x9 x10 : Int) : List Bool := let y0 := decide ((c.line x10.toNat).fate < 0); true :: y0 :: y0 :: y0 :: y0 :: k15_0_31 c x9 x10
def g15_0_31 (c : Ct) (x9 x10 : Int) : List Bool := (decide ((c.line x10.toNat).fate > 4)) :: k15_0_32 c x9 x10
def g15_0_32 (c : Ct) (x9 x10 : Int) : List Bool := let y0 := (c.line x10.toNat).node == []; true :: (!y0) :: (!y0) :: (!y0) :: (!y0) :: (!y0) :: (!y0) :: k15_0_34 c x9 x10
def g15_0_33 (c : Ct) (x9 x10 : Int) : List Bool := (!isName (c.line x10.toNat).node) :: k15_0_36 c x9 x10
def g15_0_34 (c : Ct) (x9 x10 : Int) : List Bool := (!!isName (c.line x10.toNat).node) :: k15_0_36 c x9 x10
def g15_0_35 (c : Ct) (x9 x10 : Int) : List Bool := let y0 := (c.line x10.toNat).node == []; let y1 := (c.line x10.toNat).fate == 0; true :: (!!y0) :: (!!y1) :: (!!y0) :: (!!y1) :: (!!y1) :: (!!y1) :: (!!y1) :: k15_0_35 c x9 x10
def g15_0_36 (c : Ct) (x9 x10 : Int) : List Bool := (!isName (c.line x10.toNat).node) :: k15_0_38 c x9 x10
def g15_0_37 (c : Ct) (x9 x10 : Int) : List Bool := (!!isName (c.line x10.toNat).node) :: k15_0_38 c x9 x10
def g15_0_38 (c : Ct) (x9 x10 : Int) : List Bool := let y0 := (c.line x10.toNat).fate == 0; true :: true :: (!!y0) :: true :: (!!y0) :: (!!y0) :: (!!y0) :: (!!y0) :: k15_0_37 c x9 x10
def g15_0_39 (c : Ct) (x9 x10 : Int) : List Bool := let y0 := decide ((c.line x10.toNat).mass < 0); true :: y0 :: y0 :: y0 :: y0 :: k15_0_39 c x9 x10
def g15_0_40 (c : Ct) (x9 x10 : Int) : List Bool := (decide ((c.line x10.toNat).mass > 1099511627776)) :: k15_0_40 c x9 x10
def g15_0_41 (c : Ct) (x9 x10 : Int) : List Bool := let y0 := decide ((c.line x10.toNat).fate < 0); true :: y0 :: y0 :: y0 :: y0 :: k15_0_41 c x9 x10
def g15_0_42 (c : Ct) (x9 x10 : Int) : List Bool := (decide ((c.line x10.toNat).fate > 4)) :: k15_0_42 c x9 x10
def g15_0_43 (c : Ct) (x9 x10 : Int) : List Bool := let y0 := (c.line x10.toNat).node == []; true :: (!y0) :: (!y0) :: (!y0) :: (!y0) :: (!y0) :: (!y0) :: k15_0_44 c x9 x10
def g15_0_44 (c : Ct) (x9 x10 : Int) : List Bool := (!isName (c.line x10.toNat).node) :: k15_0_46 c x9 x10
def g15_0_45 (c : Ct) (x9 x10 : Int) : List Bool := (!!isName (c.line x10.toNat).node) :: k15_0_46 c x9 x10
def g15_0_46 (c : Ct) (x9 x10 : Int) : List Bool := let y0 := (c.line x10.toNat).node == []; let y1 := (c.line x10.toNat).fate == 0; true :: (!!y0) :: (!!y1) :: (!!y0) :: (!!y1) :: (!!y1) :: (!!y1) :: (!!y1) :: k15_0_45 c x9 x10
def g15_0_47 (c : Ct) (x9 x10 : Int) : List Bool := (!isName (c.line x10.toNat).node) :: k15_0_48 c x9 x10
def g15_0_48 (c : Ct) (x9 x10 : Int) : List Bool := (!!isName (c.line x10.toNat).node) :: k15_0_48 c x9 x10
def g15_0_49 (c : Ct) (x9 x10 : Int) : List Bool := let y0 := (c.line x10.toNat).fate == 0; true :: true :: (!!y0) :: true :: (!!y0) :: (!!y0) :: (!!y0) :: (!!y0) :: k15_0_47 c x9 x10
def g15_0_50 (c : Ct) (x9 x10 : Int) : List Bool := (decide ((c.line x10.toNat).st.entry > c.entries)) :: k15_0_49 c x9 x10
def g15_0_51 (c : Ct) (x9 x10 : Int) : List Bool := (decide (cmpS (c.line x10.toNat).st (c.line (IntKind.i64.wrap (x10 - 1)).toNat).st ≤ 0)) :: k15_0_51 c x9 x10
def g15_0_52 (c : Ct) (x9 x10 : Int) : List Bool := let y0 := decide ((c.line x10.toNat).mass < 0); true :: y0 :: y0 :: y0 :: y0 :: k15_0_52 c x9 x10
def g15_0_53 (c : Ct) (x9 x10 : Int) : List Bool := (decide ((c.line x10.toNat).mass > 1099511627776)) :: k15_0_53 c x9 x10
def g15_0_54 (c : Ct) (x9 x10 : Int) : List Bool := let y0 := decide ((c.line x10.toNat).fate < 0); true :: y0 :: y0 :: y0 :: y0 :: k15_0_54 c x9 x10
def g15_0_55 (c : Ct) (x9 x10 : Int) : List Bool := (decide ((c.line x10.toNat).fate > 4)) :: k15_0_55 c x9 x10
def g15_0_56 (c : Ct) (x9 x10 : Int) : List Bool := (!(c.line x10.toNat).closed == 6) :: (!decide ((c.line x10.toNat).fate > 4)) :: k15_0_55 c x9 x10
def g15_0_57 (c : Ct) (x9 x10 : Int) : List Bool := let y0 := (c.line x10.toNat).node == []; true :: (!y0) :: (!y0) :: (!y0) :: (!y0) :: (!y0) :: (!y0) :: k15_0_57 c x9 x10
def g15_0_58 (c : Ct) (x9 x10 : Int) : List Bool := (!isName (c.line x10.toNat).node) :: k15_0_59 c x9 x10
def g15_0_59 (c : Ct) (x9 x10 : Int) : List Bool := (!!isName (c.line x10.toNat).node) :: k15_0_59 c x9 x10
def g15_0_60 (c : Ct) (x9 x10 : Int) : List Bool := let y0 := (c.line x10.toNat).node == []; let y1 := (c.line x10.toNat).fate == 0; true :: (!!y0) :: (!!y1) :: (!!y0) :: (!!y1) :: (!!y1) :: (!!y1) :: (!!y1) :: k15_0_58 c x9 x10
def g15_0_61 (c : Ct) (x9 x10 : Int) : List Bool := (!isName (c.line x10.toNat).node) :: k15_0_61 c x9 x10
def g15_0_62 (c : Ct) (x9 x10 : Int) : List Bool := (!!isName (c.line x10.toNat).node) :: k15_0_61 c x9 x10
def g15_0_63 (c : Ct) (x9 x10 : Int) : List Bool := let y0 := (c.line x10.toNat).fate == 0; true :: true :: (!!y0) :: true :: (!!y0) :: (!!y0) :: (!!y0) :: (!!y0) :: k15_0_60 c x9 x10
def g15_0_64 (c : Ct) (x9 x10 : Int) : List Bool := let y0 := decide ((c.line x10.toNat).mass < 0); true :: y0 :: y0 :: y0 :: y0 :: k15_0_62 c x9 x10
def g15_0_65 (c : Ct) (x9 x10 : Int) : List Bool := (decide ((c.line x10.toNat).mass > 1099511627776)) :: k15_0_63 c x9 x10
def g15_0_66 (c : Ct) (x9 x10 : Int) : List Bool := let y0 := decide ((c.line x10.toNat).fate < 0); true :: y0 :: y0 :: y0 :: y0 :: k15_0_64 c x9 x10
def g15_0_67 (c : Ct) (x9 x10 : Int) : List Bool := (decide ((c.line x10.toNat).fate > 4)) :: k15_0_65 c x9 x10
def g15_0_68 (c : Ct) (x9 x10 : Int) : List Bool := (!(c.line x10.toNat).closed == 6) :: (!decide ((c.line x10.toNat).fate > 4)) :: k15_0_65 c x9 x10
def g15_0_69 (c : Ct) (x9 x10 : Int) : List Bool := let y0 := (c.line x10.toNat).node == []; true :: (!y0) :: (!y0) :: (!y0) :: (!y0) :: (!y0) :: (!y0) :: k15_0_67 c x9 x10
def g15_0_70 (c : Ct) (x9 x10 : Int) : List Bool := (!isName (c.line x10.toNat).node) :: k15_0_69 c x9 x10
def g15_0_71 (c : Ct) (x9 x10 : Int) : List Bool := (!!isName (c.line x10.toNat).node) :: k15_0_69 c x9 x10
def g15_0_72 (c : Ct) (x9 x10 : Int) : List Bool := let y0 := (c.line x10.toNat).node == []; let y1 := (c.line x10.toNat).fate == 0; true :: (!!y0) :: (!!y1) :: (!!y0) :: (!!y1) :: (!!y1) :: (!!y1) :: (!!y1) :: k15_0_68 c x9 x10
def g15_0_73 (c : Ct) (x9 x10 : Int) : List Bool := (!isName (c.line x10.toNat).node) :: k15_0_71 c x9 x10
def g15_0_74 (c : Ct) (x9 x10 : Int) : List Bool := (!!isName (c.line x10.toNat).node) :: k15_0_71 c x9 x10
def g15_0_75 (c : Ct) (x9 x10 : Int) : List Bool := let y0 := (c.line x10.toNat).fate == 0; true :: true :: (!!y0) :: true :: (!!y0) :: (!!y0) :: (!!y0) :: (!!y0) :: k15_0_70 c x9 x10
def g15_0_76 (c : Ct) (x9 x10 : Int) : List Bool := (decide ((c.line x10.toNat).st.entry > c.entries)) :: k15_0_72 c x9 x10
def g15_0_77 (c : Ct) (x9 x10 : Int) : List Bool := (decide (cmpS (c.line x10.toNat).st (c.line (IntKind.i64.wrap (x10 - 1)).toNat).st ≤ 0)) :: k15_0_74 c x9 x10
def g15_0_78 (c : Ct) (x9 x10 : Int) : List Bool := let y0 := decide ((c.line x10.toNat).mass < 0); true :: y0 :: y0 :: y0 :: y0 :: k15_0_75 c x9 x10
def g15_0_79 (c : Ct) (x9 x10 : Int) : List Bool := (decide ((c.line x10.toNat).mass > 1099511627776)) :: k15_0_76 c x9 x10
def g15_0_80 (c : Ct) (x9 x10 : Int) : List Bool := let y0 := decide ((c.line x10.toNat).fate < 0); true :: y0 :: y0 :: y0 :: y0 :: k15_0_77 c x9 x10
def g15_0_81 (c : Ct) (x9 x10 : Int) : List Bool := (decide ((c.line x10.toNat).fate > 4)) :: k15_0_78 c x9 x10
def g15_0_82 (c : Ct) (x9 x10 : Int) : List Bool := true :: (!decide ((c.line x10.toNat).fate > 4)) :: k15_0_78 c x9 x10
def g15_0_83 (c : Ct) (x9 x10 : Int) : List Bool := let y0 := decide ((c.line x10.toNat).mass < 0); true :: y0 :: y0 :: y0 :: y0 :: k15_0_79 c x9 x10
def g15_0_84 (c : Ct) (x9 x10 : Int) : List Bool := (decide ((c.line x10.toNat).mass > 1099511627776)) :: k15_0_80 c x9 x10
def g15_0_85 (c : Ct) (x9 x10 : Int) : List Bool := let y0 := decide ((c.line x10.toNat).fate < 0); true :: y0 :: y0 :: y0 :: y0 :: k15_0_81 c x9 x10
def g15_0_86 (c : Ct) (x9 x10 : Int) : List Bool := (decide ((c.line x10.toNat).fate > 4)) :: k15_0_82 c x9 x10
def g15_0_87 (c : Ct) (x9 x10 : Int) : List Bool := true :: (!decide ((c.line x10.toNat).fate > 4)) :: k15_0_82 c x9 x10
def g15_0_88 (c : Ct) (x9 x10 : Int) : List Bool := [!decide (x10 < x9)]
def V15_0 (c : Ct) (x9 x10 : Int) : S15 ⊕ T :=
 (if decide (x10 < x9) then (if chk (c.line x10.toNat).st != 0 then (.inr (T.int .i64 (chk (c.line x10.toNat).st))) else (if (c.line x10.toNat).closed == 0 then (if decide ((c.line x10.toNat).st.entry > c.entries) then (.inr (T.int .i64 2)) else (if decide (x10 > 0) then (if decide (cmpS (c.line x10.toNat).st (c.line (IntKind.i64.wrap (x10 - 1)).toNat).st ≤ 0) then (.inr (T.int .i64 24)) else (if decide ((c.line x10.toNat).mass < 0) then (.inr (T.int .i64 38)) else (if decide ((c.line x10.toNat).mass > 1099511627776) then (.inr (T.int .i64 38)) else (if decide ((c.line x10.toNat).fate < 0) then (.inr (T.int .i64 11)) else (if decide ((c.line x10.toNat).fate > 4) then (.inr (T.int .i64 11)) else (if (c.line x10.toNat).fate == 0 then (if !(c.line x10.toNat).node == [] then (.inr (T.int .i64 12)) else (if !(c.line x10.toNat).fate == 0 then (if !isName (c.line x10.toNat).node then (.inr (T.int .i64 12)) else (.inl (.l0 x9 (IntKind.i64.wrap (x10 + 1))))) else (.inl (.l0 x9 (IntKind.i64.wrap (x10 + 1)))))) else (if !(c.line x10.toNat).fate == 0 then (if !isName (c.line x10.toNat).node then (.inr (T.int .i64 12)) else (.inl (.l0 x9 (IntKind.i64.wrap (x10 + 1))))) else (.inl (.l0 x9 (IntKind.i64.wrap (x10 + 1))))))))))) else (if decide ((c.line x10.toNat).mass < 0) then (.inr (T.int .i64 38)) else (if decide ((c.line x10.toNat).mass > 1099511627776) then (.inr (T.int .i64 38)) else (if decide ((c.line x10.toNat).fate < 0) then (.inr (T.int .i64 11)) else (if decide ((c.line x10.toNat).fate > 4) then (.inr (T.int .i64 11)) else (if (c.line x10.toNat).fate == 0 then (if !(c.line x10.toNat).node == [] then (.inr (T.int .i64 12)) else (if !(c.line x10.toNat).fate == 0 then (if !isName (c.line x10.toNat).node then (.inr (T.int .i64 12)) else (.inl (.l0 x9 (IntKind.i64.wrap (x10 + 1))))) else (.inl (.l0 x9 (IntKind.i64.wrap (x10 + 1)))))) else (if !(c.line x10.toNat).fate == 0 then (if !isName (c.line x10.toNat).node then (.inr (T.int .i64 12)) else (.inl (.l0 x9 (IntKind.i64.wrap (x10 + 1))))) else (.inl (.l0 x9 (IntKind.i64.wrap (x10 + 1)))))))))))) else (if (c.line x10.toNat).fate == 4 then (if (c.line x10.toNat).closed == 5 then (if decide ((c.line x10.toNat).st.entry > c.entries) then (.inr (T.int .i64 2)) else (if decide (x10 > 0) then (if decide (cmpS (c.line x10.toNat).st (c.line (IntKind.i64.wrap (x10 - 1)).toNat).st ≤ 0) then (.inr (T.int .i64 24)) else (if decide ((c.line x10.toNat).mass < 0) then (.inr (T.int .i64 38)) else (if decide ((c.line x10.toNat).mass > 1099511627776) then (.inr (T.int .i64 38)) else (if decide ((c.line x10.toNat).fate < 0) then (.inr (T.int .i64 11)) else (if decide ((c.line x10.toNat).fate > 4) then (.inr (T.int .i64 11)) else (if (c.line x10.toNat).fate == 0 then (if !(c.line x10.toNat).node == [] then (.inr (T.int .i64 12)) else (if !(c.line x10.toNat).fate == 0 then (if !isName (c.line x10.toNat).node then (.inr (T.int .i64 12)) else (.inl (.l0 x9 (IntKind.i64.wrap (x10 + 1))))) else (.inl (.l0 x9 (IntKind.i64.wrap (x10 + 1)))))) else (if !(c.line x10.toNat).fate == 0 then (if !isName (c.line x10.toNat).node then (.inr (T.int .i64 12)) else (.inl (.l0 x9 (IntKind.i64.wrap (x10 + 1))))) else (.inl (.l0 x9 (IntKind.i64.wrap (x10 + 1))))))))))) else (if decide ((c.line x10.toNat).mass < 0) then (.inr (T.int .i64 38)) else (if decide ((c.line x10.toNat).mass > 1099511627776) then (.inr (T.int .i64 38)) else (if decide ((c.line x10.toNat).fate < 0) then (.inr (T.int .i64 11)) else (if decide ((c.line x10.toNat).fate > 4) then (.inr (T.int .i64 11)) else (if (c.line x10.toNat).fate == 0 then (if !(c.line x10.toNat).node == [] then (.inr (T.int .i64 12)) else (if !(c.line x10.toNat).fate == 0 then (if !isName (c.line x10.toNat).node then (.inr (T.int .i64 12)) else (.inl (.l0 x9 (IntKind.i64.wrap (x10 + 1))))) else (.inl (.l0 x9 (IntKind.i64.wrap (x10 + 1)))))) else (if !(c.line x10.toNat).fate == 0 then (if !isName (c.line x10.toNat).node then (.inr (T.int .i64 12)) else (.inl (.l0 x9 (IntKind.i64.wrap (x10 + 1))))) else (.inl (.l0 x9 (IntKind.i64.wrap (x10 + 1)))))))))))) else (if decide ((c.line x10.toNat).st.entry > c.entries) then (.inr (T.int .i64 2)) else (if decide (x10 > 0) then (if decide (cmpS (c.line x10.toNat).st (c.line (IntKind.i64.wrap (x10 - 1)).toNat).st ≤ 0) then (.inr (T.int .i64 24)) else (if decide ((c.line x10.toNat).mass < 0) then (.inr (T.int .i64 38)) else (if decide ((c.line x10.toNat).mass > 1099511627776) then (.inr (T.int .i64 38)) else (if decide ((c.line x10.toNat).fate < 0) then (.inr (T.int .i64 11)) else (if decide ((c.line x10.toNat).fate > 4) then (.inr (T.int .i64 11)) else (if !(c.line x10.toNat).closed == 6 then (.inr (T.int .i64 10)) else (if (c.line x10.toNat).fate == 0 then (if !(c.line x10.toNat).node == [] then (.inr (T.int .i64 12)) else (if !(c.line x10.toNat).fate == 0 then (if !isName (c.line x10.toNat).node then (.inr (T.int .i64 12)) else (.inl (.l0 x9 (IntKind.i64.wrap (x10 + 1))))) else (.inl (.l0 x9 (IntKind.i64.wrap (x10 + 1)))))) else (if !(c.line x10.toNat).fate == 0 then (if !isName (c.line x10.toNat).node then (.inr (T.int .i64 12)) else (.inl (.l0 x9 (IntKind.i64.wrap (x10 + 1))))) else (.inl (.l0 x9 (IntKind.i64.wrap (x10 + 1)))))))))))) else (if decide ((c.line x10.toNat).mass < 0) then (.inr (T.int .i64 38)) else (if decide ((c.line x10.toNat).mass > 1099511627776) then (.inr (T.int .i64 38)) else (if decide ((c.line x10.toNat).fate < 0) then (.inr (T.int .i64 11)) else (if decide ((c.line x10.toNat).fate > 4) then (.inr (T.int .i64 11)) else (if !(c.line x10.toNat).closed == 6 then (.inr (T.int .i64 10)) else (if (c.line x10.toNat).fate == 0 then (if !(c.line x10.toNat).node == [] then (.inr (T.int .i64 12)) else (if !(c.line x10.toNat).fate == 0 then (if !isName (c.line x10.toNat).node then (.inr (T.int .i64 12)) else (.inl (.l0 x9 (IntKind.i64.wrap (x10 + 1))))) else (.inl (.l0 x9 (IntKind.i64.wrap (x10 + 1)))))) else (if !(c.line x10.toNat).fate == 0 then (if !isName (c.line x10.toNat).node then (.inr (T.int .i64 12)) else (.inl (.l0 x9 (IntKind.i64.wrap (x10 + 1))))) else (.inl (.l0 x9 (IntKind.i64.wrap (x10 + 1)))))))))))))) else (if decide ((c.line x10.toNat).st.entry > c.entries) then (.inr (T.int .i64 2)) else (if decide (x10 > 0) then (if decide (cmpS (c.line x10.toNat).st (c.line (IntKind.i64.wrap (x10 - 1)).toNat).st ≤ 0) then (.inr (T.int .i64 24)) else (if decide ((c.line x10.toNat).mass < 0) then (.inr (T.int .i64 38)) else (if decide ((c.line x10.toNat).mass > 1099511627776) then (.inr (T.int .i64 38)) else (if decide ((c.line x10.toNat).fate < 0) then (.inr (T.int .i64 11)) else (if decide ((c.line x10.toNat).fate > 4) then (.inr (T.int .i64 11)) else (.inr (T.int .i64 10))))))) else (if decide ((c.line x10.toNat).mass < 0) then (.inr (T.int .i64 38)) else (if decide ((c.line x10.toNat).mass > 1099511627776) then (.inr (T.int .i64 38)) else (if decide ((c.line x10.toNat).fate < 0) then (.inr (T.int .i64 11)) else (if decide ((c.line x10.toNat).fate > 4) then (.inr (T.int .i64 11)) else (.inr (T.int .i64 10))))))))))) else (.inr (T.int .i64 0)))
def K15_0 (c : Ct) (x9 x10 : Int) : Bool :=
 (if decide (x10 < x9) then (if chk (c.line x10.toNat).st != 0 then (allT (g15_0_1 c x9 x10)) else (if (c.line x10.toNat).closed == 0 then (if decide ((c.line x10.toNat).st.entry > c.entries) then (allT (g15_0_2 c x9 x10)) else (if decide (x10 > 0) then (if decide (cmpS (c.line x10.toNat).st (c.line (IntKind.i64.wrap (x10 - 1)).toNat).st ≤ 0) then (allT (g15_0_3 c x9 x10)) else (if decide ((c.line x10.toNat).mass < 0) then (allT (g15_0_4 c x9 x10)) else (if decide ((c.line x10.toNat).mass > 1099511627776) then (allT (g15_0_5 c x9 x10)) else (if decide ((c.line x10.toNat).fate < 0) then (allT (g15_0_6 c x9 x10)) else (if decide ((c.line x10.toNat).fate > 4) then (allT (g15_0_7 c x9 x10)) else (if (c.line x10.toNat).fate == 0 then (if !(c.line x10.toNat).node == [] then (allT (g15_0_8 c x9 x10)) else (if !(c.line x10.toNat).fate == 0 then (if !isName (c.line x10.toNat).node then (allT (g15_0_9 c x9 x10)) else (allT (g15_0_10 c x9 x10))) else (allT (g15_0_11 c x9 x10)))) else (if !(c.line x10.toNat).fate == 0 then (if !isName (c.line x10.toNat).node then (allT (g15_0_12 c x9 x10)) else (allT (g15_0_13 c x9 x10))) else (allT (g15_0_14 c x9 x10))))))))) else (if decide ((c.line x10.toNat).mass < 0) then (allT (g15_0_15 c x9 x10)) else (if decide ((c.line x10.toNat).mass > 1099511627776) then (allT (g15_0_16 c x9 x10)) else (if decide ((c.line x10.toNat).fate < 0) then (allT (g15_0_17 c x9 x10)) else (if decide ((c.line x10.toNat).fate > 4) then (allT (g15_0_18 c x9 x10)) else (if (c.line x10.toNat).fate == 0 then (if !(c.line x10.toNat).node == [] then (allT (g15_0_19 c x9 x10)) else (if !(c.line x10.toNat).fate == 0 then (if !isName (c.line x10.toNat).node then (allT (g15_0_20 c x9 x10)) else (allT (g15_0_21 c x9 x10))) else (allT (g15_0_22 c x9 x10)))) else (if !(c.line x10.toNat).fate == 0 then (if !isName (c.line x10.toNat).node then (allT (g15_0_23 c x9 x10)) else (allT (g15_0_24 c x9 x10))) else (allT (g15_0_25 c x9 x10)))))))))) else (if (c.line x10.toNat).fate == 4 then (if (c.line x10.toNat).closed == 5 then (if decide ((c.line x10.toNat).st.entry > c.entries) then (allT (g15_0_26 c x9 x10)) else (if decide (x10 > 0) then (if decide (cmpS (c.line x10.toNat).st (c.line (IntKind.i64.wrap (x10 - 1)).toNat).st ≤ 0) then (allT (g15_0_27 c x9 x10)) else (if decide ((c.line x10.toNat).mass < 0) then (allT (g15_0_28 c x9 x10)) else (if decide ((c.line x10.toNat).mass > 1099511627776) then (allT (g15_0_29 c x9 x10)) else (if decide ((c.line x10.toNat).fate < 0) then (allT (g15_0_30 c x9 x10)) else (if decide ((c.line x10.toNat).fate > 4) then (allT (g15_0_31 c x9 x10)) else (if (c.line x10.toNat).fate == 0 then (if !(c.line x10.toNat).node == [] then (allT (g15_0_32 c x9 x10)) else (if !(c.line x10.toNat).fate == 0 then (if !isName (c.line x10.toNat).node then (allT (g15_0_33 c x9 x10)) else (allT (g15_0_34 c x9 x10))) else (allT (g15_0_35 c x9 x10)))) else (if !(c.line x10.toNat).fate == 0 then (if !isName (c.line x10.toNat).node then (allT (g15_0_36 c x9 x10)) else (allT (g15_0_37 c x9 x10))) else (allT (g15_0_38 c x9 x10))))))))) else (if decide ((c.line x10.toNat).mass < 0) then (allT (g15_0_39 c x9 x10)) else (if decide ((c.line x10.toNat).mass > 1099511627776) then (allT (g15_0_40 c x9 x10)) else (if decide ((c.line x10.toNat).fate < 0) then (allT (g15_0_41 c x9 x10)) else (if decide ((c.line x10.toNat).fate > 4) then (allT (g15_0_42 c x9 x10)) else (if (c.line x10.toNat).fate == 0 then (if !(c.line x10.toNat).node == [] then (allT (g15_0_43 c x9 x10)) else (if !(c.line x10.toNat).fate == 0 then (if !isName (c.line x10.toNat).node then (allT (g15_0_44 c x9 x10)) else (allT (g15_0_45 c x9 x10))) else (allT (g15_0_46 c x9 x10)))) else (if !(c.line x10.toNat).fate == 0 then (if !isName (c.line x10.toNat).node then (allT (g15_0_47 c x9 x10)) else (allT (g15_0_48 c x9 x10))) else (allT (g15_0_49 c x9 x10)))))))))) else (if decide ((c.line x10.toNat).st.entry > c.entries) then (allT (g15_0_50 c x9 x10)) else (if decide (x10 > 0) then (if decide (cmpS (c.line x10.toNat).st (c.line (IntKind.i64.wrap (x10 - 1)).toNat).st ≤ 0) then (allT (g15_0_51 c x9 x10)) else (if decide ((c.line x10.toNat).mass < 0) then (allT (g15_0_52 c x9 x10)) else (if decide ((c.line x10.toNat).mass > 1099511627776) then (allT (g15_0_53 c x9 x10)) else (if decide ((c.line x10.toNat).fate < 0) then (allT (g15_0_54 c x9 x10)) else (if decide ((c.line x10.toNat).fate > 4) then (allT (g15_0_55 c x9 x10)) else (if !(c.line x10.toNat).closed == 6 then (allT (g15_0_56 c x9 x10)) else (if (c.line x10.toNat).fate == 0 then (if !(c.line x10.toNat).node == [] then (allT (g15_0_57 c x9 x10)) else (if !(c.line x10.toNat).fate == 0 then (if !isName (c.line x10.toNat).node then (allT (g15_0_58 c x9 x10)) else (allT (g15_0_59 c x9 x10))) else (allT (g15_0_60 c x9 x10)))) else (if !(c.line x10.toNat).fate == 0 then (if !isName (c.line x10.toNat).node then (allT (g15_0_61 c x9 x10)) else (allT (g15_0_62 c x9 x10))) else (allT (g15_0_63 c x9 x10)))))))))) else (if decide ((c.line x10.toNat).mass < 0) then (allT (g15_0_64 c x9 x10)) else (if decide ((c.line x10.toNat).mass > 1099511627776) then (allT (g15_0_65 c x9 x10)) else (if decide ((c.line x10.toNat).fate < 0) then (allT (g15_0_66 c x9 x10)) else (if decide ((c.line x10.toNat).fate > 4) then (allT (g15_0_67 c x9 x10)) else (if !(c.line x10.toNat).closed == 6 then (allT (g15_0_68 c x9 x10)) else (if (c.line x10.toNat).fate == 0 then (if !(c.line x10.toNat).node == [] then (allT (g15_0_69 c x9 x10)) else (if !(c.line x10.toNat).fate == 0 then (if !isName (c.line x10.toNat).node then (allT (g15_0_70 c x9 x10)) else (allT (g15_0_71 c x9 x10))) else (allT (g15_0_72 c x9 x10)))) else (if !(c.line x10.toNat).fate == 0 then (if !isName (c.line x10.toNat).node then (allT (g15_0_73 c x9 x10)) else (allT (g15_0_74 c x9 x10))) else (allT (g15_0_75 c x9 x10)))))))))))) else (if decide ((c.line x10.toNat).st.entry > c.entries) then (allT (g15_0_76 c x9 x10)) else (if decide (x10 > 0) then (if decide (cmpS (c.line x10.toNat).st (c.line (IntKind.i64.wrap (x10 - 1)).toNat).st ≤ 0) then (allT (g15_0_77 c x9 x10)) else (if decide ((c.line x10.toNat).mass < 0) then (allT (g15_0_78 c x9 x10)) else (if decide ((c.line x10.toNat).mass > 1099511627776) then (allT (g15_0_79 c x9 x10)) else (if decide ((c.line x10.toNat).fate < 0) then (allT (g15_0_80 c x9 x10)) else (if decide ((c.line x10.toNat).fate > 4) then (allT (g15_0_81 c x9 x10)) else (allT (g15_0_82 c x9 x10))))))) else (if decide ((c.line x10.toNat).mass < 0) then (allT (g15_0_83 c x9 x10)) else (if decide ((c.line x10.toNat).mass > 1099511627776) then (allT (g15_0_84 c x9 x10)) else (if decide ((c.line x10.toNat).fate < 0) then (allT (g15_0_85 c x9 x10)) else (if decide ((c.line x10.toNat).fate > 4) then (allT (g15_0_86 c x9 x10)) else (allT (g15_0_87 c x9 x10))))))))))) else (allT (g15_0_88 c x9 x10)))
def step15_0 (c : Ct) (x9 x10 : Int) : Option (S15 ⊕ T) := if K15_0 c x9 x10 then some (V15_0 c x9 x10) else none
theorem T15_0 (c : Ct) (x9 x10 : Int) (hk : K15_0 c x9 x10 = true) : step15_0 c x9 x10 = some (V15_0 c x9 x10) := if_pos hk
def V15_s (c : Ct) : S15 ⊕ T :=
 (.inl (.l0 (↑c.n : Int) 0))
def K15_s (c : Ct) : Bool :=
 (allT (g15_s_1 c))
def step15 (c : Ct) : S15 → Option (S15 ⊕ T)
 | .l0 x9 x10 => step15_0 c x9 x10
def M15 (c : Ct) : Mch S15 where
 lp := fun σ => match σ with
  | .l0 .. => 0
 keep := fun ι => match ι with
  | 0 => [1, 8, 9, 10]
  | _ => []
 par := fun ι => match ι with
  | 0 => []
  | _ => []
 vs := fun σ => match σ with
  | .l0 x9 x10 => [(ctT c).ref 0, T.slf false c.n fun i => lnT (c.line i), T.int .i64 x9, T.int .i64 x10]
 hp := fun _ => ⟨0, []⟩
 len := 103
 step := step15 c
def r15_0 (c : Ct) (x9 x10 : Int) (fr : List T) (ds : List Bool) : RD Out := (M15 c).rk prog D9 F0 f33 (.l0 x9 x10) fr ds
theorem w15_0_1 (c : Ct) (x9 x10 : Int) (fr : List T) : outK prog f33 20 [] (r15_0 c x9 x10 fr [true, true]) = wdn (T.int .i64 (chk (c.line x10.toNat).st)) (g15_0_1 c x9 x10) := by kernel_rfl
theorem w15_0_2 (c : Ct) (x9 x10 : Int) (fr : List T) : outK prog f33 20 [] (r15_0 c x9 x10 fr (bt 9 509)) = wdn (T.int .i64 2) (g15_0_2 c x9 x10) := by kernel_rfl
theorem w15_0_3 (c : Ct) (x9 x10 : Int) (fr : List T) : outK prog f33 20 [] (r15_0 c x9 x10 fr (bt 22 4194045)) = wdn (T.int .i64 24) (g15_0_3 c x9 x10) := by kernel_rfl
theorem w15_0_4 (c : Ct) (x9 x10 : Int) (fr : List T) : outK prog f33 20 [] (r15_0 c x9 x10 fr (bt 27 132120317)) = wdn (T.int .i64 38) (g15_0_4 c x9 x10) := by kernel_rfl
theorem w15_0_5 (c : Ct) (x9 x10 : Int) (fr : List T) : outK prog f33 20 [] (r15_0 c x9 x10 fr (bt 27 69205757)) = wdn (T.int .i64 38) (g15_0_5 c x9 x10) := by kernel_rfl
theorem w15_0_6 (c : Ct) (x9 x10 : Int) (fr : List T) : outK prog f33 20 [] (r15_0 c x9 x10 fr (bt 32 4162846461)) = wdn (T.int .i64 11) (g15_0_6 c x9 x10) := by kernel_rfl
theorem w15_0_7 (c : Ct) (x9 x10 : Int) (fr : List T) : outK prog f33 20 [] (r15_0 c x9 x10 fr (bt 32 2149580541)) = wdn (T.int .i64 11) (g15_0_7 c x9 x10) := by kernel_rfl
theorem w15_0_8 (c : Ct) (x9 x10 : Int) (fr : List T) : outK prog f33 20 [] (r15_0 c x9 x10 fr (bt 44 17583598206717)) = wdn (T.int .i64 12) (g15_0_8 c x9 x10) := by kernel_rfl
theorem w15_0_9 (c : Ct) (x9 x10 : Int) (fr : List T) : outK prog f33 20 [] (r15_0 c x9 x10 fr (bt 49 384957920837373)) = wdn (T.int .i64 12) (g15_0_9 c x9 x10) := by kernel_rfl
theorem w15_0_10 (c : Ct) (x9 x10 : Int) (fr : List T) : (M15 c).wa prog f33 (r15_0 c x9 x10 fr (bt 49 103482944126717)) 0 (g15_0_10 c x9 x10) (.l0 x9 (IntKind.i64.wrap (x10 + 1))) := by unfold Mch.wa; kernel_rfl
theorem w15_0_11 (c : Ct) (x9 x10 : Int) (fr : List T) : (M15 c).wa prog f33 (r15_0 c x9 x10 fr (bt 49 128851115773)) 0 (g15_0_11 c x9 x10) (.l0 x9 (IntKind.i64.wrap (x10 + 1))) := by unfold Mch.wa; kernel_rfl
theorem w15_0_12 (c : Ct) (x9 x10 : Int) (fr : List T) : outK prog f33 20 [] (r15_0 c x9 x10 fr (bt 49 384829071818493)) = wdn (T.int .i64 12) (g15_0_12 c x9 x10) := by kernel_rfl
theorem w15_0_13 (c : Ct) (x9 x10 : Int) (fr : List T) : (M15 c).wa prog f33 (r15_0 c x9 x10 fr (bt 49 103354095107837)) 0 (g15_0_13 c x9 x10) (.l0 x9 (IntKind.i64.wrap (x10 + 1))) := by unfold Mch.wa; kernel_rfl
theorem w15_0_14 (c : Ct) (x9 x10 : Int) (fr : List T) : (M15 c).wa prog f33 (r15_0 c x9 x10 fr (bt 49 2096893)) 0 (g15_0_14 c x9 x10) (.l0 x9 (IntKind.i64.wrap (x10 + 1))) := by unfold Mch.wa; kernel_rfl
theorem w15_0_15 (c : Ct) (x9 x10 : Int) (fr : List T) : outK prog f33 20 [] (r15_0 c x9 x10 fr (bt 27 130023677)) = wdn (T.int .i64 38) (g15_0_15 c x9 x10) := by kernel_rfl
theorem w15_0_16 (c : Ct) (x9 x10 : Int) (fr : List T) : outK prog f33 20 [] (r15_0 c x9 x10 fr (bt 27 67109117)) = wdn (T.int .i64 38) (g15_0_16 c x9 x10) := by kernel_rfl
theorem w15_0_17 (c : Ct) (x9 x10 : Int) (fr : List T) : outK prog f33 20 [] (r15_0 c x9 x10 fr (bt 32 4160749821)) = wdn (T.int .i64 11) (g15_0_17 c x9 x10) := by kernel_rfl
theorem w15_0_18 (c : Ct) (x9 x10 : Int) (fr : List T) : outK prog f33 20 [] (r15_0 c x9 x10 fr (bt 32 2147483901)) = wdn (T.int .i64 11) (g15_0_18 c x9 x10) := by kernel_rfl
theorem w15_0_19 (c : Ct) (x9 x10 : Int) (fr : List T) : outK prog f33 20 [] (r15_0 c x9 x10 fr (bt 44 17583596110077)) = wdn (T.int .i64 12) (g15_0_19 c x9 x10) := by kernel_rfl
theorem w15_0_20 (c : Ct) (x9 x10 : Int) (fr : List T) : outK prog f33 20 [] (r15_0 c x9 x10 fr (bt 49 384957918740733)) = wdn (T.int .i64 12) (g15_0_20 c x9 x10) := by kernel_rfl
theorem w15_0_21 (c : Ct) (x9 x10 : Int) (fr : List T) : (M15 c).wa prog f33 (r15_0 c x9 x10 fr (bt 49 103482942030077)) 0 (g15_0_21 c x9 x10) (.l0 x9 (IntKind.i64.wrap (x10 + 1))) := by unfold Mch.wa; kernel_rfl
theorem w15_0_22 (c : Ct) (x9 x10 : Int) (fr : List T) : (M15 c).wa prog f33 (r15_0 c x9 x10 fr (bt 49 128849019133)) 0 (g15_0_22 c x9 x10) (.l0 x9 (IntKind.i64.wrap (x10 + 1))) := by unfold Mch.wa; kernel_rfl
theorem w15_0_23 (c : Ct) (x9 x10 : Int) (fr : List T) : outK prog f33 20 [] (r15_0 c x9 x10 fr (bt 49 384829069721853)) = wdn (T.int .i64 12) (g15_0_23 c x9 x10) := by kernel_rfl
theorem w15_0_24 (c : Ct) (x9 x10 : Int) (fr : List T) : (M15 c).wa prog f33 (r15_0 c x9 x10 fr (bt 49 103354093011197)) 0 (g15_0_24 c x9 x10) (.l0 x9 (IntKind.i64.wrap (x10 + 1))) := by unfold Mch.wa; kernel_rfl
theorem w15_0_25 (c : Ct) (x9 x10 : Int) (fr : List T) : (M15 c).wa prog f33 (r15_0 c x9 x10 fr (bt 49 253)) 0 (g15_0_25 c x9 x10) (.l0 x9 (IntKind.i64.wrap (x10 + 1))) := by unfold Mch.wa; kernel_rfl
theorem w15_0_26 (c : Ct) (x9 x10 : Int) (fr : List T) : outK prog f33 20 [] (r15_0 c x9 x10 fr (bt 19 360385)) = wdn (T.int .i64 2) (g15_0_26 c x9 x10) := by kernel_rfl
theorem w15_0_27 (c : Ct) (x9 x10 : Int) (fr : List T) : outK prog f33 20 [] (r15_0 c x9 x10 fr (bt 32 4294541249)) = wdn (T.int .i64 24) (g15_0_27 c x9 x10) := by kernel_rfl
theorem w15_0_28 (c : Ct) (x9 x10 : Int) (fr : List T) : outK prog f33 20 [] (r15_0 c x9 x10 fr (bt 37 135291043777)) = wdn (T.int .i64 38) (g15_0_28 c x9 x10) := by kernel_rfl
theorem w15_0_29 (c : Ct) (x9 x10 : Int) (fr : List T) : outK prog f33 20 [] (r15_0 c x9 x10 fr (bt 37 70866534337)) = wdn (T.int .i64 38) (g15_0_29 c x9 x10) := by kernel_rfl
theorem w15_0_30 (c : Ct) (x9 x10 : Int) (fr : List T) : outK prog f33 20 [] (r15_0 c x9 x10 fr (bt 42 4262754615233)) = wdn (T.int .i64 11) (g15_0_30 c x9 x10) := by kernel_rfl
theorem w15_0_31 (c : Ct) (x9 x10 : Int) (fr : List T) : outK prog f33 20 [] (r15_0 c x9 x10 fr (bt 42 2201170313153)) = wdn (T.int .i64 11) (g15_0_31 c x9 x10) := by kernel_rfl
theorem w15_0_32 (c : Ct) (x9 x10 : Int) (fr : List T) : outK prog f33 20 [] (r15_0 c x9 x10 fr (bt 54 18005604563517377)) = wdn (T.int .i64 12) (g15_0_32 c x9 x10) := by kernel_rfl
theorem w15_0_33 (c : Ct) (x9 x10 : Int) (fr : List T) : outK prog f33 20 [] (r15_0 c x9 x10 fr (bt 59 394196910937309121)) = wdn (T.int .i64 12) (g15_0_33 c x9 x10) := by kernel_rfl
theorem w15_0_34 (c : Ct) (x9 x10 : Int) (fr : List T) : (M15 c).wa prog f33 (r15_0 c x9 x10 fr (bt 59 105966534785597377)) 0 (g15_0_34 c x9 x10) (.l0 x9 (IntKind.i64.wrap (x10 + 1))) := by unfold Mch.wa; kernel_rfl
theorem w15_0_35 (c : Ct) (x9 x10 : Int) (fr : List T) : (M15 c).wa prog f33 (r15_0 c x9 x10 fr (bt 59 131943542390721)) 0 (g15_0_35 c x9 x10) (.l0 x9 (IntKind.i64.wrap (x10 + 1))) := by unfold Mch.wa; kernel_rfl
theorem w15_0_36 (c : Ct) (x9 x10 : Int) (fr : List T) : outK prog f33 20 [] (r15_0 c x9 x10 fr (bt 59 394064969541976001)) = wdn (T.int .i64 12) (g15_0_36 c x9 x10) := by kernel_rfl
theorem w15_0_37 (c : Ct) (x9 x10 : Int) (fr : List T) : (M15 c).wa prog f33 (r15_0 c x9 x10 fr (bt 59 105834593390264257)) 0 (g15_0_37 c x9 x10) (.l0 x9 (IntKind.i64.wrap (x10 + 1))) := by unfold Mch.wa; kernel_rfl
theorem w15_0_38 (c : Ct) (x9 x10 : Int) (fr : List T) : (M15 c).wa prog f33 (r15_0 c x9 x10 fr (bt 59 2147057601)) 0 (g15_0_38 c x9 x10) (.l0 x9 (IntKind.i64.wrap (x10 + 1))) := by unfold Mch.wa; kernel_rfl
theorem w15_0_39 (c : Ct) (x9 x10 : Int) (fr : List T) : outK prog f33 20 [] (r15_0 c x9 x10 fr (bt 37 133144084417)) = wdn (T.int .i64 38) (g15_0_39 c x9 x10) := by kernel_rfl
theorem w15_0_40 (c : Ct) (x9 x10 : Int) (fr : List T) : outK prog f33 20 [] (r15_0 c x9 x10 fr (bt 37 68719574977)) = wdn (T.int .i64 38) (g15_0_40 c x9 x10) := by kernel_rfl
theorem w15_0_41 (c : Ct) (x9 x10 : Int) (fr : List T) : outK prog f33 20 [] (r15_0 c x9 x10 fr (bt 42 4260607655873)) = wdn (T.int .i64 11) (g15_0_41 c x9 x10) := by kernel_rfl
theorem w15_0_42 (c : Ct) (x9 x10 : Int) (fr : List T) : outK prog f33 20 [] (r15_0 c x9 x10 fr (bt 42 2199023353793)) = wdn (T.int .i64 11) (g15_0_42 c x9 x10) := by kernel_rfl
theorem w15_0_43 (c : Ct) (x9 x10 : Int) (fr : List T) : outK prog f33 20 [] (r15_0 c x9 x10 fr (bt 54 18005602416558017)) = wdn (T.int .i64 12) (g15_0_43 c x9 x10) := by kernel_rfl
theorem w15_0_44 (c : Ct) (x9 x10 : Int) (fr : List T) : outK prog f33 20 [] (r15_0 c x9 x10 fr (bt 59 394196908790349761)) = wdn (T.int .i64 12) (g15_0_44 c x9 x10) := by kernel_rfl
theorem w15_0_45 (c : Ct) (x9 x10 : Int) (fr : List T) : (M15 c).wa prog f33 (r15_0 c x9 x10 fr (bt 59 105966532638638017)) 0 (g15_0_45 c x9 x10) (.l0 x9 (IntKind.i64.wrap (x10 + 1))) := by unfold Mch.wa; kernel_rfl
theorem w15_0_46 (c : Ct) (x9 x10 : Int) (fr : List T) : (M15 c).wa prog f33 (r15_0 c x9 x10 fr (bt 59 131941395431361)) 0 (g15_0_46 c x9 x10) (.l0 x9 (IntKind.i64.wrap (x10 + 1))) := by unfold Mch.wa; kernel_rfl
theorem w15_0_47 (c : Ct) (x9 x10 : Int) (fr : List T) : outK prog f33 20 [] (r15_0 c x9 x10 fr (bt 59 394064967395016641)) = wdn (T.int .i64 12) (g15_0_47 c x9 x10) := by kernel_rfl
theorem w15_0_48 (c : Ct) (x9 x10 : Int) (fr : List T) : (M15 c).wa prog f33 (r15_0 c x9 x10 fr (bt 59 105834591243304897)) 0 (g15_0_48 c x9 x10) (.l0 x9 (IntKind.i64.wrap (x10 + 1))) := by unfold Mch.wa; kernel_rfl
theorem w15_0_49 (c : Ct) (x9 x10 : Int) (fr : List T) : (M15 c).wa prog f33 (r15_0 c x9 x10 fr (bt 59 98241)) 0 (g15_0_49 c x9 x10) (.l0 x9 (IntKind.i64.wrap (x10 + 1))) := by unfold Mch.wa; kernel_rfl
theorem w15_0_50 (c : Ct) (x9 x10 : Int) (fr : List T) : outK prog f33 20 [] (r15_0 c x9 x10 fr (bt 19 336833)) = wdn (T.int .i64 2) (g15_0_50 c x9 x10) := by kernel_rfl
theorem w15_0_51 (c : Ct) (x9 x10 : Int) (fr : List T) : outK prog f33 20 [] (r15_0 c x9 x10 fr (bt 32 4294517697)) = wdn (T.int .i64 24) (g15_0_51 c x9 x10) := by kernel_rfl
theorem w15_0_52 (c : Ct) (x9 x10 : Int) (fr : List T) : outK prog f33 20 [] (r15_0 c x9 x10 fr (bt 37 135291020225)) = wdn (T.int .i64 38) (g15_0_52 c x9 x10) := by kernel_rfl
theorem w15_0_53 (c : Ct) (x9 x10 : Int) (fr : List T) : outK prog f33 20 [] (r15_0 c x9 x10 fr (bt 37 70866510785)) = wdn (T.int .i64 38) (g15_0_53 c x9 x10) := by kernel_rfl
theorem w15_0_54 (c : Ct) (x9 x10 : Int) (fr : List T) : outK prog f33 20 [] (r15_0 c x9 x10 fr (bt 42 4262754591681)) = wdn (T.int .i64 11) (g15_0_54 c x9 x10) := by kernel_rfl
theorem w15_0_55 (c : Ct) (x9 x10 : Int) (fr : List T) : outK prog f33 20 [] (r15_0 c x9 x10 fr (bt 42 2201170289601)) = wdn (T.int .i64 11) (g15_0_55 c x9 x10) := by kernel_rfl
theorem w15_0_56 (c : Ct) (x9 x10 : Int) (fr : List T) : outK prog f33 20 [] (r15_0 c x9 x10 fr (bt 43 4400193545153)) = wdn (T.int .i64 10) (g15_0_56 c x9 x10) := by kernel_rfl
theorem w15_0_57 (c : Ct) (x9 x10 : Int) (fr : List T) : outK prog f33 20 [] (r15_0 c x9 x10 fr (bt 54 18005604563493825)) = wdn (T.int .i64 12) (g15_0_57 c x9 x10) := by kernel_rfl
theorem w15_0_58 (c : Ct) (x9 x10 : Int) (fr : List T) : outK prog f33 20 [] (r15_0 c x9 x10 fr (bt 59 394196910937285569)) = wdn (T.int .i64 12) (g15_0_58 c x9 x10) := by kernel_rfl
theorem w15_0_59 (c : Ct) (x9 x10 : Int) (fr : List T) : (M15 c).wa prog f33 (r15_0 c x9 x10 fr (bt 59 105966534785573825)) 0 (g15_0_59 c x9 x10) (.l0 x9 (IntKind.i64.wrap (x10 + 1))) := by unfold Mch.wa; kernel_rfl
theorem w15_0_60 (c : Ct) (x9 x10 : Int) (fr : List T) : (M15 c).wa prog f33 (r15_0 c x9 x10 fr (bt 59 131943542367169)) 0 (g15_0_60 c x9 x10) (.l0 x9 (IntKind.i64.wrap (x10 + 1))) := by unfold Mch.wa; kernel_rfl
theorem w15_0_61 (c : Ct) (x9 x10 : Int) (fr : List T) : outK prog f33 20 [] (r15_0 c x9 x10 fr (bt 59 394064969541952449)) = wdn (T.int .i64 12) (g15_0_61 c x9 x10) := by kernel_rfl
theorem w15_0_62 (c : Ct) (x9 x10 : Int) (fr : List T) : (M15 c).wa prog f33 (r15_0 c x9 x10 fr (bt 59 105834593390240705)) 0 (g15_0_62 c x9 x10) (.l0 x9 (IntKind.i64.wrap (x10 + 1))) := by unfold Mch.wa; kernel_rfl
theorem w15_0_63 (c : Ct) (x9 x10 : Int) (fr : List T) : (M15 c).wa prog f33 (r15_0 c x9 x10 fr (bt 59 2147034049)) 0 (g15_0_63 c x9 x10) (.l0 x9 (IntKind.i64.wrap (x10 + 1))) := by unfold Mch.wa; kernel_rfl
theorem w15_0_64 (c : Ct) (x9 x10 : Int) (fr : List T) : outK prog f33 20 [] (r15_0 c x9 x10 fr (bt 37 133144060865)) = wdn (T.int .i64 38) (g15_0_64 c x9 x10) := by kernel_rfl
theorem w15_0_65 (c : Ct) (x9 x10 : Int) (fr : List T) : outK prog f33 20 [] (r15_0 c x9 x10 fr (bt 37 68719551425)) = wdn (T.int .i64 38) (g15_0_65 c x9 x10) := by kernel_rfl
theorem w15_0_66 (c : Ct) (x9 x10 : Int) (fr : List T) : outK prog f33 20 [] (r15_0 c x9 x10 fr (bt 42 4260607632321)) = wdn (T.int .i64 11) (g15_0_66 c x9 x10) := by kernel_rfl
theorem w15_0_67 (c : Ct) (x9 x10 : Int) (fr : List T) : outK prog f33 20 [] (r15_0 c x9 x10 fr (bt 42 2199023330241)) = wdn (T.int .i64 11) (g15_0_67 c x9 x10) := by kernel_rfl
theorem w15_0_68 (c : Ct) (x9 x10 : Int) (fr : List T) : outK prog f33 20 [] (r15_0 c x9 x10 fr (bt 43 4398046585793)) = wdn (T.int .i64 10) (g15_0_68 c x9 x10) := by kernel_rfl
theorem w15_0_69 (c : Ct) (x9 x10 : Int) (fr : List T) : outK prog f33 20 [] (r15_0 c x9 x10 fr (bt 54 18005602416534465)) = wdn (T.int .i64 12) (g15_0_69 c x9 x10) := by kernel_rfl
theorem w15_0_70 (c : Ct) (x9 x10 : Int) (fr : List T) : outK prog f33 20 [] (r15_0 c x9 x10 fr (bt 59 394196908790326209)) = wdn (T.int .i64 12) (g15_0_70 c x9 x10) := by kernel_rfl
theorem w15_0_71 (c : Ct) (x9 x10 : Int) (fr : List T) : (M15 c).wa prog f33 (r15_0 c x9 x10 fr (bt 59 105966532638614465)) 0 (g15_0_71 c x9 x10) (.l0 x9 (IntKind.i64.wrap (x10 + 1))) := by unfold Mch.wa; kernel_rfl
theorem w15_0_72 (c : Ct) (x9 x10 : Int) (fr : List T) : (M15 c).wa prog f33 (r15_0 c x9 x10 fr (bt 59 131941395407809)) 0 (g15_0_72 c x9 x10) (.l0 x9 (IntKind.i64.wrap (x10 + 1))) := by unfold Mch.wa; kernel_rfl
theorem w15_0_73 (c : Ct) (x9 x10 : Int) (fr : List T) : outK prog f33 20 [] (r15_0 c x9 x10 fr (bt 59 394064967394993089)) = wdn (T.int .i64 12) (g15_0_73 c x9 x10) := by kernel_rfl
theorem w15_0_74 (c : Ct) (x9 x10 : Int) (fr : List T) : (M15 c).wa prog f33 (r15_0 c x9 x10 fr (bt 59 105834591243281345)) 0 (g15_0_74 c x9 x10) (.l0 x9 (IntKind.i64.wrap (x10 + 1))) := by unfold Mch.wa; kernel_rfl
theorem w15_0_75 (c : Ct) (x9 x10 : Int) (fr : List T) : (M15 c).wa prog f33 (r15_0 c x9 x10 fr (bt 59 74689)) 0 (g15_0_75 c x9 x10) (.l0 x9 (IntKind.i64.wrap (x10 + 1))) := by unfold Mch.wa; kernel_rfl
theorem w15_0_76 (c : Ct) (x9 x10 : Int) (fr : List T) : outK prog f33 20 [] (r15_0 c x9 x10 fr (bt 15 16385)) = wdn (T.int .i64 2) (g15_0_76 c x9 x10) := by kernel_rfl
theorem w15_0_77 (c : Ct) (x9 x10 : Int) (fr : List T) : outK prog f33 20 [] (r15_0 c x9 x10 fr (bt 28 268402689)) = wdn (T.int .i64 24) (g15_0_77 c x9 x10) := by kernel_rfl
theorem w15_0_78 (c : Ct) (x9 x10 : Int) (fr : List T) : outK prog f33 20 [] (r15_0 c x9 x10 fr (bt 33 8455684097)) = wdn (T.int .i64 38) (g15_0_78 c x9 x10) := by kernel_rfl
theorem w15_0_79 (c : Ct) (x9 x10 : Int) (fr : List T) : outK prog f33 20 [] (r15_0 c x9 x10 fr (bt 33 4429152257)) = wdn (T.int .i64 38) (g15_0_79 c x9 x10) := by kernel_rfl
theorem w15_0_80 (c : Ct) (x9 x10 : Int) (fr : List T) : outK prog f33 20 [] (r15_0 c x9 x10 fr (bt 38 266422157313)) = wdn (T.int .i64 11) (g15_0_80 c x9 x10) := by kernel_rfl
theorem w15_0_81 (c : Ct) (x9 x10 : Int) (fr : List T) : outK prog f33 20 [] (r15_0 c x9 x10 fr (bt 38 137573138433)) = wdn (T.int .i64 11) (g15_0_81 c x9 x10) := by kernel_rfl
theorem w15_0_82 (c : Ct) (x9 x10 : Int) (fr : List T) : outK prog f33 20 [] (r15_0 c x9 x10 fr (bt 39 275012091905)) = wdn (T.int .i64 10) (g15_0_82 c x9 x10) := by kernel_rfl
theorem w15_0_83 (c : Ct) (x9 x10 : Int) (fr : List T) : outK prog f33 20 [] (r15_0 c x9 x10 fr (bt 33 8321499137)) = wdn (T.int .i64 38) (g15_0_83 c x9 x10) := by kernel_rfl
theorem w15_0_84 (c : Ct) (x9 x10 : Int) (fr : List T) : outK prog f33 20 [] (r15_0 c x9 x10 fr (bt 33 4294967297)) = wdn (T.int .i64 38) (g15_0_84 c x9 x10) := by kernel_rfl
theorem w15_0_85 (c : Ct) (x9 x10 : Int) (fr : List T) : outK prog f33 20 [] (r15_0 c x9 x10 fr (bt 38 266287972353)) = wdn (T.int .i64 11) (g15_0_85 c x9 x10) := by kernel_rfl
theorem w15_0_86 (c : Ct) (x9 x10 : Int) (fr : List T) : outK prog f33 20 [] (r15_0 c x9 x10 fr (bt 38 137438953473)) = wdn (T.int .i64 11) (g15_0_86 c x9 x10) := by kernel_rfl
theorem w15_0_87 (c : Ct) (x9 x10 : Int) (fr : List T) : outK prog f33 20 [] (r15_0 c x9 x10 fr (bt 39 274877906945)) = wdn (T.int .i64 10) (g15_0_87 c x9 x10) := by kernel_rfl
theorem w15_0_88 (c : Ct) (x9 x10 : Int) (fr : List T) : outK prog f33 20 [] (r15_0 c x9 x10 fr [false]) = wdn (T.int .i64 0) (g15_0_88 c x9 x10) := by kernel_rfl
theorem w15_s_1 (c : Ct) : (M15 c).wl prog f33 (runK prog D9 F0 2000 (.code (bodyOf f33)) [] 0 ([ctT c] ++ List.replicate 102 undefT) ⟨0, []⟩ [] []) 0 (g15_s_1 c) (.l0 (↑c.n : Int) 0) := by unfold Mch.wl; kernel_rfl
theorem ways15 (c : Ct) : (M15 c).Ways prog D9 F0 f33 20 := by
 intro σ o fr h
 cases σ with
 | l0 x9 x10 =>
  obtain ⟨hk, ho⟩ := kv_some (K := K15_0 c x9 x10) (V := V15_0 c x9 x10) h
  exact (wk_if (wk_if (kD (w15_0_1 c x9 x10 fr)) (wk_if (wk_if (kD (w15_0_2 c x9 x10 fr)) (wk_if (wk_if (kD (w15_0_3 c x9 x10 fr)) (wk_if (kD (w15_0_4 c x9 x10 fr)) (wk_if (kD (w15_0_5 c x9 x10 fr)) (wk_if (kD (w15_0_6 c x9 x10 fr)) (wk_if (kD (w15_0_7 c x9 x10 fr)) (wk_if (wk_if (kD (w15_0_8 c x9 x10 fr)) (wk_if (wk_if (kD (w15_0_9 c x9 x10 fr)) (kA (w15_0_10 c x9 x10 fr) rfl)) (kA (w15_0_11 c x9 x10 fr) rfl))) (wk_if (wk_if (kD (w15_0_12 c x9 x10 fr)) (kA (w15_0_13 c x9 x10 fr) rfl)) (kA (w15_0_14 c x9 x10 fr) rfl)))))))) (wk_if (kD (w15_0_15 c x9 x10 fr)) (wk_if (kD (w15_0_16 c x9 x10 fr)) (wk_if (kD (w15_0_17 c x9 x10 fr)) (wk_if (kD (w15_0_18 c x9 x10 fr)) (wk_if (wk_if (kD (w15_0_19 c x9 x10 fr)) (wk_if (wk_if (kD (w15_0_20 c x9 x10 fr)) (kA (w15_0_21 c x9 x10 fr) rfl)) (kA (w15_0_22 c x9 x10 fr) rfl))) (wk_if (wk_if (kD (w15_0_23 c x9 x10 fr)) (kA (w15_0_24 c x9 x10 fr) rfl)) (kA (w15_0_25 c x9 x10 fr) rfl))))))))) (wk_if (wk_if (wk_if (kD (w15_0_26 c x9 x10 fr)) (wk_if (wk_if (kD (w15_0_27 c x9 x10 fr)) (wk_if (kD (w15_0_28 c x9 x10 fr)) (wk_if (kD (w15_0_29 c x9 x10 fr)) (wk_if (kD (w15_0_30 c x9 x10 fr)) (wk_if (kD (w15_0_31 c x9 x10 fr)) (wk_if (wk_if (kD (w15_0_32 c x9 x10 fr)) (wk_if (wk_if (kD (w15_0_33 c x9 x10 fr)) (kA (w15_0_34 c x9 x10 fr) rfl)) (kA (w15_0_35 c x9 x10 fr) rfl))) (wk_if (wk_if (kD (w15_0_36 c x9 x10 fr)) (kA (w15_0_37 c x9 x10 fr) rfl)) (kA (w15_0_38 c x9 x10 fr) rfl)))))))) (wk_if (kD (w15_0_39 c x9 x10 fr)) (wk_if (kD (w15_0_40 c x9 x10 fr)) (wk_if (kD (w15_0_41 c x9 x10 fr)) (wk_if (kD (w15_0_42 c x9 x10 fr)) (wk_if (wk_if (kD (w15_0_43 c x9 x10 fr)) (wk_if (wk_if (kD (w15_0_44 c x9 x10 fr)) (kA (w15_0_45 c x9 x10 fr) rfl)) (kA (w15_0_46 c x9 x10 fr) rfl))) (wk_if (wk_if (kD (w15_0_47 c x9 x10 fr)) (kA (w15_0_48 c x9 x10 fr) rfl)) (kA (w15_0_49 c x9 x10 fr) rfl))))))))) (wk_if (kD (w15_0_50 c x9 x10 fr)) (wk_if (wk_if (kD (w15_0_51 c x9 x10 fr)) (wk_if (kD (w15_0_52 c x9 x10 fr)) (wk_if (kD (w15_0_53 c x9 x10 fr)) (wk_if (kD (w15_0_54 c x9 x10 fr)) (wk_if (kD (w15_0_55 c x9 x10 fr)) (wk_if (kD (w15_0_56 c x9 x10 fr)) (wk_if (wk_if (kD (w15_0_57 c x9 x10 fr)) (wk_if (wk_if (kD (w15_0_58 c x9 x10 fr)) (kA (w15_0_59 c x9 x10 fr) rfl)) (kA (w15_0_60 c x9 x10 fr) rfl))) (wk_if (wk_if (kD (w15_0_61 c x9 x10 fr)) (kA (w15_0_62 c x9 x10 fr) rfl)) (kA (w15_0_63 c x9 x10 fr) rfl))))))))) (wk_if (kD (w15_0_64 c x9 x10 fr)) (wk_if (kD (w15_0_65 c x9 x10 fr)) (wk_if (kD (w15_0_66 c x9 x10 fr)) (wk_if (kD (w15_0_67 c x9 x10 fr)) (wk_if (kD (w15_0_68 c x9 x10 fr)) (wk_if (wk_if (kD (w15_0_69 c x9 x10 fr)) (wk_if (wk_if (kD (w15_0_70 c x9 x10 fr)) (kA (w15_0_71 c x9 x10 fr) rfl)) (kA (w15_0_72 c x9 x10 fr) rfl))) (wk_if (wk_if (kD (w15_0_73 c x9 x10 fr)) (kA (w15_0_74 c x9 x10 fr) rfl)) (kA (w15_0_75 c x9 x10 fr) rfl))))))))))) (wk_if (kD (w15_0_76 c x9 x10 fr)) (wk_if (wk_if (kD (w15_0_77 c x9 x10 fr)) (wk_if (kD (w15_0_78 c x9 x10 fr)) (wk_if (kD (w15_0_79 c x9 x10 fr)) (wk_if (kD (w15_0_80 c x9 x10 fr)) (wk_if (kD (w15_0_81 c x9 x10 fr)) (kD (w15_0_82 c x9 x10 fr))))))) (wk_if (kD (w15_0_83 c x9 x10 fr)) (wk_if (kD (w15_0_84 c x9 x10 fr)) (wk_if (kD (w15_0_85 c x9 x10 fr)) (wk_if (kD (w15_0_86 c x9 x10 fr)) (kD (w15_0_87 c x9 x10 fr))))))))))) (kD (w15_0_88 c x9 x10 fr))) hk o ho
theorem oks15 (c : Ct) : ∀ σ, Ps.codeOk (loopAt f33 ((M15 c).lp σ)).1 = true ∧ ksOk (.lp :: (loopAt f33 ((M15 c).lp σ)).2) = true := oks_of 1 (by kernel_rfl) (by intro σ; cases σ <;> exact Nat.le_of_ble_eq_true rfl)
theorem c15 (c : Ct) (n : Nat) {r : T} (hk : K15_s c = true) (hr : (M15 c).fin n (V15_s c) = some r) : PureFn prog gl 33 [ctT c] r :=
 pure_mach (M := (M15 c)) (fn := f33) (k := 20) (d := 8) (c := bodyOf f33) cx9 glFrz (by kernel_rfl) func33 (by kernel_rfl) rfl (by kernel_rfl) (by kernel_rfl) (L := 102) (by kernel_rfl) (ways15 c) (oks15 c) ((kL (w15_s_1 c) rfl) hk _ rfl) hr
end
end Go.Proofs.Tryz

/- Machines, by program (gen2). -/
namespace Go.Proofs.Tryz
noncomputable section
open Go.Ps
set_option maxRecDepth 100000
/-! ### 20 -/
def k20_s_0 (c : Ct) (i : Int) : List Bool := [isV (spT (c.line i.toNat).st) (spT (c.line i.toNat).st), decide ((c.line i.toNat).st.n ≤ 281474976710656), true, true, decide (0 ≤ i), decide (i < (↑c.n : Int)), true]
def k20_s_1 (c : Ct) (i : Int) : List Bool := (!decide ((c.line i.toNat).st.entry > c.entries)) :: (!chk (c.line i.toNat).st != 0) :: k20_s_0 c i
def k20_s_2 (c : Ct) (i : Int) : List Bool := let y0 := decide (i > 0); y0 :: y0 :: (isV (spT (c.line (IntKind.i64.wrap (i - 1)).toNat).st) (spT (c.line (IntKind.i64.wrap (i - 1)).toNat).st)) :: (isV (spT (c.line i.toNat).st) (spT (c.line i.toNat).st)) :: (decide ((c.line (IntKind.i64.wrap (i - 1)).toNat).st.n ≤ 281474976710656)) :: y0 :: y0 :: y0 :: y0 :: y0 :: (decide (0 ≤ IntKind.i64.wrap (i - 1))) :: (decide (IntKind.i64.wrap (i - 1) < (↑c.n : Int))) :: true :: y0 :: y0 :: y0 :: y0 :: y0 :: k20_s_1 c i
def k20_s_3 (c : Ct) (i : Int) : List Bool := (!decide (cmpS (c.line (IntKind.i64.wrap (i - 1)).toNat).st (c.line i.toNat).st ≥ 0)) :: k20_s_2 c i
def k20_s_4 (c : Ct) (i : Int) : List Bool := let y0 := decide ((c.line i.toNat).mass < 0); (!y0) :: (!y0) :: (!y0) :: (!y0) :: k20_s_3 c i
def k20_s_5 (c : Ct) (i : Int) : List Bool := (!decide ((c.line i.toNat).mass > 1099511627776)) :: k20_s_4 c i
def k20_s_6 (c : Ct) (i : Int) : List Bool := let y0 := decide ((c.line i.toNat).fate < 0); (!y0) :: (!y0) :: (!y0) :: (!y0) :: k20_s_5 c i
def k20_s_7 (c : Ct) (i : Int) : List Bool := let y0 := (c.line i.toNat).closed != 0; y0 :: y0 :: y0 :: y0 :: (!decide ((c.line i.toNat).fate > 4)) :: k20_s_6 c i
def k20_s_8 (c : Ct) (i : Int) : List Bool := let y0 := (c.line i.toNat).fate != 4; (!y0) :: (!y0) :: (!y0) :: (!y0) :: k20_s_7 c i
def k20_s_9 (c : Ct) (i : Int) : List Bool := let y0 := (c.line i.toNat).closed != 0; let y1 := (c.line i.toNat).fate != 4; let y2 := (c.line i.toNat).closed != 5; y0 :: (!y1) :: y0 :: y2 :: (!y1) :: y2 :: y2 :: y2 :: k20_s_8 c i
def k20_s_10 (c : Ct) (i : Int) : List Bool := let y0 := ((c.line i.toNat).fate == 0) == ((c.line i.toNat).node == []); (!!y0) :: (!!y0) :: (!!y0) :: (!!y0) :: (!(c.line i.toNat).closed != 6) :: k20_s_9 c i
def k20_s_11 (c : Ct) (i : Int) : List Bool := let y0 := ((c.line i.toNat).fate == 0) == ((c.line i.toNat).node == []); let y1 := (c.line i.toNat).fate != 0; (!!y0) :: y1 :: (!!y0) :: y1 :: (isV (T.str (c.line i.toNat).node) (T.str (c.line i.toNat).node)) :: y1 :: y1 :: y1 :: k20_s_10 c i
def k20_s_12 (c : Ct) (i : Int) : List Bool := let y0 := (c.line i.toNat).closed != 0; let y1 := (c.line i.toNat).fate != 4; let y2 := (c.line i.toNat).closed != 5; true :: y0 :: (!y1) :: y0 :: (!y2) :: (!y1) :: (!y2) :: (!y2) :: (!y2) :: k20_s_8 c i
def k20_s_13 (c : Ct) (i : Int) : List Bool := let y0 := ((c.line i.toNat).fate == 0) == ((c.line i.toNat).node == []); (!!y0) :: (!!y0) :: (!!y0) :: (!!y0) :: k20_s_12 c i
def k20_s_14 (c : Ct) (i : Int) : List Bool := let y0 := ((c.line i.toNat).fate == 0) == ((c.line i.toNat).node == []); let y1 := (c.line i.toNat).fate != 0; (!!y0) :: y1 :: (!!y0) :: y1 :: (isV (T.str (c.line i.toNat).node) (T.str (c.line i.toNat).node)) :: y1 :: y1 :: y1 :: k20_s_13 c i
def k20_s_15 (c : Ct) (i : Int) : List Bool := let y0 := (c.line i.toNat).closed != 0; true :: (!y0) :: (!y0) :: (!y0) :: (!y0) :: (!y0) :: (!y0) :: (!decide ((c.line i.toNat).fate > 4)) :: k20_s_6 c i
def k20_s_16 (c : Ct) (i : Int) : List Bool := let y0 := ((c.line i.toNat).fate == 0) == ((c.line i.toNat).node == []); (!!y0) :: (!!y0) :: (!!y0) :: (!!y0) :: k20_s_15 c i
def k20_s_17 (c : Ct) (i : Int) : List Bool := let y0 := ((c.line i.toNat).fate == 0) == ((c.line i.toNat).node == []); let y1 := (c.line i.toNat).fate != 0; (!!y0) :: y1 :: (!!y0) :: y1 :: (isV (T.str (c.line i.toNat).node) (T.str (c.line i.toNat).node)) :: y1 :: y1 :: y1 :: k20_s_16 c i
def k20_s_18 (c : Ct) (i : Int) : List Bool := let y0 := decide (i > 0); true :: (!y0) :: (!y0) :: (!y0) :: (!y0) :: (!y0) :: (!y0) :: (!y0) :: (!y0) :: (!y0) :: (!y0) :: (!y0) :: (!y0) :: k20_s_1 c i
def k20_s_19 (c : Ct) (i : Int) : List Bool := let y0 := decide ((c.line i.toNat).mass < 0); (!y0) :: (!y0) :: (!y0) :: (!y0) :: k20_s_18 c i
def k20_s_20 (c : Ct) (i : Int) : List Bool := (!decide ((c.line i.toNat).mass > 1099511627776)) :: k20_s_19 c i
def k20_s_21 (c : Ct) (i : Int) : List Bool := let y0 := decide ((c.line i.toNat).fate < 0); (!y0) :: (!y0) :: (!y0) :: (!y0) :: k20_s_20 c i
def k20_s_22 (c : Ct) (i : Int) : List Bool := let y0 := (c.line i.toNat).closed != 0; y0 :: y0 :: y0 :: y0 :: (!decide ((c.line i.toNat).fate > 4)) :: k20_s_21 c i
def k20_s_23 (c : Ct) (i : Int) : List Bool := let y0 := (c.line i.toNat).fate != 4; (!y0) :: (!y0) :: (!y0) :: (!y0) :: k20_s_22 c i
def k20_s_24 (c : Ct) (i : Int) : List Bool := let y0 := (c.line i.toNat).closed != 0; let y1 := (c.line i.toNat).fate != 4; let y2 := (c.line i.toNat).closed != 5; y0 :: (!y1) :: y0 :: y2 :: (!y1) :: y2 :: y2 :: y2 :: k20_s_23 c i
def k20_s_25 (c : Ct) (i : Int) : List Bool := let y0 := ((c.line i.toNat).fate == 0) == ((c.line i.toNat).node == []); (!!y0) :: (!!y0) :: (!!y0) :: (!!y0) :: (!(c.line i.toNat).closed != 6) :: k20_s_24 c i
def k20_s_26 (c : Ct) (i : Int) : List Bool := let y0 := ((c.line i.toNat).fate == 0) == ((c.line i.toNat).node == []); let y1 := (c.line i.toNat).fate != 0; (!!y0) :: y1 :: (!!y0) :: y1 :: (isV (T.str (c.line i.toNat).node) (T.str (c.line i.toNat).node)) :: y1 :: y1 :: y1 :: k20_s_25 c i
def k20_s_27 (c : Ct) (i : Int) : List Bool := let y0 := (c.line i.toNat).closed != 0; let y1 := (c.line i.toNat).fate != 4; let y2 := (c.line i.toNat).closed != 5; true :: y0 :: (!y1) :: y0 :: (!y2) :: (!y1) :: (!y2) :: (!y2) :: (!y2) :: k20_s_23 c i
def k20_s_28 (c : Ct) (i : Int) : List Bool := let y0 := ((c.line i.toNat).fate == 0) == ((c.line i.toNat).node == []); (!!y0) :: (!!y0) :: (!!y0) :: (!!y0) :: k20_s_27 c i
def k20_s_29 (c : Ct) (i : Int) : List Bool := let y0 := ((c.line i.toNat).fate == 0) == ((c.line i.toNat).node == []); let y1 := (c.line i.toNat).fate != 0; (!!y0) :: y1 :: (!!y0) :: y1 :: (isV (T.str (c.line i.toNat).node) (T.str (c.line i.toNat).node)) :: y1 :: y1 :: y1 :: k20_s_28 c i
def k20_s_30 (c : Ct) (i : Int) : List Bool := let y0 := (c.line i.toNat).closed != 0; true :: (!y0) :: (!y0) :: (!y0) :: (!y0) :: (!y0) :: (!y0) :: (!decide ((c.line i.toNat).fate > 4)) :: k20_s_21 c i
def k20_s_31 (c : Ct) (i : Int) : List Bool := let y0 := ((c.line i.toNat).fate == 0) == ((c.line i.toNat).node == []); (!!y0) :: (!!y0) :: (!!y0) :: (!!y0) :: k20_s_30 c i
def k20_s_32 (c : Ct) (i : Int) : List Bool := let y0 := ((c.line i.toNat).fate == 0) == ((c.line i.toNat).node == []); let y1 := (c.line i.toNat).fate != 0; (!!y0) :: y1 :: (!!y0) :: y1 :: (isV (T.str (c.line i.toNat).node) (T.str (c.line i.toNat).node)) :: y1 :: y1 :: y1 :: k20_s_31 c i
def g20_s_1 (c : Ct) (i : Int) : List Bool := (chk (c.line i.toNat).st != 0) :: k20_s_0 c i
def g20_s_2 (c : Ct) (i : Int) : List Bool := (decide ((c.line i.toNat).st.entry > c.entries)) :: (!chk (c.line i.toNat).st != 0) :: k20_s_0 c i
def g20_s_3 (c : Ct) (i : Int) : List Bool := (decide (cmpS (c.line (IntKind.i64.wrap (i - 1)).toNat).st (c.line i.toNat).st ≥ 0)) :: k20_s_2 c i
def g20_s_4 (c : Ct) (i : Int) : List Bool := let y0 := decide ((c.line i.toNat).mass < 0); true :: y0 :: y0 :: y0 :: y0 :: k20_s_3 c i
def g20_s_5 (c : Ct) (i : Int) : List Bool := (decide ((c.line i.toNat).mass > 1099511627776)) :: k20_s_4 c i
def g20_s_6 (c : Ct) (i : Int) : List Bool := let y0 := decide ((c.line i.toNat).fate < 0); true :: y0 :: y0 :: y0 :: y0 :: k20_s_5 c i
def g20_s_7 (c : Ct) (i : Int) : List Bool := (decide ((c.line i.toNat).fate > 4)) :: k20_s_6 c i
def g20_s_8 (c : Ct) (i : Int) : List Bool := let y0 := (c.line i.toNat).closed != 0; let y1 := (c.line i.toNat).fate != 4; true :: y0 :: y1 :: y0 :: y1 :: y1 :: y1 :: y1 :: y1 :: k20_s_7 c i
def g20_s_9 (c : Ct) (i : Int) : List Bool := ((c.line i.toNat).closed != 6) :: k20_s_9 c i
def g20_s_10 (c : Ct) (i : Int) : List Bool := let y0 := ((c.line i.toNat).fate == 0) == ((c.line i.toNat).node == []); true :: (!y0) :: (!y0) :: (!y0) :: (!y0) :: (!y0) :: (!y0) :: (!(c.line i.toNat).closed != 6) :: k20_s_9 c i
def g20_s_11 (c : Ct) (i : Int) : List Bool := (!isName (c.line i.toNat).node) :: k20_s_11 c i
def g20_s_12 (c : Ct) (i : Int) : List Bool := (!!isName (c.line i.toNat).node) :: k20_s_11 c i
def g20_s_13 (c : Ct) (i : Int) : List Bool := let y0 := ((c.line i.toNat).fate == 0) == ((c.line i.toNat).node == []); let y1 := (c.line i.toNat).fate != 0; true :: (!!y0) :: (!y1) :: (!!y0) :: (!y1) :: (!y1) :: (!y1) :: (!y1) :: k20_s_10 c i
def g20_s_14 (c : Ct) (i : Int) : List Bool := let y0 := ((c.line i.toNat).fate == 0) == ((c.line i.toNat).node == []); true :: (!y0) :: (!y0) :: (!y0) :: (!y0) :: (!y0) :: (!y0) :: k20_s_12 c i
def g20_s_15 (c : Ct) (i : Int) : List Bool := (!isName (c.line i.toNat).node) :: k20_s_14 c i
def g20_s_16 (c : Ct) (i : Int) : List Bool := (!!isName (c.line i.toNat).node) :: k20_s_14 c i
def g20_s_17 (c : Ct) (i : Int) : List Bool := let y0 := ((c.line i.toNat).fate == 0) == ((c.line i.toNat).node == []); let y1 := (c.line i.toNat).fate != 0; true :: (!!y0) :: (!y1) :: (!!y0) :: (!y1) :: (!y1) :: (!y1) :: (!y1) :: k20_s_13 c i
def g20_s_18 (c : Ct) (i : Int) : List Bool := let y0 := ((c.line i.toNat).fate == 0) == ((c.line i.toNat).node == []); true :: (!y0) :: (!y0) :: (!y0) :: (!y0) :: (!y0) :: (!y0) :: k20_s_15 c i
def g20_s_19 (c : Ct) (i : Int) : List Bool := (!isName (c.line i.toNat).node) :: k20_s_17 c i
def g20_s_20 (c : Ct) (i : Int) : List Bool := (!!isName (c.line i.toNat).node) :: k20_s_17 c i
def g20_s_21 (c : Ct) (i : Int) : List Bool := let y0 := ((c.line i.toNat).fate == 0) == ((c.line i.toNat).node == []); let y1 := (c.line i.toNat).fate != 0; true :: (!!y0) :: (!y1) :: (!!y0) :: (!y1) :: (!y1) :: (!y1) :: (!y1) :: k20_s_16 c i
def g20_s_22 (c : Ct) (i : Int) : List Bool := let y0 := decide ((c.line i.toNat).mass < 0); true :: y0 :: y0 :: y0 :: y0 :: k20_s_18 c i
def g20_s_23 (c : Ct) (i : Int) : List Bool := (decide ((c.line i.toNat).mass > 1099511627776)) :: k20_s_19 c i
def g20_s_24 (c : Ct) (i : Int) : List Bool := let y0 := decide ((c.line i.toNat).fate < 0); true :: y0 :: y0 :: y0 :: y0 :: k20_s_20 c i
def g20_s_25 (c : Ct) (i : Int) : List Bool := (decide ((c.line i.toNat).fate > 4)) :: k20_s_21 c i
def g20_s_26 (c : Ct) (i : Int) : List Bool := let y0 := (c.line i.toNat).closed != 0; let y1 := (c.line i.toNat).fate != 4; true :: y0 :: y1 :: y0 :: y1 :: y1 :: y1 :: y1 :: y1 :: k20_s_22 c i
def g20_s_27 (c : Ct) (i : Int) : List Bool := ((c.line i.toNat).closed != 6) :: k20_s_24 c i
def g20_s_28 (c : Ct) (i : Int) : List Bool := let y0 := ((c.line i.toNat).fate == 0) == ((c.line i.toNat).node == []); true :: (!y0) :: (!y0) :: (!y0) :: (!y0) :: (!y0) :: (!y0) :: (!(c.line i.toNat).closed != 6) :: k20_s_24 c i
def g20_s_29 (c : Ct) (i : Int) : List Bool := (!isName (c.line i.toNat).node) :: k20_s_26 c i
def g20_s_30 (c : Ct) (i : Int) : List Bool := (!!isName (c.line i.toNat).node) :: k20_s_26 c i
def g20_s_31 (c : Ct) (i : Int) : List Bool := let y0 := ((c.line i.toNat).fate == 0) == ((c.line i.toNat).node == []); let y1 := (c.line i.toNat).fate != 0; true :: (!!y0) :: (!y1) :: (!!y0) :: (!y1) :: (!y1) :: (!y1) :: (!y1) :: k20_s_25 c i
def g20_s_32 (c : Ct) (i : Int) : List Bool := let y0 := ((c.line i.toNat).fate == 0) == ((c.line i.toNat).node == []); true :: (!y0) :: (!y0) :: (!y0) :: (!y0) :: (!y0) :: (!y0) :: k20_s_27 c i
def g20_s_33 (c : Ct) (i : Int) : List Bool := (!isName (c.line i.toNat).node) :: k20_s_29 c i
def g20_s_34 (c : Ct) (i : Int) : List Bool := (!!isName (c.line i.toNat).node) :: k20_s_29 c i
def g20_s_35 (c : Ct) (i : Int) : List Bool := let y0 := ((c.line i.toNat).fate == 0) == ((c.line i.toNat).node == []); let y1 := (c.line i.toNat).fate != 0; true :: (!!y0) :: (!y1) :: (!!y0) :: (!y1) :: (!y1) :: (!y1) :: (!y1) :: k20_s_28 c i
def g20_s_36 (c : Ct) (i : Int) : List Bool := let y0 := ((c.line i.toNat).fate == 0) == ((c.line i.toNat).node == []); true :: (!y0) :: (!y0) :: (!y0) :: (!y0) :: (!y0) :: (!y0) :: k20_s_30 c i
def g20_s_37 (c : Ct) (i : Int) : List Bool := (!isName (c.line i.toNat).node) :: k20_s_32 c i
def g20_s_38 (c : Ct) (i : Int) : List Bool := (!!isName (c.line i.toNat).node) :: k20_s_32 c i
def g20_s_39 (c : Ct) (i : Int) : List Bool := let y0 := ((c.line i.toNat).fate == 0) == ((c.line i.toNat).node == []); let y1 := (c.line i.toNat).fate != 0; true :: (!!y0) :: (!y1) :: (!!y0) :: (!y1) :: (!y1) :: (!y1) :: (!y1) :: k20_s_31 c i
def V20_s (c : Ct) (i : Int) : Empty ⊕ T :=
 (if chk (c.line i.toNat).st != 0 then (.inr (T.int .i64 (chk (c.line i.toNat).st))) else (if decide ((c.line i.toNat).st.entry > c.entries) then (.inr (T.int .i64 2)) else (if decide (i > 0) then (if decide (cmpS (c.line (IntKind.i64.wrap (i - 1)).toNat).st (c.line i.toNat).st ≥ 0) then (.inr (T.int .i64 24)) else (if decide ((c.line i.toNat).mass < 0) then (.inr (T.int .i64 38)) else (if decide ((c.line i.toNat).mass > 1099511627776) then (.inr (T.int .i64 38)) else (if decide ((c.line i.toNat).fate < 0) then (.inr (T.int .i64 11)) else (if decide ((c.line i.toNat).fate > 4) then (.inr (T.int .i64 11)) else (if (c.line i.toNat).closed != 0 then (if (c.line i.toNat).fate != 4 then (.inr (T.int .i64 10)) else (if (c.line i.toNat).closed != 5 then (if (c.line i.toNat).closed != 6 then (.inr (T.int .i64 10)) else (if !((c.line i.toNat).fate == 0) == ((c.line i.toNat).node == []) then (.inr (T.int .i64 12)) else (if (c.line i.toNat).fate != 0 then (if !isName (c.line i.toNat).node then (.inr (T.int .i64 12)) else (.inr (T.int .i64 0))) else (.inr (T.int .i64 0))))) else (if !((c.line i.toNat).fate == 0) == ((c.line i.toNat).node == []) then (.inr (T.int .i64 12)) else (if (c.line i.toNat).fate != 0 then (if !isName (c.line i.toNat).node then (.inr (T.int .i64 12)) else (.inr (T.int .i64 0))) else (.inr (T.int .i64 0)))))) else (if !((c.line i.toNat).fate == 0) == ((c.line i.toNat).node == []) then (.inr (T.int .i64 12)) else (if (c.line i.toNat).fate != 0 then (if !isName (c.line i.toNat).node then (.inr (T.int .i64 12)) else (.inr (T.int .i64 0))) else (.inr (T.int .i64 0)))))))))) else (if decide ((c.line i.toNat).mass < 0) then (.inr (T.int .i64 38)) else (if decide ((c.line i.toNat).mass > 1099511627776) then (.inr (T.int .i64 38)) else (if decide ((c.line i.toNat).fate < 0) then (.inr (T.int .i64 11)) else (if decide ((c.line i.toNat).fate > 4) then (.inr (T.int .i64 11)) else (if (c.line i.toNat).closed != 0 then (if (c.line i.toNat).fate != 4 then (.inr (T.int .i64 10)) else (if (c.line i.toNat).closed != 5 then (if (c.line i.toNat).closed != 6 then (.inr (T.int .i64 10)) else (if !((c.line i.toNat).fate == 0) == ((c.line i.toNat).node == []) then (.inr (T.int .i64 12)) else (if (c.line i.toNat).fate != 0 then (if !isName (c.line i.toNat).node then (.inr (T.int .i64 12)) else (.inr (T.int .i64 0))) else (.inr (T.int .i64 0))))) else (if !((c.line i.toNat).fate == 0) == ((c.line i.toNat).node == []) then (.inr (T.int .i64 12)) else (if (c.line i.toNat).fate != 0 then (if !isName (c.line i.toNat).node then (.inr (T.int .i64 12)) else (.inr (T.int .i64 0))) else (.inr (T.int .i64 0)))))) else (if !((c.line i.toNat).fate == 0) == ((c.line i.toNat).node == []) then (.inr (T.int .i64 12)) else (if (c.line i.toNat).fate != 0 then (if !isName (c.line i.toNat).node then (.inr (T.int .i64 12)) else (.inr (T.int .i64 0))) else (.inr (T.int .i64 0))))))))))))
def K20_s (c : Ct) (i : Int) : Bool :=
 (if chk (c.line i.toNat).st != 0 then (allT (g20_s_1 c i)) else (if decide ((c.line i.toNat).st.entry > c.entries) then (allT (g20_s_2 c i)) else (if decide (i > 0) then (if decide (cmpS (c.line (IntKind.i64.wrap (i - 1)).toNat).st (c.line i.toNat).st ≥ 0) then (allT (g20_s_3 c i)) else (if decide ((c.line i.toNat).mass < 0) then (allT (g20_s_4 c i)) else (if decide ((c.line i.toNat).mass > 1099511627776) then (allT (g20_s_5 c i)) else (if decide ((c.line i.toNat).fate < 0) then (allT (g20_s_6 c i)) else (if decide ((c.line i.toNat).fate > 4) then (allT (g20_s_7 c i)) else (if (c.line i.toNat).closed != 0 then (if (c.line i.toNat).fate != 4 then (allT (g20_s_8 c i)) else (if (c.line i.toNat).closed != 5 then (if (c.line i.toNat).closed != 6 then (allT (g20_s_9 c i)) else (if !((c.line i.toNat).fate == 0) == ((c.line i.toNat).node == []) then (allT (g20_s_10 c i)) else (if (c.line i.toNat).fate != 0 then (if !isName (c.line i.toNat).node then (allT (g20_s_11 c i)) else (allT (g20_s_12 c i))) else (allT (g20_s_13 c i))))) else (if !((c.line i.toNat).fate == 0) == ((c.line i.toNat).node == []) then (allT (g20_s_14 c i)) else (if (c.line i.toNat).fate != 0 then (if !isName (c.line i.toNat).node then (allT (g20_s_15 c i)) else (allT (g20_s_16 c i))) else (allT (g20_s_17 c i)))))) else (if !((c.line i.toNat).fate == 0) == ((c.line i.toNat).node == []) then (allT (g20_s_18 c i)) else (if (c.line i.toNat).fate != 0 then (if !isName (c.line i.toNat).node then (allT (g20_s_19 c i)) else (allT (g20_s_20 c i))) else (allT (g20_s_21 c i)))))))))) else (if decide ((c.line i.toNat).mass < 0) then (allT (g20_s_22 c i)) else (if decide ((c.line i.toNat).mass > 1099511627776) then (allT (g20_s_23 c i)) else (if decide ((c.line i.toNat).fate < 0) then (allT (g20_s_24 c i)) else (if decide ((c.line i.toNat).fate > 4) then (allT (g20_s_25 c i)) else (if (c.line i.toNat).closed != 0 then (if (c.line i.toNat).fate != 4 then (allT (g20_s_26 c i)) else (if (c.line i.toNat).closed != 5 then (if (c.line i.toNat).closed != 6 then (allT (g20_s_27 c i)) else (if !((c.line i.toNat).fate == 0) == ((c.line i.toNat).node == []) then (allT (g20_s_28 c i)) else (if (c.line i.toNat).fate != 0 then (if !isName (c.line i.toNat).node then (allT (g20_s_29 c i)) else (allT (g20_s_30 c i))) else (allT (g20_s_31 c i))))) else (if !((c.line i.toNat).fate == 0) == ((c.line i.toNat).node == []) then (allT (g20_s_32 c i)) else (if (c.line i.toNat).fate != 0 then (if !isName (c.line i.toNat).node then (allT (g20_s_33 c i)) else (allT (g20_s_34 c i))) else (allT (g20_s_35 c i)))))) else (if !((c.line i.toNat).fate == 0) == ((c.line i.toNat).node == []) then (allT (g20_s_36 c i)) else (if (c.line i.toNat).fate != 0 then (if !isName (c.line i.toNat).node then (allT (g20_s_37 c i)) else (allT (g20_s_38 c i))) else (allT (g20_s_39 c i))))))))))))
def r20_s (c : Ct) (i : Int) (ds : List Bool) : RD Out := runK prog D9 F0 2000 (.code (bodyOf f22)) [] 0 ([ctT c, .int .i64 i] ++ List.replicate 95 undefT) ⟨0, []⟩ ds []
theorem w20_s_1 (c : Ct) (i : Int) : outK prog f22 20 [] (r20_s c i [true]) = wdn (T.int .i64 (chk (c.line i.toNat).st)) (g20_s_1 c i) := by kernel_rfl
theorem w20_s_2 (c : Ct) (i : Int) : outK prog f22 20 [] (r20_s c i [false, true]) = wdn (T.int .i64 2) (g20_s_2 c i) := by kernel_rfl
theorem w20_s_3 (c : Ct) (i : Int) : outK prog f22 20 [] (r20_s c i (bt 15 32764)) = wdn (T.int .i64 24) (g20_s_3 c i) := by kernel_rfl
theorem w20_s_4 (c : Ct) (i : Int) : outK prog f22 20 [] (r20_s c i (bt 20 1032188)) = wdn (T.int .i64 38) (g20_s_4 c i) := by kernel_rfl
theorem w20_s_5 (c : Ct) (i : Int) : outK prog f22 20 [] (r20_s c i (bt 20 540668)) = wdn (T.int .i64 38) (g20_s_5 c i) := by kernel_rfl
theorem w20_s_6 (c : Ct) (i : Int) : outK prog f22 20 [] (r20_s c i (bt 25 32522236)) = wdn (T.int .i64 11) (g20_s_6 c i) := by kernel_rfl
theorem w20_s_7 (c : Ct) (i : Int) : outK prog f22 20 [] (r20_s c i (bt 25 16793596)) = wdn (T.int .i64 11) (g20_s_7 c i) := by kernel_rfl
theorem w20_s_8 (c : Ct) (i : Int) : outK prog f22 20 [] (r20_s c i (bt 38 274844368892)) = wdn (T.int .i64 10) (g20_s_8 c i) := by kernel_rfl
theorem w20_s_9 (c : Ct) (i : Int) : outK prog f22 20 [] (r20_s c i (bt 42 3771484618748)) = wdn (T.int .i64 10) (g20_s_9 c i) := by kernel_rfl
theorem w20_s_10 (c : Ct) (i : Int) : outK prog f22 20 [] (r20_s c i (bt 49 560124368273404)) = wdn (T.int .i64 12) (g20_s_10 c i) := by kernel_rfl
theorem w20_s_11 (c : Ct) (i : Int) : outK prog f22 20 [] (r20_s c i (bt 54 12316102692454396)) = wdn (T.int .i64 12) (g20_s_11 c i) := by kernel_rfl
theorem w20_s_12 (c : Ct) (i : Int) : outK prog f22 20 [] (r20_s c i (bt 54 3308903437713404)) = wdn (T.int .i64 0) (g20_s_12 c i) := by kernel_rfl
theorem w20_s_13 (c : Ct) (i : Int) : outK prog f22 20 [] (r20_s c i (bt 54 1572461363196)) = wdn (T.int .i64 0) (g20_s_13 c i) := by kernel_rfl
theorem w20_s_14 (c : Ct) (i : Int) : outK prog f22 20 [] (r20_s c i (bt 49 559926799777788)) = wdn (T.int .i64 12) (g20_s_14 c i) := by kernel_rfl
theorem w20_s_15 (c : Ct) (i : Int) : outK prog f22 20 [] (r20_s c i (bt 54 12315905123958780)) = wdn (T.int .i64 12) (g20_s_15 c i) := by kernel_rfl
theorem w20_s_16 (c : Ct) (i : Int) : outK prog f22 20 [] (r20_s c i (bt 54 3308705869217788)) = wdn (T.int .i64 0) (g20_s_16 c i) := by kernel_rfl
theorem w20_s_17 (c : Ct) (i : Int) : outK prog f22 20 [] (r20_s c i (bt 54 1374892867580)) = wdn (T.int .i64 0) (g20_s_17 c i) := by kernel_rfl
theorem w20_s_18 (c : Ct) (i : Int) : outK prog f22 20 [] (r20_s c i (bt 39 545460862972)) = wdn (T.int .i64 12) (g20_s_18 c i) := by kernel_rfl
theorem w20_s_19 (c : Ct) (i : Int) : outK prog f22 20 [] (r20_s c i (bt 44 12025908445180)) = wdn (T.int .i64 12) (g20_s_19 c i) := by kernel_rfl
theorem w20_s_20 (c : Ct) (i : Int) : outK prog f22 20 [] (r20_s c i (bt 44 3229815422972)) = wdn (T.int .i64 0) (g20_s_20 c i) := by kernel_rfl
theorem w20_s_21 (c : Ct) (i : Int) : outK prog f22 20 [] (r20_s c i (bt 44 16380)) = wdn (T.int .i64 0) (g20_s_21 c i) := by kernel_rfl
theorem w20_s_22 (c : Ct) (i : Int) : outK prog f22 20 [] (r20_s c i (bt 20 1015808)) = wdn (T.int .i64 38) (g20_s_22 c i) := by kernel_rfl
theorem w20_s_23 (c : Ct) (i : Int) : outK prog f22 20 [] (r20_s c i (bt 20 524288)) = wdn (T.int .i64 38) (g20_s_23 c i) := by kernel_rfl
theorem w20_s_24 (c : Ct) (i : Int) : outK prog f22 20 [] (r20_s c i (bt 25 32505856)) = wdn (T.int .i64 11) (g20_s_24 c i) := by kernel_rfl
theorem w20_s_25 (c : Ct) (i : Int) : outK prog f22 20 [] (r20_s c i (bt 25 16777216)) = wdn (T.int .i64 11) (g20_s_25 c i) := by kernel_rfl
theorem w20_s_26 (c : Ct) (i : Int) : outK prog f22 20 [] (r20_s c i (bt 38 274844352512)) = wdn (T.int .i64 10) (g20_s_26 c i) := by kernel_rfl
theorem w20_s_27 (c : Ct) (i : Int) : outK prog f22 20 [] (r20_s c i (bt 42 3771484602368)) = wdn (T.int .i64 10) (g20_s_27 c i) := by kernel_rfl
theorem w20_s_28 (c : Ct) (i : Int) : outK prog f22 20 [] (r20_s c i (bt 49 560124368257024)) = wdn (T.int .i64 12) (g20_s_28 c i) := by kernel_rfl
theorem w20_s_29 (c : Ct) (i : Int) : outK prog f22 20 [] (r20_s c i (bt 54 12316102692438016)) = wdn (T.int .i64 12) (g20_s_29 c i) := by kernel_rfl
theorem w20_s_30 (c : Ct) (i : Int) : outK prog f22 20 [] (r20_s c i (bt 54 3308903437697024)) = wdn (T.int .i64 0) (g20_s_30 c i) := by kernel_rfl
theorem w20_s_31 (c : Ct) (i : Int) : outK prog f22 20 [] (r20_s c i (bt 54 1572461346816)) = wdn (T.int .i64 0) (g20_s_31 c i) := by kernel_rfl
theorem w20_s_32 (c : Ct) (i : Int) : outK prog f22 20 [] (r20_s c i (bt 49 559926799761408)) = wdn (T.int .i64 12) (g20_s_32 c i) := by kernel_rfl
theorem w20_s_33 (c : Ct) (i : Int) : outK prog f22 20 [] (r20_s c i (bt 54 12315905123942400)) = wdn (T.int .i64 12) (g20_s_33 c i) := by kernel_rfl
theorem w20_s_34 (c : Ct) (i : Int) : outK prog f22 20 [] (r20_s c i (bt 54 3308705869201408)) = wdn (T.int .i64 0) (g20_s_34 c i) := by kernel_rfl
theorem w20_s_35 (c : Ct) (i : Int) : outK prog f22 20 [] (r20_s c i (bt 54 1374892851200)) = wdn (T.int .i64 0) (g20_s_35 c i) := by kernel_rfl
theorem w20_s_36 (c : Ct) (i : Int) : outK prog f22 20 [] (r20_s c i (bt 39 545460846592)) = wdn (T.int .i64 12) (g20_s_36 c i) := by kernel_rfl
theorem w20_s_37 (c : Ct) (i : Int) : outK prog f22 20 [] (r20_s c i (bt 44 12025908428800)) = wdn (T.int .i64 12) (g20_s_37 c i) := by kernel_rfl
theorem w20_s_38 (c : Ct) (i : Int) : outK prog f22 20 [] (r20_s c i (bt 44 3229815406592)) = wdn (T.int .i64 0) (g20_s_38 c i) := by kernel_rfl
theorem w20_s_39 (c : Ct) (i : Int) : outK prog f22 20 [] (r20_s c i (bt 44 0)) = wdn (T.int .i64 0) (g20_s_39 c i) := by kernel_rfl
theorem c20 (c : Ct) (i : Int) (n : Nat) {r : T} (hk : K20_s c i = true) (hr : noM.fin n (V20_s c i) = some r) : PureFn prog gl 22 [ctT c, .int .i64 i] r :=
 pure_mach (M := noM) (fn := f22) (k := 20) (d := 8) (c := bodyOf f22) cx9 glFrz (by kernel_rfl) func22 (by kernel_rfl) rfl (by kernel_rfl) (by kernel_rfl) (L := 95) (by kernel_rfl) noM_ways (fun σ => σ.elim) ((wk_if (kD (w20_s_1 c i)) (wk_if (kD (w20_s_2 c i)) (wk_if (wk_if (kD (w20_s_3 c i)) (wk_if (kD (w20_s_4 c i)) (wk_if (kD (w20_s_5 c i)) (wk_if (kD (w20_s_6 c i)) (wk_if (kD (w20_s_7 c i)) (wk_if (wk_if (kD (w20_s_8 c i)) (wk_if (wk_if (kD (w20_s_9 c i)) (wk_if (kD (w20_s_10 c i)) (wk_if (wk_if (kD (w20_s_11 c i)) (kD (w20_s_12 c i))) (kD (w20_s_13 c i))))) (wk_if (kD (w20_s_14 c i)) (wk_if (wk_if (kD (w20_s_15 c i)) (kD (w20_s_16 c i))) (kD (w20_s_17 c i)))))) (wk_if (kD (w20_s_18 c i)) (wk_if (wk_if (kD (w20_s_19 c i)) (kD (w20_s_20 c i))) (kD (w20_s_21 c i)))))))))) (wk_if (kD (w20_s_22 c i)) (wk_if (kD (w20_s_23 c i)) (wk_if (kD (w20_s_24 c i)) (wk_if (kD (w20_s_25 c i)) (wk_if (wk_if (kD (w20_s_26 c i)) (wk_if (wk_if (kD (w20_s_27 c i)) (wk_if (kD (w20_s_28 c i)) (wk_if (wk_if (kD (w20_s_29 c i)) (kD (w20_s_30 c i))) (kD (w20_s_31 c i))))) (wk_if (kD (w20_s_32 c i)) (wk_if (wk_if (kD (w20_s_33 c i)) (kD (w20_s_34 c i))) (kD (w20_s_35 c i)))))) (wk_if (kD (w20_s_36 c i)) (wk_if (wk_if (kD (w20_s_37 c i)) (kD (w20_s_38 c i))) (kD (w20_s_39 c i)))))))))))) hk _ rfl) hr
end
end Go.Proofs.Tryz

/- The order of stamps: plain laws. -/
namespace Go.Proofs.Tryz
open Go.Ps
def cmpL : List Int → List Int → Int
 | [], [] => 0
 | [], _ :: _ => -1
 | _ :: _, [] => 1
 | x :: xs, y :: ys => if cmpI x y ≠ 0 then cmpI x y else cmpL xs ys
def key (s : Sp) : List Int := s.entry :: (List.range' 0 s.n).map s.at_
theorem cmpR_eq (n1 n2 : Nat) (f g : Nat → Int) : ∀ (k i : Nat), k + i = n1 → i ≤ n2 → cmpR n1 n2 f g k i = cmpL ((List.range' i k).map f) ((List.range' i (n2 - i)).map g) := by
 intro k
 induction k with
 | zero =>
  intro i h1 h2
  unfold cmpR
  cases hm : n2 - i with
  | zero => rw [if_neg (by omega)]; simp [cmpL]
  | succ m => rw [if_pos (by omega)]; simp [cmpL, List.range'_succ]
 | succ k ih =>
  intro i h1 h2
  unfold cmpR
  by_cases h3 : n2 ≤ i
  ·rw [if_pos h3, show n2 - i = 0 by omega]
   simp [cmpL, List.range'_succ]
  ·rw [if_neg h3, show n2 - i = (n2 - (i + 1)) + 1 by omega, List.range'_succ, List.range'_succ, List.map_cons, List.map_cons]
   simp only [cmpL]
   rw [ih (i + 1) (by omega) (by omega)]
theorem cmpS_key (a b : Sp) : cmpS a b = cmpL (key a) (key b) := by
 unfold cmpS key cmpP
 rw [cmpR_eq a.n b.n a.at_ b.at_ a.n 0 rfl (by omega)]
 simp only [cmpL, Nat.sub_zero]
theorem cmpI_cases (x y : Int) : (x < y ∧ cmpI x y = -1) ∨ (x = y ∧ cmpI x y = 0) ∨ (x > y ∧ cmpI x y = 1) := by
 unfold cmpI
 by_cases h1 : x < y
 ·left; exact ⟨h1, if_pos h1⟩
 ·by_cases h2 : x > y
  ·right; right; exact ⟨h2, by rw [if_neg h1, if_pos h2]⟩
  ·right; left; exact ⟨by omega, by rw [if_neg h1, if_neg h2]⟩
theorem cmpL_anti : ∀ (xs ys : List Int), cmpL xs ys = - cmpL ys xs
 | [], [] => rfl
 | [], _ :: _ => rfl
 | _ :: _, [] => rfl
 | x :: xs, y :: ys => by
  have ih := cmpL_anti xs ys
  simp only [cmpL]
  rcases cmpI_cases x y with ⟨h, e⟩ | ⟨h, e⟩ | ⟨h, e⟩ <;> rcases cmpI_cases y x with ⟨h', e'⟩ | ⟨h', e'⟩ | ⟨h', e'⟩ <;> first | omega | simp [e, e', ih]
theorem cmpL_eq : ∀ (xs ys : List Int), cmpL xs ys = 0 ↔ xs = ys
 | [], [] => by simp [cmpL]
 | [], _ :: _ => by simp [cmpL]
 | _ :: _, [] => by simp [cmpL]
 | x :: xs, y :: ys => by
  have ih := cmpL_eq xs ys
  simp only [cmpL]
  rcases cmpI_cases x y with ⟨h, e⟩ | ⟨h, e⟩ | ⟨h, e⟩
  ·simp [e]; omega
  ·subst h; simp [e, ih]
  ·simp [e]; omega
theorem cmpL_trans : ∀ (xs ys zs : List Int), cmpL xs ys < 0 → cmpL ys zs < 0 → cmpL xs zs < 0
 | [], [], _, h, _ => by simp [cmpL] at h
 | [], _ :: _, [], _, h => by simp [cmpL] at h
 | [], _ :: _, _ :: _, _, _ => by simp [cmpL]
 | _ :: _, [], _, h, _ => by simp [cmpL] at h
 | _ :: _, _ :: _, [], _, h => by simp [cmpL] at h
 | x :: xs, y :: ys, z :: zs, h1, h2 => by
  have ih := cmpL_trans xs ys zs
  simp only [cmpL] at h1 h2 ⊢
  rcases cmpI_cases x y with ⟨a, e⟩ | ⟨a, e⟩ | ⟨a, e⟩ <;> rcases cmpI_cases y z with ⟨b, e'⟩ | ⟨b, e'⟩ | ⟨b, e'⟩ <;> rcases cmpI_cases x z with ⟨d, e''⟩ | ⟨d, e''⟩ | ⟨d, e''⟩ <;> simp [e, e', e''] at h1 h2 ⊢ <;> first | omega | exact ih h1 h2
theorem cmpS_anti (a b : Sp) : cmpS a b = - cmpS b a := by rw [cmpS_key, cmpS_key, cmpL_anti]
theorem cmpS_eq (a b : Sp) : cmpS a b = 0 ↔ key a = key b := by rw [cmpS_key, cmpL_eq]
theorem cmpS_trans (a b c : Sp) (h1 : cmpS a b < 0) (h2 : cmpS b c < 0) : cmpS a c < 0 := by
 rw [cmpS_key] at *
 exact cmpL_trans _ _ _ h1 h2
theorem cmpS_self (a : Sp) : cmpS a a = 0 := (cmpS_eq a a).2 rfl
theorem cmpS_congr' (a b c : Sp) (h : cmpS b c = 0) : cmpS a b = cmpS a c := by
 rw [cmpS_key a c, cmpS_key a b, (cmpS_eq b c).1 h]
/-! ### searching -/
theorem idxR_found (p : Nat → Bool) : ∀ (k i : Nat), (idxR p k i = -1 ∧ ∀ j, i ≤ j → j < i + k → p j = false) ∨ ∃ j, i ≤ j ∧ j < i + k ∧ p j = true ∧ (∀ m, i ≤ m → m < j → p m = false) ∧ idxR p k i = (j : Int)
 | 0, i => .inl ⟨rfl, fun j h1 h2 => by omega⟩
 | k + 1, i => by
  unfold idxR
  cases h : p i with
  | true => exact .inr ⟨i, by omega, by omega, h, fun m _ _ => by omega, by simp⟩
  | false =>
   simp only [Bool.false_eq_true, if_false]
   rcases idxR_found p k (i + 1) with ⟨e, f⟩ | ⟨j, h1, h2, h3, h4, h5⟩
   ·refine .inl ⟨e, fun j h1 h2 => ?_⟩
    by_cases hj : j = i
    ·rw [hj]; exact h
    ·exact f j (by omega) (by omega)
   ·refine .inr ⟨j, by omega, by omega, h3, fun m h6 h7 => ?_, h5⟩
    by_cases hm : m = i
    ·rw [hm]; exact h
    ·exact h4 m (by omega) h7
theorem idx_found (n : Nat) (p : Nat → Bool) : (idx n p = -1 ∧ ∀ j, j < n → p j = false) ∨ ∃ j, j < n ∧ p j = true ∧ (∀ m, m < j → p m = false) ∧ idx n p = (j : Int) := by
 rcases idxR_found p n 0 with ⟨e, f⟩ | ⟨j, h1, h2, h3, h4, h5⟩
 ·exact .inl ⟨e, fun j h => f j (by omega) (by omega)⟩
 ·exact .inr ⟨j, by omega, h3, fun m hm => h4 m (by omega) hm, h5⟩
theorem bsR_inv (n : Nat) (p : Nat → Int) (hp : ∀ i j, i < j → j < n → p j < 0 → p i < 0) : ∀ (k i j : Nat), j - i ≤ k → i ≤ j → j ≤ n → (∀ m, m < i → p m < 0) → (∀ m, m < bsR p k i j → p m < 0) ∧ i ≤ bsR p k i j ∧ bsR p k i j ≤ j ∧ (bsR p k i j < j → ¬ p (bsR p k i j) < 0) := by
 intro k
 induction k with
 | zero =>
  intro i j h1 h2 hn h3
  unfold bsR
  exact ⟨h3, Nat.le_refl _, h2, fun h => by omega⟩
 | succ k ih =>
  intro i j h1 h2 hn h3
  unfold bsR
  by_cases h4 : i < j
  ·rw [if_pos h4]
   by_cases h5 : p ((i + j) / 2) < 0
   ·rw [if_pos h5]
    obtain ⟨a, b, c, d⟩ := ih ((i + j) / 2 + 1) j (by omega) (by omega) hn (fun m hm => by
     by_cases hme : m = (i + j) / 2
     ·rw [hme]; exact h5
     ·exact hp m _ (by omega) (by omega) h5)
    exact ⟨a, by omega, c, d⟩
   ·rw [if_neg h5]
    obtain ⟨a, b, c, d⟩ := ih i ((i + j) / 2) (by omega) (by omega) (by omega) h3
    refine ⟨a, b, by omega, fun h => ?_⟩
    by_cases he : bsR p k i ((i + j) / 2) < (i + j) / 2
    ·exact d he
    ·rw [show bsR p k i ((i + j) / 2) = (i + j) / 2 by omega]; exact h5
  ·rw [if_neg h4]
   exact ⟨h3, Nat.le_refl _, h2, fun h => by omega⟩
theorem bs_spec (n : Nat) (p : Nat → Int) (hp : ∀ i j, i < j → j < n → p j < 0 → p i < 0) : (∀ m, m < bs n p → p m < 0) ∧ bs n p ≤ n ∧ (bs n p < n → ¬ p (bs n p) < 0) := by
 obtain ⟨a, _, c, d⟩ := bsR_inv n p hp n 0 n (by omega) (by omega) (by omega) (fun m hm => by omega)
 exact ⟨a, c, d⟩
end Go.Proofs.Tryz

/- The second rule: form of the program, second of the law. -/
namespace Go.Proofs.Tryz
open Go.Ps
set_option maxRecDepth 100000
def small (c : Ct) : Prop := c.n ≤ 100 ∧ ∀ i, i < c.n → (c.line i).k ≤ 300 ∧ (c.line i).st.n ≤ 1001 ∧ ∀ k, k < (c.line i).k → ((c.line i).from_ k).n ≤ 1001
noncomputable def fe (c : Ct) (i : Nat) : Int :=
 if chk (c.line i).st ≠ 0 then chk (c.line i).st
 else if (c.line i).st.entry > c.entries then 2
 else if 0 < i ∧ cmpS (c.line (i - 1)).st (c.line i).st ≥ 0 then 24
 else if (c.line i).mass < 0 ∨ (c.line i).mass > 1099511627776 then 38
 else if (c.line i).fate < 0 ∨ (c.line i).fate > 4 then 11
 else if (c.line i).closed ≠ 0 ∧ ¬ ((c.line i).fate = 4 ∧ ((c.line i).closed = 5 ∨ (c.line i).closed = 6)) then 10
 else if ((c.line i).fate = 0 ∧ (c.line i).node ≠ []) ∨ ((c.line i).fate ≠ 0 ∧ isName (c.line i).node = false) then 12
 else 0
def fst (e : Nat → Int) : Nat → Nat → Int
 | 0, _ => 0
 | k + 1, i => if e i ≠ 0 then e i else fst e k (i + 1)
theorem wpred (i : Nat) (h : 0 < i) (h' : i < 4611686018427387904) : IntKind.i64.wrap ((i : Int) - 1) = ((i - 1 : Nat) : Int) := by
 rw [IntWalk.i64_in _ (by omega)]; omega
theorem tree_eq {α : Type} {a : Bool} {x y z : α} (h : a = true → x = z) (h' : a = false → y = z) : (if a = true then x else y) = z := by
 cases a
 ·exact h' rfl
 ·exact h rfl
theorem V20_eq (c : Ct) (i : Nat) (hi : i < 4611686018427387904) : V20_s c i = .inr (.int .i64 (fe c i)) := by
 have hn := isName_nil
 unfold V20_s
 by_cases h0 : 0 < i
 ·rw [wpred i h0 hi]
  simp only [Int.toNat_natCast]
  repeat' (refine tree_eq (fun _ => ?_) (fun _ => ?_))
  all_goals (unfold fe; grind)
 ·have : i = 0 := by omega
  subst this
  repeat' (refine tree_eq (fun _ => ?_) (fun _ => ?_))
  all_goals (unfold fe; grind)
theorem K20_ok (c : Ct) (i : Nat) (hi : i < c.n) (hs : small c) : K20_s c i = true := by
 have hp := (hs.2 i hi).2.1
 have hn := hs.1
 unfold K20_s
 by_cases h0 : 0 < i
 ·have hp' := (hs.2 (i - 1) (by omega)).2.1
  have a1 : decide ((c.line i).st.n ≤ 281474976710656) = true := decide_eq_true (by omega)
  have a2 : decide ((c.line (i - 1)).st.n ≤ 281474976710656) = true := decide_eq_true (by omega)
  have a3 : decide ((i : Int) < c.n) = true := decide_eq_true (by omega)
  have a4 : decide ((0 : Int) ≤ i) = true := decide_eq_true (by omega)
  have a5 : decide (((i - 1 : Nat) : Int) < c.n) = true := decide_eq_true (by omega)
  have a6 : decide ((0 : Int) ≤ ((i - 1 : Nat) : Int)) = true := decide_eq_true (by omega)
  have a7 := wpred i h0 (by omega)
  repeat' (refine tree_eq (fun _ => ?_) (fun _ => ?_))
  all_goals (simp only [g20_s_1, g20_s_2, g20_s_3, g20_s_4, g20_s_5, g20_s_6, g20_s_7, g20_s_8, g20_s_9, g20_s_10, g20_s_11, g20_s_12, g20_s_13, g20_s_14, g20_s_15, g20_s_16, g20_s_17, g20_s_18, g20_s_19, g20_s_20, g20_s_21, g20_s_22, g20_s_23, g20_s_24, g20_s_25, g20_s_26, g20_s_27, g20_s_28, g20_s_29, g20_s_30, g20_s_31, g20_s_32, g20_s_33, g20_s_34, g20_s_35, g20_s_36, g20_s_37, g20_s_38, g20_s_39, a7, Int.toNat_natCast, k20_s_0, k20_s_2, k20_s_1, k20_s_3, k20_s_4, k20_s_5, k20_s_6, k20_s_7, k20_s_9, k20_s_8, k20_s_11, k20_s_10, k20_s_12, k20_s_14, k20_s_13, k20_s_15, k20_s_17, k20_s_16, k20_s_18, k20_s_19, k20_s_20, k20_s_21, k20_s_22, k20_s_24, k20_s_23, k20_s_26, k20_s_25, k20_s_27, k20_s_29, k20_s_28, k20_s_30, k20_s_32, k20_s_31] at *; simp only [*, allT, isV_self, a1, a2, a3, a4, a5, a6, Bool.not_false, Bool.not_true, Bool.and_true])
 ·have : i = 0 := by omega
  subst this
  have a1 : decide ((c.line 0).st.n ≤ 281474976710656) = true := decide_eq_true (by omega)
  have a3 : decide ((0 : Int) < c.n) = true := decide_eq_true (by omega)
  repeat' (refine tree_eq (fun _ => ?_) (fun _ => ?_))
  all_goals (simp only [g20_s_1, g20_s_2, g20_s_3, g20_s_4, g20_s_5, g20_s_6, g20_s_7, g20_s_8, g20_s_9, g20_s_10, g20_s_11, g20_s_12, g20_s_13, g20_s_14, g20_s_15, g20_s_16, g20_s_17, g20_s_18, g20_s_19, g20_s_20, g20_s_21, g20_s_22, g20_s_23, g20_s_24, g20_s_25, g20_s_26, g20_s_27, g20_s_28, g20_s_29, g20_s_30, g20_s_31, g20_s_32, g20_s_33, g20_s_34, g20_s_35, g20_s_36, g20_s_37, g20_s_38, g20_s_39, k20_s_0, k20_s_2, k20_s_1, k20_s_3, k20_s_4, k20_s_5, k20_s_6, k20_s_7, k20_s_9, k20_s_8, k20_s_11, k20_s_10, k20_s_12, k20_s_14, k20_s_13, k20_s_15, k20_s_17, k20_s_16, k20_s_18, k20_s_19, k20_s_20, k20_s_21, k20_s_22, k20_s_24, k20_s_23, k20_s_26, k20_s_25, k20_s_27, k20_s_29, k20_s_28, k20_s_30, k20_s_32, k20_s_31] at *; simp_all [allT])
theorem V15_eq (c : Ct) (i : Nat) (hi : i < c.n) (hs : small c) : V15_0 c c.n i = if fe c i = 0 then .inl (.l0 c.n (i + 1 : Nat)) else .inr (.int .i64 (fe c i)) := by
 have hn := isName_nil
 have h30 := hs.1
 have hw := wsucc i (by omega)
 have han := cmpS_anti (c.line (i - 1)).st (c.line i).st
 unfold V15_0
 rw [hw]
 by_cases h0 : 0 < i
 ·rw [wpred i h0 (by omega)]
  simp only [Int.toNat_natCast]
  repeat' (refine tree_eq (fun _ => ?_) (fun _ => ?_))
  all_goals (unfold fe; grind)
 ·have : i = 0 := by omega
  subst this
  repeat' (refine tree_eq (fun _ => ?_) (fun _ => ?_))
  all_goals (unfold fe; grind)
theorem V15_end (c : Ct) : V15_0 c c.n c.n = .inr (.int .i64 0) := by
 unfold V15_0
 exact if_neg (by simp)
theorem K15_ok (c : Ct) (i : Nat) (hi : i < c.n) (hs : small c) : K15_0 c c.n i = true := by
 have hp := (hs.2 i hi).2.1
 have hn := hs.1
 unfold K15_0
 by_cases h0 : 0 < i
 ·have hp' := (hs.2 (i - 1) (by omega)).2.1
  have a1 : decide ((c.line i).st.n ≤ 281474976710656) = true := decide_eq_true (by omega)
  have a2 : decide ((c.line (i - 1)).st.n ≤ 281474976710656) = true := decide_eq_true (by omega)
  have a3 : decide ((i : Int) < c.n) = true := decide_eq_true (by omega)
  have a4 : decide ((0 : Int) ≤ i) = true := decide_eq_true (by omega)
  have a5 : decide (((i - 1 : Nat) : Int) < c.n) = true := decide_eq_true (by omega)
  have a6 : decide ((0 : Int) ≤ ((i - 1 : Nat) : Int)) = true := decide_eq_true (by omega)
  have a7 := wpred i h0 (by omega)
  repeat' (refine tree_eq (fun _ => ?_) (fun _ => ?_))
  all_goals (simp only [g15_0_1, g15_0_2, g15_0_3, g15_0_4, g15_0_5, g15_0_6, g15_0_7, g15_0_8, g15_0_9, g15_0_10, g15_0_11, g15_0_12, g15_0_13, g15_0_14, g15_0_15, g15_0_16, g15_0_17, g15_0_18, g15_0_19, g15_0_20, g15_0_21, g15_0_22, g15_0_23, g15_0_24, g15_0_25, g15_0_26, g15_0_27, g15_0_28, g15_0_29, g15_0_30, g15_0_31, g15_0_32, g15_0_33, g15_0_34, g15_0_35, g15_0_36, g15_0_37, g15_0_38, g15_0_39, g15_0_40, g15_0_41, g15_0_42, g15_0_43, g15_0_44, g15_0_45, g15_0_46, g15_0_47, g15_0_48, g15_0_49, g15_0_50, g15_0_51, g15_0_52, g15_0_53, g15_0_54, g15_0_55, g15_0_56, g15_0_57, g15_0_58, g15_0_59, g15_0_60, g15_0_61, g15_0_62, g15_0_63, g15_0_64, g15_0_65, g15_0_66, g15_0_67, g15_0_68, g15_0_69, g15_0_70, g15_0_71, g15_0_72, g15_0_73, g15_0_74, g15_0_75, g15_0_76, g15_0_77, g15_0_78, g15_0_79, g15_0_80, g15_0_81, g15_0_82, g15_0_83, g15_0_84, g15_0_85, g15_0_86, g15_0_87, g15_0_88, a7, Int.toNat_natCast, k15_0_0, k15_0_1, k15_0_3, k15_0_2, k15_0_4, k15_0_5, k15_0_6, k15_0_7, k15_0_9, k15_0_8, k15_0_11, k15_0_10, k15_0_13, k15_0_12, k15_0_14, k15_0_15, k15_0_16, k15_0_17, k15_0_19, k15_0_18, k15_0_21, k15_0_20, k15_0_23, k15_0_22, k15_0_26, k15_0_25, k15_0_24, k15_0_28, k15_0_27, k15_0_29, k15_0_30, k15_0_31, k15_0_32, k15_0_34, k15_0_33, k15_0_36, k15_0_35, k15_0_38, k15_0_37, k15_0_39, k15_0_40, k15_0_41, k15_0_42, k15_0_44, k15_0_43, k15_0_46, k15_0_45, k15_0_48, k15_0_47, k15_0_49, k15_0_51, k15_0_50, k15_0_52, k15_0_53, k15_0_54, k15_0_55, k15_0_57, k15_0_56, k15_0_59, k15_0_58, k15_0_61, k15_0_60, k15_0_62, k15_0_63, k15_0_64, k15_0_65, k15_0_67, k15_0_66, k15_0_69, k15_0_68, k15_0_71, k15_0_70, k15_0_72, k15_0_74, k15_0_73, k15_0_75, k15_0_76, k15_0_77, k15_0_78, k15_0_79, k15_0_80, k15_0_81, k15_0_82] at *; first | (simp only [*, allT, isV_self, a1, a2, a3, a4, a5, a6, Bool.not_false, Bool.not_true, Bool.and_true]; done) | simp_all)
 ·have : i = 0 := by omega
  subst this
  have a1 : decide ((c.line 0).st.n ≤ 281474976710656) = true := decide_eq_true (by omega)
  have a3 : decide ((0 : Int) < c.n) = true := decide_eq_true (by omega)
  repeat' (refine tree_eq (fun _ => ?_) (fun _ => ?_))
  all_goals (simp only [g15_0_1, g15_0_2, g15_0_3, g15_0_4, g15_0_5, g15_0_6, g15_0_7, g15_0_8, g15_0_9, g15_0_10, g15_0_11, g15_0_12, g15_0_13, g15_0_14, g15_0_15, g15_0_16, g15_0_17, g15_0_18, g15_0_19, g15_0_20, g15_0_21, g15_0_22, g15_0_23, g15_0_24, g15_0_25, g15_0_26, g15_0_27, g15_0_28, g15_0_29, g15_0_30, g15_0_31, g15_0_32, g15_0_33, g15_0_34, g15_0_35, g15_0_36, g15_0_37, g15_0_38, g15_0_39, g15_0_40, g15_0_41, g15_0_42, g15_0_43, g15_0_44, g15_0_45, g15_0_46, g15_0_47, g15_0_48, g15_0_49, g15_0_50, g15_0_51, g15_0_52, g15_0_53, g15_0_54, g15_0_55, g15_0_56, g15_0_57, g15_0_58, g15_0_59, g15_0_60, g15_0_61, g15_0_62, g15_0_63, g15_0_64, g15_0_65, g15_0_66, g15_0_67, g15_0_68, g15_0_69, g15_0_70, g15_0_71, g15_0_72, g15_0_73, g15_0_74, g15_0_75, g15_0_76, g15_0_77, g15_0_78, g15_0_79, g15_0_80, g15_0_81, g15_0_82, g15_0_83, g15_0_84, g15_0_85, g15_0_86, g15_0_87, g15_0_88, k15_0_0, k15_0_1, k15_0_3, k15_0_2, k15_0_4, k15_0_5, k15_0_6, k15_0_7, k15_0_9, k15_0_8, k15_0_11, k15_0_10, k15_0_13, k15_0_12, k15_0_14, k15_0_15, k15_0_16, k15_0_17, k15_0_19, k15_0_18, k15_0_21, k15_0_20, k15_0_23, k15_0_22, k15_0_26, k15_0_25, k15_0_24, k15_0_28, k15_0_27, k15_0_29, k15_0_30, k15_0_31, k15_0_32, k15_0_34, k15_0_33, k15_0_36, k15_0_35, k15_0_38, k15_0_37, k15_0_39, k15_0_40, k15_0_41, k15_0_42, k15_0_44, k15_0_43, k15_0_46, k15_0_45, k15_0_48, k15_0_47, k15_0_49, k15_0_51, k15_0_50, k15_0_52, k15_0_53, k15_0_54, k15_0_55, k15_0_57, k15_0_56, k15_0_59, k15_0_58, k15_0_61, k15_0_60, k15_0_62, k15_0_63, k15_0_64, k15_0_65, k15_0_67, k15_0_66, k15_0_69, k15_0_68, k15_0_71, k15_0_70, k15_0_72, k15_0_74, k15_0_73, k15_0_75, k15_0_76, k15_0_77, k15_0_78, k15_0_79, k15_0_80, k15_0_81, k15_0_82] at *; simp_all [allT])
theorem K15_end (c : Ct) : K15_0 c c.n c.n = true := by
 unfold K15_0
 rw [if_neg (by simp)]
 simp [g15_0_88, allT]
theorem run15_eq (c : Ct) (hs : small c) : ∀ (k i : Nat), k + i = c.n → (M15 c).run (k + 1) (.l0 c.n i) = some (.int .i64 (fst (fe c) k i)) := by
 intro k
 induction k with
 | zero =>
  intro i hi
  have : i = c.n := by omega
  subst this
  rw [Mch.run_succ]
  show (step15_0 c c.n c.n).bind _ = _
  rw [T15_0 c _ _ (K15_end c), V15_end]
  rfl
 | succ k ih =>
  intro i hi
  rw [Mch.run_succ]
  show (step15_0 c c.n i).bind _ = _
  rw [T15_0 c _ _ (K15_ok c i (by omega) hs), V15_eq c i (by omega) hs]
  unfold fst
  by_cases h : fe c i = 0
  ·rw [if_pos h, if_neg (by simp [h])]
   exact ih (i + 1) (by omega)
  ·rw [if_neg h, if_pos h]
   rfl
noncomputable def formE (c : Ct) : Int := fst (fe c) c.n 0
theorem form_ok (c : Ct) (hs : small c) : PureFn prog gl 33 [ctT c] (.int .i64 (formE c)) :=
 c15 c (c.n + 1) (by simp [K15_s, g15_s_1, allT]) (by
  show (M15 c).fin _ (V15_s c) = _
  unfold V15_s
  exact run15_eq c hs c.n 0 (by omega))
theorem second_ok (c : Ct) (i : Nat) (hi : i < c.n) (hs : small c) : PureFn prog gl 22 [ctT c, .int .i64 i] (.int .i64 (fe c i)) :=
 c20 c i 0 (K20_ok c i hi hs) (by rw [V20_eq c i (by have := hs.1; omega)]; rfl)
end Go.Proofs.Tryz

/- The third rule: parents of the program, third of the law. -/
namespace Go.Proofs.Tryz
open Go.Ps
set_option maxRecDepth 100000
def Runs {S : Type} (M : Mch S) (s : S) (r : T) : Prop := ∃ n, M.run n s = some r
theorem Runs.next {S : Type} {M : Mch S} {s s' : S} {r : T} (h : M.step s = some (.inl s')) (k : Runs M s' r) : Runs M s r := by
 obtain ⟨n, hn⟩ := k
 exact ⟨n + 1, by rw [Mch.run_succ, h]; exact hn⟩
theorem Runs.done {S : Type} {M : Mch S} {s : S} {r : T} (h : M.step s = some (.inr r)) : Runs M s r := ⟨1, by rw [Mch.run_succ, h]; rfl⟩
def exR (p : Nat → Bool) : Nat → Nat → Bool
 | 0, _ => false
 | m + 1, k => if p k then true else exR p m (k + 1)
def ordBad (x : Ln) (k : Nat) : Bool := (decide (0 < k) && decide (cmpS (x.from_ (k - 1)) (x.from_ k) ≥ 0)) || decide (cmpS (x.from_ k) x.st ≥ 0)
def te (fnd : Sp → Bool) (c : Ct) (i : Nat) : Int :=
 if exR (ordBad (c.line i)) (c.line i).k 0 then 24
 else if exR (fun k => !fnd ((c.line i).from_ k)) (c.line i).k 0 then 8
 else if (c.line i).k = 0 ∧ (arr (c.line i).st = false ∨ (c.line i).mass ≠ 1048576) then 38 else 0
def fp (c : Ct) (s : Sp) : Bool := found c.n (fun i => cmpS (c.line i).st s)
def fl (c : Ct) (s : Sp) : Bool := !decide (idx c.n (fun i => eqS (c.line i).st s) < 0)
theorem small_modest {c : Ct} (hs : small c) : modestB c.n c.line = true :=
 modestB_iff.2 ⟨by have := hs.1; omega, fun i hi => by have := (hs.2 i hi).2.1; omega⟩
section parents
variable (c : Ct) (hs : small c) (i : Nat) (hi : i < c.n)
include hs hi
theorem st16_0 : (M16 c).step (.l0 c.n i) = some (.inl (.l1 c.n i (c.line i).k (0 : Nat))) := by
 show step16_0 c c.n i = _
 have a1 : decide ((i : Int) < c.n) = true := decide_eq_true (by omega)
 rw [T16_0 c c.n i (by unfold K16_0; simp only [g16_0_1, g16_0_2, allT, a1, decide_eq_true (show (0 : Int) ≤ i by omega), reduceIte, Bool.and_true])]
 unfold V16_0
 rw [a1]
 rfl
theorem st16_1 (k : Nat) (hk : k < (c.line i).k) : (M16 c).step (.l1 c.n i (c.line i).k k) = some (if ordBad (c.line i) k then .inr (.int .i64 24) else .inl (.l1 c.n i (c.line i).k (k + 1 : Nat))) := by
 show step16_1 c c.n i (c.line i).k k = _
 have h1 := hs.1
 obtain ⟨h2, h3, h4⟩ := hs.2 i hi
 have h5 := h4 k hk
 have b1 : decide (((c.line i).from_ k).n ≤ 281474976710656) = true := decide_eq_true (by omega)
 have b2 : decide ((k : Int) < (c.line i).k) = true := decide_eq_true (by omega)
 have b3 : decide ((0 : Int) ≤ k) = true := decide_eq_true (by omega)
 rw [T16_1 c c.n i (c.line i).k k ?_]
 ·congr 1
  unfold V16_1
  rw [wsucc k (by omega)]
  by_cases h0 : 0 < k
  ·rw [wpred k h0 (by omega)]
   simp only [Int.toNat_natCast]
   repeat' (refine tree_eq (fun _ => ?_) (fun _ => ?_))
   all_goals (unfold ordBad; grind)
  ·have : k = 0 := by omega
   subst this
   repeat' (refine tree_eq (fun _ => ?_) (fun _ => ?_))
   all_goals (unfold ordBad; grind)
 ·unfold K16_1
  by_cases h0 : 0 < k
  ·have h6 := h4 (k - 1) (by omega)
   have b4 : decide (((c.line i).from_ (k - 1)).n ≤ 281474976710656) = true := decide_eq_true (by omega)
   have b5 : decide (((k - 1 : Nat) : Int) < (c.line i).k) = true := decide_eq_true (by omega)
   have b6 : decide ((0 : Int) ≤ ((k - 1 : Nat) : Int)) = true := decide_eq_true (by omega)
   have b7 := wpred k h0 (by omega)
   repeat' (refine tree_eq (fun _ => ?_) (fun _ => ?_))
   all_goals (simp only [g16_1_1, g16_1_2, g16_1_3, g16_1_4, g16_1_5, g16_1_6, b7, Int.toNat_natCast, k16_1_1, k16_1_0, k16_1_2, k16_1_3] at *; first | (simp only [*, allT, isV_self, Bool.not_false, Bool.not_true, Bool.and_true]; done) | simp_all)
  ·have : k = 0 := by omega
   subst this
   repeat' (refine tree_eq (fun _ => ?_) (fun _ => ?_))
   all_goals (simp only [g16_1_1, g16_1_2, g16_1_3, g16_1_4, g16_1_5, g16_1_6, k16_1_1, k16_1_0, k16_1_2, k16_1_3] at *; simp_all [allT])
theorem st16_1e : (M16 c).step (.l1 c.n i (c.line i).k ((c.line i).k : Nat)) = some (.inl (.l2 c.n i (c.line i).k (0 : Nat))) := by
 show step16_1 c c.n i (c.line i).k (c.line i).k = _
 rw [T16_1 c c.n i (c.line i).k (c.line i).k (by unfold K16_1; rw [if_neg (by simp)]; simp [g16_1_1, g16_1_2, g16_1_3, g16_1_4, g16_1_5, g16_1_6, allT, k16_1_1, k16_1_0, k16_1_2, k16_1_3])]
 unfold V16_1
 rw [if_neg (by simp)]
 rfl
theorem st16_2 (k : Nat) (hk : k < (c.line i).k) : (M16 c).step (.l2 c.n i (c.line i).k k) = some (if !fp c ((c.line i).from_ k) then .inr (.int .i64 8) else .inl (.l2 c.n i (c.line i).k (k + 1 : Nat))) := by
 show step16_2 c c.n i (c.line i).k k = _
 have h1 := hs.1
 have hm := small_modest hs
 obtain ⟨h2, h3, h4⟩ := hs.2 i hi
 have b2 : decide ((k : Int) < (c.line i).k) = true := decide_eq_true (by omega)
 have b3 : decide ((0 : Int) ≤ k) = true := decide_eq_true (by omega)
 rw [T16_2 c c.n i (c.line i).k k ?_]
 ·congr 1
  unfold V16_2 fp
  rw [wsucc k (by omega), b2]
  simp only [Int.toNat_natCast, reduceIte]
 ·unfold K16_2
  rw [if_pos b2]
  refine tree_eq (fun e => ?_) (fun e => ?_)
  all_goals (simp only [g16_2_1, g16_2_2, g16_2_3, g16_2_4, g16_2_5, g16_2_6, Int.toNat_natCast, k16_2_0, k16_2_1, k16_2_2] at *; simp only [e, allT, lsT, isV_self, hm, b2, b3, Bool.not_false, Bool.not_true, Bool.and_true])
theorem st16_2e : (M16 c).step (.l2 c.n i (c.line i).k ((c.line i).k : Nat)) = some (if (c.line i).k = 0 ∧ (arr (c.line i).st = false ∨ (c.line i).mass ≠ 1048576) then .inr (.int .i64 38) else .inl (.l0 c.n (i + 1 : Nat))) := by
 show step16_2 c c.n i (c.line i).k (c.line i).k = _
 have h1 := hs.1
 rw [T16_2 c c.n i (c.line i).k (c.line i).k ?_]
 ·congr 1
  unfold V16_2
  rw [wsucc i (by omega), if_neg (by simp)]
  simp only [Int.toNat_natCast]
  repeat' (refine tree_eq (fun _ => ?_) (fun _ => ?_))
  all_goals grind
 ·unfold K16_2
  rw [if_neg (by simp)]
  repeat' (refine tree_eq (fun _ => ?_) (fun _ => ?_))
  all_goals (simp only [g16_2_1, g16_2_2, g16_2_3, g16_2_4, g16_2_5, g16_2_6, Int.toNat_natCast, k16_2_0, k16_2_1, k16_2_2] at *; simp_all [allT])
theorem ln16 (r : T) (hr : Runs (M16 c) (.l0 c.n (i + 1 : Nat)) r) : Runs (M16 c) (.l0 c.n i) (if te (fp c) c i ≠ 0 then .int .i64 (te (fp c) c i) else r) := by
 have h2 : ∀ (m k : Nat), m + k = (c.line i).k → Runs (M16 c) (.l2 c.n i (c.line i).k k) (if exR (fun k => !fp c ((c.line i).from_ k)) m k then .int .i64 8 else if (c.line i).k = 0 ∧ (arr (c.line i).st = false ∨ (c.line i).mass ≠ 1048576) then .int .i64 38 else r) := by
  intro m
  induction m with
  | zero =>
   intro k hk
   have : k = (c.line i).k := by omega
   subst this
   have hst := st16_2e c hs i hi
   simp only [exR, Bool.false_eq_true, if_false]
   by_cases h : (c.line i).k = 0 ∧ (arr (c.line i).st = false ∨ (c.line i).mass ≠ 1048576)
   ·rw [if_pos h] at hst ⊢; exact .done hst
   ·rw [if_neg h] at hst ⊢; exact .next hst hr
  | succ m ih =>
   intro k hk
   have hst := st16_2 c hs i hi k (by omega)
   unfold exR
   cases h : fp c ((c.line i).from_ k)
   ·rw [h] at hst; exact .done hst
   ·rw [h] at hst; exact .next hst (ih (k + 1) (by omega))
 have h1 : ∀ (m k : Nat), m + k = (c.line i).k → Runs (M16 c) (.l1 c.n i (c.line i).k k) (if exR (ordBad (c.line i)) m k then .int .i64 24 else if exR (fun k => !fp c ((c.line i).from_ k)) (c.line i).k 0 then .int .i64 8 else if (c.line i).k = 0 ∧ (arr (c.line i).st = false ∨ (c.line i).mass ≠ 1048576) then .int .i64 38 else r) := by
  intro m
  induction m with
  | zero =>
   intro k hk
   have : k = (c.line i).k := by omega
   subst this
   simp only [exR, Bool.false_eq_true, if_false]
   exact .next (st16_1e c hs i hi) (h2 (c.line i).k 0 (by omega))
  | succ m ih =>
   intro k hk
   have hst := st16_1 c hs i hi k (by omega)
   simp only [exR.eq_2 (ordBad (c.line i))]
   cases h : ordBad (c.line i) k
   ·rw [h] at hst; exact .next hst (ih (k + 1) (by omega))
   ·rw [h] at hst; exact .done hst
 have h0 := Runs.next (st16_0 c hs i hi) (h1 (c.line i).k 0 (by omega))
 have e : (if te (fp c) c i ≠ 0 then T.int .i64 (te (fp c) c i) else r) = (if exR (ordBad (c.line i)) (c.line i).k 0 then .int .i64 24 else if exR (fun k => !fp c ((c.line i).from_ k)) (c.line i).k 0 then .int .i64 8 else if (c.line i).k = 0 ∧ (arr (c.line i).st = false ∨ (c.line i).mass ≠ 1048576) then .int .i64 38 else r) := by
  unfold te
  grind
 rw [e]; exact h0
end parents
theorem run16_eq (c : Ct) (hs : small c) : ∀ (k i : Nat), k + i = c.n → Runs (M16 c) (.l0 c.n i) (.int .i64 (fst (te (fp c) c) k i)) := by
 intro k
 induction k with
 | zero =>
  intro i hi
  have : i = c.n := by omega
  subst this
  refine .done ?_
  show step16_0 c c.n c.n = _
  rw [T16_0 c c.n c.n (by unfold K16_0; rw [if_neg (by simp)]; simp [g16_0_1, g16_0_2, allT])]
  unfold V16_0
  rw [if_neg (by simp)]
  rfl
 | succ k ih =>
  intro i hi
  have := ln16 c hs i (by omega) _ (ih (i + 1) (by omega))
  unfold fst
  by_cases h : te (fp c) c i = 0
  ·rw [if_neg (by simp [h])] at this ⊢; exact this
  ·rw [if_pos h] at this ⊢; exact this
noncomputable def parE (c : Ct) : Int := fst (te (fp c) c) c.n 0
theorem parents_ok (c : Ct) (hs : small c) : PureFn prog gl 34 [ctT c] (.int .i64 (parE c)) := by
 obtain ⟨n, hn⟩ := run16_eq c hs c.n 0 (by omega)
 exact c16 c n (by simp [K16_s, g16_s_1, allT]) (by unfold V16_s; exact hn)
end Go.Proofs.Tryz

/- The text of a stamp: the contract. -/
namespace Go.Proofs.Tryz
open Go.Ps
set_option maxRecDepth 100000
theorem digK_len : ∀ (k u : Nat) (acc : List UInt8), (digK k u acc).length ≤ k + acc.length
 | 0, _, acc => by simp [digK]
 | k + 1, u, acc => by
  unfold digK
  split
  ·simp; omega
  ·have := digK_len k (u / 10) (UInt8.ofNat (48 + u % 10) :: acc)
   simp only [List.length_cons] at this; omega
theorem itoaK_len (n : Int) : (itoaK n).length ≤ 21 := by
 unfold itoaK
 split
 ·have := digK_len 20 n.natAbs []
  simp at this ⊢; omega
 ·have := digK_len 20 n.toNat []
  simp at this; omega
theorem joinL_len (sep : List UInt8) (c : Nat) : ∀ (l : List (List UInt8)), (∀ x ∈ l, x.length ≤ c) → (joinL sep l).length ≤ l.length * (c + sep.length)
 | [], _ => by simp [joinL]
 | [x], h => by
  have := h x (by simp)
  simp [joinL]; omega
 | x :: y :: r, h => by
  have h1 := h x (by simp)
  have h2 := joinL_len sep c (y :: r) (fun z hz => h z (by simp [List.mem_cons.1 hz]))
  rw [joinL]
  simp only [List.length_append, List.length_cons] at h2 ⊢
  have e : (r.length + 1 + 1) * (c + sep.length) = (r.length + 1) * (c + sep.length) + (c + sep.length) := Nat.succ_mul _ _
  omega
theorem any_false {n : Nat} {p : Nat → Bool} (h : any n p = false) : ∀ i, i < n → p i = false := by
 unfold any at h
 rcases idx_found n p with ⟨_, f⟩ | ⟨j, _, _, _, e⟩
 ·exact f
 ·rw [e] at h
  have : decide ((j : Int) ≥ 0) = true := decide_eq_true (by omega)
  rw [this] at h; cases h
theorem chk_zero {s : Sp} (h : chk s = 0) : 1 ≤ s.entry ∧ s.entry ≤ 1048576 ∧ 1 ≤ s.n ∧ s.n ≤ 512 ∧ ∀ i, i < s.n → 0 ≤ s.at_ i ∧ s.at_ i ≤ 65535 := by
 unfold chk at h
 split at h
 ·cases h
 ·split at h
  ·cases h
  ·split at h
   ·cases h
   ·split at h
    ·cases h
    ·split at h
     ·cases h
     ·rename_i h1 h2 h3 h4 h5
      simp only [decide_eq_true_eq] at h1 h2 h4
      have h3' : ¬ (s.n : Int) = 0 := by simpa using h3
      refine ⟨by omega, by omega, by omega, by omega, fun i hi => ?_⟩
      have := any_false (by simpa using h5) i hi
      unfold bad at this
      simp at this
      omega
noncomputable def pth (s : Sp) : List (List UInt8) := (List.range s.n).map fun i => itoaK (s.at_ i)
noncomputable def txt (s : Sp) : List UInt8 := itoaK s.entry ++ [47] ++ joinL [46] (pth s)
section
variable (s : Sp) (h0 : chk s = 0)
include h0
def AtX19 (xs : List (List UInt8)) (i : Nat) (σ : S19z) : Prop := (xs = [] ∧ σ = .l0n s.n i) ∨ (xs ≠ [] ∧ ∃ L H, σ = .l0o L xs.length s.n i H ∧ H.get L = some ⟨9, 1, strs xs⟩)
theorem stX19_0 (i : Nat) (hi : i < s.n) (xs : List (List UInt8)) (hx : xs.length ≤ 1000) (σ : S19z) (h : AtX19 s xs i σ) : ∃ σ', (M19z s).step σ = some (.inl σ') ∧ AtX19 s (xs ++ [itoaK (s.at_ i)]) (i + 1) σ' := by
 obtain ⟨z1, z2, z3, z4, z5⟩ := chk_zero h0
 have z6 := z5 i hi
 have b1 : decide ((i : Int) < s.n) = true := decide_eq_true (by omega)
 have b2 : decide ((0 : Int) ≤ i) = true := decide_eq_true (by omega)
 have b3 : decide (-9223372036854775808 ≤ s.at_ i) = true := decide_eq_true (by omega)
 have b4 : decide (s.at_ i ≤ 9223372036854775807) = true := decide_eq_true (by omega)
 have b5 := wsucc i (by omega)
 rcases h with ⟨rfl, rfl⟩ | ⟨hne, L, H, rfl, hH⟩
 ·have hst : (M19z s).step (.l0n s.n i) = some (V19z_0n s s.n i) := by
   show step19z_0n s s.n i = _
   refine T19z_0n s s.n i ?_
   unfold K19z_0n
   rw [if_pos b1]
   simp only [g19z_0n_1, Int.toNat_natCast, allT, b1, b2, b3, b4, Bool.and_true]
  unfold V19z_0n at hst
  rw [if_pos b1, b5] at hst
  simp only [Int.toNat_natCast] at hst
  exact ⟨_, hst, .inr ⟨by simp, 0, _, rfl, rfl⟩⟩
 ·have b7 : obApp H L 9 1 xs.length = true := by
   unfold obApp
   rw [hH]
   simp [strs]
  have b8 : roomT (xs.length + 1) 16 = true := by
   unfold roomT
   rw [decide_eq_true (by omega), decide_eq_true (by omega)]
   rfl
  have hst : (M19z s).step (.l0o L xs.length s.n i H) = some (V19z_0o s L xs.length s.n i H) := by
   show step19z_0o s L xs.length s.n i H = _
   refine T19z_0o s L xs.length s.n i H ?_
   unfold K19z_0o
   rw [if_pos b1]
   simp only [g19z_0o_1, Int.toNat_natCast, allT, b1, b2, b3, b4, b7, b8, Bool.and_true]
  unfold V19z_0o at hst
  rw [if_pos b1, b5] at hst
  simp only [Int.toNat_natCast] at hst
  refine ⟨_, hst, .inr ⟨by simp, H.next, _, by simp; rfl, ?_⟩⟩
  rw [obv_eq hH]
  simp [Hp.get, findOb, strs]
theorem stX19_e (xs : List (List UInt8)) (hx : xs.length ≤ 1000) (hl : ∀ x ∈ xs, x.length ≤ 21) (σ : S19z) (h : AtX19 s xs s.n σ) : (M19z s).step σ = some (.inr (.tup [.str (itoaK s.entry ++ [47] ++ joinL [46] xs), .int .i64 0])) := by
 obtain ⟨z1, z2, z3, z4, z5⟩ := chk_zero h0
 have hi := itoaK_len s.entry
 have hj := joinL_len [46] 21 xs hl
 simp only [List.length_cons, List.length_nil] at hj
 have b0 : decide ((s.n : Int) < s.n) = false := decide_eq_false (by omega)
 have b1 : decide (-9223372036854775808 ≤ s.entry) = true := decide_eq_true (by omega)
 have b2 : decide (s.entry ≤ 9223372036854775807) = true := decide_eq_true (by omega)
 have b3 : decide ((itoaK s.entry).length + 1 ≤ maxStr) = true := decide_eq_true (by unfold maxStr; omega)
 rcases h with ⟨rfl, rfl⟩ | ⟨hne, L, H, rfl, hH⟩
 ·show step19z_0n s s.n s.n = _
  rw [T19z_0n s s.n s.n ?_]
  ·unfold V19z_0n
   rw [b0]; rfl
  ·unfold K19z_0n
   rw [b0]
   have b4 : decide ((itoaK s.entry ++ [47]).length + 0 ≤ maxStr) = true := decide_eq_true (by simp [maxStr]; omega)
   simp only [g19z_0n_2, allT, b0, b1, b2, b3, b4, Bool.not_false, Bool.and_true, Bool.false_eq_true, if_false]
 ·show step19z_0o s L xs.length s.n s.n H = _
  have e1 : strv (obv H L).cells = xs := by rw [obv_eq hH]; exact strv_strs xs
  rw [T19z_0o s L xs.length s.n s.n H ?_]
  ·unfold V19z_0o
   rw [b0, e1]; rfl
  ·unfold K19z_0o
   rw [b0]
   have b4 : decide ((itoaK s.entry ++ [47]).length + (joinL [46] xs).length ≤ maxStr) = true := decide_eq_true (by simp [maxStr]; omega)
   have b5 : pb (rowS H L xs.length) = true := pb_iff.2 ⟨xs, hH, rfl⟩
   have b6 : decide ((joinL [46] xs).length ≤ 140737488355328) = true := decide_eq_true (by omega)
   have b7 : decide (xs.length ≤ 140737488355328) = true := decide_eq_true (by omega)
   simp only [g19z_0o_2, e1, allT, b0, b1, b2, b3, b4, b5, b6, b7, Bool.not_false, Bool.and_true, Bool.false_eq_true, if_false]
theorem runX19 : ∀ (q i : Nat) (σ : S19z), q + i = s.n → AtX19 s ((List.range i).map fun j => itoaK (s.at_ j)) i σ → Runs (M19z s) σ (.tup [.str (txt s), .int .i64 0]) := by
 obtain ⟨z1, z2, z3, z4, z5⟩ := chk_zero h0
 intro q
 induction q with
 | zero =>
  intro i σ hq h
  have : i = s.n := by omega
  subst this
  refine .done ?_
  rw [stX19_e s h0 _ (by simp; omega) (fun x hx => by obtain ⟨j, _, rfl⟩ := List.mem_map.1 hx; exact itoaK_len _) σ h]
  rfl
 | succ q ih =>
  intro i σ hq h
  obtain ⟨σ', a, b⟩ := stX19_0 s h0 i (by omega) _ (by simp; omega) σ h
  refine .next a (ih (i + 1) σ' (by omega) ?_)
  rw [List.range_succ, List.map_append]
  exact b
end
theorem text_ok (s : Sp) (hn : s.n ≤ 281474976710656) : PureFn prog gl 19 [spT s] (if chk s = 0 then .tup [.str (txt s), .int .i64 0] else .tup [.str [], .int .i64 (chk s)]) := by
 have a1 : decide (s.n ≤ 281474976710656) = true := decide_eq_true hn
 by_cases h0 : chk s = 0
 ·have e0 : (chk s != 0) = false := bne_eq_false_iff_eq.2 h0
  rw [if_pos h0]
  obtain ⟨n, hr⟩ := runX19 s h0 s.n 0 (.l0n s.n 0) (by omega) (.inl ⟨rfl, rfl⟩)
  refine c19z s n ?_ ?_
  ·unfold K19z_s; rw [e0]; simp only [g19z_s_2, allT, isV_self, e0, a1, Bool.not_false, Bool.and_true, Bool.false_eq_true, if_false, k19z_s_0]
  ·unfold V19z_s; rw [e0]; exact hr
 ·have e0 : (chk s != 0) = true := bne_iff_ne.2 h0
  rw [if_neg h0]
  refine c19z s 0 ?_ ?_
  ·unfold K19z_s; rw [e0]; simp only [g19z_s_1, allT, isV_self, e0, a1, Bool.and_true, if_true, k19z_s_0]
  ·unfold V19z_s; rw [e0]; rfl
def hy (s : List UInt8) : List UInt8 := if s = [] then [45] else s
theorem hyphen_ok (s : List UInt8) : PureFn prog gl 20 [.str s] (.str (hy s)) := by
 unfold hy
 by_cases e : s = []
 ·subst e
  exact c20z [] 0 rfl rfl
 ·have e0 : (s == []) = false := by simpa using e
  rw [if_neg e]
  refine c20z s 0 ?_ ?_
  ·unfold K20z_s; rw [e0]; simp only [g20z_s_2, allT, e0, Bool.not_false, Bool.and_true, Bool.false_eq_true, if_false]
  ·unfold V20z_s; rw [e0]; rfl
end Go.Proofs.Tryz
