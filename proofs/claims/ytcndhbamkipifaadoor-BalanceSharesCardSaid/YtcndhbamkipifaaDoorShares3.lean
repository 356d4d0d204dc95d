/- BalanceShares is true at every input. -/
import Derived.Test.YtcndhbamkipifaaDoorShares2
namespace Go.Proofs
open Go.Ps

section
set_option maxRecDepth 100000

theorem Tryd.w4_1 (m p : Int) : outK Tryd.prog Tryd.f4 20 [0, 5, 6, 7, 8] (runK Tryd.prog Tryd.D1 Tryd.F0 1000 (.code (bodyOf Tryd.f4)) [] 0 ([.int .i64 m, .int .i64 p] ++ List.replicate 58 undefT) ⟨0, []⟩ [false, false, false, true, true, false, true, false, true] [])
    = some (OutT.done (some (T.bool true)), [decide (p ≤ 65536), true, decide (p > 300), true, decide (p > 300), decide (p > 300), true, true, true], { next := 0, objs := [] }, [], 0) := by kernel_rfl

theorem Tryd.w4_2 (m p : Int) : outK Tryd.prog Tryd.f4 20 [0, 5, 6, 7, 8] (runK Tryd.prog Tryd.D1 Tryd.F0 1000 (.code (bodyOf Tryd.f4)) [] 0 ([.int .i64 m, .int .i64 p] ++ List.replicate 58 undefT) ⟨0, []⟩ [false, false, false, true, true, false, true, false, false, true] [])
    = some (OutT.done (some (T.bool false)), [(↑(Tryd.shN m p) : Int) != (↑(Tryd.shN m p) : Int), !decide (p ≤ 65536), true, decide (p > 300), true, decide (p > 300), decide (p > 300), true, true, true], { next := 0, objs := [] }, [], 0) := by kernel_rfl

theorem Tryd.w4_3 (m p : Int) : outK Tryd.prog Tryd.f4 20 [0, 5, 6, 7, 8] (runK Tryd.prog Tryd.D1 Tryd.F0 1000 (.code (bodyOf Tryd.f4)) [] 0 ([.int .i64 m, .int .i64 p] ++ List.replicate 58 undefT) ⟨0, []⟩ [false, false, false, true, true, false, true, false, false, false] [])
    = some (OutT.loop 0 (loopAt Tryd.f4 0).1 (loopAt Tryd.f4 0).2, [!(↑(Tryd.shN m p) : Int) != (↑(Tryd.shN m p) : Int), !decide (p ≤ 65536), true, decide (p > 300), true, decide (p > 300), decide (p > 300), true, true, true], { next := 0, objs := [] }, [T.int IntKind.i64 m, T.slf false (Tryd.shN m p) fun i => T.int IntKind.i64 (Tryd.shI m p i), T.slf false (Tryd.shN m p) fun i => T.int IntKind.i64 (Tryd.shI m p i), T.int IntKind.i64 0, T.int IntKind.i64 0], 60) := by kernel_rfl

theorem Tryd.w4_4 (m p : Int) : outK Tryd.prog Tryd.f4 20 [0, 5, 6, 7, 8] (runK Tryd.prog Tryd.D1 Tryd.F0 1000 (.code (bodyOf Tryd.f4)) [] 0 ([.int .i64 m, .int .i64 p] ++ List.replicate 58 undefT) ⟨0, []⟩ [false, false, false, false, false, false, false, false, false, true] [])
    = some (OutT.done (some (T.bool false)), [(↑(Tryd.shN m p) : Int) != (↑(Tryd.shN m p) : Int), true, true, !decide (p > 300), true, !decide (p > 300), !decide (p > 300), true, true, true], { next := 0, objs := [] }, [], 0) := by kernel_rfl

theorem Tryd.w4_5 (m p : Int) : outK Tryd.prog Tryd.f4 20 [0, 5, 6, 7, 8] (runK Tryd.prog Tryd.D1 Tryd.F0 1000 (.code (bodyOf Tryd.f4)) [] 0 ([.int .i64 m, .int .i64 p] ++ List.replicate 58 undefT) ⟨0, []⟩ [false, false, false, false, false, false, false, false, false, false] [])
    = some (OutT.loop 0 (loopAt Tryd.f4 0).1 (loopAt Tryd.f4 0).2, [!(↑(Tryd.shN m p) : Int) != (↑(Tryd.shN m p) : Int), true, true, !decide (p > 300), true, !decide (p > 300), !decide (p > 300), true, true, true], { next := 0, objs := [] }, [T.int IntKind.i64 m, T.slf false (Tryd.shN m p) fun i => T.int IntKind.i64 (Tryd.shI m p i), T.slf false (Tryd.shN m p) fun i => T.int IntKind.i64 (Tryd.shI m p i), T.int IntKind.i64 0, T.int IntKind.i64 0], 60) := by kernel_rfl

theorem Tryd.w4l_1 (m p s : Int) (i : Nat) (fr : List T) : outK Tryd.prog Tryd.f4 20 [0, 5, 6, 7, 8] (runK Tryd.prog Tryd.D1 Tryd.F0 1000 (.code (loopAt Tryd.f4 0).1) (.lp :: (loopAt Tryd.f4 0).2) 0 (frK [0, 5, 6, 7, 8] [.int .i64 m, Tryd.shF m p, Tryd.shF m p, .int .i64 s, .int .i64 i] fr 60) ⟨0, []⟩ [true, true] [])
    = some (OutT.done (some (T.bool false)), [Tryd.shI m p i != Tryd.shI m p i, true, decide ((↑i : Int) < (↑(Tryd.shN m p) : Int)), true, true, decide ((↑i : Int) < (↑(Tryd.shN m p) : Int)), true, decide ((↑i : Int) < (↑(Tryd.shN m p) : Int))], { next := 0, objs := [] }, [], 0) := by kernel_rfl

theorem Tryd.w4l_2 (m p s : Int) (i : Nat) (fr : List T) : outK Tryd.prog Tryd.f4 20 [0, 5, 6, 7, 8] (runK Tryd.prog Tryd.D1 Tryd.F0 1000 (.code (loopAt Tryd.f4 0).1) (.lp :: (loopAt Tryd.f4 0).2) 0 (frK [0, 5, 6, 7, 8] [.int .i64 m, Tryd.shF m p, Tryd.shF m p, .int .i64 s, .int .i64 i] fr 60) ⟨0, []⟩ [true, false] [])
    = some (OutT.again 0, [true, decide ((↑i : Int) < (↑(Tryd.shN m p) : Int)), true, !Tryd.shI m p i != Tryd.shI m p i, true, decide ((↑i : Int) < (↑(Tryd.shN m p) : Int)), true, true, decide ((↑i : Int) < (↑(Tryd.shN m p) : Int)), true, decide ((↑i : Int) < (↑(Tryd.shN m p) : Int))], { next := 0, objs := [] }, [T.int IntKind.i64 m, T.slf false (Tryd.shN m p) fun i => T.int IntKind.i64 (Tryd.shI m p i), T.slf false (Tryd.shN m p) fun i => T.int IntKind.i64 (Tryd.shI m p i), T.int IntKind.i64 (IntKind.i64.wrap (s + Tryd.shI m p i)), T.int IntKind.i64 (IntKind.i64.wrap ((↑i : Int) + 1))], 60) := by kernel_rfl

theorem Tryd.w4l_3 (m p s : Int) (i : Nat) (fr : List T) : outK Tryd.prog Tryd.f4 20 [0, 5, 6, 7, 8] (runK Tryd.prog Tryd.D1 Tryd.F0 1000 (.code (loopAt Tryd.f4 0).1) (.lp :: (loopAt Tryd.f4 0).2) 0 (frK [0, 5, 6, 7, 8] [.int .i64 m, Tryd.shF m p, Tryd.shF m p, .int .i64 s, .int .i64 i] fr 60) ⟨0, []⟩ [false, true, true, true, true] [])
    = some (OutT.done (some (T.bool true)), [(↑(Tryd.shN m p) : Int) == 0, (↑(Tryd.shN m p) : Int) == 0, (↑(Tryd.shN m p) : Int) == 0, (↑(Tryd.shN m p) : Int) == 0, !decide ((↑i : Int) < (↑(Tryd.shN m p) : Int))], { next := 0, objs := [] }, [], 0) := by kernel_rfl

theorem Tryd.w4l_4 (m p s : Int) (i : Nat) (fr : List T) : outK Tryd.prog Tryd.f4 20 [0, 5, 6, 7, 8] (runK Tryd.prog Tryd.D1 Tryd.F0 1000 (.code (loopAt Tryd.f4 0).1) (.lp :: (loopAt Tryd.f4 0).2) 0 (frK [0, 5, 6, 7, 8] [.int .i64 m, Tryd.shF m p, Tryd.shF m p, .int .i64 s, .int .i64 i] fr 60) ⟨0, []⟩ [false, false, false, false, false] [])
    = some (OutT.done (some (T.bool (s == m))), [!(↑(Tryd.shN m p) : Int) == 0, !(↑(Tryd.shN m p) : Int) == 0, !(↑(Tryd.shN m p) : Int) == 0, !(↑(Tryd.shN m p) : Int) == 0, !decide ((↑i : Int) < (↑(Tryd.shN m p) : Int))], { next := 0, objs := [] }, [], 0) := by kernel_rfl

theorem Tryd.body4_ok : codeOk (bodyOf Tryd.f4) = true := by kernel_rfl
theorem Tryd.loop4_ok : codeOk (loopAt Tryd.f4 0).1 = true := by kernel_rfl
theorem Tryd.ks4_ok : ksOk (.lp :: (loopAt Tryd.f4 0).2) = true := by kernel_rfl

/-- The sum of the first shares. -/
def Tryd.shS (m p : Int) (i : Nat) : Int := if m < 0 ∨ p < 1 ∨ p > 65536 then 0 else (i : Int) * (m / p) + min (i : Int) (m % p)

theorem Tryd.shS_step (m p : Int) (i : Nat) (h : i < Tryd.shN m p) (hm : m ≤ 9223372036854775807) : IntKind.i64.wrap (Tryd.shS m p i + Tryd.shI m p i) = Tryd.shS m p (i + 1) := by
  unfold Tryd.shN at h
  unfold Tryd.shS
  by_cases c : m < 0 ∨ p < 1 ∨ p > 65536
  · rw [if_pos c] at h; omega
  · rw [if_neg c] at h
    rw [if_neg c, if_neg c]
    unfold Tryd.shI
    rw [Int.tmod_eq_emod_of_nonneg (by omega), Int.tdiv_eq_ediv_of_nonneg (by omega)]
    have h1 := Int.mul_ediv_add_emod m p
    have h2 := Int.emod_nonneg m (show p ≠ 0 by omega)
    have h3 := Int.emod_lt_of_pos m (show 0 < p by omega)
    have h4 : 0 ≤ m / p := Int.ediv_nonneg (by omega) (by omega)
    generalize m / p = q at h1 h4 ⊢
    generalize m % p = r at h1 h2 h3 ⊢
    have h5 : ((i : Int) + 1) * q ≤ p * q := Int.mul_le_mul_of_nonneg_right (by omega) h4
    have h6 : ((i : Int) + 1) * q = (i : Int) * q + q := by rw [Int.add_mul, Int.one_mul]
    have h7 : 0 ≤ (i : Int) * q := Int.mul_nonneg (by omega) h4
    have h8 : ((i + 1 : Nat) : Int) = (i : Int) + 1 := by omega
    rw [h8, h6]
    generalize (i : Int) * q = A at h5 h6 h7 ⊢
    generalize p * q = B at h1 h5
    rw [IntWalk.i64_in q (by omega)]
    split
    · rw [IntWalk.i64_in (q + 1) (by omega), IntWalk.i64_in _ (by omega)]
      omega
    · rw [IntWalk.i64_in _ (by omega)]
      omega

theorem Tryd.shS_end (m p : Int) (h : Tryd.shN m p ≠ 0) : Tryd.shS m p (Tryd.shN m p) = m := by
  unfold Tryd.shN at h ⊢
  unfold Tryd.shS
  by_cases c : m < 0 ∨ p < 1 ∨ p > 65536
  · rw [if_pos c] at h; exact absurd rfl h
  · rw [if_neg c, if_neg c]
    have h1 := Int.mul_ediv_add_emod m p
    have h2 := Int.emod_nonneg m (show p ≠ 0 by omega)
    have h3 := Int.emod_lt_of_pos m (show 0 < p by omega)
    rw [show ((p.toNat : Nat) : Int) = p by omega]
    omega

theorem Tryd.loop4 (m p : Int) (hm : m ≤ 9223372036854775807) : ∀ (i : Nat) (fr : List T) (H : Hp), i ≤ Tryd.shN m p → [0, 5, 6, 7, 8].map (getT fr) = [.int .i64 m, Tryd.shF m p, Tryd.shF m p, .int .i64 (Tryd.shS m p i), .int .i64 (i : Nat)] → fr.length = 60 → H = ⟨0, []⟩ →
    Ps.Good Tryd.prog Tryd.D1.env (.loop (loopAt Tryd.f4 0).1) fr H (postK Tryd.prog Tryd.D1.env (Ps.Ends Tryd.prog Tryd.f4 20 (.bool true)) (loopAt Tryd.f4 0).2 []) := by
  refine loop_data (α := Nat) [0, 5, 6, 7, 8] 60 (fun i => [.int .i64 m, Tryd.shF m p, Tryd.shF m p, .int .i64 (Tryd.shS m p i), .int .i64 (i : Nat)]) (fun _ => ⟨0, []⟩) (fun i => i ≤ Tryd.shN m p) (fun i => Tryd.shN m p - i) (fun i fr hi => ?_)
  have hn : Tryd.shN m p ≤ 65536 := by unfold Tryd.shN; split <;> omega
  by_cases h1 : i < Tryd.shN m p
  · refine Tryd.cx1.again Tryd.loop4_ok Tryd.ks4_ok (Tryd.w4l_2 m p _ i fr) ?_ rfl ?_
    · simp only [allT]
      simp [h1]
    · intro fr' hk hl
      refine ⟨i + 1, by omega, by omega, ?_, hl, rfl⟩
      rw [hk, Tryd.shS_step m p i h1 hm, IntWalk.i64_in _ (by omega)]
      rfl
  · have hin : i = Tryd.shN m p := by omega
    subst hin
    by_cases h0 : Tryd.shN m p = 0
    · refine Tryd.cx1.done Tryd.loop4_ok Tryd.ks4_ok (Tryd.w4l_3 m p _ _ fr) rfl ?_
      simp only [allT, h0]
      rfl
    · refine Tryd.cx1.done Tryd.loop4_ok Tryd.ks4_ok (Tryd.w4l_4 m p _ _ fr) ?_ ?_
      · rw [Tryd.shS_end m p h0]; simp
      · simp [allT, h0]

/-- BalanceShares. -/
theorem Tryd.f4_ok (m p : Int) (hm : m ≤ 9223372036854775807) : PureFn Tryd.prog Tryd.gl 4 [.int .i64 m, .int .i64 p] (.bool true) := by
  refine pure_good0 (E := Tryd.D1.env) (k := 20) (d := 1) (fn := Tryd.f4) (c := bodyOf Tryd.f4) Tryd.glFrz (Tryd.okA 4 (by decide)).1 Tryd.func4 (by kernel_rfl) (by kernel_rfl) ?_
  show Ps.Good Tryd.prog Tryd.D1.env (bodyOf Tryd.f4) ([.int .i64 m, .int .i64 p] ++ List.replicate 58 undefT) ⟨0, []⟩ (postK Tryd.prog Tryd.D1.env (Ps.Ends Tryd.prog Tryd.f4 20 (.bool true)) [] [])
  have fin : ∀ fr', [0, 5, 6, 7, 8].map (getT fr') = [T.int IntKind.i64 m, T.slf false (Tryd.shN m p) fun i => T.int IntKind.i64 (Tryd.shI m p i), T.slf false (Tryd.shN m p) fun i => T.int IntKind.i64 (Tryd.shI m p i), T.int IntKind.i64 0, T.int IntKind.i64 0] → fr'.length = 60 →
      Ps.Good Tryd.prog Tryd.D1.env (.loop (loopAt Tryd.f4 0).1) fr' ⟨0, []⟩ (postK Tryd.prog Tryd.D1.env (Ps.Ends Tryd.prog Tryd.f4 20 (.bool true)) (loopAt Tryd.f4 0).2 []) := by
    intro fr' hk hl
    refine Tryd.loop4 m p hm 0 fr' _ (by omega) ?_ hl rfl
    rw [hk]
    have : Tryd.shS m p 0 = 0 := by
      unfold Tryd.shS
      split
      · rfl
      · have := Int.emod_nonneg m (show p ≠ 0 by omega)
        simp; omega
    rw [this]
    rfl
  by_cases h1 : p > 300
  · by_cases h2 : p ≤ 65536
    · refine Tryd.cx1.done Tryd.body4_ok rfl (Tryd.w4_1 m p) rfl ?_
      simp [allT, h1, h2]
    · refine Tryd.cx1.loop Tryd.body4_ok rfl (Tryd.w4_3 m p) ?_ fin
      simp [allT, h1, h2]
  · refine Tryd.cx1.loop Tryd.body4_ok rfl (Tryd.w4_5 m p) ?_ fin
    simp [allT, h1]
end
end Go.Proofs
