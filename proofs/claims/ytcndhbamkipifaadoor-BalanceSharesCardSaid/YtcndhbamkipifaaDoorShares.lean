/- Shares, and the law's own shares: both give the same list. -/
import Derived.Test.YtcndhbamkipifaaDoorPsX
import Derived.Test.YtcndhbamkipifaaDoorKnown
import Derived.IntWalk
namespace Go.Proofs
open Go.Ps

def Tryd.shv (m p : Int) (i : Nat) : T := .int .i64 (if (i : Int) < m.tmod p then IntKind.i64.wrap (IntKind.i64.wrap (m.tdiv p) + 1) else IntKind.i64.wrap (m.tdiv p))
def Tryd.shC (m p : Int) (n i : Nat) : List T := (List.range i).map (Tryd.shv m p) ++ List.replicate (n - i) (.int .i64 0)
def Tryd.sharesT (m p : Int) : T := if m < 0 ∨ p < 1 ∨ p > 65536 then .nils else .sl false ((List.range p.toNat).map (Tryd.shv m p))

def Tryd.D0 : Ed := ⟨Tryd.gl, fun _ _ _ => none⟩
def Tryd.F0 : Fc := ⟨fun _ => false, fun _ _ _ => none⟩
theorem Tryd.D0ok : PeOk Tryd.prog Tryd.D0.gl Tryd.D0.env.pe := pdNone_ok
theorem Tryd.F0ok : EeOk Tryd.prog Tryd.D0.gl Tryd.F0.ee := eeNone_ok

theorem Tryd.shC_len (m p : Int) (n i : Nat) (h : i ≤ n) : (Tryd.shC m p n i).length = n := by simp [Tryd.shC]; omega

theorem Tryd.shC_get (m p : Int) (n i : Nat) (h : i < n) : Tryd.shC m p n i = (List.range i).map (Tryd.shv m p) ++ .int .i64 0 :: List.replicate (n - (i + 1)) (.int .i64 0) := by
  unfold Tryd.shC
  have : n - i = (n - (i + 1)) + 1 := by omega
  rw [this, List.replicate_succ]

theorem Tryd.splice_mid (a b : List T) (x y : T) (i : Nat) (h : a.length = i) : spliceT (a ++ x :: b) i [y] = a ++ y :: b := by
  subst h
  simp [spliceT]

theorem Tryd.shC_step (m p : Int) (n i : Nat) (h : i < n) (y : T) (hy : y = Tryd.shv m p i) : spliceT (Tryd.shC m p n i) i [y] = Tryd.shC m p n (i + 1) := by
  rw [Tryd.shC_get m p n i h, Tryd.splice_mid _ _ _ _ _ (by simp), hy]
  unfold Tryd.shC
  rw [List.range_succ, List.map_append]
  simp

section
set_option maxRecDepth 100000

theorem Tryd.w9_nil1 (m p : Int) : outK Tryd.prog Tryd.f9 20 [] (runK Tryd.prog Tryd.D0 Tryd.F0 1000 (.code (bodyOf Tryd.f9)) [] 0 ([.int .i64 m, .int .i64 p] ++ List.replicate 41 undefT) ⟨0, []⟩ [true, true, true, true, true, true, true] [])
    = some (.done (some .nils), [true, true, true, true, decide (m < 0), decide (m < 0), decide (m < 0)], ⟨0, []⟩, [], 0) := by kernel_rfl

theorem Tryd.w9_nil2 (m p : Int) : outK Tryd.prog Tryd.f9 20 [] (runK Tryd.prog Tryd.D0 Tryd.F0 1000 (.code (bodyOf Tryd.f9)) [] 0 ([.int .i64 m, .int .i64 p] ++ List.replicate 41 undefT) ⟨0, []⟩ [false, false, false, true, true, true, true] [])
    = some (.done (some .nils), [true, decide (p < 1), decide (p < 1), decide (p < 1), !decide (m < 0), !decide (m < 0), !decide (m < 0)], ⟨0, []⟩, [], 0) := by kernel_rfl

theorem Tryd.w9_nil3 (m p : Int) : outK Tryd.prog Tryd.f9 20 [] (runK Tryd.prog Tryd.D0 Tryd.F0 1000 (.code (bodyOf Tryd.f9)) [] 0 ([.int .i64 m, .int .i64 p] ++ List.replicate 41 undefT) ⟨0, []⟩ [false, false, false, false, false, false, true] [])
    = some (.done (some .nils), [decide (p > 65536), !decide (p < 1), !decide (p < 1), !decide (p < 1), !decide (m < 0), !decide (m < 0), !decide (m < 0)], ⟨0, []⟩, [], 0) := by kernel_rfl

theorem Tryd.w9_in (m p : Int) : outK Tryd.prog Tryd.f9 20 [0, 1, 5, 20, 21] (runK Tryd.prog Tryd.D0 Tryd.F0 1000 (.code (bodyOf Tryd.f9)) [] 0 ([.int .i64 m, .int .i64 p] ++ List.replicate 41 undefT) ⟨0, []⟩ [false, false, false, false, false, false, false] [])
    = some (.loop 0 (loopAt Tryd.f9 0).1 (loopAt Tryd.f9 0).2, [decide (0 ≤ p), decide (p = p), decide (p.toNat * 8 ≤ 70368744177664), decide (p ≤ 70368744177664), !decide (p > 65536), !decide (p < 1), !decide (p < 1), !decide (p < 1), !decide (m < 0), !decide (m < 0), !decide (m < 0)],
      ⟨1, [(0, ⟨3, 1, (List.replicate p.toNat (T.int .i64 0)).flatMap T.cells⟩)]⟩, [.int .i64 m, .int .i64 p, .osl 0 1 0 p.toNat, .int .i64 p.toNat, .int .i64 0], 43) := by kernel_rfl

theorem Tryd.w9_end (m p : Int) (n i : Nat) (C fr : List T) : outK Tryd.prog Tryd.f9 20 [] (runK Tryd.prog Tryd.D0 Tryd.F0 1000 (.code (loopAt Tryd.f9 0).1) (.lp :: (loopAt Tryd.f9 0).2) 0 (frK [0, 1, 5, 20, 21] [.int .i64 m, .int .i64 p, .osl 0 1 0 n, .int .i64 n, .int .i64 i] fr 43) ⟨1, [(0, ⟨3, 1, C⟩)]⟩ [false] [])
    = some (.done (frzT 20 ⟨1, [(0, ⟨3, 1, C⟩)]⟩ (.osl 0 1 0 n)), [!decide ((i : Int) < n)], ⟨0, []⟩, [], 0) := by kernel_rfl

theorem Tryd.w9_lo (m p : Int) (n i : Nat) (C fr : List T) : outK Tryd.prog Tryd.f9 20 [0, 1, 5, 20, 21] (runK Tryd.prog Tryd.D0 Tryd.F0 1000 (.code (loopAt Tryd.f9 0).1) (.lp :: (loopAt Tryd.f9 0).2) 0 (frK [0, 1, 5, 20, 21] [.int .i64 m, .int .i64 p, .osl 0 1 0 n, .int .i64 n, .int .i64 i] fr 43) ⟨1, [(0, ⟨3, 1, C⟩)]⟩ [true, false] [])
    = some (.again 0, [!decide ((i : Int) < m.tmod p), p != 0, true, decide ((0 + i) * 1 + 1 ≤ C.length), true, decide (0 ≤ (i : Int)), decide ((i : Int) < n), p != 0, decide ((i : Int) < n)],
      ⟨1, [(0, ⟨3, 1, spliceT C ((0 + i) * 1) [.int .i64 (IntKind.i64.wrap (m.tdiv p))]⟩)]⟩, [.int .i64 m, .int .i64 p, .osl 0 1 0 n, .int .i64 n, .int .i64 (IntKind.i64.wrap ((i : Int) + 1))], 43) := by kernel_rfl

theorem Tryd.w9_hi (m p : Int) (n i : Nat) (C fr : List T) : outK Tryd.prog Tryd.f9 20 [0, 1, 5, 20, 21] (runK Tryd.prog Tryd.D0 Tryd.F0 1000 (.code (loopAt Tryd.f9 0).1) (.lp :: (loopAt Tryd.f9 0).2) 0 (frK [0, 1, 5, 20, 21] [.int .i64 m, .int .i64 p, .osl 0 1 0 n, .int .i64 n, .int .i64 i] fr 43) ⟨1, [(0, ⟨3, 1, C⟩)]⟩ [true, true] [])
    = some (.again 0, [true, decide ((0 + i) * 1 + 1 ≤ (spliceT C ((0 + i) * 1) [.int .i64 (IntKind.i64.wrap (m.tdiv p))]).length), true, decide (0 ≤ (i : Int)), decide ((i : Int) < n),
        isInt .i64 ((spliceT C ((0 + i) * 1) [.int .i64 (IntKind.i64.wrap (m.tdiv p))]).getD ((0 + i) * 1) undefT), decide ((0 + i) * 1 < (spliceT C ((0 + i) * 1) [.int .i64 (IntKind.i64.wrap (m.tdiv p))]).length), true, decide (0 ≤ (i : Int)), decide ((i : Int) < n),
        decide ((i : Int) < m.tmod p), p != 0, true, decide ((0 + i) * 1 + 1 ≤ C.length), true, decide (0 ≤ (i : Int)), decide ((i : Int) < n), p != 0, decide ((i : Int) < n)],
      ⟨1, [(0, ⟨3, 1, spliceT (spliceT C ((0 + i) * 1) [.int .i64 (IntKind.i64.wrap (m.tdiv p))]) ((0 + i) * 1) [.int .i64 (IntKind.i64.wrap (intv ((spliceT C ((0 + i) * 1) [.int .i64 (IntKind.i64.wrap (m.tdiv p))]).getD ((0 + i) * 1) undefT) + 1))]⟩)]⟩,
      [.int .i64 m, .int .i64 p, .osl 0 1 0 n, .int .i64 n, .int .i64 (IntKind.i64.wrap ((i : Int) + 1))], 43) := by kernel_rfl

theorem Tryd.body9_ok : codeOk (bodyOf Tryd.f9) = true := by kernel_rfl
theorem Tryd.loop9_ok : codeOk (loopAt Tryd.f9 0).1 = true := by kernel_rfl
theorem Tryd.ks9_ok : ksOk (.lp :: (loopAt Tryd.f9 0).2) = true := by kernel_rfl
theorem Tryd.cx0 : Cx Tryd.prog Tryd.D0 Tryd.F0 := ⟨Tryd.follows, Tryd.D0ok, Tryd.F0ok⟩

theorem Tryd.loop9 (m p : Int) (n : Nat) (hn : n ≤ 65536) (hp : p ≠ 0) : ∀ (i : Nat) (fr : List T) (H : Hp), i ≤ n → [0, 1, 5, 20, 21].map (getT fr) = [.int .i64 m, .int .i64 p, .osl 0 1 0 n, .int .i64 n, .int .i64 i] → fr.length = 43 → H = ⟨1, [(0, ⟨3, 1, Tryd.shC m p n i⟩)]⟩ →
    Ps.Good Tryd.prog Tryd.D0.env (.loop (loopAt Tryd.f9 0).1) fr H (postK Tryd.prog Tryd.D0.env (Ps.Ends Tryd.prog Tryd.f9 20 (.sl false (Tryd.shC m p n n))) (loopAt Tryd.f9 0).2 []) := by
  refine loop_data (α := Nat) [0, 1, 5, 20, 21] 43 (fun i => [.int .i64 m, .int .i64 p, .osl 0 1 0 n, .int .i64 n, .int .i64 (i : Nat)]) (fun i => ⟨1, [(0, ⟨3, 1, Tryd.shC m p n i⟩)]⟩) (fun i => i ≤ n) (fun i => n - i) (fun i fr hi => ?_)
  have hlen := Tryd.shC_len m p n i hi
  by_cases h1 : i < n
  · have e0 : (0 + i) * 1 = i := by omega
    have ei : IntKind.i64.wrap ((i : Int) + 1) = ((i + 1 : Nat) : Int) := by rw [IntWalk.i64_in _ (by omega)]; omega
    by_cases h2 : (i : Int) < m.tmod p
    · have hs : spliceT (Tryd.shC m p n i) i [.int .i64 (IntKind.i64.wrap (m.tdiv p))] = (List.range i).map (Tryd.shv m p) ++ .int .i64 (IntKind.i64.wrap (m.tdiv p)) :: List.replicate (n - (i + 1)) (.int .i64 0) := by
        rw [Tryd.shC_get m p n i h1, Tryd.splice_mid _ _ _ _ _ (by simp)]
      have hg : (spliceT (Tryd.shC m p n i) i [.int .i64 (IntKind.i64.wrap (m.tdiv p))]).getD i undefT = .int .i64 (IntKind.i64.wrap (m.tdiv p)) := by
        rw [hs, List.getD_eq_getElem?_getD, List.getElem?_append_right (by simp)]
        simp
      have hl2 : (spliceT (Tryd.shC m p n i) i [.int .i64 (IntKind.i64.wrap (m.tdiv p))]).length = n := by rw [hs]; simp; omega
      refine Tryd.cx0.again Tryd.loop9_ok Tryd.ks9_ok (Tryd.w9_hi m p n i _ fr) ?_ rfl ?_
      · simp only [e0, hg, hl2, hlen, allT, isInt]
        simp [hp, h2, h1]
        omega
      · intro fr' hk hl
        refine ⟨i + 1, by omega, by omega, ?_, hl, ?_⟩
        · rw [hk, ei]
        · rw [e0, hg, hs, Tryd.splice_mid _ _ _ _ _ (by simp)]
          have : Tryd.shC m p n (i + 1) = (List.range i).map (Tryd.shv m p) ++ Tryd.shv m p i :: List.replicate (n - (i + 1)) (.int .i64 0) := by
            unfold Tryd.shC
            rw [List.range_succ, List.map_append]
            simp
          rw [this]
          simp only [intv, Tryd.shv, if_pos h2]
    · refine Tryd.cx0.again Tryd.loop9_ok Tryd.ks9_ok (Tryd.w9_lo m p n i _ fr) ?_ rfl ?_
      · simp only [e0, hlen, allT]
        simp [hp, h1]
        omega
      · intro fr' hk hl
        refine ⟨i + 1, by omega, by omega, ?_, hl, ?_⟩
        · rw [hk, ei]
        · rw [e0, Tryd.shC_step m p n i h1 _ (by simp only [Tryd.shv, if_neg h2])]
  · have hin : i = n := by omega
    subst hin
    refine Tryd.cx0.done Tryd.loop9_ok Tryd.ks9_ok (Tryd.w9_end m p i i _ fr) ?_ ?_
    · refine frz_row (d := 18) (o := ⟨3, 1, Tryd.shC m p i i⟩) rfl rfl hlen ?_
      simp [Tryd.shC, Tryd.shv, scal1]
    · simp [allT]

/-- balance.Shares. -/
theorem Tryd.f9_ok (m p : Int) : PureFn Tryd.prog Tryd.gl 9 [.int .i64 m, .int .i64 p] (Tryd.sharesT m p) := by
  refine pure_good0 (E := Tryd.D0.env) (k := 20) (d := 1) (fn := Tryd.f9) (c := bodyOf Tryd.f9) Tryd.glFrz (Tryd.okK 9 (by decide)).1 Tryd.func9 (by kernel_rfl) (by kernel_rfl) ?_
  show Ps.Good Tryd.prog Tryd.D0.env (bodyOf Tryd.f9) ([.int .i64 m, .int .i64 p] ++ List.replicate 41 undefT) ⟨0, []⟩ (postK Tryd.prog Tryd.D0.env (Ps.Ends Tryd.prog Tryd.f9 20 (Tryd.sharesT m p)) [] [])
  by_cases h1 : m < 0
  · refine Tryd.cx0.done Tryd.body9_ok rfl (Tryd.w9_nil1 m p) ?_ ?_
    · simp [Tryd.sharesT, h1]
    · simp [allT, h1]
  · by_cases h2 : p < 1
    · refine Tryd.cx0.done Tryd.body9_ok rfl (Tryd.w9_nil2 m p) ?_ ?_
      · simp [Tryd.sharesT, h2]
      · simp [allT, h1, h2]
    · by_cases h3 : p > 65536
      · refine Tryd.cx0.done Tryd.body9_ok rfl (Tryd.w9_nil3 m p) ?_ ?_
        · simp [Tryd.sharesT, h3]
        · simp [allT, h1, h2, h3]
      · refine Tryd.cx0.loop Tryd.body9_ok rfl (Tryd.w9_in m p) ?_ ?_
        · simp only [allT]
          simp [h1, h2, h3]
          omega
        · intro fr hk hl
          have hr : Tryd.sharesT m p = .sl false (Tryd.shC m p p.toNat p.toNat) := by
            simp only [Tryd.sharesT, Tryd.shC]
            rw [if_neg (by omega)]
            simp
          rw [hr]
          refine Tryd.loop9 m p p.toNat (by omega) (by omega) 0 fr _ (by omega) hk hl ?_
          have : (List.replicate p.toNat (T.int .i64 0)).flatMap T.cells = List.replicate p.toNat (T.int .i64 0) := (flat_single _ (by simp [T.isAgg])).1
          rw [this]
          simp [Tryd.shC]
end
end Go.Proofs
