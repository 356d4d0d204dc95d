/- The law's own shares, and BalanceShares: true. -/
import Derived.Test.YtcndhbamkipifaaDoorShares
namespace Go.Proofs
open Go.Ps

theorem Tryd.fnsA : ([4, 10].all fun f => okFn Tryd.prog f && fnOk Tryd.prog f) = true := by kernel_rfl
theorem Tryd.okA (f : FuncId) (h : f ∈ [4, 10]) : okFn Tryd.prog f = true ∧ fnOk Tryd.prog f = true := by
  have := List.all_eq_true.1 Tryd.fnsA f h
  simpa using this

section
set_option maxRecDepth 100000

theorem Tryd.w10_1 (m p : Int) : outK Tryd.prog Tryd.f10 20 [0, 1, 5, 6] (runK Tryd.prog Tryd.D0 Tryd.F0 1000 (.code (bodyOf Tryd.f10)) [] 0 ([.int .i64 m, .int .i64 p] ++ List.replicate 40 undefT) ⟨0, []⟩ [true, true, true, true, true, true, true] [])
    = some (OutT.done (some T.nils), [true, true, true, true, decide (m < 0), decide (m < 0), decide (m < 0)], { next := 0, objs := [] }, [], 0) := by kernel_rfl

theorem Tryd.w10_2 (m p : Int) : outK Tryd.prog Tryd.f10 20 [0, 1, 5, 6] (runK Tryd.prog Tryd.D0 Tryd.F0 1000 (.code (bodyOf Tryd.f10)) [] 0 ([.int .i64 m, .int .i64 p] ++ List.replicate 40 undefT) ⟨0, []⟩ [false, false, false, true, true, true, true] [])
    = some (OutT.done (some T.nils), [true, decide (p < 1), decide (p < 1), decide (p < 1), !decide (m < 0), !decide (m < 0), !decide (m < 0)], { next := 0, objs := [] }, [], 0) := by kernel_rfl

theorem Tryd.w10_3 (m p : Int) : outK Tryd.prog Tryd.f10 20 [0, 1, 5, 6] (runK Tryd.prog Tryd.D0 Tryd.F0 1000 (.code (bodyOf Tryd.f10)) [] 0 ([.int .i64 m, .int .i64 p] ++ List.replicate 40 undefT) ⟨0, []⟩ [false, false, false, false, false, false, true] [])
    = some (OutT.done (some T.nils), [decide (p > 65536), !decide (p < 1), !decide (p < 1), !decide (p < 1), !decide (m < 0), !decide (m < 0), !decide (m < 0)], { next := 0, objs := [] }, [], 0) := by kernel_rfl

theorem Tryd.w10_4 (m p : Int) : outK Tryd.prog Tryd.f10 20 [0, 1, 5, 6] (runK Tryd.prog Tryd.D0 Tryd.F0 1000 (.code (bodyOf Tryd.f10)) [] 0 ([.int .i64 m, .int .i64 p] ++ List.replicate 40 undefT) ⟨0, []⟩ [false, false, false, false, false, false, false] [])
    = some (OutT.loop 0 (loopAt Tryd.f10 0).1 (loopAt Tryd.f10 0).2, [decide (0 ≤ p), decide (p = p), decide (p.toNat * 8 ≤ 70368744177664), decide (p ≤ 70368744177664), !decide (p > 65536), !decide (p < 1), !decide (p < 1), !decide (p < 1), !decide (m < 0), !decide (m < 0), !decide (m < 0)], { next := 1, objs := [(0, { elem := 3, sz := 1, cells := List.flatMap T.cells (List.replicate p.toNat (T.int IntKind.i64 0)) })] }, [T.int IntKind.i64 m, T.int IntKind.i64 p, T.osl 0 1 0 p.toNat, T.int IntKind.i64 0], 42) := by kernel_rfl

theorem Tryd.w10l_1 (m p : Int) (n i : Nat) (C fr : List T) : outK Tryd.prog Tryd.f10 20 [0, 1, 5, 6] (runK Tryd.prog Tryd.D0 Tryd.F0 1000 (.code (loopAt Tryd.f10 0).1) (.lp :: (loopAt Tryd.f10 0).2) 0 (frK [0, 1, 5, 6] [.int .i64 m, .int .i64 p, .osl 0 1 0 n, .int .i64 i] fr 42) ⟨1, [(0, ⟨3, 1, C⟩)]⟩ [true, true] [])
    = some (OutT.again 0, [true, decide ((0 + i) * 1 + 1 ≤ (spliceT C ((0 + i) * 1) [T.int IntKind.i64 (IntKind.i64.wrap (m.tdiv p))]).length), true, true, decide ((↑i : Int) < (↑n : Int)), isInt IntKind.i64 ((spliceT C ((0 + i) * 1) [T.int IntKind.i64 (IntKind.i64.wrap (m.tdiv p))]).getD ((0 + i) * 1) undefT), decide ((0 + i) * 1 < (spliceT C ((0 + i) * 1) [T.int IntKind.i64 (IntKind.i64.wrap (m.tdiv p))]).length), true, true, decide ((↑i : Int) < (↑n : Int)), decide ((↑i : Int) < m.tmod p), p != 0, true, decide ((0 + i) * 1 + 1 ≤ C.length), true, true, decide ((↑i : Int) < (↑n : Int)), p != 0, decide ((↑i : Int) < p)], { next := 1, objs := [(0, { elem := 3, sz := 1, cells := spliceT (spliceT C ((0 + i) * 1) [T.int IntKind.i64 (IntKind.i64.wrap (m.tdiv p))]) ((0 + i) * 1) [T.int IntKind.i64 (IntKind.i64.wrap (intv ((spliceT C ((0 + i) * 1) [T.int IntKind.i64 (IntKind.i64.wrap (m.tdiv p))]).getD ((0 + i) * 1) undefT) + 1))] })] }, [T.int IntKind.i64 m, T.int IntKind.i64 p, T.osl 0 1 0 n, T.int IntKind.i64 (IntKind.i64.wrap ((↑i : Int) + 1))], 42) := by kernel_rfl

theorem Tryd.w10l_2 (m p : Int) (n i : Nat) (C fr : List T) : outK Tryd.prog Tryd.f10 20 [0, 1, 5, 6] (runK Tryd.prog Tryd.D0 Tryd.F0 1000 (.code (loopAt Tryd.f10 0).1) (.lp :: (loopAt Tryd.f10 0).2) 0 (frK [0, 1, 5, 6] [.int .i64 m, .int .i64 p, .osl 0 1 0 n, .int .i64 i] fr 42) ⟨1, [(0, ⟨3, 1, C⟩)]⟩ [true, false] [])
    = some (OutT.again 0, [!decide ((↑i : Int) < m.tmod p), p != 0, true, decide ((0 + i) * 1 + 1 ≤ C.length), true, true, decide ((↑i : Int) < (↑n : Int)), p != 0, decide ((↑i : Int) < p)], { next := 1, objs := [(0, { elem := 3, sz := 1, cells := spliceT C ((0 + i) * 1) [T.int IntKind.i64 (IntKind.i64.wrap (m.tdiv p))] })] }, [T.int IntKind.i64 m, T.int IntKind.i64 p, T.osl 0 1 0 n, T.int IntKind.i64 (IntKind.i64.wrap ((↑i : Int) + 1))], 42) := by kernel_rfl

theorem Tryd.w10l_3 (m p : Int) (n i : Nat) (C fr : List T) : outK Tryd.prog Tryd.f10 20 [0, 1, 5, 6] (runK Tryd.prog Tryd.D0 Tryd.F0 1000 (.code (loopAt Tryd.f10 0).1) (.lp :: (loopAt Tryd.f10 0).2) 0 (frK [0, 1, 5, 6] [.int .i64 m, .int .i64 p, .osl 0 1 0 n, .int .i64 i] fr 42) ⟨1, [(0, ⟨3, 1, C⟩)]⟩ [false] [])
    = some (OutT.done (frzT 20 { next := 1, objs := [(0, { elem := 3, sz := 1, cells := C })] } (T.osl 0 1 0 n)), [!decide ((↑i : Int) < p)], { next := 0, objs := [] }, [], 0) := by kernel_rfl

theorem Tryd.body10_ok : codeOk (bodyOf Tryd.f10) = true := by kernel_rfl
theorem Tryd.loop10_ok : codeOk (loopAt Tryd.f10 0).1 = true := by kernel_rfl
theorem Tryd.ks10_ok : ksOk (.lp :: (loopAt Tryd.f10 0).2) = true := by kernel_rfl

theorem Tryd.loop10 (m p : Int) (n : Nat) (hn : n ≤ 65536) (hp : p ≠ 0) (hnp : (n : Int) = p) : ∀ (i : Nat) (fr : List T) (H : Hp), i ≤ n → [0, 1, 5, 6].map (getT fr) = [.int .i64 m, .int .i64 p, .osl 0 1 0 n, .int .i64 i] → fr.length = 42 → H = ⟨1, [(0, ⟨3, 1, Tryd.shC m p n i⟩)]⟩ →
    Ps.Good Tryd.prog Tryd.D0.env (.loop (loopAt Tryd.f10 0).1) fr H (postK Tryd.prog Tryd.D0.env (Ps.Ends Tryd.prog Tryd.f10 20 (.sl false (Tryd.shC m p n n))) (loopAt Tryd.f10 0).2 []) := by
  refine loop_data (α := Nat) [0, 1, 5, 6] 42 (fun i => [.int .i64 m, .int .i64 p, .osl 0 1 0 n, .int .i64 (i : Nat)]) (fun i => ⟨1, [(0, ⟨3, 1, Tryd.shC m p n i⟩)]⟩) (fun i => i ≤ n) (fun i => n - i) (fun i fr hi => ?_)
  have hlen := Tryd.shC_len m p n i hi
  by_cases h1 : i < n
  · have e0 : (0 + i) * 1 = i := by omega
    have ei : IntKind.i64.wrap ((i : Int) + 1) = ((i + 1 : Nat) : Int) := by rw [IntWalk.i64_in _ (by omega)]; omega
    by_cases h2 : (i : Int) < m.tmod p
    · have hs : spliceT (Tryd.shC m p n i) i [.int .i64 (IntKind.i64.wrap (m.tdiv p))] = (List.range i).map (Tryd.shv m p) ++ .int .i64 (IntKind.i64.wrap (m.tdiv p)) :: List.replicate (n - (i + 1)) (.int .i64 0) := by
        rw [Tryd.shC_get m p n i h1, Tryd.splice_mid _ _ _ _ _ (by simp)]
      have hg : (spliceT (Tryd.shC m p n i) i [.int .i64 (IntKind.i64.wrap (m.tdiv p))]).getD i undefT = .int .i64 (IntKind.i64.wrap (m.tdiv p)) := by
        rw [hs, List.getD_eq_getElem?_getD, List.getElem?_append_right (by simp)]
        simp
      have hl2 : (spliceT (Tryd.shC m p n i) i [.int .i64 (IntKind.i64.wrap (m.tdiv p))]).length = n := by rw [hs]; simp; omega
      refine Tryd.cx0.again Tryd.loop10_ok Tryd.ks10_ok (Tryd.w10l_1 m p n i _ fr) ?_ rfl ?_
      · simp only [e0, hg, hl2, hlen, allT, isInt]
        simp [hp, h2, h1]
        omega
      · intro fr' hk hl
        refine ⟨i + 1, by omega, by omega, ?_, hl, ?_⟩
        · rw [hk, ei]
        · rw [e0, hg, hs, Tryd.splice_mid _ _ _ _ _ (by simp)]
          have : Tryd.shC m p n (i + 1) = (List.range i).map (Tryd.shv m p) ++ Tryd.shv m p i :: List.replicate (n - (i + 1)) (.int .i64 0) := by
            unfold Tryd.shC
            rw [List.range_succ, List.map_append]
            simp
          rw [this]
          simp only [intv, Tryd.shv, if_pos h2]
    · refine Tryd.cx0.again Tryd.loop10_ok Tryd.ks10_ok (Tryd.w10l_2 m p n i _ fr) ?_ rfl ?_
      · simp only [e0, hlen, allT]
        simp [hp, h1]
        omega
      · intro fr' hk hl
        refine ⟨i + 1, by omega, by omega, ?_, hl, ?_⟩
        · rw [hk, ei]
        · rw [e0, Tryd.shC_step m p n i h1 _ (by simp only [Tryd.shv, if_neg h2])]
  · have hin : i = n := by omega
    subst hin
    refine Tryd.cx0.done Tryd.loop10_ok Tryd.ks10_ok (Tryd.w10l_3 m p i i _ fr) ?_ ?_
    · refine frz_row (d := 18) (o := ⟨3, 1, Tryd.shC m p i i⟩) rfl rfl hlen ?_
      simp [Tryd.shC, Tryd.shv, scal1]
    · simp [allT]
      omega

/-- shares of the law. -/
theorem Tryd.f10_ok (m p : Int) : PureFn Tryd.prog Tryd.gl 10 [.int .i64 m, .int .i64 p] (Tryd.sharesT m p) := by
  refine pure_good0 (E := Tryd.D0.env) (k := 20) (d := 1) (fn := Tryd.f10) (c := bodyOf Tryd.f10) Tryd.glFrz (Tryd.okA 10 (by decide)).1 Tryd.func10 (by kernel_rfl) (by kernel_rfl) ?_
  show Ps.Good Tryd.prog Tryd.D0.env (bodyOf Tryd.f10) ([.int .i64 m, .int .i64 p] ++ List.replicate 40 undefT) ⟨0, []⟩ (postK Tryd.prog Tryd.D0.env (Ps.Ends Tryd.prog Tryd.f10 20 (Tryd.sharesT m p)) [] [])
  by_cases h1 : m < 0
  · refine Tryd.cx0.done Tryd.body10_ok rfl (Tryd.w10_1 m p) ?_ ?_
    · simp [Tryd.sharesT, h1]
    · simp [allT, h1]
  · by_cases h2 : p < 1
    · refine Tryd.cx0.done Tryd.body10_ok rfl (Tryd.w10_2 m p) ?_ ?_
      · simp [Tryd.sharesT, h2]
      · simp [allT, h1, h2]
    · by_cases h3 : p > 65536
      · refine Tryd.cx0.done Tryd.body10_ok rfl (Tryd.w10_3 m p) ?_ ?_
        · simp [Tryd.sharesT, h3]
        · simp [allT, h1, h2, h3]
      · refine Tryd.cx0.loop Tryd.body10_ok rfl (Tryd.w10_4 m p) ?_ ?_
        · simp only [allT]
          simp [h1, h2, h3]
          omega
        · intro fr hk hl
          have hr : Tryd.sharesT m p = .sl false (Tryd.shC m p p.toNat p.toNat) := by
            simp only [Tryd.sharesT, Tryd.shC]
            rw [if_neg (by omega)]
            simp
          rw [hr]
          refine Tryd.loop10 m p p.toNat (by omega) (by omega) (by omega) 0 fr _ (by omega) hk hl ?_
          have : (List.replicate p.toNat (T.int .i64 0)).flatMap T.cells = List.replicate p.toNat (T.int .i64 0) := (flat_single _ (by simp [T.isAgg])).1
          rw [this]
          simp [Tryd.shC]
end

/-- What both give, told by a function of the place. -/
def Tryd.shI (m p : Int) (i : Nat) : Int := if (i : Int) < m.tmod p then IntKind.i64.wrap (IntKind.i64.wrap (m.tdiv p) + 1) else IntKind.i64.wrap (m.tdiv p)
def Tryd.shN (m p : Int) : Nat := if m < 0 ∨ p < 1 ∨ p > 65536 then 0 else p.toNat
def Tryd.shF (m p : Int) : T := .slf false (Tryd.shN m p) (fun i => .int .i64 (Tryd.shI m p i))

theorem Tryd.sh_slf (m p : Int) {g : G} {v : Value} (h : Rd g v (Tryd.sharesT m p)) : Rd g v (Tryd.shF m p) := by
  unfold Tryd.sharesT at h
  unfold Tryd.shF Tryd.shN
  by_cases c : m < 0 ∨ p < 1 ∨ p > 65536
  · rw [if_pos c] at h ⊢
    exact rd_nslf _ _ h
  · rw [if_neg c] at h ⊢
    refine rd_slf h ?_ (by simp) ?_
    · intro x hx
      obtain ⟨i, _, rfl⟩ := List.mem_map.1 hx
      rfl
    · intro i hi
      rw [List.getElem?_map, List.getElem?_range hi]
      simp only [Option.map_some, Tryd.shv, Tryd.shI]

def Tryd.s9 : List T → Option (T × List Bool)
  | [.int .i64 m, .int .i64 p] => some (Tryd.shF m p, [])
  | _ => none
def Tryd.s6 : List T → Option (T × List Bool)
  | [] => some (.bool true, [])
  | _ => none
def Tryd.D1 : Ed := ⟨Tryd.gl, pdAdd 6 Tryd.s6 (pdAdd 9 Tryd.s9 (pdAdd 10 Tryd.s9 (fun _ _ _ => none)))⟩

theorem Tryd.s9_ok {f : FuncId} (hf : ∀ m p, PureFn Tryd.prog Tryd.gl f [.int .i64 m, .int .i64 p] (Tryd.sharesT m p)) (ts : List T) (r : T) (cs : List Bool) (h : Tryd.s9 ts = some (r, cs)) : PureFn Tryd.prog Tryd.gl f ts r := by
  unfold Tryd.s9 at h
  split at h
  · cases h
    exact (hf _ _).mono fun g v q => Tryd.sh_slf _ _ q
  · cases h
theorem Tryd.s6_ok (ts : List T) (r : T) (cs : List Bool) (h : Tryd.s6 ts = some (r, cs)) : PureFn Tryd.prog Tryd.gl 6 ts r := by
  unfold Tryd.s6 at h
  split at h
  · cases h; exact Tryd.known_ok
  · cases h
theorem Tryd.cx1 : Cx Tryd.prog Tryd.D1 Tryd.F0 := ⟨Tryd.follows, pdAdd_ok (pdAdd_ok (pdAdd_ok pdNone_ok (fun ts r cs h _ => Tryd.s9_ok Tryd.f10_ok ts r cs h)) (fun ts r cs h _ => Tryd.s9_ok Tryd.f9_ok ts r cs h)) (fun ts r cs h _ => Tryd.s6_ok ts r cs h), Tryd.F0ok⟩
end Go.Proofs
