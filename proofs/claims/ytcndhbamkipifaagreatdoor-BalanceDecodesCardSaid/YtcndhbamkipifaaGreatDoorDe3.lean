/- Texts merged: G, Gc, Ks, Kc, K22, Kd, Ns, N11, Ms, M17, Mh, Mc, Md, Me, Os, O8, Oc, Nc, Nd, Pe, Qs, Ws, E7, Wc, Xg, Xh, N73, Nu, Sq, Pq, Xl, Xp. -/
import Derived.Test.YtcndhbamkipifaaGreatDoorDe2
import Derived.Test.YtcndhbamkipifaaGreatDoorDe1
import Derived.Test.YtcndhbamkipifaaGreatDoorDe0
import Derived.RangeFuncBound
import Derived.Shelf.Abstract
import Derived.Shelf.RegionOpen
import Derived.WalkKit
import Derived.OwnWalkIn
import Derived.TacticsInMore
import Derived.LoopNIn
import Derived.LoopIn
import Derived.Maps.AppendAt
set_option linter.unusedSimpArgs false
set_option linter.unusedVariables false
set_option linter.unusedSectionVars false
/- totals, both, and small as machines, by program (gen2). -/
namespace Go.Proofs.Tryz
noncomputable section
open Go.Ps
set_option maxRecDepth 100000
/-! ### 19 -/
def k19_s_0 (c : Ct) : List Bool := [true, true, isV (ctT c) (ctT c), decide (c.n ≤ 281474976710656)]
def k19_s_1 (c : Ct) : List Bool := let y0 := c.accepted != sumR F58 c.line c.n 0 0; (!y0) :: (!y0) :: (!y0) :: (!y0) :: (!y0) :: (!y0) :: k19_s_0 c
def k19_s_2 (c : Ct) : List Bool := let y0 := c.delivered != sumR (F57 82) c.line c.n 0 0; (!y0) :: (!y0) :: (!y0) :: (!y0) :: (!y0) :: (!y0) :: k19_s_1 c
def k19_s_3 (c : Ct) : List Bool := let y0 := c.waiting != sumR (F57 53) c.line c.n 0 0; (!y0) :: (!y0) :: (!y0) :: (!y0) :: (!y0) :: (!y0) :: k19_s_2 c
def k19_s_4 (c : Ct) : List Bool := let y0 := c.letters != sumR (F57 83) c.line c.n 0 0; (!y0) :: (!y0) :: (!y0) :: (!y0) :: (!y0) :: (!y0) :: k19_s_3 c
def g19_s_1 (c : Ct) : List Bool := let y0 := c.accepted != sumR F58 c.line c.n 0 0; true :: true :: true :: true :: true :: true :: true :: true :: true :: true :: true :: true :: true :: true :: true :: true :: true :: true :: true :: y0 :: y0 :: y0 :: y0 :: y0 :: y0 :: k19_s_0 c
def g19_s_2 (c : Ct) : List Bool := let y0 := c.delivered != sumR (F57 82) c.line c.n 0 0; true :: true :: true :: true :: true :: true :: true :: true :: true :: true :: true :: true :: true :: y0 :: y0 :: y0 :: y0 :: y0 :: y0 :: k19_s_1 c
def g19_s_3 (c : Ct) : List Bool := let y0 := c.waiting != sumR (F57 53) c.line c.n 0 0; true :: true :: true :: true :: true :: true :: true :: y0 :: y0 :: y0 :: y0 :: y0 :: y0 :: k19_s_2 c
def g19_s_4 (c : Ct) : List Bool := let y0 := c.letters != sumR (F57 83) c.line c.n 0 0; true :: y0 :: y0 :: y0 :: y0 :: y0 :: y0 :: k19_s_3 c
def g19_s_5 (c : Ct) : List Bool := (c.discarded != sumR (F57 84) c.line c.n 0 0) :: k19_s_4 c
def g19_s_6 (c : Ct) : List Bool := (!c.discarded != sumR (F57 84) c.line c.n 0 0) :: k19_s_4 c
def V19_s (c : Ct) : Empty ⊕ T :=
 (if c.accepted != sumR F58 c.line c.n 0 0 then (.inr ((T.int .i64 38))) else (if c.delivered != sumR (F57 82) c.line c.n 0 0 then (.inr ((T.int .i64 38))) else (if c.waiting != sumR (F57 53) c.line c.n 0 0 then (.inr ((T.int .i64 38))) else (if c.letters != sumR (F57 83) c.line c.n 0 0 then (.inr ((T.int .i64 38))) else (if c.discarded != sumR (F57 84) c.line c.n 0 0 then (.inr ((T.int .i64 38))) else (.inr ((T.int .i64 0))))))))
def K19_s (c : Ct) : Bool :=
 (if c.accepted != sumR F58 c.line c.n 0 0 then (allT (g19_s_1 c)) else (if c.delivered != sumR (F57 82) c.line c.n 0 0 then (allT (g19_s_2 c)) else (if c.waiting != sumR (F57 53) c.line c.n 0 0 then (allT (g19_s_3 c)) else (if c.letters != sumR (F57 83) c.line c.n 0 0 then (allT (g19_s_4 c)) else (if c.discarded != sumR (F57 84) c.line c.n 0 0 then (allT (g19_s_5 c)) else (allT (g19_s_6 c)))))))
def r19_s (c : Ct) (ds : List Bool) : RD Out := runK prog D14 F0 2000 (.code (bodyOf f37)) [] 0 ([ctT c] ++ List.replicate 38 undefT) ⟨0, []⟩ ds []
theorem w19_s_1 (c : Ct) : outK prog f37 20 [] (r19_s c (bt 25 33554431)) = wdn (T.int .i64 38) (g19_s_1 c) := by kernel_rfl
theorem w19_s_2 (c : Ct) : outK prog f37 20 [] (r19_s c (bt 25 33554368)) = wdn (T.int .i64 38) (g19_s_2 c) := by kernel_rfl
theorem w19_s_3 (c : Ct) : outK prog f37 20 [] (r19_s c (bt 25 33550336)) = wdn (T.int .i64 38) (g19_s_3 c) := by kernel_rfl
theorem w19_s_4 (c : Ct) : outK prog f37 20 [] (r19_s c (bt 25 33292288)) = wdn (T.int .i64 38) (g19_s_4 c) := by kernel_rfl
theorem w19_s_5 (c : Ct) : outK prog f37 20 [] (r19_s c (bt 25 16777216)) = wdn (T.int .i64 38) (g19_s_5 c) := by kernel_rfl
theorem w19_s_6 (c : Ct) : outK prog f37 20 [] (r19_s c (bt 25 0)) = wdn (T.int .i64 0) (g19_s_6 c) := by kernel_rfl
theorem c19 (c : Ct) (n : Nat) {r : T} (hk : K19_s c = true) (hr : noM.fin n (V19_s c) = some r) : PureFn prog gl 37 [ctT c] r :=
 pure_mach (M := noM) (fn := f37) (k := 20) (d := 8) (c := bodyOf f37) cx14 glFrz (by kernel_rfl) func37 (by kernel_rfl) rfl (by kernel_rfl) (by kernel_rfl) (L := 38) (by kernel_rfl) noM_ways (fun σ => σ.elim) ((wk_if (kD (w19_s_1 c)) (wk_if (kD (w19_s_2 c)) (wk_if (kD (w19_s_3 c)) (wk_if (kD (w19_s_4 c)) (wk_if (kD (w19_s_5 c)) (kD (w19_s_6 c))))))) hk _ rfl) hr
/-! ### 24 -/
inductive S24 where
 | l0 (x3 vd vw vl vx : Int)
/-! ### 7 -/
inductive S7n where
 | l0 (x3 : Int)
 | l1 (x3 x5 : Int)
end
end Go.Proofs.Tryz

/- The sixth rule, both sides; the first rule; the law's guard. -/
namespace Go.Proofs.Tryz
open Go.Ps
set_option maxRecDepth 100000
/-! ### totals of the program -/
def totE (c : Ct) : Int := if c.accepted ≠ sumR F58 c.line c.n 0 0 ∨ c.delivered ≠ sumR (F57 82) c.line c.n 0 0 ∨ c.waiting ≠ sumR (F57 53) c.line c.n 0 0 ∨ c.letters ≠ sumR (F57 83) c.line c.n 0 0 ∨ c.discarded ≠ sumR (F57 84) c.line c.n 0 0 then 38 else 0
theorem totals_ok (c : Ct) (hn : c.n ≤ 281474976710656) : PureFn prog gl 37 [ctT c] (.int .i64 (totE c)) := by
 have a1 : decide (c.n ≤ 281474976710656) = true := decide_eq_true hn
 refine c19 c 0 ?_ ?_
 ·unfold K19_s
  repeat' (refine tree_eq (fun _ => ?_) (fun _ => ?_))
  all_goals (simp only [g19_s_1, g19_s_2, g19_s_3, g19_s_4, g19_s_5, g19_s_6, k19_s_0, k19_s_1, k19_s_2, k19_s_3, k19_s_4] at *; simp only [*, allT, isV_self, decide_true, Bool.not_false, Bool.not_true, Bool.and_true])
 ·have hv : V19_s c = .inr (.int .i64 (totE c)) := by
   unfold V19_s
   repeat' (refine tree_eq (fun _ => ?_) (fun _ => ?_))
   all_goals (unfold totE; grind)
  rw [hv]; rfl
/-! ### size -/
def sizE (c : Ct) : Int := if c.entries < 0 ∨ c.entries > 1048576 then 2 else if c.n > 65536 then 9 else 0
theorem size_ok (c : Ct) : PureFn prog gl 32 [ctT c] (.int .i64 (sizE c)) := by
 have hv : V14_s c = .inr (.int .i64 (sizE c)) := by
  unfold V14_s
  repeat' (refine tree_eq (fun _ => ?_) (fun _ => ?_))
  all_goals (unfold sizE; grind)
 refine c14 c 0 ?_ (by rw [hv]; rfl)
 unfold K14_s
 repeat' (refine tree_eq (fun _ => ?_) (fun _ => ?_))
 all_goals (simp only [g14_s_1, g14_s_2, g14_s_3, g14_s_4, k14_s_0] at *; simp_all [allT])
/-! ### totals of the law -/
/-! ### small -/
end Go.Proofs.Tryz

/- The children of a line, as the law lists them; the contract. -/
namespace Go.Proofs.Tryz
open Go.Ps
def smallL (m : Nat) (f : Nat → Ln) : Prop := m ≤ 100 ∧ ∀ i, i < m → (f i).k ≤ 300 ∧ (f i).st.n ≤ 1001 ∧ ∀ k, k < (f i).k → ((f i).from_ k).n ≤ 1001
noncomputable def D15 : Ed := ⟨gl, D14.pd⟩
end Go.Proofs.Tryz

/- children of the law: proved. -/
namespace Go.Proofs.Tryz
open Go.Ps
set_option maxRecDepth 100000
def ints (xs : List Int) : List T := xs.map (T.int .i64)
section
variable (m : Nat) (f : Nat → Ln) (s : Sp) (hs : smallL m f)
include hs
end
theorem cx15 : Cx prog D15 F0 := ⟨follows, cx14.hE, F0ok⟩
end Go.Proofs.Tryz

/- fourth of the law as a machine, by program (gen2). -/
namespace Go.Proofs.Tryz
open Go.Ps
set_option maxRecDepth 100000
/-! ### 22 -/
inductive S22 where
 | l0 (x7 : Int)
 | l1 (x9 : Int)
end Go.Proofs.Tryz

/- The fourth rule of the law: proved. -/
namespace Go.Proofs.Tryz
open Go.Ps
set_option maxRecDepth 100000
def fo (ks : List Int) (c : Ct) (x : Ln) : Int :=
 if x.fate = 1 then (if ks.length = 0 then 10 else if exR (fun j => ((c.line (ks.getD j 0).toNat).k : Int) != 1) ks.length 0 then 10 else if exR (fun j => (c.line (ks.getD j 0).toNat).mass != shI x.mass ks.length j) ks.length 0 then 38 else 0)
 else if x.fate = 2 then (if ks.length ≠ 1 then 10 else 0)
 else if x.closed = 5 then (if ks.length ≠ 1 ∨ (c.line (ks.getD 0 0).toNat).k ≠ 1 ∨ arr (c.line (ks.getD 0 0).toNat).st = false then 10 else if (c.line (ks.getD 0 0).toNat).mass ≠ x.mass then 38 else 0)
 else if ks.length > 0 then 10 else 0
section
variable (c : Ct) (hs : small c) (i : Nat) (hi : i < c.n)
include hs hi
end
end Go.Proofs.Tryz

/- The contracts of the law's rules. -/
namespace Go.Proofs.Tryz
open Go.Ps
noncomputable def pB (p : Prop) : Bool := @decide p (Classical.propDecidable _)
theorem pB_iff {p : Prop} : pB p = true ↔ p := by unfold pB; simp
noncomputable def D16 : Ed := ⟨gl, D15.pd⟩
theorem cx16 : Cx prog D16 F0 := ⟨follows, cx15.hE, F0ok⟩
end Go.Proofs.Tryz

/- check of the law as a machine, by program (gen2). -/
namespace Go.Proofs.Tryz
open Go.Ps
set_option maxRecDepth 100000
/-! ### 11 -/
inductive S11 where
 | l0 (x3 : Int)
 | l1 (x3 x4 : Int)
 | l2 (x6 x7 : Int)
end Go.Proofs.Tryz

/- The rows of children, as the program keeps them; the frame for the function. -/
namespace Go.Proofs.Tryz
open Go.Ps
def F17 : Fc := ⟨fun d => d == 47, fun _ _ _ => none⟩
theorem cx17 : Cx prog D15 F17 := ⟨follows, cx15.hE, eeNone_ok⟩
def rowT (H : Hp) : T → List Int
 | .osl l _ _ _ => (match H.get l with | some o => o.cells.map intv | none => [])
 | _ => []
def rowsOf (H : Hp) (k : Nat) : List Int := rowT H ((obv H 0).cells.getD k undefT)
def rowsOk (n : Nat) (H : Hp) : Prop := ∃ C, H.get 0 = some ⟨37, 1, C⟩ ∧ C.length = n ∧ ∀ t ∈ C, t = .nils ∨ ∃ l xs, t = .osl l 1 0 (xs : List Int).length ∧ H.get l = some ⟨3, 1, ints xs⟩
def frzR (H : Hp) (t : T) : T := match t with
 | .osl .. => .sl false (ints (rowT H t))
 | t => t
theorem rowT_osl {H : Hp} {l : Nat} {xs : List Int} (h : H.get l = some ⟨3, 1, ints xs⟩) (n : Nat) : rowT H (.osl l 1 0 n) = xs := by
 simp only [rowT, h, ints, List.map_map]
 have : (intv ∘ T.int .i64) = id := rfl
 rw [this, List.map_id]
theorem frzR_map {H : Hp} : ∀ (C : List T), (∀ t ∈ C, t = .nils ∨ ∃ l xs, t = .osl l 1 0 (xs : List Int).length ∧ H.get l = some ⟨3, 1, ints xs⟩) → mapO (frzT 19 H) C = some (C.map (frzR H))
 | [], _ => rfl
 | t :: C, h => by
  have e : frzT 19 H t = some (frzR H t) := by
   rcases h t (by simp) with rfl | ⟨l, xs, rfl, hl⟩
   ·rfl
   ·rw [frz_row (d := 17) hl rfl (by simp [ints]) (by simp [ints, scal1])]
    simp only [frzR, rowT_osl hl]
  simp only [mapO, e, frzR_map C (fun t ht => h t (by simp [ht])), List.map_cons]
theorem rdI_ints {g : G} {v : Value} {xs : List Int} (h : Rd g v (.sl false (ints xs))) : RdI g v (.slf false xs.length (fun j => .int .i64 (xs.getD j 0))) := by
 have hl : (ints xs).length = xs.length := by simp [ints]
 generalize hy : ints xs = ys at h hl
 cases h with
 | sl _ _ sz b o cap vs h1 h2 h3 h4 h5 h6 h7 h8 =>
  have hat : ∀ i, i < xs.length → ys[i]? = some (T.int .i64 (xs.getD i 0)) := fun i hi => by
   rw [← hy]
   unfold ints
   rw [List.getElem?_map, List.getElem?_eq_getElem hi, List.getD_eq_getElem?_getD, List.getElem?_eq_getElem hi]
   rfl
  rw [hl] at h3 h5 h6 ⊢
  refine .slf false xs.length _ sz b o cap vs (fun q => h1 (fun e => q (by rw [← hl, e]; rfl))) (fun i hi => h2 _ (List.mem_of_getElem? (hat i hi))) h3 h4 h5 h6 h7 (fun i j u c hi hj hu hc => ?_)
  have hr := h8 _ u c hu (rows_at h2 (hat i hi) j c hc)
  simp only [T.cells] at hc
  cases j with
  | zero => simp at hc; subst hc; exact rdI_scal rfl hr
  | succ j => simp at hc
theorem rows_frz {n : Nat} {H : Hp} (hb : pB (rowsOk n H) = true) : ∃ t0, frzT 20 H (.osl 0 1 0 n) = some t0 ∧ ∀ g v, Rd g v t0 → Rd g v (.slf false n fun k => .slf false (rowsOf H k).length fun j => .int .i64 ((rowsOf H k).getD j 0)) := by
 obtain ⟨C, h0, hn, hC⟩ := pB_iff.1 hb
 have hna : ((C.map (frzR H)).all fun c => !c.isAgg) = true := by
  rw [List.all_eq_true]
  intro x hx
  obtain ⟨t, ht, rfl⟩ := List.mem_map.1 hx
  rcases hC t ht with rfl | ⟨l, xs, rfl, hl⟩ <;> rfl
 refine ⟨.sl false (C.map (frzR H)), ?_, fun g v hv => ?_⟩
 ·show (match H.get 0 with
   | some o => if 1 ≠ 0 ∧ o.sz = 1 ∧ (0 + n) * 1 ≤ o.cells.length then
     match mapO (frzT 19 H) ((o.cells.drop (0 * 1)).take (n * 1)) with
     | some cs => if 1 = 1 then (if (cs.all fun c => !c.isAgg) then some (T.sl false cs) else none) else some (T.sl false (chunk 1 n cs))
     | none => none
    else none
   | none => none) = _
  rw [h0]
  simp only
  have e : (C.drop (0 * 1)).take (n * 1) = C := by simp [← hn]
  rw [if_pos ⟨by decide, trivial, by omega⟩, e, frzR_map C hC]
  simp only [if_true, hna]
 ·have hl : (C.map (frzR H)).length = n := by simp [hn]
  have hat : ∀ i, i < n → ∃ t, C[i]? = some t ∧ (C.map (frzR H))[i]? = some (frzR H t) ∧ rowsOf H i = rowT H t ∧ t ∈ C := fun i hi => by
   have hi' : i < C.length := by omega
   refine ⟨C[i], List.getElem?_eq_getElem hi', by rw [List.getElem?_map, List.getElem?_eq_getElem hi']; rfl, ?_, List.getElem_mem hi'⟩
   unfold rowsOf obv
   rw [h0]
   simp only
   rw [List.getD_eq_getElem?_getD, List.getElem?_eq_getElem hi']
   rfl
  generalize hy : C.map (frzR H) = ys at hv hl hat
  cases hv with
  | sl _ _ sz b o cap vs h1 h2 h3 h4 h5 h6 h7 h8 =>
   have hsz : ∀ i, i < n → sz = 1 := fun i hi => by
    obtain ⟨t, _, e2, _, e4⟩ := hat i hi
    rw [← h2 _ (List.mem_of_getElem? e2)]
    rcases hC t e4 with rfl | ⟨l, xs, rfl, hl⟩ <;> rfl
   rw [hl] at h3 h5 h6 ⊢
   refine .slf false n _ sz b o cap vs (fun q => h1 (fun e => q (by rw [← hl, e]; rfl))) (fun i hi => by rw [hsz i hi]; rfl) h3 h4 h5 h6 h7 (fun i j u c hi hj hu hc => ?_)
   obtain ⟨t, e1, e2, e3, e4⟩ := hat i hi
   simp only [T.cells] at hc
   cases j with
   | succ j => simp at hc
   | zero =>
    simp at hc
    subst hc
    have hcell : (frzR H t).cells = [frzR H t] := by rcases hC t e4 with rfl | ⟨l, xs, rfl, hl⟩ <;> rfl
    have hr := h8 _ u (frzR H t) hu (rows_at h2 e2 0 _ (by rw [hcell]; rfl))
    rw [e3]
    rcases hC t e4 with rfl | ⟨l, xs, rfl, hlx⟩
    ·simp only [frzR] at hr
     cases hr
     exact .slfn _ _ _
    ·simp only [frzR, rowT_osl hlx] at hr
     rw [rowT_osl hlx]
     exact rdI_ints hr
end Go.Proofs.Tryz

/- children of the program as a machine, by program (gen2). -/
namespace Go.Proofs.Tryz
noncomputable section
open Go.Ps
set_option maxRecDepth 100000
/-! ### 17 -/
inductive S17 where
 | l0 (x22 x23 : Int) (H : Hp)
 | l1 (x4 x22 x23 x30 x31 : Int) (H : Hp)
 | l2 (x56 x57 : Int) (rows : Nat → List Int) (NX : Nat)
 | l3f (x10 x56 x57 x138 x139 : Int) (rows : Nat → List Int) (NX : Nat)
 | l3n0_0 (x10 x56 x57 : Int) (rows : Nat → List Int) (NX : Nat)
 | l3s1_0 (x10 x56 x57 : Int) (rows : Nat → List Int) (NX : Nat)
 | l3s1_1 (x10 x56 x57 : Int) (rows : Nat → List Int) (NX : Nat)
def g17_s_1 (c : Ct) : List Bool := [true, decide ((↑c.n : Int) = (↑c.n : Int)), decide (c.n * 24 ≤ 70368744177664), decide ((↑c.n : Int) ≤ 70368744177664)]
theorem w17_s_1 (c : Ct) : outK prog f35 20 [1, 3, 21, 22, 23] (runK prog D15 F17 2000 (.code (bodyOf f35)) [] 0 ([ctT c] ++ List.replicate 159 undefT) ⟨0, []⟩ [] [])
  = some (OutT.loop 0 (loopAt f35 0).1 (loopAt f35 0).2, g17_s_1 c, { next := 1, objs := [(0, { elem := 37, sz := 1, cells := List.flatMap T.cells (List.replicate c.n T.nils) })] }, [(ctT c).ref 0, T.osl 0 1 0 c.n, T.slf false c.n fun i => lnT (c.line i), T.int .i64 (↑c.n : Int), T.int .i64 0], 160) := by kernel_rfl
def g17_0_1 (c : Ct) (x22 x23 : Int) (H : Hp) : List Bool := [true, true, decide (0 ≤ x23), decide (x23 < (↑c.n : Int)), true, decide (x23 < x22)]
def r17_0 (c : Ct) (x22 x23 : Int) (H : Hp) (fr : List T) (ds : List Bool) : RD Out := runK prog D15 F17 2000 (.code (loopAt f35 0).1) (.lp :: (loopAt f35 0).2) 0 (frK [1, 3, 21, 22, 23] [(ctT c).ref 0, T.osl 0 1 0 c.n, T.slf false c.n fun i => lnT (c.line i), T.int .i64 x22, T.int .i64 x23] fr 160) H ds []
theorem w17_0_1 (c : Ct) (x22 x23 : Int) (H : Hp) (fr : List T) : outK prog f35 20 [1, 3, 4, 21, 22, 23, 29, 30, 31] (r17_0 c x22 x23 H fr [true])
  = some (OutT.loop 0 (loopAt f35 1).1 (loopAt f35 1).2, g17_0_1 c x22 x23 H, H, [(ctT c).ref 0, T.osl 0 1 0 c.n, T.int .i64 x23, T.slf false c.n fun i => lnT (c.line i), T.int .i64 x22, T.int .i64 x23, T.slf false (c.line x23.toNat).k fun i => spT ((c.line x23.toNat).from_ i), T.int .i64 (↑(c.line x23.toNat).k : Int), T.int .i64 0], 160) := by kernel_rfl
def g17_0_2 (c : Ct) (x22 x23 : Int) (H : Hp) : List Bool := [!decide (x23 < x22)]
theorem w17_0_2 (c : Ct) (x22 x23 : Int) (H : Hp) (fr : List T) : outK prog f35 20 [1, 3, 55, 56, 57] (r17_0 c x22 x23 H fr [false])
  = some (OutT.loop 1 (loopAt f35 2).1 (loopAt f35 2).2, g17_0_2 c x22 x23 H, H, [(ctT c).ref 0, T.osl 0 1 0 c.n, T.slf false c.n fun i => lnT (c.line i), T.int .i64 (↑c.n : Int), T.int .i64 0], 160) := by kernel_rfl
def k17_1_0 (c : Ct) (x4 x22 x23 x30 x31 : Int) (H : Hp) : List Bool := [obIn H 0 ((0 + bs c.n fun i => cmpS (c.line i).st ((c.line x23.toNat).from_ x31.toNat)) * 1 + 1), true, true, decide ((↑(bs c.n fun i => cmpS (c.line i).st ((c.line x23.toNat).from_ x31.toNat)) : Int) < (↑c.n : Int)), isV (T.slf false c.n fun i => lnT (c.line i)) (lsT c.n c.line), isV (spT ((c.line x23.toNat).from_ x31.toNat)) (spT ((c.line x23.toNat).from_ x31.toNat)), modestB c.n c.line, true, true, decide (0 ≤ x31), decide (x31 < (↑(c.line x23.toNat).k : Int)), true, decide (x31 < x30)]
def g17_1_1 (c : Ct) (x4 x22 x23 x30 x31 : Int) (H : Hp) : List Bool := true :: (obIn (H.new { elem := 3, sz := 1, cells := [T.int .i64 x4] }) 0 ((0 + bs c.n fun i => cmpS (c.line i).st ((c.line x23.toNat).from_ x31.toNat)) * 1 + 1)) :: true :: true :: (decide ((↑(bs c.n fun i => cmpS (c.line i).st ((c.line x23.toNat).from_ x31.toNat)) : Int) < (↑c.n : Int))) :: true :: true :: true :: (isNils ((obv H 0).cells.getD ((0 + bs c.n fun i => cmpS (c.line i).st ((c.line x23.toNat).from_ x31.toNat)) * 1) undefT)) :: k17_1_0 c x4 x22 x23 x30 x31 H
def r17_1 (c : Ct) (x4 x22 x23 x30 x31 : Int) (H : Hp) (fr : List T) (ds : List Bool) : RD Out := runK prog D15 F17 2000 (.code (loopAt f35 1).1) (.lp :: (loopAt f35 1).2) 0 (frK [1, 3, 4, 21, 22, 23, 29, 30, 31] [(ctT c).ref 0, T.osl 0 1 0 c.n, T.int .i64 x4, T.slf false c.n fun i => lnT (c.line i), T.int .i64 x22, T.int .i64 x23, T.slf false (c.line x23.toNat).k fun i => spT ((c.line x23.toNat).from_ i), T.int .i64 x30, T.int .i64 x31] fr 160) H ds []
theorem w17_1_1 (c : Ct) (x4 x22 x23 x30 x31 : Int) (H : Hp) (fr : List T) : outK prog f35 20 [1, 3, 4, 21, 22, 23, 29, 30, 31] (r17_1 c x4 x22 x23 x30 x31 H fr [true, true])
  = some (OutT.again 0, g17_1_1 c x4 x22 x23 x30 x31 H, { next := H.next + 1, objs := setOb ((H.next, { elem := 3, sz := 1, cells := [T.int .i64 x4] }) :: H.objs) 0 (have __src := obv (H.new { elem := 3, sz := 1, cells := [T.int .i64 x4] }) 0; { elem := __src.elem, sz := __src.sz, cells := spliceT (obv (H.new { elem := 3, sz := 1, cells := [T.int .i64 x4] }) 0).cells ((0 + bs c.n fun i => cmpS (c.line i).st ((c.line x23.toNat).from_ x31.toNat)) * 1) [T.osl H.next 1 0 1] }) }, [(ctT c).ref 0, T.osl 0 1 0 c.n, T.int .i64 x4, T.slf false c.n fun i => lnT (c.line i), T.int .i64 x22, T.int .i64 x23, T.slf false (c.line x23.toNat).k fun i => spT ((c.line x23.toNat).from_ i), T.int .i64 x30, T.int .i64 (IntKind.i64.wrap (x31 + 1))], 160) := by kernel_rfl
def g17_1_2 (c : Ct) (x4 x22 x23 x30 x31 : Int) (H : Hp) : List Bool := true :: (obIn ((H.drop (oslL ((obv H 0).cells.getD ((0 + bs c.n fun i => cmpS (c.line i).st ((c.line x23.toNat).from_ x31.toNat)) * 1) undefT))).new { elem := 3, sz := 1, cells := (obv H (oslL ((obv H 0).cells.getD ((0 + bs c.n fun i => cmpS (c.line i).st ((c.line x23.toNat).from_ x31.toNat)) * 1) undefT))).cells ++ [T.int .i64 x4] }) 0 ((0 + bs c.n fun i => cmpS (c.line i).st ((c.line x23.toNat).from_ x31.toNat)) * 1 + 1)) :: true :: true :: (decide ((↑(bs c.n fun i => cmpS (c.line i).st ((c.line x23.toNat).from_ x31.toNat)) : Int) < (↑c.n : Int))) :: true :: true :: (obApp H (oslL ((obv H 0).cells.getD ((0 + bs c.n fun i => cmpS (c.line i).st ((c.line x23.toNat).from_ x31.toNat)) * 1) undefT)) 3 1 (oslN ((obv H 0).cells.getD ((0 + bs c.n fun i => cmpS (c.line i).st ((c.line x23.toNat).from_ x31.toNat)) * 1) undefT))) :: (roomT (oslN ((obv H 0).cells.getD ((0 + bs c.n fun i => cmpS (c.line i).st ((c.line x23.toNat).from_ x31.toNat)) * 1) undefT) + 1) 8) :: (isOsl1 ((obv H 0).cells.getD ((0 + bs c.n fun i => cmpS (c.line i).st ((c.line x23.toNat).from_ x31.toNat)) * 1) undefT)) :: k17_1_0 c x4 x22 x23 x30 x31 H
theorem w17_1_2 (c : Ct) (x4 x22 x23 x30 x31 : Int) (H : Hp) (fr : List T) : outK prog f35 20 [1, 3, 4, 21, 22, 23, 29, 30, 31] (r17_1 c x4 x22 x23 x30 x31 H fr [true, false])
  = some (OutT.again 0, g17_1_2 c x4 x22 x23 x30 x31 H, { next := H.next + 1, objs := setOb ((H.next, { elem := 3, sz := 1, cells := (obv H (oslL ((obv H 0).cells.getD ((0 + bs c.n fun i => cmpS (c.line i).st ((c.line x23.toNat).from_ x31.toNat)) * 1) undefT))).cells ++ [T.int .i64 x4] }) :: dropOb H.objs (oslL ((obv H 0).cells.getD ((0 + bs c.n fun i => cmpS (c.line i).st ((c.line x23.toNat).from_ x31.toNat)) * 1) undefT))) 0 (have __src := obv ((H.drop (oslL ((obv H 0).cells.getD ((0 + bs c.n fun i => cmpS (c.line i).st ((c.line x23.toNat).from_ x31.toNat)) * 1) undefT))).new { elem := 3, sz := 1, cells := (obv H (oslL ((obv H 0).cells.getD ((0 + bs c.n fun i => cmpS (c.line i).st ((c.line x23.toNat).from_ x31.toNat)) * 1) undefT))).cells ++ [T.int .i64 x4] }) 0; { elem := __src.elem, sz := __src.sz, cells := spliceT (obv ((H.drop (oslL ((obv H 0).cells.getD ((0 + bs c.n fun i => cmpS (c.line i).st ((c.line x23.toNat).from_ x31.toNat)) * 1) undefT))).new { elem := 3, sz := 1, cells := (obv H (oslL ((obv H 0).cells.getD ((0 + bs c.n fun i => cmpS (c.line i).st ((c.line x23.toNat).from_ x31.toNat)) * 1) undefT))).cells ++ [T.int .i64 x4] }) 0).cells ((0 + bs c.n fun i => cmpS (c.line i).st ((c.line x23.toNat).from_ x31.toNat)) * 1) [T.osl H.next 1 0 (oslN ((obv H 0).cells.getD ((0 + bs c.n fun i => cmpS (c.line i).st ((c.line x23.toNat).from_ x31.toNat)) * 1) undefT) + 1)] }) }, [(ctT c).ref 0, T.osl 0 1 0 c.n, T.int .i64 x4, T.slf false c.n fun i => lnT (c.line i), T.int .i64 x22, T.int .i64 x23, T.slf false (c.line x23.toNat).k fun i => spT ((c.line x23.toNat).from_ i), T.int .i64 x30, T.int .i64 (IntKind.i64.wrap (x31 + 1))], 160) := by kernel_rfl
def g17_1_3 (c : Ct) (x4 x22 x23 x30 x31 : Int) (H : Hp) : List Bool := [!decide (x31 < x30)]
theorem w17_1_3 (c : Ct) (x4 x22 x23 x30 x31 : Int) (H : Hp) (fr : List T) : outK prog f35 20 [1, 3, 21, 22, 23] (r17_1 c x4 x22 x23 x30 x31 H fr [false])
  = some (OutT.again 1, g17_1_3 c x4 x22 x23 x30 x31 H, H, [(ctT c).ref 0, T.osl 0 1 0 c.n, T.slf false c.n fun i => lnT (c.line i), T.int .i64 x22, T.int .i64 (IntKind.i64.wrap (x23 + 1))], 160) := by kernel_rfl
def k17_2_0 (c : Ct) (x56 x57 : Int) (rows : Nat → List Int) (NX : Nat) : List Bool := let y0 := decide (0 ≤ x57); let y1 := decide (x57 < (↑c.n : Int)); [isV (T.slf false (rows x57.toNat).length fun j => T.int .i64 ((rows x57.toNat).getD j 0)) (isT (rows x57.toNat).length fun i => (rows x57.toNat).getD i 0), isV (ctT c) (ctT c), decide ((rows x57.toNat).length ≤ 281474976710656), decide (∀ (i : Nat), i < (rows x57.toNat).length → 0 ≤ (rows x57.toNat).getD i 0 ∧ (rows x57.toNat).getD i 0 < (↑c.n : Int)), y0, y1, true, true, true, y0, y1, true, decide (x57 < x56)]
def k17_2_1 (c : Ct) (x56 x57 : Int) (rows : Nat → List Int) (NX : Nat) : List Bool := (decide (0 ≤ x57)) :: (decide (x57 < (↑c.n : Int))) :: true :: ((c.line x57.toNat).fate == 1) :: k17_2_0 c x56 x57 rows NX
def k17_2_2 (c : Ct) (x56 x57 : Int) (rows : Nat → List Int) (NX : Nat) : List Bool := let y0 := (↑(rows x57.toNat).length : Int) == 0; (!y0) :: (!y0) :: k17_2_1 c x56 x57 rows NX
def k17_2_3 (c : Ct) (x56 x57 : Int) (rows : Nat → List Int) (NX : Nat) : List Bool := (decide (0 ≤ x57)) :: (decide (x57 < (↑c.n : Int))) :: true :: ((c.line x57.toNat).closed == 5) :: (!(c.line x57.toNat).fate == 1) :: k17_2_0 c x56 x57 rows NX
def k17_2_4 (c : Ct) (x56 x57 : Int) (rows : Nat → List Int) (NX : Nat) : List Bool := let y0 := (↑(rows x57.toNat).length : Int) != 1; (!y0) :: (!y0) :: k17_2_3 c x56 x57 rows NX
def k17_2_5 (c : Ct) (x56 x57 : Int) (rows : Nat → List Int) (NX : Nat) : List Bool := let y0 := any (rows x57.toNat).length fun i => (↑(c.line ((rows x57.toNat).getD i 0).toNat).k : Int) != 1; (!y0) :: (!y0) :: (isV (spT (c.line ((rows x57.toNat).getD 0 0).toNat).st) (spT (c.line ((rows x57.toNat).getD 0 0).toNat).st)) :: (!y0) :: (!y0) :: (!y0) :: (decide (0 ≤ (rows x57.toNat).getD 0 0)) :: (decide ((rows x57.toNat).getD 0 0 < (↑c.n : Int))) :: true :: (!y0) :: (!y0) :: true :: (decide (0 < (↑(rows x57.toNat).length : Int))) :: true :: (!y0) :: (!y0) :: (decide (0 ≤ x57)) :: (decide (x57 < (↑c.n : Int))) :: true :: (!y0) :: (!y0) :: (!y0) :: (!y0) :: (!y0) :: k17_2_4 c x56 x57 rows NX
def k17_2_6 (c : Ct) (x56 x57 : Int) (rows : Nat → List Int) (NX : Nat) : List Bool := (!(c.line x57.toNat).closed == 5) :: (!(c.line x57.toNat).fate == 1) :: k17_2_0 c x56 x57 rows NX
def k17_2_7 (c : Ct) (x56 x57 : Int) (rows : Nat → List Int) (NX : Nat) : List Bool := (decide (0 ≤ x57)) :: (decide (x57 < (↑c.n : Int))) :: true :: ((c.line x57.toNat).fate == 2) :: k17_2_6 c x56 x57 rows NX
def k17_2_8 (c : Ct) (x56 x57 : Int) (rows : Nat → List Int) (NX : Nat) : List Bool := (decide (0 ≤ x57)) :: (decide (x57 < (↑c.n : Int))) :: true :: (!(c.line x57.toNat).fate == 2) :: k17_2_6 c x56 x57 rows NX
def g17_2_1 (c : Ct) (x56 x57 : Int) (rows : Nat → List Int) (NX : Nat) : List Bool := let y0 := (↑(rows x57.toNat).length : Int) == 0; true :: y0 :: y0 :: k17_2_1 c x56 x57 rows NX
def r17_2 (c : Ct) (x56 x57 : Int) (rows : Nat → List Int) (NX : Nat) (fr : List T) (ds : List Bool) : RD Out := runK prog D15 F17 2000 (.code (loopAt f35 2).1) (.lp :: (loopAt f35 2).2) 0 (frK [1, 3, 55, 56, 57] [(ctT c).ref 0, T.slf false c.n fun k => T.slf false (rows k).length fun j => T.int .i64 ((rows k).getD j 0), T.slf false c.n fun i => lnT (c.line i), T.int .i64 x56, T.int .i64 x57] fr 160) { next := NX, objs := [] } ds []
theorem w17_2_1 (c : Ct) (x56 x57 : Int) (rows : Nat → List Int) (NX : Nat) (fr : List T) : outK prog f35 20 [] (r17_2 c x56 x57 rows NX fr (bt 5 31))
  = some (OutT.done (some (T.int .i64 10)), g17_2_1 c x56 x57 rows NX, { next := 0, objs := [] }, [], 0) := by kernel_rfl
def g17_2_2 (c : Ct) (x56 x57 : Int) (rows : Nat → List Int) (NX : Nat) : List Bool := (any (rows x57.toNat).length fun i => (↑(c.line ((rows x57.toNat).getD i 0).toNat).k : Int) != 1) :: k17_2_2 c x56 x57 rows NX
theorem w17_2_2 (c : Ct) (x56 x57 : Int) (rows : Nat → List Int) (NX : Nat) (fr : List T) : outK prog f35 20 [] (r17_2 c x56 x57 rows NX fr (bt 5 19))
  = some (OutT.done (some (T.int .i64 10)), g17_2_2 c x56 x57 rows NX, { next := 0, objs := [] }, [], 0) := by kernel_rfl
def g17_2_3 (c : Ct) (x56 x57 : Int) (rows : Nat → List Int) (NX : Nat) : List Bool := (decide (0 ≤ x57)) :: (decide (x57 < (↑c.n : Int))) :: true :: (!any (rows x57.toNat).length fun i => (↑(c.line ((rows x57.toNat).getD i 0).toNat).k : Int) != 1) :: k17_2_2 c x56 x57 rows NX
theorem w17_2_3 (c : Ct) (x56 x57 : Int) (rows : Nat → List Int) (NX : Nat) (fr : List T) : outK prog f35 20 [1, 3, 10, 55, 56, 57, 137, 138, 139] (r17_2 c x56 x57 rows NX fr (bt 5 3))
  = some (OutT.loop 0 (loopAt f35 3).1 (loopAt f35 3).2, g17_2_3 c x56 x57 rows NX, { next := NX, objs := [] }, [(ctT c).ref 0, T.slf false c.n fun k => T.slf false (rows k).length fun j => T.int .i64 ((rows k).getD j 0), T.int .i64 x57, T.slf false c.n fun i => lnT (c.line i), T.int .i64 x56, T.int .i64 x57, T.slf false (shN (c.line x57.toNat).mass (↑(rows x57.toNat).length : Int)) fun i => T.int .i64 (shI (c.line x57.toNat).mass (↑(rows x57.toNat).length : Int) i), T.int .i64 (↑(shN (c.line x57.toNat).mass (↑(rows x57.toNat).length : Int)) : Int), T.int .i64 0], 160) := by kernel_rfl
def g17_2_4 (c : Ct) (x56 x57 : Int) (rows : Nat → List Int) (NX : Nat) : List Bool := let y0 := (↑(rows x57.toNat).length : Int) != 1; true :: true :: true :: true :: true :: true :: true :: true :: true :: true :: true :: true :: true :: true :: true :: y0 :: y0 :: k17_2_3 c x56 x57 rows NX
theorem w17_2_4 (c : Ct) (x56 x57 : Int) (rows : Nat → List Int) (NX : Nat) (fr : List T) : outK prog f35 20 [] (r17_2 c x56 x57 rows NX fr (bt 20 1048573))
  = some (OutT.done (some (T.int .i64 10)), g17_2_4 c x56 x57 rows NX, { next := 0, objs := [] }, [], 0) := by kernel_rfl
def g17_2_5 (c : Ct) (x56 x57 : Int) (rows : Nat → List Int) (NX : Nat) : List Bool := let y0 := any (rows x57.toNat).length fun i => (↑(c.line ((rows x57.toNat).getD i 0).toNat).k : Int) != 1; true :: y0 :: y0 :: y0 :: y0 :: y0 :: y0 :: y0 :: y0 :: y0 :: y0 :: y0 :: y0 :: y0 :: y0 :: k17_2_4 c x56 x57 rows NX
theorem w17_2_5 (c : Ct) (x56 x57 : Int) (rows : Nat → List Int) (NX : Nat) (fr : List T) : outK prog f35 20 [] (r17_2 c x56 x57 rows NX fr (bt 20 1048549))
  = some (OutT.done (some (T.int .i64 10)), g17_2_5 c x56 x57 rows NX, { next := 0, objs := [] }, [], 0) := by kernel_rfl
def g17_2_6 (c : Ct) (x56 x57 : Int) (rows : Nat → List Int) (NX : Nat) : List Bool := (!arr (c.line ((rows x57.toNat).getD 0 0).toNat).st) :: k17_2_5 c x56 x57 rows NX
theorem w17_2_6 (c : Ct) (x56 x57 : Int) (rows : Nat → List Int) (NX : Nat) (fr : List T) : outK prog f35 20 [] (r17_2 c x56 x57 rows NX fr (bt 20 524293))
  = some (OutT.done (some (T.int .i64 10)), g17_2_6 c x56 x57 rows NX, { next := 0, objs := [] }, [], 0) := by kernel_rfl
def g17_2_7 (c : Ct) (x56 x57 : Int) (rows : Nat → List Int) (NX : Nat) : List Bool := (!!arr (c.line ((rows x57.toNat).getD 0 0).toNat).st) :: k17_2_5 c x56 x57 rows NX
theorem w17_2_7 (c : Ct) (x56 x57 : Int) (rows : Nat → List Int) (NX : Nat) (fr : List T) : outK prog f35 20 [1, 3, 10, 55, 56, 57, 137, 138, 139] (r17_2 c x56 x57 rows NX fr (bt 20 5))
  = some (OutT.loop 0 (loopAt f35 3).1 (loopAt f35 3).2, g17_2_7 c x56 x57 rows NX, { next := NX, objs := [] }, [(ctT c).ref 0, T.slf false c.n fun k => T.slf false (rows k).length fun j => T.int .i64 ((rows k).getD j 0), T.int .i64 x57, T.slf false c.n fun i => lnT (c.line i), T.int .i64 x56, T.int .i64 x57, T.sl true [T.int .i64 (c.line x57.toNat).mass], T.int .i64 (↑1 : Int), T.int .i64 0], 160) := by kernel_rfl
def g17_2_8 (c : Ct) (x56 x57 : Int) (rows : Nat → List Int) (NX : Nat) : List Bool := ((↑(rows x57.toNat).length : Int) != 1) :: k17_2_7 c x56 x57 rows NX
theorem w17_2_8 (c : Ct) (x56 x57 : Int) (rows : Nat → List Int) (NX : Nat) (fr : List T) : outK prog f35 20 [] (r17_2 c x56 x57 rows NX fr (bt 5 25))
  = some (OutT.done (some (T.int .i64 10)), g17_2_8 c x56 x57 rows NX, { next := 0, objs := [] }, [], 0) := by kernel_rfl
def g17_2_9 (c : Ct) (x56 x57 : Int) (rows : Nat → List Int) (NX : Nat) : List Bool := (!(↑(rows x57.toNat).length : Int) != 1) :: k17_2_7 c x56 x57 rows NX
theorem w17_2_9 (c : Ct) (x56 x57 : Int) (rows : Nat → List Int) (NX : Nat) (fr : List T) : outK prog f35 20 [1, 3, 10, 55, 56, 57, 137, 138, 139] (r17_2 c x56 x57 rows NX fr (bt 5 9))
  = some (OutT.loop 0 (loopAt f35 3).1 (loopAt f35 3).2, g17_2_9 c x56 x57 rows NX, { next := NX, objs := [] }, [(ctT c).ref 0, T.slf false c.n fun k => T.slf false (rows k).length fun j => T.int .i64 ((rows k).getD j 0), T.int .i64 x57, T.slf false c.n fun i => lnT (c.line i), T.int .i64 x56, T.int .i64 x57, T.nils, T.int .i64 0, T.int .i64 0], 160) := by kernel_rfl
def g17_2_10 (c : Ct) (x56 x57 : Int) (rows : Nat → List Int) (NX : Nat) : List Bool := (decide ((↑(rows x57.toNat).length : Int) > 0)) :: k17_2_8 c x56 x57 rows NX
theorem w17_2_10 (c : Ct) (x56 x57 : Int) (rows : Nat → List Int) (NX : Nat) (fr : List T) : outK prog f35 20 [] (r17_2 c x56 x57 rows NX fr (bt 5 17))
  = some (OutT.done (some (T.int .i64 10)), g17_2_10 c x56 x57 rows NX, { next := 0, objs := [] }, [], 0) := by kernel_rfl
def g17_2_11 (c : Ct) (x56 x57 : Int) (rows : Nat → List Int) (NX : Nat) : List Bool := (!decide ((↑(rows x57.toNat).length : Int) > 0)) :: k17_2_8 c x56 x57 rows NX
theorem w17_2_11 (c : Ct) (x56 x57 : Int) (rows : Nat → List Int) (NX : Nat) (fr : List T) : outK prog f35 20 [1, 3, 10, 55, 56, 57, 137, 138, 139] (r17_2 c x56 x57 rows NX fr (bt 5 1))
  = some (OutT.loop 0 (loopAt f35 3).1 (loopAt f35 3).2, g17_2_11 c x56 x57 rows NX, { next := NX, objs := [] }, [(ctT c).ref 0, T.slf false c.n fun k => T.slf false (rows k).length fun j => T.int .i64 ((rows k).getD j 0), T.int .i64 x57, T.slf false c.n fun i => lnT (c.line i), T.int .i64 x56, T.int .i64 x57, T.nils, T.int .i64 0, T.int .i64 0], 160) := by kernel_rfl
def g17_2_12 (c : Ct) (x56 x57 : Int) (rows : Nat → List Int) (NX : Nat) : List Bool := [!decide (x57 < x56)]
theorem w17_2_12 (c : Ct) (x56 x57 : Int) (rows : Nat → List Int) (NX : Nat) (fr : List T) : outK prog f35 20 [] (r17_2 c x56 x57 rows NX fr [false])
  = some (OutT.done (some (T.int .i64 0)), g17_2_12 c x56 x57 rows NX, { next := 0, objs := [] }, [], 0) := by kernel_rfl
def k17_3f_0 (c : Ct) (x10 x56 x57 x138 x139 : Int) (rows : Nat → List Int) (NX : Nat) : List Bool := let y0 := decide (0 ≤ x139); [decide (0 ≤ (rows x10.toNat).getD x139.toNat 0), decide ((rows x10.toNat).getD x139.toNat 0 < (↑c.n : Int)), true, y0, decide (x139 < (↑(rows x10.toNat).length : Int)), true, decide (0 ≤ x10), decide (x10 < (↑c.n : Int)), true, y0, decide (x139 < (↑(shN (c.line x57.toNat).mass (↑(rows x57.toNat).length : Int)) : Int)), true, decide (x139 < x138)]
def g17_3f_1 (c : Ct) (x10 x56 x57 x138 x139 : Int) (rows : Nat → List Int) (NX : Nat) : List Bool := ((c.line ((rows x10.toNat).getD x139.toNat 0).toNat).mass != shI (c.line x57.toNat).mass (↑(rows x57.toNat).length : Int) x139.toNat) :: k17_3f_0 c x10 x56 x57 x138 x139 rows NX
def r17_3f (c : Ct) (x10 x56 x57 x138 x139 : Int) (rows : Nat → List Int) (NX : Nat) (fr : List T) (ds : List Bool) : RD Out := runK prog D15 F17 2000 (.code (loopAt f35 3).1) (.lp :: (loopAt f35 3).2) 0 (frK [1, 3, 10, 55, 56, 57, 137, 138, 139] [(ctT c).ref 0, T.slf false c.n fun k => T.slf false (rows k).length fun j => T.int .i64 ((rows k).getD j 0), T.int .i64 x10, T.slf false c.n fun i => lnT (c.line i), T.int .i64 x56, T.int .i64 x57, T.slf false (shN (c.line x57.toNat).mass (↑(rows x57.toNat).length : Int)) fun i => T.int .i64 (shI (c.line x57.toNat).mass (↑(rows x57.toNat).length : Int) i), T.int .i64 x138, T.int .i64 x139] fr 160) { next := NX, objs := [] } ds []
theorem w17_3f_1 (c : Ct) (x10 x56 x57 x138 x139 : Int) (rows : Nat → List Int) (NX : Nat) (fr : List T) : outK prog f35 20 [] (r17_3f c x10 x56 x57 x138 x139 rows NX fr [true, true])
  = some (OutT.done (some (T.int .i64 38)), g17_3f_1 c x10 x56 x57 x138 x139 rows NX, { next := 0, objs := [] }, [], 0) := by kernel_rfl
def g17_3f_2 (c : Ct) (x10 x56 x57 x138 x139 : Int) (rows : Nat → List Int) (NX : Nat) : List Bool := (!(c.line ((rows x10.toNat).getD x139.toNat 0).toNat).mass != shI (c.line x57.toNat).mass (↑(rows x57.toNat).length : Int) x139.toNat) :: k17_3f_0 c x10 x56 x57 x138 x139 rows NX
theorem w17_3f_2 (c : Ct) (x10 x56 x57 x138 x139 : Int) (rows : Nat → List Int) (NX : Nat) (fr : List T) : outK prog f35 20 [1, 3, 10, 55, 56, 57, 137, 138, 139] (r17_3f c x10 x56 x57 x138 x139 rows NX fr [true, false])
  = some (OutT.again 0, g17_3f_2 c x10 x56 x57 x138 x139 rows NX, { next := NX, objs := [] }, [(ctT c).ref 0, T.slf false c.n fun k => T.slf false (rows k).length fun j => T.int .i64 ((rows k).getD j 0), T.int .i64 x10, T.slf false c.n fun i => lnT (c.line i), T.int .i64 x56, T.int .i64 x57, T.slf false (shN (c.line x57.toNat).mass (↑(rows x57.toNat).length : Int)) fun i => T.int .i64 (shI (c.line x57.toNat).mass (↑(rows x57.toNat).length : Int) i), T.int .i64 x138, T.int .i64 (IntKind.i64.wrap (x139 + 1))], 160) := by kernel_rfl
def g17_3f_3 (c : Ct) (x10 x56 x57 x138 x139 : Int) (rows : Nat → List Int) (NX : Nat) : List Bool := [!decide (x139 < x138)]
theorem w17_3f_3 (c : Ct) (x10 x56 x57 x138 x139 : Int) (rows : Nat → List Int) (NX : Nat) (fr : List T) : outK prog f35 20 [1, 3, 55, 56, 57] (r17_3f c x10 x56 x57 x138 x139 rows NX fr [false])
  = some (OutT.again 1, g17_3f_3 c x10 x56 x57 x138 x139 rows NX, { next := NX, objs := [] }, [(ctT c).ref 0, T.slf false c.n fun k => T.slf false (rows k).length fun j => T.int .i64 ((rows k).getD j 0), T.slf false c.n fun i => lnT (c.line i), T.int .i64 x56, T.int .i64 (IntKind.i64.wrap (x57 + 1))], 160) := by kernel_rfl
def k17_3s1_0_0 (c : Ct) (x10 x56 x57 : Int) (rows : Nat → List Int) (NX : Nat) : List Bool := [decide (0 ≤ (rows x10.toNat).getD 0 0), decide ((rows x10.toNat).getD 0 0 < (↑c.n : Int)), true, true, decide (0 < (↑(rows x10.toNat).length : Int)), true, decide (0 ≤ x10), decide (x10 < (↑c.n : Int)), true, true, true, true, true]
def g17_3s1_0_1 (c : Ct) (x10 x56 x57 : Int) (rows : Nat → List Int) (NX : Nat) : List Bool := ((c.line ((rows x10.toNat).getD 0 0).toNat).mass != (c.line x57.toNat).mass) :: k17_3s1_0_0 c x10 x56 x57 rows NX
def r17_3s1_0 (c : Ct) (x10 x56 x57 : Int) (rows : Nat → List Int) (NX : Nat) (fr : List T) (ds : List Bool) : RD Out := runK prog D15 F17 2000 (.code (loopAt f35 3).1) (.lp :: (loopAt f35 3).2) 0 (frK [1, 3, 10, 55, 56, 57, 137, 138, 139] [(ctT c).ref 0, T.slf false c.n fun k => T.slf false (rows k).length fun j => T.int .i64 ((rows k).getD j 0), T.int .i64 x10, T.slf false c.n fun i => lnT (c.line i), T.int .i64 x56, T.int .i64 x57, T.sl true [T.int .i64 (c.line x57.toNat).mass], T.int .i64 1, T.int .i64 0] fr 160) { next := NX, objs := [] } ds []
theorem w17_3s1_0_1 (c : Ct) (x10 x56 x57 : Int) (rows : Nat → List Int) (NX : Nat) (fr : List T) : outK prog f35 20 [] (r17_3s1_0 c x10 x56 x57 rows NX fr [true, true])
  = some (OutT.done (some (T.int .i64 38)), g17_3s1_0_1 c x10 x56 x57 rows NX, { next := 0, objs := [] }, [], 0) := by kernel_rfl
def g17_3s1_0_2 (c : Ct) (x10 x56 x57 : Int) (rows : Nat → List Int) (NX : Nat) : List Bool := (!(c.line ((rows x10.toNat).getD 0 0).toNat).mass != (c.line x57.toNat).mass) :: k17_3s1_0_0 c x10 x56 x57 rows NX
theorem w17_3s1_0_2 (c : Ct) (x10 x56 x57 : Int) (rows : Nat → List Int) (NX : Nat) (fr : List T) : outK prog f35 20 [1, 3, 10, 55, 56, 57, 137, 138, 139] (r17_3s1_0 c x10 x56 x57 rows NX fr [true, false])
  = some (OutT.again 0, g17_3s1_0_2 c x10 x56 x57 rows NX, { next := NX, objs := [] }, [(ctT c).ref 0, T.slf false c.n fun k => T.slf false (rows k).length fun j => T.int .i64 ((rows k).getD j 0), T.int .i64 x10, T.slf false c.n fun i => lnT (c.line i), T.int .i64 x56, T.int .i64 x57, T.sl true [T.int .i64 (c.line x57.toNat).mass], T.int .i64 1, T.int .i64 (IntKind.i64.wrap (0 + 1))], 160) := by kernel_rfl
def g17_3n0_0_1 (c : Ct) (x10 x56 x57 : Int) (rows : Nat → List Int) (NX : Nat) : List Bool := [true]
theorem w17_3n0_0_1 (c : Ct) (x10 x56 x57 : Int) (rows : Nat → List Int) (NX : Nat) (fr : List T) : outK prog f35 20 [1, 3, 55, 56, 57] (runK prog D15 F17 2000 (.code (loopAt f35 3).1) (.lp :: (loopAt f35 3).2) 0 (frK [1, 3, 10, 55, 56, 57, 137, 138, 139] [(ctT c).ref 0, T.slf false c.n fun k => T.slf false (rows k).length fun j => T.int .i64 ((rows k).getD j 0), T.int .i64 x10, T.slf false c.n fun i => lnT (c.line i), T.int .i64 x56, T.int .i64 x57, T.nils, T.int .i64 0, T.int .i64 0] fr 160) { next := NX, objs := [] } [false] [])
  = some (OutT.again 1, g17_3n0_0_1 c x10 x56 x57 rows NX, { next := NX, objs := [] }, [(ctT c).ref 0, T.slf false c.n fun k => T.slf false (rows k).length fun j => T.int .i64 ((rows k).getD j 0), T.slf false c.n fun i => lnT (c.line i), T.int .i64 x56, T.int .i64 (IntKind.i64.wrap (x57 + 1))], 160) := by kernel_rfl
def g17_3s1_1_1 (c : Ct) (x10 x56 x57 : Int) (rows : Nat → List Int) (NX : Nat) : List Bool := [true]
theorem w17_3s1_1_1 (c : Ct) (x10 x56 x57 : Int) (rows : Nat → List Int) (NX : Nat) (fr : List T) : outK prog f35 20 [1, 3, 55, 56, 57] (runK prog D15 F17 2000 (.code (loopAt f35 3).1) (.lp :: (loopAt f35 3).2) 0 (frK [1, 3, 10, 55, 56, 57, 137, 138, 139] [(ctT c).ref 0, T.slf false c.n fun k => T.slf false (rows k).length fun j => T.int .i64 ((rows k).getD j 0), T.int .i64 x10, T.slf false c.n fun i => lnT (c.line i), T.int .i64 x56, T.int .i64 x57, T.sl true [T.int .i64 (c.line x57.toNat).mass], T.int .i64 1, T.int .i64 1] fr 160) { next := NX, objs := [] } [false] [])
  = some (OutT.again 1, g17_3s1_1_1 c x10 x56 x57 rows NX, { next := NX, objs := [] }, [(ctT c).ref 0, T.slf false c.n fun k => T.slf false (rows k).length fun j => T.int .i64 ((rows k).getD j 0), T.slf false c.n fun i => lnT (c.line i), T.int .i64 x56, T.int .i64 (IntKind.i64.wrap (x57 + 1))], 160) := by kernel_rfl
def step17_0 (c : Ct) (x22 x23 : Int) (H : Hp) : Option (S17 ⊕ T) :=
 (if decide (x23 < x22) then (if allT (g17_0_1 c x22 x23 H) then some (.inl (.l1 x23 x22 x23 (↑(c.line x23.toNat).k : Int) 0 H)) else none) else (if (allT (g17_0_2 c x22 x23 H) && pB (rowsOk c.n H)) then some (.inl (.l2 (↑c.n : Int) 0 (rowsOf H) H.next)) else none))
def V17_0 (c : Ct) (x22 x23 : Int) (H : Hp) : S17 ⊕ T :=
 (if decide (x23 < x22) then (.inl (.l1 x23 x22 x23 (↑(c.line x23.toNat).k : Int) 0 H)) else (.inl (.l2 (↑c.n : Int) 0 (rowsOf H) H.next)))
def K17_0 (c : Ct) (x22 x23 : Int) (H : Hp) : Bool :=
 (if decide (x23 < x22) then (allT (g17_0_1 c x22 x23 H)) else (allT (g17_0_2 c x22 x23 H) && pB (rowsOk c.n H)))
theorem T17_0 (c : Ct) (x22 x23 : Int) (H : Hp) (hk : K17_0 c x22 x23 H = true) : step17_0 c x22 x23 H = some (V17_0 c x22 x23 H) :=
 (tree_if tree_leaf tree_leaf) hk
def step17_1 (c : Ct) (x4 x22 x23 x30 x31 : Int) (H : Hp) : Option (S17 ⊕ T) :=
 (if decide (x31 < x30) then (if isNils ((obv H 0).cells.getD ((0 + bs c.n fun i => cmpS (c.line i).st ((c.line x23.toNat).from_ x31.toNat)) * 1) undefT) then (if allT (g17_1_1 c x4 x22 x23 x30 x31 H) then some (.inl (.l1 x4 x22 x23 x30 (IntKind.i64.wrap (x31 + 1)) ({ next := H.next + 1, objs := setOb ((H.next, { elem := 3, sz := 1, cells := [T.int .i64 x4] }) :: H.objs) 0 (have __src := obv (H.new { elem := 3, sz := 1, cells := [T.int .i64 x4] }) 0; { elem := __src.elem, sz := __src.sz, cells := spliceT (obv (H.new { elem := 3, sz := 1, cells := [T.int .i64 x4] }) 0).cells ((0 + bs c.n fun i => cmpS (c.line i).st ((c.line x23.toNat).from_ x31.toNat)) * 1) [T.osl H.next 1 0 1] }) }))) else none) else (if allT (g17_1_2 c x4 x22 x23 x30 x31 H) then some (.inl (.l1 x4 x22 x23 x30 (IntKind.i64.wrap (x31 + 1)) ({ next := H.next + 1, objs := setOb ((H.next, { elem := 3, sz := 1, cells := (obv H (oslL ((obv H 0).cells.getD ((0 + bs c.n fun i => cmpS (c.line i).st ((c.line x23.toNat).from_ x31.toNat)) * 1) undefT))).cells ++ [T.int .i64 x4] }) :: dropOb H.objs (oslL ((obv H 0).cells.getD ((0 + bs c.n fun i => cmpS (c.line i).st ((c.line x23.toNat).from_ x31.toNat)) * 1) undefT))) 0 (have __src := obv ((H.drop (oslL ((obv H 0).cells.getD ((0 + bs c.n fun i => cmpS (c.line i).st ((c.line x23.toNat).from_ x31.toNat)) * 1) undefT))).new { elem := 3, sz := 1, cells := (obv H (oslL ((obv H 0).cells.getD ((0 + bs c.n fun i => cmpS (c.line i).st ((c.line x23.toNat).from_ x31.toNat)) * 1) undefT))).cells ++ [T.int .i64 x4] }) 0; { elem := __src.elem, sz := __src.sz, cells := spliceT (obv ((H.drop (oslL ((obv H 0).cells.getD ((0 + bs c.n fun i => cmpS (c.line i).st ((c.line x23.toNat).from_ x31.toNat)) * 1) undefT))).new { elem := 3, sz := 1, cells := (obv H (oslL ((obv H 0).cells.getD ((0 + bs c.n fun i => cmpS (c.line i).st ((c.line x23.toNat).from_ x31.toNat)) * 1) undefT))).cells ++ [T.int .i64 x4] }) 0).cells ((0 + bs c.n fun i => cmpS (c.line i).st ((c.line x23.toNat).from_ x31.toNat)) * 1) [T.osl H.next 1 0 (oslN ((obv H 0).cells.getD ((0 + bs c.n fun i => cmpS (c.line i).st ((c.line x23.toNat).from_ x31.toNat)) * 1) undefT) + 1)] }) }))) else none)) else (if allT (g17_1_3 c x4 x22 x23 x30 x31 H) then some (.inl (.l0 x22 (IntKind.i64.wrap (x23 + 1)) H)) else none))
def V17_1 (c : Ct) (x4 x22 x23 x30 x31 : Int) (H : Hp) : S17 ⊕ T :=
 (if decide (x31 < x30) then (if isNils ((obv H 0).cells.getD ((0 + bs c.n fun i => cmpS (c.line i).st ((c.line x23.toNat).from_ x31.toNat)) * 1) undefT) then (.inl (.l1 x4 x22 x23 x30 (IntKind.i64.wrap (x31 + 1)) ({ next := H.next + 1, objs := setOb ((H.next, { elem := 3, sz := 1, cells := [T.int .i64 x4] }) :: H.objs) 0 (have __src := obv (H.new { elem := 3, sz := 1, cells := [T.int .i64 x4] }) 0; { elem := __src.elem, sz := __src.sz, cells := spliceT (obv (H.new { elem := 3, sz := 1, cells := [T.int .i64 x4] }) 0).cells ((0 + bs c.n fun i => cmpS (c.line i).st ((c.line x23.toNat).from_ x31.toNat)) * 1) [T.osl H.next 1 0 1] }) }))) else (.inl (.l1 x4 x22 x23 x30 (IntKind.i64.wrap (x31 + 1)) ({ next := H.next + 1, objs := setOb ((H.next, { elem := 3, sz := 1, cells := (obv H (oslL ((obv H 0).cells.getD ((0 + bs c.n fun i => cmpS (c.line i).st ((c.line x23.toNat).from_ x31.toNat)) * 1) undefT))).cells ++ [T.int .i64 x4] }) :: dropOb H.objs (oslL ((obv H 0).cells.getD ((0 + bs c.n fun i => cmpS (c.line i).st ((c.line x23.toNat).from_ x31.toNat)) * 1) undefT))) 0 (have __src := obv ((H.drop (oslL ((obv H 0).cells.getD ((0 + bs c.n fun i => cmpS (c.line i).st ((c.line x23.toNat).from_ x31.toNat)) * 1) undefT))).new { elem := 3, sz := 1, cells := (obv H (oslL ((obv H 0).cells.getD ((0 + bs c.n fun i => cmpS (c.line i).st ((c.line x23.toNat).from_ x31.toNat)) * 1) undefT))).cells ++ [T.int .i64 x4] }) 0; { elem := __src.elem, sz := __src.sz, cells := spliceT (obv ((H.drop (oslL ((obv H 0).cells.getD ((0 + bs c.n fun i => cmpS (c.line i).st ((c.line x23.toNat).from_ x31.toNat)) * 1) undefT))).new { elem := 3, sz := 1, cells := (obv H (oslL ((obv H 0).cells.getD ((0 + bs c.n fun i => cmpS (c.line i).st ((c.line x23.toNat).from_ x31.toNat)) * 1) undefT))).cells ++ [T.int .i64 x4] }) 0).cells ((0 + bs c.n fun i => cmpS (c.line i).st ((c.line x23.toNat).from_ x31.toNat)) * 1) [T.osl H.next 1 0 (oslN ((obv H 0).cells.getD ((0 + bs c.n fun i => cmpS (c.line i).st ((c.line x23.toNat).from_ x31.toNat)) * 1) undefT) + 1)] }) })))) else (.inl (.l0 x22 (IntKind.i64.wrap (x23 + 1)) H)))
def K17_1 (c : Ct) (x4 x22 x23 x30 x31 : Int) (H : Hp) : Bool :=
 (if decide (x31 < x30) then (if isNils ((obv H 0).cells.getD ((0 + bs c.n fun i => cmpS (c.line i).st ((c.line x23.toNat).from_ x31.toNat)) * 1) undefT) then (allT (g17_1_1 c x4 x22 x23 x30 x31 H)) else (allT (g17_1_2 c x4 x22 x23 x30 x31 H))) else (allT (g17_1_3 c x4 x22 x23 x30 x31 H)))
theorem T17_1 (c : Ct) (x4 x22 x23 x30 x31 : Int) (H : Hp) (hk : K17_1 c x4 x22 x23 x30 x31 H = true) : step17_1 c x4 x22 x23 x30 x31 H = some (V17_1 c x4 x22 x23 x30 x31 H) :=
 (tree_if (tree_if tree_leaf tree_leaf) tree_leaf) hk
def step17_2 (c : Ct) (x56 x57 : Int) (rows : Nat → List Int) (NX : Nat) : Option (S17 ⊕ T) :=
 (if decide (x57 < x56) then (if (c.line x57.toNat).fate == 1 then (if (↑(rows x57.toNat).length : Int) == 0 then (if allT (g17_2_1 c x56 x57 rows NX) then some (.inr ((T.int .i64 10))) else none) else (if any (rows x57.toNat).length fun i => (↑(c.line ((rows x57.toNat).getD i 0).toNat).k : Int) != 1 then (if allT (g17_2_2 c x56 x57 rows NX) then some (.inr ((T.int .i64 10))) else none) else (if allT (g17_2_3 c x56 x57 rows NX) then some (.inl (.l3f x57 x56 x57 (↑(shN (c.line x57.toNat).mass (↑(rows x57.toNat).length : Int)) : Int) 0 rows NX)) else none))) else (if (c.line x57.toNat).closed == 5 then (if (↑(rows x57.toNat).length : Int) != 1 then (if allT (g17_2_4 c x56 x57 rows NX) then some (.inr ((T.int .i64 10))) else none) else (if any (rows x57.toNat).length fun i => (↑(c.line ((rows x57.toNat).getD i 0).toNat).k : Int) != 1 then (if allT (g17_2_5 c x56 x57 rows NX) then some (.inr ((T.int .i64 10))) else none) else (if !arr (c.line ((rows x57.toNat).getD 0 0).toNat).st then (if allT (g17_2_6 c x56 x57 rows NX) then some (.inr ((T.int .i64 10))) else none) else (if allT (g17_2_7 c x56 x57 rows NX) then some (.inl (.l3s1_0 x57 x56 x57 rows NX)) else none)))) else (if (c.line x57.toNat).fate == 2 then (if (↑(rows x57.toNat).length : Int) != 1 then (if allT (g17_2_8 c x56 x57 rows NX) then some (.inr ((T.int .i64 10))) else none) else (if allT (g17_2_9 c x56 x57 rows NX) then some (.inl (.l3n0_0 x57 x56 x57 rows NX)) else none)) else (if decide ((↑(rows x57.toNat).length : Int) > 0) then (if allT (g17_2_10 c x56 x57 rows NX) then some (.inr ((T.int .i64 10))) else none) else (if allT (g17_2_11 c x56 x57 rows NX) then some (.inl (.l3n0_0 x57 x56 x57 rows NX)) else none))))) else (if allT (g17_2_12 c x56 x57 rows NX) then some (.inr ((T.int .i64 0))) else none))
def V17_2 (c : Ct) (x56 x57 : Int) (rows : Nat → List Int) (NX : Nat) : S17 ⊕ T :=
 (if decide (x57 < x56) then (if (c.line x57.toNat).fate == 1 then (if (↑(rows x57.toNat).length : Int) == 0 then (.inr ((T.int .i64 10))) else (if any (rows x57.toNat).length fun i => (↑(c.line ((rows x57.toNat).getD i 0).toNat).k : Int) != 1 then (.inr ((T.int .i64 10))) else (.inl (.l3f x57 x56 x57 (↑(shN (c.line x57.toNat).mass (↑(rows x57.toNat).length : Int)) : Int) 0 rows NX)))) else (if (c.line x57.toNat).closed == 5 then (if (↑(rows x57.toNat).length : Int) != 1 then (.inr ((T.int .i64 10))) else (if any (rows x57.toNat).length fun i => (↑(c.line ((rows x57.toNat).getD i 0).toNat).k : Int) != 1 then (.inr ((T.int .i64 10))) else (if !arr (c.line ((rows x57.toNat).getD 0 0).toNat).st then (.inr ((T.int .i64 10))) else (.inl (.l3s1_0 x57 x56 x57 rows NX))))) else (if (c.line x57.toNat).fate == 2 then (if (↑(rows x57.toNat).length : Int) != 1 then (.inr ((T.int .i64 10))) else (.inl (.l3n0_0 x57 x56 x57 rows NX))) else (if decide ((↑(rows x57.toNat).length : Int) > 0) then (.inr ((T.int .i64 10))) else (.inl (.l3n0_0 x57 x56 x57 rows NX)))))) else (.inr ((T.int .i64 0))))
def K17_2 (c : Ct) (x56 x57 : Int) (rows : Nat → List Int) (NX : Nat) : Bool :=
 (if decide (x57 < x56) then (if (c.line x57.toNat).fate == 1 then (if (↑(rows x57.toNat).length : Int) == 0 then (allT (g17_2_1 c x56 x57 rows NX)) else (if any (rows x57.toNat).length fun i => (↑(c.line ((rows x57.toNat).getD i 0).toNat).k : Int) != 1 then (allT (g17_2_2 c x56 x57 rows NX)) else (allT (g17_2_3 c x56 x57 rows NX)))) else (if (c.line x57.toNat).closed == 5 then (if (↑(rows x57.toNat).length : Int) != 1 then (allT (g17_2_4 c x56 x57 rows NX)) else (if any (rows x57.toNat).length fun i => (↑(c.line ((rows x57.toNat).getD i 0).toNat).k : Int) != 1 then (allT (g17_2_5 c x56 x57 rows NX)) else (if !arr (c.line ((rows x57.toNat).getD 0 0).toNat).st then (allT (g17_2_6 c x56 x57 rows NX)) else (allT (g17_2_7 c x56 x57 rows NX))))) else (if (c.line x57.toNat).fate == 2 then (if (↑(rows x57.toNat).length : Int) != 1 then (allT (g17_2_8 c x56 x57 rows NX)) else (allT (g17_2_9 c x56 x57 rows NX))) else (if decide ((↑(rows x57.toNat).length : Int) > 0) then (allT (g17_2_10 c x56 x57 rows NX)) else (allT (g17_2_11 c x56 x57 rows NX)))))) else (allT (g17_2_12 c x56 x57 rows NX)))
theorem T17_2 (c : Ct) (x56 x57 : Int) (rows : Nat → List Int) (NX : Nat) (hk : K17_2 c x56 x57 rows NX = true) : step17_2 c x56 x57 rows NX = some (V17_2 c x56 x57 rows NX) :=
 (tree_if (tree_if (tree_if tree_leaf (tree_if tree_leaf tree_leaf)) (tree_if (tree_if tree_leaf (tree_if tree_leaf (tree_if tree_leaf tree_leaf))) (tree_if (tree_if tree_leaf tree_leaf) (tree_if tree_leaf tree_leaf)))) tree_leaf) hk
def step17_3f (c : Ct) (x10 x56 x57 x138 x139 : Int) (rows : Nat → List Int) (NX : Nat) : Option (S17 ⊕ T) :=
 (if decide (x139 < x138) then (if (c.line ((rows x10.toNat).getD x139.toNat 0).toNat).mass != shI (c.line x57.toNat).mass (↑(rows x57.toNat).length : Int) x139.toNat then (if allT (g17_3f_1 c x10 x56 x57 x138 x139 rows NX) then some (.inr ((T.int .i64 38))) else none) else (if allT (g17_3f_2 c x10 x56 x57 x138 x139 rows NX) then some (.inl (.l3f x10 x56 x57 x138 (IntKind.i64.wrap (x139 + 1)) rows NX)) else none)) else (if allT (g17_3f_3 c x10 x56 x57 x138 x139 rows NX) then some (.inl (.l2 x56 (IntKind.i64.wrap (x57 + 1)) rows NX)) else none))
def V17_3f (c : Ct) (x10 x56 x57 x138 x139 : Int) (rows : Nat → List Int) (NX : Nat) : S17 ⊕ T :=
 (if decide (x139 < x138) then (if (c.line ((rows x10.toNat).getD x139.toNat 0).toNat).mass != shI (c.line x57.toNat).mass (↑(rows x57.toNat).length : Int) x139.toNat then (.inr ((T.int .i64 38))) else (.inl (.l3f x10 x56 x57 x138 (IntKind.i64.wrap (x139 + 1)) rows NX))) else (.inl (.l2 x56 (IntKind.i64.wrap (x57 + 1)) rows NX)))
def K17_3f (c : Ct) (x10 x56 x57 x138 x139 : Int) (rows : Nat → List Int) (NX : Nat) : Bool :=
 (if decide (x139 < x138) then (if (c.line ((rows x10.toNat).getD x139.toNat 0).toNat).mass != shI (c.line x57.toNat).mass (↑(rows x57.toNat).length : Int) x139.toNat then (allT (g17_3f_1 c x10 x56 x57 x138 x139 rows NX)) else (allT (g17_3f_2 c x10 x56 x57 x138 x139 rows NX))) else (allT (g17_3f_3 c x10 x56 x57 x138 x139 rows NX)))
theorem T17_3f (c : Ct) (x10 x56 x57 x138 x139 : Int) (rows : Nat → List Int) (NX : Nat) (hk : K17_3f c x10 x56 x57 x138 x139 rows NX = true) : step17_3f c x10 x56 x57 x138 x139 rows NX = some (V17_3f c x10 x56 x57 x138 x139 rows NX) :=
 (tree_if (tree_if tree_leaf tree_leaf) tree_leaf) hk
def step17_3n0_0 (c : Ct) (x10 x56 x57 : Int) (rows : Nat → List Int) (NX : Nat) : Option (S17 ⊕ T) :=
 (if allT (g17_3n0_0_1 c x10 x56 x57 rows NX) then some (.inl (.l2 x56 (IntKind.i64.wrap (x57 + 1)) rows NX)) else none)
def V17_3n0_0 (c : Ct) (x10 x56 x57 : Int) (rows : Nat → List Int) (NX : Nat) : S17 ⊕ T :=
 (.inl (.l2 x56 (IntKind.i64.wrap (x57 + 1)) rows NX))
def K17_3n0_0 (c : Ct) (x10 x56 x57 : Int) (rows : Nat → List Int) (NX : Nat) : Bool :=
 (allT (g17_3n0_0_1 c x10 x56 x57 rows NX))
theorem T17_3n0_0 (c : Ct) (x10 x56 x57 : Int) (rows : Nat → List Int) (NX : Nat) (hk : K17_3n0_0 c x10 x56 x57 rows NX = true) : step17_3n0_0 c x10 x56 x57 rows NX = some (V17_3n0_0 c x10 x56 x57 rows NX) :=
 tree_leaf hk
def step17_3s1_0 (c : Ct) (x10 x56 x57 : Int) (rows : Nat → List Int) (NX : Nat) : Option (S17 ⊕ T) :=
 (if (c.line ((rows x10.toNat).getD 0 0).toNat).mass != (c.line x57.toNat).mass then (if allT (g17_3s1_0_1 c x10 x56 x57 rows NX) then some (.inr ((T.int .i64 38))) else none) else (if allT (g17_3s1_0_2 c x10 x56 x57 rows NX) then some (.inl (.l3s1_1 x10 x56 x57 rows NX)) else none))
def V17_3s1_0 (c : Ct) (x10 x56 x57 : Int) (rows : Nat → List Int) (NX : Nat) : S17 ⊕ T :=
 (if (c.line ((rows x10.toNat).getD 0 0).toNat).mass != (c.line x57.toNat).mass then (.inr ((T.int .i64 38))) else (.inl (.l3s1_1 x10 x56 x57 rows NX)))
def K17_3s1_0 (c : Ct) (x10 x56 x57 : Int) (rows : Nat → List Int) (NX : Nat) : Bool :=
 (if (c.line ((rows x10.toNat).getD 0 0).toNat).mass != (c.line x57.toNat).mass then (allT (g17_3s1_0_1 c x10 x56 x57 rows NX)) else (allT (g17_3s1_0_2 c x10 x56 x57 rows NX)))
theorem T17_3s1_0 (c : Ct) (x10 x56 x57 : Int) (rows : Nat → List Int) (NX : Nat) (hk : K17_3s1_0 c x10 x56 x57 rows NX = true) : step17_3s1_0 c x10 x56 x57 rows NX = some (V17_3s1_0 c x10 x56 x57 rows NX) :=
 (tree_if tree_leaf tree_leaf) hk
def step17_3s1_1 (c : Ct) (x10 x56 x57 : Int) (rows : Nat → List Int) (NX : Nat) : Option (S17 ⊕ T) :=
 (if allT (g17_3s1_1_1 c x10 x56 x57 rows NX) then some (.inl (.l2 x56 (IntKind.i64.wrap (x57 + 1)) rows NX)) else none)
def V17_3s1_1 (c : Ct) (x10 x56 x57 : Int) (rows : Nat → List Int) (NX : Nat) : S17 ⊕ T :=
 (.inl (.l2 x56 (IntKind.i64.wrap (x57 + 1)) rows NX))
def K17_3s1_1 (c : Ct) (x10 x56 x57 : Int) (rows : Nat → List Int) (NX : Nat) : Bool :=
 (allT (g17_3s1_1_1 c x10 x56 x57 rows NX))
theorem T17_3s1_1 (c : Ct) (x10 x56 x57 : Int) (rows : Nat → List Int) (NX : Nat) (hk : K17_3s1_1 c x10 x56 x57 rows NX = true) : step17_3s1_1 c x10 x56 x57 rows NX = some (V17_3s1_1 c x10 x56 x57 rows NX) :=
 tree_leaf hk
def o17 (c : Ct) : Option (S17 ⊕ T) :=
 (if allT (g17_s_1 c) then some (.inl (.l0 (↑c.n : Int) 0 ({ next := 1, objs := [(0, { elem := 37, sz := 1, cells := List.flatMap T.cells (List.replicate c.n T.nils) })] }))) else none)
def V17_s (c : Ct) : S17 ⊕ T :=
 (.inl (.l0 (↑c.n : Int) 0 ({ next := 1, objs := [(0, { elem := 37, sz := 1, cells := List.flatMap T.cells (List.replicate c.n T.nils) })] })))
def K17_s (c : Ct) : Bool :=
 (allT (g17_s_1 c))
theorem T17_s (c : Ct) (hk : K17_s c = true) : o17 c = some (V17_s c) :=
 tree_leaf hk
def step17 (c : Ct) : S17 → Option (S17 ⊕ T)
 | .l0 x22 x23 H => step17_0 c x22 x23 H
 | .l1 x4 x22 x23 x30 x31 H => step17_1 c x4 x22 x23 x30 x31 H
 | .l2 x56 x57 rows NX => step17_2 c x56 x57 rows NX
 | .l3f x10 x56 x57 x138 x139 rows NX => step17_3f c x10 x56 x57 x138 x139 rows NX
 | .l3n0_0 x10 x56 x57 rows NX => step17_3n0_0 c x10 x56 x57 rows NX
 | .l3s1_0 x10 x56 x57 rows NX => step17_3s1_0 c x10 x56 x57 rows NX
 | .l3s1_1 x10 x56 x57 rows NX => step17_3s1_1 c x10 x56 x57 rows NX
def M17 (c : Ct) : Mch S17 where
 lp := fun σ => match σ with
  | .l0 .. => 0
  | .l1 .. => 1
  | .l2 .. => 2
  | .l3f .. => 3
  | .l3n0_0 .. => 3
  | .l3s1_0 .. => 3
  | .l3s1_1 .. => 3
 keep := fun ι => match ι with
  | 0 => [1, 3, 21, 22, 23]
  | 1 => [1, 3, 4, 21, 22, 23, 29, 30, 31]
  | 2 => [1, 3, 55, 56, 57]
  | 3 => [1, 3, 10, 55, 56, 57, 137, 138, 139]
  | _ => []
 par := fun ι => match ι with
  | 0 => []
  | 1 => [0]
  | 2 => []
  | 3 => [2]
  | _ => []
 vs := fun σ => match σ with
  | .l0 x22 x23 H => [(ctT c).ref 0, T.osl 0 1 0 c.n, T.slf false c.n fun i => lnT (c.line i), T.int .i64 x22, T.int .i64 x23]
  | .l1 x4 x22 x23 x30 x31 H => [(ctT c).ref 0, T.osl 0 1 0 c.n, T.int .i64 x4, T.slf false c.n fun i => lnT (c.line i), T.int .i64 x22, T.int .i64 x23, T.slf false (c.line x23.toNat).k fun i => spT ((c.line x23.toNat).from_ i), T.int .i64 x30, T.int .i64 x31]
  | .l2 x56 x57 rows NX => [(ctT c).ref 0, T.slf false c.n fun k => T.slf false (rows k).length fun j => T.int .i64 ((rows k).getD j 0), T.slf false c.n fun i => lnT (c.line i), T.int .i64 x56, T.int .i64 x57]
  | .l3f x10 x56 x57 x138 x139 rows NX => [(ctT c).ref 0, T.slf false c.n fun k => T.slf false (rows k).length fun j => T.int .i64 ((rows k).getD j 0), T.int .i64 x10, T.slf false c.n fun i => lnT (c.line i), T.int .i64 x56, T.int .i64 x57, T.slf false (shN (c.line x57.toNat).mass (↑(rows x57.toNat).length : Int)) fun i => T.int .i64 (shI (c.line x57.toNat).mass (↑(rows x57.toNat).length : Int) i), T.int .i64 x138, T.int .i64 x139]
  | .l3n0_0 x10 x56 x57 rows NX => [(ctT c).ref 0, T.slf false c.n fun k => T.slf false (rows k).length fun j => T.int .i64 ((rows k).getD j 0), T.int .i64 x10, T.slf false c.n fun i => lnT (c.line i), T.int .i64 x56, T.int .i64 x57, T.nils, T.int .i64 0, T.int .i64 0]
  | .l3s1_0 x10 x56 x57 rows NX => [(ctT c).ref 0, T.slf false c.n fun k => T.slf false (rows k).length fun j => T.int .i64 ((rows k).getD j 0), T.int .i64 x10, T.slf false c.n fun i => lnT (c.line i), T.int .i64 x56, T.int .i64 x57, T.sl true [T.int .i64 (c.line x57.toNat).mass], T.int .i64 1, T.int .i64 0]
  | .l3s1_1 x10 x56 x57 rows NX => [(ctT c).ref 0, T.slf false c.n fun k => T.slf false (rows k).length fun j => T.int .i64 ((rows k).getD j 0), T.int .i64 x10, T.slf false c.n fun i => lnT (c.line i), T.int .i64 x56, T.int .i64 x57, T.sl true [T.int .i64 (c.line x57.toNat).mass], T.int .i64 1, T.int .i64 1]
 hp := fun σ => match σ with
  | .l0 _ _ H => H
  | .l1 _ _ _ _ _ H => H
  | .l2 _ _ _ NX => { next := NX, objs := [] }
  | .l3f _ _ _ _ _ _ NX => { next := NX, objs := [] }
  | .l3n0_0 _ _ _ _ NX => { next := NX, objs := [] }
  | .l3s1_0 _ _ _ _ NX => { next := NX, objs := [] }
  | .l3s1_1 _ _ _ _ NX => { next := NX, objs := [] }
 len := 160
 step := step17 c
theorem ways17 (c : Ct) : (M17 c).WaysF prog D15 F17 f35 20 := by
 intro σ o fr h
 cases σ with
 | l0 x22 x23 H =>
  change step17_0 c x22 x23 H = some o at h
  exact (ways_if (ways_leaf fun hk => .inl (.inr ⟨2000, _, _, _, w17_0_1 c x22 x23 H fr, hk, rfl⟩)) (ways_leaf fun hk => by
   rw [Bool.and_eq_true] at hk
   obtain ⟨t0, z1, z2⟩ := rows_frz hk.2
   exact .inr ⟨_, rfl, 2000, _, _, _, _, _, 1, 3, 20, t0, _, w17_0_2 c x22 x23 H fr, hk.1, rfl, z1, z2, rfl, (show 3 < 160 by decide), (show (List.Nodup [1, 3, 55, 56, 57]) by decide), rfl, rfl⟩)) o h
 | l1 x4 x22 x23 x30 x31 H =>
  change step17_1 c x4 x22 x23 x30 x31 H = some o at h
  exact (ways_if (ways_if (ways_leaf fun hk => .inl (.inl ⟨2000, _, _, _, w17_1_1 c x4 x22 x23 x30 x31 H fr, hk, rfl⟩)) (ways_leaf fun hk => .inl (.inl ⟨2000, _, _, _, w17_1_2 c x4 x22 x23 x30 x31 H fr, hk, rfl⟩))) (ways_leaf fun hk => .inl (.inl ⟨2000, _, _, _, w17_1_3 c x4 x22 x23 x30 x31 H fr, hk, rfl⟩))) o h
 | l2 x56 x57 rows NX =>
  change step17_2 c x56 x57 rows NX = some o at h
  exact (ways_if (ways_if (ways_if (ways_leaf fun hk => .inl (⟨2000, _, _, _, _, _, _, w17_2_1 c x56 x57 rows NX fr, hk⟩)) (ways_if (ways_leaf fun hk => .inl (⟨2000, _, _, _, _, _, _, w17_2_2 c x56 x57 rows NX fr, hk⟩)) (ways_leaf fun hk => .inl (.inr ⟨2000, _, _, _, w17_2_3 c x56 x57 rows NX fr, hk, rfl⟩)))) (ways_if (ways_if (ways_leaf fun hk => .inl (⟨2000, _, _, _, _, _, _, w17_2_4 c x56 x57 rows NX fr, hk⟩)) (ways_if (ways_leaf fun hk => .inl (⟨2000, _, _, _, _, _, _, w17_2_5 c x56 x57 rows NX fr, hk⟩)) (ways_if (ways_leaf fun hk => .inl (⟨2000, _, _, _, _, _, _, w17_2_6 c x56 x57 rows NX fr, hk⟩)) (ways_leaf fun hk => .inl (.inr ⟨2000, _, _, _, w17_2_7 c x56 x57 rows NX fr, hk, rfl⟩))))) (ways_if (ways_if (ways_leaf fun hk => .inl (⟨2000, _, _, _, _, _, _, w17_2_8 c x56 x57 rows NX fr, hk⟩)) (ways_leaf fun hk => .inl (.inr ⟨2000, _, _, _, w17_2_9 c x56 x57 rows NX fr, hk, rfl⟩))) (ways_if (ways_leaf fun hk => .inl (⟨2000, _, _, _, _, _, _, w17_2_10 c x56 x57 rows NX fr, hk⟩)) (ways_leaf fun hk => .inl (.inr ⟨2000, _, _, _, w17_2_11 c x56 x57 rows NX fr, hk, rfl⟩)))))) (ways_leaf fun hk => .inl (⟨2000, _, _, _, _, _, _, w17_2_12 c x56 x57 rows NX fr, hk⟩))) o h
 | l3f x10 x56 x57 x138 x139 rows NX =>
  change step17_3f c x10 x56 x57 x138 x139 rows NX = some o at h
  exact (ways_if (ways_if (ways_leaf fun hk => .inl (⟨2000, _, _, _, _, _, _, w17_3f_1 c x10 x56 x57 x138 x139 rows NX fr, hk⟩)) (ways_leaf fun hk => .inl (.inl ⟨2000, _, _, _, w17_3f_2 c x10 x56 x57 x138 x139 rows NX fr, hk, rfl⟩))) (ways_leaf fun hk => .inl (.inl ⟨2000, _, _, _, w17_3f_3 c x10 x56 x57 x138 x139 rows NX fr, hk, rfl⟩))) o h
 | l3n0_0 x10 x56 x57 rows NX =>
  change step17_3n0_0 c x10 x56 x57 rows NX = some o at h
  exact (ways_leaf fun hk => .inl (.inl ⟨2000, _, _, _, w17_3n0_0_1 c x10 x56 x57 rows NX fr, hk, rfl⟩)) o h
 | l3s1_0 x10 x56 x57 rows NX =>
  change step17_3s1_0 c x10 x56 x57 rows NX = some o at h
  exact (ways_if (ways_leaf fun hk => .inl (⟨2000, _, _, _, _, _, _, w17_3s1_0_1 c x10 x56 x57 rows NX fr, hk⟩)) (ways_leaf fun hk => .inl (.inl ⟨2000, _, _, _, w17_3s1_0_2 c x10 x56 x57 rows NX fr, hk, rfl⟩))) o h
 | l3s1_1 x10 x56 x57 rows NX =>
  change step17_3s1_1 c x10 x56 x57 rows NX = some o at h
  exact (ways_leaf fun hk => .inl (.inl ⟨2000, _, _, _, w17_3s1_1_1 c x10 x56 x57 rows NX fr, hk, rfl⟩)) o h
theorem oks17 (c : Ct) : ∀ σ, Ps.codeOk (loopAt f35 ((M17 c).lp σ)).1 = true ∧ ksOk (.lp :: (loopAt f35 ((M17 c).lp σ)).2) = true := oks_of 4 (by kernel_rfl) (by intro σ; cases σ <;> exact Nat.le_of_ble_eq_true rfl)
theorem run17 (c : Ct) {n : Nat} {o : S17 ⊕ T} {r : T} (h : o17 c = some o) (hr : (M17 c).fin n o = some r) : PureFn prog gl 35 [ctT c] r := by
 refine pure_machF (M := (M17 c)) (fn := f35) (k := 20) (d := 8) (c := bodyOf f35) cx17 glFrz (by kernel_rfl) func35 (by kernel_rfl) rfl (by kernel_rfl) (by kernel_rfl) (L := 159) (by kernel_rfl) (ways17 c) (oks17 c) ?_ hr
 exact (ways_leaf fun hk => .inr ⟨2000, _, _, _, w17_s_1 c, hk, rfl⟩) o h
theorem c17 (c : Ct) (n : Nat) {r : T} (hk : K17_s c = true) (hr : (M17 c).fin n (V17_s c) = some r) : PureFn prog gl 35 [ctT c] r := run17 c (T17_s c hk) hr
end
end Go.Proofs.Tryz

/- Rows of rows in the heap: how they grow. -/
namespace Go.Proofs.Tryz
open Go.Ps
structure Rw (n : Nat) (H : Hp) (R : Nat → List Int) (C : List T) (id : Nat → Nat) : Prop where
 top : H.get 0 = some ⟨37, 1, C⟩
 len : C.length = n
 pos : 0 < H.next
 nil : ∀ k, k < n → R k = [] → C.getD k undefT = .nils
 row : ∀ k, k < n → R k ≠ [] → C.getD k undefT = .osl (id k) 1 0 (R k).length ∧ H.get (id k) = some ⟨3, 1, ints (R k)⟩ ∧ 0 < id k ∧ id k < H.next
 sep : ∀ k k', k < n → k' < n → R k ≠ [] → R k' ≠ [] → id k = id k' → k = k'
theorem getD_splice (C : List T) (a k : Nat) (t : T) (ha : a < C.length) : (spliceT C a [t]).getD k undefT = if k = a then t else C.getD k undefT := by
 have e : spliceT C a [t] = C.set a t := by
  unfold spliceT
  rw [List.set_eq_take_append_cons_drop, if_pos ha]
  simp
 rw [e, List.getD_eq_getElem?_getD, List.getD_eq_getElem?_getD, List.getElem?_set]
 by_cases h : a = k
 ·subst h; simp [ha]
 ·rw [if_neg h, if_neg (fun q => h q.symm)]
theorem len_splice (C : List T) (a : Nat) (t : T) (ha : a < C.length) : (spliceT C a [t]).length = C.length := by
 unfold spliceT; simp; omega
theorem Rw.pushN {n : Nat} {H : Hp} {R : Nat → List Int} {C : List T} {id : Nat → Nat} (h : Rw n H R C id) {a : Nat} (ha : a < n) (hr : R a = []) (x : Int) (o : Ob) (ho : o = ⟨37, 1, spliceT C a [.osl H.next 1 0 1]⟩) :
  Rw n ((H.new ⟨3, 1, [.int .i64 x]⟩).put 0 o) (fun k => if k = a then R k ++ [x] else R k) (spliceT C a [.osl H.next 1 0 1]) (fun k => if k = a then H.next else id k) := by
 subst ho
 have hne := h.pos
 have hsome : ((H.new ⟨3, 1, [.int .i64 x]⟩).get 0).isSome = true := by rw [findOb_new, if_neg (by omega), h.top]; rfl
 have hget : ∀ m, ((H.new ⟨3, 1, [.int .i64 x]⟩).put 0 ⟨37, 1, spliceT C a [.osl H.next 1 0 1]⟩).get m = if m = 0 then some ⟨37, 1, spliceT C a [.osl H.next 1 0 1]⟩ else if H.next = m then some ⟨3, 1, [.int .i64 x]⟩ else H.get m := fun m => by
  rw [get_put _ _ _ _ hsome, findOb_new]
 have hlen : a < C.length := by rw [h.len]; exact ha
 refine ⟨by rw [hget, if_pos rfl], by rw [len_splice _ _ _ hlen, h.len], by show 0 < H.next + 1; omega, fun k hk hk0 => ?_, fun k hk hk0 => ?_, fun k k' hk hk' q1 q2 e => ?_⟩
 ·rw [getD_splice _ _ _ _ hlen]
  by_cases e : k = a
  ·rw [if_pos e] at hk0; simp at hk0
  ·rw [if_neg e] at hk0 ⊢; exact h.nil k hk hk0
 ·rw [getD_splice _ _ _ _ hlen, hget]
  by_cases e : k = a
  ·simp only [e, if_true, hr, List.nil_append]
   exact ⟨rfl, by rw [if_neg (by omega)]; rfl, by omega, by show H.next < H.next + 1; omega⟩
  ·simp only [e, if_false] at hk0 ⊢
   obtain ⟨r1, r2, r3, r4⟩ := h.row k hk hk0
   exact ⟨r1, by rw [if_neg (by omega), if_neg (by omega)]; exact r2, r3, by show id k < H.next + 1; omega⟩
 ·by_cases e1 : k = a
  ·by_cases e2 : k' = a
   ·omega
   ·simp only [e1, e2, if_true, if_false] at e q2
    have := (h.row k' hk' q2).2.2.2
    omega
  ·by_cases e2 : k' = a
   ·simp only [e1, e2, if_true, if_false] at e q1
    have := (h.row k hk q1).2.2.2
    omega
   ·simp only [e1, e2, if_false] at e q1 q2
    exact h.sep k k' hk hk' q1 q2 e
theorem Rw.pushO {n : Nat} {H : Hp} {R : Nat → List Int} {C : List T} {id : Nat → Nat} (h : Rw n H R C id) {a : Nat} (ha : a < n) (hr : R a ≠ []) (x : Int) (o : Ob) (ho : o = ⟨37, 1, spliceT C a [.osl H.next 1 0 ((R a).length + 1)]⟩) :
  Rw n (((H.drop (id a)).new ⟨3, 1, ints (R a) ++ [.int .i64 x]⟩).put 0 o) (fun k => if k = a then R k ++ [x] else R k) (spliceT C a [.osl H.next 1 0 ((R a).length + 1)]) (fun k => if k = a then H.next else id k) := by
 subst ho
 have hne := h.pos
 obtain ⟨p1, p2, p3, p4⟩ := h.row a ha hr
 have hnext : (H.drop (id a)).next = H.next := rfl
 have hsome : (((H.drop (id a)).new ⟨3, 1, ints (R a) ++ [.int .i64 x]⟩).get 0).isSome = true := by rw [findOb_new, hnext, if_neg (by omega), get_drop, if_neg (by omega), h.top]; rfl
 have hget : ∀ m, (((H.drop (id a)).new ⟨3, 1, ints (R a) ++ [.int .i64 x]⟩).put 0 ⟨37, 1, spliceT C a [.osl H.next 1 0 ((R a).length + 1)]⟩).get m = if m = 0 then some ⟨37, 1, spliceT C a [.osl H.next 1 0 ((R a).length + 1)]⟩ else if H.next = m then some ⟨3, 1, ints (R a) ++ [.int .i64 x]⟩ else if m = id a then none else H.get m := fun m => by
  rw [get_put _ _ _ _ hsome, findOb_new, hnext, get_drop]
 have hlen : a < C.length := by rw [h.len]; exact ha
 refine ⟨by rw [hget, if_pos rfl], by rw [len_splice _ _ _ hlen, h.len], by show 0 < H.next + 1; omega, fun k hk hk0 => ?_, fun k hk hk0 => ?_, fun k k' hk hk' q1 q2 e => ?_⟩
 ·rw [getD_splice _ _ _ _ hlen]
  by_cases e : k = a
  ·rw [if_pos e] at hk0; simp at hk0
  ·rw [if_neg e] at hk0 ⊢; exact h.nil k hk hk0
 ·rw [getD_splice _ _ _ _ hlen, hget]
  by_cases e : k = a
  ·simp only [e, if_true]
   exact ⟨by simp, by rw [if_neg (by omega)]; simp [ints], by omega, by show H.next < H.next + 1; omega⟩
  ·simp only [e, if_false] at hk0 ⊢
   obtain ⟨r1, r2, r3, r4⟩ := h.row k hk hk0
   have hd : id k ≠ id a := fun q => e (h.sep k a hk ha hk0 hr q)
   exact ⟨r1, by rw [if_neg (by omega), if_neg (by omega), if_neg hd]; exact r2, r3, by show id k < H.next + 1; omega⟩
 ·by_cases e1 : k = a
  ·by_cases e2 : k' = a
   ·omega
   ·simp only [e1, e2, if_true, if_false] at e q2
    have := (h.row k' hk' q2).2.2.2
    omega
  ·by_cases e2 : k' = a
   ·simp only [e1, e2, if_true, if_false] at e q1
    have := (h.row k hk q1).2.2.2
    omega
   ·simp only [e1, e2, if_false] at e q1 q2
    exact h.sep k k' hk hk' q1 q2 e
theorem Rw.ok {n : Nat} {H : Hp} {R : Nat → List Int} {C : List T} {id : Nat → Nat} (h : Rw n H R C id) : rowsOk n H ∧ ∀ k, k < n → rowsOf H k = R k := by
 refine ⟨⟨C, h.top, h.len, fun t ht => ?_⟩, fun k hk => ?_⟩
 ·obtain ⟨k, hk, e⟩ := List.getElem_of_mem ht
  have hk' : k < n := by rw [← h.len]; exact hk
  have e2 : C.getD k undefT = t := by rw [List.getD_eq_getElem?_getD, List.getElem?_eq_getElem hk, e]; rfl
  by_cases hr : R k = []
  ·exact .inl (by rw [← e2]; exact h.nil k hk' hr)
  ·obtain ⟨r1, r2, _⟩ := h.row k hk' hr
   exact .inr ⟨id k, R k, by rw [← e2]; exact r1, r2⟩
 ·have ho : (obv H 0).cells = C := by unfold obv; rw [h.top]
  unfold rowsOf
  rw [ho]
  by_cases hr : R k = []
  ·rw [h.nil k hk hr, hr]; rfl
  ·obtain ⟨r1, r2, _⟩ := h.row k hk hr
   rw [r1, rowT_osl r2]
theorem Rw.start (n : Nat) : Rw n ⟨1, [(0, ⟨37, 1, List.flatMap T.cells (List.replicate n T.nils)⟩)]⟩ (fun _ => []) (List.replicate n T.nils) (fun _ => 0) := by
 have e : List.flatMap T.cells (List.replicate n T.nils) = List.replicate n T.nils := (flat_single _ (by simp [T.isAgg])).1
 refine ⟨by rw [e]; rfl, by simp, by show 0 < 1; omega, fun k hk _ => ?_, fun k _ q => absurd rfl q, fun k _ _ _ q => absurd rfl q⟩
 rw [List.getD_eq_getElem?_getD, List.getElem?_replicate, if_pos hk]
 rfl
end Go.Proofs.Tryz

/- children of the program, first half: the rows. -/
namespace Go.Proofs.Tryz
open Go.Ps
set_option maxRecDepth 100000
def push (R : Nat → List Int) (a : Nat) (x : Int) : Nat → List Int := fun z => if z = a then R z ++ [x] else R z
def rwR (c : Ct) (i : Nat) : Nat → Nat → (Nat → List Int) → (Nat → List Int)
 | 0, _, R => R
 | q + 1, k, R => rwR c i q (k + 1) (push R (ap c ((c.line i).from_ k)) i)
def rwO (c : Ct) : Nat → Nat → (Nat → List Int) → (Nat → List Int)
 | 0, _, R => R
 | q + 1, i, R => rwO c q (i + 1) (rwR c i (c.line i).k 0 R)
def rowsP (c : Ct) : Nat → List Int := rwO c c.n 0 (fun _ => [])
section
variable (c : Ct) (hs : small c) (hl : linked (ap c) c)
include hs hl
theorem st17_1 (i : Nat) (hi : i < c.n) (k : Nat) (hk : k < (c.line i).k) (H : Hp) (R : Nat → List Int) (hR : ∀ z, (R z).length ≤ 40000) (C : List T) (id : Nat → Nat) (hw : Rw c.n H R C id) :
  ∃ H' C' id', (M17 c).step (.l1 i c.n i (c.line i).k k H) = some (.inl (.l1 i c.n i (c.line i).k (k + 1 : Nat) H')) ∧ Rw c.n H' (push R (ap c ((c.line i).from_ k)) i) C' id' := by
 have h1 := hs.1
 have hm := small_modest hs
 obtain ⟨h2, h3, h4⟩ := hs.2 i hi
 have hb := hl i hi k hk
 have b2 : decide ((k : Int) < (c.line i).k) = true := decide_eq_true (by omega)
 have b3 : decide ((0 : Int) ≤ k) = true := decide_eq_true (by omega)
 have b4 : decide ((i : Int) < c.n) = true := decide_eq_true (by omega)
 have b5 : decide ((0 : Int) ≤ i) = true := decide_eq_true (by omega)
 have b6 := wsucc k (by omega)
 have hC : (obv H 0).cells = C := by unfold obv; rw [hw.top]
 have hlen := hw.len
 have hin : obIn H 0 (ap c ((c.line i).from_ k) + 1) = true := by
  unfold obIn; rw [hw.top]; exact decide_eq_true (by simp only; omega)
 have key : K17_1 c i c.n i (c.line i).k k H = true → (M17 c).step (.l1 i c.n i (c.line i).k k H) = some (V17_1 c i c.n i (c.line i).k k H) := fun q => T17_1 c i c.n i (c.line i).k k H q
 unfold V17_1 K17_1 at key
 simp only [Int.toNat_natCast, Nat.zero_add, Nat.mul_one] at key
 rw [if_pos b2, if_pos b2, b6] at key
 unfold ap at hb hin ⊢
 have e0 : g17_1_1 c i c.n i (c.line i).k k H = [true, obIn (H.new { elem := 3, sz := 1, cells := [T.int IntKind.i64 i] }) 0 ((bs c.n fun j => cmpS (c.line j).st ((c.line i).from_ k)) + 1), true, true, decide (((bs c.n fun j => cmpS (c.line j).st ((c.line i).from_ k) : Nat) : Int) < c.n), true, true, true, isNils ((obv H 0).cells.getD (bs c.n fun j => cmpS (c.line j).st ((c.line i).from_ k)) undefT), obIn H 0 ((bs c.n fun j => cmpS (c.line j).st ((c.line i).from_ k)) + 1), true, true, decide (((bs c.n fun j => cmpS (c.line j).st ((c.line i).from_ k) : Nat) : Int) < c.n), true, true, true, true, true, true, true, true, true] := by
  unfold g17_1_1 k17_1_0
  simp only [Int.toNat_natCast, Nat.zero_add, Nat.mul_one, isV_self, lsT, hm, b2, b3]
 have b7 : decide (((bs c.n fun j => cmpS (c.line j).st ((c.line i).from_ k) : Nat) : Int) < c.n) = true := decide_eq_true (by omega)
 rw [hC] at key
 by_cases hr : R (bs c.n fun j => cmpS (c.line j).st ((c.line i).from_ k)) = []
 ·have hc0 := hw.nil _ hb hr
  have hin2 : obIn (H.new { elem := 3, sz := 1, cells := [T.int IntKind.i64 i] }) 0 ((bs c.n fun j => cmpS (c.line j).st ((c.line i).from_ k)) + 1) = true := by
   unfold obIn
   rw [findOb_new, if_neg (by have := hw.pos; omega), hw.top]
   exact decide_eq_true (by simp only; omega)
  rw [hc0] at key
  simp only [isNils, if_true] at key
  have hst := key (by rw [e0, hC, hc0]; simp only [allT, isNils, hin, hin2, b7, Bool.and_true])
  have hob : obv (H.new { elem := 3, sz := 1, cells := [T.int IntKind.i64 i] }) 0 = ⟨37, 1, C⟩ := by
   unfold obv; rw [findOb_new, if_neg (by have := hw.pos; omega), hw.top]
  rw [hob] at hst
  exact ⟨_, _, _, hst, Rw.pushN hw hb hr i _ rfl⟩
 ·obtain ⟨r1, r2, r3, r4⟩ := hw.row _ hb hr
  have hrl := hR (bs c.n fun j => cmpS (c.line j).st ((c.line i).from_ k))
  rw [r1] at key
  simp only [isNils, Bool.false_eq_true, if_false, oslL, oslN] at key
  have ho : (obv H (id (bs c.n fun j => cmpS (c.line j).st ((c.line i).from_ k)))).cells = ints (R (bs c.n fun j => cmpS (c.line j).st ((c.line i).from_ k))) := by unfold obv; rw [r2]
  have hg0 : ∀ o : Ob, ((H.drop (id (bs c.n fun j => cmpS (c.line j).st ((c.line i).from_ k)))).new o).get 0 = some ⟨37, 1, C⟩ := fun o => by
   rw [findOb_new, if_neg (by have := hw.pos; show ¬ H.next = 0; omega), get_drop, if_neg (by omega), hw.top]
  have hst := key (by
   unfold g17_1_2 k17_1_0
   simp only [Int.toNat_natCast, Nat.zero_add, Nat.mul_one, hC, r1, oslL, oslN]
   have c1 : ∀ o : Ob, obIn ((H.drop (id (bs c.n fun j => cmpS (c.line j).st ((c.line i).from_ k)))).new o) 0 ((bs c.n fun j => cmpS (c.line j).st ((c.line i).from_ k)) + 1) = true := fun o => by
    unfold obIn; rw [hg0]; exact decide_eq_true (by simp only; omega)
   have c2 : obApp H (id (bs c.n fun j => cmpS (c.line j).st ((c.line i).from_ k))) 3 1 (R (bs c.n fun j => cmpS (c.line j).st ((c.line i).from_ k))).length = true := by
    unfold obApp; rw [r2]; simp [ints]
   have c3 : roomT ((R (bs c.n fun j => cmpS (c.line j).st ((c.line i).from_ k))).length + 1) 8 = true := by
    unfold roomT; rw [decide_eq_true (by omega), decide_eq_true (by omega)]; rfl
   simp only [allT, isOsl1, isV_self, lsT, hm, hin, c1, c2, c3, b2, b3, b7, Bool.and_true])
  have hob : ∀ o : Ob, obv ((H.drop (id (bs c.n fun j => cmpS (c.line j).st ((c.line i).from_ k)))).new o) 0 = ⟨37, 1, C⟩ := fun o => by
   unfold obv; rw [hg0]
  rw [hob, ho] at hst
  exact ⟨_, _, _, hst, Rw.pushO hw hb hr i _ rfl⟩
end
end Go.Proofs.Tryz

/- children of the program: proved. -/
namespace Go.Proofs.Tryz
open Go.Ps
set_option maxRecDepth 100000
def fq (ks : List Int) (c : Ct) (x : Ln) : Int :=
 if x.fate = 1 then (if ks.length = 0 then 10 else if any ks.length (fun j => ((c.line (ks.getD j 0).toNat).k : Int) != 1) then 10 else if exR (fun j => (c.line (ks.getD j 0).toNat).mass != shI x.mass ks.length j) (shN x.mass ks.length) 0 then 38 else 0)
 else if x.closed = 5 then (if ks.length ≠ 1 then 10 else if any ks.length (fun j => ((c.line (ks.getD j 0).toNat).k : Int) != 1) then 10 else if arr (c.line (ks.getD 0 0).toNat).st = false then 10 else if (c.line (ks.getD 0 0).toNat).mass ≠ x.mass then 38 else 0)
 else if x.fate = 2 then (if ks.length ≠ 1 then 10 else 0)
 else if ks.length > 0 then 10 else 0
section
variable (c : Ct) (hs : small c) (rows : Nat → List Int) (NX i : Nat) (hi : i < c.n) (hr : ∀ z ∈ rows i, 0 ≤ z ∧ z < c.n) (hlen : (rows i).length ≤ 40000)
include hs hi hr hlen
theorem rg (j : Nat) (hj : j < (rows i).length) : 0 ≤ (rows i).getD j 0 ∧ (rows i).getD j 0 < c.n := by
 rw [List.getD_eq_getElem?_getD, List.getElem?_eq_getElem hj]
 exact hr _ (List.getElem_mem hj)
theorem K17_2_ok : K17_2 c c.n i rows NX = true := by
 have h1 := hs.1
 have b4 : decide ((i : Int) < c.n) = true := decide_eq_true (by omega)
 have b5 : decide ((0 : Int) ≤ i) = true := decide_eq_true (by omega)
 have b6 : decide ((rows i).length ≤ 281474976710656) = true := decide_eq_true (by omega)
 have b7 : decide (∀ j, j < (rows i).length → 0 ≤ (rows i).getD j 0 ∧ (rows i).getD j 0 < (c.n : Int)) = true := decide_eq_true (fun j hj => rg c hs rows i hi hr hlen j hj)
 unfold K17_2
 by_cases hl1 : (rows i).length = 1
 ·obtain ⟨q1, q2⟩ := rg c hs rows i hi hr hlen 0 (by omega)
  have b8 := decide_eq_true q1
  have b9 := decide_eq_true q2
  have b10 : decide ((0 : Int) < (rows i).length) = true := decide_eq_true (by omega)
  repeat' (refine tree_eq (fun _ => ?_) (fun _ => ?_))
  all_goals (simp only [g17_2_1, g17_2_2, g17_2_3, g17_2_4, g17_2_5, g17_2_6, g17_2_7, g17_2_8, g17_2_9, g17_2_10, g17_2_11, g17_2_12, Int.toNat_natCast, k17_2_1, k17_2_0, k17_2_2, k17_2_3, k17_2_4, k17_2_5, k17_2_7, k17_2_6, k17_2_8] at *; first | (simp only [*, allT, isT, isV_self, decide_true, Bool.not_false, Bool.not_true, Bool.and_true]; done) | simp_all [allT, isT])
 ·have hl2 : (((rows i).length : Int) != 1) = true := by simp; omega
  repeat' (refine tree_eq (fun _ => ?_) (fun _ => ?_))
  all_goals (simp only [g17_2_1, g17_2_2, g17_2_3, g17_2_4, g17_2_5, g17_2_6, g17_2_7, g17_2_8, g17_2_9, g17_2_10, g17_2_11, g17_2_12, Int.toNat_natCast, k17_2_1, k17_2_0, k17_2_2, k17_2_3, k17_2_4, k17_2_5, k17_2_7, k17_2_6, k17_2_8] at *; first | (simp only [*, allT, isT, isV_self, decide_true, Bool.not_false, Bool.not_true, Bool.and_true]; done) | simp_all [allT, isT])
theorem back17 (σ : S17) (hσ : σ = .l3n0_0 i c.n i rows NX ∨ σ = .l3s1_1 i c.n i rows NX) : (M17 c).step σ = some (.inl (.l2 c.n (i + 1 : Nat) rows NX)) := by
 have h1 := hs.1
 rcases hσ with rfl | rfl
 ·show step17_3n0_0 c i c.n i rows NX = _
  rw [T17_3n0_0 c i c.n i rows NX (by unfold K17_3n0_0; simp [g17_3n0_0_1, allT])]
  unfold V17_3n0_0
  rw [wsucc i (by omega)]
 ·show step17_3s1_1 c i c.n i rows NX = _
  rw [T17_3s1_1 c i c.n i rows NX (by unfold K17_3s1_1; simp [g17_3s1_1_1, allT])]
  unfold V17_3s1_1
  first | done | rw [wsucc i (by omega)]
theorem st17_3s (h1l : (rows i).length = 1) : (M17 c).step (.l3s1_0 i c.n i rows NX) = some (if (c.line ((rows i).getD 0 0).toNat).mass != (c.line i).mass then .inr (.int .i64 38) else .inl (.l3s1_1 i c.n i rows NX)) := by
 have h1 := hs.1
 obtain ⟨q1, q2⟩ := rg c hs rows i hi hr hlen 0 (by omega)
 have b4 : decide ((i : Int) < c.n) = true := decide_eq_true (by omega)
 have b5 : decide ((0 : Int) ≤ i) = true := decide_eq_true (by omega)
 have b8 := decide_eq_true q1
 have b9 := decide_eq_true q2
 have b10 : decide ((0 : Int) < (rows i).length) = true := decide_eq_true (by omega)
 show step17_3s1_0 c i c.n i rows NX = _
 rw [T17_3s1_0 c i c.n i rows NX ?_]
 ·rfl
 ·unfold K17_3s1_0
  refine tree_eq (fun e => ?_) (fun e => ?_)
  all_goals (simp only [g17_3s1_0_1, g17_3s1_0_2, Int.toNat_natCast, k17_3s1_0_0] at *; simp only [e, allT, isV_self, b4, b5, b8, b9, b10, decide_true, Bool.not_false, Bool.and_true])
theorem st17_3f (k : Nat) (hk : k < shN (c.line i).mass (rows i).length) : (M17 c).step (.l3f i c.n i (shN (c.line i).mass (rows i).length : Nat) k rows NX) = some (if (c.line ((rows i).getD k 0).toNat).mass != shI (c.line i).mass (rows i).length k then .inr (.int .i64 38) else .inl (.l3f i c.n i (shN (c.line i).mass (rows i).length : Nat) (k + 1 : Nat) rows NX)) := by
 have h1 := hs.1
 have hk2 : k < (rows i).length := by
  unfold shN at hk
  split at hk <;> omega
 obtain ⟨q1, q2⟩ := rg c hs rows i hi hr hlen k hk2
 have b1 : decide ((k : Int) < (shN (c.line i).mass (rows i).length : Nat)) = true := decide_eq_true (by omega)
 have b2 : decide ((k : Int) < (rows i).length) = true := decide_eq_true (by omega)
 have b3 : decide ((0 : Int) ≤ k) = true := decide_eq_true (by omega)
 have b4 : decide ((i : Int) < c.n) = true := decide_eq_true (by omega)
 have b5 : decide ((0 : Int) ≤ i) = true := decide_eq_true (by omega)
 have b8 := decide_eq_true q1
 have b9 := decide_eq_true q2
 show step17_3f c i c.n i (shN (c.line i).mass (rows i).length : Nat) k rows NX = _
 rw [T17_3f c i c.n i (shN (c.line i).mass (rows i).length : Nat) k rows NX ?_]
 ·congr 1
  unfold V17_3f
  simp only [Int.toNat_natCast]
  rw [if_pos b1, wsucc k (by omega)]
 ·unfold K17_3f
  simp only [Int.toNat_natCast]
  rw [if_pos b1]
  refine tree_eq (fun e => ?_) (fun e => ?_)
  all_goals (simp only [g17_3f_1, g17_3f_2, Int.toNat_natCast, k17_3f_0] at *; simp only [e, allT, isV_self, b1, b2, b3, b4, b5, b8, b9, decide_true, Bool.not_false, Bool.and_true])
theorem st17_3fe : (M17 c).step (.l3f i c.n i (shN (c.line i).mass (rows i).length : Nat) (shN (c.line i).mass (rows i).length : Nat) rows NX) = some (.inl (.l2 c.n (i + 1 : Nat) rows NX)) := by
 have h1 := hs.1
 show step17_3f c i c.n i (shN (c.line i).mass (rows i).length : Nat) (shN (c.line i).mass (rows i).length : Nat) rows NX = _
 rw [T17_3f c i c.n i (shN (c.line i).mass (rows i).length : Nat) (shN (c.line i).mass (rows i).length : Nat) rows NX (by unfold K17_3f; simp only [Int.toNat_natCast]; rw [if_neg (by simp)]; simp [g17_3f_3, allT])]
 unfold V17_3f
 simp only [Int.toNat_natCast]
 rw [if_neg (by simp), wsucc i (by omega)]
theorem ln17 (r : T) (hn : Runs (M17 c) (.l2 c.n (i + 1 : Nat) rows NX) r) : Runs (M17 c) (.l2 c.n i rows NX) (if fq (rows i) c (c.line i) ≠ 0 then .int .i64 (fq (rows i) c (c.line i)) else r) := by
 have b4 : decide ((i : Int) < c.n) = true := decide_eq_true (by omega)
 have hst : (M17 c).step (.l2 c.n i rows NX) = some (V17_2 c c.n i rows NX) := T17_2 c c.n i rows NX (K17_2_ok c hs rows NX i hi hr hlen)
 unfold V17_2 at hst
 simp only [Int.toNat_natCast] at hst
 rw [if_pos b4] at hst
 have hf : ∀ (q k : Nat), q + k = shN (c.line i).mass (rows i).length → Runs (M17 c) (.l3f i c.n i (shN (c.line i).mass (rows i).length : Nat) k rows NX) (if exR (fun j => (c.line ((rows i).getD j 0).toNat).mass != shI (c.line i).mass (rows i).length j) q k then .int .i64 38 else r) := by
  intro q
  induction q with
  | zero =>
   intro k hk
   have : k = shN (c.line i).mass (rows i).length := by omega
   subst this
   exact .next (st17_3fe c hs rows NX i hi hr hlen) hn
  | succ q ih =>
   intro k hk
   have hs3 := st17_3f c hs rows NX i hi hr hlen k (by omega)
   rw [exR.eq_2]
   cases h : ((c.line ((rows i).getD k 0).toNat).mass != shI (c.line i).mass (rows i).length k)
   ·rw [h] at hs3; exact .next hs3 (ih (k + 1) (by omega))
   ·rw [h] at hs3; exact .done hs3
 have fin : ∀ (X : Int), fq (rows i) c (c.line i) = X → Runs (M17 c) (.l2 c.n i rows NX) (if X ≠ 0 then .int .i64 X else r) → Runs (M17 c) (.l2 c.n i rows NX) (if fq (rows i) c (c.line i) ≠ 0 then .int .i64 (fq (rows i) c (c.line i)) else r) := by
  rintro X rfl h; exact h
 by_cases e1 : (c.line i).fate = 1
 ·have e1' : ((c.line i).fate == 1) = true := by simp [e1]
  simp only [e1', if_true] at hst
  by_cases e2 : (rows i).length = 0
  ·have e2' : (((rows i).length : Int) == 0) = true := by simp [e2]
   simp only [e2', if_true] at hst
   exact fin 10 (by unfold fq; rw [if_pos e1, if_pos e2]) (.done hst)
  ·have e2' : (((rows i).length : Int) == 0) = false := by rw [beq_eq_false_iff_ne]; omega
   simp only [e2', Bool.false_eq_true, if_false] at hst
   by_cases e3 : any (rows i).length (fun j => ((c.line ((rows i).getD j 0).toNat).k : Int) != 1) = true
   ·simp only [e3, if_true] at hst
    exact fin 10 (by unfold fq; rw [if_pos e1, if_neg e2, if_pos e3]) (.done hst)
   ·simp only [e3, if_false] at hst
    have := Runs.next hst (hf (shN (c.line i).mass (rows i).length) 0 (by omega))
    by_cases e4 : exR (fun j => (c.line ((rows i).getD j 0).toNat).mass != shI (c.line i).mass (rows i).length j) (shN (c.line i).mass (rows i).length) 0 = true
    ·rw [if_pos e4] at this
     exact fin 38 (by unfold fq; rw [if_pos e1, if_neg e2, if_neg e3, if_pos e4]) this
    ·rw [if_neg e4] at this
     exact fin 0 (by unfold fq; rw [if_pos e1, if_neg e2, if_neg e3, if_neg e4]) this
 ·have e1' : ((c.line i).fate == 1) = false := by simp [e1]
  simp only [e1', Bool.false_eq_true, if_false] at hst
  by_cases e2 : (c.line i).closed = 5
  ·have e2' : ((c.line i).closed == 5) = true := by simp [e2]
   simp only [e2', if_true] at hst
   by_cases e3 : (rows i).length = 1
   ·have e3' : (((rows i).length : Int) != 1) = false := by simp [e3]
    simp only [e3', Bool.false_eq_true, if_false] at hst
    by_cases e4 : any (rows i).length (fun j => ((c.line ((rows i).getD j 0).toNat).k : Int) != 1) = true
    ·simp only [e4, if_true] at hst
     exact fin 10 (by unfold fq; rw [if_neg e1, if_pos e2, if_neg (by simp [e3]), if_pos e4]) (.done hst)
    ·simp only [e4, if_false] at hst
     by_cases e5 : arr (c.line ((rows i).getD 0 0).toNat).st = false
     ·simp only [e5, Bool.not_false, if_true] at hst
      exact fin 10 (by unfold fq; rw [if_neg e1, if_pos e2, if_neg (by simp [e3]), if_neg e4, if_pos e5]) (.done hst)
     ·have e5' : arr (c.line ((rows i).getD 0 0).toNat).st = true := by simpa using e5
      simp only [e5', Bool.not_true, Bool.false_eq_true, if_false] at hst
      have hs3 := st17_3s c hs rows NX i hi hr hlen e3
      by_cases e6 : (c.line ((rows i).getD 0 0).toNat).mass = (c.line i).mass
      ·have e6' : ((c.line ((rows i).getD 0 0).toNat).mass != (c.line i).mass) = false := bne_eq_false_iff_eq.2 e6
       rw [e6'] at hs3
       exact fin 0 (by unfold fq; rw [if_neg e1, if_pos e2, if_neg (by simp [e3]), if_neg e4, if_neg e5, if_neg (fun q => q e6)]) (.next hst (.next hs3 (.next (back17 c hs rows NX i hi hr hlen _ (.inr rfl)) hn)))
      ·have e6' : ((c.line ((rows i).getD 0 0).toNat).mass != (c.line i).mass) = true := bne_iff_ne.2 e6
       rw [e6'] at hs3
       exact fin 38 (by unfold fq; rw [if_neg e1, if_pos e2, if_neg (by simp [e3]), if_neg e4, if_neg e5, if_pos e6]) (.next hst (.done hs3))
   ·have e3' : (((rows i).length : Int) != 1) = true := by simp; omega
    simp only [e3', if_true] at hst
    exact fin 10 (by unfold fq; rw [if_neg e1, if_pos e2, if_pos e3]) (.done hst)
  ·have e2' : ((c.line i).closed == 5) = false := by simp [e2]
   simp only [e2', Bool.false_eq_true, if_false] at hst
   by_cases e3 : (c.line i).fate = 2
   ·have e3' : ((c.line i).fate == 2) = true := by simp [e3]
    simp only [e3', if_true] at hst
    by_cases e4 : (rows i).length = 1
    ·have e4' : (((rows i).length : Int) != 1) = false := by simp [e4]
     simp only [e4', Bool.false_eq_true, if_false] at hst
     exact fin 0 (by unfold fq; rw [if_neg e1, if_neg e2, if_pos e3, if_neg (by simp [e4])]) (.next hst (.next (back17 c hs rows NX i hi hr hlen _ (.inl rfl)) hn))
    ·have e4' : (((rows i).length : Int) != 1) = true := by simp; omega
     simp only [e4', if_true] at hst
     exact fin 10 (by unfold fq; rw [if_neg e1, if_neg e2, if_pos e3, if_pos e4]) (.done hst)
   ·have e3' : ((c.line i).fate == 2) = false := by simp [e3]
    simp only [e3', Bool.false_eq_true, if_false] at hst
    by_cases e4 : (rows i).length > 0
    ·have e4' : decide (((rows i).length : Int) > 0) = true := decide_eq_true (by omega)
     simp only [e4', if_true] at hst
     exact fin 10 (by unfold fq; rw [if_neg e1, if_neg e2, if_neg e3, if_pos e4]) (.done hst)
    ·have e4' : decide (((rows i).length : Int) > 0) = false := decide_eq_false (by omega)
     simp only [e4', Bool.false_eq_true, if_false] at hst
     exact fin 0 (by unfold fq; rw [if_neg e1, if_neg e2, if_neg e3, if_neg e4]) (.next hst (.next (back17 c hs rows NX i hi hr hlen _ (.inl rfl)) hn))
end
end Go.Proofs.Tryz

/- children of the program: the contract. -/
namespace Go.Proofs.Tryz
open Go.Ps
set_option maxRecDepth 100000
def Rin (n L : Nat) (R : Nat → List Int) : Prop := ∀ z, (R z).length ≤ L ∧ ∀ x ∈ R z, 0 ≤ x ∧ x < n
theorem Rin.push {n L : Nat} {R : Nat → List Int} (h : Rin n L R) (a i : Nat) (hi : i < n) : Rin n (L + 1) (Tryz.push R a i) := by
 intro z
 unfold Tryz.push
 by_cases e : z = a
 ·rw [if_pos e]
  refine ⟨by simp; exact (h z).1, fun x hx => ?_⟩
  rcases List.mem_append.1 hx with q | q
  ·exact (h z).2 x q
  ·simp at q; omega
 ·rw [if_neg e]
  exact ⟨by have := (h z).1; omega, (h z).2⟩
theorem Rin.mono {n L L' : Nat} {R : Nat → List Int} (h : Rin n L R) (hL : L ≤ L') : Rin n L' R := fun z => ⟨Nat.le_trans (h z).1 hL, (h z).2⟩
def chE (R : Nat → List Int) (c : Ct) : Int := fst (fun i => fq (R i) c (c.line i)) c.n 0
theorem fst_congr {e e' : Nat → Int} : ∀ (q i : Nat), (∀ j, i ≤ j → j < i + q → e j = e' j) → fst e q i = fst e' q i
 | 0, _, _ => rfl
 | q + 1, i, h => by
  unfold fst
  rw [h i (by omega) (by omega), fst_congr q (i + 1) (fun j h1 h2 => h j (by omega) (by omega))]
section
variable (c : Ct) (hs : small c) (hl : linked (ap c) c)
include hs
theorem run17_2 (rows : Nat → List Int) (NX : Nat) (hr : ∀ i, i < c.n → (∀ z ∈ rows i, 0 ≤ z ∧ z < c.n) ∧ (rows i).length ≤ 40000) : ∀ (q i : Nat), q + i = c.n → Runs (M17 c) (.l2 c.n i rows NX) (.int .i64 (fst (fun i => fq (rows i) c (c.line i)) q i)) := by
 intro q
 induction q with
 | zero =>
  intro i hi
  have : i = c.n := by omega
  subst this
  refine .done ?_
  show step17_2 c c.n c.n rows NX = _
  rw [T17_2 c c.n c.n rows NX (by unfold K17_2; rw [if_neg (by simp)]; simp [g17_2_12, allT])]
  unfold V17_2
  rw [if_neg (by simp)]
  rfl
 | succ q ih =>
  intro i hi
  have h := hr i (by omega)
  have := ln17 c hs rows NX i (by omega) h.1 h.2 _ (ih (i + 1) (by omega))
  unfold fst
  by_cases e : fq (rows i) c (c.line i) = 0
  ·rw [if_neg (by simp [e])] at this ⊢; exact this
  ·rw [if_pos e] at this ⊢; exact this
include hl
theorem run17_0 (r : T) : ∀ (q i : Nat) (H : Hp) (R : Nat → List Int) (C : List T) (id : Nat → Nat), q + i = c.n → Rw c.n H R C id → Rin c.n (300 * i) R → r = .int .i64 (chE (rwO c q i R) c) → Runs (M17 c) (.l0 c.n i H) r := by
 have hn := hs.1
 intro q
 induction q with
 | zero =>
  intro i H R C id hi hw hR hr
  have : i = c.n := by omega
  subst this
  obtain ⟨w1, w2⟩ := hw.ok
  refine .next (s' := .l2 c.n (0 : Nat) (rowsOf H) H.next) ?_ ?_
  ·show step17_0 c c.n c.n H = _
   rw [T17_0 c c.n c.n H (by unfold K17_0; rw [if_neg (by simp), pB_iff.2 w1]; simp [g17_0_2, allT])]
   unfold V17_0
   rw [if_neg (by simp)]
   rfl
  ·have := run17_2 c hs (rowsOf H) H.next (fun i hi => by rw [w2 i hi]; exact ⟨(hR i).2, by have := (hR i).1; omega⟩) c.n 0 (by omega)
   rw [hr]
   have e : chE (rwO c 0 c.n R) c = fst (fun i => fq (rowsOf H i) c (c.line i)) c.n 0 := by
    unfold chE
    refine fst_congr c.n 0 (fun j _ hj => ?_)
    rw [w2 j (by omega)]
    rfl
   rw [e]
   exact this
 | succ q ih =>
  intro i H R C id hi hw hR hr
  obtain ⟨k10, _, _⟩ := hs.2 i (by omega)
  have inner : ∀ (p k : Nat) (H : Hp) (R : Nat → List Int) (C : List T) (id : Nat → Nat), p + k = (c.line i).k → Rw c.n H R C id → Rin c.n (300 * i + k) R → r = .int .i64 (chE (rwO c q (i + 1) (rwR c i p k R)) c) → Runs (M17 c) (.l1 i c.n i (c.line i).k k H) r := by
   intro p
   induction p with
   | zero =>
    intro k H R C id hk hw hR hr
    have : k = (c.line i).k := by omega
    subst this
    refine .next (s' := .l0 c.n (i + 1 : Nat) H) ?_ (ih (i + 1) H R C id (by omega) hw (hR.mono (by omega)) hr)
    show step17_1 c i c.n i (c.line i).k (c.line i).k H = _
    rw [T17_1 c i c.n i (c.line i).k (c.line i).k H (by unfold K17_1; rw [if_neg (by simp)]; simp [g17_1_3, allT])]
    unfold V17_1
    rw [if_neg (by simp), wsucc i (by omega)]
   | succ p ihp =>
    intro k H R C id hk hw hR hr
    obtain ⟨H', C', id', a, b⟩ := st17_1 c hs hl i (by omega) k (by omega) H R (fun z => by have := (hR z).1; omega) C id hw
    exact .next a (ihp (k + 1) H' _ C' id' (by omega) b (hR.push _ i (by omega)) hr)
  refine .next (s' := .l1 i c.n i (c.line i).k (0 : Nat) H) ?_ (inner (c.line i).k 0 H R C id (by omega) hw (hR.mono (by omega)) hr)
  show step17_0 c c.n i H = _
  have b1 : decide ((i : Int) < c.n) = true := decide_eq_true (by omega)
  have b2 : decide ((0 : Int) ≤ i) = true := decide_eq_true (by omega)
  rw [T17_0 c c.n i H (by unfold K17_0; rw [if_pos b1]; simp only [g17_0_1, allT, b1, b2, Bool.and_true])]
  unfold V17_0
  rw [if_pos b1]
  rfl
theorem children_ok : PureFn prog gl 35 [ctT c] (.int .i64 (chE (rowsP c) c)) := by
 have hn := hs.1
 obtain ⟨n, h⟩ := run17_0 c hs hl _ c.n 0 _ _ _ _ (by omega) (Rw.start c.n) (fun z => ⟨by simp, by simp⟩) rfl
 refine c17 c n ?_ ?_
 ·unfold K17_s
  simp only [g17_s_1, allT, decide_true, decide_eq_true (show c.n * 24 ≤ 70368744177664 by omega), decide_eq_true (show (c.n : Int) ≤ 70368744177664 by omega), Bool.and_true]
 ·unfold V17_s
  exact h
end
end Go.Proofs.Tryz

/- The contracts of the program's rules. -/
namespace Go.Proofs.Tryz
noncomputable section
open Go.Ps
def s14 : List T → Option (T × List Bool)
 | [t] => some (.int .i64 (sizE (ctv t)), [isV t (ctT (ctv t))])
 | _ => none
def s15 : List T → Option (T × List Bool)
 | [t] => some (.int .i64 (formE (ctv t)), [isV t (ctT (ctv t)), pB (small (ctv t))])
 | _ => none
def s16 : List T → Option (T × List Bool)
 | [t] => some (.int .i64 (parE (ctv t)), [isV t (ctT (ctv t)), pB (small (ctv t))])
 | _ => none
def s17 : List T → Option (T × List Bool)
 | [t] => some (.int .i64 (chE (rowsP (ctv t)) (ctv t)), [isV t (ctT (ctv t)), pB (small (ctv t)), pB (linked (ap (ctv t)) (ctv t))])
 | _ => none
def s18 : List T → Option (T × List Bool)
 | [t] => some (.int .i64 (merE (ctv t)), [isV t (ctT (ctv t)), pB (small (ctv t)), pB (linked (ap (ctv t)) (ctv t))])
 | _ => none
def s19 : List T → Option (T × List Bool)
 | [t] => some (.int .i64 (totE (ctv t)), [isV t (ctT (ctv t)), decide ((ctv t).n ≤ 281474976710656)])
 | _ => none
theorem s14_ok (ts : List T) (r : T) (cs : List Bool) (h : s14 ts = some (r, cs)) (k : allT cs = true) : PureFn prog gl 32 ts r := by
 unfold s14 at h; split at h
 ·rename_i t
  cases h
  simp only [allT, Bool.and_true, Bool.and_eq_true, isV_iff, pB_iff, decide_eq_true_eq] at k
  rw [k]; exact size_ok _
 ·cases h
theorem s15_ok (ts : List T) (r : T) (cs : List Bool) (h : s15 ts = some (r, cs)) (k : allT cs = true) : PureFn prog gl 33 ts r := by
 unfold s15 at h; split at h
 ·rename_i t
  cases h
  simp only [allT, Bool.and_true, Bool.and_eq_true, isV_iff, pB_iff, decide_eq_true_eq] at k
  rw [k.1]; exact form_ok _ k.2
 ·cases h
theorem s16_ok (ts : List T) (r : T) (cs : List Bool) (h : s16 ts = some (r, cs)) (k : allT cs = true) : PureFn prog gl 34 ts r := by
 unfold s16 at h; split at h
 ·rename_i t
  cases h
  simp only [allT, Bool.and_true, Bool.and_eq_true, isV_iff, pB_iff, decide_eq_true_eq] at k
  rw [k.1]; exact parents_ok _ k.2
 ·cases h
theorem s17_ok (ts : List T) (r : T) (cs : List Bool) (h : s17 ts = some (r, cs)) (k : allT cs = true) : PureFn prog gl 35 ts r := by
 unfold s17 at h; split at h
 ·rename_i t
  cases h
  simp only [allT, Bool.and_true, Bool.and_eq_true, isV_iff, pB_iff, decide_eq_true_eq] at k
  rw [k.1]; exact children_ok _ k.2.1 k.2.2
 ·cases h
theorem s18_ok (ts : List T) (r : T) (cs : List Bool) (h : s18 ts = some (r, cs)) (k : allT cs = true) : PureFn prog gl 36 ts r := by
 unfold s18 at h; split at h
 ·rename_i t
  cases h
  simp only [allT, Bool.and_true, Bool.and_eq_true, isV_iff, pB_iff, decide_eq_true_eq] at k
  rw [k.1]; exact merges_ok _ k.2.1 k.2.2
 ·cases h
theorem s19_ok (ts : List T) (r : T) (cs : List Bool) (h : s19 ts = some (r, cs)) (k : allT cs = true) : PureFn prog gl 37 ts r := by
 unfold s19 at h; split at h
 ·rename_i t
  cases h
  simp only [allT, Bool.and_true, Bool.and_eq_true, isV_iff, pB_iff, decide_eq_true_eq] at k
  rw [k.1]; exact totals_ok _ k.2
 ·cases h
def D18 : Ed := ⟨gl, (pdAdd 32 s14 (pdAdd 33 s15 (pdAdd 34 s16 (pdAdd 35 s17 (pdAdd 36 s18 (pdAdd 37 s19 D16.pd))))))⟩
theorem cx18 : Cx prog D18 F0 := ⟨follows, (pdAdd_ok (pdAdd_ok (pdAdd_ok (pdAdd_ok (pdAdd_ok (pdAdd_ok cx16.hE s19_ok) s18_ok) s17_ok) s16_ok) s15_ok) s14_ok), F0ok⟩
end
end Go.Proofs.Tryz

/- Check as a machine, by program (gen2). -/
namespace Go.Proofs.Tryz
noncomputable section
open Go.Ps
set_option maxRecDepth 100000
/-! ### 8 -/
inductive S8 where
 | l0u0
 | l0u1
 | l0u2
 | l0u3
 | l0u4
 | l0u5
 | l0u6
def g8_s_1 (c : Ct) : List Bool := []
def g8_0u0_1 (c : Ct) : List Bool := [sizE c != 0, isV (ctT c) (ctT c), true, true, true]
def g8_0u0_2 (c : Ct) : List Bool := [!sizE c != 0, isV (ctT c) (ctT c), true, true, true]
def k8_0u1_0 (c : Ct) : List Bool := [isV (ctT c) (ctT c), pB (small c), true, true, true]
def g8_0u1_1 (c : Ct) : List Bool := (formE c != 0) :: k8_0u1_0 c
def g8_0u1_2 (c : Ct) : List Bool := (!formE c != 0) :: k8_0u1_0 c
def k8_0u2_0 (c : Ct) : List Bool := [isV (ctT c) (ctT c), pB (small c), true, true, true]
def g8_0u2_1 (c : Ct) : List Bool := (parE c != 0) :: k8_0u2_0 c
def g8_0u2_2 (c : Ct) : List Bool := (!parE c != 0) :: k8_0u2_0 c
def k8_0u3_0 (c : Ct) : List Bool := [isV (ctT c) (ctT c), pB (small c), pB (linked (ap c) c), true, true, true]
def g8_0u3_1 (c : Ct) : List Bool := (chE (rowsP c) c != 0) :: k8_0u3_0 c
def g8_0u3_2 (c : Ct) : List Bool := (!chE (rowsP c) c != 0) :: k8_0u3_0 c
def k8_0u4_0 (c : Ct) : List Bool := [isV (ctT c) (ctT c), pB (small c), pB (linked (ap c) c), true, true, true]
def g8_0u4_1 (c : Ct) : List Bool := (merE c != 0) :: k8_0u4_0 c
def g8_0u4_2 (c : Ct) : List Bool := (!merE c != 0) :: k8_0u4_0 c
def k8_0u5_0 (c : Ct) : List Bool := [isV (ctT c) (ctT c), decide (c.n ≤ 281474976710656), true, true, true]
def g8_0u5_1 (c : Ct) : List Bool := (totE c != 0) :: k8_0u5_0 c
def g8_0u5_2 (c : Ct) : List Bool := (!totE c != 0) :: k8_0u5_0 c
def g8_0u6_1 (c : Ct) : List Bool := [true]
def V8_0u0 (c : Ct) : S8 ⊕ T :=
 (if sizE c != 0 then (.inr ((T.int .i64 (sizE c)))) else (.inl (.l0u1)))
def K8_0u0 (c : Ct) : Bool :=
 (if sizE c != 0 then (allT (g8_0u0_1 c)) else (allT (g8_0u0_2 c)))
def step8_0u0 (c : Ct) : Option (S8 ⊕ T) := if K8_0u0 c then some (V8_0u0 c) else none
theorem T8_0u0 (c : Ct) (hk : K8_0u0 c = true) : step8_0u0 c = some (V8_0u0 c) := if_pos hk
def V8_0u1 (c : Ct) : S8 ⊕ T :=
 (if formE c != 0 then (.inr ((T.int .i64 (formE c)))) else (.inl (.l0u2)))
def K8_0u1 (c : Ct) : Bool :=
 (if formE c != 0 then (allT (g8_0u1_1 c)) else (allT (g8_0u1_2 c)))
def step8_0u1 (c : Ct) : Option (S8 ⊕ T) := if K8_0u1 c then some (V8_0u1 c) else none
theorem T8_0u1 (c : Ct) (hk : K8_0u1 c = true) : step8_0u1 c = some (V8_0u1 c) := if_pos hk
def V8_0u2 (c : Ct) : S8 ⊕ T :=
 (if parE c != 0 then (.inr ((T.int .i64 (parE c)))) else (.inl (.l0u3)))
def K8_0u2 (c : Ct) : Bool :=
 (if parE c != 0 then (allT (g8_0u2_1 c)) else (allT (g8_0u2_2 c)))
def step8_0u2 (c : Ct) : Option (S8 ⊕ T) := if K8_0u2 c then some (V8_0u2 c) else none
theorem T8_0u2 (c : Ct) (hk : K8_0u2 c = true) : step8_0u2 c = some (V8_0u2 c) := if_pos hk
def V8_0u3 (c : Ct) : S8 ⊕ T :=
 (if chE (rowsP c) c != 0 then (.inr ((T.int .i64 (chE (rowsP c) c)))) else (.inl (.l0u4)))
def K8_0u3 (c : Ct) : Bool :=
 (if chE (rowsP c) c != 0 then (allT (g8_0u3_1 c)) else (allT (g8_0u3_2 c)))
def step8_0u3 (c : Ct) : Option (S8 ⊕ T) := if K8_0u3 c then some (V8_0u3 c) else none
theorem T8_0u3 (c : Ct) (hk : K8_0u3 c = true) : step8_0u3 c = some (V8_0u3 c) := if_pos hk
def V8_0u4 (c : Ct) : S8 ⊕ T :=
 (if merE c != 0 then (.inr ((T.int .i64 (merE c)))) else (.inl (.l0u5)))
def K8_0u4 (c : Ct) : Bool :=
 (if merE c != 0 then (allT (g8_0u4_1 c)) else (allT (g8_0u4_2 c)))
def step8_0u4 (c : Ct) : Option (S8 ⊕ T) := if K8_0u4 c then some (V8_0u4 c) else none
theorem T8_0u4 (c : Ct) (hk : K8_0u4 c = true) : step8_0u4 c = some (V8_0u4 c) := if_pos hk
def V8_0u5 (c : Ct) : S8 ⊕ T :=
 (if totE c != 0 then (.inr ((T.int .i64 (totE c)))) else (.inl (.l0u6)))
def K8_0u5 (c : Ct) : Bool :=
 (if totE c != 0 then (allT (g8_0u5_1 c)) else (allT (g8_0u5_2 c)))
def step8_0u5 (c : Ct) : Option (S8 ⊕ T) := if K8_0u5 c then some (V8_0u5 c) else none
theorem T8_0u5 (c : Ct) (hk : K8_0u5 c = true) : step8_0u5 c = some (V8_0u5 c) := if_pos hk
def V8_0u6 (c : Ct) : S8 ⊕ T :=
 (.inr ((T.int .i64 0)))
def K8_0u6 (c : Ct) : Bool :=
 (allT (g8_0u6_1 c))
def step8_0u6 (c : Ct) : Option (S8 ⊕ T) := if K8_0u6 c then some (V8_0u6 c) else none
theorem T8_0u6 (c : Ct) (hk : K8_0u6 c = true) : step8_0u6 c = some (V8_0u6 c) := if_pos hk
def V8_s (c : Ct) : S8 ⊕ T :=
 (.inl (.l0u0))
def K8_s (c : Ct) : Bool :=
 (allT (g8_s_1 c))
def step8 (c : Ct) : S8 → Option (S8 ⊕ T)
 | .l0u0 => step8_0u0 c
 | .l0u1 => step8_0u1 c
 | .l0u2 => step8_0u2 c
 | .l0u3 => step8_0u3 c
 | .l0u4 => step8_0u4 c
 | .l0u5 => step8_0u5 c
 | .l0u6 => step8_0u6 c
def M8 (c : Ct) : Mch S8 where
 lp := fun σ => match σ with
  | .l0u0 => 0
  | .l0u1 => 0
  | .l0u2 => 0
  | .l0u3 => 0
  | .l0u4 => 0
  | .l0u5 => 0
  | .l0u6 => 0
 keep := fun ι => match ι with
  | 0 => [1, 6, 7]
  | _ => []
 par := fun ι => match ι with
  | 0 => []
  | _ => []
 vs := fun σ => match σ with
  | .l0u0 => [(ctT c).ref 0, T.agg [T.fn (Fn.func 32) [] [], T.fn (Fn.func 33) [] [], T.fn (Fn.func 34) [] [], T.fn (Fn.func 35) [] [], T.fn (Fn.func 36) [] [], T.fn (Fn.func 37) [] []], T.int .i64 0]
  | .l0u1 => [(ctT c).ref 0, T.agg [T.fn (Fn.func 32) [] [], T.fn (Fn.func 33) [] [], T.fn (Fn.func 34) [] [], T.fn (Fn.func 35) [] [], T.fn (Fn.func 36) [] [], T.fn (Fn.func 37) [] []], T.int .i64 1]
  | .l0u2 => [(ctT c).ref 0, T.agg [T.fn (Fn.func 32) [] [], T.fn (Fn.func 33) [] [], T.fn (Fn.func 34) [] [], T.fn (Fn.func 35) [] [], T.fn (Fn.func 36) [] [], T.fn (Fn.func 37) [] []], T.int .i64 2]
  | .l0u3 => [(ctT c).ref 0, T.agg [T.fn (Fn.func 32) [] [], T.fn (Fn.func 33) [] [], T.fn (Fn.func 34) [] [], T.fn (Fn.func 35) [] [], T.fn (Fn.func 36) [] [], T.fn (Fn.func 37) [] []], T.int .i64 3]
  | .l0u4 => [(ctT c).ref 0, T.agg [T.fn (Fn.func 32) [] [], T.fn (Fn.func 33) [] [], T.fn (Fn.func 34) [] [], T.fn (Fn.func 35) [] [], T.fn (Fn.func 36) [] [], T.fn (Fn.func 37) [] []], T.int .i64 4]
  | .l0u5 => [(ctT c).ref 0, T.agg [T.fn (Fn.func 32) [] [], T.fn (Fn.func 33) [] [], T.fn (Fn.func 34) [] [], T.fn (Fn.func 35) [] [], T.fn (Fn.func 36) [] [], T.fn (Fn.func 37) [] []], T.int .i64 5]
  | .l0u6 => [(ctT c).ref 0, T.agg [T.fn (Fn.func 32) [] [], T.fn (Fn.func 33) [] [], T.fn (Fn.func 34) [] [], T.fn (Fn.func 35) [] [], T.fn (Fn.func 36) [] [], T.fn (Fn.func 37) [] []], T.int .i64 6]
 hp := fun σ => match σ with
  | .l0u0 => ⟨0, []⟩
  | .l0u1 => ⟨0, []⟩
  | .l0u2 => ⟨0, []⟩
  | .l0u3 => ⟨0, []⟩
  | .l0u4 => ⟨0, []⟩
  | .l0u5 => ⟨0, []⟩
  | .l0u6 => ⟨0, []⟩
 len := 17
 step := step8 c
def r8_0u0 (c : Ct)  (fr : List T) (ds : List Bool) : RD Out := (M8 c).rk prog D18 F0 f12 (.l0u0) fr ds
theorem w8_0u0_1 (c : Ct)  (fr : List T) : outK prog f12 20 [] (r8_0u0 c fr [true, true]) = wdn (T.int .i64 (sizE c)) (g8_0u0_1 c) := by kernel_rfl
theorem w8_0u0_2 (c : Ct)  (fr : List T) : (M8 c).wa prog f12 (r8_0u0 c fr [true, false]) 0 (g8_0u0_2 c) (.l0u1) := by unfold Mch.wa; kernel_rfl
def r8_0u1 (c : Ct)  (fr : List T) (ds : List Bool) : RD Out := (M8 c).rk prog D18 F0 f12 (.l0u1) fr ds
theorem w8_0u1_1 (c : Ct)  (fr : List T) : outK prog f12 20 [] (r8_0u1 c fr [true, true]) = wdn (T.int .i64 (formE c)) (g8_0u1_1 c) := by kernel_rfl
theorem w8_0u1_2 (c : Ct)  (fr : List T) : (M8 c).wa prog f12 (r8_0u1 c fr [true, false]) 0 (g8_0u1_2 c) (.l0u2) := by unfold Mch.wa; kernel_rfl
def r8_0u2 (c : Ct)  (fr : List T) (ds : List Bool) : RD Out := (M8 c).rk prog D18 F0 f12 (.l0u2) fr ds
theorem w8_0u2_1 (c : Ct)  (fr : List T) : outK prog f12 20 [] (r8_0u2 c fr [true, true]) = wdn (T.int .i64 (parE c)) (g8_0u2_1 c) := by kernel_rfl
theorem w8_0u2_2 (c : Ct)  (fr : List T) : (M8 c).wa prog f12 (r8_0u2 c fr [true, false]) 0 (g8_0u2_2 c) (.l0u3) := by unfold Mch.wa; kernel_rfl
def r8_0u3 (c : Ct)  (fr : List T) (ds : List Bool) : RD Out := (M8 c).rk prog D18 F0 f12 (.l0u3) fr ds
theorem w8_0u3_1 (c : Ct)  (fr : List T) : outK prog f12 20 [] (r8_0u3 c fr [true, true]) = wdn (T.int .i64 (chE (rowsP c) c)) (g8_0u3_1 c) := by kernel_rfl
theorem w8_0u3_2 (c : Ct)  (fr : List T) : (M8 c).wa prog f12 (r8_0u3 c fr [true, false]) 0 (g8_0u3_2 c) (.l0u4) := by unfold Mch.wa; kernel_rfl
def r8_0u4 (c : Ct)  (fr : List T) (ds : List Bool) : RD Out := (M8 c).rk prog D18 F0 f12 (.l0u4) fr ds
theorem w8_0u4_1 (c : Ct)  (fr : List T) : outK prog f12 20 [] (r8_0u4 c fr [true, true]) = wdn (T.int .i64 (merE c)) (g8_0u4_1 c) := by kernel_rfl
theorem w8_0u4_2 (c : Ct)  (fr : List T) : (M8 c).wa prog f12 (r8_0u4 c fr [true, false]) 0 (g8_0u4_2 c) (.l0u5) := by unfold Mch.wa; kernel_rfl
def r8_0u5 (c : Ct)  (fr : List T) (ds : List Bool) : RD Out := (M8 c).rk prog D18 F0 f12 (.l0u5) fr ds
theorem w8_0u5_1 (c : Ct)  (fr : List T) : outK prog f12 20 [] (r8_0u5 c fr [true, true]) = wdn (T.int .i64 (totE c)) (g8_0u5_1 c) := by kernel_rfl
theorem w8_0u5_2 (c : Ct)  (fr : List T) : (M8 c).wa prog f12 (r8_0u5 c fr [true, false]) 0 (g8_0u5_2 c) (.l0u6) := by unfold Mch.wa; kernel_rfl
theorem w8_0u6_1 (c : Ct)  (fr : List T) : outK prog f12 20 [] ((M8 c).rk prog D18 F0 f12 (.l0u6) fr [false]) = wdn (T.int .i64 0) (g8_0u6_1 c) := by kernel_rfl
theorem w8_s_1 (c : Ct) : (M8 c).wl prog f12 (runK prog D18 F0 2000 (.code (bodyOf f12)) [] 0 ([ctT c] ++ List.replicate 16 undefT) ⟨0, []⟩ [] []) 0 (g8_s_1 c) (.l0u0) := by unfold Mch.wl; kernel_rfl
theorem ways8 (c : Ct) : (M8 c).Ways prog D18 F0 f12 20 := by
 intro σ o fr h
 cases σ with
 | l0u0  =>
  obtain ⟨hk, ho⟩ := kv_some (K := K8_0u0 c) (V := V8_0u0 c) h
  exact (wk_if (kD (w8_0u0_1 c fr)) (kA (w8_0u0_2 c fr) rfl)) hk o ho
 | l0u1  =>
  obtain ⟨hk, ho⟩ := kv_some (K := K8_0u1 c) (V := V8_0u1 c) h
  exact (wk_if (kD (w8_0u1_1 c fr)) (kA (w8_0u1_2 c fr) rfl)) hk o ho
 | l0u2  =>
  obtain ⟨hk, ho⟩ := kv_some (K := K8_0u2 c) (V := V8_0u2 c) h
  exact (wk_if (kD (w8_0u2_1 c fr)) (kA (w8_0u2_2 c fr) rfl)) hk o ho
 | l0u3  =>
  obtain ⟨hk, ho⟩ := kv_some (K := K8_0u3 c) (V := V8_0u3 c) h
  exact (wk_if (kD (w8_0u3_1 c fr)) (kA (w8_0u3_2 c fr) rfl)) hk o ho
 | l0u4  =>
  obtain ⟨hk, ho⟩ := kv_some (K := K8_0u4 c) (V := V8_0u4 c) h
  exact (wk_if (kD (w8_0u4_1 c fr)) (kA (w8_0u4_2 c fr) rfl)) hk o ho
 | l0u5  =>
  obtain ⟨hk, ho⟩ := kv_some (K := K8_0u5 c) (V := V8_0u5 c) h
  exact (wk_if (kD (w8_0u5_1 c fr)) (kA (w8_0u5_2 c fr) rfl)) hk o ho
 | l0u6  =>
  obtain ⟨hk, ho⟩ := kv_some (K := K8_0u6 c) (V := V8_0u6 c) h
  exact (kD (w8_0u6_1 c fr)) hk o ho
theorem oks8 (c : Ct) : ∀ σ, Ps.codeOk (loopAt f12 ((M8 c).lp σ)).1 = true ∧ ksOk (.lp :: (loopAt f12 ((M8 c).lp σ)).2) = true := oks_of 1 (by kernel_rfl) (by intro σ; cases σ <;> exact Nat.le_of_ble_eq_true rfl)
theorem c8 (c : Ct) (n : Nat) {r : T} (hk : K8_s c = true) (hr : (M8 c).fin n (V8_s c) = some r) : PureFn prog gl 12 [ctT c] r :=
 pure_mach (M := (M8 c)) (fn := f12) (k := 20) (d := 8) (c := bodyOf f12) cx18 glFrz (by kernel_rfl) func12 (by kernel_rfl) rfl (by kernel_rfl) (by kernel_rfl) (L := 16) (by kernel_rfl) (ways8 c) (oks8 c) ((kL (w8_s_1 c) rfl) hk _ rfl) hr
end
end Go.Proofs.Tryz

/- Check: the contract. -/
namespace Go.Proofs.Tryz
open Go.Ps
set_option maxRecDepth 100000
theorem fst_zero {e : Nat → Int} : ∀ (q i : Nat), fst e q i = 0 → ∀ j, i ≤ j → j < i + q → e j = 0
 | 0, _, _, j, h1, h2 => by omega
 | q + 1, i, h, j, h1, h2 => by
  unfold fst at h
  by_cases h0 : e i = 0
  ·rw [if_neg (by simp [h0])] at h
   by_cases hj : j = i
   ·rw [hj]; exact h0
   ·exact fst_zero q (i + 1) h j (by omega) (by omega)
  ·rw [if_pos h0] at h; exact absurd h h0
theorem exR_false {p : Nat → Bool} : ∀ (m k : Nat), exR p m k = false → ∀ j, k ≤ j → j < k + m → p j = false
 | 0, _, _, j, h1, h2 => by omega
 | m + 1, k, h, j, h1, h2 => by
  unfold exR at h
  by_cases h0 : p k = true
  ·rw [if_pos h0] at h; cases h
  ·rw [if_neg h0] at h
   by_cases hj : j = k
   ·rw [hj]; simpa using h0
   ·exact exR_false m (k + 1) h j (by omega) (by omega)
theorem te_zero {fnd : Sp → Bool} {c : Ct} {i : Nat} (h : te fnd c i = 0) : (∀ k, k < (c.line i).k → ordBad (c.line i) k = false) ∧ (∀ k, k < (c.line i).k → fnd ((c.line i).from_ k) = true) ∧ ((c.line i).k = 0 → arr (c.line i).st = true ∧ (c.line i).mass = 1048576) := by
 unfold te at h
 split at h
 ·cases h
 ·rename_i h1
  split at h
  ·cases h
  ·rename_i h2
   split at h
   ·cases h
   ·rename_i h3
    refine ⟨fun k hk => exR_false _ 0 (by simpa using h1) k (by omega) (by omega), fun k hk => ?_, fun hk => ?_⟩
    ·have := exR_false _ 0 (by simpa using h2) k (by omega) (by omega)
     simpa using this
    ·constructor
     ·by_cases q : arr (c.line i).st = true
      ·exact q
      ·exact absurd ⟨hk, .inl (by simpa using q)⟩ h3
     ·by_cases q : (c.line i).mass = 1048576
      ·exact q
      ·exact absurd ⟨hk, .inr q⟩ h3
theorem linked_of_par {c : Ct} (h : parE c = 0) : linked (ap c) c := by
 intro i hi k hk
 have h1 := fst_zero c.n 0 h i (by omega) (by omega)
 have h2 := (te_zero h1).2.1 k hk
 unfold fp found at h2
 rw [Bool.and_eq_true, decide_eq_true_eq] at h2
 exact h2.1
noncomputable def CheckE (c : Ct) : Int :=
 if sizE c ≠ 0 then sizE c else if formE c ≠ 0 then formE c else if parE c ≠ 0 then parE c
 else if chE (rowsP c) c ≠ 0 then chE (rowsP c) c else if merE c ≠ 0 then merE c else totE c
theorem Check_ok (c : Ct) (hs : small c) : PureFn prog gl 12 [ctT c] (.int .i64 (CheckE c)) := by
 have hsB : pB (small c) = true := pB_iff.2 hs
 have hn : decide (c.n ≤ 281474976710656) = true := decide_eq_true (by have := hs.1; omega)
 suffices hrun : Runs (M8 c) .l0u0 (.int .i64 (CheckE c)) by
  obtain ⟨n, h⟩ := hrun
  exact c8 c n (by unfold K8_s; simp [g8_s_1, allT]) (by unfold V8_s; exact h)
 unfold CheckE
 have s0 : (M8 c).step .l0u0 = some (V8_0u0 c) := T8_0u0 c (by
  unfold K8_0u0
  refine tree_eq (fun e => ?_) (fun e => ?_) <;> simp only [g8_0u0_1, g8_0u0_2, allT, isV_self, e, Bool.not_false, Bool.and_true])
 have s1 : (M8 c).step .l0u1 = some (V8_0u1 c) := T8_0u1 c (by
  unfold K8_0u1
  refine tree_eq (fun e => ?_) (fun e => ?_) <;> simp only [g8_0u1_1, g8_0u1_2, allT, isV_self, e, hsB, Bool.not_false, Bool.and_true, k8_0u1_0])
 have s2 : (M8 c).step .l0u2 = some (V8_0u2 c) := T8_0u2 c (by
  unfold K8_0u2
  refine tree_eq (fun e => ?_) (fun e => ?_) <;> simp only [g8_0u2_1, g8_0u2_2, allT, isV_self, e, hsB, Bool.not_false, Bool.and_true, k8_0u2_0])
 have s5 : (M8 c).step .l0u5 = some (V8_0u5 c) := T8_0u5 c (by
  unfold K8_0u5
  refine tree_eq (fun e => ?_) (fun e => ?_) <;> simp only [g8_0u5_1, g8_0u5_2, allT, isV_self, e, hn, Bool.not_false, Bool.and_true, k8_0u5_0])
 have s6 : (M8 c).step .l0u6 = some (.inr (.int .i64 0)) := T8_0u6 c (by unfold K8_0u6; simp [g8_0u6_1, allT])
 by_cases h0 : sizE c = 0
 ·have e0 : (sizE c != 0) = false := bne_eq_false_iff_eq.2 h0
  unfold V8_0u0 at s0; rw [e0] at s0
  rw [if_neg (by simp [h0])]
  refine .next s0 ?_
  by_cases h1 : formE c = 0
  ·have e1 : (formE c != 0) = false := bne_eq_false_iff_eq.2 h1
   unfold V8_0u1 at s1; rw [e1] at s1
   rw [if_neg (by simp [h1])]
   refine .next s1 ?_
   by_cases h2 : parE c = 0
   ·have e2 : (parE c != 0) = false := bne_eq_false_iff_eq.2 h2
    unfold V8_0u2 at s2; rw [e2] at s2
    rw [if_neg (by simp [h2])]
    refine .next s2 ?_
    have hlB : pB (linked (ap c) c) = true := pB_iff.2 (linked_of_par h2)
    have s3 : (M8 c).step .l0u3 = some (V8_0u3 c) := T8_0u3 c (by
     unfold K8_0u3
     refine tree_eq (fun e => ?_) (fun e => ?_) <;> simp only [g8_0u3_1, g8_0u3_2, allT, isV_self, e, hsB, hlB, Bool.not_false, Bool.and_true, k8_0u3_0])
    have s4 : (M8 c).step .l0u4 = some (V8_0u4 c) := T8_0u4 c (by
     unfold K8_0u4
     refine tree_eq (fun e => ?_) (fun e => ?_) <;> simp only [g8_0u4_1, g8_0u4_2, allT, isV_self, e, hsB, hlB, Bool.not_false, Bool.and_true, k8_0u4_0])
    by_cases h3 : chE (rowsP c) c = 0
    ·have e3 : (chE (rowsP c) c != 0) = false := bne_eq_false_iff_eq.2 h3
     unfold V8_0u3 at s3; rw [e3] at s3
     rw [if_neg (by simp [h3])]
     refine .next s3 ?_
     by_cases h4 : merE c = 0
     ·have e4 : (merE c != 0) = false := bne_eq_false_iff_eq.2 h4
      unfold V8_0u4 at s4; rw [e4] at s4
      rw [if_neg (by simp [h4])]
      refine .next s4 ?_
      by_cases h5 : totE c = 0
      ·have e5 : (totE c != 0) = false := bne_eq_false_iff_eq.2 h5
       unfold V8_0u5 at s5; rw [e5] at s5
       rw [h5]
       exact .next s5 (.done s6)
      ·have e5 : (totE c != 0) = true := bne_iff_ne.2 h5
       unfold V8_0u5 at s5; rw [e5] at s5
       exact .done s5
     ·have e4 : (merE c != 0) = true := bne_iff_ne.2 h4
      unfold V8_0u4 at s4; rw [e4] at s4
      rw [if_pos h4]; exact .done s4
    ·have e3 : (chE (rowsP c) c != 0) = true := bne_iff_ne.2 h3
     unfold V8_0u3 at s3; rw [e3] at s3
     rw [if_pos h3]; exact .done s3
   ·have e2 : (parE c != 0) = true := bne_iff_ne.2 h2
    unfold V8_0u2 at s2; rw [e2] at s2
    rw [if_pos h2]; exact .done s2
  ·have e1 : (formE c != 0) = true := bne_iff_ne.2 h1
   unfold V8_0u1 at s1; rw [e1] at s1
   rw [if_pos h1]; exact .done s1
 ·have e0 : (sizE c != 0) = true := bne_iff_ne.2 h0
  unfold V8_0u0 at s0; rw [e0] at s0
  rw [if_pos h0]; exact .done s0
end Go.Proofs.Tryz

/- check of the law: the contract. -/
namespace Go.Proofs.Tryz
open Go.Ps
set_option maxRecDepth 100000
section
variable (c : Ct) (hs : small c)
include hs
end
end Go.Proofs.Tryz

/- check of the law: proved. -/
namespace Go.Proofs.Tryz
open Go.Ps
set_option maxRecDepth 100000
theorem fe_zero {c : Ct} {i : Nat} (h : fe c i = 0) : chk (c.line i).st = 0 ∧ (c.line i).st.entry ≤ c.entries ∧ (0 < i → cmpS (c.line (i - 1)).st (c.line i).st < 0) ∧ 0 ≤ (c.line i).mass ∧ (c.line i).mass ≤ 1099511627776 ∧ 0 ≤ (c.line i).fate ∧ (c.line i).fate ≤ 4 ∧ ((c.line i).closed = 0 ∨ ((c.line i).fate = 4 ∧ ((c.line i).closed = 5 ∨ (c.line i).closed = 6))) := by
 unfold fe at h
 split at h
 ·rename_i h1; exact absurd h h1
 ·split at h
  ·cases h
  ·split at h
   ·cases h
   ·split at h
    ·cases h
    ·split at h
     ·cases h
     ·split at h
      ·cases h
      ·rename_i h1 h2 h3 h4 h5 h6
       refine ⟨by simpa using h1, by omega, fun q => ?_, by omega, by omega, by omega, by omega, ?_⟩
       ·by_cases w : cmpS (c.line (i - 1)).st (c.line i).st ≥ 0
        ·exact absurd ⟨q, w⟩ h3
        ·omega
       ·by_cases w : (c.line i).closed = 0
        ·exact .inl w
        ·right
         by_cases v : (c.line i).fate = 4 ∧ ((c.line i).closed = 5 ∨ (c.line i).closed = 6)
         ·exact v
         ·exact absurd ⟨w, v⟩ h6
end Go.Proofs.Tryz

/- The program's check and the law's check answer alike. -/
namespace Go.Proofs.Tryz
open Go.Ps
def inc (c : Ct) : Prop := ∀ i j, i < j → j < c.n → cmpS (c.line i).st (c.line j).st < 0
section
variable {c : Ct} (hi : inc c)
include hi
end
end Go.Proofs.Tryz

/- The contracts of known, small, Check, check. -/
namespace Go.Proofs.Tryz
open Go.Ps
noncomputable def s8 : List T → Option (T × List Bool)
 | [t] => some (.int .i64 (CheckE (ctv t)), [isV t (ctT (ctv t)), pB (small (ctv t))])
 | _ => none
theorem s8_ok (ts : List T) (r : T) (cs : List Bool) (h : s8 ts = some (r, cs)) (k : allT cs = true) : PureFn prog gl 12 ts r := by
 unfold s8 at h; split at h
 ·rename_i t
  cases h
  simp only [allT, Bool.and_true, Bool.and_eq_true, isV_iff, pB_iff] at k
  rw [k.1]; exact Check_ok _ k.2
 ·cases h
noncomputable def D20 : Ed := ⟨gl, pdAdd 5 s6 (pdAdd 12 s8 D18.pd)⟩
theorem cx20 : Cx prog D20 F0 := ⟨follows, pdAdd_ok (pdAdd_ok cx18.hE s8_ok) (fun ts r cs h _ => s6_ok ts r cs h), F0ok⟩
end Go.Proofs.Tryz

/- The contracts that Encode calls. -/
namespace Go.Proofs.Tryz
noncomputable section
open Go.Ps
def s19z : List T → Option (T × List Bool)
 | [t] => some (.tup [.str (txt (spv t)), .int .i64 0], [isV t (spT (spv t)), pb (chk (spv t) = 0)])
 | _ => none
theorem s19z_ok (ts : List T) (r : T) (cs : List Bool) (h : s19z ts = some (r, cs)) (hc : allT cs = true) : PureFn prog gl 19 ts r := by
 unfold s19z at h
 split at h
 ·rename_i t
  cases h
  simp only [allT, Bool.and_true, Bool.and_eq_true, isV_iff, pb_iff] at hc
  obtain ⟨h1, h2⟩ := hc
  have := text_ok (spv t) (by have := (chk_zero h2).2.2.2.1; omega)
  rw [if_pos h2, ← h1] at this
  exact this
 ·cases h
def s20z : List T → Option (T × List Bool)
 | [.str s] => some (.str (hy s), [])
 | _ => none
theorem s20z_ok (ts : List T) (r : T) (cs : List Bool) (h : s20z ts = some (r, cs)) (_ : allT cs = true) : PureFn prog gl 20 ts r := by
 unfold s20z at h
 split at h
 ·cases h; exact hyphen_ok _
 ·cases h
def Lw (H : Hp) (l : Nat) (ts : List T) (s : List UInt8) (H' : Hp) : Prop := EeFn prog gl 15 ts H (.tup []) H' ∧ ∀ B, Bd H l B → Bd H' l (B ++ s)
def lw (H : Hp) (l : Nat) (ts : List T) (s : List UInt8) : Hp := @dite _ (∃ H', Lw H l ts s H') (Classical.propDecidable _) (fun h => Classical.choose h) (fun _ => H)
theorem lw_ok {H : Hp} {l : Nat} {ts : List T} {s : List UInt8} (h : ∃ H', Lw H l ts s H') : Lw H l ts s (lw H l ts s) := by
 unfold lw
 rw [dif_pos h]
 exact Classical.choose_spec h
def e15z : List T → Hp → Option (T × Hp × List Bool)
 | [.str w, .sl true [.int .i64 a, .int .i64 b, .int .i64 c, .int .i64 d, .int .i64 e, .int .i64 f], .nils, .ptr l 0], H =>
  some (.tup [], lw H l [.str w, .sl true [.int .i64 a, .int .i64 b, .int .i64 c, .int .i64 d, .int .i64 e, .int .i64 f], .nils, .ptr l 0] (joinL [32] [w, itoaK a, itoaK b, itoaK c, itoaK d, itoaK e, itoaK f] ++ [10]),
   [pb (∃ H', Lw H l [.str w, .sl true [.int .i64 a, .int .i64 b, .int .i64 c, .int .i64 d, .int .i64 e, .int .i64 f], .nils, .ptr l 0] (joinL [32] [w, itoaK a, itoaK b, itoaK c, itoaK d, itoaK e, itoaK f] ++ [10]) H')])
 | [.str w, .sl true [.int .i64 a, .int .i64 b, .int .i64 c], .sl true [.str p, .str q, .str r], .ptr l 0], H =>
  some (.tup [], lw H l [.str w, .sl true [.int .i64 a, .int .i64 b, .int .i64 c], .sl true [.str p, .str q, .str r], .ptr l 0] (joinL [32] [w, p, itoaK a, itoaK b, itoaK c, q, r] ++ [10]),
   [pb (∃ H', Lw H l [.str w, .sl true [.int .i64 a, .int .i64 b, .int .i64 c], .sl true [.str p, .str q, .str r], .ptr l 0] (joinL [32] [w, p, itoaK a, itoaK b, itoaK c, q, r] ++ [10]) H')])
 | _, _ => none
theorem e15z_ok (ts : List T) (H : Hp) (r : T) (H' : Hp) (cs : List Bool) (h : e15z ts H = some (r, H', cs)) (hc : allT cs = true) : EeFn prog gl 15 ts H r H' := by
 unfold e15z at h
 split at h
 ·cases h
  simp only [allT, Bool.and_true, pb_iff] at hc
  exact (lw_ok hc).1
 ·cases h
  simp only [allT, Bool.and_true, pb_iff] at hc
  exact (lw_ok hc).1
 ·cases h
def bdB (H : Hp) (l : Nat) : List UInt8 := match strX 47 5 [.ptr l 0] H with
 | some (.str s, _) => s
 | _ => []
def bdH (H : Hp) (l : Nat) : Hp := match strX 47 5 [.ptr l 0] H with
 | some (_, H') => H'
 | none => H
def e21z : List T → Hp → Option (T × Hp × List Bool)
 | [.ptr l 0], H => some (.str (bdB H l), bdH H l, [pb (strX 47 5 [.ptr l 0] H = some (.str (bdB H l), bdH H l))])
 | _, _ => none
theorem e21z_ok (ts : List T) (H : Hp) (r : T) (H' : Hp) (cs : List Bool) (h : e21z ts H = some (r, H', cs)) (hc : allT cs = true) : EeFn prog gl 21 ts H r H' := by
 unfold e21z at h
 split at h
 ·cases h
  simp only [allT, Bool.and_true, pb_iff] at hc
  exact str_ee (ρ := lays156_ren) { lays156 with } Builder_Extra_156 (by kernel_rfl) hc
 ·cases h
def D31 : Ed := ⟨gl, pdAdd 19 s19z (pdAdd 20 s20z (pdAdd 16 s16z (pdAddH 18 s18z D20.pd)))⟩
def F7z : Fc := ⟨fun d => d == 5, edAdd 15 e15z (edAdd 21 e21z (fun _ _ _ => none))⟩
theorem cx31 : Cx prog D31 F7z := ⟨follows, pdAdd_ok (pdAdd_ok (pdAdd_ok (pdAddH_ok cx20.hE s18z_ok) s16z_ok) s20z_ok) s19z_ok, edAdd_ok (own := fun _ => false) (edAdd_ok (own := fun _ => false) eeNone_ok e21z_ok _) e15z_ok _⟩
end
end Go.Proofs.Tryz

/- Encode as a machine, by program (gen2). -/
namespace Go.Proofs.Tryz
noncomputable section
open Go.Ps
set_option maxRecDepth 100000
/-! ### 7 -/
inductive S7z where
 | l0 (x39 x40 : Int) (H : Hp)
 | l1n (x39 x40 x52 x53 : Int) (H : Hp)
 | l1o (L N : Nat) (x39 x40 x52 x53 : Int) (H : Hp)
def g7z_s_1 (c : Ct) : List Bool := [CheckE c != 0, isV (ctT c) (ctT c), pB (small c)]
def g7z_s_2 (c : Ct) : List Bool := [pb (Exists (Lw { next := 0 + 1, objs := [(0, { elem := 47, sz := 0, cells := [T.nilp, T.nils] })] } 0 [T.str [98, 97, 108, 97, 110, 99, 101], T.sl true [T.int .i64 c.entries, T.int .i64 c.accepted, T.int .i64 c.delivered, T.int .i64 c.waiting, T.int .i64 c.letters, T.int .i64 c.discarded], T.nils, T.ptr 0 0] (joinL [32] ([98, 97, 108, 97, 110, 99, 101] :: [itoaK c.entries, itoaK c.accepted, itoaK c.delivered, itoaK c.waiting, itoaK c.letters, itoaK c.discarded]) ++ [10]))), !CheckE c != 0, isV (ctT c) (ctT c), pB (small c)]
def g7z_0_1 (c : Ct) (x39 x40 : Int) (H : Hp) : List Bool := [isV (spT (c.line x40.toNat).st) (spT (c.line x40.toNat).st), pb (chk (c.line x40.toNat).st = 0), true, true, decide (0 ≤ x40), decide (x40 < (↑c.n : Int)), true, decide (x40 < x39)]
def g7z_0_2 (c : Ct) (x39 x40 : Int) (H : Hp) : List Bool := [pb (strX 47 5 [T.ptr 0 0] H = some (T.str (bdB H 0), bdH H 0)), !decide (x40 < x39)]
def g7z_1n_1 (c : Ct) (x39 x40 x52 x53 : Int) (H : Hp) : List Bool := [true, true, true, isV (spT ((c.line x40.toNat).from_ x53.toNat)) (spT ((c.line x40.toNat).from_ x53.toNat)), pb (chk ((c.line x40.toNat).from_ x53.toNat) = 0), true, true, decide (0 ≤ x53), decide (x53 < (↑(c.line x40.toNat).k : Int)), true, decide (x53 < x52)]
def g7z_1n_2 (c : Ct) (x39 x40 x52 x53 : Int) (H : Hp) : List Bool := [pb (Exists (Lw H 0 [T.str [108, 105, 110, 101], T.sl true [T.int .i64 (c.line x40.toNat).mass, T.int .i64 (c.line x40.toNat).fate, T.int .i64 (c.line x40.toNat).closed], T.sl true [T.str (txt (c.line x40.toNat).st), T.str (hy (c.line x40.toNat).node), T.str [45]], T.ptr 0 0] (joinL [32] ([108, 105, 110, 101] :: [txt (c.line x40.toNat).st, itoaK (c.line x40.toNat).mass, itoaK (c.line x40.toNat).fate, itoaK (c.line x40.toNat).closed, hy (c.line x40.toNat).node, [45]]) ++ [10]))), !decide (x53 < x52)]
def g7z_1o_1 (c : Ct) (L N : Nat) (x39 x40 x52 x53 : Int) (H : Hp) : List Bool := [true, true, obApp H L 9 1 N, roomT (N + 1) 16, isV (spT ((c.line x40.toNat).from_ x53.toNat)) (spT ((c.line x40.toNat).from_ x53.toNat)), pb (chk ((c.line x40.toNat).from_ x53.toNat) = 0), true, true, decide (0 ≤ x53), decide (x53 < (↑(c.line x40.toNat).k : Int)), true, decide (x53 < x52)]
def g7z_1o_2 (c : Ct) (L N : Nat) (x39 x40 x52 x53 : Int) (H : Hp) : List Bool := [pb (Exists (Lw H 0 [T.str [108, 105, 110, 101], T.sl true [T.int .i64 (c.line x40.toNat).mass, T.int .i64 (c.line x40.toNat).fate, T.int .i64 (c.line x40.toNat).closed], T.sl true [T.str (txt (c.line x40.toNat).st), T.str (hy (c.line x40.toNat).node), T.str (hy (joinL [44] (strv (obv H L).cells)))], T.ptr 0 0] (joinL [32] ([108, 105, 110, 101] :: [txt (c.line x40.toNat).st, itoaK (c.line x40.toNat).mass, itoaK (c.line x40.toNat).fate, itoaK (c.line x40.toNat).closed, hy (c.line x40.toNat).node, hy (joinL [44] (strv (obv H L).cells))]) ++ [10]))), pb (rowS H L N), decide ((joinL [44] (strv (obv H L).cells)).length ≤ 140737488355328), decide (N ≤ 140737488355328), !decide (x53 < x52)]
def V7z_0 (c : Ct) (x39 x40 : Int) (H : Hp) : S7z ⊕ T :=
 (if decide (x40 < x39) then (.inl (.l1n x39 x40 (↑(c.line x40.toNat).k : Int) 0 H)) else (.inr ((T.tup [T.str (bdB H 0), T.int .i64 0]))))
def K7z_0 (c : Ct) (x39 x40 : Int) (H : Hp) : Bool :=
 (if decide (x40 < x39) then (allT (g7z_0_1 c x39 x40 H)) else (allT (g7z_0_2 c x39 x40 H)))
def step7z_0 (c : Ct) (x39 x40 : Int) (H : Hp) : Option (S7z ⊕ T) := if K7z_0 c x39 x40 H then some (V7z_0 c x39 x40 H) else none
theorem T7z_0 (c : Ct) (x39 x40 : Int) (H : Hp) (hk : K7z_0 c x39 x40 H = true) : step7z_0 c x39 x40 H = some (V7z_0 c x39 x40 H) := if_pos hk
def V7z_1n (c : Ct) (x39 x40 x52 x53 : Int) (H : Hp) : S7z ⊕ T :=
 (if decide (x53 < x52) then (.inl (.l1o H.next 1 x39 x40 x52 (IntKind.i64.wrap (x53 + 1)) ({ next := H.next + 1, objs := (H.next, { elem := 9, sz := 1, cells := [T.str (txt ((c.line x40.toNat).from_ x53.toNat))] }) :: H.objs }))) else (.inl (.l0 x39 (IntKind.i64.wrap (x40 + 1)) (lw H 0 [T.str [108, 105, 110, 101], T.sl true [T.int .i64 (c.line x40.toNat).mass, T.int .i64 (c.line x40.toNat).fate, T.int .i64 (c.line x40.toNat).closed], T.sl true [T.str (txt (c.line x40.toNat).st), T.str (hy (c.line x40.toNat).node), T.str [45]], T.ptr 0 0] (joinL [32] ([108, 105, 110, 101] :: [txt (c.line x40.toNat).st, itoaK (c.line x40.toNat).mass, itoaK (c.line x40.toNat).fate, itoaK (c.line x40.toNat).closed, hy (c.line x40.toNat).node, [45]]) ++ [10])))))
def K7z_1n (c : Ct) (x39 x40 x52 x53 : Int) (H : Hp) : Bool :=
 (if decide (x53 < x52) then (allT (g7z_1n_1 c x39 x40 x52 x53 H)) else (allT (g7z_1n_2 c x39 x40 x52 x53 H)))
def step7z_1n (c : Ct) (x39 x40 x52 x53 : Int) (H : Hp) : Option (S7z ⊕ T) := if K7z_1n c x39 x40 x52 x53 H then some (V7z_1n c x39 x40 x52 x53 H) else none
theorem T7z_1n (c : Ct) (x39 x40 x52 x53 : Int) (H : Hp) (hk : K7z_1n c x39 x40 x52 x53 H = true) : step7z_1n c x39 x40 x52 x53 H = some (V7z_1n c x39 x40 x52 x53 H) := if_pos hk
def V7z_1o (c : Ct) (L N : Nat) (x39 x40 x52 x53 : Int) (H : Hp) : S7z ⊕ T :=
 (if decide (x53 < x52) then (.inl (.l1o H.next (N + 1) x39 x40 x52 (IntKind.i64.wrap (x53 + 1)) ({ next := H.next + 1, objs := (H.next, { elem := 9, sz := 1, cells := (obv H L).cells ++ [T.str (txt ((c.line x40.toNat).from_ x53.toNat))] }) :: dropOb H.objs L }))) else (.inl (.l0 x39 (IntKind.i64.wrap (x40 + 1)) (lw H 0 [T.str [108, 105, 110, 101], T.sl true [T.int .i64 (c.line x40.toNat).mass, T.int .i64 (c.line x40.toNat).fate, T.int .i64 (c.line x40.toNat).closed], T.sl true [T.str (txt (c.line x40.toNat).st), T.str (hy (c.line x40.toNat).node), T.str (hy (joinL [44] (strv (obv H L).cells)))], T.ptr 0 0] (joinL [32] ([108, 105, 110, 101] :: [txt (c.line x40.toNat).st, itoaK (c.line x40.toNat).mass, itoaK (c.line x40.toNat).fate, itoaK (c.line x40.toNat).closed, hy (c.line x40.toNat).node, hy (joinL [44] (strv (obv H L).cells))]) ++ [10])))))
def K7z_1o (c : Ct) (L N : Nat) (x39 x40 x52 x53 : Int) (H : Hp) : Bool :=
 (if decide (x53 < x52) then (allT (g7z_1o_1 c L N x39 x40 x52 x53 H)) else (allT (g7z_1o_2 c L N x39 x40 x52 x53 H)))
def step7z_1o (c : Ct) (L N : Nat) (x39 x40 x52 x53 : Int) (H : Hp) : Option (S7z ⊕ T) := if K7z_1o c L N x39 x40 x52 x53 H then some (V7z_1o c L N x39 x40 x52 x53 H) else none
theorem T7z_1o (c : Ct) (L N : Nat) (x39 x40 x52 x53 : Int) (H : Hp) (hk : K7z_1o c L N x39 x40 x52 x53 H = true) : step7z_1o c L N x39 x40 x52 x53 H = some (V7z_1o c L N x39 x40 x52 x53 H) := if_pos hk
def V7z_s (c : Ct) : S7z ⊕ T :=
 (if CheckE c != 0 then (.inr ((T.tup [T.str [], T.int .i64 (CheckE c)]))) else (.inl (.l0 (↑c.n : Int) 0 (lw { next := 0 + 1, objs := [(0, { elem := 47, sz := 0, cells := [T.nilp, T.nils] })] } 0 [T.str [98, 97, 108, 97, 110, 99, 101], T.sl true [T.int .i64 c.entries, T.int .i64 c.accepted, T.int .i64 c.delivered, T.int .i64 c.waiting, T.int .i64 c.letters, T.int .i64 c.discarded], T.nils, T.ptr 0 0] (joinL [32] ([98, 97, 108, 97, 110, 99, 101] :: [itoaK c.entries, itoaK c.accepted, itoaK c.delivered, itoaK c.waiting, itoaK c.letters, itoaK c.discarded]) ++ [10])))))
def K7z_s (c : Ct) : Bool :=
 (if CheckE c != 0 then (allT (g7z_s_1 c)) else (allT (g7z_s_2 c)))
def step7z (c : Ct) : S7z → Option (S7z ⊕ T)
 | .l0 x39 x40 H => step7z_0 c x39 x40 H
 | .l1n x39 x40 x52 x53 H => step7z_1n c x39 x40 x52 x53 H
 | .l1o L N x39 x40 x52 x53 H => step7z_1o c L N x39 x40 x52 x53 H
def M7z (c : Ct) : Mch S7z where
 lp := fun σ => match σ with
  | .l0 .. => 0
  | .l1n .. => 1
  | .l1o .. => 1
 keep := fun ι => match ι with
  | 0 => [5, 6, 38, 39, 40]
  | 1 => [5, 6, 8, 9, 11, 38, 39, 40, 51, 52, 53]
  | _ => []
 par := fun ι => match ι with
  | 0 => []
  | 1 => [0]
  | _ => []
 vs := fun σ => match σ with
  | .l0 x39 x40 H => [T.ptr 0 0, T.fn (Fn.func 15) [] [T.ptr 0 0], T.slf false c.n fun i => lnT (c.line i), T.int .i64 x39, T.int .i64 x40]
  | .l1n x39 x40 x52 x53 H => [T.ptr 0 0, T.fn (Fn.func 15) [] [T.ptr 0 0], (lnT (c.line x40.toNat)).ref 0, T.str (txt (c.line x40.toNat).st), T.nils, T.slf false c.n fun i => lnT (c.line i), T.int .i64 x39, T.int .i64 x40, T.slf false (c.line x40.toNat).k fun i => spT ((c.line x40.toNat).from_ i), T.int .i64 x52, T.int .i64 x53]
  | .l1o L N x39 x40 x52 x53 H => [T.ptr 0 0, T.fn (Fn.func 15) [] [T.ptr 0 0], (lnT (c.line x40.toNat)).ref 0, T.str (txt (c.line x40.toNat).st), T.osl L 1 0 N, T.slf false c.n fun i => lnT (c.line i), T.int .i64 x39, T.int .i64 x40, T.slf false (c.line x40.toNat).k fun i => spT ((c.line x40.toNat).from_ i), T.int .i64 x52, T.int .i64 x53]
 hp := fun σ => match σ with
  | .l0 _ _ H => H
  | .l1n _ _ _ _ H => H
  | .l1o _ _ _ _ _ _ H => H
 len := 86
 step := step7z c
def r7z_0 (c : Ct) (x39 x40 : Int) (H : Hp) (fr : List T) (ds : List Bool) : RD Out := (M7z c).rk prog D31 F7z f7 (.l0 x39 x40 H) fr ds
theorem w7z_0_1 (c : Ct) (x39 x40 : Int) (H : Hp) (fr : List T) : (M7z c).wl prog f7 (r7z_0 c x39 x40 H fr [true]) 0 (g7z_0_1 c x39 x40 H) (.l1n x39 x40 (↑(c.line x40.toNat).k : Int) 0 H) := by unfold Mch.wl; kernel_rfl
theorem w7z_0_2 (c : Ct) (x39 x40 : Int) (H : Hp) (fr : List T) : outK prog f7 20 [] (r7z_0 c x39 x40 H fr [false]) = wdn (T.tup [T.str (bdB H 0), T.int .i64 0]) (g7z_0_2 c x39 x40 H) := by kernel_rfl
def r7z_1n (c : Ct) (x39 x40 x52 x53 : Int) (H : Hp) (fr : List T) (ds : List Bool) : RD Out := (M7z c).rk prog D31 F7z f7 (.l1n x39 x40 x52 x53 H) fr ds
theorem w7z_1n_1 (c : Ct) (x39 x40 x52 x53 : Int) (H : Hp) (fr : List T) : (M7z c).wa prog f7 (r7z_1n c x39 x40 x52 x53 H fr [true]) 0 (g7z_1n_1 c x39 x40 x52 x53 H) (.l1o H.next 1 x39 x40 x52 (IntKind.i64.wrap (x53 + 1)) ({ next := H.next + 1, objs := (H.next, { elem := 9, sz := 1, cells := [T.str (txt ((c.line x40.toNat).from_ x53.toNat))] }) :: H.objs })) := by unfold Mch.wa; kernel_rfl
theorem w7z_1n_2 (c : Ct) (x39 x40 x52 x53 : Int) (H : Hp) (fr : List T) : (M7z c).wa prog f7 (r7z_1n c x39 x40 x52 x53 H fr [false]) 1 (g7z_1n_2 c x39 x40 x52 x53 H) (.l0 x39 (IntKind.i64.wrap (x40 + 1)) (lw H 0 [T.str [108, 105, 110, 101], T.sl true [T.int .i64 (c.line x40.toNat).mass, T.int .i64 (c.line x40.toNat).fate, T.int .i64 (c.line x40.toNat).closed], T.sl true [T.str (txt (c.line x40.toNat).st), T.str (hy (c.line x40.toNat).node), T.str [45]], T.ptr 0 0] (joinL [32] ([108, 105, 110, 101] :: [txt (c.line x40.toNat).st, itoaK (c.line x40.toNat).mass, itoaK (c.line x40.toNat).fate, itoaK (c.line x40.toNat).closed, hy (c.line x40.toNat).node, [45]]) ++ [10]))) := by unfold Mch.wa; kernel_rfl
def r7z_1o (c : Ct) (L N : Nat) (x39 x40 x52 x53 : Int) (H : Hp) (fr : List T) (ds : List Bool) : RD Out := (M7z c).rk prog D31 F7z f7 (.l1o L N x39 x40 x52 x53 H) fr ds
theorem w7z_1o_1 (c : Ct) (L N : Nat) (x39 x40 x52 x53 : Int) (H : Hp) (fr : List T) : (M7z c).wa prog f7 (r7z_1o c L N x39 x40 x52 x53 H fr [true]) 0 (g7z_1o_1 c L N x39 x40 x52 x53 H) (.l1o H.next (N + 1) x39 x40 x52 (IntKind.i64.wrap (x53 + 1)) ({ next := H.next + 1, objs := (H.next, { elem := 9, sz := 1, cells := (obv H L).cells ++ [T.str (txt ((c.line x40.toNat).from_ x53.toNat))] }) :: dropOb H.objs L })) := by unfold Mch.wa; kernel_rfl
theorem w7z_1o_2 (c : Ct) (L N : Nat) (x39 x40 x52 x53 : Int) (H : Hp) (fr : List T) : (M7z c).wa prog f7 (r7z_1o c L N x39 x40 x52 x53 H fr [false]) 1 (g7z_1o_2 c L N x39 x40 x52 x53 H) (.l0 x39 (IntKind.i64.wrap (x40 + 1)) (lw H 0 [T.str [108, 105, 110, 101], T.sl true [T.int .i64 (c.line x40.toNat).mass, T.int .i64 (c.line x40.toNat).fate, T.int .i64 (c.line x40.toNat).closed], T.sl true [T.str (txt (c.line x40.toNat).st), T.str (hy (c.line x40.toNat).node), T.str (hy (joinL [44] (strv (obv H L).cells)))], T.ptr 0 0] (joinL [32] ([108, 105, 110, 101] :: [txt (c.line x40.toNat).st, itoaK (c.line x40.toNat).mass, itoaK (c.line x40.toNat).fate, itoaK (c.line x40.toNat).closed, hy (c.line x40.toNat).node, hy (joinL [44] (strv (obv H L).cells))]) ++ [10]))) := by unfold Mch.wa; kernel_rfl
def r7z_s (c : Ct) (ds : List Bool) : RD Out := runK prog D31 F7z 2000 (.code (bodyOf f7)) [] 0 ([ctT c] ++ List.replicate 85 undefT) ⟨0, []⟩ ds []
theorem w7z_s_1 (c : Ct) : outK prog f7 20 [] (r7z_s c [true]) = wdn (T.tup [T.str [], T.int .i64 (CheckE c)]) (g7z_s_1 c) := by kernel_rfl
theorem w7z_s_2 (c : Ct) : (M7z c).wl prog f7 (r7z_s c [false]) 0 (g7z_s_2 c) (.l0 (↑c.n : Int) 0 (lw { next := 0 + 1, objs := [(0, { elem := 47, sz := 0, cells := [T.nilp, T.nils] })] } 0 [T.str [98, 97, 108, 97, 110, 99, 101], T.sl true [T.int .i64 c.entries, T.int .i64 c.accepted, T.int .i64 c.delivered, T.int .i64 c.waiting, T.int .i64 c.letters, T.int .i64 c.discarded], T.nils, T.ptr 0 0] (joinL [32] ([98, 97, 108, 97, 110, 99, 101] :: [itoaK c.entries, itoaK c.accepted, itoaK c.delivered, itoaK c.waiting, itoaK c.letters, itoaK c.discarded]) ++ [10]))) := by unfold Mch.wl; kernel_rfl
theorem ways7z (c : Ct) : (M7z c).Ways prog D31 F7z f7 20 := by
 intro σ o fr h
 cases σ with
 | l0 x39 x40 H =>
  obtain ⟨hk, ho⟩ := kv_some (K := K7z_0 c x39 x40 H) (V := V7z_0 c x39 x40 H) h
  exact (wk_if (kL (w7z_0_1 c x39 x40 H fr) rfl) (kD (w7z_0_2 c x39 x40 H fr))) hk o ho
 | l1n x39 x40 x52 x53 H =>
  obtain ⟨hk, ho⟩ := kv_some (K := K7z_1n c x39 x40 x52 x53 H) (V := V7z_1n c x39 x40 x52 x53 H) h
  exact (wk_if (kA (w7z_1n_1 c x39 x40 x52 x53 H fr) rfl) (kA (w7z_1n_2 c x39 x40 x52 x53 H fr) rfl)) hk o ho
 | l1o L N x39 x40 x52 x53 H =>
  obtain ⟨hk, ho⟩ := kv_some (K := K7z_1o c L N x39 x40 x52 x53 H) (V := V7z_1o c L N x39 x40 x52 x53 H) h
  exact (wk_if (kA (w7z_1o_1 c L N x39 x40 x52 x53 H fr) rfl) (kA (w7z_1o_2 c L N x39 x40 x52 x53 H fr) rfl)) hk o ho
theorem oks7z (c : Ct) : ∀ σ, Ps.codeOk (loopAt f7 ((M7z c).lp σ)).1 = true ∧ ksOk (.lp :: (loopAt f7 ((M7z c).lp σ)).2) = true := oks_of 2 (by kernel_rfl) (by intro σ; cases σ <;> exact Nat.le_of_ble_eq_true rfl)
theorem c7z (c : Ct) (n : Nat) {r : T} (hk : K7z_s c = true) (hr : (M7z c).fin n (V7z_s c) = some r) : PureFn prog gl 7 [ctT c] r :=
 pure_mach (M := (M7z c)) (fn := f7) (k := 20) (d := 8) (c := bodyOf f7) cx31 glFrz (by kernel_rfl) func7 (by kernel_rfl) rfl (by kernel_rfl) (by kernel_rfl) (L := 85) (by kernel_rfl) (ways7z c) (oks7z c) ((wk_if (kD (w7z_s_1 c)) (kL (w7z_s_2 c) rfl)) hk _ rfl) hr
end
end Go.Proofs.Tryz

/- Encode: the contract. -/
namespace Go.Proofs.Tryz
noncomputable section
open Go.Ps
set_option maxRecDepth 100000
/-! ### equal stamps -/
theorem cmpI_zero {x y : Int} (h : cmpI x y = 0) : x = y := by
 unfold cmpI at h
 split at h
 ·cases h
 ·split at h
  ·cases h
  ·omega
theorem cmpR_zero {n1 n2 : Nat} {f g : Nat → Int} : ∀ (k i : Nat), k + i = n1 → cmpR n1 n2 f g k i = 0 → n2 ≤ n1 ∧ ∀ j, i ≤ j → j < n1 → j < n2 ∧ f j = g j
 | 0, i, hk, h => by
  unfold cmpR at h
  split at h
  ·cases h
  ·exact ⟨by omega, fun j h1 h2 => by omega⟩
 | k + 1, i, hk, h => by
  unfold cmpR at h
  split at h
  ·cases h
  ·split at h
   ·rename_i h1; exact absurd h h1
   ·rename_i h0 h1
    obtain ⟨a, b⟩ := cmpR_zero k (i + 1) (by omega) h
    refine ⟨a, fun j h2 h3 => ?_⟩
    by_cases e : j = i
    ·subst e
     exact ⟨by omega, cmpI_zero (by simpa using h1)⟩
    ·exact b j (by omega) h3
theorem cmpS_zero {a b : Sp} (h : cmpS a b = 0) : a.entry = b.entry ∧ a.n = b.n ∧ ∀ j, j < a.n → a.at_ j = b.at_ j := by
 unfold cmpS at h
 split at h
 ·rename_i h1; exact absurd h h1
 ·rename_i h1
  obtain ⟨h2, h3⟩ := cmpR_zero a.n 0 (by omega) h
  refine ⟨cmpI_zero (by simpa using h1), ?_, fun j hj => (h3 j (by omega) hj).2⟩
  by_cases e : a.n ≤ b.n
  ·omega
  ·have := (h3 b.n (by omega) (by omega)).1; omega
theorem idxR_congr {p q : Nat → Bool} : ∀ (k i : Nat), (∀ j, i ≤ j → j < i + k → p j = q j) → idxR p k i = idxR q k i
 | 0, _, _ => rfl
 | k + 1, i, h => by
  unfold idxR
  rw [h i (by omega) (by omega), idxR_congr k (i + 1) (fun j a b => h j (by omega) (by omega))]
theorem chk_congr {a b : Sp} (h1 : a.entry = b.entry) (h2 : a.n = b.n) (h3 : ∀ j, j < a.n → a.at_ j = b.at_ j) : chk a = chk b := by
 have e1 : any a.n (fun i => bad (a.at_ i)) = any b.n (fun i => bad (b.at_ i)) := by
  unfold any idx
  rw [← h2, idxR_congr a.n 0 (fun j _ hj => by rw [h3 j (by omega)])]
 unfold chk
 rw [e1, h1, h2]
 by_cases n0 : b.n = 0
 ·rw [n0]; rfl
 ·have e2 := h3 0 (by omega)
  by_cases n1 : b.n = 1
  ·rw [e2, n1]; rfl
  ·rw [e2, h3 1 (by omega)]
/-! ### the text -/
def frS (x : Ln) : List (List UInt8) := (List.range x.k).map fun k => txt (x.from_ k)
def lnS (x : Ln) : List UInt8 := joinL [32] ([108, 105, 110, 101] :: [txt x.st, itoaK x.mass, itoaK x.fate, itoaK x.closed, Tryz.hy x.node, Tryz.hy (joinL [44] (frS x))]) ++ [10]
def hdS (c : Ct) : List UInt8 := joinL [32] ([98, 97, 108, 97, 110, 99, 101] :: [itoaK c.entries, itoaK c.accepted, itoaK c.delivered, itoaK c.waiting, itoaK c.letters, itoaK c.discarded]) ++ [10]
def encR (c : Ct) : Nat → List UInt8
 | 0 => hdS c
 | i + 1 => encR c i ++ lnS (c.line i)
def enc (c : Ct) : List UInt8 := encR c c.n
theorem txt_len {s : Sp} (h : s.n ≤ 512) : (txt s).length ≤ 11286 := by
 have h1 := itoaK_len s.entry
 have h2 := joinL_len [46] 21 (pth s) (fun x hx => by obtain ⟨j, _, rfl⟩ := List.mem_map.1 hx; exact itoaK_len _)
 have h3 : (pth s).length = s.n := by simp [pth]
 rw [h3] at h2
 have h4 : s.n * (21 + [46].length) ≤ 512 * 22 := Nat.mul_le_mul h (by simp)
 unfold txt
 simp only [List.length_append, List.length_cons, List.length_nil]
 omega
theorem hy_len (s : List UInt8) : (Tryz.hy s).length ≤ s.length + 1 := by
 unfold Tryz.hy
 split <;> simp
theorem fr_len {xs : List (List UInt8)} (h1 : xs.length ≤ 300) (h2 : ∀ x ∈ xs, x.length ≤ 11286) : (joinL [44] xs).length ≤ 3386100 := by
 have a := joinL_len [44] 11286 xs h2
 have b : xs.length * (11286 + [44].length) ≤ 300 * 11287 := Nat.mul_le_mul h1 (by simp)
 omega
theorem hd_len (c : Ct) : (hdS c).length ≤ 1000 := by
 unfold hdS
 have := itoaK_len
 simp only [joinL, List.length_append, List.length_cons, List.length_nil]
 have h1 := this c.entries; have h2 := this c.accepted; have h3 := this c.delivered; have h4 := this c.waiting; have h5 := this c.letters; have h6 := this c.discarded
 omega
theorem ln_len (x : Ln) (h1 : x.st.n ≤ 512) (h2 : x.node.length ≤ 1000000) (h3 : x.k ≤ 300) (h4 : ∀ k, k < x.k → (x.from_ k).n ≤ 512) : (lnS x).length ≤ 5000000 := by
 unfold lnS
 have a := itoaK_len
 have b := txt_len h1
 have d := hy_len x.node
 have e := fr_len (xs := frS x) (by simp [frS]; omega) (fun y hy => by
  obtain ⟨k, hk, rfl⟩ := List.mem_map.1 hy
  exact txt_len (h4 k (by simpa using hk)))
 have f := hy_len (joinL [44] (frS x))
 simp only [joinL, List.length_append, List.length_cons, List.length_nil]
 have h1 := a x.mass; have h2 := a x.fate; have h3 := a x.closed
 omega
theorem enc_ne (c : Ct) : ∀ i, encR c i ≠ []
 | 0 => by simp [encR, hdS]
 | i + 1 => by
  have := enc_ne c i
  simp [encR, this]
theorem bytesX_u8 : ∀ (B : List UInt8), bytesX (u8s B) = some B
 | [] => rfl
 | x :: r => by
  have := bytesX_u8 r
  unfold u8s at this ⊢
  simp only [List.map_cons, bytesX, this]
  have hx : x.toNat < 256 := x.toNat_lt
  rw [if_pos ⟨by omega, by omega⟩]
  simp
section
variable (c : Ct) (hs : small c) (h0 : CheckE c = 0) (hnd : ∀ i, i < c.n → (c.line i).node.length ≤ 1000000)
include hs h0 hnd
theorem good_of : (∀ i, i < c.n → chk (c.line i).st = 0 ∧ (0 ≤ (c.line i).mass ∧ (c.line i).mass ≤ 1099511627776) ∧ (0 ≤ (c.line i).fate ∧ (c.line i).fate ≤ 4) ∧ (0 ≤ (c.line i).closed ∧ (c.line i).closed ≤ 6)) ∧ ∀ i, i < c.n → ∀ k, k < (c.line i).k → chk ((c.line i).from_ k) = 0 := by
 unfold CheckE at h0
 by_cases g0 : sizE c = 0
 case neg => rw [if_pos g0] at h0; exact absurd h0 g0
 rw [if_neg (by simp [g0])] at h0
 by_cases h2 : formE c = 0
 case neg => rw [if_pos h2] at h0; exact absurd h0 h2
 rw [if_neg (by simp [h2])] at h0
 by_cases h3 : parE c = 0
 case neg => rw [if_pos h3] at h0; exact absurd h0 h3
 have hfe := fun i (hin : i < c.n) => fe_zero (fst_zero c.n 0 h2 i (by omega) (by omega))
 refine ⟨fun i hi => ?_, fun i hi k hk => ?_⟩
 ·have := hfe i hi
  have h8 := this.2.2.2.2.2.2.2
  exact ⟨this.1, ⟨this.2.2.2.1, this.2.2.2.2.1⟩, ⟨this.2.2.2.2.2.1, this.2.2.2.2.2.2.1⟩, by omega⟩
 ·have h1 := (te_zero (fst_zero c.n 0 h3 i (by omega) (by omega))).2.1 k hk
  unfold fp found at h1
  rw [Bool.and_eq_true, decide_eq_true_eq] at h1
  have h4 : cmpS (c.line (bs c.n fun j => cmpS (c.line j).st ((c.line i).from_ k))).st ((c.line i).from_ k) = 0 := by simpa using h1.2
  obtain ⟨e1, e2, e3⟩ := cmpS_zero h4
  rw [← chk_congr e1 e2 e3]
  exact (hfe _ h1.1).1
theorem enc_len : ∀ i, i ≤ c.n → (encR c i).length ≤ 1000 + i * 5000000 := by
 obtain ⟨g1, g2⟩ := good_of c hs h0 hnd
 intro i
 induction i with
 | zero => intro _; have := hd_len c; simpa [encR] using this
 | succ i ih =>
  intro hi
  have h1 := ih (by omega)
  have h2 := ln_len (c.line i) (chk_zero (g1 i (by omega)).1).2.2.2.1 (hnd i (by omega)) (by have := (hs.2 i (by omega)).1; omega) (fun k hk => (chk_zero (g2 i (by omega) k hk)).2.2.2.1)
  rw [encR, List.length_append]
  omega
def AtE (c : Ct) (i : Nat) (σ : S7z) : Prop := ∃ H, σ = .l0 c.n i H ∧ Bd H 0 (encR c i)
def AtF (c : Ct) (i k : Nat) (xs : List (List UInt8)) (σ : S7z) : Prop := (xs = [] ∧ ∃ H, σ = .l1n c.n i (c.line i).k k H ∧ Bd H 0 (encR c i)) ∨ (xs ≠ [] ∧ ∃ L H, σ = .l1o L xs.length c.n i (c.line i).k k H ∧ H.get L = some ⟨9, 1, strs xs⟩ ∧ Bd H 0 (encR c i))
theorem enc_st0 (i : Nat) (hi : i < c.n) (σ : S7z) (h : AtE c i σ) : ∃ σ', (M7z c).step σ = some (.inl σ') ∧ AtF c i 0 [] σ' := by
 obtain ⟨g1, g2⟩ := good_of c hs h0 hnd
 obtain ⟨H, rfl, hB⟩ := h
 have b1 : decide ((i : Int) < c.n) = true := decide_eq_true (by omega)
 have b2 : decide ((0 : Int) ≤ i) = true := decide_eq_true (by omega)
 have b3 := pb_iff.2 (g1 i hi).1
 refine ⟨.l1n c.n i (c.line i).k (0 : Nat) H, ?_, .inl ⟨rfl, H, rfl, hB⟩⟩
 show step7z_0 c c.n i H = _
 rw [T7z_0 c c.n i H (by unfold K7z_0; rw [if_pos b1]; simp only [g7z_0_1, Int.toNat_natCast, allT, isV_self, b1, b2, b3, Bool.and_true])]
 unfold V7z_0
 rw [if_pos b1]
 simp only [Int.toNat_natCast]
 rfl
theorem enc_st1 (i : Nat) (hi : i < c.n) (k : Nat) (hk : k < (c.line i).k) (xs : List (List UInt8)) (hx : xs.length ≤ 300) (σ : S7z) (h : AtF c i k xs σ) : ∃ σ', (M7z c).step σ = some (.inl σ') ∧ AtF c i (k + 1) (xs ++ [txt ((c.line i).from_ k)]) σ' := by
 obtain ⟨g1, g2⟩ := good_of c hs h0 hnd
 have hk3 := (hs.2 i hi).1
 have b1 : decide ((k : Int) < (c.line i).k) = true := decide_eq_true (by omega)
 have b2 : decide ((0 : Int) ≤ k) = true := decide_eq_true (by omega)
 have b3 := pb_iff.2 (g2 i hi k hk)
 have b5 := wsucc k (by omega)
 rcases h with ⟨rfl, H, rfl, hB⟩ | ⟨hne, L, H, rfl, hH, hB⟩
 ·have hst : (M7z c).step (.l1n c.n i (c.line i).k k H) = some (V7z_1n c c.n i (c.line i).k k H) := by
   show step7z_1n c c.n i (c.line i).k k H = _
   refine T7z_1n c c.n i (c.line i).k k H ?_
   unfold K7z_1n
   rw [if_pos b1]
   simp only [g7z_1n_1, Int.toNat_natCast, allT, isV_self, b1, b2, b3, Bool.and_true]
  unfold V7z_1n at hst
  rw [if_pos b1, b5] at hst
  simp only [Int.toNat_natCast] at hst
  refine ⟨_, hst, .inr ⟨by simp, H.next, _, rfl, ?_, Bd_new hB _⟩⟩
  simp [Hp.get, findOb, strs]
 ·have b7 : obApp H L 9 1 xs.length = true := by
   unfold obApp
   rw [hH]
   simp [strs]
  have b8 : roomT (xs.length + 1) 16 = true := by
   unfold roomT
   rw [decide_eq_true (by omega), decide_eq_true (by omega)]
   rfl
  have hst : (M7z c).step (.l1o L xs.length c.n i (c.line i).k k H) = some (V7z_1o c L xs.length c.n i (c.line i).k k H) := by
   show step7z_1o c L xs.length c.n i (c.line i).k k H = _
   refine T7z_1o c L xs.length c.n i (c.line i).k k H ?_
   unfold K7z_1o
   rw [if_pos b1]
   simp only [g7z_1o_1, Int.toNat_natCast, allT, isV_self, b1, b2, b3, b7, b8, Bool.and_true]
  unfold V7z_1o at hst
  rw [if_pos b1, b5] at hst
  simp only [Int.toNat_natCast] at hst
  rw [obv_eq hH] at hst
  refine ⟨_, hst, .inr ⟨by simp, H.next, (H.drop L).new ⟨9, 1, strs xs ++ [T.str (txt ((c.line i).from_ k))]⟩, by simp; rfl, ?_, Bd_new (Bd_drop hB hH) _⟩⟩
  rw [get_new, if_pos (show H.next = (H.drop L).next from rfl)]
  simp [strs]
theorem enc_st2 (i : Nat) (hi : i < c.n) (σ : S7z) (h : AtF c i (c.line i).k (frS (c.line i)) σ) : ∃ σ', (M7z c).step σ = some (.inl σ') ∧ AtE c (i + 1) σ' := by
 obtain ⟨g1, g2⟩ := good_of c hs h0 hnd
 have hn := hs.1
 have hk3 := (hs.2 i hi).1
 obtain ⟨z0, z1, z2, z3⟩ := g1 i hi
 have hlen := enc_len c hs h0 hnd i (by omega)
 have hfl : (frS (c.line i)).length = (c.line i).k := by simp [frS]
 have htx : ∀ y ∈ frS (c.line i), y.length ≤ 11286 := fun y hy => by
  obtain ⟨k, hk, rfl⟩ := List.mem_map.1 hy
  exact txt_len (chk_zero (g2 i hi k (by simpa using hk))).2.2.2.1
 have hj := fr_len (xs := frS (c.line i)) (by omega) htx
 have hr : ∀ z ∈ [(c.line i).mass, (c.line i).fate, (c.line i).closed], -9223372036854775808 ≤ z ∧ z ≤ 9223372036854775807 := by
  intro z hz
  simp only [List.mem_cons, List.not_mem_nil, or_false] at hz
  rcases hz with rfl | rfl | rfl <;> omega
 have hw1 := txt_len (chk_zero z0).2.2.2.1
 have hw2 := hy_len (c.line i).node
 have hw3 := hy_len (joinL [44] (frS (c.line i)))
 have hw4 := hnd i hi
 have b1 : decide (((c.line i).k : Int) < (c.line i).k) = false := decide_eq_false (by omega)
 have b5 := wsucc i (by omega)
 have ex : ∀ H, Bd H 0 (encR c i) → ∃ H', Lw H 0 [.str [108, 105, 110, 101], .sl true [.int .i64 (c.line i).mass, .int .i64 (c.line i).fate, .int .i64 (c.line i).closed], .sl true [.str (txt (c.line i).st), .str (Tryz.hy (c.line i).node), .str (Tryz.hy (joinL [44] (frS (c.line i))))], .ptr 0 0] (lnS (c.line i)) H' := by
  intro H hB
  obtain ⟨H', q1, q2⟩ := lineB_ex hB [108, 105, 110, 101] (c.line i).mass (c.line i).fate (c.line i).closed (txt (c.line i).st) (Tryz.hy (c.line i).node) (Tryz.hy (joinL [44] (frS (c.line i)))) hr ⟨by simp, by omega, by omega, by omega⟩ (by omega)
  exact ⟨H', q1, fun B hB' => by rw [Bd_inj hB' hB]; exact q2⟩
 rcases h with ⟨hx, H, rfl, hB⟩ | ⟨hne, L, H, rfl, hH, hB⟩
 ·have ex1 := ex H hB
  have e1 : Tryz.hy (joinL [44] (frS (c.line i))) = [45] := by rw [hx]; rfl
  have e2 : lnS (c.line i) = joinL [32] ([108, 105, 110, 101] :: [txt (c.line i).st, itoaK (c.line i).mass, itoaK (c.line i).fate, itoaK (c.line i).closed, Tryz.hy (c.line i).node, [45]]) ++ [10] := by unfold lnS; rw [e1]
  rw [e1, e2] at ex1
  have b3 := pb_iff.2 ex1
  refine ⟨.l0 c.n (i + 1 : Nat) (lw H 0 [.str [108, 105, 110, 101], .sl true [.int .i64 (c.line i).mass, .int .i64 (c.line i).fate, .int .i64 (c.line i).closed], .sl true [.str (txt (c.line i).st), .str (Tryz.hy (c.line i).node), .str [45]], .ptr 0 0] (joinL [32] ([108, 105, 110, 101] :: [txt (c.line i).st, itoaK (c.line i).mass, itoaK (c.line i).fate, itoaK (c.line i).closed, Tryz.hy (c.line i).node, [45]]) ++ [10])), ?_, _, rfl, ?_⟩
  ·show step7z_1n c c.n i (c.line i).k (c.line i).k H = _
   rw [T7z_1n c c.n i (c.line i).k (c.line i).k H (by unfold K7z_1n; rw [b1]; simp only [g7z_1n_2, Int.toNat_natCast, allT, b1, Bool.not_false, Bool.and_true, Bool.false_eq_true, if_false]; exact b3)]
   unfold V7z_1n
   rw [b1, b5]
   simp only [Int.toNat_natCast]
   rfl
  ·have := (lw_ok ex1).2 _ hB
   rw [encR, e2]; exact this
 ·have ex1 := ex H hB
  have e1 : strv (obv H L).cells = frS (c.line i) := by rw [obv_eq hH]; exact strv_strs _
  have b3 := pb_iff.2 ex1
  have b4 : pb (rowS H L (frS (c.line i)).length) = true := pb_iff.2 ⟨_, hH, rfl⟩
  have b6 : decide ((joinL [44] (frS (c.line i))).length ≤ 140737488355328) = true := decide_eq_true (by omega)
  have b7 : decide ((frS (c.line i)).length ≤ 140737488355328) = true := decide_eq_true (by omega)
  refine ⟨.l0 c.n (i + 1 : Nat) (lw H 0 [.str [108, 105, 110, 101], .sl true [.int .i64 (c.line i).mass, .int .i64 (c.line i).fate, .int .i64 (c.line i).closed], .sl true [.str (txt (c.line i).st), .str (Tryz.hy (c.line i).node), .str (Tryz.hy (joinL [44] (frS (c.line i))))], .ptr 0 0] (lnS (c.line i))), ?_, _, rfl, ?_⟩
  ·show step7z_1o c L (frS (c.line i)).length c.n i (c.line i).k (c.line i).k H = _
   rw [T7z_1o c L (frS (c.line i)).length c.n i (c.line i).k (c.line i).k H (by unfold K7z_1o; rw [b1]; simp only [g7z_1o_2, Int.toNat_natCast, allT, e1, b1, b4, b6, b7, Bool.not_false, Bool.and_true, Bool.false_eq_true, if_false]; exact b3)]
   unfold V7z_1o
   rw [b1, b5]
   simp only [Int.toNat_natCast, e1]
   rfl
  ·have := (lw_ok ex1).2 _ hB
   rw [encR]; exact this
theorem enc_end (σ : S7z) (h : AtE c c.n σ) : (M7z c).step σ = some (.inr (.tup [.str (enc c), .int .i64 0])) := by
 obtain ⟨H, rfl, hB⟩ := h
 have b1 : decide ((c.n : Int) < c.n) = false := decide_eq_false (by omega)
 have hlen := enc_len c hs h0 hnd c.n (by omega)
 have hx : ∃ L, strX 47 5 [.ptr 0 0] H = some (.str (encR c c.n), H.drop L) := by
  rcases hB.2 with ⟨e, _⟩ | ⟨hne, L, hL, h1, h2⟩
  ·exact absurd e (enc_ne c c.n)
  ·refine ⟨L, ?_⟩
   unfold strX
   simp only [h1, h2]
   have : (encR c c.n).length ≠ 0 := fun e => hne (List.length_eq_zero_iff.1 e)
   rw [if_pos ⟨trivial, trivial⟩, if_pos ⟨trivial, trivial, u8s_len _, this⟩, bytesX_u8]
 obtain ⟨L, hx⟩ := hx
 have e1 : bdB H 0 = encR c c.n := by unfold bdB; rw [hx]
 have e2 : bdH H 0 = H.drop L := by unfold bdH; rw [hx]
 have b2 : pb (strX 47 5 [.ptr 0 0] H = some (.str (bdB H 0), bdH H 0)) = true := pb_iff.2 (by rw [e1, e2]; exact hx)
 show step7z_0 c c.n c.n H = _
 rw [T7z_0 c c.n c.n H (by unfold K7z_0; rw [b1]; simp only [g7z_0_2, allT, b1, b2, Bool.not_false, Bool.and_true, Bool.false_eq_true, if_false])]
 unfold V7z_0
 rw [b1, e1]
 rfl
theorem enc_run : ∀ (q i : Nat) (σ : S7z), q + i = c.n → AtE c i σ → Runs (M7z c) σ (.tup [.str (enc c), .int .i64 0]) := by
 intro q
 induction q with
 | zero =>
  intro i σ hq h
  have : i = c.n := by omega
  subst this
  exact .done (enc_end c hs h0 hnd σ h)
 | succ q ih =>
  intro i σ hq h
  have hi : i < c.n := by omega
  have hk3 := (hs.2 i hi).1
  obtain ⟨σ1, a1, b1⟩ := enc_st0 c hs h0 hnd i hi σ h
  refine .next a1 ?_
  have inner : ∀ (p k : Nat) (σ : S7z), p + k = (c.line i).k → AtF c i k ((List.range k).map fun j => txt ((c.line i).from_ j)) σ → Runs (M7z c) σ (.tup [.str (enc c), .int .i64 0]) := by
   intro p
   induction p with
   | zero =>
    intro k σ hp h
    have : k = (c.line i).k := by omega
    subst this
    obtain ⟨σ', a, b⟩ := enc_st2 c hs h0 hnd i hi σ h
    exact .next a (ih (i + 1) σ' (by omega) b)
   | succ p ihp =>
    intro k σ hp h
    obtain ⟨σ', a, b⟩ := enc_st1 c hs h0 hnd i hi k (by omega) _ (by simp; omega) σ h
    refine .next a (ihp (k + 1) σ' (by omega) ?_)
    rw [List.range_succ, List.map_append]
    exact b
  exact inner (c.line i).k 0 σ1 (by omega) b1
end
theorem encode_ok (c : Ct) (hs : small c) (hnd : ∀ i, i < c.n → (c.line i).node.length ≤ 1000000)
  (hr : ∀ z ∈ [c.entries, c.accepted, c.delivered, c.waiting, c.letters, c.discarded], -9223372036854775808 ≤ z ∧ z ≤ 9223372036854775807) :
  PureFn prog gl 7 [ctT c] (if CheckE c = 0 then .tup [.str (enc c), .int .i64 0] else .tup [.str [], .int .i64 (CheckE c)]) := by
 have hp : pB (small c) = true := pB_iff.2 hs
 by_cases h0 : CheckE c = 0
 ·rw [if_pos h0]
  have e0 : (CheckE c != 0) = false := bne_eq_false_iff_eq.2 h0
  have hB : Bd { next := 0 + 1, objs := [(0, { elem := 47, sz := 0, cells := [T.nilp, T.nils] })] } 0 [] := by
   refine ⟨fun m o hm => ?_, .inl ⟨rfl, rfl⟩⟩
   simp only [Hp.get, findOb] at hm
   split at hm
   ·rename_i e; subst e; decide
   ·cases hm
  obtain ⟨H', q1, q2⟩ := lineA_ex hB [98, 97, 108, 97, 110, 99, 101] c.entries c.accepted c.delivered c.waiting c.letters c.discarded hr (by decide) (by decide)
  have ex1 : ∃ H', Lw { next := 0 + 1, objs := [(0, { elem := 47, sz := 0, cells := [T.nilp, T.nils] })] } 0 [.str [98, 97, 108, 97, 110, 99, 101], .sl true [.int .i64 c.entries, .int .i64 c.accepted, .int .i64 c.delivered, .int .i64 c.waiting, .int .i64 c.letters, .int .i64 c.discarded], .nils, .ptr 0 0] (hdS c) H' :=
   ⟨H', q1, fun B hB' => by rw [Bd_inj hB' hB]; exact q2⟩
  have b3 := pb_iff.2 ex1
  obtain ⟨n, hrun⟩ := enc_run c hs h0 hnd c.n 0 (.l0 c.n (0 : Nat) (lw { next := 0 + 1, objs := [(0, { elem := 47, sz := 0, cells := [T.nilp, T.nils] })] } 0 [.str [98, 97, 108, 97, 110, 99, 101], .sl true [.int .i64 c.entries, .int .i64 c.accepted, .int .i64 c.delivered, .int .i64 c.waiting, .int .i64 c.letters, .int .i64 c.discarded], .nils, .ptr 0 0] (hdS c))) (by omega)
   ⟨_, rfl, (lw_ok ex1).2 [] hB⟩
  refine c7z c n ?_ ?_
  ·unfold K7z_s; rw [e0]; simp only [g7z_s_2, allT, isV_self, e0, hp, Bool.not_false, Bool.and_true, Bool.false_eq_true, if_false]; exact b3
  ·unfold V7z_s; rw [e0]; exact hrun
 ·rw [if_neg h0]
  have e0 : (CheckE c != 0) = true := bne_iff_ne.2 h0
  refine c7z c 0 ?_ ?_
  ·unfold K7z_s; rw [e0]; simp only [g7z_s_1, allT, isV_self, e0, hp, Bool.and_true, if_true]
  ·unfold V7z_s; rw [e0]; rfl
end
end Go.Proofs.Tryz

/- Package variables that hold what they held, whatever bytealg.MaxLen is; Split, Cut and Atoi. -/
namespace Go.Proofs.Tryz
open Go.Ps Go.RowKit
def errT (te : TypeId) : T := .iface te (.ref (.agg []) 0)
def gl1 (m : Int) (te : TypeId) : Nat → Option T := fun n => if n = 0 then some (.ref (.agg (Lib.pow10Tab.map (T.int .u64))) 0) else if n = 1 then some (.ref (.int .i64 m) 0) else if n = 2 then some (.ref (errT te) 0) else if n = 3 then some (.ref (errT te) 0) else none
theorem gl1_sub {m : Int} {te : TypeId} (k : Nat) (t : T) (h : gl k = some t) : gl1 m te k = some t := by
 unfold gl at h
 split at h
 ·rename_i e; subst e; exact h
 ·cases h
theorem gl1Frz (m : Int) (te : TypeId) : GlFrz (gl1 m te) := by
 intro k t h
 unfold gl1 at h
 split at h
 ·cases h; exact ⟨5, by kernel_rfl⟩
 ·split at h
  ·cases h; exact ⟨5, rfl⟩
  ·split at h
   ·cases h; exact ⟨5, rfl⟩
   ·split at h
    ·cases h; exact ⟨5, rfl⟩
    ·cases h
theorem glOk_sub {m : Int} {te : TypeId} {g : G} (h : GlOk (gl1 m te) g) : GlOk gl g := fun k t ht => h k t (gl1_sub k t ht)
theorem pure1 {m : Int} {te : TypeId} {f : FuncId} {ts : List T} {r : T} (h : PureFn prog gl f ts r) : PureFn prog (gl1 m te) f ts r :=
 ⟨h.1, fun g vs hg hN hgl hv => h.2 g vs hg hN (glOk_sub hgl) hv⟩
theorem pe1 {m : Int} {te : TypeId} {pe : Hp → FuncId → List T → Option T} (h : PeOk prog gl pe) : PeOk prog (gl1 m te) pe :=
 fun H f ts r hr => ⟨(h H f ts r hr).1, fun g vs hg hs hgl hv => (h H f ts r hr).2 g vs hg hs (glOk_sub hgl) hv⟩
theorem gl_cell {g : G} {k : Nat} {x : T} (hx : x.cells = [x]) (h : GlAt g k (.ref x 0)) : ∃ v, g.w.cell? ⟨k, 0, none⟩ = some v ∧ Rd g v x := by
 obtain ⟨h1, _, _⟩ := h
 generalize ha : (Value.pointer (some ⟨k, 0, none⟩)) = v at h1
 generalize ht : (T.ref x 0) = t at h1
 cases h1 <;> cases ht
 rename_i b o vs hS hc hl hr
 simp only [Value.pointer.injEq, Option.some.injEq, Addr.mk.injEq] at ha
 obtain ⟨rfl, ho, _⟩ := ha
 have ho0 : o = 0 := by omega
 subst ho0
 rw [hx] at hl hr
 have hv : vs[0]? = some (vs[0]'(by simp at hl; omega)) := List.getElem?_eq_getElem _
 exact ⟨_, by have := hc 0 _ hv; simpa using this, hr 0 _ x hv rfl⟩
theorem maxLen_of {m : Int} {te : TypeId} {g : G} (h : GlOk (gl1 m te) g) : g.w.cell? ⟨1, 0, none⟩ = some (.int .i64 m) := by
 obtain ⟨v, h1, h2⟩ := gl_cell rfl (h 1 (.ref (.int .i64 m) 0) rfl)
 cases h2
 exact h1
theorem err_of {m : Int} {te : TypeId} {g : G} (h : GlOk (gl1 m te) g) {k : Nat} (hk : k = 2 ∨ k = 3) : ∃ ev, g.w.cell? ⟨k, 0, none⟩ = some ev ∧ ∃ t p, ev = .iface t p := by
 have hg : gl1 m te k = some (.ref (errT te) 0) := by rcases hk with rfl | rfl <;> rfl
 obtain ⟨v, h1, h2⟩ := gl_cell rfl (h k _ hg)
 cases h2
 exact ⟨_, h1, _, _, rfl⟩
/-! ### Split -/
noncomputable def spl (s sep : List UInt8) : List (List UInt8) := (Lib.splitB ⟨sep.toArray⟩ 0 (Lib.countB ⟨s.toArray⟩ ⟨sep.toArray⟩) ⟨s.toArray⟩).map (·.data.toList)
theorem split_ok {m : Int} {te : TypeId} (s sep : List UInt8) (hs : s.length < 4294967281) (h1 : sep ≠ []) : PureFn prog (gl1 m te) 27 [.str s, .str sep] (.slf true (spl s sep).length (fun i => .str ((spl s sep).getD i []))) := by
 refine ⟨by kernel_rfl, fun g vs hg hN hgl hv => ?_⟩
 match vs, hv with
 | [v, u], hv =>
  have e1 := str_inv (hv.inv_cons).1
  have e2 := str_inv ((hv.inv_cons).2.inv_cons).1
  subst e1; subst e2
  have hsep : 1 ≤ (⟨sep.toArray⟩ : ByteArray).size := by
   have : sep.length ≠ 0 := fun e => h1 (List.length_eq_zero_iff.1 e)
   show 1 ≤ sep.toArray.size
   simp; omega
  have hsz : (⟨s.toArray⟩ : ByteArray).size < 4294967281 := by show s.toArray.size < _; simpa using hs
  have hlen := Lib.splitB_all ⟨sep.toArray⟩ hsep 0 _ ⟨s.toArray⟩ rfl
  have hcnt := Lib.countB_le ⟨sep.toArray⟩ hsep _ ⟨s.toArray⟩ (Nat.le_refl _)
  refine (Any.strings_Split lays146 (by kernel_rfl) ⟨s.toArray⟩ ⟨sep.toArray⟩ m g.w hsz (maxLen_of hgl) hsep).mono fun e w' ⟨he, hw⟩ => ?_
  subst hw
  have hl : (spl s sep).length = Lib.countB ⟨s.toArray⟩ ⟨sep.toArray⟩ + 1 := by unfold spl; rw [List.length_map, hlen]
  have hB : Below g.w.heap.size g.w (g.w.alloc (.cells ((Lib.splitB ⟨sep.toArray⟩ 0 (Lib.countB ⟨s.toArray⟩ ⟨sep.toArray⟩) ⟨s.toArray⟩).map Value.string).toArray 9)) := (Below.refl _ _).alloc (Nat.le_refl _) _
  refine ⟨_, g.add (.cells ((Lib.splitB ⟨sep.toArray⟩ 0 (Lib.countB ⟨s.toArray⟩ ⟨sep.toArray⟩) ⟨s.toArray⟩).map Value.string).toArray 9), he, rfl, ?_, ?_, ?_⟩
  ·exact ⟨hB.os, hB.tape, hB.output, hB.size, hB.block, fun b q => .inl q, fun b q => q.elim .inl (fun e => .inr (by omega)), rfl, rfl, rfl⟩
  ·intro b hb
   show b < (g.w.heap.push _).size
   rw [Array.size_push]
   rcases hb with hb | hb
   ·have := hg b hb; omega
   ·omega
  ·rw [← hl]
   have hmx : (spl s sep).length ≤ maxLen := by
    rw [hl]
    have : (⟨s.toArray⟩ : ByteArray).size = s.length := by show s.toArray.size = _; simp
    have h2 : maxLen = 9223372036854775807 := rfl
    omega
   refine .slf true _ _ 1 g.w.heap.size 0 _ ((Lib.splitB ⟨sep.toArray⟩ 0 (Lib.countB ⟨s.toArray⟩ ⟨sep.toArray⟩) ⟨s.toArray⟩).map Value.string) (fun _ => .inr rfl) (fun i hi => rfl) (Nat.le_refl _) hmx (fun _ => rfl) (by rw [List.length_map, hlen, hl]; omega) (fun j v hv => ?_) (fun i j v c hi hj hv hc => ?_)
   ·rw [Nat.zero_add]
    unfold World.cell?
    show (match (g.w.heap.push _)[g.w.heap.size]? with | some (.cells c _ _) => if (none : Option _).isSome then none else c[j]? | _ => none) = some v
    rw [Array.getElem?_push_size]
    simpa using hv
   ·have hj0 : j = 0 := by omega
    subst hj0
    simp only [T.cells, List.getElem?_cons_zero, Option.some.injEq] at hc
    subst hc
    simp only [Nat.mul_one, Nat.add_zero, List.getElem?_map, Option.map_eq_some_iff] at hv
    obtain ⟨b, hb, rfl⟩ := hv
    have : (spl s sep).getD i [] = b.data.toList := by
     unfold spl
     rw [List.getD_eq_getElem?_getD, List.getElem?_map, hb]; rfl
    rw [this]
    exact .str b
 | [], hv => simp [RdL] at hv
 | [_], hv => simp [RdL] at hv
 | _ :: _ :: _ :: _, hv => simp [RdL] at hv
/-! ### Cut -/
theorem cut_ok {m : Int} {te : TypeId} (s sep : List UInt8) (hs : s.length < 4294967281) : PureFn prog (gl1 m te) 72 [.str s, .str sep] (.tup [.str (Lib.cut s sep).1, .str (Lib.cut s sep).2.1, .bool (Lib.cut s sep).2.2]) := by
 refine ⟨by kernel_rfl, fun g vs hg hN hgl hv => ?_⟩
 match vs, hv with
 | [v, u], hv =>
  have e1 := str_inv (hv.inv_cons).1
  have e2 := str_inv ((hv.inv_cons).2.inv_cons).1
  subst e1; subst e2
  have hsz : (⟨s.toArray⟩ : ByteArray).size < 4294967281 := by show s.toArray.size < _; simpa using hs
  refine (Any.strings_Cut lays145 ⟨s.toArray⟩ ⟨sep.toArray⟩ m g.w hsz (maxLen_of hgl)).mono fun e w' ⟨he, n, hw⟩ => ?_
  subst hw
  have hB : Below g.w.heap.size g.w (g.w.drewN n) := ⟨by simp [World.drewN], by simp [World.drewN], by simp [World.drewN], by simp [World.drewN], fun k _ => by simp [World.drewN]⟩
  refine ⟨_, { g with w := g.w.drewN n }, he, rfl, pstep_below hB, gok_below hg hB.size, ?_⟩
  refine .tup _ [_, _, _] rfl (fun j v c hv hc => ?_)
  match j with
  | 0 => simp at hv hc; subst hv; subst hc; have := Rd.str (g := { g with w := g.w.drewN n }) ⟨(Lib.cut s sep).1.toArray⟩; simpa using this
  | 1 => simp at hv hc; subst hv; subst hc; have := Rd.str (g := { g with w := g.w.drewN n }) ⟨(Lib.cut s sep).2.1.toArray⟩; simpa using this
  | 2 => simp at hv hc; subst hv; subst hc; exact .bool _
  | k + 3 => simp at hv
 | [], hv => simp [RdL] at hv
 | [_], hv => simp [RdL] at hv
 | _ :: _ :: _ :: _, hv => simp [RdL] at hv
/-! ### Atoi -/
noncomputable def aV (s : List UInt8) : Int := match Lib.atoiAll s with
 | .ok v => v
 | .range => Lib.atoiSat s
 | _ => 0
noncomputable def aE (s : List UInt8) : T := match Lib.atoiAll s with
 | .ok _ => .nili
 | _ => errT 121
theorem aE_if (s : List UInt8) : isIf (aE s) = true := by
 unfold aE
 split <;> rfl
theorem atoi_ok {m : Int} {te : TypeId} (s : List UInt8) (hs : s.length ≤ 281474976710656) : PureFn prog (gl1 m te) 49 [.str s] (.tup [.int .i64 (aV s), aE s]) := by
 refine ⟨by kernel_rfl, fun g vs hg hN hgl hv => ?_⟩
 match vs, hv with
 | [v], hv =>
  have e1 := str_inv (hv.inv_cons).1
  subst e1
  have hsz : (⟨s.toArray⟩ : ByteArray).size ≤ 281474976710656 := by show s.toArray.size ≤ _; simpa using hs
  have bad : ∀ (x : Int) (e : Ending) (w' : World) (N : Nat) (cs : Array Value), e = .returned (.tuple #[.int .i64 x, .iface 121 (.pointer (some ⟨N, 0, none⟩))]) → g.w.heap.size ≤ N → w'.heap[N]? = some (.cells cs 135 (0, 0)) → Below g.w.heap.size g.w w' →
    ∃ v g', e = .returned v ∧ g'.w = w' ∧ PStep g g' ∧ Gok g' ∧ Rd g' v (.tup [.int .i64 x, errT 121]) := by
   intro x e w' N cs he hN hc hB
   have hlt : N < w'.heap.size := (Array.getElem?_eq_some_iff.1 hc).1
   refine ⟨_, { g with w := w', S := fun b => g.S b ∨ b = N }, he, rfl, ⟨hB.os, hB.tape, hB.output, hB.size, hB.block, fun b q => .inl q, fun b q => q.elim .inl (fun e => .inr (by omega)), rfl, rfl, rfl⟩, fun b hb => ?_, ?_⟩
   ·rcases hb with hb | hb
    ·have := hg b hb; have := hB.size; show b < w'.heap.size; omega
    ·show b < w'.heap.size; omega
   ·refine .tup _ [_, _] rfl (fun j v c hv hc => ?_)
    match j with
    | 0 => simp at hv hc; subst hv; subst hc; exact .int _ _
    | 1 =>
     simp at hv hc; subst hv; subst hc
     refine .iface _ _ _ ?_
     exact Rd.ref (.agg []) 0 N 0 [] (.inr rfl) rfl (fun j v h => by simp at h) (fun j v c h => by simp at h)
    | k + 2 => simp at hv
  cases hA : Lib.atoiAll s
  case ok v =>
   have e1 : aV s = v := by unfold aV; rw [hA]
   have e2 : aE s = .nili := by unfold aE; rw [hA]
   rw [e1, e2]
   refine (Any.strconv_Atoi_ok laysC172 ⟨s.toArray⟩ (by omega) v (by simpa using hA) g.w).mono fun e w' ⟨he, hw⟩ => ?_
   have hB : Below g.w.heap.size g.w w' := by
    rcases hw with rfl | ⟨t, rfl⟩
    ·exact Below.refl _ _
    ·exact Lib.bytesWorld_below _ _ _
   refine ⟨_, { g with w := w' }, he, rfl, pstep_below hB, gok_below hg hB.size, ?_⟩
   refine .tup _ [_, _] rfl (fun j v c hv hc => ?_)
   match j with
   | 0 => simp at hv hc; subst hv; subst hc; exact .int _ _
   | 1 => simp at hv hc; subst hv; subst hc; exact .nili
   | k + 2 => simp at hv
  case range =>
   have e1 : aV s = Lib.atoiSat s := by unfold aV; rw [hA]
   have e2 : aE s = errT 121 := by unfold aE; rw [hA]
   rw [e1, e2]
   obtain ⟨ev, h1, h2⟩ := err_of hgl (.inr rfl)
   refine (Any.strconv_Atoi_range laysC172 ⟨s.toArray⟩ hsz (by simpa using hA) ev g.w h1 (.inr h2)).mono fun e w' ⟨N, he, hN, hc, hB⟩ => ?_
   exact bad _ e w' N _ he hN hc hB
  case _ =>
   have e1 : aV s = 0 := by unfold aV; rw [hA]
   have e2 : aE s = errT 121 := by unfold aE; rw [hA]
   rw [e1, e2]
   obtain ⟨ev, h1, h2⟩ := err_of hgl (.inl rfl)
   refine (Any.strconv_Atoi_syntax laysC172 ⟨s.toArray⟩ hsz (by simpa using hA) ev g.w h1 (.inr h2)).mono fun e w' ⟨N, he, hN, hc, hB⟩ => ?_
   exact bad 0 e w' N _ he hN hc hB
 | [], hv => simp [RdL] at hv
 | _ :: _ :: _, hv => simp [RdL] at hv
end Go.Proofs.Tryz

/- The contracts of Split, Cut, Atoi in an environment. -/
namespace Go.Proofs.Tryz
noncomputable section
open Go.Ps
def s49z : List T → Option (T × List Bool)
 | [.str s] => some (.tup [.int .i64 (aV s), aE s], [decide (s.length ≤ 281474976710656)])
 | _ => none
def s27z : List T → Option (T × List Bool)
 | [.str s, .str sep] => some (.slf true (spl s sep).length (fun i => .str ((spl s sep).getD i [])), [decide (s.length < 4294967281), pb (sep ≠ [])])
 | _ => none
def s72z : List T → Option (T × List Bool)
 | [.str s, .str sep] => some (.tup [.str (Lib.cut s sep).1, .str (Lib.cut s sep).2.1, .bool (Lib.cut s sep).2.2], [decide (s.length < 4294967281)])
 | _ => none
section
variable {m : Int} {te : TypeId}
theorem s49z_ok (ts : List T) (r : T) (cs : List Bool) (h : s49z ts = some (r, cs)) (hc : allT cs = true) : PureFn prog (gl1 m te) 49 ts r := by
 unfold s49z at h
 split at h
 ·cases h
  simp only [allT, Bool.and_true, decide_eq_true_eq] at hc
  exact atoi_ok _ hc
 ·cases h
theorem s27z_ok (ts : List T) (r : T) (cs : List Bool) (h : s27z ts = some (r, cs)) (hc : allT cs = true) : PureFn prog (gl1 m te) 27 ts r := by
 unfold s27z at h
 split at h
 ·cases h
  simp only [allT, Bool.and_true, Bool.and_eq_true, decide_eq_true_eq, pb_iff] at hc
  exact split_ok _ _ hc.1 hc.2
 ·cases h
theorem s72z_ok (ts : List T) (r : T) (cs : List Bool) (h : s72z ts = some (r, cs)) (hc : allT cs = true) : PureFn prog (gl1 m te) 72 ts r := by
 unfold s72z at h
 split at h
 ·cases h
  simp only [allT, Bool.and_true, decide_eq_true_eq] at hc
  exact cut_ok _ _ hc
 ·cases h
end
def D40 (m : Int) (te : TypeId) : Ed := ⟨gl1 m te, pdAdd 49 s49z (pdAdd 27 s27z (pdAdd 72 s72z D31.pd))⟩
theorem cx40 (m : Int) (te : TypeId) : Cx prog (D40 m te) F0 := ⟨follows, pdAdd_ok (pdAdd_ok (pdAdd_ok (pe1 (pdAdd_ok (pdAdd_ok (pdAdd_ok (pdAddH_ok cx20.hE s18z_ok) s16z_ok) s20z_ok) s19z_ok)) s72z_ok) s27z_ok) s49z_ok, eeNone_ok⟩
end
end Go.Proofs.Tryz

/- number and numbers as machines, by program (gen2). -/
namespace Go.Proofs.Tryz
noncomputable section
open Go.Ps
set_option maxRecDepth 100000
/-! ### 73 -/
def k73z_s_0 (m : Int) (te : TypeId) (s : List UInt8) : List Bool := [isIf (aE s), decide (s.length ≤ 281474976710656)]
def k73z_s_1 (m : Int) (te : TypeId) (s : List UInt8) : List Bool := (isNi (aE s)) :: (isNi (aE s)) :: (isNi (aE s)) :: (isNi (aE s)) :: k73z_s_0 m te s
def g73z_s_1 (m : Int) (te : TypeId) (s : List UInt8) : List Bool := let y0 := decide ((↑s.length : Int) ≤ 7); y0 :: y0 :: y0 :: (decide (-9223372036854775808 ≤ aV s)) :: (decide (aV s ≤ 9223372036854775807)) :: y0 :: y0 :: k73z_s_1 m te s
def g73z_s_2 (m : Int) (te : TypeId) (s : List UInt8) : List Bool := let y0 := decide ((↑s.length : Int) ≤ 7); (!y0) :: (!y0) :: (!y0) :: (!y0) :: (!y0) :: k73z_s_1 m te s
def g73z_s_3 (m : Int) (te : TypeId) (s : List UInt8) : List Bool := true :: true :: true :: true :: true :: (!isNi (aE s)) :: (!isNi (aE s)) :: (!isNi (aE s)) :: (!isNi (aE s)) :: k73z_s_0 m te s
def V73z_s (m : Int) (te : TypeId) (s : List UInt8) : Empty ⊕ T :=
 (if isNi (aE s) then (if decide ((↑s.length : Int) ≤ 7) then (.inr ((T.tup [T.int .i64 (aV s), T.bool (itoaK (aV s) == s)]))) else (.inr ((T.tup [T.int .i64 (aV s), T.bool false])))) else (.inr ((T.tup [T.int .i64 (aV s), T.bool false]))))
def K73z_s (m : Int) (te : TypeId) (s : List UInt8) : Bool :=
 (if isNi (aE s) then (if decide ((↑s.length : Int) ≤ 7) then (allT (g73z_s_1 m te s)) else (allT (g73z_s_2 m te s))) else (allT (g73z_s_3 m te s)))
def r73z_s (m : Int) (te : TypeId) (s : List UInt8) (ds : List Bool) : RD Out := runK prog (D40 m te) F0 2000 (.code (bodyOf f73)) [] 0 ([.str s] ++ List.replicate 23 undefT) ⟨0, []⟩ ds []
theorem w73z_s_1 (m : Int) (te : TypeId) (s : List UInt8) : outK prog f73 20 [] (r73z_s m te s (bt 9 511)) = wdn (T.tup [T.int .i64 (aV s), T.bool (itoaK (aV s) == s)]) (g73z_s_1 m te s) := by kernel_rfl
theorem w73z_s_2 (m : Int) (te : TypeId) (s : List UInt8) : outK prog f73 20 [] (r73z_s m te s (bt 9 15)) = wdn (T.tup [T.int .i64 (aV s), T.bool false]) (g73z_s_2 m te s) := by kernel_rfl
theorem w73z_s_3 (m : Int) (te : TypeId) (s : List UInt8) : outK prog f73 20 [] (r73z_s m te s (bt 9 0)) = wdn (T.tup [T.int .i64 (aV s), T.bool false]) (g73z_s_3 m te s) := by kernel_rfl
theorem c73z (m : Int) (te : TypeId) (s : List UInt8) (n : Nat) {r : T} (hk : K73z_s m te s = true) (hr : noM.fin n (V73z_s m te s) = some r) : PureFn prog (gl1 m te) 73 [.str s] r :=
 pure_mach (M := noM) (fn := f73) (k := 20) (d := 8) (c := bodyOf f73) (cx40 m te) (gl1Frz m te) (by kernel_rfl) func73 (by kernel_rfl) rfl (by kernel_rfl) (by kernel_rfl) (L := 23) (by kernel_rfl) noM_ways (fun σ => σ.elim) ((wk_if (wk_if (kD (w73z_s_1 m te s)) (kD (w73z_s_2 m te s))) (kD (w73z_s_3 m te s))) hk _ rfl) hr
/-! ### 28 -/
inductive S28z where
 | l0n (x10 x11 : Int)
 | l0o (L N : Nat) (x10 x11 : Int) (H : Hp)
def g28z_s_1 (m : Int) (te : TypeId) (fu : Bool) (q : Nat) (f : Nat → List UInt8) : List Bool := []
def k28z_0n_0 (m : Int) (te : TypeId) (fu : Bool) (q : Nat) (f : Nat → List UInt8) (x10 x11 : Int) : List Bool := [isIf (aE (f x11.toNat)), decide ((f x11.toNat).length ≤ 281474976710656), decide (0 ≤ x11), decide (x11 < (↑q : Int)), true, decide (x11 < x10)]
def g28z_0n_1 (m : Int) (te : TypeId) (fu : Bool) (q : Nat) (f : Nat → List UInt8) (x10 x11 : Int) : List Bool := (!isNi (aE (f x11.toNat))) :: k28z_0n_0 m te fu q f x10 x11
def g28z_0n_2 (m : Int) (te : TypeId) (fu : Bool) (q : Nat) (f : Nat → List UInt8) (x10 x11 : Int) : List Bool := true :: true :: true :: (!!isNi (aE (f x11.toNat))) :: k28z_0n_0 m te fu q f x10 x11
def g28z_0n_3 (m : Int) (te : TypeId) (fu : Bool) (q : Nat) (f : Nat → List UInt8) (x10 x11 : Int) : List Bool := [!decide (x11 < x10)]
def k28z_0o_0 (m : Int) (te : TypeId) (fu : Bool) (q : Nat) (f : Nat → List UInt8) (L N : Nat) (x10 x11 : Int) (H : Hp) : List Bool := [isIf (aE (f x11.toNat)), decide ((f x11.toNat).length ≤ 281474976710656), decide (0 ≤ x11), decide (x11 < (↑q : Int)), true, decide (x11 < x10)]
def g28z_0o_1 (m : Int) (te : TypeId) (fu : Bool) (q : Nat) (f : Nat → List UInt8) (L N : Nat) (x10 x11 : Int) (H : Hp) : List Bool := (!isNi (aE (f x11.toNat))) :: k28z_0o_0 m te fu q f L N x10 x11 H
def g28z_0o_2 (m : Int) (te : TypeId) (fu : Bool) (q : Nat) (f : Nat → List UInt8) (L N : Nat) (x10 x11 : Int) (H : Hp) : List Bool := true :: true :: (obApp H L 3 1 N) :: (roomT (N + 1) 8) :: (!!isNi (aE (f x11.toNat))) :: k28z_0o_0 m te fu q f L N x10 x11 H
def g28z_0o_3 (m : Int) (te : TypeId) (fu : Bool) (q : Nat) (f : Nat → List UInt8) (L N : Nat) (x10 x11 : Int) (H : Hp) : List Bool := [!decide (x11 < x10)]
def V28z_0n (m : Int) (te : TypeId) (fu : Bool) (q : Nat) (f : Nat → List UInt8) (x10 x11 : Int) : S28z ⊕ T :=
 (if decide (x11 < x10) then (if !isNi (aE (f x11.toNat)) then (.inr ((T.tup [T.nils, T.bool false]))) else (.inl (.l0o 0 1 x10 (IntKind.i64.wrap (x11 + 1)) ({ next := 1, objs := [(0, { elem := 3, sz := 1, cells := [T.int .i64 (aV (f x11.toNat))] })] })))) else (.inr ((T.tup [T.nils, T.bool true]))))
def K28z_0n (m : Int) (te : TypeId) (fu : Bool) (q : Nat) (f : Nat → List UInt8) (x10 x11 : Int) : Bool :=
 (if decide (x11 < x10) then (if !isNi (aE (f x11.toNat)) then (allT (g28z_0n_1 m te fu q f x10 x11)) else (allT (g28z_0n_2 m te fu q f x10 x11))) else (allT (g28z_0n_3 m te fu q f x10 x11)))
def step28z_0n (m : Int) (te : TypeId) (fu : Bool) (q : Nat) (f : Nat → List UInt8) (x10 x11 : Int) : Option (S28z ⊕ T) := if K28z_0n m te fu q f x10 x11 then some (V28z_0n m te fu q f x10 x11) else none
theorem T28z_0n (m : Int) (te : TypeId) (fu : Bool) (q : Nat) (f : Nat → List UInt8) (x10 x11 : Int) (hk : K28z_0n m te fu q f x10 x11 = true) : step28z_0n m te fu q f x10 x11 = some (V28z_0n m te fu q f x10 x11) := if_pos hk
def q28z_0o_3 (m : Int) (te : TypeId) (fu : Bool) (q : Nat) (f : Nat → List UInt8) (L N : Nat) (x10 x11 : Int) (H : Hp) : Option T := frzT 20 H (T.tup [T.osl L 1 0 N, T.bool true])
def V28z_0o (m : Int) (te : TypeId) (fu : Bool) (q : Nat) (f : Nat → List UInt8) (L N : Nat) (x10 x11 : Int) (H : Hp) : S28z ⊕ T :=
 (if decide (x11 < x10) then (if !isNi (aE (f x11.toNat)) then (.inr ((T.tup [T.nils, T.bool false]))) else (.inl (.l0o H.next (N + 1) x10 (IntKind.i64.wrap (x11 + 1)) ({ next := H.next + 1, objs := (H.next, { elem := 3, sz := 1, cells := (obv H L).cells ++ [T.int .i64 (aV (f x11.toNat))] }) :: dropOb H.objs L })))) else (.inr ((q28z_0o_3 m te fu q f L N x10 x11 H).getD undefT)))
def K28z_0o (m : Int) (te : TypeId) (fu : Bool) (q : Nat) (f : Nat → List UInt8) (L N : Nat) (x10 x11 : Int) (H : Hp) : Bool :=
 (if decide (x11 < x10) then (if !isNi (aE (f x11.toNat)) then (allT (g28z_0o_1 m te fu q f L N x10 x11 H)) else (allT (g28z_0o_2 m te fu q f L N x10 x11 H))) else (allT (g28z_0o_3 m te fu q f L N x10 x11 H) && (q28z_0o_3 m te fu q f L N x10 x11 H).isSome))
def step28z_0o (m : Int) (te : TypeId) (fu : Bool) (q : Nat) (f : Nat → List UInt8) (L N : Nat) (x10 x11 : Int) (H : Hp) : Option (S28z ⊕ T) := if K28z_0o m te fu q f L N x10 x11 H then some (V28z_0o m te fu q f L N x10 x11 H) else none
theorem T28z_0o (m : Int) (te : TypeId) (fu : Bool) (q : Nat) (f : Nat → List UInt8) (L N : Nat) (x10 x11 : Int) (H : Hp) (hk : K28z_0o m te fu q f L N x10 x11 H = true) : step28z_0o m te fu q f L N x10 x11 H = some (V28z_0o m te fu q f L N x10 x11 H) := if_pos hk
def V28z_s (m : Int) (te : TypeId) (fu : Bool) (q : Nat) (f : Nat → List UInt8) : S28z ⊕ T :=
 (.inl (.l0n (↑q : Int) 0))
def K28z_s (m : Int) (te : TypeId) (fu : Bool) (q : Nat) (f : Nat → List UInt8) : Bool :=
 (allT (g28z_s_1 m te fu q f))
def step28z (m : Int) (te : TypeId) (fu : Bool) (q : Nat) (f : Nat → List UInt8) : S28z → Option (S28z ⊕ T)
 | .l0n x10 x11 => step28z_0n m te fu q f x10 x11
 | .l0o L N x10 x11 H => step28z_0o m te fu q f L N x10 x11 H
def M28z (m : Int) (te : TypeId) (fu : Bool) (q : Nat) (f : Nat → List UInt8) : Mch S28z where
 lp := fun σ => match σ with
  | .l0n .. => 0
  | .l0o .. => 0
 keep := fun ι => match ι with
  | 0 => [4, 9, 10, 11]
  | _ => []
 par := fun ι => match ι with
  | 0 => []
  | _ => []
 vs := fun σ => match σ with
  | .l0n x10 x11 => [T.nils, T.slf fu q fun i => T.str (f i), T.int .i64 x10, T.int .i64 x11]
  | .l0o L N x10 x11 H => [T.osl L 1 0 N, T.slf fu q fun i => T.str (f i), T.int .i64 x10, T.int .i64 x11]
 hp := fun σ => match σ with
  | .l0n _ _ => ⟨0, []⟩
  | .l0o _ _ _ _ H => H
 len := 28
 step := step28z m te fu q f
def r28z_0n (m : Int) (te : TypeId) (fu : Bool) (q : Nat) (f : Nat → List UInt8) (x10 x11 : Int) (fr : List T) (ds : List Bool) : RD Out := (M28z m te fu q f).rk prog (D40 m te) F0 f28 (.l0n x10 x11) fr ds
theorem w28z_0n_1 (m : Int) (te : TypeId) (fu : Bool) (q : Nat) (f : Nat → List UInt8) (x10 x11 : Int) (fr : List T) : outK prog f28 20 [] (r28z_0n m te fu q f x10 x11 fr [true, true]) = wdn (T.tup [T.nils, T.bool false]) (g28z_0n_1 m te fu q f x10 x11) := by kernel_rfl
theorem w28z_0n_2 (m : Int) (te : TypeId) (fu : Bool) (q : Nat) (f : Nat → List UInt8) (x10 x11 : Int) (fr : List T) : (M28z m te fu q f).wa prog f28 (r28z_0n m te fu q f x10 x11 fr [true, false]) 0 (g28z_0n_2 m te fu q f x10 x11) (.l0o 0 1 x10 (IntKind.i64.wrap (x11 + 1)) ({ next := 1, objs := [(0, { elem := 3, sz := 1, cells := [T.int .i64 (aV (f x11.toNat))] })] })) := by unfold Mch.wa; kernel_rfl
theorem w28z_0n_3 (m : Int) (te : TypeId) (fu : Bool) (q : Nat) (f : Nat → List UInt8) (x10 x11 : Int) (fr : List T) : outK prog f28 20 [] (r28z_0n m te fu q f x10 x11 fr [false]) = wdn (T.tup [T.nils, T.bool true]) (g28z_0n_3 m te fu q f x10 x11) := by kernel_rfl
def r28z_0o (m : Int) (te : TypeId) (fu : Bool) (q : Nat) (f : Nat → List UInt8) (L N : Nat) (x10 x11 : Int) (H : Hp) (fr : List T) (ds : List Bool) : RD Out := (M28z m te fu q f).rk prog (D40 m te) F0 f28 (.l0o L N x10 x11 H) fr ds
theorem w28z_0o_1 (m : Int) (te : TypeId) (fu : Bool) (q : Nat) (f : Nat → List UInt8) (L N : Nat) (x10 x11 : Int) (H : Hp) (fr : List T) : outK prog f28 20 [] (r28z_0o m te fu q f L N x10 x11 H fr [true, true]) = wdn (T.tup [T.nils, T.bool false]) (g28z_0o_1 m te fu q f L N x10 x11 H) := by kernel_rfl
theorem w28z_0o_2 (m : Int) (te : TypeId) (fu : Bool) (q : Nat) (f : Nat → List UInt8) (L N : Nat) (x10 x11 : Int) (H : Hp) (fr : List T) : (M28z m te fu q f).wa prog f28 (r28z_0o m te fu q f L N x10 x11 H fr [true, false]) 0 (g28z_0o_2 m te fu q f L N x10 x11 H) (.l0o H.next (N + 1) x10 (IntKind.i64.wrap (x11 + 1)) ({ next := H.next + 1, objs := (H.next, { elem := 3, sz := 1, cells := (obv H L).cells ++ [T.int .i64 (aV (f x11.toNat))] }) :: dropOb H.objs L })) := by unfold Mch.wa; kernel_rfl
theorem w28z_0o_3 (m : Int) (te : TypeId) (fu : Bool) (q : Nat) (f : Nat → List UInt8) (L N : Nat) (x10 x11 : Int) (H : Hp) (fr : List T) : outK prog f28 20 [] (r28z_0o m te fu q f L N x10 x11 H fr [false]) = wdq (q28z_0o_3 m te fu q f L N x10 x11 H) (g28z_0o_3 m te fu q f L N x10 x11 H) := by kernel_rfl
theorem w28z_s_1 (m : Int) (te : TypeId) (fu : Bool) (q : Nat) (f : Nat → List UInt8) : (M28z m te fu q f).wl prog f28 (runK prog (D40 m te) F0 2000 (.code (bodyOf f28)) [] 0 ([.slf fu q (fun i => .str (f i))] ++ List.replicate 27 undefT) ⟨0, []⟩ [] []) 0 (g28z_s_1 m te fu q f) (.l0n (↑q : Int) 0) := by unfold Mch.wl; kernel_rfl
theorem ways28z (m : Int) (te : TypeId) (fu : Bool) (q : Nat) (f : Nat → List UInt8) : (M28z m te fu q f).Ways prog (D40 m te) F0 f28 20 := by
 intro σ o fr h
 cases σ with
 | l0n x10 x11 =>
  obtain ⟨hk, ho⟩ := kv_some (K := K28z_0n m te fu q f x10 x11) (V := V28z_0n m te fu q f x10 x11) h
  exact (wk_if (wk_if (kD (w28z_0n_1 m te fu q f x10 x11 fr)) (kA (w28z_0n_2 m te fu q f x10 x11 fr) rfl)) (kD (w28z_0n_3 m te fu q f x10 x11 fr))) hk o ho
 | l0o L N x10 x11 H =>
  obtain ⟨hk, ho⟩ := kv_some (K := K28z_0o m te fu q f L N x10 x11 H) (V := V28z_0o m te fu q f L N x10 x11 H) h
  exact (wk_if (wk_if (kD (w28z_0o_1 m te fu q f L N x10 x11 H fr)) (kA (w28z_0o_2 m te fu q f L N x10 x11 H fr) rfl)) (kO (w28z_0o_3 m te fu q f L N x10 x11 H fr))) hk o ho
theorem oks28z (m : Int) (te : TypeId) (fu : Bool) (q : Nat) (f : Nat → List UInt8) : ∀ σ, Ps.codeOk (loopAt f28 ((M28z m te fu q f).lp σ)).1 = true ∧ ksOk (.lp :: (loopAt f28 ((M28z m te fu q f).lp σ)).2) = true := oks_of 1 (by kernel_rfl) (by intro σ; cases σ <;> exact Nat.le_of_ble_eq_true rfl)
theorem c28z (m : Int) (te : TypeId) (fu : Bool) (q : Nat) (f : Nat → List UInt8) (n : Nat) {r : T} (hk : K28z_s m te fu q f = true) (hr : (M28z m te fu q f).fin n (V28z_s m te fu q f) = some r) : PureFn prog (gl1 m te) 28 [.slf fu q (fun i => .str (f i))] r :=
 pure_mach (M := (M28z m te fu q f)) (fn := f28) (k := 20) (d := 8) (c := bodyOf f28) (cx40 m te) (gl1Frz m te) (by kernel_rfl) func28 (by kernel_rfl) rfl (by kernel_rfl) (by kernel_rfl) (L := 27) (by kernel_rfl) (ways28z m te fu q f) (oks28z m te fu q f) ((kL (w28z_s_1 m te fu q f) rfl) hk _ rfl) hr
end
end Go.Proofs.Tryz

/- number and numbers: the contracts. -/
namespace Go.Proofs.Tryz
open Go.Ps
set_option maxRecDepth 100000
noncomputable def aOk (s : List UInt8) : Bool := isNi (aE s)
theorem aV_range (s : List UInt8) (h : aOk s = true) : -9223372036854775808 ≤ aV s ∧ aV s ≤ 9223372036854775807 := by
 unfold aOk aE at h
 unfold aV
 split at h
 ·rename_i v hv
  rw [hv]
  simp only
  unfold Lib.atoiAll at hv
  split at hv
  ·cases hv
  ·simp only at hv
   split at hv
   ·cases hv
   ·cases hv
   ·split at hv
    ·cases hv
    ·split at hv
     ·cases hv
     ·cases hv
      rename_i h1 h2
      split
      ·rename_i h3
       simp only [h3, true_and] at h2
       omega
      ·rename_i h3
       simp only [h3, not_false_eq_true, true_and] at h1
       omega
 ·cases h
noncomputable def nOk (s : List UInt8) : Bool := aOk s && (decide (s.length ≤ 7) && itoaK (aV s) == s)
theorem number_ok {m : Int} {te : TypeId} (s : List UInt8) (hs : s.length ≤ 281474976710656) : PureFn prog (gl1 m te) 73 [.str s] (.tup [.int .i64 (aV s), .bool (nOk s)]) := by
 have a1 : decide (s.length ≤ 281474976710656) = true := decide_eq_true hs
 have a2 := aE_if s
 cases h : isNi (aE s) with
 | false =>
  refine c73z m te s 0 ?_ ?_
  ·unfold K73z_s; rw [h]; simp only [g73z_s_3, allT, h, a1, a2, Bool.not_false, Bool.and_true, Bool.false_eq_true, if_false, k73z_s_0]
  ·unfold V73z_s nOk aOk; rw [h]; rfl
 | true =>
  obtain ⟨r1, r2⟩ := aV_range s h
  have b1 := decide_eq_true r1
  have b2 := decide_eq_true r2
  by_cases h7 : s.length ≤ 7
  ·have c1 : decide ((s.length : Int) ≤ 7) = true := decide_eq_true (by omega)
   have c2 : decide (s.length ≤ 7) = true := decide_eq_true h7
   refine c73z m te s 0 ?_ ?_
   ·unfold K73z_s; rw [h, c1]; simp only [g73z_s_1, allT, h, a1, a2, b1, b2, c1, Bool.and_true, if_true, k73z_s_1, k73z_s_0]
   ·unfold V73z_s nOk aOk; rw [h, c1, c2]; rfl
  ·have c1 : decide ((s.length : Int) ≤ 7) = false := decide_eq_false (by omega)
   have c2 : decide (s.length ≤ 7) = false := decide_eq_false h7
   refine c73z m te s 0 ?_ ?_
   ·unfold K73z_s; rw [h, c1]; simp only [g73z_s_2, allT, h, a1, a2, c1, Bool.not_false, Bool.and_true, if_true, Bool.false_eq_true, if_false, k73z_s_1, k73z_s_0]
   ·unfold V73z_s nOk aOk; rw [h, c1, c2]; rfl
/-! ### numbers -/
noncomputable def allR (f : Nat → List UInt8) : Nat → Nat → Bool
 | 0, _ => true
 | q + 1, i => if aOk (f i) then allR f q (i + 1) else false
theorem rd_tup1 {g : G} {v : Value} {a a' b : T} (k : ∀ u, Rd g u a → Rd g u a') (h : Rd g v (.tup [a, b])) : Rd g v (.tup [a', b]) := by
 cases h with
 | tup _ vs h1 h2 =>
  refine .tup _ vs (by simpa using h1) (fun j u c hu hc => ?_)
  match j with
  | 0 => simp at hc; subst hc; exact k u (h2 0 u a hu rfl)
  | 1 => exact h2 1 u c hu hc
  | n + 2 => simp at hc
section
variable (m : Int) (te : TypeId) (fu : Bool) (q : Nat) (f : Nat → List UInt8) (hq : q ≤ 1000000) (hf : ∀ i, i < q → (f i).length ≤ 281474976710656)
include hq hf
def isz (xs : List Int) : List T := xs.map (T.int .i64)
def AtN (q : Nat) (xs : List Int) (i : Nat) (σ : S28z) : Prop := (xs = [] ∧ σ = .l0n q i) ∨ (xs ≠ [] ∧ ∃ L H, σ = .l0o L xs.length q i H ∧ H.get L = some ⟨3, 1, isz xs⟩)
theorem num_st (i : Nat) (hi : i < q) (xs : List Int) (hx : xs.length ≤ 1000000) (σ : S28z) (h : AtN q xs i σ) :
  (aOk (f i) = false → (M28z m te fu q f).step σ = some (.inr (.tup [.nils, .bool false]))) ∧ (aOk (f i) = true → ∃ σ', (M28z m te fu q f).step σ = some (.inl σ') ∧ AtN q (xs ++ [aV (f i)]) (i + 1) σ') := by
 have b1 : decide ((i : Int) < q) = true := decide_eq_true (by omega)
 have b2 : decide ((0 : Int) ≤ i) = true := decide_eq_true (by omega)
 have b3 : decide ((f i).length ≤ 281474976710656) = true := decide_eq_true (hf i hi)
 have b4 := aE_if (f i)
 have b5 := wsucc i (by omega)
 rcases h with ⟨rfl, rfl⟩ | ⟨hne, L, H, rfl, hH⟩
 ·have hst : ∀ b, isNi (aE (f i)) = b → (M28z m te fu q f).step (.l0n q i) = some (V28z_0n m te fu q f q i) := by
   intro b hb
   show step28z_0n m te fu q f q i = _
   refine T28z_0n m te fu q f q i ?_
   unfold K28z_0n
   simp only [Int.toNat_natCast]
   rw [if_pos b1]
   cases b <;> simp only [hb, g28z_0n_1, g28z_0n_2, Int.toNat_natCast, allT, b1, b2, b3, b4, Bool.not_false, Bool.not_true, Bool.and_true, if_true, Bool.false_eq_true, if_false, k28z_0n_0]
  refine ⟨fun hb => ?_, fun hb => ?_⟩
  ·rw [hst _ hb]
   unfold V28z_0n
   simp only [Int.toNat_natCast]
   have hb' : isNi (aE (f i)) = false := hb
   rw [if_pos b1, hb']; rfl
  ·have h2 := hst _ hb
   unfold V28z_0n at h2
   simp only [Int.toNat_natCast] at h2
   have hb' : isNi (aE (f i)) = true := hb
   rw [if_pos b1, hb', b5] at h2
   exact ⟨_, h2, .inr ⟨by simp, 0, _, rfl, rfl⟩⟩
 ·have b7 : obApp H L 3 1 xs.length = true := by
   unfold obApp
   rw [hH]
   simp [isz]
  have b8 : roomT (xs.length + 1) 8 = true := by
   unfold roomT
   rw [decide_eq_true (by omega), decide_eq_true (by omega)]
   rfl
  have hst : ∀ b, isNi (aE (f i)) = b → (M28z m te fu q f).step (.l0o L xs.length q i H) = some (V28z_0o m te fu q f L xs.length q i H) := by
   intro b hb
   show step28z_0o m te fu q f L xs.length q i H = _
   refine T28z_0o m te fu q f L xs.length q i H ?_
   unfold K28z_0o q28z_0o_3
   simp only [Int.toNat_natCast]
   rw [if_pos b1]
   cases b <;> simp only [hb, g28z_0o_1, g28z_0o_2, Int.toNat_natCast, allT, b1, b2, b3, b4, b7, b8, Bool.not_false, Bool.not_true, Bool.and_true, if_true, Bool.false_eq_true, if_false, k28z_0o_0]
  refine ⟨fun hb => ?_, fun hb => ?_⟩
  ·rw [hst _ hb]
   unfold V28z_0o q28z_0o_3
   simp only [Int.toNat_natCast]
   have hb' : isNi (aE (f i)) = false := hb
   rw [if_pos b1, hb']; rfl
  ·have h2 := hst _ hb
   unfold V28z_0o q28z_0o_3 at h2
   simp only [Int.toNat_natCast] at h2
   have hb' : isNi (aE (f i)) = true := hb
   rw [if_pos b1, hb', b5, obv_eq hH] at h2
   refine ⟨_, h2, .inr ⟨by simp, H.next, (H.drop L).new ⟨3, 1, isz xs ++ [T.int .i64 (aV (f i))]⟩, by simp; rfl, ?_⟩⟩
   rw [get_new, if_pos (show H.next = (H.drop L).next from rfl)]
   simp [isz]
def numT (xs : List Int) : T := if xs = [] then .nils else .sl false (isz xs)
theorem num_end (xs : List Int) (σ : S28z) (h : AtN q xs q σ) : (M28z m te fu q f).step σ = some (.inr (.tup [numT xs, .bool true])) := by
 have b0 : decide ((q : Int) < q) = false := decide_eq_false (by omega)
 rcases h with ⟨rfl, rfl⟩ | ⟨hne, L, H, rfl, hH⟩
 ·show step28z_0n m te fu q f q q = _
  rw [T28z_0n m te fu q f q q (by unfold K28z_0n; rw [b0]; simp only [g28z_0n_3, allT, b0, Bool.not_false, Bool.and_true, Bool.false_eq_true, if_false])]
  unfold V28z_0n
  rw [b0]; rfl
 ·have hz : frzT 19 H (.osl L 1 0 xs.length) = some (.sl false (isz xs)) := frz_row (d := 17) hH rfl (by simp [isz]) (by simp [isz, scal1])
  have hz2 : frzT 20 H (.tup [.osl L 1 0 xs.length, .bool true]) = some (.tup [.sl false (isz xs), .bool true]) := by
   show (match mapO (frzT 19 H) [.osl L 1 0 xs.length, .bool true] with | some ys => some (T.tup ys) | none => none) = _
   simp only [mapO, hz]
   rfl
  show step28z_0o m te fu q f L xs.length q q H = _
  rw [T28z_0o m te fu q f L xs.length q q H (by unfold K28z_0o q28z_0o_3; rw [b0, hz2]; simp only [g28z_0o_3, allT, b0, Bool.not_false, Bool.and_true, Bool.false_eq_true, if_false]; rfl)]
  unfold V28z_0o q28z_0o_3
  rw [b0, hz2]
  unfold numT
  rw [if_neg hne]; rfl
theorem num_run : ∀ (p i : Nat) (σ : S28z), p + i = q → AtN q ((List.range i).map fun j => aV (f j)) i σ →
  Runs (M28z m te fu q f) σ (if allR f p i then .tup [numT ((List.range q).map fun j => aV (f j)), .bool true] else .tup [.nils, .bool false]) := by
 intro p
 induction p with
 | zero =>
  intro i σ hp h
  have : i = q := by omega
  subst this
  exact .done (num_end m te fu i f hq hf _ σ h)
 | succ p ih =>
  intro i σ hp h
  obtain ⟨h1, h2⟩ := num_st m te fu q f hq hf i (by omega) _ (by simp; omega) σ h
  unfold allR
  cases hb : aOk (f i) with
  | false => exact .done (h1 hb)
  | true =>
   obtain ⟨σ', a, b⟩ := h2 hb
   refine .next a (ih (i + 1) σ' (by omega) ?_)
   rw [List.range_succ, List.map_append]
   exact b
end
theorem numbers_ok {m : Int} {te : TypeId} (fu : Bool) (q : Nat) (f : Nat → List UInt8) (hq : q ≤ 1000000) (hf : ∀ i, i < q → (f i).length ≤ 281474976710656) :
  PureFn prog (gl1 m te) 28 [.slf fu q (fun i => .str (f i))] (.tup [.slf false (if allR f q 0 then q else 0) (fun i => .int .i64 (aV (f i))), .bool (allR f q 0)]) := by
 obtain ⟨n, hr⟩ := num_run m te fu q f hq hf q 0 (.l0n q (0 : Nat)) (by omega) (.inl ⟨rfl, rfl⟩)
 have key : PureFn prog (gl1 m te) 28 [.slf fu q (fun i => .str (f i))] (if allR f q 0 then .tup [numT ((List.range q).map fun j => aV (f j)), .bool true] else .tup [.nils, .bool false]) :=
  c28z m te fu q f n rfl (by unfold V28z_s; exact hr)
 refine key.mono fun g v hv => ?_
 cases h : allR f q 0 with
 | false =>
  rw [h] at hv
  exact rd_tup1 (fun u hu => rd_nslf _ _ hu) hv
 | true =>
  rw [h] at hv
  refine rd_tup1 (fun u hu => ?_) hv
  unfold numT at hu
  simp only [if_true]
  split at hu
  ·rename_i e
   have : q = 0 := by simpa using e
   subst this
   exact rd_nslf _ _ hu
  ·exact rd_slf hu (fun x hx => by obtain ⟨z, _, rfl⟩ := List.mem_map.1 hx; rfl) (by simp [isz]) (fun i hi => by simp [isz, hi])
end Go.Proofs.Tryz

/- strings.SplitSeq's iterator: what it hands to the body of a range. -/
namespace Go.Proofs.Tryz
open Go.RowKit Go.Shelf Go.Ps
attribute [local go_sem] Oper.semAt_some
def lays143_ren : Go.Shelf.Ren := ⟨fun | 143 => 69 | 219 => 94 | 217 => 108 | 225 => 109 | 224 => 110 | 267 => 111 | 266 => 118 | 314 => 119 | n => n, fun | 9 => 9 | 4 => 4 | 59 => 94 | 3 => 3 | 5 => 5 | 46 => 125 | 146 => 142 | 51 => 129 | n => n, fun | 1 => 1 | n => n⟩
theorem lays143 : Go.Proofs.Lays.n143 prog lays143_ren := {
 mixed := by kernel_rfl
 f143 := func69.trans (congrArg some (by kernel_rfl))
 f217 := func108.trans (congrArg some (by kernel_rfl))
 f219 := func94.trans (congrArg some (by kernel_rfl))
 f224 := func110.trans (congrArg some (by kernel_rfl))
 f225 := func109.trans (congrArg some (by kernel_rfl))
 f266 := func118.trans (congrArg some (by kernel_rfl))
 f267 := func111.trans (congrArg some (by kernel_rfl))
 f314 := func119.trans (congrArg some (by kernel_rfl))
 t3 := underlying3
 a3 := isAgg3
 z3 := sizeOf3
 v3 := zeroValue3
 t4 := underlying4
 a4 := isAgg4
 z4 := sizeOf4
 v4 := zeroValue4
 t5 := underlying5
 a5 := isAgg5
 z5 := sizeOf5
 v5 := zeroValue5
 t9 := underlying9
 a9 := isAgg9
 z9 := sizeOf9
 v9 := zeroValue9
 t46 := underlying125
 a46 := isAgg125
 z46 := sizeOf125
 v46 := zeroValue125
 t51 := underlying129
 a51 := isAgg129
 z51 := sizeOf129
 v51 := zeroValue129
 t146 := underlying142
 a146 := isAgg142
 z146 := sizeOf142
 v146 := zeroValue142
 g1 := by kernel_rfl }
structure Sqc (m : Int) (sb cb vb : Nat) (sep t : ByteArray) (W : World) : Prop where
 s : W.cell? ⟨sb, 0, none⟩ = some (.string sep)
 c : W.cell? ⟨cb, 0, none⟩ = some (.string t)
 cf : W.frozen? ⟨cb, 0, none⟩ = false
 v : W.cell? ⟨vb, 0, none⟩ = some (.int .i64 0)
 m : W.cell? ⟨1, 0, none⟩ = some (.int .i64 m)
def Kpq (sb cb vb : Nat) (A B : World) : Prop := B.heap[sb]? = A.heap[sb]? ∧ B.heap[cb]? = A.heap[cb]? ∧ B.heap[vb]? = A.heap[vb]? ∧ B.heap[1]? = A.heap[1]?
theorem Sqc.kept {m : Int} {sb cb vb : Nat} {sep t : ByteArray} {A B : World} (h : Sqc m sb cb vb sep t A) (k : Kpq sb cb vb A B) : Sqc m sb cb vb sep t B :=
 ⟨(World.cell?_of_block k.1).trans h.s, (World.cell?_of_block k.2.1).trans h.c, by have := h.cf; unfold World.frozen? at this ⊢; simp only [k.2.1]; exact this, (World.cell?_of_block k.2.2.1).trans h.v, (World.cell?_of_block k.2.2.2).trans h.m⟩
def strSize : Option Value → Nat
 | some (.string s) => s.size
 | _ => 0
theorem sq_seq (m : Int) (sb cb vb : Nat) (h1 : sb ≠ cb) (h2 : vb ≠ cb) (h3 : cb ≠ 1) (sep : ByteArray) (hsep : 1 ≤ sep.size) (s : ByteArray) (hs : s.size < 4294967281) (n : Nat) (hn : 1 ≤ n) (K : Nat) (hK : s.size ≤ K) :
  SeqC Fence.wide n prog 115 #[.pointer (some ⟨sb, 0, none⟩), .pointer (some ⟨cb, 0, none⟩), .pointer (some ⟨vb, 0, none⟩)] (fun x : ByteArray => #[.string x]) cb (Kpq sb cb vb) (Sqc m sb cb vb sep s)
   (Lib.splitB sep 0 K s) := by
 intro l J Jx W hAt hJ hJx hY h0
 have hsep0 : ¬ (sep.size = 0) := by omega
 have hi := hAt.s
 refine callsIn_of_wp func115 rfl trivial ?_ rfl
 simp only [ntmps115, List.size_toArray, List.length_cons, List.length_nil, Nat.reduceAdd, Nat.reduceSub, Array.replicate_succ, Array.replicate_zero, List.push_toArray, List.append_toArray, List.nil_append, List.cons_append]
 gi_wp2
 gi_loopw [] (fun wr => ∃ (pre : List ByteArray) (k : Nat) (t : ByteArray), Lib.splitB sep 0 K s = pre ++ Lib.splitB sep 0 k t ∧ t.size ≤ k ∧ t.size < 4294967281 ∧ Sqc m sb cb vb sep t wr ∧ J pre wr)
  (fun wr => strSize (wr.cell? ⟨cb, 0, none⟩))
 case atStart => exact ⟨[], K, s, rfl, hK, hs, hAt, h0⟩
 case round =>
  obtain ⟨pre, k, t, hx, hk, hts, hq, hJs⟩ := hrel
  have q1 := hq.s
  have q2 := hq.c
  have q3 := hq.cf
  have q4 := hq.v
  have q5 := hq.m
  rcases Lib.index_spec t.data.toList sep.data.toList with ⟨hi1, _⟩ | ⟨i, hi1, hi2, _, _⟩
  ·obtain ⟨fn, tmps, assign, body, hy, hR⟩ := hY pre t wr (by rw [hx, Lib.splitB_miss sep 0 k t hi1]; exact List.prefix_refl _) hJs
   gi_wp2_with (refine ⟨trivial, ?_⟩; gi_at_call 69; refine (callsIn_wide.2 (Any.strings_Index lays143 t sep m wr hts q5)).mono ?_; rw [hi1]; rintro e w' ⟨rfl, rfl⟩)
   refine hR.mono ?_
   rintro e W3 (⟨rfl, hJ3, hk3⟩ | ⟨rfl, hJx3⟩)
   ·gi_wp2
    go_end0
    exact ⟨⟨_, rfl⟩, .inl (by rw [hx, Lib.splitB_miss sep 0 k t hi1]; exact hJ3)⟩
   ·gi_wp2
    go_end0
    exact ⟨⟨_, rfl⟩, .inr ⟨_, hJx3⟩⟩
  ·have e1 : t.data.toList.length = t.size := by first | exact Lib.size_eq t | exact (Lib.size_eq t).symm | rfl
   have e2 : sep.data.toList.length = sep.size := by first | exact Lib.size_eq sep | exact (Lib.size_eq sep).symm | rfl
   have hil := Lib.index_room t.data.toList sep.data.toList (by omega)
   have hl : 1 ≤ t.size := by omega
   obtain ⟨k', rfl⟩ : ∃ k', k = k' + 1 := ⟨k - 1, by omega⟩
   have hit := Lib.splitB_hit sep 0 k' t i hi1
   rw [Nat.add_zero] at hit
   obtain ⟨fn, tmps, assign, body, hy, hR⟩ := hY pre (t.extract 0 i) wr (by rw [hx, hit]; exact ⟨Lib.splitB sep 0 k' (t.extract (i + sep.size) t.size), by simp⟩) hJs
   have hb1 : (i : Int) ≤ t.size := by omega
   have hb2 : (i : Int) + sep.size ≤ t.size := by omega
   have hb3 : ((i : Int) + sep.size).toNat = i + sep.size := by omega
   gi_wp2_with (refine ⟨trivial, ?_⟩; gi_at_call 69; refine (callsIn_wide.2 (Any.strings_Index lays143 t sep m wr hts q5)).mono ?_; rw [hi1]; rintro e w' ⟨rfl, rfl⟩)
   refine hR.mono ?_
   rintro e W3 (⟨rfl, hJ3, hk3⟩ | ⟨rfl, hJx3⟩)
   ·have hq3 := hq.kept hk3
    have p1 := hq3.s
    have p2 := hq3.c
    have p3 := hq3.cf
    gi_wp2
    have hc' : (W3.setCell ⟨cb, 0, none⟩ (.string (t.extract (i + sep.size) t.size))).cell? ⟨cb, 0, none⟩ = some (.string (t.extract (i + sep.size) t.size)) := World.cell?_setCell_same' _ _ _ (by rw [p2]; rfl)
    have hsz : (t.extract (i + sep.size) t.size).size = t.size - (i + sep.size) := by rw [ByteArray.size_extract]; omega
    have ho : ∀ b, b ≠ cb → ∀ v, W3.cell? ⟨b, 0, none⟩ = some v → (W3.setCell ⟨cb, 0, none⟩ (.string (t.extract (i + sep.size) t.size))).cell? ⟨b, 0, none⟩ = some v := fun b hb v hv =>
     (World.cell?_of_block (Below.heap_setCell W3 ⟨cb, 0, none⟩ _ b hb)).trans hv
    refine ⟨⟨pre ++ [t.extract 0 i], k', t.extract (i + sep.size) t.size, by rw [hx, hit]; simp, by omega, by omega, ⟨ho _ h1 _ p1, hc', by rw [World.frozen?_setCell]; exact p3, ho _ h2 _ hq3.v, ho _ (fun e => h3 e.symm) _ hq3.m⟩, hJ.store _ _ _ hJ3⟩, ?_⟩
    rw [hc', q2]
    show (t.extract (i + sep.size) t.size).size < t.size
    omega
   ·gi_wp2
    refine bodyPost_ret (results_none rfl _ _ _) rfl ?_
    exact ⟨⟨_, rfl⟩, .inr ⟨_, hJx3⟩⟩
end Go.Proofs.Tryz

/- stamp.Parse: what it returns at every text. -/
namespace Go.Proofs.Tryz
noncomputable section
open Go.RowKit Go.Shelf Go.Ps
attribute [local go_sem] Oper.semAt_some
set_option maxRecDepth 100000
structure PG (m : Int) (te : TypeId) (g : G) (W : World) : Prop where
 ok : Gok g
 nw : ∃ N, ∀ l, N ≤ l → ¬ g.al l
 gl : GlOk (gl1 m te) g
 bl : Below g.w.heap.size g.w W
section
variable {m : Int} {te : TypeId} {g : G} {W : World}
theorem PG.more (h : PG m te g W) {W' : World} (hb : Below g.w.heap.size W W') : PG m te g W' := ⟨h.ok, h.nw, h.gl, h.bl.trans hb⟩
theorem PG.gok (h : PG m te g W) : Gok { g with w := W } := gok_below h.ok h.bl.size
theorem PG.glok (h : PG m te g W) : GlOk (gl1 m te) { g with w := W } := h.gl.pstep (pstep_below h.bl)
theorem PG.max (h : PG m te g W) : W.cell? ⟨1, 0, none⟩ = some (.int .i64 m) := maxLen_of h.glok
theorem number_pl (h : PG m te g W) (x : ByteArray) (hx : x.size ≤ 281474976710656) :
  Calls prog 73 #[.string x] W fun e w' => e = .returned (.tuple #[.int .i64 (aV x.data.toList), .bool (nOk x.data.toList)]) ∧ Below W.heap.size W w' := by
 refine ((number_ok (m := m) (te := te) x.data.toList (by have := Lib.size_eq x; omega)).2 { g with w := W } [.string x] h.gok h.nw h.glok (RdL.cons (.str x) RdL.nil)).mono ?_
 rintro e w' ⟨v, g', rfl, rfl, hp, _, hr⟩
 refine ⟨?_, ⟨hp.os, hp.tape, hp.output, hp.size, hp.block⟩⟩
 cases hr with
 | tup cs vs h1 h2 =>
  match vs, h1, h2 with
  | [a, b], _, h2 =>
   have r1 := h2 0 a _ rfl rfl
   have r2 := h2 1 b _ rfl rfl
   cases r1
   cases r2
   rfl
theorem seq_pl (n : Nat) (hn : 1 ≤ n) (s sep : ByteArray) (W : World) : CallsIn Fence.wide n prog 74 #[.string s, .string sep] W fun e w' =>
  e = .returned (.func (.func 115) #[] #[.pointer (some ⟨W.heap.size + 1, 0, none⟩), .pointer (some ⟨W.heap.size, 0, none⟩), .pointer (some ⟨W.heap.size + 1 + 1, 0, none⟩)]) ∧
   w' = ((W.alloc (.cells #[.string s] 9)).alloc (.cells #[.string sep] 9)).alloc (.cells #[.int .i64 0] 3) := by
 have h101 : ∀ n, CallsIn Fence.wide n prog 101 #[.string s, .string sep, .int .i64 0] W fun e w' =>
  e = .returned (.func (.func 115) #[] #[.pointer (some ⟨W.heap.size + 1, 0, none⟩), .pointer (some ⟨W.heap.size, 0, none⟩), .pointer (some ⟨W.heap.size + 1 + 1, 0, none⟩)]) ∧
   w' = ((W.alloc (.cells #[.string s] 9)).alloc (.cells #[.string sep] 9)).alloc (.cells #[.int .i64 0] 3) := by
  intro n
  refine callsIn_of_wp func101 rfl trivial ?_ rfl
  simp only [ntmps101, List.size_toArray, List.length_cons, List.length_nil, Nat.reduceAdd, Nat.reduceSub, Array.replicate_succ, Array.replicate_zero, List.push_toArray, List.append_toArray, List.nil_append, List.cons_append]
  gi_wp2
  go_ret
  exact ⟨rfl, rfl⟩
 refine callsIn_of_wp func74 rfl trivial ?_ rfl
 simp only [ntmps74, List.size_toArray, List.length_cons, List.length_nil, Nat.reduceAdd, Nat.reduceSub, Array.replicate_succ, Array.replicate_zero, List.push_toArray, List.append_toArray, List.nil_append, List.cons_append]
 gi_wp2_with (refine ⟨trivial, ?_⟩; gi_at_call 101; refine (h101 _).mono ?_; rintro e w' ⟨rfl, rfl⟩)
 go_ret
 exact ⟨rfl, rfl⟩
def pcs (t : List UInt8) : List ByteArray := Lib.splitB ⟨#[46]⟩ 0 t.length ⟨t.toArray⟩
theorem cut_size (s : ByteArray) (sep : List UInt8) : (⟨(Lib.cut s.data.toList sep).1.toArray⟩ : ByteArray).size ≤ s.size ∧ (⟨(Lib.cut s.data.toList sep).2.1.toArray⟩ : ByteArray).size ≤ s.size := by
 have e : s.data.toList.length = s.size := by first | exact Lib.size_eq s | exact (Lib.size_eq s).symm | rfl
 have k : ∀ l : List UInt8, (⟨l.toArray⟩ : ByteArray).size = l.length := fun l => by show l.toArray.size = _; simp
 have e' : s.data.toList.length ≤ s.size := by omega
 refine ⟨?_, ?_⟩ <;> rw [k] <;> refine Nat.le_trans ?_ e' <;> unfold Lib.cut <;> split
 ·simp only [List.length_take]; omega
 ·exact Nat.le_refl _
 ·simp only [List.length_drop]; omega
 ·exact Nat.zero_le _
def hdB (s : List UInt8) : List UInt8 := (Lib.cut s [47]).1
def tlB (s : List UInt8) : List UInt8 := (Lib.cut s [47]).2.1
def psp (s : List UInt8) : Sp := ⟨aV (hdB s), (pcs (tlB s)).length, fun i => aV ((pcs (tlB s)).getD i ByteArray.empty).data.toList⟩
def pOk (s : List UInt8) : Bool := nOk (hdB s) && ((pcs (tlB s)).all (fun x => nOk x.data.toList) && decide (chk (psp s) = 0))
def RP (g : G) (s : List UInt8) (e : Ending) (W' : World) : Prop :=
 Below g.w.heap.size g.w W' ∧ (pOk s = false ∧ e = .returned (.tuple #[.agg #[.int .i64 0, .slice none 0 0], .int .i64 13]) ∨
  pOk s = true ∧ ∃ rv, e = .returned (.tuple #[.agg #[.int .i64 (aV (hdB s)), rv], .int .i64 0]) ∧ W'.ownsRow g.w.heap.size 3 1 rv (pcs (tlB s)).length ((pcs (tlB s)).map fun x => .int .i64 (aV x.data.toList)))
def Stb (n0 B : Nat) (W W' : World) : Prop := Below n0 W W' ∧ ∀ (k : Nat) (c : Array Value) (e : TypeId) (f : Nat × Nat), (k = n0 ∨ k = n0 + 1 ∨ k = n0 + 2 ∨ B ≤ k) → W.heap[k]? = some (.cells c e f) → W'.heap[k]? = some (.cells c e f)
structure PI (g : G) (B : Nat) (A : Int) (pre : List ByteArray) (W : World) : Prop where
 bl : Below g.w.heap.size g.w W
 b0 : W.heap[g.w.heap.size]? = some (.cells #[.int .i64 0, .slice none 0 0] 39 (0, 0))
 b1 : W.heap[g.w.heap.size + 1]? = some (.cells #[.int .i64 0] 27 (0, 0))
 row : ∃ v, W.heap[g.w.heap.size + 2]? = some (.cells #[.int .i64 A, v] 39 (0, 0)) ∧ W.ownsRow B 3 1 v pre.length (pre.map fun x => .int .i64 (aV x.data.toList))
 all : pre.all (fun x => nOk x.data.toList) = true
 lt : B ≤ W.heap.size
structure PX (g : G) (xs : List ByteArray) (c : Code) (pre : List ByteArray) (W : World) : Prop where
 c : c = .ret
 bl : Below g.w.heap.size g.w W
 b0 : W.heap[g.w.heap.size]? = some (.cells #[.int .i64 0, .slice none 0 0] 39 (0, 0))
 b1 : W.heap[g.w.heap.size + 1]? = some (.cells #[.int .i64 13] 27 (0, 0))
 all : xs.all (fun x => nOk x.data.toList) = false
theorem PI.stb {B : Nat} {A : Int} {pre : List ByteArray} {W' : World} (h : PI g B A pre W) (k : Stb g.w.heap.size B W W') : PI g B A pre W' := by
 obtain ⟨v, h1, h2, h3⟩ := h.row
 refine ⟨h.bl.trans k.1, k.2 _ _ _ _ (.inl rfl) h.b0, k.2 _ _ _ _ (.inr (.inl rfl)) h.b1, ⟨v, k.2 _ _ _ _ (.inr (.inr (.inl rfl))) h1, h2, ?_⟩, h.all, Nat.le_trans h.lt k.1.size⟩
 rcases h3 with h3 | ⟨q, cap, cur, a, b, c, d⟩
 ·exact .inl h3
 ·exact .inr ⟨q, cap, cur, a, b, k.2 _ _ _ _ (.inr (.inr (.inr b))) c, d⟩
theorem PX.stb {B : Nat} {xs : List ByteArray} {c : Code} {pre : List ByteArray} {W' : World} (h : PX g xs c pre W) (k : Stb g.w.heap.size B W W') : PX g xs c pre W' :=
 ⟨h.c, h.bl.trans k.1, k.2 _ _ _ _ (.inl rfl) h.b0, k.2 _ _ _ _ (.inr (.inl rfl)) h.b1, h.all⟩
theorem stb_below {n0 B : Nat} {W W' : World} (hn : n0 ≤ W.heap.size) (k : Below W.heap.size W W') : Stb n0 B W W' := ⟨k.mono hn, fun j c e f _ hj => (k.block j (Array.getElem?_eq_some_iff.1 hj).1).trans hj⟩
theorem stb_alloc {n0 B : Nat} {W : World} (hn : n0 ≤ W.heap.size) (o : Obj) : Stb n0 B W (W.alloc o) := stb_below hn ((Below.refl _ W).alloc (Nat.le_refl _) o)
theorem stb_drew {n0 B : Nat} {W : World} (hn : n0 ≤ W.heap.size) : Stb n0 B W W.drew := stb_below hn (Below.refl _ W).drew
theorem stb_store {n0 B cb : Nat} {W : World} (h1 : n0 + 3 ≤ cb) (h2 : cb < B) (v : Value) : Stb n0 B W (W.setCell ⟨cb, 0, none⟩ v) :=
 ⟨(Below.refl _ W).setCell (p := ⟨cb, 0, none⟩) (by show n0 ≤ cb; omega) v, fun j c e f hq hj => (Below.heap_setCell W _ v j (by show j ≠ cb; omega)).trans hj⟩
theorem stb_put {n0 B l : Nat} {W : World} (h1 : n0 ≤ B) (hl : B ≤ l) {o : Obj} (ho : W.heap[l]? = some o) (hc : o.isCells = false) (o' : Obj) : Stb n0 B W (W.putObj l o') :=
 ⟨⟨rfl, rfl, rfl, by simp [World.putObj], fun k hk => World.putObj_heap_other (by omega)⟩, fun j c e f hq hj => (World.putObj_heap_other (fun q => by subst q; rw [hj] at ho; cases ho; cases hc)).trans hj⟩
theorem ow_PI {B cb : Nat} {A : Int} (h1 : g.w.heap.size + 3 ≤ cb) (h2 : cb < B) : OwC B cb (PI g B A) where
 alloc s W o h := h.stb (stb_alloc h.bl.size o)
 drew s W h := h.stb (stb_drew h.bl.size)
 store s W v h := h.stb (stb_store h1 h2 v)
 put s W l o o' h hl ho hc := h.stb (stb_put (by omega) hl ho hc o')
theorem ow_PX {B cb : Nat} {xs : List ByteArray} (h1 : g.w.heap.size + 3 ≤ cb) (h2 : cb < B) (c : Code) : OwC B cb (PX g xs c) where
 alloc s W o h := h.stb (B := B) (stb_alloc h.bl.size o)
 drew s W h := h.stb (B := B) (stb_drew h.bl.size)
 store s W v h := h.stb (B := B) (stb_store h1 h2 v)
 put s W l o o' h hl ho hc := h.stb (B := B) (stb_put (by omega) hl ho hc o')
theorem piece_size (sep : ByteArray) : ∀ (k : Nat) (s x : ByteArray), x ∈ Lib.splitB sep 0 k s → x.size ≤ s.size
 | 0, s, x, h => by simp [Lib.splitB] at h; subst h; exact Nat.le_refl _
 | k + 1, s, x, h => by
  unfold Lib.splitB at h
  split at h
  ·simp at h; subst h; exact Nat.le_refl _
  ·rcases List.mem_cons.1 h with rfl | h
   ·rw [ByteArray.size_extract]; omega
   ·have := piece_size sep k _ x h
    rw [ByteArray.size_extract] at this; omega
theorem splitB_len (sep : ByteArray) (hs : 1 ≤ sep.size) : ∀ (k : Nat) (s : ByteArray), (Lib.splitB sep 0 k s).length ≤ s.size + 1
 | 0, s => by simp [Lib.splitB]
 | k + 1, s => by
  unfold Lib.splitB
  split
  ·simp
  ·rename_i hne
   have := splitB_len sep hs k (s.extract ((Lib.indexB s sep).toNat + sep.size) s.size)
   rw [ByteArray.size_extract] at this
   have hr : 1 ≤ s.size := by
    rcases Lib.index_spec s.data.toList sep.data.toList with ⟨hi1, _⟩ | ⟨i, hi1, hi2, _, _⟩
    ·exact absurd (beq_iff_eq.2 hi1) hne
    ·have e1 : s.data.toList.length = s.size := by first | exact Lib.size_eq s | exact (Lib.size_eq s).symm | rfl
     have e2 : sep.data.toList.length = sep.size := by first | exact Lib.size_eq sep | exact (Lib.size_eq sep).symm | rfl
     have hil := Lib.index_room s.data.toList sep.data.toList (by omega)
     omega
   simp only [List.length_cons]; omega
theorem info3 : (prog.info? 3).map (fun i => (i.zero, i.size, i.bytes)) = some (some (.int .i64 0), 1, 8) := by kernel_rfl
theorem ownBlock_ge {W : World} {B e sz : Nat} {v : Value} {n : Nat} {xs : List Value} (h : W.ownsRow B e sz v n xs) (k : Nat) (hk : v.ownBlock = some k) : B ≤ k ∧ ∃ cur, W.heap[k]? = some (.cells cur e (0, 0)) := by
 rcases h.2 with ⟨rfl, _⟩ | ⟨q, cap, cur, rfl, hb, hc, _⟩
 ·cases hk
 ·cases hk; exact ⟨hb, cur, hc⟩
theorem PI.appended {B : Nat} {A z : Int} {pre : List ByteArray} {x : ByteArray} {W w1 : World} {v v' : Value} {o : Obj} (h : PI g B A pre W) (hB : g.w.heap.size + 3 ≤ B) (r1 : W.heap[g.w.heap.size + 2]? = some (.cells #[.int .i64 A, v] 39 (0, 0)))
  (r2 : W.ownsRow B 3 1 v pre.length (pre.map fun x => .int .i64 (aV x.data.toList))) (hg : (W.alloc o).grownBy w1 v.ownBlock) (hown : w1.ownsRow B 3 1 v' (pre.length + 1) ((pre.map fun x => Value.int .i64 (aV x.data.toList)) ++ [.int .i64 z]))
  (hz : z = aV x.data.toList) (hk : nOk x.data.toList = true) :
  w1.heap[g.w.heap.size + 2]? = some (.cells #[.int .i64 A, v] 39 (0, 0)) ∧ PI g B A (pre ++ [x]) (w1.setCell ⟨g.w.heap.size + 2, 1, none⟩ v') ∧ (∀ k, k < B → k ≠ g.w.heap.size + 2 → (w1.setCell ⟨g.w.heap.size + 2, 1, none⟩ v').heap[k]? = W.heap[k]?) ∧ KeepsFrom B W (w1.setCell ⟨g.w.heap.size + 2, 1, none⟩ v') := by
 have hlt := h.lt
 have hs : (W.alloc o).heap.size = W.heap.size + 1 := by simp
 have low : ∀ k, k < B → w1.heap[k]? = W.heap[k]? := fun k hk => (hg.block k (by omega) (fun e => by have := (ownBlock_ge r2 k e.symm).1; omega)).trans (Below.heap_alloc _ _ _ (by omega))
 have lo2 : ∀ k, k < B → k ≠ g.w.heap.size + 2 → (w1.setCell ⟨g.w.heap.size + 2, 1, none⟩ v').heap[k]? = W.heap[k]? := fun k hk hn => (Below.heap_setCell _ _ _ _ hn).trans (low k hk)
 have q1 := (low _ (by omega)).trans r1
 have hsz : (w1.setCell ⟨g.w.heap.size + 2, 1, none⟩ v').heap.size = w1.heap.size := by simp [World.setCell]
 have hsz2 := hg.size
 refine ⟨q1, ⟨h.bl.trans ⟨hg.os, hg.tape, hg.output, by omega, fun k hk => lo2 k (by omega) (by omega)⟩, (lo2 _ (by omega) (by omega)).trans h.b0, (lo2 _ (by omega) (by omega)).trans h.b1, ⟨v', ?_, ?_⟩, ?_, by omega⟩, lo2, ⟨by omega, fun k ob hk hob hc => ?_⟩⟩
 ·simp [World.setCell, Array.getElem?_modify, q1]
 ·rw [List.length_append, List.map_append]
  subst hz
  refine ⟨hown.1, ?_⟩
  rcases hown.2 with q | ⟨q, cap, cur, a, b, c, d⟩
  ·exact .inl q
  ·exact .inr ⟨q, cap, cur, a, b, (Below.heap_setCell _ _ _ _ (by show q ≠ g.w.heap.size + 2; omega)).trans c, d⟩
 ·rw [List.all_append, h.all]; simp [hk]
 ·refine (Below.heap_setCell _ _ _ _ (by show k ≠ g.w.heap.size + 2; omega)).trans ?_
  have hkl := (Array.getElem?_eq_some_iff.1 hob).1
  refine ((hg.block k (by omega) (fun e => ?_)).trans (Below.heap_alloc _ _ _ hkl)).trans hob
  obtain ⟨_, cur, q⟩ := ownBlock_ge r2 k e.symm
  rw [hob] at q; cases q; cases hc
theorem keeps_below {B : Nat} {W W' : World} (h : Below W.heap.size W W') : KeepsFrom B W W' := ⟨h.size, fun k o _ hk _ => (h.block k (Array.getElem?_eq_some_iff.1 hk).1).trans hk⟩
theorem PI.left {B : Nat} {A : Int} {pre xs : List ByteArray} {W : World} (h : PI g B A pre W) (hB : g.w.heap.size + 3 ≤ B) (q : List ByteArray) (hx : xs.all (fun x => nOk x.data.toList) = false) :
  KeepsFrom B W (((W.setCell ⟨g.w.heap.size, 0, none⟩ (.int .i64 0)).setCell ⟨g.w.heap.size, 1, none⟩ (.slice none 0 0)).setCell ⟨g.w.heap.size + 1, 0, none⟩ (.int .i64 13)) ∧
   PX g xs .ret q (((W.setCell ⟨g.w.heap.size, 0, none⟩ (.int .i64 0)).setCell ⟨g.w.heap.size, 1, none⟩ (.slice none 0 0)).setCell ⟨g.w.heap.size + 1, 0, none⟩ (.int .i64 13)) := by
 refine ⟨⟨by simp [World.setCell], fun k o hk hob _ => ?_⟩, ⟨rfl, ?_, ?_, ?_, hx⟩⟩
 ·exact (Below.heap_setCell _ _ _ _ (by show k ≠ g.w.heap.size + 1; omega)).trans ((Below.heap_setCell _ _ _ _ (by show k ≠ g.w.heap.size; omega)).trans ((Below.heap_setCell _ _ _ _ (by show k ≠ g.w.heap.size; omega)).trans hob))
 ·exact ((h.bl.setCell (p := ⟨g.w.heap.size, 0, none⟩) (Nat.le_refl _) _).setCell (p := ⟨g.w.heap.size, 1, none⟩) (Nat.le_refl _) _).setCell (p := ⟨g.w.heap.size + 1, 0, none⟩) (Nat.le_add_right _ _) _
 ·refine (Below.heap_setCell _ _ _ _ (by show g.w.heap.size ≠ g.w.heap.size + 1; omega)).trans ?_
  simp [World.setCell, Array.getElem?_modify, h.b0]
 ·have := h.b1
  simp [World.setCell, Array.getElem?_modify, this]
theorem row_rd {B : Nat} {v : Value} {xs : List Int} {n : Nat} (h : W.ownsRow B 3 1 v n (xs.map (Value.int .i64))) (f : Nat → Int) (hf : ∀ i z, xs[i]? = some z → f i = z) :
  RdI { g with w := W, S := fun b => g.S b ∨ v.ownBlock = some b } v (.slf false n (fun i => .int .i64 (f i))) := by
 obtain ⟨h1, h2⟩ := h
 rcases h2 with ⟨rfl, rfl⟩ | ⟨q, cap, cur, rfl, hb, hc, h3, h4, h5, h6⟩
 ·exact .slfn _ _ _
 ·refine .slf false n _ 1 q 0 cap (xs.map (Value.int .i64)) (fun _ => .inr rfl) (fun i _ => rfl) h3 h4 (fun e => by cases e) h1 (fun j u hu => ?_) (fun i j u c hi hj hu hc' => ?_)
  ·rw [← h6, List.getElem?_take] at hu
   split at hu
   ·show W.cell? _ = _
    simp [World.cell?, hc] at hu ⊢; exact hu
   ·cases hu
  ·have hj0 : j = 0 := by omega
   subst hj0
   simp only [T.cells, List.getElem?_cons_zero, Option.some.injEq] at hc'
   subst hc'
   simp only [Nat.mul_one, Nat.add_zero, List.getElem?_map, Option.map_eq_some_iff] at hu
   obtain ⟨z, hz, rfl⟩ := hu
   rw [hf i z hz]
   exact .int _ _
theorem row_gok {B : Nat} {v : Value} {vs : List Value} {n : Nat} (h : PG m te g W) (hr : W.ownsRow B 3 1 v n vs) : Gok { g with w := W, S := fun b => g.S b ∨ v.ownBlock = some b } := by
 intro b hb
 rcases hb with hb | hb
 ·exact h.gok b hb
 ·obtain ⟨_, cur, q⟩ := ownBlock_ge hr b hb
  exact (Array.getElem?_eq_some_iff.1 q).1
theorem row_glok {B : Nat} {v : Value} {vs : List Value} {n : Nat} (h : PG m te g W) (hr : W.ownsRow B 3 1 v n vs) (hB : g.w.heap.size ≤ B) : PStep g { g with w := W, S := fun b => g.S b ∨ v.ownBlock = some b } :=
 ⟨h.bl.os, h.bl.tape, h.bl.output, h.bl.size, h.bl.block, fun b hb => .inl hb, fun b hb => hb.elim .inl (fun q => .inr (by have := (ownBlock_ge hr b q).1; omega)), rfl, rfl, rfl⟩
theorem check_pl {B n : Nat} {v : Value} {A : Int} {xs : List Int} (h : PG m te g W) (hr : W.ownsRow B 3 1 v n (xs.map (Value.int .i64))) (hB : g.w.heap.size ≤ B) (hn : n ≤ 281474976710656) (f : Nat → Int) (hf : ∀ i z, xs[i]? = some z → f i = z) :
  Calls prog 41 #[.agg #[.int .i64 A, v]] W fun e w' => e = .returned (.int .i64 (chk ⟨A, n, f⟩)) ∧ Below W.heap.size W w' := by
 have hp := row_glok h hr hB
 refine ((pure1 (m := m) (te := te) (c32 ⟨A, n, f⟩ hn)).2 { g with w := W, S := fun b => g.S b ∨ v.ownBlock = some b } [.agg #[.int .i64 A, v]] (row_gok h hr) h.nw (h.gl.pstep hp) (RdL.cons ?_ RdL.nil)).mono ?_
 ·exact Rd.mk_agg (vs := [.int .i64 A, v]) (RdL.cons (.int _ _) (RdL.cons (row_rd hr f hf).rd RdL.nil))
 ·rintro e w' ⟨u, g', rfl, rfl, hp', _, hu⟩
  cases hu
  exact ⟨rfl, ⟨hp'.os, hp'.tape, hp'.output, hp'.size, hp'.block⟩⟩
theorem parse_end {W : World} {a b c : Value} {tmps : Array Value} (h0 : W.heap[g.w.heap.size]? = some (.cells #[a, b] 39 (0, 0))) (h1 : W.heap[g.w.heap.size + 1]? = some (.cells #[c] 27 (0, 0)))
  (t2 : tmps[2]?.getD undef = .pointer (some ⟨g.w.heap.size, 0, none⟩)) (t3 : tmps[3]?.getD undef = .pointer (some ⟨g.w.heap.size + 1, 0, none⟩)) : (results f50 tmps).run prog W = .ok (.tuple #[.agg #[a, b], c]) W := by
 have f1 : W.cell? ⟨g.w.heap.size, 0, none⟩ = some a := by simp [World.cell?, h0]
 have f2 : W.cell? ⟨g.w.heap.size, 1, none⟩ = some b := by simp [World.cell?, h0]
 have f3 : W.cell? ⟨g.w.heap.size + 1, 0, none⟩ = some c := by simp [World.cell?, h1]
 simp [results, f50, go_sem, f1, f2, f3, t2, t3]
theorem below_end {n0 D : Nat} {w W : World} (h : Below n0 w W) (hD : n0 ≤ D) (a b c : Value) : Below n0 w ((((W.setCell ⟨n0, 0, none⟩ a).setCell ⟨n0, 1, none⟩ b).setCell ⟨n0 + 1, 0, none⟩ c).putObj D (.deferred none)) :=
 (((h.setCell (p := ⟨n0, 0, none⟩) (Nat.le_refl _) a).setCell (p := ⟨n0, 1, none⟩) (Nat.le_refl _) b).setCell (p := ⟨n0 + 1, 0, none⟩) (Nat.le_add_right _ _) c).trans ⟨rfl, rfl, rfl, by simp [World.putObj], fun k hk => World.putObj_heap_other (by omega)⟩
set_option maxHeartbeats 4000000 in
theorem parse_w (s : ByteArray) (hs : s.size < 4294967281) (h : PG m te g g.w) : CallsIn Fence.wide 6 prog 50 #[.string s] g.w (RP g s.data.toList) := by
 refine callsIn_of_wp_marks func50 rfl trivial ?_ rfl
 simp only [ntmps50, List.size_toArray, List.length_cons, List.length_nil, Nat.reduceAdd, Nat.reduceSub, Array.replicate_succ, Array.replicate_zero, List.push_toArray, List.append_toArray, List.nil_append, List.cons_append]
 gi_wp2
 have hb0 : Below g.w.heap.size g.w ((g.w.alloc (Obj.cells #[Value.int IntKind.i64 0, Value.slice none 0 0] 39)).alloc (Obj.cells #[Value.int IntKind.i64 0] 27)) := ((Below.refl _ g.w).alloc (Nat.le_refl _) _).alloc (by simp) _
 have c0 : ((g.w.alloc (Obj.cells #[Value.int IntKind.i64 0, Value.slice none 0 0] 39)).alloc (Obj.cells #[Value.int IntKind.i64 0] 27)).heap[g.w.heap.size]? = some (.cells #[.int .i64 0, .slice none 0 0] 39 (0, 0)) := (Below.heap_alloc _ _ _ (by simp)).trans (World.alloc_heap_new g.w _)
 have c1 : ((g.w.alloc (Obj.cells #[Value.int IntKind.i64 0, Value.slice none 0 0] 39)).alloc (Obj.cells #[Value.int IntKind.i64 0] 27)).heap[g.w.heap.size + 1]? = some (.cells #[.int .i64 0] 27 (0, 0)) := by
  have := World.alloc_heap_new (g.w.alloc (Obj.cells #[Value.int IntKind.i64 0, Value.slice none 0 0] 39)) (.cells #[.int .i64 0] 27); rwa [World.size_alloc] at this
 have c2 : ((g.w.alloc (Obj.cells #[Value.int IntKind.i64 0, Value.slice none 0 0] 39)).alloc (Obj.cells #[Value.int IntKind.i64 0] 27)).heap.size = g.w.heap.size + 2 := by simp
 generalize ((g.w.alloc (Obj.cells #[Value.int IntKind.i64 0, Value.slice none 0 0] 39)).alloc (Obj.cells #[Value.int IntKind.i64 0] 27)) = W0 at hb0 c0 c1 c2 ⊢
 have h0 := h.more hb0
 obtain ⟨hd, tl, fo, Hc⟩ : ∃ (hd tl : ByteArray) (fo : Bool), Hid (hd = ⟨(Lib.cut s.data.toList [47]).1.toArray⟩ ∧ tl = ⟨(Lib.cut s.data.toList [47]).2.1.toArray⟩ ∧ fo = (Lib.cut s.data.toList [47]).2.2) := ⟨_, _, _, rfl, rfl, rfl⟩
 have hsz := cut_size s [47]
 rw [← Hc.out.1, ← Hc.out.2.1] at hsz
 refine ⟨trivial, (callsIn_wide.2 (Any.strings_Cut lays145 s ⟨#[47]⟩ m W0 hs h0.max)).mono ?_⟩
 rintro e w' ⟨rfl, n, rfl⟩
 rw [show (⟨#[47]⟩ : ByteArray).data.toList = [47] from rfl, ← Hc.out.1, ← Hc.out.2.1, ← Hc.out.2.2]
 have hb1 : Below g.w.heap.size W0 (W0.drewN n) := ⟨by simp [World.drewN], by simp [World.drewN], by simp [World.drewN], by simp [World.drewN], fun k _ => by simp [World.drewN]⟩
 have h1 := h0.more hb1
 have d0 : (W0.drewN n).heap[g.w.heap.size]? = some (.cells #[.int .i64 0, .slice none 0 0] 39 (0, 0)) := by simpa [World.drewN] using c0
 have d1 : (W0.drewN n).heap[g.w.heap.size + 1]? = some (.cells #[.int .i64 0] 27 (0, 0)) := by simpa [World.drewN] using c1
 have d2 : (W0.drewN n).heap.size = g.w.heap.size + 2 := by simpa [World.drewN] using c2
 generalize W0.drewN n = W1 at h1 d0 d1 d2 ⊢
 clear c0 c1 c2 hb0 hb1 h0
 gi_wp2
 have hb2 : Below g.w.heap.size W1 (W1.alloc (Obj.cells #[Value.int IntKind.i64 0, Value.slice none 0 0] 39)) := (Below.refl _ W1).alloc (by omega) _
 have h2 := h1.more hb2
 refine ⟨trivial, (callsIn_wide.2 (number_pl h2 hd (by omega))).mono ?_⟩
 rintro e W2 ⟨rfl, hb3⟩
 have h3 := h2.more (hb3.mono (by simp; omega))
 have e0 : W2.heap[g.w.heap.size]? = some (.cells #[.int .i64 0, .slice none 0 0] 39 (0, 0)) := (hb3.block _ (by simp; omega)).trans ((Below.heap_alloc _ _ _ (by omega)).trans d0)
 have e1 : W2.heap[g.w.heap.size + 1]? = some (.cells #[.int .i64 0] 27 (0, 0)) := (hb3.block _ (by simp; omega)).trans ((Below.heap_alloc _ _ _ (by omega)).trans d1)
 have e2 : W2.heap[g.w.heap.size + 2]? = some (.cells #[.int .i64 0, .slice none 0 0] 39 (0, 0)) := (hb3.block _ (by simp; omega)).trans (by have := World.alloc_heap_new W1 (Obj.cells #[Value.int IntKind.i64 0, Value.slice none 0 0] 39); rwa [d2] at this)
 have e3 : g.w.heap.size + 3 ≤ W2.heap.size := by have := hb3.size; simp at this; omega
 clear d0 d1 d2 hb2 hb3 h1 h2
 obtain ⟨A, HA⟩ : ∃ A, Hid (A = aV hd.data.toList) := ⟨_, rfl⟩
 obtain ⟨ok, Hok⟩ : ∃ ok, Hid (ok = nOk hd.data.toList) := ⟨_, rfl⟩
 rw [← HA.out, ← Hok.out]
 have f1 : W2.cell? ⟨g.w.heap.size + 2, 0, none⟩ = some (.int .i64 0) := by simp [World.cell?, e2]
 have f2 : W2.frozen? ⟨g.w.heap.size + 2, 0, none⟩ = false := by simp [World.frozen?, e2]
 have f3 : W2.cell? ⟨g.w.heap.size, 0, none⟩ = some (.int .i64 0) := by simp [World.cell?, e0]
 have f4 : W2.frozen? ⟨g.w.heap.size, 0, none⟩ = false := by simp [World.frozen?, e0]
 have f5 : W2.cell? ⟨g.w.heap.size, 1, none⟩ = some (.slice none 0 0) := by simp [World.cell?, e0]
 have f6 : W2.frozen? ⟨g.w.heap.size, 1, none⟩ = false := by simp [World.frozen?, e0]
 have f7 : W2.cell? ⟨g.w.heap.size + 1, 0, none⟩ = some (.int .i64 0) := by simp [World.cell?, e1]
 have f8 : W2.frozen? ⟨g.w.heap.size + 1, 0, none⟩ = false := by simp [World.frozen?, e1]
 cases ok with
 | false =>
  gi_wp2
  refine ⟨.tuple #[.agg #[.int .i64 0, .slice none 0 0], .int .i64 13], ?_, h3.bl.trans (((((Below.refl g.w.heap.size W2).setCell (p := ⟨g.w.heap.size + 2, 0, none⟩) (Nat.le_add_right _ _) _).setCell (p := ⟨g.w.heap.size, 0, none⟩) (Nat.le_refl _) _).setCell (p := ⟨g.w.heap.size, 1, none⟩) (Nat.le_refl _) _).setCell (p := ⟨g.w.heap.size + 1, 0, none⟩) (Nat.le_add_right _ _) _), .inl ⟨?_, rfl⟩⟩
  ·simp [results, f50, go_sem, f3, f5, f7]
  ·unfold pOk hdB
   have := Hok.out
   rw [Hc.out.1] at this
   have e5 : (⟨(Lib.cut s.data.toList [47]).1.toArray⟩ : ByteArray).data.toList = (Lib.cut s.data.toList [47]).1 := by simp
   rw [e5] at this
   rw [← this]; rfl
 | true =>
  gi_wp2
  obtain ⟨W3, HW3⟩ : ∃ W3, W3 = W2.setCell { block := g.w.heap.size + 2, off := 0 } (Value.int IntKind.i64 A) := ⟨_, rfl⟩
  have hb4 : Below g.w.heap.size W2 W3 := by rw [HW3]; exact (Below.refl _ W2).setCell (by show g.w.heap.size ≤ g.w.heap.size + 2; omega) _
  have h4 := h3.more hb4
  have g0 : W3.heap[g.w.heap.size]? = some (.cells #[.int .i64 0, .slice none 0 0] 39 (0, 0)) := by rw [HW3]; exact (Below.heap_setCell _ _ _ _ (by show g.w.heap.size ≠ g.w.heap.size + 2; omega)).trans e0
  have g1 : W3.heap[g.w.heap.size + 1]? = some (.cells #[.int .i64 0] 27 (0, 0)) := by rw [HW3]; exact (Below.heap_setCell _ _ _ _ (by show g.w.heap.size + 1 ≠ g.w.heap.size + 2; omega)).trans e1
  have g2 : W3.heap[g.w.heap.size + 2]? = some (.cells #[.int .i64 A, .slice none 0 0] 39 (0, 0)) := by rw [HW3]; simp [World.setCell, Array.getElem?_modify, e2]
  have g3 : g.w.heap.size + 3 ≤ W3.heap.size := by have := hb4.size; omega
  rw [← HW3]
  clear HW3 hb4 e0 e1 e2 e3 f1 f2 f3 f4 f5 f6 f7 f8 h3
  refine ⟨trivial, (seq_pl 5 (by omega) tl ⟨#[46]⟩ W3).mono ?_⟩
  rintro e w' ⟨rfl, rfl⟩
  gi_wp2
  obtain ⟨W4, HW4⟩ : ∃ W4, ((W3.alloc (.cells #[.string tl] 9)).alloc (.cells #[.string ⟨#[46]⟩] 9)).alloc (.cells #[.int .i64 0] 3) = W4 := ⟨_, rfl⟩
  have hz4 : W4.heap.size = W3.heap.size + 3 := by rw [← HW4]; simp
  have hst : Stb g.w.heap.size (W3.heap.size + 3) W3 W4 := by
   refine stb_below h4.bl.size ?_
   rw [← HW4]
   exact (((Below.refl _ W3).alloc (Nat.le_refl _) _).alloc (by simp) _).alloc (by simp; omega) _
  have hI0 : PI g (W3.heap.size + 3) A [] W4 := by
   refine ⟨h4.bl.trans hst.1, hst.2 _ _ _ _ (.inl rfl) g0, hst.2 _ _ _ _ (.inr (.inl rfl)) g1, ⟨_, hst.2 _ _ _ _ (.inr (.inr (.inl rfl))) g2, World.ownsRow_nil _ _ _ _⟩, rfl, by omega⟩
  have hw0 : W4.heap[W3.heap.size]? = some (.cells #[.string tl] 9 (0, 0)) := by
   rw [← HW4]; exact ((Below.heap_alloc _ _ _ (by simp; omega)).trans (Below.heap_alloc _ _ _ (by simp))).trans (World.alloc_heap_new W3 _)
  have hw1 : W4.heap[W3.heap.size + 1]? = some (.cells #[.string ⟨#[46]⟩] 9 (0, 0)) := by
   rw [← HW4]; refine (Below.heap_alloc _ _ _ (by simp)).trans ?_
   have := World.alloc_heap_new (W3.alloc (.cells #[.string tl] 9)) (.cells #[.string ⟨#[46]⟩] 9); rwa [World.size_alloc] at this
  have hw2 : W4.heap[W3.heap.size + 1 + 1]? = some (.cells #[.int .i64 0] 3 (0, 0)) := by
   rw [← HW4]
   have := World.alloc_heap_new ((W3.alloc (.cells #[.string tl] 9)).alloc (.cells #[.string ⟨#[46]⟩] 9)) (.cells #[.int .i64 0] 3); rwa [World.size_alloc, World.size_alloc] at this
  have h1lt : 1 < g.w.heap.size := lt_of_cell h.max
  have hSq : Sqc m (W3.heap.size + 1) W3.heap.size (W3.heap.size + 1 + 1) ⟨#[46]⟩ tl W4 :=
   ⟨by simp [World.cell?, hw1], by simp [World.cell?, hw0], by simp [World.frozen?, hw0], by simp [World.cell?, hw2], (h4.more hst.1).max⟩
  rw [HW4]
  obtain ⟨xs, Hxs⟩ : ∃ xs, Hid (xs = Lib.splitB ⟨#[46]⟩ 0 tl.size tl) := ⟨_, rfl⟩
  have hseq := sq_seq m (W3.heap.size + 1) W3.heap.size (W3.heap.size + 1 + 1) (by omega) (by omega) (by omega) ⟨#[46]⟩ (by decide) tl (by omega) 5 (by omega) tl.size (Nat.le_refl _)
  rw [← Hxs.out] at hseq
  have hxl : xs.length ≤ tl.size + 1 := by rw [Hxs.out]; exact splitB_len _ (by decide) _ _
  have hxm : ∀ x ∈ xs, x.size ≤ tl.size := fun x hx => piece_size _ _ _ _ (by rw [Hxs.out] at hx; exact hx)
  have e5 : (⟨(Lib.cut s.data.toList [47]).1.toArray⟩ : ByteArray).data.toList = (Lib.cut s.data.toList [47]).1 := by simp
  have Hsp : Hid (psp s.data.toList = ⟨A, xs.length, fun i => aV (xs.getD i ByteArray.empty).data.toList⟩ ∧ xs = pcs (tlB s.data.toList) ∧ A = aV (hdB s.data.toList) ∧ nOk (hdB s.data.toList) = true) := by
   have q1 : A = aV (hdB s.data.toList) := by rw [HA.out, Hc.out.1, e5]; rfl
   have q2 : xs = pcs (tlB s.data.toList) := by
    rw [Hxs.out]
    unfold pcs tlB
    rw [← Hc.out.2.1]
    congr 1
    rw [Hc.out.2.1]
    show (Lib.cut s.data.toList [47]).2.1.toArray.size = _
    simp
   have q3 : nOk (hdB s.data.toList) = true := by
    have := Hok.out
    rw [Hc.out.1, e5] at this
    exact this.symm
   exact ⟨by unfold psp; rw [← q1, ← q2], q2, q1, q3⟩
  clear HW4 g0 g1 g2 e5
  refine range_cell rfl (by omega) (gf := 115) rfl trivial (enters_of func115 (by kernel_rfl) rfl) hseq (by omega) hSq
   (fun W o hq => hq.kept ⟨Below.heap_alloc _ _ _ (lt_of_cell hq.s), Below.heap_alloc _ _ _ (lt_of_cell hq.c), Below.heap_alloc _ _ _ (lt_of_cell hq.v), Below.heap_alloc _ _ _ (lt_of_cell hq.m)⟩)
   (fun a b => ⟨b.1.trans a.1, b.2.1.trans a.2.1, b.2.2.1.trans a.2.2.1, b.2.2.2.trans a.2.2.2⟩)
   (fun W l o o' hl _ _ => ⟨World.putObj_heap_other (by omega), World.putObj_heap_other (by omega), World.putObj_heap_other (by omega), World.putObj_heap_other (by omega)⟩)
   (fun _ => rfl) (PI g (W3.heap.size + 3) A) (PX g xs) (hz4 ▸ ow_PI (by omega) (by omega)) (fun c => hz4 ▸ ow_PX (by omega) (by omega) c) hI0
   (fun x => { tmps := #[.string s, undef, .pointer (some ⟨g.w.heap.size, 0, none⟩), .pointer (some ⟨g.w.heap.size + 1, 0, none⟩), .string hd, .string tl, .bool fo, .pointer (some ⟨g.w.heap.size + 2, 0, none⟩), .bool true, .string x, undef, undef,
    .tuple #[.string hd, .string tl, .bool fo], .string s, .tuple #[.string hd, .string tl, .bool fo], .string hd, .string tl, .bool fo, .tuple #[.int .i64 A, .bool true], .string hd, .tuple #[.int .i64 A, .bool true], .int .i64 A, .bool true,
    .pointer (some ⟨g.w.heap.size + 2, 0, none⟩), .bool true, .bool false, undef, .string tl,
    .func (.func 115) #[] #[.pointer (some ⟨W3.heap.size + 1, 0, none⟩), .pointer (some ⟨W3.heap.size, 0, none⟩), .pointer (some ⟨W3.heap.size + 1 + 1, 0, none⟩)], .string x, undef, undef, undef, undef, undef, undef, undef, undef, undef, undef, undef, undef, undef, undef, undef, undef, undef, undef, undef], defers := [] }) ?assign ?body ?done ?stop
  case assign =>
   intro l x W K hK
   gi_wp2
   exact hK
  case body =>
   intro l pre x W hpre hI
   have h5 : PG m te g W := ⟨h.ok, h.nw, h.gl, hI.bl⟩
   have hx : x.size ≤ tl.size := hxm x (hpre.subset (by simp))
   have hpl : pre.length + 1 ≤ xs.length := by have := hpre.length_le; simpa using this
   have hmx : maxLen = 9223372036854775807 := rfl
   obtain ⟨i0, hi, hz0, hz1, hz2⟩ := info_parts info3
   gi_wp2
   refine ⟨trivial, (CallsIn.inRound l (callsIn_wide.2 (number_pl h5 x (by omega)))).mono ?_⟩
   rintro e W5 ⟨rfl, hb5⟩
   have hI5 := hI.stb (stb_below hI.bl.size hb5)
   obtain ⟨v, r1, r2⟩ := hI5.row
   have r3 := hI5.b0
   have r4 := hI5.b1
   have f1 : W5.cell? ⟨g.w.heap.size + 2, 1, none⟩ = some v := by simp [World.cell?, r1]
   have f2 : W5.frozen? ⟨g.w.heap.size + 2, 1, none⟩ = false := by simp [World.frozen?, r1]
   have f3 : W5.cell? ⟨g.w.heap.size, 0, none⟩ = some (.int .i64 0) := by simp [World.cell?, r3]
   have f4 : W5.frozen? ⟨g.w.heap.size, 0, none⟩ = false := by simp [World.frozen?, r3]
   have f5 : W5.cell? ⟨g.w.heap.size, 1, none⟩ = some (.slice none 0 0) := by simp [World.cell?, r3]
   have f6 : W5.frozen? ⟨g.w.heap.size, 1, none⟩ = false := by simp [World.frozen?, r3]
   have f7 : W5.cell? ⟨g.w.heap.size + 1, 0, none⟩ = some (.int .i64 0) := by simp [World.cell?, r4]
   have f8 : W5.frozen? ⟨g.w.heap.size + 1, 0, none⟩ = false := by simp [World.frozen?, r4]
   obtain ⟨z, Hz⟩ : ∃ z, Hid (z = aV x.data.toList) := ⟨_, rfl⟩
   obtain ⟨ok, Hk⟩ : ∃ ok, Hid (ok = nOk x.data.toList) := ⟨_, rfl⟩
   rw [← Hz.out, ← Hk.out]
   cases ok with
   | false =>
    gi_wp2
    rw [hz4]
    have hbad : xs.all (fun x => nOk x.data.toList) = false := by
     rw [List.all_eq_false]
     exact ⟨x, hpre.subset (by simp), by rw [← Hk.out]; simp⟩
    obtain ⟨u1, u2⟩ := hI5.left (xs := xs) (by omega) (pre ++ [x]) hbad
    exact ⟨(keeps_below hb5).trans u1, u2⟩
   | true =>
    gi_wp2_with (gi_at_builtin; refine wpListIn_append_own _ rfl _ _ 37 rfl (W3.heap.size + 3) 3 i0 (.int .i64 0) 1 8 underlying37 hi hz0 hz1 hz2 rfl (by decide) _ _ _ rfl (r2.alloc _) ⟨W5.heap.size, 0, none⟩ 1 1 [.int .i64 z] rfl rfl (cell_one_new _ _ _) (by simp [Value.oneCell']) (by omega) (by omega) (by have := hI5.lt; simp; omega) ?_; intro v' w1 hown' hgrow _; obtain ⟨g', cap', rfl⟩ := ownsRow_succ hown'; obtain ⟨y1, y2, y3, y4⟩ := hI5.appended (by omega) r1 r2 hgrow hown' Hz.out Hk.out.symm; have hc1 : w1.cell? ⟨g.w.heap.size + 2, 1, none⟩ = some v := (by simp [World.cell?, y1]); have hf1 : w1.frozen? ⟨g.w.heap.size + 2, 1, none⟩ = false := (by simp [World.frozen?, y1]))
    rw [hz4]
    have hlt := hI.lt
    refine ⟨(keeps_below hb5).trans y4, ⟨?_, ?_, ?_, ?_⟩, y2⟩ <;> exact (y3 _ (by omega) (by omega)).trans (hb5.block _ (by omega))
  case done =>
   intro D W hD hI hK
   obtain ⟨v, r1, r2⟩ := hI.row
   have h5 : PG m te g W := ⟨h.ok, h.nw, h.gl, hI.bl⟩
   have f1 : W.cell? ⟨g.w.heap.size + 2, 0, none⟩ = some (.int .i64 A) := by simp [World.cell?, r1]
   have f2 : W.cell? ⟨g.w.heap.size + 2, 1, none⟩ = some v := by simp [World.cell?, r1]
   have r2' : W.ownsRow (W3.heap.size + 3) 3 1 v xs.length ((xs.map fun x => aV x.data.toList).map (Value.int .i64)) := by rw [List.map_map]; exact r2
   gi_wp2
   refine ⟨trivial, (callsIn_wide.2 (check_pl h5 r2' (by omega) (by omega) (fun i => aV (xs.getD i ByteArray.empty).data.toList) (fun i z hz => ?_))).mono ?_⟩
   ·simp only [List.getElem?_map, Option.map_eq_some_iff] at hz
    obtain ⟨b, hb, rfl⟩ := hz
    rw [List.getD_eq_getElem?_getD, hb]; rfl
   ·rintro e W6 ⟨rfl, hb6⟩
    have hI6 := hI.stb (stb_below hI.bl.size hb6)
    obtain ⟨C, HC⟩ : ∃ C, Hid (C = chk ⟨A, xs.length, fun i => aV (xs.getD i ByteArray.empty).data.toList⟩) := ⟨_, rfl⟩
    rw [← HC.out]
    have r3 := hI6.b0
    have r4 := hI6.b1
    have r5 : W6.heap[g.w.heap.size + 2]? = some (.cells #[.int .i64 A, v] 39 (0, 0)) := (hb6.block _ (Array.getElem?_eq_some_iff.1 r1).1).trans r1
    have f1 : W6.cell? ⟨g.w.heap.size + 2, 0, none⟩ = some (.int .i64 A) := by simp [World.cell?, r5]
    have f2 : W6.cell? ⟨g.w.heap.size + 2, 1, none⟩ = some v := by simp [World.cell?, r5]
    have f3 : W6.cell? ⟨g.w.heap.size, 0, none⟩ = some (.int .i64 0) := by simp [World.cell?, r3]
    have f4 : W6.frozen? ⟨g.w.heap.size, 0, none⟩ = false := by simp [World.frozen?, r3]
    have f5 : W6.cell? ⟨g.w.heap.size, 1, none⟩ = some (.slice none 0 0) := by simp [World.cell?, r3]
    have f6 : W6.frozen? ⟨g.w.heap.size, 1, none⟩ = false := by simp [World.frozen?, r3]
    have f7 : W6.cell? ⟨g.w.heap.size + 1, 0, none⟩ = some (.int .i64 0) := by simp [World.cell?, r4]
    have f8 : W6.frozen? ⟨g.w.heap.size + 1, 0, none⟩ = false := by simp [World.frozen?, r4]
    have hK6 : W6.heap[D]? = some (.deferred (some [])) := (hb6.block _ (Array.getElem?_eq_some_iff.1 hK).1).trans hK
    have hne : D ≠ g.w.heap.size ∧ D ≠ g.w.heap.size + 1 ∧ g.w.heap.size ≤ D := by omega
    have r6 := (hI6.row)
    by_cases hC : C = 0
    ·obtain ⟨p, l, c, rfl⟩ : ∃ p l c, v = .slice p l c := by
      rcases r2.2 with ⟨q, _⟩ | ⟨_, _, _, q, _⟩
      ·exact ⟨_, _, _, q⟩
      ·exact ⟨_, _, _, q⟩
     gi_wp2
     refine ⟨by simp, .inl ⟨_, _, rfl, run_takeDeferred (w := ((W6.setCell ⟨g.w.heap.size, 0, none⟩ (.int .i64 A)).setCell ⟨g.w.heap.size, 1, none⟩ (.slice p l c)).setCell ⟨g.w.heap.size + 1, 0, none⟩ (.int .i64 0)) ((Below.heap_setCell _ _ _ _ hne.2.1).trans ((Below.heap_setCell _ _ _ _ hne.1).trans ((Below.heap_setCell _ _ _ _ hne.1).trans hK6))), ?_⟩⟩
     refine ⟨.tuple #[.agg #[.int .i64 A, .slice p l c], .int .i64 0], parse_end ?_ ?_ rfl rfl, ?_, .inr ⟨?_, .slice p l c, ?_, ?_⟩⟩
     ·refine (World.putObj_heap_other (by omega)).trans ((Below.heap_setCell _ _ _ _ (by show g.w.heap.size ≠ g.w.heap.size + 1; omega)).trans ?_)
      simp [World.setCell, Array.getElem?_modify, r3]
     ·refine (World.putObj_heap_other (by omega)).trans ?_
      simp [World.setCell, Array.getElem?_modify, r4]
     ·exact below_end hI6.bl hne.2.2 _ _ _
     ·unfold pOk
      rw [Hsp.out.1, Hsp.out.2.2.2, ← Hsp.out.2.1, hI.all, ← HC.out, hC]; rfl
     ·rw [← Hsp.out.2.2.1]
     ·rw [← Hsp.out.2.1]
      refine ⟨r2.1, ?_⟩
      rcases r2.2 with q | ⟨q, cap, cur, qa, qb, qc, qd⟩
      ·exact .inl q
      ·refine .inr ⟨q, cap, cur, qa, by omega, ?_, qd⟩
       have hql := (Array.getElem?_eq_some_iff.1 qc).1
       refine (World.putObj_heap_other (fun e => ?_)).trans ((Below.heap_setCell _ _ _ _ (by show q ≠ g.w.heap.size + 1; omega)).trans ((Below.heap_setCell _ _ _ _ (by show q ≠ g.w.heap.size; omega)).trans ((Below.heap_setCell _ _ _ _ (by show q ≠ g.w.heap.size; omega)).trans ((hb6.block _ hql).trans qc))))
       rw [e] at qc; rw [hK] at qc; cases qc
    ·gi_wp2
     refine ⟨by simp, .inl ⟨_, _, rfl, run_takeDeferred (w := ((W6.setCell ⟨g.w.heap.size, 0, none⟩ (.int .i64 0)).setCell ⟨g.w.heap.size, 1, none⟩ (.slice none 0 0)).setCell ⟨g.w.heap.size + 1, 0, none⟩ (.int .i64 13)) ((Below.heap_setCell _ _ _ _ hne.2.1).trans ((Below.heap_setCell _ _ _ _ hne.1).trans ((Below.heap_setCell _ _ _ _ hne.1).trans hK6))), ?_⟩⟩
     refine ⟨.tuple #[.agg #[.int .i64 0, .slice none 0 0], .int .i64 13], parse_end ?_ ?_ rfl rfl, ?_, .inl ⟨?_, rfl⟩⟩
     ·refine (World.putObj_heap_other (by omega)).trans ((Below.heap_setCell _ _ _ _ (by show g.w.heap.size ≠ g.w.heap.size + 1; omega)).trans ?_)
      simp [World.setCell, Array.getElem?_modify, r3]
     ·refine (World.putObj_heap_other (by omega)).trans ?_
      simp [World.setCell, Array.getElem?_modify, r4]
     ·exact below_end hI6.bl hne.2.2 _ _ _
     ·unfold pOk
      rw [Hsp.out.1, Hsp.out.2.2.2, ← Hsp.out.2.1, hI.all, ← HC.out, decide_eq_false hC]; rfl
  case stop =>
   intro D c pre W hD hX hK
   obtain ⟨rfl, q1, q2, q3, q4⟩ := hX
   gi_wp2
   refine ⟨by simp, .inl ⟨_, _, rfl, run_takeDeferred hK, ?_⟩⟩
   refine ⟨_, parse_end ((World.putObj_heap_other (by omega)).trans q2) ((World.putObj_heap_other (by omega)).trans q3) rfl rfl, ?_, .inl ⟨?_, rfl⟩⟩
   ·exact q1.trans ⟨rfl, rfl, rfl, by simp [World.putObj], fun k hk => World.putObj_heap_other (by omega)⟩
   ·unfold pOk
    rw [Hsp.out.2.2.2, ← Hsp.out.2.1, q4]; rfl
end
def psR (s : List UInt8) : T := if pOk s then .tup [spT (psp s), .int .i64 0] else .tup [spT ⟨0, 0, fun _ => 0⟩, .int .i64 13]
theorem parse_ok {m : Int} {te : TypeId} (s : List UInt8) (hs : s.length < 4294967281) : PureFn prog (gl1 m te) 50 [.str s] (psR s) := by
 refine ⟨by kernel_rfl, fun g vs hg hN hgl hv => ?_⟩
 match vs, hv with
 | [v], hv =>
  have e1 := str_inv (hv.inv_cons).1
  subst e1
  have hsz : (⟨s.toArray⟩ : ByteArray).size < 4294967281 := by show s.toArray.size < _; simpa using hs
  have hP : PG m te g g.w := ⟨hg, hN, hgl, Below.refl _ _⟩
  refine (callsIn_wide.1 (parse_w ⟨s.toArray⟩ hsz hP)).mono fun e w' hR => ?_
  have e2 : (⟨s.toArray⟩ : ByteArray).data.toList = s := by simp
  rw [e2] at hR
  obtain ⟨hB, ⟨hk, rfl⟩ | ⟨hk, rv, rfl, hr⟩⟩ := hR
  ·refine ⟨_, { g with w := w' }, rfl, rfl, pstep_below hB, gok_below hg hB.size, ?_⟩
   unfold psR
   rw [hk]
   exact Rd.mk_tup (vs := [_, _]) (RdL.cons (Rd.mk_agg (vs := [_, _]) (RdL.cons (.int _ _) (RdL.cons (.slfn _ _ _) RdL.nil))) (RdL.cons (.int _ _) RdL.nil))
  ·have hP' : PG m te g w' := ⟨hg, hN, hgl, hB⟩
   have hr' : w'.ownsRow g.w.heap.size 3 1 rv (pcs (tlB s)).length (((pcs (tlB s)).map fun x => aV x.data.toList).map (Value.int .i64)) := by rw [List.map_map]; exact hr
   refine ⟨_, { g with w := w', S := fun b => g.S b ∨ rv.ownBlock = some b }, rfl, rfl, row_glok hP' hr (Nat.le_refl _), row_gok hP' hr, ?_⟩
   unfold psR
   rw [hk]
   refine Rd.mk_tup (vs := [_, _]) (RdL.cons (Rd.mk_agg (vs := [_, _]) (RdL.cons (.int _ _) (RdL.cons (row_rd hr' _ (fun i z hz => ?_)).rd RdL.nil))) (RdL.cons (.int _ _) RdL.nil))
   simp only [List.getElem?_map, Option.map_eq_some_iff] at hz
   obtain ⟨b, hb, rfl⟩ := hz
   show aV ((pcs (tlB s)).getD i ByteArray.empty).data.toList = _
   rw [List.getD_eq_getElem?_getD, hb]; rfl
 | [], hv => simp [RdL] at hv
 | _ :: _ :: _, hv => simp [RdL] at hv
end
end Go.Proofs.Tryz

/- Objects lent to a pure callee; rows of plain structs told by a function; views of the abstract heap. -/
namespace Go.Ps
def pl1 : T → Bool
 | .int .. | .bool _ | .str _ | .nilp | .nils | .nilf | .nili | .nilm | .slf .. => true
 | _ => false
theorem pl1_rdI {g : G} {u : Value} {c : T} (h : pl1 c = true) (hr : Rd g u c) : RdI g u c := by
 cases hr with
 | int k n => exact .int k n
 | bool b => exact .bool b
 | str s => exact .str s
 | nilp => exact .nilp
 | nils => exact .nils
 | nilf => exact .nilf
 | nili => exact .nili
 | nilm => exact .nilm
 | slfn full f p => exact .slfn full f p
 | slf full n f sz b o cap vs h1 h2 h3 h4 h5 h6 h7 h8 => exact .slf full n f sz b o cap vs h1 h2 h3 h4 h5 h6 h7 h8
 | _ => simp [pl1] at h
theorem pl1_frz {n : Nat} {H : Hp} {c : T} (h : pl1 c = true) : frzT (n + 1) H c = some c := by
 cases c <;> simp [pl1] at h <;> rfl
theorem pl1_map {n : Nat} {H : Hp} : ∀ {cs : List T}, (∀ c ∈ cs, pl1 c = true) → mapO (frzT (n + 1) H) cs = some cs
 | [], _ => rfl
 | c :: cs, h => by
  have ih := pl1_map (n := n) (H := H) (cs := cs) (fun d hd => h d (List.mem_cons_of_mem _ hd))
  simp only [mapO, pl1_frz (h c (by simp)), ih]
theorem rd_slf2 {g : G} {v : Value} {full : Bool} {xs : List T} {n : Nat} {f : Nat → T} (h : Rd g v (.sl full xs)) (hs : ∀ x ∈ xs, ∀ c ∈ x.cells, pl1 c = true) (hn : xs.length = n) (hf : ∀ i, i < n → xs[i]? = some (f i)) : Rd g v (.slf full n f) := by
 subst hn
 cases h with
 | sl _ _ sz b o cap vs h1 h2 h3 h4 h5 h6 h7 h8 =>
  refine .slf full xs.length f sz b o cap vs (fun q => h1 (fun e => q (by simp [e]))) (fun i hi => h2 _ (List.mem_of_getElem? (hf i hi))) h3 h4 h5 h6 h7 (fun i j u c hi hj hu hc => ?_)
  have hm := List.mem_of_getElem? (hf i hi)
  have hr := h8 _ u c hu (rows_at h2 (hf i hi) j c hc)
  exact pl1_rdI (hs _ hm c (List.mem_of_getElem? hc)) hr
variable {P : Program} {gl : Nat → Option T}
theorem lend_pure {H : Hp} (hz : GlFrz gl) {f : FuncId} {t t' r : T} (hp : PureFn P gl f [t'] r) (hsc : scal r = true) (hl : ∀ g v, St g H → Rd g v t → Rd (g.frz H g) v t') : PeFn P gl H f [t] r := by
 refine ⟨hp.1, fun g vs hg hs hgl hv => ?_⟩
 have hg' : Gok (g.frz H g) := by
  intro b hb
  rcases hb with hb | ⟨l, o, ho, rfl⟩
  ·exact hg b hb
  ·exact hs.lt ho
 have hv' : RdL (g.frz H g) vs [t'] := by
  match vs, hv with
  | [v], hv => exact RdL.cons (hl g v hs (hv.inv_cons).1) RdL.nil
  | [], hv => simp [RdL] at hv
  | _ :: _ :: _, hv => simp [RdL] at hv
 refine (hp.2 (g.frz H g) vs hg' ⟨H.next, hs.new⟩ (GlOk.frz hz hs hgl) hv').mono fun e w' ⟨v, g', e1, e2, e3, e4, e5⟩ => ?_
 refine ⟨v, { g with w := g'.w }, e1, e2, ⟨e3.os, e3.tape, e3.output, e3.size, e3.block, fun _ q => q, fun _ q => .inl q, rfl, rfl, rfl⟩, fun b hb => Nat.lt_of_lt_of_le (hg b hb) e3.size, scal_rd hsc e5⟩
/-! views -/
theorem obv_get {H : Hp} {l : Nat} {o : Ob} (h : H.get l = some o) : obv H l = o := by unfold obv; rw [h]
theorem obIn_get {H : Hp} {l k : Nat} {o : Ob} (h : H.get l = some o) (hk : k ≤ o.cells.length) : obIn H l k = true := by unfold obIn; rw [h]; exact decide_eq_true hk
theorem get_new (H : Hp) (o : Ob) : (H.new o).get H.next = some o := by rw [findOb_new, if_pos rfl]
theorem get_new_ne {H : Hp} (o : Ob) {l : Nat} (h : l ≠ H.next) : (H.new o).get l = H.get l := by rw [findOb_new, if_neg (fun e => h e.symm)]
theorem get_put_same {H : Hp} {l : Nat} (o : Ob) (h : (H.get l).isSome = true) : (H.put l o).get l = some o := by rw [get_put H l o l h, if_pos rfl]
theorem get_put_ne {H : Hp} {l m : Nat} (o : Ob) (h : (H.get l).isSome = true) (hm : m ≠ l) : (H.put l o).get m = H.get m := by rw [get_put H l o m h, if_neg hm]
theorem get_drop_ne {H : Hp} {l m : Nat} (hm : m ≠ l) : (H.drop l).get m = H.get m := by
 unfold Hp.drop Hp.get
 show findOb (dropOb H.objs l) m = findOb H.objs m
 generalize H.objs = L
 induction L with
 | nil => rfl
 | cons p L ih =>
  obtain ⟨k, q⟩ := p
  simp only [dropOb, findOb]
  by_cases hk : k = l
  ·rw [if_pos hk, ih, if_neg (fun e : k = m => hm (by omega))]
  ·rw [if_neg hk]
   simp only [findOb]
   by_cases e : k = m
   ·rw [if_pos e, if_pos e]
   ·rw [if_neg e, if_neg e, ih]
end Go.Ps

/- The contracts of Parse and numbers in an environment. -/
namespace Go.Proofs.Tryz
noncomputable section
open Go.Ps
def pS (s : List UInt8) : Sp := if pOk s then psp s else ⟨0, 0, fun _ => 0⟩
def pE (s : List UInt8) : Int := if pOk s then 0 else 13
theorem psR_eq (s : List UInt8) : psR s = .tup [spT (pS s), .int .i64 (pE s)] := by
 unfold psR pS pE
 split <;> rfl
def s50z : List T → Option (T × List Bool)
 | [.str s] => some (.tup [.agg [.int .i64 (pS s).entry, .slf false (pS s).n (fun i => .int .i64 ((pS s).at_ i))], .int .i64 (pE s)], [decide (s.length < 4294967281)])
 | _ => none
def nN (f : Nat → List UInt8) (q : Nat) : Nat := if allR f q 0 then q else 0
def s28z : List T → Option (T × List Bool)
 | [.slf _ q f] => some (.tup [.slf false (nN (fun i => Go.Ps.strv (f i)) q) (fun i => .int .i64 (aV (Go.Ps.strv (f i)))), .bool (allR (fun i => Go.Ps.strv (f i)) q 0)],
   [decide (q ≤ 1000000), pb (∀ i, i < q → (Go.Ps.strv (f i)).length ≤ 281474976710656), isV (.slf false q f) (.slf false q (fun i => .str (Go.Ps.strv (f i))))])
 | _ => none
section
variable {m : Int} {te : TypeId}
theorem s50z_ok (ts : List T) (r : T) (cs : List Bool) (h : s50z ts = some (r, cs)) (hc : allT cs = true) : PureFn prog (gl1 m te) 50 ts r := by
 unfold s50z at h
 split at h
 ·rename_i s
  cases h
  simp only [allT, Bool.and_true, decide_eq_true_eq] at hc
  have := parse_ok (m := m) (te := te) s hc
  rw [psR_eq] at this
  exact this
 ·cases h
theorem s28z_ok (ts : List T) (r : T) (cs : List Bool) (h : s28z ts = some (r, cs)) (hc : allT cs = true) : PureFn prog (gl1 m te) 28 ts r := by
 unfold s28z at h
 split at h
 ·rename_i fu q f
  cases h
  simp only [allT, Bool.and_true, Bool.and_eq_true, decide_eq_true_eq, pb_iff, isV_iff] at hc
  obtain ⟨h1, h2, h3⟩ := hc
  have e : f = fun i => .str (Go.Ps.strv (f i)) := by injection h3
  have := numbers_ok (m := m) (te := te) fu q (fun i => Go.Ps.strv (f i)) h1 h2
  rw [← e] at this
  exact this
 ·cases h
end
def D60 (m : Int) (te : TypeId) : Ed := ⟨gl1 m te, pdAdd 50 s50z (pdAdd 28 s28z (D40 m te).pd)⟩
theorem d60ok (m : Int) (te : TypeId) : PeOk prog (gl1 m te) (D60 m te).env.pe := pdAdd_ok (pdAdd_ok (cx40 m te).hE s28z_ok) s50z_ok
def F29 : Fc := ⟨fun d => d == 2 || d == 1009 || d == 88 || d == 69 || d == 94, fun _ _ _ => none⟩
theorem cx60 (m : Int) (te : TypeId) : Cx prog (D60 m te) F29 := ⟨follows, d60ok m te, eeNone_ok⟩
end
end Go.Proofs.Tryz
