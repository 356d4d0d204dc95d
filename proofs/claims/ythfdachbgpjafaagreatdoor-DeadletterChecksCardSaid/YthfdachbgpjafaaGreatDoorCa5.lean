/- Texts merged: Ka, Kd, Kv, Ke, Lb, PsV, PsW, PsX, PsY, PsZ, Cv, C25, Cw, C10, Ck, Cx, C3, Nz, Lw, PsOp, PsDat, PsVl, PsOpV. -/
import Derived.Test.YthfdachbgpjafaaGreatDoorCa4
import Derived.Test.YthfdachbgpjafaaGreatDoorCa2
import Derived.Lib.LaidTab
import Derived.ChangeArms
import Derived.Carry
set_option linter.unusedSimpArgs false
set_option linter.unusedVariables false
set_option linter.unusedSectionVars false
/- Runs in bounds, by the kernel. -/
namespace Go.Proofs.Tryz
open Go.Ps
set_option maxRecDepth 100000
theorem ok29 : [29].all (fun f => okFn prog f && fnOk2 prog f) = true := by kernel_rfl
theorem ok55 : [55].all (fun f => okFn prog f && fnOk2 prog f) = true := by kernel_rfl
theorem ok8 : [8, 23].all (fun f => okFn prog f && fnOk2 prog f) = true := by kernel_rfl
theorem s35a : ctRun prog (cS 0 peN [29] []) 8 (c29 0) = true := by kernel_rfl
theorem s35b0 : ctRun prog (cS 0 pS1 [29] []) 8 (c29 0) = true := by kernel_rfl
theorem s35b1 : ctRun prog (cS 1 pS1 [29] []) 8 (c29 1) = true := by kernel_rfl
theorem s17_00 : ctRun prog (cS 0 pS2 [55] []) 8 (c55 0) = true := by kernel_rfl
theorem s17_10 : ctRun prog (cS 0 pS3 [55] []) 8 (c55 0) = true := by kernel_rfl
theorem s17_11 : ctRun prog (cS 1 pS3 [55] []) 8 (c55 1) = true := by kernel_rfl
theorem s17_20 : ctRun prog (cS 0 pS4 [55] []) 8 (c55 0) = true := by kernel_rfl
theorem s17_21 : ctRun prog (cS 1 pS4 [55] []) 8 (c55 1) = true := by kernel_rfl
theorem s17_22 : ctRun prog (cS 2 pS4 [55] []) 8 (c55 2) = true := by kernel_rfl
theorem s17_30 : ctRun prog (cS 0 pS5 [55] []) 8 (c55 0) = true := by kernel_rfl
theorem s17_31 : ctRun prog (cS 1 pS5 [55] []) 8 (c55 1) = true := by kernel_rfl
theorem s17_32 : ctRun prog (cS 2 pS5 [55] []) 8 (c55 2) = true := by kernel_rfl
theorem s17_33 : ctRun prog (cS 3 pS5 [55] []) 8 (c55 3) = true := by kernel_rfl
theorem s4 : ctRun prog (cS 3 pS6 [8, 23] [23]) 8 c8 = true := by kernel_rfl
end Go.Proofs.Tryz

/- Runs in bounds, by the kernel. -/
namespace Go.Proofs.Tryz
open Go.Ps
set_option maxRecDepth 100000
theorem k209 : ctRun prog cK1 8 c209 = true := by kernel_rfl
theorem k140 : ctRun prog cK2 8 c140 = true := by kernel_rfl
theorem k270 : ctRun prog cKq 8 c270 = true := by kernel_rfl
theorem k273 : ctRun prog cKq 8 c273 = true := by kernel_rfl
theorem k275 : ctRun prog cKq 8 c275 = true := by kernel_rfl
theorem kR : ∀ c ∈ lR, ctRun prog cKr 8 c = true := List.all_eq_true.1 (by kernel_rfl)
theorem k92 : ctRun prog cK3 8 c92 = true := by kernel_rfl
theorem okD : [137, 203, 204, 282, 283, 92, 139, 197, 206, 262].all (fun f => okFn prog f && fnOk2 prog f) = true := by kernel_rfl
theorem ok4 : [58, 88, 89, 90, 91, 93, 94, 138, 141].all (fun f => okFn prog f && fnOk2 prog f) = true := by kernel_rfl
theorem ok5 : [28, 57].all (fun f => okFn prog f && fnOk2 prog f) = true := by kernel_rfl
theorem ok1 : [209].all (fun f => okFn prog f && fnOk2 prog f) = true := by kernel_rfl
theorem ok2 : [140].all (fun f => okFn prog f && fnOk2 prog f) = true := by kernel_rfl
theorem okq : [270, 273, 275].all (fun f => okFn prog f && fnOk2 prog f) = true := by kernel_rfl
theorem okR : [26, 27, 60, 205, 317, 269, 271, 272, 274, 276, 277, 278, 279, 280, 281].all (fun f => okFn prog f && fnOk2 prog f) = true := by kernel_rfl
end Go.Proofs.Tryz

/- Runs in bounds, by the kernel. -/
namespace Go.Proofs.Tryz
open Go.Ps
set_option maxRecDepth 100000
theorem k137 : ctRun prog cKv 8 c137 = true := by kernel_rfl
end Go.Proofs.Tryz

/- Runs in bounds, by the kernel. -/
namespace Go.Proofs.Tryz
open Go.Ps
set_option maxRecDepth 100000
theorem k58 : ctRun prog cK4 8 c58 = true := by kernel_rfl
theorem k28 : ctRun prog cK5 8 c28 = true := by kernel_rfl
end Go.Proofs.Tryz

/- Layers of contracts: what each function answers is a function of its arguments alone, within bounds. -/
namespace Go.Proofs.Tryz
open Go.Ps
set_option maxRecDepth 100000
noncomputable section
theorem dep40 : dep ≤ 40 := by decide
def dZ : FuncId → Bool := fun f => memN f [115, 207, 208, 56, 40]
theorem gaNo {gl : Nat → Option T} : GlA gl (fun _ => none) := fun g a h => by cases h
theorem layZ (m : Int) (te : TypeId) : Lay prog (glZ m te) 40 (fun _ => none) peS peZ dZ := by
 refine ⟨gaNo, peS_ok, peZ_ok m te, fun f ts h => ?_⟩
 have hn : ∀ k, memN k [115, 207, 208, 56, 40] = true → f ≠ k := fun k hk e => by subst e; rw [show dZ f = memN f [115, 207, 208, 56, 40] from rfl, hk] at h; cases h
 unfold peZ
 rw [if_neg (hn 115 rfl), if_neg (hn 207 rfl), if_neg (hn 208 rfl), if_neg (hn 56 rfl), if_neg (hn 40 rfl)]
def eL1 (m : Int) (te : TypeId) : FuncId → List T → Option T := extP prog (glZ m te) peZ cK1.own cK1.top 40 fun f => ([c209]).any fun c => Nat.beq c.f f
def dL1 : FuncId → Bool := fun f => (([c209]).any fun c => Nat.beq c.f f) || dZ f
theorem lay1 (m : Int) (te : TypeId) : Lay prog (glZ m te) 40 (fun _ => none) pK1 (eL1 m te) dL1 := by
 have h := layZ m te
 refine Lay.step (X := cK1) h follows (glZFrz m te) dep40 (tl := [209]) rfl ok1 fun c hc => ?_
 simp only [List.mem_cons, List.not_mem_nil, or_false] at hc
 subst hc
 exact ⟨by kernel_rfl, cK1, 8, rfl, rfl, Lay.cn h rfl rfl (l := []) rfl (by kernel_rfl), k209⟩
def eL2 (m : Int) (te : TypeId) : FuncId → List T → Option T := extP prog (glZ m te) (eL1 m te) cK2.own cK2.top 40 fun f => ([c140]).any fun c => Nat.beq c.f f
def dL2 : FuncId → Bool := fun f => (([c140]).any fun c => Nat.beq c.f f) || dL1 f
theorem lay2 (m : Int) (te : TypeId) : Lay prog (glZ m te) 40 (fun _ => none) pK2 (eL2 m te) dL2 := by
 have h := lay1 m te
 refine Lay.step (X := cK2) h follows (glZFrz m te) dep40 (tl := [140]) rfl ok2 fun c hc => ?_
 simp only [List.mem_cons, List.not_mem_nil, or_false] at hc
 subst hc
 exact ⟨by kernel_rfl, cK2, 8, rfl, rfl, Lay.cn h rfl rfl (l := []) rfl (by kernel_rfl), k140⟩
def eLq (m : Int) (te : TypeId) : FuncId → List T → Option T := extP prog (glZ m te) (eL2 m te) cKq.own cKq.top 40 fun f => ([c270, c273, c275]).any fun c => Nat.beq c.f f
def dLq : FuncId → Bool := fun f => (([c270, c273, c275]).any fun c => Nat.beq c.f f) || dL2 f
theorem layq (m : Int) (te : TypeId) : Lay prog (glZ m te) 40 (fun _ => none) pKq (eLq m te) dLq := by
 have h := lay2 m te
 refine Lay.step (X := cKq) h follows (glZFrz m te) dep40 (tl := [270, 273, 275]) rfl okq fun c hc => ?_
 simp only [List.mem_cons, List.not_mem_nil, or_false] at hc
 rcases hc with rfl | rfl | rfl
 ·exact ⟨by kernel_rfl, cKq, 8, rfl, rfl, Lay.cn h rfl rfl (l := []) rfl (by kernel_rfl), k270⟩
 ·exact ⟨by kernel_rfl, cKq, 8, rfl, rfl, Lay.cn h rfl rfl (l := []) rfl (by kernel_rfl), k273⟩
 ·exact ⟨by kernel_rfl, cKq, 8, rfl, rfl, Lay.cn h rfl rfl (l := []) rfl (by kernel_rfl), k275⟩
theorem preR : ∀ c ∈ lR, lEv (pureA dep) c.pre = true := List.all_eq_true.1 (by kernel_rfl)
def eLr (m : Int) (te : TypeId) : FuncId → List T → Option T := extP prog (glZ m te) (eLq m te) cKr.own cKr.top 40 fun f => (lR).any fun c => Nat.beq c.f f
def dLr : FuncId → Bool := fun f => ((lR).any fun c => Nat.beq c.f f) || dLq f
theorem layr (m : Int) (te : TypeId) : Lay prog (glZ m te) 40 (fun _ => none) pKr (eLr m te) dLr := by
 have h := layq m te
 exact Lay.step (X := cKr) h follows (glZFrz m te) dep40 (tl := [26, 27, 60, 205, 317, 269, 271, 272, 274, 276, 277, 278, 279, 280, 281]) rfl okR fun c hc => ⟨preR c hc, cKr, 8, rfl, rfl, Lay.cn h rfl rfl (l := []) rfl rfl, kR c hc⟩
def eL3 (m : Int) (te : TypeId) : FuncId → List T → Option T := extP prog (glZ m te) (eLr m te) cK3.own cK3.top 40 fun f => ([c92, c137]).any fun c => Nat.beq c.f f
def dL3 : FuncId → Bool := fun f => (([c92, c137]).any fun c => Nat.beq c.f f) || dLr f
theorem lay3 (m : Int) (te : TypeId) : Lay prog (glZ m te) 40 (fun _ => none) pK3 (eL3 m te) dL3 := by
 have h := layr m te
 refine Lay.step (X := cK3) h follows (glZFrz m te) dep40 (tl := [137, 203, 204, 282, 283, 92, 139, 197, 206, 262]) rfl okD fun c hc => ?_
 simp only [List.mem_cons, List.not_mem_nil, or_false] at hc
 rcases hc with rfl | rfl
 ·exact ⟨by kernel_rfl, cK3, 8, rfl, rfl, Lay.cn h rfl rfl (l := [139, 197, 206, 262]) rfl (by kernel_rfl), k92⟩
 ·exact ⟨by kernel_rfl, cKv, 8, rfl, rfl, Lay.cn h rfl rfl (l := [203, 204, 282, 283]) rfl (by kernel_rfl), k137⟩
def eL4 (m : Int) (te : TypeId) : FuncId → List T → Option T := extP prog (glZ m te) (eL3 m te) cK4.own cK4.top 40 fun f => ([c58]).any fun c => Nat.beq c.f f
def dL4 : FuncId → Bool := fun f => (([c58]).any fun c => Nat.beq c.f f) || dL3 f
theorem lay4 (m : Int) (te : TypeId) : Lay prog (glZ m te) 40 (fun _ => none) pK4 (eL4 m te) dL4 := by
 have h := lay3 m te
 refine Lay.step (X := cK4) h follows (glZFrz m te) dep40 (tl := [58, 88, 89, 90, 91, 93, 94, 138, 141]) rfl ok4 fun c hc => ?_
 simp only [List.mem_cons, List.not_mem_nil, or_false] at hc
 subst hc
 exact ⟨by kernel_rfl, cK4, 8, rfl, rfl, Lay.cn h rfl rfl (l := [88, 89, 90, 91, 93, 94, 138, 141]) rfl (by kernel_rfl), k58⟩
def eL5 (m : Int) (te : TypeId) : FuncId → List T → Option T := extP prog (glZ m te) (eL4 m te) cK5.own cK5.top 40 fun f => ([c28]).any fun c => Nat.beq c.f f
def dL5 : FuncId → Bool := fun f => (([c28]).any fun c => Nat.beq c.f f) || dL4 f
theorem lay5 (m : Int) (te : TypeId) : Lay prog (glZ m te) 40 (fun _ => none) pK5 (eL5 m te) dL5 := by
 have h := lay4 m te
 refine Lay.step (X := cK5) h follows (glZFrz m te) dep40 (tl := [28, 57]) rfl ok5 fun c hc => ?_
 simp only [List.mem_cons, List.not_mem_nil, or_false] at hc
 subst hc
 exact ⟨by kernel_rfl, cK5, 8, rfl, rfl, Lay.cn h rfl rfl (l := [57]) rfl (by kernel_rfl), k28⟩
def eLs1 (m : Int) (te : TypeId) : FuncId → List T → Option T := extP prog (glZ m te) (eL5 m te) (cS 0 peN [29] []).own (cS 0 peN [29] []).top 40 fun f => ([c29 0]).any fun c => Nat.beq c.f f
def dLs1 : FuncId → Bool := fun f => (([c29 0]).any fun c => Nat.beq c.f f) || dL5 f
theorem lays1 (m : Int) (te : TypeId) : Lay prog (glZ m te) 40 (fun _ => none) pS1 (eLs1 m te) dLs1 := by
 have h := lay5 m te
 refine Lay.step (X := (cS 0 peN [29] [])) h follows (glZFrz m te) dep40 (tl := [29]) rfl ok29 fun c hc => ?_
 simp only [List.mem_cons, List.not_mem_nil, or_false] at hc
 subst hc
 exact ⟨by kernel_rfl, (cS 0 peN [29] []), 8, rfl, rfl, Lay.cn h rfl rfl (l := []) rfl (by kernel_rfl), s35a⟩
def eLs2 (m : Int) (te : TypeId) : FuncId → List T → Option T := extP prog (glZ m te) (eLs1 m te) (cS 0 pS1 [29] []).own (cS 0 pS1 [29] []).top 40 fun f => ([c29 0, c29 1]).any fun c => Nat.beq c.f f
def dLs2 : FuncId → Bool := fun f => (([c29 0, c29 1]).any fun c => Nat.beq c.f f) || dLs1 f
theorem lays2 (m : Int) (te : TypeId) : Lay prog (glZ m te) 40 (fun _ => none) pS2 (eLs2 m te) dLs2 := by
 have h := lays1 m te
 refine Lay.step (X := (cS 0 pS1 [29] [])) h follows (glZFrz m te) dep40 (tl := [29]) rfl ok29 fun c hc => ?_
 simp only [List.mem_cons, List.not_mem_nil, or_false] at hc
 rcases hc with rfl | rfl
 ·exact ⟨by kernel_rfl, (cS 0 pS1 [29] []), 8, rfl, rfl, Lay.cn h rfl rfl (l := []) rfl (by kernel_rfl), s35b0⟩
 ·exact ⟨by kernel_rfl, (cS 1 pS1 [29] []), 8, rfl, rfl, Lay.cn h rfl rfl (l := []) rfl (by kernel_rfl), s35b1⟩
def eLs3 (m : Int) (te : TypeId) : FuncId → List T → Option T := extP prog (glZ m te) (eLs2 m te) (cS 0 pS2 [55] []).own (cS 0 pS2 [55] []).top 40 fun f => ([c55 0]).any fun c => Nat.beq c.f f
def dLs3 : FuncId → Bool := fun f => (([c55 0]).any fun c => Nat.beq c.f f) || dLs2 f
theorem lays3 (m : Int) (te : TypeId) : Lay prog (glZ m te) 40 (fun _ => none) pS3 (eLs3 m te) dLs3 := by
 have h := lays2 m te
 refine Lay.step (X := (cS 0 pS2 [55] [])) h follows (glZFrz m te) dep40 (tl := [55]) rfl ok55 fun c hc => ?_
 simp only [List.mem_cons, List.not_mem_nil, or_false] at hc
 subst hc
 exact ⟨by kernel_rfl, (cS 0 pS2 [55] []), 8, rfl, rfl, Lay.cn h rfl rfl (l := []) rfl (by kernel_rfl), s17_00⟩
def eLs4 (m : Int) (te : TypeId) : FuncId → List T → Option T := extP prog (glZ m te) (eLs3 m te) (cS 0 pS3 [55] []).own (cS 0 pS3 [55] []).top 40 fun f => ([c55 0, c55 1]).any fun c => Nat.beq c.f f
def dLs4 : FuncId → Bool := fun f => (([c55 0, c55 1]).any fun c => Nat.beq c.f f) || dLs3 f
theorem lays4 (m : Int) (te : TypeId) : Lay prog (glZ m te) 40 (fun _ => none) pS4 (eLs4 m te) dLs4 := by
 have h := lays3 m te
 refine Lay.step (X := (cS 0 pS3 [55] [])) h follows (glZFrz m te) dep40 (tl := [55]) rfl ok55 fun c hc => ?_
 simp only [List.mem_cons, List.not_mem_nil, or_false] at hc
 rcases hc with rfl | rfl
 ·exact ⟨by kernel_rfl, (cS 0 pS3 [55] []), 8, rfl, rfl, Lay.cn h rfl rfl (l := []) rfl (by kernel_rfl), s17_10⟩
 ·exact ⟨by kernel_rfl, (cS 1 pS3 [55] []), 8, rfl, rfl, Lay.cn h rfl rfl (l := []) rfl (by kernel_rfl), s17_11⟩
def eLs5 (m : Int) (te : TypeId) : FuncId → List T → Option T := extP prog (glZ m te) (eLs4 m te) (cS 0 pS4 [55] []).own (cS 0 pS4 [55] []).top 40 fun f => ([c55 0, c55 1, c55 2]).any fun c => Nat.beq c.f f
def dLs5 : FuncId → Bool := fun f => (([c55 0, c55 1, c55 2]).any fun c => Nat.beq c.f f) || dLs4 f
theorem lays5 (m : Int) (te : TypeId) : Lay prog (glZ m te) 40 (fun _ => none) pS5 (eLs5 m te) dLs5 := by
 have h := lays4 m te
 refine Lay.step (X := (cS 0 pS4 [55] [])) h follows (glZFrz m te) dep40 (tl := [55]) rfl ok55 fun c hc => ?_
 simp only [List.mem_cons, List.not_mem_nil, or_false] at hc
 rcases hc with rfl | rfl | rfl
 ·exact ⟨by kernel_rfl, (cS 0 pS4 [55] []), 8, rfl, rfl, Lay.cn h rfl rfl (l := []) rfl (by kernel_rfl), s17_20⟩
 ·exact ⟨by kernel_rfl, (cS 1 pS4 [55] []), 8, rfl, rfl, Lay.cn h rfl rfl (l := []) rfl (by kernel_rfl), s17_21⟩
 ·exact ⟨by kernel_rfl, (cS 2 pS4 [55] []), 8, rfl, rfl, Lay.cn h rfl rfl (l := []) rfl (by kernel_rfl), s17_22⟩
def eLs6 (m : Int) (te : TypeId) : FuncId → List T → Option T := extP prog (glZ m te) (eLs5 m te) (cS 0 pS5 [55] []).own (cS 0 pS5 [55] []).top 40 fun f => ([c55 0, c55 1, c55 2, c55 3]).any fun c => Nat.beq c.f f
def dLs6 : FuncId → Bool := fun f => (([c55 0, c55 1, c55 2, c55 3]).any fun c => Nat.beq c.f f) || dLs5 f
theorem lays6 (m : Int) (te : TypeId) : Lay prog (glZ m te) 40 (fun _ => none) pS6 (eLs6 m te) dLs6 := by
 have h := lays5 m te
 refine Lay.step (X := (cS 0 pS5 [55] [])) h follows (glZFrz m te) dep40 (tl := [55]) rfl ok55 fun c hc => ?_
 simp only [List.mem_cons, List.not_mem_nil, or_false] at hc
 rcases hc with rfl | rfl | rfl | rfl
 ·exact ⟨by kernel_rfl, (cS 0 pS5 [55] []), 8, rfl, rfl, Lay.cn h rfl rfl (l := []) rfl (by kernel_rfl), s17_30⟩
 ·exact ⟨by kernel_rfl, (cS 1 pS5 [55] []), 8, rfl, rfl, Lay.cn h rfl rfl (l := []) rfl (by kernel_rfl), s17_31⟩
 ·exact ⟨by kernel_rfl, (cS 2 pS5 [55] []), 8, rfl, rfl, Lay.cn h rfl rfl (l := []) rfl (by kernel_rfl), s17_32⟩
 ·exact ⟨by kernel_rfl, (cS 3 pS5 [55] []), 8, rfl, rfl, Lay.cn h rfl rfl (l := []) rfl (by kernel_rfl), s17_33⟩
def eLs7 (m : Int) (te : TypeId) : FuncId → List T → Option T := extP prog (glZ m te) (eLs6 m te) (cS 3 pS6 [8, 23] [23]).own (cS 3 pS6 [8, 23] [23]).top 40 fun f => ([c8]).any fun c => Nat.beq c.f f
def dLs7 : FuncId → Bool := fun f => (([c8]).any fun c => Nat.beq c.f f) || dLs6 f
theorem lays7 (m : Int) (te : TypeId) : Lay prog (glZ m te) 40 (fun _ => none) pS7 (eLs7 m te) dLs7 := by
 have h := lays6 m te
 refine Lay.step (X := (cS 3 pS6 [8, 23] [23])) h follows (glZFrz m te) dep40 (tl := [8, 23]) rfl ok8 fun c hc => ?_
 simp only [List.mem_cons, List.not_mem_nil, or_false] at hc
 subst hc
 exact ⟨by kernel_rfl, (cS 3 pS6 [8, 23] [23]), 8, rfl, rfl, Lay.cn h rfl rfl (l := [23]) rfl (by kernel_rfl), s4⟩
end
end Go.Proofs.Tryz

/- From cut to cut: the evaluator stops at a loop, at the end of a loop's round, or at the end. -/
namespace Go.Ps
noncomputable section
inductive Ki where
 | seq (d : Code)
 | blk (id : Nat)
 | lp
inductive Out where
 | again (j : Nat) (fr : List T) (H : Hp)
 | done (x : X) (fr : List T) (H : Hp)
 | loop (j : Nat) (c : Code) (ks : List Ki) (fr : List T) (H : Hp)
inductive Md where
 | code (c : Code)
 | out (x : X)
def runK (P : Program) (E : Ed) (F : Fc) : Nat → Md → List Ki → Nat → List T → Hp → List Bool → List Bool → RD Out
 | 0, _, _, _, _, _, _, _ => .fail 40
 | _ + 1, .out x, [], _, fr, H, ds, log => .ok (.done x fr H) ds log
 | n + 1, .out .normal, .seq d :: ks, j, fr, H, ds, log => runK P E F n (.code d) ks j fr H ds log
 | n + 1, .out .normal, .blk _ :: ks, j, fr, H, ds, log => runK P E F n (.out .normal) ks j fr H ds log
 | _ + 1, .out .normal, .lp :: _, j, fr, H, ds, log => .ok (.again j fr H) ds log
 | n + 1, .out (.exit id), .seq _ :: ks, j, fr, H, ds, log => runK P E F n (.out (.exit id)) ks j fr H ds log
 | n + 1, .out (.exit id), .blk id' :: ks, j, fr, H, ds, log => if id = id' then runK P E F n (.out .normal) ks j fr H ds log else runK P E F n (.out (.exit id)) ks j fr H ds log
 | n + 1, .out (.exit id), .lp :: ks, j, fr, H, ds, log => runK P E F n (.out (.exit id)) ks (j + 1) fr H ds log
 | n + 1, .out .ret, .lp :: ks, j, fr, H, ds, log => runK P E F n (.out .ret) ks (j + 1) fr H ds log
 | n + 1, .out .ret, .seq _ :: ks, j, fr, H, ds, log => runK P E F n (.out .ret) ks j fr H ds log
 | n + 1, .out .ret, .blk _ :: ks, j, fr, H, ds, log => runK P E F n (.out .ret) ks j fr H ds log
 | n + 1, .code c, ks, j, fr, H, ds, log => match c with
  | .seq a b => runK P E F n (.code a) (.seq b :: ks) j fr H ds log
  | .block id c => runK P E F n (.code c) (.blk id :: ks) j fr H ds log
  | .scope c => runK P E F n (.code c) ks j fr H ds log
  | .loop c => .ok (.loop j c ks fr H) ds log
  | .cond o a b => match evalT E.gl fr o with
   | some (.bool t) => match ds with
    | [] => .need t log
    | d :: ds' => if d then runK P E F n (.code a) ks j fr H ds' (t :: log) else runK P E F n (.code b) ks j fr H ds' ((!t) :: log)
   | _ => .fail 41
  | c => match evalCodeD P E F c fr H ds log with
   | .ok (x, fr', H') ds' log' => runK P E F n (.out x) ks j fr' H' ds' log'
   | .need t l => .need t l
   | .fail m => .fail m
def loopsOf : Code → List Ki → List (Code × List Ki)
 | .seq a b, ks => loopsOf a (.seq b :: ks) ++ loopsOf b ks
 | .block id c, ks => loopsOf c (.blk id :: ks)
 | .scope c, ks => loopsOf c ks
 | .cond _ a b, ks => loopsOf a ks ++ loopsOf b ks
 | .loop c, ks => (c, ks) :: loopsOf c (.lp :: ks)
 | _, _ => []
def postK (P : Program) (E : Env) (Q : X → List T → Hp → Prop) : List Ki → List (List T → Hp → Prop) → X → List T → Hp → Prop
 | [], _ => Q
 | .seq d :: ks, As => exitThen (fun fr H => Good P E d fr H (postK P E Q ks As)) (postK P E Q ks As)
 | .blk id :: ks, As => exitBlock id (postK P E Q ks As)
 | .lp :: ks, A :: As => exitThen A (postK P E Q ks As)
 | .lp :: ks, [] => exitThen (fun _ _ => False) (postK P E Q ks [])
def mdOk : Md → Bool
 | .code c => codeOk c
 | .out _ => true
def ksOk : List Ki → Bool
 | [] => true
 | .seq d :: ks => codeOk d && ksOk ks
 | _ :: ks => ksOk ks
def OutOk (P : Program) (E : Env) (Q : X → List T → Hp → Prop) (As : List (List T → Hp → Prop)) : Out → Prop
 | .again j fr H => ∃ A, As[j]? = some A ∧ A fr H
 | .done x fr H => Q x fr H
 | .loop j c ks fr H => Good P E (.loop c) fr H (postK P E Q ks (As.drop j))
def mdGood (P : Program) (E : Env) (fr : List T) (H : Hp) (R : X → List T → Hp → Prop) : Md → Prop
 | .code c => Good P E c fr H R
 | .out x => R x fr H
section
variable {P : Program} {D : Ed} {F : Fc} {Q : X → List T → Hp → Prop} {As : List (List T → Hp → Prop)}
theorem post_lp (ks : List Ki) (j : Nat) : postK P D.env Q (.lp :: ks) (As.drop j) = exitThen (fun fr H => ∃ A, As[j]? = some A ∧ A fr H) (postK P D.env Q ks (As.drop (j + 1))) := by
 by_cases h : j < As.length
 ·rw [List.drop_eq_getElem_cons h]
  simp only [postK]
  have e : (fun fr H => ∃ A, As[j]? = some A ∧ A fr H) = As[j] := by
   funext fr H
   rw [List.getElem?_eq_getElem h]
   simp
  rw [e]
 ·rw [List.drop_of_length_le (by omega), List.drop_of_length_le (by omega)]
  simp only [postK]
  congr 1
  funext fr H
  rw [List.getElem?_eq_none (by omega)]
  simp
theorem good_leaf (hm : P.follows .mixedOrders = true) (hE : PeOk P D.gl D.env.pe) (hF : EeOk P D.gl F.ee) {c : Code} (hok : codeOk c = true) {fr fr' : List T} {H H' : Hp} {x : X} {ds log ds' log' : List Bool}
  (h : evalCodeD P D F c fr H ds log = .ok (x, fr', H') ds' log') (hl : allT log' = true) {R : X → List T → Hp → Prop} (hR : R x fr' H') : Good P D.env c fr H R := by
 intro g0 g H0 a hc K hK
 exact code_ok hm hE hF 0 c fr H x fr' H' hok (codeD_ok 0 h hl).1 g0 g H0 a hc K (fun a' g' hc' => hK x fr' H' a' g' hR hc')
theorem runK_ok (hm : P.follows .mixedOrders = true) (hE : PeOk P D.gl D.env.pe) (hF : EeOk P D.gl F.ee) : ∀ (n : Nat) (m : Md) (ks : List Ki) (j : Nat) (fr : List T) (H : Hp) (ds log : List Bool) (o : Out) (ds' log' : List Bool),
  runK P D F n m ks j fr H ds log = .ok o ds' log' → allT log' = true → mdOk m = true → ksOk ks = true → allT log = true ∧ (OutOk P D.env Q As o → mdGood P D.env fr H (postK P D.env Q ks (As.drop j)) m) := by
 intro n
 induction n with
 | zero => intro m ks j fr H ds log o ds' log' h; simp [runK] at h
 | succ n ih =>
  intro m ks j fr H ds log o ds' log' h hl hmo hko
  cases m with
  | out x =>
   cases ks with
   | nil => simp only [runK] at h; cases h; exact ⟨hl, fun q => q⟩
   | cons k ks =>
    cases x with
    | normal => cases k with
     | seq d =>
      simp only [runK] at h
      simp only [ksOk, Bool.and_eq_true] at hko
      obtain ⟨a, b⟩ := ih _ _ _ _ _ _ _ _ _ _ h hl hko.1 hko.2
      exact ⟨a, fun q => b q⟩
     | blk id =>
      simp only [runK] at h
      obtain ⟨a, b⟩ := ih _ _ _ _ _ _ _ _ _ _ h hl rfl hko
      exact ⟨a, fun q => b q⟩
     | lp =>
      simp only [runK] at h; cases h
      refine ⟨hl, fun q => ?_⟩
      simp only [mdGood, post_lp]
      exact q
    | exit id => cases k with
     | seq d =>
      simp only [runK] at h
      simp only [ksOk, Bool.and_eq_true] at hko
      obtain ⟨a, b⟩ := ih _ _ _ _ _ _ _ _ _ _ h hl rfl hko.2
      exact ⟨a, fun q => b q⟩
     | blk id' =>
      simp only [runK] at h
      split at h
      ·rename_i e
       obtain ⟨a, b⟩ := ih _ _ _ _ _ _ _ _ _ _ h hl rfl hko
       refine ⟨a, fun q => ?_⟩
       simp only [mdGood, postK, exitBlock, if_pos e]; exact b q
      ·rename_i e
       obtain ⟨a, b⟩ := ih _ _ _ _ _ _ _ _ _ _ h hl rfl hko
       refine ⟨a, fun q => ?_⟩
       simp only [mdGood, postK, exitBlock, if_neg e]; exact b q
     | lp =>
      simp only [runK] at h
      obtain ⟨a, b⟩ := ih _ _ _ _ _ _ _ _ _ _ h hl rfl hko
      refine ⟨a, fun q => ?_⟩
      simp only [mdGood, post_lp]; exact b q
    | ret => cases k with
     | seq d =>
      simp only [runK] at h
      simp only [ksOk, Bool.and_eq_true] at hko
      obtain ⟨a, b⟩ := ih _ _ _ _ _ _ _ _ _ _ h hl rfl hko.2
      exact ⟨a, fun q => b q⟩
     | blk id' =>
      simp only [runK] at h
      obtain ⟨a, b⟩ := ih _ _ _ _ _ _ _ _ _ _ h hl rfl hko
      exact ⟨a, fun q => b q⟩
     | lp =>
      simp only [runK] at h
      obtain ⟨a, b⟩ := ih _ _ _ _ _ _ _ _ _ _ h hl rfl hko
      refine ⟨a, fun q => ?_⟩
      simp only [mdGood, post_lp]; exact b q
  | code c =>
   simp only [mdOk] at hmo
   have leaf : ∀ {c : Code}, codeOk c = true → (match evalCodeD P D F c fr H ds log with
     | .ok (x, fr', H') ds' log' => runK P D F n (.out x) ks j fr' H' ds' log'
     | .need t l => .need t l
     | .fail m => .fail m) = RD.ok o ds' log' → allT log = true ∧ (OutOk P D.env Q As o → Good P D.env c fr H (postK P D.env Q ks (As.drop j))) := by
    intro c hc h
    split at h
    ·rename_i x fr1 H1 ds1 log1 hr
     obtain ⟨a, b⟩ := ih _ _ _ _ _ _ _ _ _ _ h hl rfl hko
     exact ⟨(codeD_ok 0 hr a).2, fun q => good_leaf hm hE hF hc hr a (b q)⟩
    ·cases h
    ·cases h
   cases c with
   | seq a b =>
    simp only [runK] at h
    simp only [codeOk, Bool.and_eq_true] at hmo
    obtain ⟨p, q⟩ := ih _ _ _ _ _ _ _ _ _ _ h hl (by exact hmo.1) (by simp only [ksOk, Bool.and_eq_true]; exact ⟨hmo.2, hko⟩)
    exact ⟨p, fun r => good_seq (q r)⟩
   | block id c =>
    simp only [runK] at h
    obtain ⟨p, q⟩ := ih _ _ _ _ _ _ _ _ _ _ h hl (by exact hmo) (by exact hko)
    exact ⟨p, fun r => good_block (q r)⟩
   | scope c =>
    simp only [runK] at h
    obtain ⟨p, q⟩ := ih _ _ _ _ _ _ _ _ _ _ h hl (by exact hmo) hko
    exact ⟨p, fun r => good_scope (q r)⟩
   | loop c =>
    simp only [runK] at h
    cases h
    exact ⟨hl, fun q => q⟩
   | cond t a b =>
    simp only [runK] at h
    simp only [codeOk, Bool.and_eq_true] at hmo
    split at h
    ·rename_i t' ht
     split at h
     ·cases h
     ·rename_i d ds1
      split at h
      ·obtain ⟨p, q⟩ := ih _ _ _ _ _ _ _ _ _ _ h hl (by exact hmo.1) hko
       simp only [allT, Bool.and_eq_true] at p
       exact ⟨p.2, fun r => good_cond (E := D.env) ht (fun _ => q r) (fun e => by rw [p.1] at e; cases e)⟩
      ·obtain ⟨p, q⟩ := ih _ _ _ _ _ _ _ _ _ _ h hl (by exact hmo.2) hko
       simp only [allT, Bool.and_eq_true, Bool.not_eq_true'] at p
       exact ⟨p.2, fun r => good_cond (E := D.env) ht (fun e => by rw [p.1] at e; cases e) (fun _ => q r)⟩
    ·cases h
   | skip => simp only [runK] at h; exact leaf hmo h
   | label l => simp only [runK] at h; exact leaf hmo h
   | region id ops draw => simp only [runK] at h; exact leaf hmo h
   | exit id => simp only [runK] at h; exact leaf hmo h
   | ret => simp only [runK] at h; exact leaf hmo h
   | _ => simp only [runK] at h; exact leaf hmo h
end
end
end Go.Ps

/- The ways from cut to cut, told by what the kernel finds: kept slots, the heap, what was asked. -/
namespace Go.Ps
noncomputable section
def bodyOf (f : Func) : Code :=
 match f.body with
 | some c => c
 | none => .skip
def loopAt (f : Func) (i : Nat) : Code × List Ki := (loopsOf (bodyOf f) []).getD i (.skip, [])
inductive OutT where
 | again (j : Nat)
 | done (r : Option T)
 | loop (j : Nat) (c : Code) (ks : List Ki)
def resV (P : Program) (fr : List T) (H : Hp) : List ResultVar → Option (List T × Bool)
 | [] => some ([], true)
 | r :: rs => match resV P fr H rs with
  | some (ts, b) => match r with
   | .tmp t => some (getT fr t :: ts, b)
   | .cell a t => match getT fr a with
    | .ptr l off => match aggT P t with
     | some true => match szT P t with
      | some n => some (.agg (cellsV H l off n) :: ts, obIn H l (off + n) && b)
      | none => none
     | some false => some ((obv H l).cells.getD off undefT :: ts, obIn H l (off + 1) && b)
     | none => none
    | x => match loadT P H t x with
     | some v => some (v :: ts, b)
     | none => none
  | none => none
theorem resV_ok {P : Program} {fr : List T} {H : Hp} : ∀ {rs : List ResultVar} {ts : List T} {b : Bool}, resV P fr H rs = some (ts, b) → b = true → resAll P fr H rs = some ts
 | [], ts, b, h, hb => by simp only [resV, Option.some.injEq, Prod.mk.injEq] at h; rw [← h.1]; rfl
 | r :: rs, ts, b, h, hb => by
  simp only [resV] at h
  split at h
  ·rename_i ts1 b1 hr
   have key : ∀ x, resT P fr H r = some x → ts = x :: ts1 → b1 = true → resAll P fr H (r :: rs) = some ts := by
    intro x hx e h1
    simp only [resAll, hx, resV_ok hr h1, e]
   split at h
   ·simp only [Option.some.injEq, Prod.mk.injEq] at h
    exact key _ rfl h.1.symm (h.2.trans hb)
   ·rename_i a t
    split at h
    ·rename_i l off hp
     split at h
     ·rename_i hag
      split at h
      ·rename_i n hn
       simp only [Option.some.injEq, Prod.mk.injEq] at h
       obtain ⟨e1, e2⟩ := h
       rw [hb, Bool.and_eq_true] at e2
       refine key _ ?_ e1.symm e2.2
       simp only [resT, hp, loadT, cellsAt]
       have hc := @cellsV_eq H l off n
       have h1 := e2.1
       unfold obIn at h1
       unfold obv at hc
       split at h1
       ·rename_i ob hob
        rw [hob] at hc ⊢
        simp only [decide_eq_true_eq] at h1
        simp only [partT, hag, hn]
        rw [if_pos h1, hc h1]
       ·cases h1
      ·cases h
     ·rename_i hag
      simp only [Option.some.injEq, Prod.mk.injEq] at h
      obtain ⟨e1, e2⟩ := h
      rw [hb, Bool.and_eq_true] at e2
      refine key _ ?_ e1.symm e2.2
      simp only [resT, hp, loadT, cellsAt]
      have h1 := e2.1
      unfold obIn at h1
      unfold obv
      split at h1
      ·rename_i ob hob
       rw [hob]
       simp only [decide_eq_true_eq] at h1
       simp only [partT, hag]
       rw [List.getD_eq_getElem?_getD, List.getElem?_eq_getElem (by omega)]
       rfl
      ·cases h1
     ·cases h
    ·split at h
     ·rename_i v hv
      simp only [Option.some.injEq, Prod.mk.injEq] at h
      exact key _ hv h.1.symm (h.2.trans hb)
     ·cases h
  ·cases h
def resFV (P : Program) (fn : Func) (k : Nat) (fr : List T) (H : Hp) : Option T :=
 match resV P fr H fn.results.toList with
 | some ([t], b) => if b then frzT k H t else none
 | some (ts, b) => if b then frzT k H (.tup ts) else none
 | none => none
theorem resFV_ok {P : Program} {fn : Func} {k : Nat} {fr : List T} {H : Hp} {r : T} (h : resFV P fn k fr H = some r) : ∃ q, resultT P fn fr H = some q ∧ frzT k H q = some r := by
 unfold resFV at h
 unfold resultT
 split at h
 ·rename_i t b hr
  cases b with
  | true => rw [resV_ok hr rfl]; exact ⟨t, rfl, h⟩
  | false => cases h
 ·rename_i ts b hne hr
  cases b with
  | true =>
   rw [resV_ok hr rfl]
   refine ⟨.tup ts, ?_, h⟩
   match ts, hne with
   | [], _ => rfl
   | [x], hne => exact absurd rfl (hne x)
   | _ :: _ :: _, _ => rfl
  | false => cases h
 ·cases h
def outK (P : Program) (fn : Func) (k : Nat) (keep : List Nat) : RD Out → Option (OutT × List Bool × Hp × List T × Nat)
 | .ok (.again j fr H) _ log => some (.again j, log, H, keep.map (getT fr), fr.length)
 | .ok (.done .normal fr H) _ log => some (.done (resFV P fn k fr H), log, ⟨0, .nl⟩, [], 0)
 | .ok (.done .ret fr H) _ log => some (.done (resFV P fn k fr H), log, ⟨0, .nl⟩, [], 0)
 | .ok (.loop j c ks fr H) _ log => some (.loop j c ks, log, H, keep.map (getT fr), fr.length)
 | _ => none
def frK (keep : List Nat) (vs : List T) (fr : List T) (len : Nat) : List T := ovl (keep.zip vs) fr 0 len
theorem zip_lookup {fr : List T} : ∀ (keep : List Nat) (vs : List T), keep.map (getT fr) = vs → ∀ k v, (keep.zip vs).lookup k = some v → getT fr k = v
 | [], _, _, k, v, h => by simp at h
 | x :: xs, [], e, k, v, h => by simp at h
 | x :: xs, y :: ys, e, k, v, h => by
  simp only [List.map_cons, List.cons.injEq] at e
  simp only [List.zip_cons_cons, List.lookup_cons] at h
  split at h
  ·rename_i hk
   have : k = x := by simpa using hk
   cases h; rw [this]; exact e.1
  ·exact zip_lookup xs ys e.2 k v h
theorem frK_eq {keep : List Nat} {vs fr : List T} {len : Nat} (h1 : keep.map (getT fr) = vs) (h2 : fr.length = len) : frK keep vs fr len = fr := by
 unfold frK
 rw [ovl_eq (keep.zip vs) fr (zip_lookup keep vs h1) len 0 (by omega)]
 rfl
section
variable {P : Program} {D : Ed} {F : Fc} {As : List (List T → Hp → Prop)} {fn : Func} {k : Nat} {res : T} {keep : List Nat} {N : Nat} {m : Md} {ks : List Ki} {fr : List T} {H H' : Hp} {ds log : List Bool} {vs : List T} {len : Nat}
theorem way_done {r : Option T} (hm : P.follows .mixedOrders = true) (hE : PeOk P D.gl D.env.pe) (hF : EeOk P D.gl F.ee) (hmo : mdOk m = true) (hko : ksOk ks = true)
  (h : outK P fn k keep (runK P D F N m ks 0 fr H ds []) = some (.done r, log, H', vs, len)) (hr : r = some res) (hl : allT log = true) : mdGood P D.env fr H (postK P D.env (Ends P fn k res) ks As) m := by
 subst hr
 have key : ∀ (x : X) (fr1 : List T) (H1 : Hp) (ds1 : List Bool), (x = .normal ∨ x = .ret) → runK P D F N m ks 0 fr H ds [] = .ok (.done x fr1 H1) ds1 log → resFV P fn k fr1 H1 = some res → mdGood P D.env fr H (postK P D.env (Ends P fn k res) ks As) m := by
  intro x fr1 H1 ds1 hx hr1 hres
  refine (runK_ok hm hE hF _ _ _ _ _ _ _ _ _ _ _ hr1 hl hmo hko).2 ⟨hx, ?_⟩
  exact resFV_ok hres
 unfold outK at h
 split at h <;> try cases h
 ·rename_i fr1 H1 ds1 log1 hr1
  simp only [Option.some.injEq, Prod.mk.injEq, OutT.done.injEq] at h
  obtain ⟨e1, rfl, _⟩ := h
  exact key _ fr1 H1 ds1 (.inl rfl) hr1 e1
 ·rename_i fr1 H1 ds1 log1 hr1
  simp only [Option.some.injEq, Prod.mk.injEq, OutT.done.injEq] at h
  obtain ⟨e1, rfl, _⟩ := h
  exact key _ fr1 H1 ds1 (.inr rfl) hr1 e1
theorem way_again (hm : P.follows .mixedOrders = true) (hE : PeOk P D.gl D.env.pe) (hF : EeOk P D.gl F.ee) (hmo : mdOk m = true) (hko : ksOk ks = true) {Q : X → List T → Hp → Prop} {j : Nat}
  (h : outK P fn k keep (runK P D F N m ks 0 fr H ds []) = some (.again j, log, H', vs, len)) (hl : allT log = true) {A : List T → Hp → Prop} (hA : As[j]? = some A) (hq : ∀ fr', keep.map (getT fr') = vs → fr'.length = len → A fr' H') :
  mdGood P D.env fr H (postK P D.env Q ks As) m := by
 unfold outK at h
 split at h <;> cases h
 rename_i fr1 ds1 hr1
 exact (runK_ok hm hE hF _ _ _ _ _ _ _ _ _ _ _ hr1 hl hmo hko).2 ⟨A, hA, hq fr1 rfl rfl⟩
theorem way_loop (hm : P.follows .mixedOrders = true) (hE : PeOk P D.gl D.env.pe) (hF : EeOk P D.gl F.ee) (hmo : mdOk m = true) (hko : ksOk ks = true) {Q : X → List T → Hp → Prop} {j : Nat} {c : Code} {ks' : List Ki}
  (h : outK P fn k keep (runK P D F N m ks 0 fr H ds []) = some (.loop j c ks', log, H', vs, len)) (hl : allT log = true) (hq : ∀ fr', keep.map (getT fr') = vs → fr'.length = len → Good P D.env (.loop c) fr' H' (postK P D.env Q ks' (As.drop j))) :
  mdGood P D.env fr H (postK P D.env Q ks As) m := by
 unfold outK at h
 split at h <;> cases h
 rename_i fr1 ds1 hr1
 exact (runK_ok hm hE hF _ _ _ _ _ _ _ _ _ _ _ hr1 hl hmo hko).2 (hq fr1 rfl rfl)
theorem pure_good0 {E : Env} {c : Code} {f : FuncId} {fn : Func} (hz : GlFrz E.gl) (h1 : okFn P f = true) (hfn : P.funcs[f]? = some fn) (hb : fn.body = some c) {ts : List T} {r : T} {d : Nat} (hts : mapO (frzT d ⟨0, .nl⟩) ts = some ts)
  (h : Good P E c (ts ++ List.replicate (fn.ntmps - ts.length) undefT) ⟨0, .nl⟩ (Ends P fn k r)) : PureFn P E.gl f ts r := by
 refine ⟨h1, fun g vs hg ⟨N, hN⟩ hgl hv => ?_⟩
 have hsN : St g ⟨N, .nl⟩ := St.nl _ _ (hN)
 have hts1 : mapO (frzT d ⟨N, .nl⟩) ts = some ts := by
  have : ∀ (ts ts' : List T), mapO (frzT d ⟨0, .nl⟩) ts = some ts' → mapO (frzT d ⟨N, .nl⟩) ts = some ts' := by
   intro ts
   induction ts with
   | nil => intro rs h; exact h
   | cons t ts iht =>
    intro rs h
    simp only [mapO] at h ⊢
    split at h
    ·rename_i a ha
     split at h
     ·rename_i b hb
      rw [frz_bare d 0 _ _ _ ha, iht _ hb]; exact h
     ·cases h
    ·cases h
  exact this ts ts hts
 have hv' : RdL g.bare vs ts := by
  have := frzL_ok (g0 := g.bare) hsN hts1 hv
  rw [frz_nil] at this
  exact this
 have hgl' : GlOk E.gl g.bare := by
  have := GlOk.frz (g0 := g.bare) hz hsN hgl
  rw [frz_nil] at this
  exact this
 have hs : St g.bare ⟨0, .nl⟩ := St.nl _ _ (fun l _ q => q)
 have hframe : RdL g.bare (vs.toArray ++ Array.replicate (fn.ntmps - vs.toArray.size) undef).toList (ts ++ List.replicate (fn.ntmps - ts.length) undefT) := by
  have : (vs.toArray ++ Array.replicate (fn.ntmps - vs.toArray.size) undef).toList = vs ++ List.replicate (fn.ntmps - ts.length) undef := by simp [hv.1]
  rw [this]
  exact hv'.append (RdL.replicate _ Rd.undef)
 have hinv : CInv E g.bare ⟨0, .nl⟩ g.bare { tmps := vs.toArray ++ Array.replicate (fn.ntmps - vs.toArray.size) undef, defers := [] } (ts ++ List.replicate (fn.ntmps - ts.length) undefT) ⟨0, .nl⟩ := ⟨hg, hs, hgl', rfl, hframe, SStep.refl _ _⟩
 refine calls_of_wp hfn hb (h g.bare g.bare ⟨0, .nl⟩ _ hinv _ (fun x fr' H' a' g' hQ hc => ?_))
 obtain ⟨hx, q, hq, hz⟩ := hQ
 obtain ⟨v, hv1, hv2⟩ := result_ok (fn := fn) hc hq
 have e3 := hc.step
 have fin : ∃ v' g'', Ending.returned v = .returned v' ∧ g''.w = g'.w ∧ PStep g g'' ∧ Gok g'' ∧ Rd g'' v' r := by
  refine ⟨v, g'.frz H' g, rfl, rfl, ?_, ?_, frz_ok hc.st k q r v hz hv2⟩
  ·refine ⟨e3.os, e3.tape, e3.output, e3.size, fun b hb => e3.block b hb (fun l o ho => (by rw [any_nl] at ho; cases ho)), fun b hb => .inl (e3.sub b hb), fun b hb => ?_, rfl, rfl, rfl⟩
   rcases hb with hb | ⟨l, o, ho, rfl⟩
   ·rcases e3.fresh b hb with q | q | ⟨l, o, ho, _⟩
    ·exact .inl q
    ·exact .inr q
    ·rw [any_nl] at ho; cases ho
   ·rcases e3.live l o (get_any ho).1 with ⟨l0, o0, q, _⟩ | q
    ·rw [any_nl] at q; cases q
    ·exact .inr q
  ·intro b hb
   rcases hb with hb | ⟨l, o, ho, rfl⟩
   ·exact hc.ok b hb
   ·exact hc.st.lt (get_any ho).1
 rcases hx with rfl | rfl
 ·exact ⟨hc.df, v, hv1, fin⟩
 ·exact ⟨hc.df, v, hv1, fin⟩
end
end
end Go.Ps

/- The ways, in the form in which they are used. -/
namespace Go.Ps
structure Cx (P : Program) (D : Ed) (F : Fc) : Prop where
 hm : P.follows .mixedOrders = true
 hE : PeOk P D.gl D.env.pe
 hF : EeOk P D.gl F.ee
section
variable {P : Program} {D : Ed} {F : Fc} {As : List (List T → Hp → Prop)} {fn : Func} {k : Nat} {res : T} {keep : List Nat} {N : Nat} {c : Code} {ks : List Ki} {fr : List T} {H H' : Hp} {ds log : List Bool} {vs : List T} {len : Nat}
theorem Cx.done {r : Option T} (x : Cx P D F) (hc : codeOk c = true) (hk : ksOk ks = true)
  (h : outK P fn k keep (runK P D F N (.code c) ks 0 fr H ds []) = some (.done r, log, H', vs, len)) (hr : r = some res) (hl : allT log = true) : Good P D.env c fr H (postK P D.env (Ends P fn k res) ks As) :=
 way_done (m := .code c) x.hm x.hE x.hF hc hk h hr hl
theorem Cx.again (x : Cx P D F) (hc : codeOk c = true) (hk : ksOk ks = true) {Q : X → List T → Hp → Prop} {j : Nat}
  (h : outK P fn k keep (runK P D F N (.code c) ks 0 fr H ds []) = some (.again j, log, H', vs, len)) (hl : allT log = true) {A : List T → Hp → Prop} (hA : As[j]? = some A) (hq : ∀ fr', keep.map (getT fr') = vs → fr'.length = len → A fr' H') :
  Good P D.env c fr H (postK P D.env Q ks As) :=
 way_again (m := .code c) x.hm x.hE x.hF hc hk h hl hA hq
theorem Cx.loop (x : Cx P D F) (hc : codeOk c = true) (hk : ksOk ks = true) {Q : X → List T → Hp → Prop} {j : Nat} {c' : Code} {ks' : List Ki}
  (h : outK P fn k keep (runK P D F N (.code c) ks 0 fr H ds []) = some (.loop j c' ks', log, H', vs, len)) (hl : allT log = true) (hq : ∀ fr', keep.map (getT fr') = vs → fr'.length = len → Good P D.env (.loop c') fr' H' (postK P D.env Q ks' (As.drop j))) :
  Good P D.env c fr H (postK P D.env Q ks As) :=
 way_loop (m := .code c) x.hm x.hE x.hF hc hk h hl hq
end
theorem PureFn.mono {P : Program} {gl : Nat → Option T} {f : FuncId} {ts : List T} {r r' : T} (h : PureFn P gl f ts r) (k : ∀ g v, Rd g v r → Rd g v r') : PureFn P gl f ts r' :=
 ⟨h.1, fun g vs hg hN hgl hv => (h.2 g vs hg hN hgl hv).mono fun _ _ ⟨v, g', e1, e2, e3, e4, e5⟩ => ⟨v, g', e1, e2, e3, e4, k _ _ e5⟩⟩
end Go.Ps

/- From a contract over trees to a run out of any world: nothing that was there is written. -/
namespace Go.Ps
def G.start (W : World) : G := { w := W, S := fun b => b < W.heap.size, al := fun _ => False, loc := fun _ => 0, cp := fun _ => 0 }
theorem start_ok (W : World) : Gok (G.start W) := fun _ h => h
theorem gl_of_tab {P : Program} {W : World} {name : String} {k : Nat} {ik : IntKind} {zs : List Int} (hn : P.globalNamed name = some k) (h : Lib.TabIs P W name ik zs) : GlAt (G.start W) k (.ref (.agg (zs.map (T.int ik))) 0) := by
 unfold Lib.TabIs World.var? at h
 rw [hn, Option.bind_some] at h
 split at h
 ·rename_i cs e fz hb
  cases h
  have hlt : k < W.heap.size := (Array.getElem?_eq_some_iff.1 hb).1
  refine ⟨?_, hlt, _, e, fz, hb, by simp [T.refLen, T.cells]⟩
  have key := Rd.ref (g := G.start W) (.agg (zs.map (T.int ik))) 0 k 0 (zs.map fun z => Value.int ik z) hlt (by simp [T.cells]) (fun j v hv => ?_) (fun j v c hv hc => ?_)
  ·exact key
  ·unfold World.cell?
   show (match W.heap[k]? with | some (.cells c _ _) => if (none : Option _).isSome then none else c[0 + j]? | _ => none) = some v
   rw [hb]
   simpa using hv
  ·simp only [T.cells, List.getElem?_map] at hv hc
   cases hz : zs[j]? with
   | none => rw [hz] at hv; simp at hv
   | some z => rw [hz] at hv hc; simp at hv hc; subst hv; subst hc; exact .int ik z
 ·cases h
theorem kept_of {g g' : G} (h : PStep g g') (may : MemPlace → Prop) : g.w.keptBut g'.w may := by
 refine ⟨h.os, h.output, fun i hi => ?_⟩
 rw [h.block i hi]
 cases ho : g.w.heap[i]? with
 | none => simp
 | some o => cases o <;> simp
theorem run_start {P : Program} {gl : Nat → Option T} {f : FuncId} {ts : List T} {r : T} (h : PureFn P gl f ts r) {W : World} (hgl : GlOk gl (G.start W)) {vs : List Value} (hv : RdL (G.start W) vs ts) :
  Calls P f vs.toArray W fun e w' => ∃ v g', e = .returned v ∧ g'.w = w' ∧ PStep (G.start W) g' ∧ Rd g' v r :=
 (h.2 (G.start W) vs (start_ok W) ⟨0, fun _ _ q => q⟩ hgl hv).mono fun _ _ ⟨v, g', e1, e2, e3, _, e5⟩ => ⟨v, g', e1, e2, e3, e5⟩
end Go.Ps

/- A function a_s a machine of plain states: one state for each loop's head; what the kernel finds on each way is its step. -/
namespace Go.Ps
def bt : Nat → Nat → List Bool
 | 0, _ => []
 | n + 1, k => (k % 2 == 1) :: bt n (k / 2)
/-! Trees of tests. -/
theorem tree_if {α : Type} {a : Bool} {A B : Option α} {x y : α} {k l : Bool} (h1 : k = true → A = some x) (h2 : l = true → B = some y) (h : (if a = true then k else l) = true) : (if a = true then A else B) = some (if a = true then x else y) := by
 cases a
 ·exact h2 h
 ·exact h1 h
theorem tree_leaf {α : Type} {k : Bool} {x : α} (h : k = true) : (if k = true then some x else none) = some x := if_pos h
theorem ways_if {α : Type} {a : Bool} {A B : Option α} {Q : α → Prop} (h1 : ∀ o, A = some o → Q o) (h2 : ∀ o, B = some o → Q o) (o : α) (h : (if a = true then A else B) = some o) : Q o := by
 cases a
 ·exact h2 o h
 ·exact h1 o h
theorem ways_leaf {α : Type} {k : Bool} {x : α} {Q : α → Prop} (h1 : k = true → Q x) (o : α) (h : (if k = true then some x else none) = some o) : Q o := by
 cases hk : k
 ·rw [hk] at h; simp at h
 ·rw [hk] at h; simp at h; subst h; exact h1 hk
structure Mch (S : Type) where
 lp : S → Nat
 keep : Nat → List Nat
 par : Nat → List Nat
 vs : S → List T
 hp : S → Hp
 len : Nat
 step : S → Option (S ⊕ T)
def Mch.run {S : Type} (M : Mch S) : Nat → S → Option T
 | 0, _ => none
 | n + 1, s => match M.step s with
  | some (.inl s') => M.run n s'
  | some (.inr r) => some r
  | none => none
def Mch.fin {S : Type} (M : Mch S) (n : Nat) : S ⊕ T → Option T
 | .inl s => M.run n s
 | .inr r => some r
@[simp] theorem Mch.fin_inr {S : Type} (M : Mch S) (n : Nat) (r : T) : M.fin n (.inr r) = some r := rfl
@[simp] theorem Mch.fin_inl {S : Type} (M : Mch S) (n : Nat) (s : S) : M.fin n (.inl s) = M.run n s := rfl
theorem Mch.run_succ {S : Type} (M : Mch S) (n : Nat) (s : S) : M.run (n + 1) s = (M.step s).bind (M.fin n) := by
 simp only [Mch.run]
 cases M.step s with
 | none => rfl
 | some o => cases o <;> rfl
def Mch.At {S : Type} (M : Mch S) (s : S) (fr : List T) (H : Hp) : Prop := (M.keep (M.lp s)).map (getT fr) = M.vs s ∧ fr.length = M.len ∧ H = M.hp s
def Mch.Leads {S : Type} (M : Mch S) (P : Program) (D : Ed) (F : Fc) (fn : Func) (k : Nat) (cur : List Nat) (c : Code) (ks : List Ki) (fr : List T) (H : Hp) : S ⊕ T → Prop
 | .inr r => ∃ N ds log kp H' vs len, outK P fn k kp (runK P D F N (.code c) ks 0 fr H ds []) = some (.done (some r), log, H', vs, len) ∧ allT log = true
 | .inl s => (∃ N ds log j, outK P fn k (M.keep (M.lp s)) (runK P D F N (.code c) ks 0 fr H ds []) = some (.again j, log, M.hp s, M.vs s, M.len) ∧ allT log = true ∧ cur[j]? = some (M.lp s)) ∨
  (∃ N ds log j, outK P fn k (M.keep (M.lp s)) (runK P D F N (.code c) ks 0 fr H ds []) = some (.loop j (loopAt fn (M.lp s)).1 (loopAt fn (M.lp s)).2, log, M.hp s, M.vs s, M.len) ∧ allT log = true ∧ cur.drop j = M.par (M.lp s))
def Mch.Ways {S : Type} (M : Mch S) (P : Program) (D : Ed) (F : Fc) (fn : Func) (k : Nat) : Prop :=
 ∀ s o fr, M.step s = some o → M.Leads P D F fn k (M.lp s :: M.par (M.lp s)) (loopAt fn (M.lp s)).1 (.lp :: (loopAt fn (M.lp s)).2) (frK (M.keep (M.lp s)) (M.vs s) fr M.len) (M.hp s) o
/-! ### the dense forms of ways -/
section
variable {S : Type} {M : Mch S} {P : Program} {D : Ed} {F : Fc} {fn : Func} {cur : List Nat} {c : Code} {ks : List Ki} {fr : List T} {H : Hp} {N j : Nat} {ds g : List Bool}
theorem oks_of {lp : S → Nat} (n : Nat) (hn : ((List.range n).all fun j => codeOk (loopAt fn j).1 && ksOk (.lp :: (loopAt fn j).2)) = true) (hl : ∀ σ, lp σ < n) (σ : S) : codeOk (loopAt fn (lp σ)).1 = true ∧ ksOk (.lp :: (loopAt fn (lp σ)).2) = true := by
 have := List.all_eq_true.1 hn _ (List.mem_range.2 (hl σ))
 rwa [Bool.and_eq_true] at this
end
def Mch.LeadsF {S : Type} (M : Mch S) (P : Program) (D : Ed) (F : Fc) (fn : Func) (k : Nat) (cur : List Nat) (c : Code) (ks : List Ki) (fr : List T) (H : Hp) (o : S ⊕ T) : Prop :=
 M.Leads P D F fn k cur c ks fr H o ∨ ∃ s, o = .inl s ∧ ∃ N ds log j H' vs' p d k' t0 t, outK P fn k (M.keep (M.lp s)) (runK P D F N (.code c) ks 0 fr H ds []) = some (.loop j (loopAt fn (M.lp s)).1 (loopAt fn (M.lp s)).2, log, H', vs', M.len) ∧ allT log = true ∧ cur.drop j = M.par (M.lp s) ∧
  frzT k' H' (vs'.getD p undefT) = some t0 ∧ (∀ g v, Rd g v t0 → Rd g v t) ∧ (M.keep (M.lp s))[p]? = some d ∧ d < M.len ∧ (M.keep (M.lp s)).Nodup ∧ M.vs s = vs'.set p t ∧ M.hp s = ⟨H'.next, .nl⟩
def Mch.WaysF {S : Type} (M : Mch S) (P : Program) (D : Ed) (F : Fc) (fn : Func) (k : Nat) : Prop :=
 ∀ s o fr, M.step s = some o → M.LeadsF P D F fn k (M.lp s :: M.par (M.lp s)) (loopAt fn (M.lp s)).1 (.lp :: (loopAt fn (M.lp s)).2) (frK (M.keep (M.lp s)) (M.vs s) fr M.len) (M.hp s) o
theorem Rd.grow {g g' : G} (hw : g'.w = g.w) (hS : ∀ b, g.S b → g'.S b) (ha : g'.al = g.al) (hl : g'.loc = g.loc) (hcp : g'.cp = g.cp) {v : Value} {t : T} (hr : Rd g v t) : Rd g' v t := by
 have hc : ∀ (a : Addr) (v : Value), g.w.cell? a = some v → g'.w.cell? a = some v := fun a v h => by rw [hw]; exact h
 induction hr with
 | int k n => exact .int k n
 | bool b => exact .bool b
 | str s => exact .str s
 | nilp => exact .nilp
 | ptr l off h => rw [← hl]; exact .ptr l off (ha ▸ h)
 | ref x off b o vs h1 hlen hcc _ ih => exact .ref x off b o vs (hS b h1) hlen (fun j v hv => hc _ _ (hcc j v hv)) ih
 | nils => exact .nils
 | slfn full f p => exact .slfn full f p
 | sl full xs sz b o cap vs h1 hsz h2 h3 h4 hlen hcc _ ih => exact .sl full xs sz b o cap vs (fun hx => hS b (h1 hx)) hsz h2 h3 h4 hlen (fun j v hv => hc _ _ (hcc j v hv)) ih
 | slf full n f sz b o cap vs h1 h2 h3 h4 h5 h6 h7 h8 => exact Rd.slf_keep hS (fun _ _ _ _ q => hc _ _ q) h1 h2 h3 h4 h5 h6 h7 h8
 | osl l sz i len b o cap h h1 h2 h3 h4 => exact .osl l sz i len b o cap (ha ▸ h) h1 (hcp ▸ h2) (fun q => hl ▸ h3 q) (fun q => hcp ▸ h4 q)
 | nilf => exact .nilf
 | fn f a c vs us h1 _ h3 _ ih1 ih2 => exact .fn f a c vs us h1 ih1 h3 ih2
 | nili => exact .nili
 | iface t v x _ ih => exact .iface t v x ih
 | nilm => exact .nilm
 | mp l h => rw [← hl]; exact .mp l (ha ▸ h)
 | yl l h => rw [← hl]; exact .yl l (ha ▸ h)
 | agg cs vs h1 _ ih => exact .agg cs vs h1 ih
 | tup cs vs h1 _ ih => exact .tup cs vs h1 ih
theorem CInv.freeze {E : Env} {g0 g : G} {H0 H : Hp} {a : Act} {fr : List T} (hz : GlFrz E.gl) (hc : CInv E g0 H0 g a fr H) {d k : Nat} {t0 t : T} (hd : d < fr.length) (h : frzT k H (getT fr d) = some t0) (hcv : ∀ g v, Rd g v t0 → Rd g v t) : CInv E g0 H0 (g.frz H g) a (fr.set d t) ⟨H.next, .nl⟩ := by
 refine ⟨fun b hb => ?_, St.nl _ _ hc.st.new, GlOk.frz hz hc.st hc.gl, hc.df, ⟨by simp [hc.fr.1], fun j v c hv hcj => ?_⟩, ?_⟩
 ·rcases hb with hb | ⟨l, o, ho, rfl⟩
  ·exact hc.ok b hb
  ·exact hc.st.lt (get_any ho).1
 ·rw [List.getElem?_set] at hcj
  by_cases e : d = j
  ·subst e
   rw [if_pos rfl, if_pos hd] at hcj
   cases hcj
   rw [getT_eq, List.getD_eq_getElem?_getD, List.getElem?_eq_getElem hd] at h
   exact hcv _ _ <| frz_ok hc.st k _ _ _ h (hc.fr.2 d v _ hv (List.getElem?_eq_getElem hd))
  ·rw [if_neg e] at hcj
   exact Rd.grow (g := g) (g' := g.frz H g) rfl (fun _ q => Or.inl q) rfl rfl rfl (hc.fr.2 j v c hv hcj)
 ·have e3 := hc.step
  refine ⟨e3.os, e3.tape, e3.output, e3.size, e3.block, fun b hb => .inl (e3.sub b hb), fun b hb => ?_, e3.al, e3.loc, e3.cp, fun l o ho => (by rw [any_nl] at ho; cases ho)⟩
  rcases hb with hb | ⟨l, o, ho, rfl⟩
  ·exact e3.fresh b hb
  ·rcases e3.live l o (get_any ho).1 with ⟨l0, o0, q1, q2⟩ | q
   ·exact .inr (.inr ⟨l0, o0, q1, q2⟩)
   ·exact .inr (.inl q)
theorem good_freeze {P : Program} {E : Env} {c : Code} {fr : List T} {H : Hp} {Q : X → List T → Hp → Prop} (hz : GlFrz E.gl) {d k : Nat} {t0 t : T} (hd : d < fr.length) (h : frzT k H (getT fr d) = some t0) (hcv : ∀ g v, Rd g v t0 → Rd g v t) (hG : Good P E c (fr.set d t) ⟨H.next, .nl⟩ Q) : Good P E c fr H Q :=
 fun g0 g H0 a hc R hR => hG g0 (g.frz H g) H0 a (hc.freeze hz hd h hcv) R hR
theorem keep_set {keep : List Nat} {fr vs : List T} {p d : Nat} {t : T} (h1 : keep.map (getT fr) = vs) (h2 : keep[p]? = some d) (h3 : d < fr.length) (h4 : keep.Nodup) : getT fr d = vs.getD p undefT ∧ keep.map (getT (fr.set d t)) = vs.set p t := by
 have hp : p < keep.length := (List.getElem?_eq_some_iff.1 h2).1
 subst h1
 refine ⟨by rw [List.getD_eq_getElem?_getD, List.getElem?_map, h2]; rfl, ?_⟩
 apply List.ext_getElem?
 intro q
 rw [List.getElem?_map, List.getElem?_set]
 by_cases e : p = q
 ·subst e
  rw [h2, if_pos rfl, if_pos (by simpa using hp)]
  simp only [Option.map_some, getT_eq]
  rw [List.getD_eq_getElem?_getD, List.getElem?_set_self h3]
  rfl
 ·rw [if_neg e, List.getElem?_map]
  cases hq : keep[q]? with
  | none => rfl
  | some d' =>
   simp only [Option.map_some, getT_eq]
   have hne : d ≠ d' := by
    intro e'
    subst e'
    have h5 := (List.getElem?_eq_some_iff.1 h2).2
    obtain ⟨hq1, hq2⟩ := List.getElem?_eq_some_iff.1 hq
    have hpw := List.pairwise_iff_getElem.1 h4
    rcases Nat.lt_or_gt_of_ne e with q1 | q1
    ·exact hpw p q hp hq1 q1 (h5.trans hq2.symm)
    ·exact hpw q p hq1 hp q1 (hq2.trans h5.symm)
   rw [List.getD_eq_getElem?_getD, List.getD_eq_getElem?_getD, List.getElem?_set_ne hne]
def Mch.Inv {S : Type} (M : Mch S) (r : T) (n j : Nat) (fr : List T) (H : Hp) : Prop := ∃ m s, m < n ∧ M.lp s = j ∧ M.run m s = some r ∧ M.At s fr H
def Imp : List (List T → Hp → Prop) → List (List T → Hp → Prop) → Prop
 | [], _ => True
 | _ :: _, [] => False
 | A :: As, B :: Bs => (∀ fr H, A fr H → B fr H) ∧ Imp As Bs
section
variable {P : Program} {D : Ed} {F : Fc} {fn : Func} {k : Nat} {S : Type} {M : Mch S}
theorem postK_mono {E : Env} {Q : X → List T → Hp → Prop} : ∀ (ks : List Ki) (As Bs : List (List T → Hp → Prop)), Imp As Bs → ∀ x fr H, postK P E Q ks As x fr H → postK P E Q ks Bs x fr H
 | [], _, _, _, x, fr, H, h => h
 | .seq d :: ks, As, Bs, hi, x, fr, H, h => by
  simp only [postK] at h ⊢
  cases x with
  | normal => exact Good.mono h (postK_mono ks As Bs hi)
  | exit id => exact postK_mono ks As Bs hi _ fr H h
  | ret => exact postK_mono ks As Bs hi _ fr H h
 | .blk id :: ks, As, Bs, hi, x, fr, H, h => by
  simp only [postK] at h ⊢
  cases x with
  | normal => exact postK_mono ks As Bs hi _ fr H h
  | exit id' =>
   simp only [exitBlock] at h ⊢
   split
   ·rename_i e; rw [if_pos e] at h; exact postK_mono ks As Bs hi _ fr H h
   ·rename_i e; rw [if_neg e] at h; exact postK_mono ks As Bs hi _ fr H h
  | ret => exact postK_mono ks As Bs hi _ fr H h
 | .lp :: ks, [], Bs, hi, x, fr, H, h => by
  simp only [postK] at h
  cases Bs with
  | nil =>
   simp only [postK]
   cases x with
   | normal => exact h.elim
   | exit id => exact postK_mono ks [] [] hi _ fr H h
   | ret => exact postK_mono ks [] [] hi _ fr H h
  | cons B Bs =>
   simp only [postK]
   cases x with
   | normal => exact h.elim
   | exit id => exact postK_mono ks [] Bs trivial _ fr H h
   | ret => exact postK_mono ks [] Bs trivial _ fr H h
 | .lp :: ks, A :: As, [], hi, x, fr, H, h => hi.elim
 | .lp :: ks, A :: As, B :: Bs, hi, x, fr, H, h => by
  simp only [postK] at h ⊢
  cases x with
  | normal => exact hi.1 fr H h
  | exit id => exact postK_mono ks As Bs hi.2 _ fr H h
  | ret => exact postK_mono ks As Bs hi.2 _ fr H h
theorem imp_map {α : Type} (f g : α → List T → Hp → Prop) : ∀ (l : List α), (∀ a ∈ l, ∀ fr H, f a fr H → g a fr H) → Imp (l.map f) (l.map g)
 | [], _ => trivial
 | a :: l, h => ⟨h a (by simp), imp_map f g l fun b hb => h b (by simp [hb])⟩
theorem Imp.drop : ∀ (j : Nat) (As Bs : List (List T → Hp → Prop)), Imp As Bs → Imp (As.drop j) (Bs.drop j)
 | 0, As, Bs, h => h
 | j + 1, [], Bs, _ => by simp [Imp]
 | j + 1, A :: As, [], h => h.elim
 | j + 1, A :: As, B :: Bs, h => Imp.drop j As Bs h.2
theorem mach_loopF (x : Cx P D F) (hz : GlFrz D.gl) (hw : M.WaysF P D F fn k) (hc : ∀ s, codeOk (loopAt fn (M.lp s)).1 = true ∧ ksOk (.lp :: (loopAt fn (M.lp s)).2) = true) (r : T) : ∀ (n : Nat) (s : S) (fr : List T) (H : Hp), M.run n s = some r → M.At s fr H →
  Good P D.env (.loop (loopAt fn (M.lp s)).1) fr H (postK P D.env (Ends P fn k r) (loopAt fn (M.lp s)).2 ((M.par (M.lp s)).map (M.Inv r n))) := by
 intro n
 induction n using Nat.strongRecOn with
 | ind n ih =>
  intro s fr H hr hat
  refine good_loop (fun m fr H => ∃ s', M.lp s' = M.lp s ∧ m ≤ n ∧ M.run m s' = some r ∧ M.At s' fr H) (fun m fr H ⟨s1, e1, hm, hr1, hat1⟩ => ?_) n fr H ⟨s, rfl, Nat.le_refl _, hr, hat⟩
  cases m with
  | zero => simp [Mch.run] at hr1
  | succ m =>
   simp only [Mch.run] at hr1
   cases hst : M.step s1 with
   | none => rw [hst] at hr1; cases hr1
   | some o =>
    rw [hst] at hr1
    have hl := hw s1 o fr hst
    obtain ⟨q1, q2, q3⟩ := hat1
    rw [frK_eq q1 q2, ← q3, e1] at hl
    obtain ⟨c1, c2⟩ := hc s1
    rw [e1] at c1 c2
    show Good P D.env (loopAt fn (M.lp s)).1 fr H (postK P D.env (Ends P fn k r) (.lp :: (loopAt fn (M.lp s)).2) ((fun fr' H' => ∃ m' < m + 1, ∃ s', M.lp s' = M.lp s ∧ m' ≤ n ∧ M.run m' s' = some r ∧ M.At s' fr' H') :: (M.par (M.lp s)).map (M.Inv r n)))
    have hi : ∀ m', m' = m → Imp ((M.lp s :: M.par (M.lp s)).map (M.Inv r m)) ((fun fr' H' => ∃ m' < m + 1, ∃ s', M.lp s' = M.lp s ∧ m' ≤ n ∧ M.run m' s' = some r ∧ M.At s' fr' H') :: (M.par (M.lp s)).map (M.Inv r n)) := fun _ _ =>
     ⟨fun fr H ⟨m', s', a1, a2, a3, a4⟩ => ⟨m', by omega, s', a2, by omega, a3, a4⟩, imp_map _ _ _ fun i _ fr H ⟨m', s', a1, a2, a3, a4⟩ => ⟨m', s', by omega, a2, a3, a4⟩⟩
    rcases hl with hl | ⟨s2, rfl, N, ds, log, j, H', vs', p, d, k', t0, t, h1, h2, h3, f1, f1c, f2, f3, f4, f5, f6⟩
    rotate_left
    ·simp only at hr1
     refine x.loop c1 c2 h1 h2 (fun fr' k1 k2 => ?_)
     obtain ⟨z1, z2⟩ := keep_set (t := t) k1 f2 (by omega) f4
     refine good_freeze (d := d) (k := k') (t := t) hz (by omega) (by rw [z1]; exact f1) f1c ?_
     have := ih m (by omega) s2 (fr'.set d t) (M.hp s2) hr1 ⟨by rw [z2, f5], by simpa using k2, rfl⟩
     rw [f6] at this
     refine this.mono (postK_mono _ _ _ ?_)
     rw [← h3]
     have := Imp.drop j _ _ (hi m rfl)
     rwa [← List.map_drop] at this
    cases o with
    | inr r' =>
     simp only [Option.some.injEq] at hr1
     subst hr1
     obtain ⟨N, ds, log, kp, H', vs, len, h1, h2⟩ := hl
     exact x.done c1 c2 h1 rfl h2
    | inl s2 =>
     simp only at hr1
     rcases hl with ⟨N, ds, log, j, h1, h2, h3⟩ | ⟨N, ds, log, j, h1, h2, h3⟩
     ·cases j with
      | zero =>
       simp only [List.getElem?_cons_zero, Option.some.injEq] at h3
       exact x.again c1 c2 h1 h2 rfl (fun fr' k1 k2 => ⟨m, by omega, s2, h3.symm, by omega, hr1, k1, k2, rfl⟩)
      | succ j =>
       simp only [List.getElem?_cons_succ] at h3
       refine x.again c1 c2 h1 h2 (A := M.Inv r n (M.lp s2)) ?_ (fun fr' k1 k2 => ⟨m, s2, by omega, rfl, hr1, k1, k2, rfl⟩)
       simp only [List.getElem?_cons_succ, List.getElem?_map, h3, Option.map_some]
     ·refine x.loop c1 c2 h1 h2 (fun fr' k1 k2 => ?_)
      have := ih m (by omega) s2 fr' (M.hp s2) hr1 ⟨k1, k2, rfl⟩
      refine this.mono (postK_mono _ _ _ ?_)
      rw [← h3]
      have hi : Imp ((M.lp s :: M.par (M.lp s)).map (M.Inv r m)) ((fun fr' H' => ∃ m' < m + 1, ∃ s', M.lp s' = M.lp s ∧ m' ≤ n ∧ M.run m' s' = some r ∧ M.At s' fr' H') :: (M.par (M.lp s)).map (M.Inv r n)) :=
       ⟨fun fr H ⟨m', s', a1, a2, a3, a4⟩ => ⟨m', by omega, s', a2, by omega, a3, a4⟩, imp_map _ _ _ fun i _ fr H ⟨m', s', a1, a2, a3, a4⟩ => ⟨m', s', by omega, a2, a3, a4⟩⟩
      have := Imp.drop j _ _ hi
      rwa [← List.map_drop] at this
theorem pure_machF {c : Code} {f : FuncId} {d : Nat} (x : Cx P D F) (hz : GlFrz D.gl) (h1 : okFn P f = true) (hfn : P.funcs[f]? = some fn) (hb : fn.body = some c) (hcb : bodyOf fn = c) (hco : codeOk c = true) {ts : List T} (hts : mapO (frzT d ⟨0, .nl⟩) ts = some ts) {L : Nat} (hL : fn.ntmps - ts.length = L)
  (hw : M.WaysF P D F fn k) (hc : ∀ s, codeOk (loopAt fn (M.lp s)).1 = true ∧ ksOk (.lp :: (loopAt fn (M.lp s)).2) = true) {o : S ⊕ T}
  (hl : M.Leads P D F fn k [] (bodyOf fn) [] (ts ++ List.replicate L undefT) ⟨0, .nl⟩ o) {n : Nat} {r : T} (hr : M.fin n o = some r) : PureFn P D.gl f ts r := by
 subst hcb; subst hL
 refine pure_good0 (E := D.env) (k := k) (d := d) (fn := fn) (c := bodyOf fn) hz h1 hfn hb hts ?_
 show Good P D.env (bodyOf fn) (ts ++ List.replicate (fn.ntmps - ts.length) undefT) ⟨0, .nl⟩ (postK P D.env (Ends P fn k r) [] [])
 cases o with
 | inr r' =>
  simp only [Mch.fin, Option.some.injEq] at hr
  subst hr
  obtain ⟨N, ds, log, kp, H', vs, len, h1, h2⟩ := hl
  exact x.done hco rfl h1 rfl h2
 | inl s =>
  rcases hl with ⟨N, ds, log, j, h1, h2, h3⟩ | ⟨N, ds, log, j, h1, h2, h3⟩
  ·simp at h3
  ·refine x.loop hco rfl h1 h2 (fun fr' k1 k2 => ?_)
   have := mach_loopF x hz hw hc r n s fr' (M.hp s) hr ⟨k1, k2, rfl⟩
   rw [← h3] at this
   simpa using this
theorem pure_mach {c : Code} {f : FuncId} {d : Nat} (x : Cx P D F) (hz : GlFrz D.gl) (h1 : okFn P f = true) (hfn : P.funcs[f]? = some fn) (hb : fn.body = some c) (hcb : bodyOf fn = c) (hco : codeOk c = true) {ts : List T} (hts : mapO (frzT d ⟨0, .nl⟩) ts = some ts) {L : Nat} (hL : fn.ntmps - ts.length = L)
  (hw : M.Ways P D F fn k) (hc : ∀ s, codeOk (loopAt fn (M.lp s)).1 = true ∧ ksOk (.lp :: (loopAt fn (M.lp s)).2) = true) {o : S ⊕ T}
  (hl : M.Leads P D F fn k [] (bodyOf fn) [] (ts ++ List.replicate L undefT) ⟨0, .nl⟩ o) {n : Nat} {r : T} (hr : M.fin n o = some r) : PureFn P D.gl f ts r :=
 pure_machF x hz h1 hfn hb hcb hco hts hL (fun s o fr h => .inl (hw s o fr h)) hc hl hr
def noM : Mch Empty := { lp := fun _ => 0, keep := fun _ => [], par := fun _ => [], vs := fun _ => [], hp := fun _ => ⟨0, .nl⟩, len := 0, step := fun _ => none }
theorem noM_ways : noM.Ways P D F fn k := fun s => s.elim
end
end Go.Ps

/- What the two checks of a filter call: contracts at one filter. -/
namespace Go.Proofs.Tryz
noncomputable section
open Go.Ps
set_option maxRecDepth 100000
def pb (p : Prop) : Bool := @decide p (Classical.propDecidable p)
theorem pb_iff {p : Prop} : pb p = true ↔ p := by unfold pb; simp
def F0 : Fc := ⟨fun _ => false, fun _ _ _ => none⟩
structure SF where
 node : List UInt8
 reason : List UInt8
 fr : Int
 till : Int
 bN : Bool
 bV : Bool
 e : Int
 x : T
def s26 (m : Int) (te : TypeId) (q : SF) : List T → Option (T × List Bool)
 | [.str a] => some (.bool q.bN, [pb (a = q.node), pb (PureFn prog (glZ m te) 26 [.str q.node] (.bool q.bN))])
 | _ => none
def s27 (m : Int) (te : TypeId) (q : SF) : List T → Option (T × List Bool)
 | [.str a] => some (.bool q.bV, [pb (a = q.reason), pb (PureFn prog (glZ m te) 27 [.str q.reason] (.bool q.bV))])
 | _ => none
def s28 (m : Int) (te : TypeId) (q : SF) : List T → Option (T × List Bool)
 | [y] => some (.int .i64 q.e, [pb (y = q.x), pb (PureFn prog (glZ m te) 28 [q.x] (.int .i64 q.e))])
 | _ => none
def s25 : List T → Option (T × List Bool)
 | [.int .i64 n] => some (.bool (decide (0 ≤ n) && decide (n ≤ 1048576)), [])
 | _ => none
def pdC (m : Int) (te : TypeId) (q : SF) : Hp → FuncId → List T → Option (T × List Bool) := pdAdd 25 s25 (pdAdd 26 (s26 m te q) (pdAdd 27 (s27 m te q) (pdAdd 28 (s28 m te q) (fun _ _ _ => none))))
def DC (m : Int) (te : TypeId) (q : SF) : Ed := ⟨glZ m te, pdC m te q⟩
def DZ (m : Int) (te : TypeId) : Ed := ⟨glZ m te, fun _ _ _ => none⟩
theorem cxZ (m : Int) (te : TypeId) : Cx prog (DZ m te) F0 := ⟨follows, pdNone_ok, eeNone_ok⟩
end
end Go.Proofs.Tryz

namespace Go.Proofs.Tryz
noncomputable section
open Go.Ps
set_option maxRecDepth 100000
/-! ### 25 -/
def g25n_s_1 (m : Int) (te : TypeId) (q : Int) : List Bool := let y0 := decide (q ≥ 0); [y0, y0, y0]
def r25n_s (m : Int) (te : TypeId) (q : Int) (ds : List Bool) : RD Out := runK prog (DZ m te) F0 2000 (.code (bodyOf f25)) [] 0 ([.int .i64 q] ++ List.replicate 8 undefT) ⟨0, .nl⟩ ds []
theorem w25n_s_1 (m : Int) (te : TypeId) (q : Int) : outK prog f25 20 [] (r25n_s m te q [true, true, true])
  = some (OutT.done (some (T.bool (decide (q ≤ 1048576)))), g25n_s_1 m te q, { next := 0, objs := Ht.nl }, [], 0) := by kernel_rfl
def g25n_s_2 (m : Int) (te : TypeId) (q : Int) : List Bool := let y0 := decide (q ≥ 0); [!y0, !y0, !y0]
theorem w25n_s_2 (m : Int) (te : TypeId) (q : Int) : outK prog f25 20 [] (r25n_s m te q [false, false, false])
  = some (OutT.done (some (T.bool false)), g25n_s_2 m te q, { next := 0, objs := Ht.nl }, [], 0) := by kernel_rfl
def o25n (m : Int) (te : TypeId) (q : Int) : Option (Empty ⊕ T) :=
 (if decide (q ≥ 0) then (if allT (g25n_s_1 m te q) then some (.inr (T.bool (decide (q ≤ 1048576)))) else none) else (if allT (g25n_s_2 m te q) then some (.inr (T.bool false)) else none))
def V25n_s (m : Int) (te : TypeId) (q : Int) : Empty ⊕ T :=
 (if decide (q ≥ 0) then (.inr (T.bool (decide (q ≤ 1048576)))) else (.inr (T.bool false)))
def K25n_s (m : Int) (te : TypeId) (q : Int) : Bool :=
 (if decide (q ≥ 0) then (allT (g25n_s_1 m te q)) else (allT (g25n_s_2 m te q)))
theorem T25n_s (m : Int) (te : TypeId) (q : Int) (hk : K25n_s m te q = true) : o25n m te q = some (V25n_s m te q) :=
 (tree_if tree_leaf tree_leaf) hk
theorem run25n (m : Int) (te : TypeId) (q : Int) {n : Nat} {o : Empty ⊕ T} {r : T} (h : o25n m te q = some o) (hr : noM.fin n o = some r) : PureFn prog (glZ m te) 25 [.int .i64 q] r := by
 refine pure_mach (M := noM) (fn := f25) (k := 20) (d := 8) (c := bodyOf f25) (cxZ m te) (glZFrz m te) (by kernel_rfl) func25 (by kernel_rfl) rfl (by kernel_rfl) (by kernel_rfl) (L := 8) (by kernel_rfl) noM_ways (fun σ => σ.elim) ?_ hr
 exact (ways_if (ways_leaf fun hk => ⟨2000, _, _, _, _, _, _, w25n_s_1 m te q, hk⟩) (ways_leaf fun hk => ⟨2000, _, _, _, _, _, _, w25n_s_2 m te q, hk⟩)) o h
theorem c25n (m : Int) (te : TypeId) (q : Int) (n : Nat) {r : T} (hk : K25n_s m te q = true) (hr : noM.fin n (V25n_s m te q) = some r) : PureFn prog (glZ m te) 25 [.int .i64 q] r := run25n m te q (T25n_s m te q hk) hr
end
end Go.Proofs.Tryz

/- What the two checks of a filter call: the contracts hold. -/
namespace Go.Proofs.Tryz
open Go.Ps
set_option maxRecDepth 100000
theorem in_ok (m : Int) (te : TypeId) (n : Int) : PureFn prog (glZ m te) 25 [.int .i64 n] (.bool (decide (0 ≤ n) && decide (n ≤ 1048576))) := by
 refine c25n m te n 0 ?_ ?_
 ·unfold K25n_s g25n_s_1 g25n_s_2
  split <;> simp_all [allT]
 ·unfold V25n_s
  by_cases h : 0 ≤ n <;> simp [h, noM, Mch.fin]
theorem cxC (m : Int) (te : TypeId) (q : SF) : Cx prog (DC m te q) F0 := by
 refine ⟨follows, ?_, eeNone_ok⟩
 refine pdAdd_ok (pdAdd_ok (pdAdd_ok (pdAdd_ok pdNone_ok fun ts r cs h hc => ?_) fun ts r cs h hc => ?_) fun ts r cs h hc => ?_) fun ts r cs h hc => ?_
 ·unfold s28 at h
  split at h
  ·rename_i y
   cases h
   simp only [allT, Bool.and_true, Bool.and_eq_true, pb_iff] at hc
   rw [hc.1]; exact hc.2
  ·cases h
 ·unfold s27 at h
  split at h
  ·cases h
   simp only [allT, Bool.and_true, Bool.and_eq_true, pb_iff] at hc
   rw [hc.1]; exact hc.2
  ·cases h
 ·unfold s26 at h
  split at h
  ·cases h
   simp only [allT, Bool.and_true, Bool.and_eq_true, pb_iff] at hc
   rw [hc.1]; exact hc.2
  ·cases h
 ·unfold s25 at h
  split at h
  ·cases h
   exact in_ok m te _
  ·cases h
end Go.Proofs.Tryz

namespace Go.Proofs.Tryz
noncomputable section
open Go.Ps
set_option maxRecDepth 100000
/-! ### 10 -/
inductive S10n where
 | l0u0 (x57 : Int)
def k10n_s_0 (m : Int) (te : TypeId) (q : SF) (fl : Bool) (k : Nat) (u0 u1 u2 u3 u4 : Nat → T) : List Bool := [!q.node == [], !q.node == [], pb (q.node = q.node), pb (PureFn prog (glZ m te) 26 [T.str q.node] (T.bool q.bN)), !q.node == [], !q.node == [], !q.node == []]
def k10n_s_1 (m : Int) (te : TypeId) (q : SF) (fl : Bool) (k : Nat) (u0 u1 u2 u3 u4 : Nat → T) : List Bool := (pb (q.reason = q.reason)) :: (pb (PureFn prog (glZ m te) 27 [T.str q.reason] (T.bool q.bV))) :: (!decide ((↑q.reason.length : Int) > 64)) :: (!!q.bN) :: k10n_s_0 m te q fl k u0 u1 u2 u3 u4
def k10n_s_2 (m : Int) (te : TypeId) (q : SF) (fl : Bool) (k : Nat) (u0 u1 u2 u3 u4 : Nat → T) : List Bool := let y0 := (decide (0 ≤ q.fr) && decide (q.fr ≤ 1048576)); (!!y0) :: (!!y0) :: (!!y0) :: (!!y0) :: (!!y0) :: (!!y0) :: (!!q.bV) :: k10n_s_1 m te q fl k u0 u1 u2 u3 u4
def k10n_s_3 (m : Int) (te : TypeId) (q : SF) (fl : Bool) (k : Nat) (u0 u1 u2 u3 u4 : Nat → T) : List Bool := (!!(decide (0 ≤ q.till) && decide (q.till ≤ 1048576))) :: k10n_s_2 m te q fl k u0 u1 u2 u3 u4
def k10n_s_4 (m : Int) (te : TypeId) (q : SF) (fl : Bool) (k : Nat) (u0 u1 u2 u3 u4 : Nat → T) : List Bool := (q.till != 0) :: (q.till != 0) :: (q.till != 0) :: (q.till != 0) :: (q.till != 0) :: (q.till != 0) :: k10n_s_3 m te q fl k u0 u1 u2 u3 u4
def k10n_s_5 (m : Int) (te : TypeId) (q : SF) (fl : Bool) (k : Nat) (u0 u1 u2 u3 u4 : Nat → T) : List Bool := true :: (!q.till != 0) :: (!q.till != 0) :: (!q.till != 0) :: (!q.till != 0) :: (!q.till != 0) :: (!q.till != 0) :: k10n_s_3 m te q fl k u0 u1 u2 u3 u4
def k10n_s_6 (m : Int) (te : TypeId) (q : SF) (fl : Bool) (k : Nat) (u0 u1 u2 u3 u4 : Nat → T) : List Bool := [true, !!q.node == [], !!q.node == [], !!q.node == [], !!q.node == [], !!q.node == []]
def k10n_s_7 (m : Int) (te : TypeId) (q : SF) (fl : Bool) (k : Nat) (u0 u1 u2 u3 u4 : Nat → T) : List Bool := (pb (q.reason = q.reason)) :: (pb (PureFn prog (glZ m te) 27 [T.str q.reason] (T.bool q.bV))) :: (!decide ((↑q.reason.length : Int) > 64)) :: k10n_s_6 m te q fl k u0 u1 u2 u3 u4
def k10n_s_8 (m : Int) (te : TypeId) (q : SF) (fl : Bool) (k : Nat) (u0 u1 u2 u3 u4 : Nat → T) : List Bool := let y0 := (decide (0 ≤ q.fr) && decide (q.fr ≤ 1048576)); (!!y0) :: (!!y0) :: (!!y0) :: (!!y0) :: (!!y0) :: (!!y0) :: (!!q.bV) :: k10n_s_7 m te q fl k u0 u1 u2 u3 u4
def k10n_s_9 (m : Int) (te : TypeId) (q : SF) (fl : Bool) (k : Nat) (u0 u1 u2 u3 u4 : Nat → T) : List Bool := (!!(decide (0 ≤ q.till) && decide (q.till ≤ 1048576))) :: k10n_s_8 m te q fl k u0 u1 u2 u3 u4
def k10n_s_10 (m : Int) (te : TypeId) (q : SF) (fl : Bool) (k : Nat) (u0 u1 u2 u3 u4 : Nat → T) : List Bool := (q.till != 0) :: (q.till != 0) :: (q.till != 0) :: (q.till != 0) :: (q.till != 0) :: (q.till != 0) :: k10n_s_9 m te q fl k u0 u1 u2 u3 u4
def k10n_s_11 (m : Int) (te : TypeId) (q : SF) (fl : Bool) (k : Nat) (u0 u1 u2 u3 u4 : Nat → T) : List Bool := true :: (!q.till != 0) :: (!q.till != 0) :: (!q.till != 0) :: (!q.till != 0) :: (!q.till != 0) :: (!q.till != 0) :: k10n_s_9 m te q fl k u0 u1 u2 u3 u4
def g10n_s_1 (m : Int) (te : TypeId) (q : SF) (fl : Bool) (k : Nat) (u0 u1 u2 u3 u4 : Nat → T) : List Bool := (!q.bN) :: k10n_s_0 m te q fl k u0 u1 u2 u3 u4
def r10n_s (m : Int) (te : TypeId) (q : SF) (fl : Bool) (k : Nat) (u0 u1 u2 u3 u4 : Nat → T) (ds : List Bool) : RD Out := runK prog (DC m te q) F0 2000 (.code (bodyOf f10)) [] 0 ([.agg [.str q.node, .str q.reason, .int .i64 q.fr, .int .i64 q.till, .slf fl k (fun i => .agg [u0 i, u1 i, u2 i, u3 i, u4 i])]] ++ List.replicate 64 undefT) ⟨0, .nl⟩ ds []
theorem w10n_s_1 (m : Int) (te : TypeId) (q : SF) (fl : Bool) (k : Nat) (u0 u1 u2 u3 u4 : Nat → T) : outK prog f10 20 [] (r10n_s m te q fl k u0 u1 u2 u3 u4 (bt 6 63))
  = some (OutT.done (some (T.int .i64 12)), g10n_s_1 m te q fl k u0 u1 u2 u3 u4, { next := 0, objs := Ht.nl }, [], 0) := by kernel_rfl
def g10n_s_2 (m : Int) (te : TypeId) (q : SF) (fl : Bool) (k : Nat) (u0 u1 u2 u3 u4 : Nat → T) : List Bool := (decide ((↑q.reason.length : Int) > 64)) :: (!!q.bN) :: k10n_s_0 m te q fl k u0 u1 u2 u3 u4
theorem w10n_s_2 (m : Int) (te : TypeId) (q : SF) (fl : Bool) (k : Nat) (u0 u1 u2 u3 u4 : Nat → T) : outK prog f10 20 [] (r10n_s m te q fl k u0 u1 u2 u3 u4 (bt 7 95))
  = some (OutT.done (some (T.int .i64 5)), g10n_s_2 m te q fl k u0 u1 u2 u3 u4, { next := 0, objs := Ht.nl }, [], 0) := by kernel_rfl
def g10n_s_3 (m : Int) (te : TypeId) (q : SF) (fl : Bool) (k : Nat) (u0 u1 u2 u3 u4 : Nat → T) : List Bool := (!q.bV) :: k10n_s_1 m te q fl k u0 u1 u2 u3 u4
theorem w10n_s_3 (m : Int) (te : TypeId) (q : SF) (fl : Bool) (k : Nat) (u0 u1 u2 u3 u4 : Nat → T) : outK prog f10 20 [] (r10n_s m te q fl k u0 u1 u2 u3 u4 (bt 8 159))
  = some (OutT.done (some (T.int .i64 16)), g10n_s_3 m te q fl k u0 u1 u2 u3 u4, { next := 0, objs := Ht.nl }, [], 0) := by kernel_rfl
def g10n_s_4 (m : Int) (te : TypeId) (q : SF) (fl : Bool) (k : Nat) (u0 u1 u2 u3 u4 : Nat → T) : List Bool := let y0 := (decide (0 ≤ q.fr) && decide (q.fr ≤ 1048576)); true :: (!y0) :: (!y0) :: (!y0) :: (!y0) :: (!y0) :: (!y0) :: (!!q.bV) :: k10n_s_1 m te q fl k u0 u1 u2 u3 u4
theorem w10n_s_4 (m : Int) (te : TypeId) (q : SF) (fl : Bool) (k : Nat) (u0 u1 u2 u3 u4 : Nat → T) : outK prog f10 20 [] (r10n_s m te q fl k u0 u1 u2 u3 u4 (bt 15 32543))
  = some (OutT.done (some (T.int .i64 2)), g10n_s_4 m te q fl k u0 u1 u2 u3 u4, { next := 0, objs := Ht.nl }, [], 0) := by kernel_rfl
def g10n_s_5 (m : Int) (te : TypeId) (q : SF) (fl : Bool) (k : Nat) (u0 u1 u2 u3 u4 : Nat → T) : List Bool := (!(decide (0 ≤ q.till) && decide (q.till ≤ 1048576))) :: k10n_s_2 m te q fl k u0 u1 u2 u3 u4
theorem w10n_s_5 (m : Int) (te : TypeId) (q : SF) (fl : Bool) (k : Nat) (u0 u1 u2 u3 u4 : Nat → T) : outK prog f10 20 [] (r10n_s m te q fl k u0 u1 u2 u3 u4 (bt 15 16415))
  = some (OutT.done (some (T.int .i64 2)), g10n_s_5 m te q fl k u0 u1 u2 u3 u4, { next := 0, objs := Ht.nl }, [], 0) := by kernel_rfl
def g10n_s_6 (m : Int) (te : TypeId) (q : SF) (fl : Bool) (k : Nat) (u0 u1 u2 u3 u4 : Nat → T) : List Bool := (decide (q.till < q.fr)) :: k10n_s_4 m te q fl k u0 u1 u2 u3 u4
theorem w10n_s_6 (m : Int) (te : TypeId) (q : SF) (fl : Bool) (k : Nat) (u0 u1 u2 u3 u4 : Nat → T) : outK prog f10 20 [] (r10n_s m te q fl k u0 u1 u2 u3 u4 (bt 22 4161567))
  = some (OutT.done (some (T.int .i64 24)), g10n_s_6 m te q fl k u0 u1 u2 u3 u4, { next := 0, objs := Ht.nl }, [], 0) := by kernel_rfl
def g10n_s_7 (m : Int) (te : TypeId) (q : SF) (fl : Bool) (k : Nat) (u0 u1 u2 u3 u4 : Nat → T) : List Bool := (decide ((↑k : Int) > 1)) :: (!decide (q.till < q.fr)) :: k10n_s_4 m te q fl k u0 u1 u2 u3 u4
theorem w10n_s_7 (m : Int) (te : TypeId) (q : SF) (fl : Bool) (k : Nat) (u0 u1 u2 u3 u4 : Nat → T) : outK prog f10 20 [] (r10n_s m te q fl k u0 u1 u2 u3 u4 (bt 23 6258719))
  = some (OutT.done (some (T.int .i64 9)), g10n_s_7 m te q fl k u0 u1 u2 u3 u4, { next := 0, objs := Ht.nl }, [], 0) := by kernel_rfl
def g10n_s_8 (m : Int) (te : TypeId) (q : SF) (fl : Bool) (k : Nat) (u0 u1 u2 u3 u4 : Nat → T) : List Bool := (!decide ((↑k : Int) > 1)) :: (!decide (q.till < q.fr)) :: k10n_s_4 m te q fl k u0 u1 u2 u3 u4
theorem w10n_s_8 (m : Int) (te : TypeId) (q : SF) (fl : Bool) (k : Nat) (u0 u1 u2 u3 u4 : Nat → T) : outK prog f10 20 [56, 57, 58] (r10n_s m te q fl k u0 u1 u2 u3 u4 (bt 23 2064415))
  = some (OutT.loop 0 (loopAt f10 0).1 (loopAt f10 0).2, g10n_s_8 m te q fl k u0 u1 u2 u3 u4, { next := 0, objs := Ht.nl }, [T.slf fl k fun i => T.agg [u0 i, u1 i, u2 i, u3 i, u4 i], T.int .i64 (↑k : Int), T.int .i64 0], 65) := by kernel_rfl
def g10n_s_9 (m : Int) (te : TypeId) (q : SF) (fl : Bool) (k : Nat) (u0 u1 u2 u3 u4 : Nat → T) : List Bool := (decide ((↑k : Int) > 1)) :: k10n_s_5 m te q fl k u0 u1 u2 u3 u4
theorem w10n_s_9 (m : Int) (te : TypeId) (q : SF) (fl : Bool) (k : Nat) (u0 u1 u2 u3 u4 : Nat → T) : outK prog f10 20 [] (r10n_s m te q fl k u0 u1 u2 u3 u4 (bt 23 4194335))
  = some (OutT.done (some (T.int .i64 9)), g10n_s_9 m te q fl k u0 u1 u2 u3 u4, { next := 0, objs := Ht.nl }, [], 0) := by kernel_rfl
def g10n_s_10 (m : Int) (te : TypeId) (q : SF) (fl : Bool) (k : Nat) (u0 u1 u2 u3 u4 : Nat → T) : List Bool := (!decide ((↑k : Int) > 1)) :: k10n_s_5 m te q fl k u0 u1 u2 u3 u4
theorem w10n_s_10 (m : Int) (te : TypeId) (q : SF) (fl : Bool) (k : Nat) (u0 u1 u2 u3 u4 : Nat → T) : outK prog f10 20 [56, 57, 58] (r10n_s m te q fl k u0 u1 u2 u3 u4 (bt 23 31))
  = some (OutT.loop 0 (loopAt f10 0).1 (loopAt f10 0).2, g10n_s_10 m te q fl k u0 u1 u2 u3 u4, { next := 0, objs := Ht.nl }, [T.slf fl k fun i => T.agg [u0 i, u1 i, u2 i, u3 i, u4 i], T.int .i64 (↑k : Int), T.int .i64 0], 65) := by kernel_rfl
def g10n_s_11 (m : Int) (te : TypeId) (q : SF) (fl : Bool) (k : Nat) (u0 u1 u2 u3 u4 : Nat → T) : List Bool := (decide ((↑q.reason.length : Int) > 64)) :: k10n_s_6 m te q fl k u0 u1 u2 u3 u4
theorem w10n_s_11 (m : Int) (te : TypeId) (q : SF) (fl : Bool) (k : Nat) (u0 u1 u2 u3 u4 : Nat → T) : outK prog f10 20 [] (r10n_s m te q fl k u0 u1 u2 u3 u4 (bt 7 64))
  = some (OutT.done (some (T.int .i64 5)), g10n_s_11 m te q fl k u0 u1 u2 u3 u4, { next := 0, objs := Ht.nl }, [], 0) := by kernel_rfl
def g10n_s_12 (m : Int) (te : TypeId) (q : SF) (fl : Bool) (k : Nat) (u0 u1 u2 u3 u4 : Nat → T) : List Bool := (!q.bV) :: k10n_s_7 m te q fl k u0 u1 u2 u3 u4
theorem w10n_s_12 (m : Int) (te : TypeId) (q : SF) (fl : Bool) (k : Nat) (u0 u1 u2 u3 u4 : Nat → T) : outK prog f10 20 [] (r10n_s m te q fl k u0 u1 u2 u3 u4 (bt 8 128))
  = some (OutT.done (some (T.int .i64 16)), g10n_s_12 m te q fl k u0 u1 u2 u3 u4, { next := 0, objs := Ht.nl }, [], 0) := by kernel_rfl
def g10n_s_13 (m : Int) (te : TypeId) (q : SF) (fl : Bool) (k : Nat) (u0 u1 u2 u3 u4 : Nat → T) : List Bool := let y0 := (decide (0 ≤ q.fr) && decide (q.fr ≤ 1048576)); true :: (!y0) :: (!y0) :: (!y0) :: (!y0) :: (!y0) :: (!y0) :: (!!q.bV) :: k10n_s_7 m te q fl k u0 u1 u2 u3 u4
theorem w10n_s_13 (m : Int) (te : TypeId) (q : SF) (fl : Bool) (k : Nat) (u0 u1 u2 u3 u4 : Nat → T) : outK prog f10 20 [] (r10n_s m te q fl k u0 u1 u2 u3 u4 (bt 15 32512))
  = some (OutT.done (some (T.int .i64 2)), g10n_s_13 m te q fl k u0 u1 u2 u3 u4, { next := 0, objs := Ht.nl }, [], 0) := by kernel_rfl
def g10n_s_14 (m : Int) (te : TypeId) (q : SF) (fl : Bool) (k : Nat) (u0 u1 u2 u3 u4 : Nat → T) : List Bool := (!(decide (0 ≤ q.till) && decide (q.till ≤ 1048576))) :: k10n_s_8 m te q fl k u0 u1 u2 u3 u4
theorem w10n_s_14 (m : Int) (te : TypeId) (q : SF) (fl : Bool) (k : Nat) (u0 u1 u2 u3 u4 : Nat → T) : outK prog f10 20 [] (r10n_s m te q fl k u0 u1 u2 u3 u4 (bt 15 16384))
  = some (OutT.done (some (T.int .i64 2)), g10n_s_14 m te q fl k u0 u1 u2 u3 u4, { next := 0, objs := Ht.nl }, [], 0) := by kernel_rfl
def g10n_s_15 (m : Int) (te : TypeId) (q : SF) (fl : Bool) (k : Nat) (u0 u1 u2 u3 u4 : Nat → T) : List Bool := (decide (q.till < q.fr)) :: k10n_s_10 m te q fl k u0 u1 u2 u3 u4
theorem w10n_s_15 (m : Int) (te : TypeId) (q : SF) (fl : Bool) (k : Nat) (u0 u1 u2 u3 u4 : Nat → T) : outK prog f10 20 [] (r10n_s m te q fl k u0 u1 u2 u3 u4 (bt 22 4161536))
  = some (OutT.done (some (T.int .i64 24)), g10n_s_15 m te q fl k u0 u1 u2 u3 u4, { next := 0, objs := Ht.nl }, [], 0) := by kernel_rfl
def g10n_s_16 (m : Int) (te : TypeId) (q : SF) (fl : Bool) (k : Nat) (u0 u1 u2 u3 u4 : Nat → T) : List Bool := (decide ((↑k : Int) > 1)) :: (!decide (q.till < q.fr)) :: k10n_s_10 m te q fl k u0 u1 u2 u3 u4
theorem w10n_s_16 (m : Int) (te : TypeId) (q : SF) (fl : Bool) (k : Nat) (u0 u1 u2 u3 u4 : Nat → T) : outK prog f10 20 [] (r10n_s m te q fl k u0 u1 u2 u3 u4 (bt 23 6258688))
  = some (OutT.done (some (T.int .i64 9)), g10n_s_16 m te q fl k u0 u1 u2 u3 u4, { next := 0, objs := Ht.nl }, [], 0) := by kernel_rfl
def g10n_s_17 (m : Int) (te : TypeId) (q : SF) (fl : Bool) (k : Nat) (u0 u1 u2 u3 u4 : Nat → T) : List Bool := (!decide ((↑k : Int) > 1)) :: (!decide (q.till < q.fr)) :: k10n_s_10 m te q fl k u0 u1 u2 u3 u4
theorem w10n_s_17 (m : Int) (te : TypeId) (q : SF) (fl : Bool) (k : Nat) (u0 u1 u2 u3 u4 : Nat → T) : outK prog f10 20 [56, 57, 58] (r10n_s m te q fl k u0 u1 u2 u3 u4 (bt 23 2064384))
  = some (OutT.loop 0 (loopAt f10 0).1 (loopAt f10 0).2, g10n_s_17 m te q fl k u0 u1 u2 u3 u4, { next := 0, objs := Ht.nl }, [T.slf fl k fun i => T.agg [u0 i, u1 i, u2 i, u3 i, u4 i], T.int .i64 (↑k : Int), T.int .i64 0], 65) := by kernel_rfl
def g10n_s_18 (m : Int) (te : TypeId) (q : SF) (fl : Bool) (k : Nat) (u0 u1 u2 u3 u4 : Nat → T) : List Bool := (decide ((↑k : Int) > 1)) :: k10n_s_11 m te q fl k u0 u1 u2 u3 u4
theorem w10n_s_18 (m : Int) (te : TypeId) (q : SF) (fl : Bool) (k : Nat) (u0 u1 u2 u3 u4 : Nat → T) : outK prog f10 20 [] (r10n_s m te q fl k u0 u1 u2 u3 u4 (bt 23 4194304))
  = some (OutT.done (some (T.int .i64 9)), g10n_s_18 m te q fl k u0 u1 u2 u3 u4, { next := 0, objs := Ht.nl }, [], 0) := by kernel_rfl
def g10n_s_19 (m : Int) (te : TypeId) (q : SF) (fl : Bool) (k : Nat) (u0 u1 u2 u3 u4 : Nat → T) : List Bool := (!decide ((↑k : Int) > 1)) :: k10n_s_11 m te q fl k u0 u1 u2 u3 u4
theorem w10n_s_19 (m : Int) (te : TypeId) (q : SF) (fl : Bool) (k : Nat) (u0 u1 u2 u3 u4 : Nat → T) : outK prog f10 20 [56, 57, 58] (r10n_s m te q fl k u0 u1 u2 u3 u4 (bt 23 0))
  = some (OutT.loop 0 (loopAt f10 0).1 (loopAt f10 0).2, g10n_s_19 m te q fl k u0 u1 u2 u3 u4, { next := 0, objs := Ht.nl }, [T.slf fl k fun i => T.agg [u0 i, u1 i, u2 i, u3 i, u4 i], T.int .i64 (↑k : Int), T.int .i64 0], 65) := by kernel_rfl
def g10n_0u0_1 (m : Int) (te : TypeId) (q : SF) (fl : Bool) (k : Nat) (u0 u1 u2 u3 u4 : Nat → T) (x57 : Int) : List Bool := [pb (T.agg [u0 0, u1 0, u2 0, u3 0, u4 0] = q.x), pb (PureFn prog (glZ m te) 28 [q.x] (T.int .i64 q.e)), true, allOne [u0 0, u1 0, u2 0, u3 0, u4 0], true, decide (0 < (↑k : Int)), true, decide (0 < x57)]
def r10n_0u0 (m : Int) (te : TypeId) (q : SF) (fl : Bool) (k : Nat) (u0 u1 u2 u3 u4 : Nat → T) (x57 : Int) (fr : List T) (ds : List Bool) : RD Out := runK prog (DC m te q) F0 2000 (.code (loopAt f10 0).1) (.lp :: (loopAt f10 0).2) 0 (frK [56, 57, 58] [T.slf fl k fun i => T.agg [u0 i, u1 i, u2 i, u3 i, u4 i], T.int .i64 x57, T.int .i64 0] fr 65) ⟨0, .nl⟩ ds []
theorem w10n_0u0_1 (m : Int) (te : TypeId) (q : SF) (fl : Bool) (k : Nat) (u0 u1 u2 u3 u4 : Nat → T) (x57 : Int) (fr : List T) : outK prog f10 20 [] (r10n_0u0 m te q fl k u0 u1 u2 u3 u4 x57 fr [true])
  = some (OutT.done (some (T.int .i64 q.e)), g10n_0u0_1 m te q fl k u0 u1 u2 u3 u4 x57, { next := 0, objs := Ht.nl }, [], 0) := by kernel_rfl
def g10n_0u0_2 (m : Int) (te : TypeId) (q : SF) (fl : Bool) (k : Nat) (u0 u1 u2 u3 u4 : Nat → T) (x57 : Int) : List Bool := [!decide (0 < x57)]
theorem w10n_0u0_2 (m : Int) (te : TypeId) (q : SF) (fl : Bool) (k : Nat) (u0 u1 u2 u3 u4 : Nat → T) (x57 : Int) (fr : List T) : outK prog f10 20 [] (r10n_0u0 m te q fl k u0 u1 u2 u3 u4 x57 fr [false])
  = some (OutT.done (some (T.int .i64 0)), g10n_0u0_2 m te q fl k u0 u1 u2 u3 u4 x57, { next := 0, objs := Ht.nl }, [], 0) := by kernel_rfl
def step10n_0u0 (m : Int) (te : TypeId) (q : SF) (fl : Bool) (k : Nat) (u0 u1 u2 u3 u4 : Nat → T) (x57 : Int) : Option (S10n ⊕ T) :=
 (if decide (0 < x57) then (if allT (g10n_0u0_1 m te q fl k u0 u1 u2 u3 u4 x57) then some (.inr (T.int .i64 q.e)) else none) else (if allT (g10n_0u0_2 m te q fl k u0 u1 u2 u3 u4 x57) then some (.inr (T.int .i64 0)) else none))
def V10n_0u0 (m : Int) (te : TypeId) (q : SF) (fl : Bool) (k : Nat) (u0 u1 u2 u3 u4 : Nat → T) (x57 : Int) : S10n ⊕ T :=
 (if decide (0 < x57) then (.inr (T.int .i64 q.e)) else (.inr (T.int .i64 0)))
def K10n_0u0 (m : Int) (te : TypeId) (q : SF) (fl : Bool) (k : Nat) (u0 u1 u2 u3 u4 : Nat → T) (x57 : Int) : Bool :=
 (if decide (0 < x57) then (allT (g10n_0u0_1 m te q fl k u0 u1 u2 u3 u4 x57)) else (allT (g10n_0u0_2 m te q fl k u0 u1 u2 u3 u4 x57)))
theorem T10n_0u0 (m : Int) (te : TypeId) (q : SF) (fl : Bool) (k : Nat) (u0 u1 u2 u3 u4 : Nat → T) (x57 : Int) (hk : K10n_0u0 m te q fl k u0 u1 u2 u3 u4 x57 = true) : step10n_0u0 m te q fl k u0 u1 u2 u3 u4 x57 = some (V10n_0u0 m te q fl k u0 u1 u2 u3 u4 x57) :=
 (tree_if tree_leaf tree_leaf) hk
def o10n (m : Int) (te : TypeId) (q : SF) (fl : Bool) (k : Nat) (u0 u1 u2 u3 u4 : Nat → T) : Option (S10n ⊕ T) :=
 (if !q.node == [] then (if !q.bN then (if allT (g10n_s_1 m te q fl k u0 u1 u2 u3 u4) then some (.inr (T.int .i64 12)) else none) else (if decide ((↑q.reason.length : Int) > 64) then (if allT (g10n_s_2 m te q fl k u0 u1 u2 u3 u4) then some (.inr (T.int .i64 5)) else none) else (if !q.bV then (if allT (g10n_s_3 m te q fl k u0 u1 u2 u3 u4) then some (.inr (T.int .i64 16)) else none) else (if !(decide (0 ≤ q.fr) && decide (q.fr ≤ 1048576)) then (if allT (g10n_s_4 m te q fl k u0 u1 u2 u3 u4) then some (.inr (T.int .i64 2)) else none) else (if !(decide (0 ≤ q.till) && decide (q.till ≤ 1048576)) then (if allT (g10n_s_5 m te q fl k u0 u1 u2 u3 u4) then some (.inr (T.int .i64 2)) else none) else (if q.till != 0 then (if decide (q.till < q.fr) then (if allT (g10n_s_6 m te q fl k u0 u1 u2 u3 u4) then some (.inr (T.int .i64 24)) else none) else (if decide ((↑k : Int) > 1) then (if allT (g10n_s_7 m te q fl k u0 u1 u2 u3 u4) then some (.inr (T.int .i64 9)) else none) else (if allT (g10n_s_8 m te q fl k u0 u1 u2 u3 u4) then some (.inl (.l0u0 (↑k : Int))) else none))) else (if decide ((↑k : Int) > 1) then (if allT (g10n_s_9 m te q fl k u0 u1 u2 u3 u4) then some (.inr (T.int .i64 9)) else none) else (if allT (g10n_s_10 m te q fl k u0 u1 u2 u3 u4) then some (.inl (.l0u0 (↑k : Int))) else none)))))))) else (if decide ((↑q.reason.length : Int) > 64) then (if allT (g10n_s_11 m te q fl k u0 u1 u2 u3 u4) then some (.inr (T.int .i64 5)) else none) else (if !q.bV then (if allT (g10n_s_12 m te q fl k u0 u1 u2 u3 u4) then some (.inr (T.int .i64 16)) else none) else (if !(decide (0 ≤ q.fr) && decide (q.fr ≤ 1048576)) then (if allT (g10n_s_13 m te q fl k u0 u1 u2 u3 u4) then some (.inr (T.int .i64 2)) else none) else (if !(decide (0 ≤ q.till) && decide (q.till ≤ 1048576)) then (if allT (g10n_s_14 m te q fl k u0 u1 u2 u3 u4) then some (.inr (T.int .i64 2)) else none) else (if q.till != 0 then (if decide (q.till < q.fr) then (if allT (g10n_s_15 m te q fl k u0 u1 u2 u3 u4) then some (.inr (T.int .i64 24)) else none) else (if decide ((↑k : Int) > 1) then (if allT (g10n_s_16 m te q fl k u0 u1 u2 u3 u4) then some (.inr (T.int .i64 9)) else none) else (if allT (g10n_s_17 m te q fl k u0 u1 u2 u3 u4) then some (.inl (.l0u0 (↑k : Int))) else none))) else (if decide ((↑k : Int) > 1) then (if allT (g10n_s_18 m te q fl k u0 u1 u2 u3 u4) then some (.inr (T.int .i64 9)) else none) else (if allT (g10n_s_19 m te q fl k u0 u1 u2 u3 u4) then some (.inl (.l0u0 (↑k : Int))) else none))))))))
def V10n_s (m : Int) (te : TypeId) (q : SF) (fl : Bool) (k : Nat) (u0 u1 u2 u3 u4 : Nat → T) : S10n ⊕ T :=
 (if !q.node == [] then (if !q.bN then (.inr (T.int .i64 12)) else (if decide ((↑q.reason.length : Int) > 64) then (.inr (T.int .i64 5)) else (if !q.bV then (.inr (T.int .i64 16)) else (if !(decide (0 ≤ q.fr) && decide (q.fr ≤ 1048576)) then (.inr (T.int .i64 2)) else (if !(decide (0 ≤ q.till) && decide (q.till ≤ 1048576)) then (.inr (T.int .i64 2)) else (if q.till != 0 then (if decide (q.till < q.fr) then (.inr (T.int .i64 24)) else (if decide ((↑k : Int) > 1) then (.inr (T.int .i64 9)) else (.inl (.l0u0 (↑k : Int))))) else (if decide ((↑k : Int) > 1) then (.inr (T.int .i64 9)) else (.inl (.l0u0 (↑k : Int)))))))))) else (if decide ((↑q.reason.length : Int) > 64) then (.inr (T.int .i64 5)) else (if !q.bV then (.inr (T.int .i64 16)) else (if !(decide (0 ≤ q.fr) && decide (q.fr ≤ 1048576)) then (.inr (T.int .i64 2)) else (if !(decide (0 ≤ q.till) && decide (q.till ≤ 1048576)) then (.inr (T.int .i64 2)) else (if q.till != 0 then (if decide (q.till < q.fr) then (.inr (T.int .i64 24)) else (if decide ((↑k : Int) > 1) then (.inr (T.int .i64 9)) else (.inl (.l0u0 (↑k : Int))))) else (if decide ((↑k : Int) > 1) then (.inr (T.int .i64 9)) else (.inl (.l0u0 (↑k : Int))))))))))
def K10n_s (m : Int) (te : TypeId) (q : SF) (fl : Bool) (k : Nat) (u0 u1 u2 u3 u4 : Nat → T) : Bool :=
 (if !q.node == [] then (if !q.bN then (allT (g10n_s_1 m te q fl k u0 u1 u2 u3 u4)) else (if decide ((↑q.reason.length : Int) > 64) then (allT (g10n_s_2 m te q fl k u0 u1 u2 u3 u4)) else (if !q.bV then (allT (g10n_s_3 m te q fl k u0 u1 u2 u3 u4)) else (if !(decide (0 ≤ q.fr) && decide (q.fr ≤ 1048576)) then (allT (g10n_s_4 m te q fl k u0 u1 u2 u3 u4)) else (if !(decide (0 ≤ q.till) && decide (q.till ≤ 1048576)) then (allT (g10n_s_5 m te q fl k u0 u1 u2 u3 u4)) else (if q.till != 0 then (if decide (q.till < q.fr) then (allT (g10n_s_6 m te q fl k u0 u1 u2 u3 u4)) else (if decide ((↑k : Int) > 1) then (allT (g10n_s_7 m te q fl k u0 u1 u2 u3 u4)) else (allT (g10n_s_8 m te q fl k u0 u1 u2 u3 u4)))) else (if decide ((↑k : Int) > 1) then (allT (g10n_s_9 m te q fl k u0 u1 u2 u3 u4)) else (allT (g10n_s_10 m te q fl k u0 u1 u2 u3 u4))))))))) else (if decide ((↑q.reason.length : Int) > 64) then (allT (g10n_s_11 m te q fl k u0 u1 u2 u3 u4)) else (if !q.bV then (allT (g10n_s_12 m te q fl k u0 u1 u2 u3 u4)) else (if !(decide (0 ≤ q.fr) && decide (q.fr ≤ 1048576)) then (allT (g10n_s_13 m te q fl k u0 u1 u2 u3 u4)) else (if !(decide (0 ≤ q.till) && decide (q.till ≤ 1048576)) then (allT (g10n_s_14 m te q fl k u0 u1 u2 u3 u4)) else (if q.till != 0 then (if decide (q.till < q.fr) then (allT (g10n_s_15 m te q fl k u0 u1 u2 u3 u4)) else (if decide ((↑k : Int) > 1) then (allT (g10n_s_16 m te q fl k u0 u1 u2 u3 u4)) else (allT (g10n_s_17 m te q fl k u0 u1 u2 u3 u4)))) else (if decide ((↑k : Int) > 1) then (allT (g10n_s_18 m te q fl k u0 u1 u2 u3 u4)) else (allT (g10n_s_19 m te q fl k u0 u1 u2 u3 u4)))))))))
theorem T10n_s (m : Int) (te : TypeId) (q : SF) (fl : Bool) (k : Nat) (u0 u1 u2 u3 u4 : Nat → T) (hk : K10n_s m te q fl k u0 u1 u2 u3 u4 = true) : o10n m te q fl k u0 u1 u2 u3 u4 = some (V10n_s m te q fl k u0 u1 u2 u3 u4) :=
 (tree_if (tree_if tree_leaf (tree_if tree_leaf (tree_if tree_leaf (tree_if tree_leaf (tree_if tree_leaf (tree_if (tree_if tree_leaf (tree_if tree_leaf tree_leaf)) (tree_if tree_leaf tree_leaf))))))) (tree_if tree_leaf (tree_if tree_leaf (tree_if tree_leaf (tree_if tree_leaf (tree_if (tree_if tree_leaf (tree_if tree_leaf tree_leaf)) (tree_if tree_leaf tree_leaf))))))) hk
def step10n (m : Int) (te : TypeId) (q : SF) (fl : Bool) (k : Nat) (u0 u1 u2 u3 u4 : Nat → T) : S10n → Option (S10n ⊕ T)
 | .l0u0 x57 => step10n_0u0 m te q fl k u0 u1 u2 u3 u4 x57
def M10n (m : Int) (te : TypeId) (q : SF) (fl : Bool) (k : Nat) (u0 u1 u2 u3 u4 : Nat → T) : Mch S10n where
 lp := fun σ => match σ with
  | .l0u0 .. => 0
 keep := fun ι => match ι with
  | 0 => [56, 57, 58]
  | _ => []
 par := fun ι => match ι with
  | 0 => []
  | _ => []
 vs := fun σ => match σ with
  | .l0u0 x57 => [T.slf fl k fun i => T.agg [u0 i, u1 i, u2 i, u3 i, u4 i], T.int .i64 x57, T.int .i64 0]
 hp := fun σ => match σ with
  | .l0u0 _ => ⟨0, .nl⟩
 len := 65
 step := step10n m te q fl k u0 u1 u2 u3 u4
theorem ways10n (m : Int) (te : TypeId) (q : SF) (fl : Bool) (k : Nat) (u0 u1 u2 u3 u4 : Nat → T) : (M10n m te q fl k u0 u1 u2 u3 u4).Ways prog (DC m te q) F0 f10 20 := by
 intro σ o fr h
 cases σ with
 | l0u0 x57 =>
  change step10n_0u0 m te q fl k u0 u1 u2 u3 u4 x57 = some o at h
  exact (ways_if (ways_leaf fun hk => ⟨2000, _, _, _, _, _, _, w10n_0u0_1 m te q fl k u0 u1 u2 u3 u4 x57 fr, hk⟩) (ways_leaf fun hk => ⟨2000, _, _, _, _, _, _, w10n_0u0_2 m te q fl k u0 u1 u2 u3 u4 x57 fr, hk⟩)) o h
theorem oks10n (m : Int) (te : TypeId) (q : SF) (fl : Bool) (k : Nat) (u0 u1 u2 u3 u4 : Nat → T) : ∀ σ, Ps.codeOk (loopAt f10 ((M10n m te q fl k u0 u1 u2 u3 u4).lp σ)).1 = true ∧ ksOk (.lp :: (loopAt f10 ((M10n m te q fl k u0 u1 u2 u3 u4).lp σ)).2) = true := oks_of 1 (by kernel_rfl) (by intro σ; cases σ <;> exact Nat.le_of_ble_eq_true rfl)
theorem run10n (m : Int) (te : TypeId) (q : SF) (fl : Bool) (k : Nat) (u0 u1 u2 u3 u4 : Nat → T) {n : Nat} {o : S10n ⊕ T} {r : T} (h : o10n m te q fl k u0 u1 u2 u3 u4 = some o) (hr : (M10n m te q fl k u0 u1 u2 u3 u4).fin n o = some r) : PureFn prog (glZ m te) 10 [.agg [.str q.node, .str q.reason, .int .i64 q.fr, .int .i64 q.till, .slf fl k (fun i => .agg [u0 i, u1 i, u2 i, u3 i, u4 i])]] r := by
 refine pure_mach (M := (M10n m te q fl k u0 u1 u2 u3 u4)) (fn := f10) (k := 20) (d := 8) (c := bodyOf f10) (cxC m te q) (glZFrz m te) (by kernel_rfl) func10 (by kernel_rfl) rfl (by kernel_rfl) (by kernel_rfl) (L := 64) (by kernel_rfl) (ways10n m te q fl k u0 u1 u2 u3 u4) (oks10n m te q fl k u0 u1 u2 u3 u4) ?_ hr
 exact (ways_if (ways_if (ways_leaf fun hk => ⟨2000, _, _, _, _, _, _, w10n_s_1 m te q fl k u0 u1 u2 u3 u4, hk⟩) (ways_if (ways_leaf fun hk => ⟨2000, _, _, _, _, _, _, w10n_s_2 m te q fl k u0 u1 u2 u3 u4, hk⟩) (ways_if (ways_leaf fun hk => ⟨2000, _, _, _, _, _, _, w10n_s_3 m te q fl k u0 u1 u2 u3 u4, hk⟩) (ways_if (ways_leaf fun hk => ⟨2000, _, _, _, _, _, _, w10n_s_4 m te q fl k u0 u1 u2 u3 u4, hk⟩) (ways_if (ways_leaf fun hk => ⟨2000, _, _, _, _, _, _, w10n_s_5 m te q fl k u0 u1 u2 u3 u4, hk⟩) (ways_if (ways_if (ways_leaf fun hk => ⟨2000, _, _, _, _, _, _, w10n_s_6 m te q fl k u0 u1 u2 u3 u4, hk⟩) (ways_if (ways_leaf fun hk => ⟨2000, _, _, _, _, _, _, w10n_s_7 m te q fl k u0 u1 u2 u3 u4, hk⟩) (ways_leaf fun hk => .inr ⟨2000, _, _, _, w10n_s_8 m te q fl k u0 u1 u2 u3 u4, hk, rfl⟩))) (ways_if (ways_leaf fun hk => ⟨2000, _, _, _, _, _, _, w10n_s_9 m te q fl k u0 u1 u2 u3 u4, hk⟩) (ways_leaf fun hk => .inr ⟨2000, _, _, _, w10n_s_10 m te q fl k u0 u1 u2 u3 u4, hk, rfl⟩)))))))) (ways_if (ways_leaf fun hk => ⟨2000, _, _, _, _, _, _, w10n_s_11 m te q fl k u0 u1 u2 u3 u4, hk⟩) (ways_if (ways_leaf fun hk => ⟨2000, _, _, _, _, _, _, w10n_s_12 m te q fl k u0 u1 u2 u3 u4, hk⟩) (ways_if (ways_leaf fun hk => ⟨2000, _, _, _, _, _, _, w10n_s_13 m te q fl k u0 u1 u2 u3 u4, hk⟩) (ways_if (ways_leaf fun hk => ⟨2000, _, _, _, _, _, _, w10n_s_14 m te q fl k u0 u1 u2 u3 u4, hk⟩) (ways_if (ways_if (ways_leaf fun hk => ⟨2000, _, _, _, _, _, _, w10n_s_15 m te q fl k u0 u1 u2 u3 u4, hk⟩) (ways_if (ways_leaf fun hk => ⟨2000, _, _, _, _, _, _, w10n_s_16 m te q fl k u0 u1 u2 u3 u4, hk⟩) (ways_leaf fun hk => .inr ⟨2000, _, _, _, w10n_s_17 m te q fl k u0 u1 u2 u3 u4, hk, rfl⟩))) (ways_if (ways_leaf fun hk => ⟨2000, _, _, _, _, _, _, w10n_s_18 m te q fl k u0 u1 u2 u3 u4, hk⟩) (ways_leaf fun hk => .inr ⟨2000, _, _, _, w10n_s_19 m te q fl k u0 u1 u2 u3 u4, hk, rfl⟩)))))))) o h
theorem c10n (m : Int) (te : TypeId) (q : SF) (fl : Bool) (k : Nat) (u0 u1 u2 u3 u4 : Nat → T) (n : Nat) {r : T} (hk : K10n_s m te q fl k u0 u1 u2 u3 u4 = true) (hr : (M10n m te q fl k u0 u1 u2 u3 u4).fin n (V10n_s m te q fl k u0 u1 u2 u3 u4) = some r) : PureFn prog (glZ m te) 10 [.agg [.str q.node, .str q.reason, .int .i64 q.fr, .int .i64 q.till, .slf fl k (fun i => .agg [u0 i, u1 i, u2 i, u3 i, u4 i])]] r := run10n m te q fl k u0 u1 u2 u3 u4 (T10n_s m te q fl k u0 u1 u2 u3 u4 hk) hr
/-! ### 11 -/
def k11n_s_0 (m : Int) (te : TypeId) (q : SF) (fl : Bool) (k : Nat) (u0 u1 u2 u3 u4 : Nat → T) : List Bool := [!q.node == [], !q.node == [], pb (q.node = q.node), pb (PureFn prog (glZ m te) 26 [T.str q.node] (T.bool q.bN)), !q.node == [], !q.node == [], !q.node == []]
def k11n_s_1 (m : Int) (te : TypeId) (q : SF) (fl : Bool) (k : Nat) (u0 u1 u2 u3 u4 : Nat → T) : List Bool := (pb (q.reason = q.reason)) :: (pb (PureFn prog (glZ m te) 27 [T.str q.reason] (T.bool q.bV))) :: (!decide ((↑q.reason.length : Int) > 64)) :: (!!q.bN) :: k11n_s_0 m te q fl k u0 u1 u2 u3 u4
def k11n_s_2 (m : Int) (te : TypeId) (q : SF) (fl : Bool) (k : Nat) (u0 u1 u2 u3 u4 : Nat → T) : List Bool := let y0 := decide (q.fr < 0); (!y0) :: (!y0) :: (!y0) :: (!y0) :: (!!q.bV) :: k11n_s_1 m te q fl k u0 u1 u2 u3 u4
def k11n_s_3 (m : Int) (te : TypeId) (q : SF) (fl : Bool) (k : Nat) (u0 u1 u2 u3 u4 : Nat → T) : List Bool := let y0 := decide (q.fr > 1048576); (!y0) :: (!y0) :: (!y0) :: (!y0) :: k11n_s_2 m te q fl k u0 u1 u2 u3 u4
def k11n_s_4 (m : Int) (te : TypeId) (q : SF) (fl : Bool) (k : Nat) (u0 u1 u2 u3 u4 : Nat → T) : List Bool := let y0 := decide (q.till < 0); (!y0) :: (!y0) :: (!y0) :: (!y0) :: k11n_s_3 m te q fl k u0 u1 u2 u3 u4
def k11n_s_5 (m : Int) (te : TypeId) (q : SF) (fl : Bool) (k : Nat) (u0 u1 u2 u3 u4 : Nat → T) : List Bool := (q.till != 0) :: (q.till != 0) :: (q.till != 0) :: (q.till != 0) :: (q.till != 0) :: (q.till != 0) :: (!decide (q.till > 1048576)) :: k11n_s_4 m te q fl k u0 u1 u2 u3 u4
def k11n_s_6 (m : Int) (te : TypeId) (q : SF) (fl : Bool) (k : Nat) (u0 u1 u2 u3 u4 : Nat → T) : List Bool := (!decide ((↑k : Int) > 1)) :: (!decide (q.till < q.fr)) :: k11n_s_5 m te q fl k u0 u1 u2 u3 u4
def k11n_s_7 (m : Int) (te : TypeId) (q : SF) (fl : Bool) (k : Nat) (u0 u1 u2 u3 u4 : Nat → T) : List Bool := true :: (!q.till != 0) :: (!q.till != 0) :: (!q.till != 0) :: (!q.till != 0) :: (!q.till != 0) :: (!q.till != 0) :: (!decide (q.till > 1048576)) :: k11n_s_4 m te q fl k u0 u1 u2 u3 u4
def k11n_s_8 (m : Int) (te : TypeId) (q : SF) (fl : Bool) (k : Nat) (u0 u1 u2 u3 u4 : Nat → T) : List Bool := [true, !!q.node == [], !!q.node == [], !!q.node == [], !!q.node == [], !!q.node == []]
def k11n_s_9 (m : Int) (te : TypeId) (q : SF) (fl : Bool) (k : Nat) (u0 u1 u2 u3 u4 : Nat → T) : List Bool := (pb (q.reason = q.reason)) :: (pb (PureFn prog (glZ m te) 27 [T.str q.reason] (T.bool q.bV))) :: (!decide ((↑q.reason.length : Int) > 64)) :: k11n_s_8 m te q fl k u0 u1 u2 u3 u4
def k11n_s_10 (m : Int) (te : TypeId) (q : SF) (fl : Bool) (k : Nat) (u0 u1 u2 u3 u4 : Nat → T) : List Bool := let y0 := decide (q.fr < 0); (!y0) :: (!y0) :: (!y0) :: (!y0) :: (!!q.bV) :: k11n_s_9 m te q fl k u0 u1 u2 u3 u4
def k11n_s_11 (m : Int) (te : TypeId) (q : SF) (fl : Bool) (k : Nat) (u0 u1 u2 u3 u4 : Nat → T) : List Bool := let y0 := decide (q.fr > 1048576); (!y0) :: (!y0) :: (!y0) :: (!y0) :: k11n_s_10 m te q fl k u0 u1 u2 u3 u4
def k11n_s_12 (m : Int) (te : TypeId) (q : SF) (fl : Bool) (k : Nat) (u0 u1 u2 u3 u4 : Nat → T) : List Bool := let y0 := decide (q.till < 0); (!y0) :: (!y0) :: (!y0) :: (!y0) :: k11n_s_11 m te q fl k u0 u1 u2 u3 u4
def k11n_s_13 (m : Int) (te : TypeId) (q : SF) (fl : Bool) (k : Nat) (u0 u1 u2 u3 u4 : Nat → T) : List Bool := (q.till != 0) :: (q.till != 0) :: (q.till != 0) :: (q.till != 0) :: (q.till != 0) :: (q.till != 0) :: (!decide (q.till > 1048576)) :: k11n_s_12 m te q fl k u0 u1 u2 u3 u4
def k11n_s_14 (m : Int) (te : TypeId) (q : SF) (fl : Bool) (k : Nat) (u0 u1 u2 u3 u4 : Nat → T) : List Bool := (!decide ((↑k : Int) > 1)) :: (!decide (q.till < q.fr)) :: k11n_s_13 m te q fl k u0 u1 u2 u3 u4
def k11n_s_15 (m : Int) (te : TypeId) (q : SF) (fl : Bool) (k : Nat) (u0 u1 u2 u3 u4 : Nat → T) : List Bool := true :: (!q.till != 0) :: (!q.till != 0) :: (!q.till != 0) :: (!q.till != 0) :: (!q.till != 0) :: (!q.till != 0) :: (!decide (q.till > 1048576)) :: k11n_s_12 m te q fl k u0 u1 u2 u3 u4
def g11n_s_1 (m : Int) (te : TypeId) (q : SF) (fl : Bool) (k : Nat) (u0 u1 u2 u3 u4 : Nat → T) : List Bool := (!q.bN) :: k11n_s_0 m te q fl k u0 u1 u2 u3 u4
def r11n_s (m : Int) (te : TypeId) (q : SF) (fl : Bool) (k : Nat) (u0 u1 u2 u3 u4 : Nat → T) (ds : List Bool) : RD Out := runK prog (DC m te q) F0 2000 (.code (bodyOf f11)) [] 0 ([.agg [.str q.node, .str q.reason, .int .i64 q.fr, .int .i64 q.till, .slf fl k (fun i => .agg [u0 i, u1 i, u2 i, u3 i, u4 i])]] ++ List.replicate 67 undefT) ⟨0, .nl⟩ ds []
theorem w11n_s_1 (m : Int) (te : TypeId) (q : SF) (fl : Bool) (k : Nat) (u0 u1 u2 u3 u4 : Nat → T) : outK prog f11 20 [] (r11n_s m te q fl k u0 u1 u2 u3 u4 (bt 6 63))
  = some (OutT.done (some (T.int .i64 12)), g11n_s_1 m te q fl k u0 u1 u2 u3 u4, { next := 0, objs := Ht.nl }, [], 0) := by kernel_rfl
def g11n_s_2 (m : Int) (te : TypeId) (q : SF) (fl : Bool) (k : Nat) (u0 u1 u2 u3 u4 : Nat → T) : List Bool := (decide ((↑q.reason.length : Int) > 64)) :: (!!q.bN) :: k11n_s_0 m te q fl k u0 u1 u2 u3 u4
theorem w11n_s_2 (m : Int) (te : TypeId) (q : SF) (fl : Bool) (k : Nat) (u0 u1 u2 u3 u4 : Nat → T) : outK prog f11 20 [] (r11n_s m te q fl k u0 u1 u2 u3 u4 (bt 7 95))
  = some (OutT.done (some (T.int .i64 5)), g11n_s_2 m te q fl k u0 u1 u2 u3 u4, { next := 0, objs := Ht.nl }, [], 0) := by kernel_rfl
def g11n_s_3 (m : Int) (te : TypeId) (q : SF) (fl : Bool) (k : Nat) (u0 u1 u2 u3 u4 : Nat → T) : List Bool := (!q.bV) :: k11n_s_1 m te q fl k u0 u1 u2 u3 u4
theorem w11n_s_3 (m : Int) (te : TypeId) (q : SF) (fl : Bool) (k : Nat) (u0 u1 u2 u3 u4 : Nat → T) : outK prog f11 20 [] (r11n_s m te q fl k u0 u1 u2 u3 u4 (bt 8 159))
  = some (OutT.done (some (T.int .i64 16)), g11n_s_3 m te q fl k u0 u1 u2 u3 u4, { next := 0, objs := Ht.nl }, [], 0) := by kernel_rfl
def g11n_s_4 (m : Int) (te : TypeId) (q : SF) (fl : Bool) (k : Nat) (u0 u1 u2 u3 u4 : Nat → T) : List Bool := let y0 := decide (q.fr < 0); true :: true :: true :: true :: true :: true :: true :: true :: true :: y0 :: y0 :: y0 :: y0 :: (!!q.bV) :: k11n_s_1 m te q fl k u0 u1 u2 u3 u4
theorem w11n_s_4 (m : Int) (te : TypeId) (q : SF) (fl : Bool) (k : Nat) (u0 u1 u2 u3 u4 : Nat → T) : outK prog f11 20 [] (r11n_s m te q fl k u0 u1 u2 u3 u4 (bt 21 2096927))
  = some (OutT.done (some (T.int .i64 2)), g11n_s_4 m te q fl k u0 u1 u2 u3 u4, { next := 0, objs := Ht.nl }, [], 0) := by kernel_rfl
def g11n_s_5 (m : Int) (te : TypeId) (q : SF) (fl : Bool) (k : Nat) (u0 u1 u2 u3 u4 : Nat → T) : List Bool := let y0 := decide (q.fr > 1048576); true :: true :: true :: true :: true :: y0 :: y0 :: y0 :: y0 :: k11n_s_2 m te q fl k u0 u1 u2 u3 u4
theorem w11n_s_5 (m : Int) (te : TypeId) (q : SF) (fl : Bool) (k : Nat) (u0 u1 u2 u3 u4 : Nat → T) : outK prog f11 20 [] (r11n_s m te q fl k u0 u1 u2 u3 u4 (bt 21 2093087))
  = some (OutT.done (some (T.int .i64 2)), g11n_s_5 m te q fl k u0 u1 u2 u3 u4, { next := 0, objs := Ht.nl }, [], 0) := by kernel_rfl
def g11n_s_6 (m : Int) (te : TypeId) (q : SF) (fl : Bool) (k : Nat) (u0 u1 u2 u3 u4 : Nat → T) : List Bool := let y0 := decide (q.till < 0); true :: y0 :: y0 :: y0 :: y0 :: k11n_s_3 m te q fl k u0 u1 u2 u3 u4
theorem w11n_s_6 (m : Int) (te : TypeId) (q : SF) (fl : Bool) (k : Nat) (u0 u1 u2 u3 u4 : Nat → T) : outK prog f11 20 [] (r11n_s m te q fl k u0 u1 u2 u3 u4 (bt 21 2031647))
  = some (OutT.done (some (T.int .i64 2)), g11n_s_6 m te q fl k u0 u1 u2 u3 u4, { next := 0, objs := Ht.nl }, [], 0) := by kernel_rfl
def g11n_s_7 (m : Int) (te : TypeId) (q : SF) (fl : Bool) (k : Nat) (u0 u1 u2 u3 u4 : Nat → T) : List Bool := (decide (q.till > 1048576)) :: k11n_s_4 m te q fl k u0 u1 u2 u3 u4
theorem w11n_s_7 (m : Int) (te : TypeId) (q : SF) (fl : Bool) (k : Nat) (u0 u1 u2 u3 u4 : Nat → T) : outK prog f11 20 [] (r11n_s m te q fl k u0 u1 u2 u3 u4 (bt 21 1048607))
  = some (OutT.done (some (T.int .i64 2)), g11n_s_7 m te q fl k u0 u1 u2 u3 u4, { next := 0, objs := Ht.nl }, [], 0) := by kernel_rfl
def g11n_s_8 (m : Int) (te : TypeId) (q : SF) (fl : Bool) (k : Nat) (u0 u1 u2 u3 u4 : Nat → T) : List Bool := (decide (q.till < q.fr)) :: k11n_s_5 m te q fl k u0 u1 u2 u3 u4
theorem w11n_s_8 (m : Int) (te : TypeId) (q : SF) (fl : Bool) (k : Nat) (u0 u1 u2 u3 u4 : Nat → T) : outK prog f11 20 [] (r11n_s m te q fl k u0 u1 u2 u3 u4 (bt 28 266338335))
  = some (OutT.done (some (T.int .i64 24)), g11n_s_8 m te q fl k u0 u1 u2 u3 u4, { next := 0, objs := Ht.nl }, [], 0) := by kernel_rfl
def g11n_s_9 (m : Int) (te : TypeId) (q : SF) (fl : Bool) (k : Nat) (u0 u1 u2 u3 u4 : Nat → T) : List Bool := (decide ((↑k : Int) > 1)) :: (!decide (q.till < q.fr)) :: k11n_s_5 m te q fl k u0 u1 u2 u3 u4
theorem w11n_s_9 (m : Int) (te : TypeId) (q : SF) (fl : Bool) (k : Nat) (u0 u1 u2 u3 u4 : Nat → T) : outK prog f11 20 [] (r11n_s m te q fl k u0 u1 u2 u3 u4 (bt 29 400556063))
  = some (OutT.done (some (T.int .i64 9)), g11n_s_9 m te q fl k u0 u1 u2 u3 u4, { next := 0, objs := Ht.nl }, [], 0) := by kernel_rfl
def g11n_s_10 (m : Int) (te : TypeId) (q : SF) (fl : Bool) (k : Nat) (u0 u1 u2 u3 u4 : Nat → T) : List Bool := (pb (T.agg [u0 0, u1 0, u2 0, u3 0, u4 0] = q.x)) :: (pb (PureFn prog (glZ m te) 28 [q.x] (T.int .i64 q.e))) :: true :: (decide (0 < (↑k : Int))) :: true :: ((↑k : Int) == 1) :: k11n_s_6 m te q fl k u0 u1 u2 u3 u4
theorem w11n_s_10 (m : Int) (te : TypeId) (q : SF) (fl : Bool) (k : Nat) (u0 u1 u2 u3 u4 : Nat → T) : outK prog f11 20 [] (r11n_s m te q fl k u0 u1 u2 u3 u4 (bt 30 668991519))
  = some (OutT.done (some (T.int .i64 q.e)), g11n_s_10 m te q fl k u0 u1 u2 u3 u4, { next := 0, objs := Ht.nl }, [], 0) := by kernel_rfl
def g11n_s_11 (m : Int) (te : TypeId) (q : SF) (fl : Bool) (k : Nat) (u0 u1 u2 u3 u4 : Nat → T) : List Bool := (!(↑k : Int) == 1) :: k11n_s_6 m te q fl k u0 u1 u2 u3 u4
theorem w11n_s_11 (m : Int) (te : TypeId) (q : SF) (fl : Bool) (k : Nat) (u0 u1 u2 u3 u4 : Nat → T) : outK prog f11 20 [] (r11n_s m te q fl k u0 u1 u2 u3 u4 (bt 30 132120607))
  = some (OutT.done (some (T.int .i64 0)), g11n_s_11 m te q fl k u0 u1 u2 u3 u4, { next := 0, objs := Ht.nl }, [], 0) := by kernel_rfl
def g11n_s_12 (m : Int) (te : TypeId) (q : SF) (fl : Bool) (k : Nat) (u0 u1 u2 u3 u4 : Nat → T) : List Bool := (decide ((↑k : Int) > 1)) :: k11n_s_7 m te q fl k u0 u1 u2 u3 u4
theorem w11n_s_12 (m : Int) (te : TypeId) (q : SF) (fl : Bool) (k : Nat) (u0 u1 u2 u3 u4 : Nat → T) : outK prog f11 20 [] (r11n_s m te q fl k u0 u1 u2 u3 u4 (bt 29 268435487))
  = some (OutT.done (some (T.int .i64 9)), g11n_s_12 m te q fl k u0 u1 u2 u3 u4, { next := 0, objs := Ht.nl }, [], 0) := by kernel_rfl
def g11n_s_13 (m : Int) (te : TypeId) (q : SF) (fl : Bool) (k : Nat) (u0 u1 u2 u3 u4 : Nat → T) : List Bool := (pb (T.agg [u0 0, u1 0, u2 0, u3 0, u4 0] = q.x)) :: (pb (PureFn prog (glZ m te) 28 [q.x] (T.int .i64 q.e))) :: true :: (decide (0 < (↑k : Int))) :: true :: ((↑k : Int) == 1) :: (!decide ((↑k : Int) > 1)) :: k11n_s_7 m te q fl k u0 u1 u2 u3 u4
theorem w11n_s_13 (m : Int) (te : TypeId) (q : SF) (fl : Bool) (k : Nat) (u0 u1 u2 u3 u4 : Nat → T) : outK prog f11 20 [] (r11n_s m te q fl k u0 u1 u2 u3 u4 (bt 30 536870943))
  = some (OutT.done (some (T.int .i64 q.e)), g11n_s_13 m te q fl k u0 u1 u2 u3 u4, { next := 0, objs := Ht.nl }, [], 0) := by kernel_rfl
def g11n_s_14 (m : Int) (te : TypeId) (q : SF) (fl : Bool) (k : Nat) (u0 u1 u2 u3 u4 : Nat → T) : List Bool := (!(↑k : Int) == 1) :: (!decide ((↑k : Int) > 1)) :: k11n_s_7 m te q fl k u0 u1 u2 u3 u4
theorem w11n_s_14 (m : Int) (te : TypeId) (q : SF) (fl : Bool) (k : Nat) (u0 u1 u2 u3 u4 : Nat → T) : outK prog f11 20 [] (r11n_s m te q fl k u0 u1 u2 u3 u4 (bt 30 31))
  = some (OutT.done (some (T.int .i64 0)), g11n_s_14 m te q fl k u0 u1 u2 u3 u4, { next := 0, objs := Ht.nl }, [], 0) := by kernel_rfl
def g11n_s_15 (m : Int) (te : TypeId) (q : SF) (fl : Bool) (k : Nat) (u0 u1 u2 u3 u4 : Nat → T) : List Bool := (decide ((↑q.reason.length : Int) > 64)) :: k11n_s_8 m te q fl k u0 u1 u2 u3 u4
theorem w11n_s_15 (m : Int) (te : TypeId) (q : SF) (fl : Bool) (k : Nat) (u0 u1 u2 u3 u4 : Nat → T) : outK prog f11 20 [] (r11n_s m te q fl k u0 u1 u2 u3 u4 (bt 7 64))
  = some (OutT.done (some (T.int .i64 5)), g11n_s_15 m te q fl k u0 u1 u2 u3 u4, { next := 0, objs := Ht.nl }, [], 0) := by kernel_rfl
def g11n_s_16 (m : Int) (te : TypeId) (q : SF) (fl : Bool) (k : Nat) (u0 u1 u2 u3 u4 : Nat → T) : List Bool := (!q.bV) :: k11n_s_9 m te q fl k u0 u1 u2 u3 u4
theorem w11n_s_16 (m : Int) (te : TypeId) (q : SF) (fl : Bool) (k : Nat) (u0 u1 u2 u3 u4 : Nat → T) : outK prog f11 20 [] (r11n_s m te q fl k u0 u1 u2 u3 u4 (bt 8 128))
  = some (OutT.done (some (T.int .i64 16)), g11n_s_16 m te q fl k u0 u1 u2 u3 u4, { next := 0, objs := Ht.nl }, [], 0) := by kernel_rfl
def g11n_s_17 (m : Int) (te : TypeId) (q : SF) (fl : Bool) (k : Nat) (u0 u1 u2 u3 u4 : Nat → T) : List Bool := let y0 := decide (q.fr < 0); true :: true :: true :: true :: true :: true :: true :: true :: true :: y0 :: y0 :: y0 :: y0 :: (!!q.bV) :: k11n_s_9 m te q fl k u0 u1 u2 u3 u4
theorem w11n_s_17 (m : Int) (te : TypeId) (q : SF) (fl : Bool) (k : Nat) (u0 u1 u2 u3 u4 : Nat → T) : outK prog f11 20 [] (r11n_s m te q fl k u0 u1 u2 u3 u4 (bt 21 2096896))
  = some (OutT.done (some (T.int .i64 2)), g11n_s_17 m te q fl k u0 u1 u2 u3 u4, { next := 0, objs := Ht.nl }, [], 0) := by kernel_rfl
def g11n_s_18 (m : Int) (te : TypeId) (q : SF) (fl : Bool) (k : Nat) (u0 u1 u2 u3 u4 : Nat → T) : List Bool := let y0 := decide (q.fr > 1048576); true :: true :: true :: true :: true :: y0 :: y0 :: y0 :: y0 :: k11n_s_10 m te q fl k u0 u1 u2 u3 u4
theorem w11n_s_18 (m : Int) (te : TypeId) (q : SF) (fl : Bool) (k : Nat) (u0 u1 u2 u3 u4 : Nat → T) : outK prog f11 20 [] (r11n_s m te q fl k u0 u1 u2 u3 u4 (bt 21 2093056))
  = some (OutT.done (some (T.int .i64 2)), g11n_s_18 m te q fl k u0 u1 u2 u3 u4, { next := 0, objs := Ht.nl }, [], 0) := by kernel_rfl
def g11n_s_19 (m : Int) (te : TypeId) (q : SF) (fl : Bool) (k : Nat) (u0 u1 u2 u3 u4 : Nat → T) : List Bool := let y0 := decide (q.till < 0); true :: y0 :: y0 :: y0 :: y0 :: k11n_s_11 m te q fl k u0 u1 u2 u3 u4
theorem w11n_s_19 (m : Int) (te : TypeId) (q : SF) (fl : Bool) (k : Nat) (u0 u1 u2 u3 u4 : Nat → T) : outK prog f11 20 [] (r11n_s m te q fl k u0 u1 u2 u3 u4 (bt 21 2031616))
  = some (OutT.done (some (T.int .i64 2)), g11n_s_19 m te q fl k u0 u1 u2 u3 u4, { next := 0, objs := Ht.nl }, [], 0) := by kernel_rfl
def g11n_s_20 (m : Int) (te : TypeId) (q : SF) (fl : Bool) (k : Nat) (u0 u1 u2 u3 u4 : Nat → T) : List Bool := (decide (q.till > 1048576)) :: k11n_s_12 m te q fl k u0 u1 u2 u3 u4
theorem w11n_s_20 (m : Int) (te : TypeId) (q : SF) (fl : Bool) (k : Nat) (u0 u1 u2 u3 u4 : Nat → T) : outK prog f11 20 [] (r11n_s m te q fl k u0 u1 u2 u3 u4 (bt 21 1048576))
  = some (OutT.done (some (T.int .i64 2)), g11n_s_20 m te q fl k u0 u1 u2 u3 u4, { next := 0, objs := Ht.nl }, [], 0) := by kernel_rfl
def g11n_s_21 (m : Int) (te : TypeId) (q : SF) (fl : Bool) (k : Nat) (u0 u1 u2 u3 u4 : Nat → T) : List Bool := (decide (q.till < q.fr)) :: k11n_s_13 m te q fl k u0 u1 u2 u3 u4
theorem w11n_s_21 (m : Int) (te : TypeId) (q : SF) (fl : Bool) (k : Nat) (u0 u1 u2 u3 u4 : Nat → T) : outK prog f11 20 [] (r11n_s m te q fl k u0 u1 u2 u3 u4 (bt 28 266338304))
  = some (OutT.done (some (T.int .i64 24)), g11n_s_21 m te q fl k u0 u1 u2 u3 u4, { next := 0, objs := Ht.nl }, [], 0) := by kernel_rfl
def g11n_s_22 (m : Int) (te : TypeId) (q : SF) (fl : Bool) (k : Nat) (u0 u1 u2 u3 u4 : Nat → T) : List Bool := (decide ((↑k : Int) > 1)) :: (!decide (q.till < q.fr)) :: k11n_s_13 m te q fl k u0 u1 u2 u3 u4
theorem w11n_s_22 (m : Int) (te : TypeId) (q : SF) (fl : Bool) (k : Nat) (u0 u1 u2 u3 u4 : Nat → T) : outK prog f11 20 [] (r11n_s m te q fl k u0 u1 u2 u3 u4 (bt 29 400556032))
  = some (OutT.done (some (T.int .i64 9)), g11n_s_22 m te q fl k u0 u1 u2 u3 u4, { next := 0, objs := Ht.nl }, [], 0) := by kernel_rfl
def g11n_s_23 (m : Int) (te : TypeId) (q : SF) (fl : Bool) (k : Nat) (u0 u1 u2 u3 u4 : Nat → T) : List Bool := (pb (T.agg [u0 0, u1 0, u2 0, u3 0, u4 0] = q.x)) :: (pb (PureFn prog (glZ m te) 28 [q.x] (T.int .i64 q.e))) :: true :: (decide (0 < (↑k : Int))) :: true :: ((↑k : Int) == 1) :: k11n_s_14 m te q fl k u0 u1 u2 u3 u4
theorem w11n_s_23 (m : Int) (te : TypeId) (q : SF) (fl : Bool) (k : Nat) (u0 u1 u2 u3 u4 : Nat → T) : outK prog f11 20 [] (r11n_s m te q fl k u0 u1 u2 u3 u4 (bt 30 668991488))
  = some (OutT.done (some (T.int .i64 q.e)), g11n_s_23 m te q fl k u0 u1 u2 u3 u4, { next := 0, objs := Ht.nl }, [], 0) := by kernel_rfl
def g11n_s_24 (m : Int) (te : TypeId) (q : SF) (fl : Bool) (k : Nat) (u0 u1 u2 u3 u4 : Nat → T) : List Bool := (!(↑k : Int) == 1) :: k11n_s_14 m te q fl k u0 u1 u2 u3 u4
theorem w11n_s_24 (m : Int) (te : TypeId) (q : SF) (fl : Bool) (k : Nat) (u0 u1 u2 u3 u4 : Nat → T) : outK prog f11 20 [] (r11n_s m te q fl k u0 u1 u2 u3 u4 (bt 30 132120576))
  = some (OutT.done (some (T.int .i64 0)), g11n_s_24 m te q fl k u0 u1 u2 u3 u4, { next := 0, objs := Ht.nl }, [], 0) := by kernel_rfl
def g11n_s_25 (m : Int) (te : TypeId) (q : SF) (fl : Bool) (k : Nat) (u0 u1 u2 u3 u4 : Nat → T) : List Bool := (decide ((↑k : Int) > 1)) :: k11n_s_15 m te q fl k u0 u1 u2 u3 u4
theorem w11n_s_25 (m : Int) (te : TypeId) (q : SF) (fl : Bool) (k : Nat) (u0 u1 u2 u3 u4 : Nat → T) : outK prog f11 20 [] (r11n_s m te q fl k u0 u1 u2 u3 u4 (bt 29 268435456))
  = some (OutT.done (some (T.int .i64 9)), g11n_s_25 m te q fl k u0 u1 u2 u3 u4, { next := 0, objs := Ht.nl }, [], 0) := by kernel_rfl
def g11n_s_26 (m : Int) (te : TypeId) (q : SF) (fl : Bool) (k : Nat) (u0 u1 u2 u3 u4 : Nat → T) : List Bool := (pb (T.agg [u0 0, u1 0, u2 0, u3 0, u4 0] = q.x)) :: (pb (PureFn prog (glZ m te) 28 [q.x] (T.int .i64 q.e))) :: true :: (decide (0 < (↑k : Int))) :: true :: ((↑k : Int) == 1) :: (!decide ((↑k : Int) > 1)) :: k11n_s_15 m te q fl k u0 u1 u2 u3 u4
theorem w11n_s_26 (m : Int) (te : TypeId) (q : SF) (fl : Bool) (k : Nat) (u0 u1 u2 u3 u4 : Nat → T) : outK prog f11 20 [] (r11n_s m te q fl k u0 u1 u2 u3 u4 (bt 30 536870912))
  = some (OutT.done (some (T.int .i64 q.e)), g11n_s_26 m te q fl k u0 u1 u2 u3 u4, { next := 0, objs := Ht.nl }, [], 0) := by kernel_rfl
def g11n_s_27 (m : Int) (te : TypeId) (q : SF) (fl : Bool) (k : Nat) (u0 u1 u2 u3 u4 : Nat → T) : List Bool := (!(↑k : Int) == 1) :: (!decide ((↑k : Int) > 1)) :: k11n_s_15 m te q fl k u0 u1 u2 u3 u4
theorem w11n_s_27 (m : Int) (te : TypeId) (q : SF) (fl : Bool) (k : Nat) (u0 u1 u2 u3 u4 : Nat → T) : outK prog f11 20 [] (r11n_s m te q fl k u0 u1 u2 u3 u4 (bt 30 0))
  = some (OutT.done (some (T.int .i64 0)), g11n_s_27 m te q fl k u0 u1 u2 u3 u4, { next := 0, objs := Ht.nl }, [], 0) := by kernel_rfl
def o11n (m : Int) (te : TypeId) (q : SF) (fl : Bool) (k : Nat) (u0 u1 u2 u3 u4 : Nat → T) : Option (Empty ⊕ T) :=
 (if !q.node == [] then (if !q.bN then (if allT (g11n_s_1 m te q fl k u0 u1 u2 u3 u4) then some (.inr (T.int .i64 12)) else none) else (if decide ((↑q.reason.length : Int) > 64) then (if allT (g11n_s_2 m te q fl k u0 u1 u2 u3 u4) then some (.inr (T.int .i64 5)) else none) else (if !q.bV then (if allT (g11n_s_3 m te q fl k u0 u1 u2 u3 u4) then some (.inr (T.int .i64 16)) else none) else (if decide (q.fr < 0) then (if allT (g11n_s_4 m te q fl k u0 u1 u2 u3 u4) then some (.inr (T.int .i64 2)) else none) else (if decide (q.fr > 1048576) then (if allT (g11n_s_5 m te q fl k u0 u1 u2 u3 u4) then some (.inr (T.int .i64 2)) else none) else (if decide (q.till < 0) then (if allT (g11n_s_6 m te q fl k u0 u1 u2 u3 u4) then some (.inr (T.int .i64 2)) else none) else (if decide (q.till > 1048576) then (if allT (g11n_s_7 m te q fl k u0 u1 u2 u3 u4) then some (.inr (T.int .i64 2)) else none) else (if q.till != 0 then (if decide (q.till < q.fr) then (if allT (g11n_s_8 m te q fl k u0 u1 u2 u3 u4) then some (.inr (T.int .i64 24)) else none) else (if decide ((↑k : Int) > 1) then (if allT (g11n_s_9 m te q fl k u0 u1 u2 u3 u4) then some (.inr (T.int .i64 9)) else none) else (if (↑k : Int) == 1 then (if allT (g11n_s_10 m te q fl k u0 u1 u2 u3 u4) then some (.inr (T.int .i64 q.e)) else none) else (if allT (g11n_s_11 m te q fl k u0 u1 u2 u3 u4) then some (.inr (T.int .i64 0)) else none)))) else (if decide ((↑k : Int) > 1) then (if allT (g11n_s_12 m te q fl k u0 u1 u2 u3 u4) then some (.inr (T.int .i64 9)) else none) else (if (↑k : Int) == 1 then (if allT (g11n_s_13 m te q fl k u0 u1 u2 u3 u4) then some (.inr (T.int .i64 q.e)) else none) else (if allT (g11n_s_14 m te q fl k u0 u1 u2 u3 u4) then some (.inr (T.int .i64 0)) else none))))))))))) else (if decide ((↑q.reason.length : Int) > 64) then (if allT (g11n_s_15 m te q fl k u0 u1 u2 u3 u4) then some (.inr (T.int .i64 5)) else none) else (if !q.bV then (if allT (g11n_s_16 m te q fl k u0 u1 u2 u3 u4) then some (.inr (T.int .i64 16)) else none) else (if decide (q.fr < 0) then (if allT (g11n_s_17 m te q fl k u0 u1 u2 u3 u4) then some (.inr (T.int .i64 2)) else none) else (if decide (q.fr > 1048576) then (if allT (g11n_s_18 m te q fl k u0 u1 u2 u3 u4) then some (.inr (T.int .i64 2)) else none) else (if decide (q.till < 0) then (if allT (g11n_s_19 m te q fl k u0 u1 u2 u3 u4) then some (.inr (T.int .i64 2)) else none) else (if decide (q.till > 1048576) then (if allT (g11n_s_20 m te q fl k u0 u1 u2 u3 u4) then some (.inr (T.int .i64 2)) else none) else (if q.till != 0 then (if decide (q.till < q.fr) then (if allT (g11n_s_21 m te q fl k u0 u1 u2 u3 u4) then some (.inr (T.int .i64 24)) else none) else (if decide ((↑k : Int) > 1) then (if allT (g11n_s_22 m te q fl k u0 u1 u2 u3 u4) then some (.inr (T.int .i64 9)) else none) else (if (↑k : Int) == 1 then (if allT (g11n_s_23 m te q fl k u0 u1 u2 u3 u4) then some (.inr (T.int .i64 q.e)) else none) else (if allT (g11n_s_24 m te q fl k u0 u1 u2 u3 u4) then some (.inr (T.int .i64 0)) else none)))) else (if decide ((↑k : Int) > 1) then (if allT (g11n_s_25 m te q fl k u0 u1 u2 u3 u4) then some (.inr (T.int .i64 9)) else none) else (if (↑k : Int) == 1 then (if allT (g11n_s_26 m te q fl k u0 u1 u2 u3 u4) then some (.inr (T.int .i64 q.e)) else none) else (if allT (g11n_s_27 m te q fl k u0 u1 u2 u3 u4) then some (.inr (T.int .i64 0)) else none)))))))))))
def V11n_s (m : Int) (te : TypeId) (q : SF) (fl : Bool) (k : Nat) (u0 u1 u2 u3 u4 : Nat → T) : Empty ⊕ T :=
 (if !q.node == [] then (if !q.bN then (.inr (T.int .i64 12)) else (if decide ((↑q.reason.length : Int) > 64) then (.inr (T.int .i64 5)) else (if !q.bV then (.inr (T.int .i64 16)) else (if decide (q.fr < 0) then (.inr (T.int .i64 2)) else (if decide (q.fr > 1048576) then (.inr (T.int .i64 2)) else (if decide (q.till < 0) then (.inr (T.int .i64 2)) else (if decide (q.till > 1048576) then (.inr (T.int .i64 2)) else (if q.till != 0 then (if decide (q.till < q.fr) then (.inr (T.int .i64 24)) else (if decide ((↑k : Int) > 1) then (.inr (T.int .i64 9)) else (if (↑k : Int) == 1 then (.inr (T.int .i64 q.e)) else (.inr (T.int .i64 0))))) else (if decide ((↑k : Int) > 1) then (.inr (T.int .i64 9)) else (if (↑k : Int) == 1 then (.inr (T.int .i64 q.e)) else (.inr (T.int .i64 0)))))))))))) else (if decide ((↑q.reason.length : Int) > 64) then (.inr (T.int .i64 5)) else (if !q.bV then (.inr (T.int .i64 16)) else (if decide (q.fr < 0) then (.inr (T.int .i64 2)) else (if decide (q.fr > 1048576) then (.inr (T.int .i64 2)) else (if decide (q.till < 0) then (.inr (T.int .i64 2)) else (if decide (q.till > 1048576) then (.inr (T.int .i64 2)) else (if q.till != 0 then (if decide (q.till < q.fr) then (.inr (T.int .i64 24)) else (if decide ((↑k : Int) > 1) then (.inr (T.int .i64 9)) else (if (↑k : Int) == 1 then (.inr (T.int .i64 q.e)) else (.inr (T.int .i64 0))))) else (if decide ((↑k : Int) > 1) then (.inr (T.int .i64 9)) else (if (↑k : Int) == 1 then (.inr (T.int .i64 q.e)) else (.inr (T.int .i64 0))))))))))))
def K11n_s (m : Int) (te : TypeId) (q : SF) (fl : Bool) (k : Nat) (u0 u1 u2 u3 u4 : Nat → T) : Bool :=
 (if !q.node == [] then (if !q.bN then (allT (g11n_s_1 m te q fl k u0 u1 u2 u3 u4)) else (if decide ((↑q.reason.length : Int) > 64) then (allT (g11n_s_2 m te q fl k u0 u1 u2 u3 u4)) else (if !q.bV then (allT (g11n_s_3 m te q fl k u0 u1 u2 u3 u4)) else (if decide (q.fr < 0) then (allT (g11n_s_4 m te q fl k u0 u1 u2 u3 u4)) else (if decide (q.fr > 1048576) then (allT (g11n_s_5 m te q fl k u0 u1 u2 u3 u4)) else (if decide (q.till < 0) then (allT (g11n_s_6 m te q fl k u0 u1 u2 u3 u4)) else (if decide (q.till > 1048576) then (allT (g11n_s_7 m te q fl k u0 u1 u2 u3 u4)) else (if q.till != 0 then (if decide (q.till < q.fr) then (allT (g11n_s_8 m te q fl k u0 u1 u2 u3 u4)) else (if decide ((↑k : Int) > 1) then (allT (g11n_s_9 m te q fl k u0 u1 u2 u3 u4)) else (if (↑k : Int) == 1 then (allT (g11n_s_10 m te q fl k u0 u1 u2 u3 u4)) else (allT (g11n_s_11 m te q fl k u0 u1 u2 u3 u4))))) else (if decide ((↑k : Int) > 1) then (allT (g11n_s_12 m te q fl k u0 u1 u2 u3 u4)) else (if (↑k : Int) == 1 then (allT (g11n_s_13 m te q fl k u0 u1 u2 u3 u4)) else (allT (g11n_s_14 m te q fl k u0 u1 u2 u3 u4)))))))))))) else (if decide ((↑q.reason.length : Int) > 64) then (allT (g11n_s_15 m te q fl k u0 u1 u2 u3 u4)) else (if !q.bV then (allT (g11n_s_16 m te q fl k u0 u1 u2 u3 u4)) else (if decide (q.fr < 0) then (allT (g11n_s_17 m te q fl k u0 u1 u2 u3 u4)) else (if decide (q.fr > 1048576) then (allT (g11n_s_18 m te q fl k u0 u1 u2 u3 u4)) else (if decide (q.till < 0) then (allT (g11n_s_19 m te q fl k u0 u1 u2 u3 u4)) else (if decide (q.till > 1048576) then (allT (g11n_s_20 m te q fl k u0 u1 u2 u3 u4)) else (if q.till != 0 then (if decide (q.till < q.fr) then (allT (g11n_s_21 m te q fl k u0 u1 u2 u3 u4)) else (if decide ((↑k : Int) > 1) then (allT (g11n_s_22 m te q fl k u0 u1 u2 u3 u4)) else (if (↑k : Int) == 1 then (allT (g11n_s_23 m te q fl k u0 u1 u2 u3 u4)) else (allT (g11n_s_24 m te q fl k u0 u1 u2 u3 u4))))) else (if decide ((↑k : Int) > 1) then (allT (g11n_s_25 m te q fl k u0 u1 u2 u3 u4)) else (if (↑k : Int) == 1 then (allT (g11n_s_26 m te q fl k u0 u1 u2 u3 u4)) else (allT (g11n_s_27 m te q fl k u0 u1 u2 u3 u4))))))))))))
theorem T11n_s (m : Int) (te : TypeId) (q : SF) (fl : Bool) (k : Nat) (u0 u1 u2 u3 u4 : Nat → T) (hk : K11n_s m te q fl k u0 u1 u2 u3 u4 = true) : o11n m te q fl k u0 u1 u2 u3 u4 = some (V11n_s m te q fl k u0 u1 u2 u3 u4) :=
 (tree_if (tree_if tree_leaf (tree_if tree_leaf (tree_if tree_leaf (tree_if tree_leaf (tree_if tree_leaf (tree_if tree_leaf (tree_if tree_leaf (tree_if (tree_if tree_leaf (tree_if tree_leaf (tree_if tree_leaf tree_leaf))) (tree_if tree_leaf (tree_if tree_leaf tree_leaf)))))))))) (tree_if tree_leaf (tree_if tree_leaf (tree_if tree_leaf (tree_if tree_leaf (tree_if tree_leaf (tree_if tree_leaf (tree_if (tree_if tree_leaf (tree_if tree_leaf (tree_if tree_leaf tree_leaf))) (tree_if tree_leaf (tree_if tree_leaf tree_leaf)))))))))) hk
theorem run11n (m : Int) (te : TypeId) (q : SF) (fl : Bool) (k : Nat) (u0 u1 u2 u3 u4 : Nat → T) {n : Nat} {o : Empty ⊕ T} {r : T} (h : o11n m te q fl k u0 u1 u2 u3 u4 = some o) (hr : noM.fin n o = some r) : PureFn prog (glZ m te) 11 [.agg [.str q.node, .str q.reason, .int .i64 q.fr, .int .i64 q.till, .slf fl k (fun i => .agg [u0 i, u1 i, u2 i, u3 i, u4 i])]] r := by
 refine pure_mach (M := noM) (fn := f11) (k := 20) (d := 8) (c := bodyOf f11) (cxC m te q) (glZFrz m te) (by kernel_rfl) func11 (by kernel_rfl) rfl (by kernel_rfl) (by kernel_rfl) (L := 67) (by kernel_rfl) noM_ways (fun σ => σ.elim) ?_ hr
 exact (ways_if (ways_if (ways_leaf fun hk => ⟨2000, _, _, _, _, _, _, w11n_s_1 m te q fl k u0 u1 u2 u3 u4, hk⟩) (ways_if (ways_leaf fun hk => ⟨2000, _, _, _, _, _, _, w11n_s_2 m te q fl k u0 u1 u2 u3 u4, hk⟩) (ways_if (ways_leaf fun hk => ⟨2000, _, _, _, _, _, _, w11n_s_3 m te q fl k u0 u1 u2 u3 u4, hk⟩) (ways_if (ways_leaf fun hk => ⟨2000, _, _, _, _, _, _, w11n_s_4 m te q fl k u0 u1 u2 u3 u4, hk⟩) (ways_if (ways_leaf fun hk => ⟨2000, _, _, _, _, _, _, w11n_s_5 m te q fl k u0 u1 u2 u3 u4, hk⟩) (ways_if (ways_leaf fun hk => ⟨2000, _, _, _, _, _, _, w11n_s_6 m te q fl k u0 u1 u2 u3 u4, hk⟩) (ways_if (ways_leaf fun hk => ⟨2000, _, _, _, _, _, _, w11n_s_7 m te q fl k u0 u1 u2 u3 u4, hk⟩) (ways_if (ways_if (ways_leaf fun hk => ⟨2000, _, _, _, _, _, _, w11n_s_8 m te q fl k u0 u1 u2 u3 u4, hk⟩) (ways_if (ways_leaf fun hk => ⟨2000, _, _, _, _, _, _, w11n_s_9 m te q fl k u0 u1 u2 u3 u4, hk⟩) (ways_if (ways_leaf fun hk => ⟨2000, _, _, _, _, _, _, w11n_s_10 m te q fl k u0 u1 u2 u3 u4, hk⟩) (ways_leaf fun hk => ⟨2000, _, _, _, _, _, _, w11n_s_11 m te q fl k u0 u1 u2 u3 u4, hk⟩)))) (ways_if (ways_leaf fun hk => ⟨2000, _, _, _, _, _, _, w11n_s_12 m te q fl k u0 u1 u2 u3 u4, hk⟩) (ways_if (ways_leaf fun hk => ⟨2000, _, _, _, _, _, _, w11n_s_13 m te q fl k u0 u1 u2 u3 u4, hk⟩) (ways_leaf fun hk => ⟨2000, _, _, _, _, _, _, w11n_s_14 m te q fl k u0 u1 u2 u3 u4, hk⟩))))))))))) (ways_if (ways_leaf fun hk => ⟨2000, _, _, _, _, _, _, w11n_s_15 m te q fl k u0 u1 u2 u3 u4, hk⟩) (ways_if (ways_leaf fun hk => ⟨2000, _, _, _, _, _, _, w11n_s_16 m te q fl k u0 u1 u2 u3 u4, hk⟩) (ways_if (ways_leaf fun hk => ⟨2000, _, _, _, _, _, _, w11n_s_17 m te q fl k u0 u1 u2 u3 u4, hk⟩) (ways_if (ways_leaf fun hk => ⟨2000, _, _, _, _, _, _, w11n_s_18 m te q fl k u0 u1 u2 u3 u4, hk⟩) (ways_if (ways_leaf fun hk => ⟨2000, _, _, _, _, _, _, w11n_s_19 m te q fl k u0 u1 u2 u3 u4, hk⟩) (ways_if (ways_leaf fun hk => ⟨2000, _, _, _, _, _, _, w11n_s_20 m te q fl k u0 u1 u2 u3 u4, hk⟩) (ways_if (ways_if (ways_leaf fun hk => ⟨2000, _, _, _, _, _, _, w11n_s_21 m te q fl k u0 u1 u2 u3 u4, hk⟩) (ways_if (ways_leaf fun hk => ⟨2000, _, _, _, _, _, _, w11n_s_22 m te q fl k u0 u1 u2 u3 u4, hk⟩) (ways_if (ways_leaf fun hk => ⟨2000, _, _, _, _, _, _, w11n_s_23 m te q fl k u0 u1 u2 u3 u4, hk⟩) (ways_leaf fun hk => ⟨2000, _, _, _, _, _, _, w11n_s_24 m te q fl k u0 u1 u2 u3 u4, hk⟩)))) (ways_if (ways_leaf fun hk => ⟨2000, _, _, _, _, _, _, w11n_s_25 m te q fl k u0 u1 u2 u3 u4, hk⟩) (ways_if (ways_leaf fun hk => ⟨2000, _, _, _, _, _, _, w11n_s_26 m te q fl k u0 u1 u2 u3 u4, hk⟩) (ways_leaf fun hk => ⟨2000, _, _, _, _, _, _, w11n_s_27 m te q fl k u0 u1 u2 u3 u4, hk⟩))))))))))) o h
theorem c11n (m : Int) (te : TypeId) (q : SF) (fl : Bool) (k : Nat) (u0 u1 u2 u3 u4 : Nat → T) (n : Nat) {r : T} (hk : K11n_s m te q fl k u0 u1 u2 u3 u4 = true) (hr : noM.fin n (V11n_s m te q fl k u0 u1 u2 u3 u4) = some r) : PureFn prog (glZ m te) 11 [.agg [.str q.node, .str q.reason, .int .i64 q.fr, .int .i64 q.till, .slf fl k (fun i => .agg [u0 i, u1 i, u2 i, u3 i, u4 i])]] r := run11n m te q fl k u0 u1 u2 u3 u4 (T11n_s m te q fl k u0 u1 u2 u3 u4 hk) hr
end
end Go.Proofs.Tryz

/- The two checks of a filter answer alike. -/
namespace Go.Proofs.Tryz
open Go.Ps
set_option maxRecDepth 100000
theorem tree_eq {c a b : Bool} (h1 : c = true → a = true) (h2 : c = false → b = true) : (if c = true then a else b) = true := by
 cases c
 ·exact h2 rfl
 ·exact h1 rfl
theorem fin_if {S : Type} {M : Mch S} {n : Nat} {c : Bool} {a b : S ⊕ T} {r : T} (h1 : c = true → M.fin n a = some r) (h2 : c = false → M.fin n b = some r) : M.fin n (if c = true then a else b) = some r := by
 cases c
 ·exact h2 rfl
 ·exact h1 rfl
def erV (q : SF) (k : Nat) : Int :=
 if q.node ≠ [] ∧ q.bN = false then 12 else if 64 < q.reason.length then 5 else if q.bV = false then 16 else if q.fr < 0 ∨ 1048576 < q.fr ∨ q.till < 0 ∨ 1048576 < q.till then 2
 else if q.till ≠ 0 ∧ q.till < q.fr then 24 else if 1 < k then 9 else if 0 < k then q.e else 0
structure SFk (m : Int) (te : TypeId) (q : SF) (k : Nat) (u0 u1 u2 u3 u4 : Nat → T) : Prop where
 n : PureFn prog (glZ m te) 26 [.str q.node] (.bool q.bN)
 v : PureFn prog (glZ m te) 27 [.str q.reason] (.bool q.bV)
 c : 0 < k → PureFn prog (glZ m te) 28 [q.x] (.int .i64 q.e)
 x : 0 < k → T.agg [u0 0, u1 0, u2 0, u3 0, u4 0] = q.x
 o : 0 < k → allOne [u0 0, u1 0, u2 0, u3 0, u4 0] = true
theorem chk10 {m : Int} {te : TypeId} {q : SF} {fl : Bool} {k : Nat} {u0 u1 u2 u3 u4 : Nat → T} (h : SFk m te q k u0 u1 u2 u3 u4) : PureFn prog (glZ m te) 10 [.agg [.str q.node, .str q.reason, .int .i64 q.fr, .int .i64 q.till, .slf fl k (fun i => .agg [u0 i, u1 i, u2 i, u3 i, u4 i])]] (.int .i64 (erV q k)) := by
 have hn := h.n; have hv := h.v; have hc := h.c; have hx := h.x; have ho := h.o
 refine c10n m te q fl k u0 u1 u2 u3 u4 1 ?_ ?_
 ·unfold K10n_s
  repeat' (refine tree_eq (fun _ => ?_) (fun _ => ?_))
  all_goals (simp only [g10n_0u0_1, g10n_0u0_2, g10n_s_1, g10n_s_10, g10n_s_11, g10n_s_12, g10n_s_13, g10n_s_14, g10n_s_15, g10n_s_16, g10n_s_17, g10n_s_18, g10n_s_19, g10n_s_2, g10n_s_3, g10n_s_4, g10n_s_5, g10n_s_6, g10n_s_7, g10n_s_8, g10n_s_9, k10n_s_0, k10n_s_5, k10n_s_3, k10n_s_2, k10n_s_1, k10n_s_6, k10n_s_7, k10n_s_8, k10n_s_10, k10n_s_9, k10n_s_11, k10n_s_4]; simp_all [allT, pb_iff])
 ·unfold V10n_s
  have fin : q.node = [] ∨ q.bN = true → ¬ 64 < q.reason.length → q.bV = true → ¬ (q.fr < 0 ∨ 1048576 < q.fr ∨ q.till < 0 ∨ 1048576 < q.till) → ¬ (q.till ≠ 0 ∧ q.till < q.fr) → ¬ 1 < k → (M10n m te q fl k u0 u1 u2 u3 u4).fin 1 (.inl (.l0u0 (k : Int))) = some (.int .i64 (erV q k)) := by
   intro a1 a2 a3 a4 a5 a6
   rw [Mch.fin_inl, Mch.run_succ]
   have hk : K10n_0u0 m te q fl k u0 u1 u2 u3 u4 (k : Int) = true := by
    unfold K10n_0u0
    refine tree_eq (fun e => ?_) (fun e => ?_)
    all_goals (simp only [g10n_0u0_1, g10n_0u0_2, g10n_s_1, g10n_s_10, g10n_s_11, g10n_s_12, g10n_s_13, g10n_s_14, g10n_s_15, g10n_s_16, g10n_s_17, g10n_s_18, g10n_s_19, g10n_s_2, g10n_s_3, g10n_s_4, g10n_s_5, g10n_s_6, g10n_s_7, g10n_s_8, g10n_s_9, k10n_s_0, k10n_s_5, k10n_s_3, k10n_s_2, k10n_s_1, k10n_s_6, k10n_s_7, k10n_s_8, k10n_s_10, k10n_s_9, k10n_s_11, k10n_s_4]; simp_all [allT, pb_iff])
   have hs : (M10n m te q fl k u0 u1 u2 u3 u4).step (.l0u0 (k : Int)) = some (V10n_0u0 m te q fl k u0 u1 u2 u3 u4 (k : Int)) := T10n_0u0 m te q fl k u0 u1 u2 u3 u4 (k : Int) hk
   rw [hs]
   have he : erV q k = if 0 < k then q.e else 0 := by
    unfold erV
    rw [if_neg (by rintro ⟨b1, b2⟩; rcases a1 with a1 | a1; exact b1 a1; rw [a1] at b2; cases b2), if_neg a2, if_neg (by rw [a3]; decide), if_neg a4, if_neg a5, if_neg a6]
   rw [he]
   unfold V10n_0u0
   by_cases h0 : 0 < k
   ·have h1 : decide (0 < (k : Int)) = true := decide_eq_true (by omega)
    rw [h1, if_pos rfl, if_pos h0]; rfl
   ·have h1 : decide (0 < (k : Int)) = false := decide_eq_false (by omega)
    rw [h1, if_neg h0]; rfl
  repeat' (refine fin_if (fun _ => ?_) (fun _ => ?_))
  all_goals first
   | (refine fin ?_ ?_ ?_ ?_ ?_ ?_ <;> simp_all <;> omega)
   | (rw [Mch.fin_inr]; unfold erV; simp_all; done)
   | (rw [Mch.fin_inr]; unfold erV; grind)
theorem chk11 {m : Int} {te : TypeId} {q : SF} {fl : Bool} {k : Nat} {u0 u1 u2 u3 u4 : Nat → T} (h : SFk m te q k u0 u1 u2 u3 u4) : PureFn prog (glZ m te) 11 [.agg [.str q.node, .str q.reason, .int .i64 q.fr, .int .i64 q.till, .slf fl k (fun i => .agg [u0 i, u1 i, u2 i, u3 i, u4 i])]] (.int .i64 (erV q k)) := by
 have hn := h.n; have hv := h.v; have hc := h.c; have hx := h.x; have ho := h.o
 refine c11n m te q fl k u0 u1 u2 u3 u4 0 ?_ ?_
 ·unfold K11n_s
  repeat' (refine tree_eq (fun _ => ?_) (fun _ => ?_))
  all_goals (try simp only [g11n_s_1, g11n_s_10, g11n_s_11, g11n_s_12, g11n_s_13, g11n_s_14, g11n_s_15, g11n_s_16, g11n_s_17, g11n_s_18, g11n_s_19, g11n_s_2, g11n_s_20, g11n_s_21, g11n_s_22, g11n_s_23, g11n_s_24, g11n_s_25, g11n_s_26, g11n_s_27, g11n_s_3, g11n_s_4, g11n_s_5, g11n_s_6, g11n_s_7, g11n_s_8, g11n_s_9, k11n_s_0, k11n_s_6, k11n_s_5, k11n_s_4, k11n_s_3, k11n_s_2, k11n_s_1, k11n_s_7, k11n_s_8, k11n_s_9, k11n_s_10, k11n_s_11, k11n_s_12, k11n_s_13, k11n_s_14, k11n_s_15]; first | (simp_all [allT, pb_iff]; done) | (simp_all [allT, pb_iff]; exact ⟨hx (show 0 < k by omega), hc (show 0 < k by omega)⟩))
 ·unfold V11n_s
  repeat' (refine fin_if (fun _ => ?_) (fun _ => ?_))
  all_goals first
   | (rw [Mch.fin_inr]; unfold erV; simp_all; done)
   | (rw [Mch.fin_inr]; unfold erV; grind)
end Go.Proofs.Tryz

/- What the law calls: contracts at one filter. -/
namespace Go.Proofs.Tryz
noncomputable section
open Go.Ps
set_option maxRecDepth 100000
structure LF where
 a0 : T
 a1 : T
 a2 : T
 a3 : T
 a4 : T
 b0 : T
 b1 : T
 b2 : T
 b3 : T
 b4 : T
 e : Int
def LF.t (q : LF) : T := .agg [q.a0, q.a1, q.a2, q.a3, q.a4]
def LF.s (q : LF) : T := .agg [q.b0, q.b1, q.b2, q.b3, q.b4]
def F3 : Fc := ⟨fun s => Nat.beq s 1, fun _ _ _ => none⟩
def c3s (f : FuncId) (m : Int) (te : TypeId) (x r : T) : List T → Option (T × List Bool)
 | [y] => some (r, [pb (y = x), pb (PureFn prog (glZ m te) f [x] r)])
 | _ => none
def s9 : List T → Option (T × List Bool)
 | [] => some (.bool true, [])
 | _ => none
def pd3 (m : Int) (te : TypeId) (q : LF) : Hp → FuncId → List T → Option (T × List Bool) := pdAdd 8 (c3s 8 m te q.t q.s) (pdAdd 9 s9 (pdAdd 10 (c3s 10 m te q.s (.int .i64 q.e)) (pdAdd 11 (c3s 11 m te q.s (.int .i64 q.e)) (fun _ _ _ => none))))
def D3 (m : Int) (te : TypeId) (q : LF) : Ed := ⟨glZ m te, pd3 m te q⟩
theorem c3s_ok {f : FuncId} {m : Int} {te : TypeId} {x r : T} {ts : List T} {r' : T} {cs : List Bool} (h : c3s f m te x r ts = some (r', cs)) (hc : allT cs = true) : PureFn prog (glZ m te) f ts r' := by
 unfold c3s at h
 split at h
 ·cases h
  simp only [allT, Bool.and_true, Bool.and_eq_true, pb_iff] at hc
  rw [hc.1]; exact hc.2
 ·cases h
theorem cx3 (m : Int) (te : TypeId) (q : LF) : Cx prog (D3 m te q) F3 := by
 refine ⟨follows, ?_, eeNone_ok⟩
 refine pdAdd_ok (pdAdd_ok (pdAdd_ok (pdAdd_ok pdNone_ok fun ts r cs h hc => c3s_ok h hc) fun ts r cs h hc => c3s_ok h hc) fun ts r cs h hc => ?_) fun ts r cs h hc => c3s_ok h hc
 unfold s9 at h
 split at h
 ·cases h; exact pure1 known_ok
 ·cases h
end
end Go.Proofs.Tryz

namespace Go.Proofs.Tryz
noncomputable section
open Go.Ps
set_option maxRecDepth 100000
/-! ### 3 -/
def g3n_s_1 (m : Int) (te : TypeId) (q : LF) : List Bool := let y0 := pb (T.agg [q.b0, q.b1, q.b2, q.b3, q.b4] = T.agg [q.b0, q.b1, q.b2, q.b3, q.b4]); [true, true, y0, pb (PureFn prog (glZ m te) 11 [T.agg [q.b0, q.b1, q.b2, q.b3, q.b4]] (T.int .i64 q.e)), true, true, y0, pb (PureFn prog (glZ m te) 10 [T.agg [q.b0, q.b1, q.b2, q.b3, q.b4]] (T.int .i64 q.e)), true, true, true, true, allOne [q.b0, q.b1, q.b2, q.b3, q.b4], pb (T.agg [q.a0, q.a1, q.a2, q.a3, q.a4] = T.agg [q.a0, q.a1, q.a2, q.a3, q.a4]), pb (PureFn prog (glZ m te) 8 [T.agg [q.a0, q.a1, q.a2, q.a3, q.a4]] (T.agg [q.b0, q.b1, q.b2, q.b3, q.b4]))]
theorem w3n_s_1 (m : Int) (te : TypeId) (q : LF) : outK prog f3 20 [] (runK prog (D3 m te q) F3 2000 (.code (bodyOf f3)) [] 0 ([.agg [q.a0, q.a1, q.a2, q.a3, q.a4]] ++ List.replicate 12 undefT) ⟨0, .nl⟩ (bt 6 63) [])
  = some (OutT.done (some (T.bool (q.e == q.e))), g3n_s_1 m te q, { next := 0, objs := Ht.nl }, [], 0) := by kernel_rfl
def o3n (m : Int) (te : TypeId) (q : LF) : Option (Empty ⊕ T) :=
 (if allT (g3n_s_1 m te q) then some (.inr (T.bool (q.e == q.e))) else none)
def V3n_s (m : Int) (te : TypeId) (q : LF) : Empty ⊕ T :=
 (.inr (T.bool (q.e == q.e)))
def K3n_s (m : Int) (te : TypeId) (q : LF) : Bool :=
 (allT (g3n_s_1 m te q))
theorem T3n_s (m : Int) (te : TypeId) (q : LF) (hk : K3n_s m te q = true) : o3n m te q = some (V3n_s m te q) :=
 tree_leaf hk
theorem run3n (m : Int) (te : TypeId) (q : LF) (hf : mapO (frzT 40 ⟨0, .nl⟩) [.agg [q.a0, q.a1, q.a2, q.a3, q.a4]] = some [.agg [q.a0, q.a1, q.a2, q.a3, q.a4]]) {n : Nat} {o : Empty ⊕ T} {r : T} (h : o3n m te q = some o) (hr : noM.fin n o = some r) : PureFn prog (glZ m te) 3 [.agg [q.a0, q.a1, q.a2, q.a3, q.a4]] r := by
 refine pure_mach (M := noM) (fn := f3) (k := 20) (d := 40) (c := bodyOf f3) (cx3 m te q) (glZFrz m te) (by kernel_rfl) func3 (by kernel_rfl) rfl (by kernel_rfl) hf (L := 12) (by kernel_rfl) noM_ways (fun σ => σ.elim) ?_ hr
 exact (ways_leaf fun hk => ⟨2000, _, _, _, _, _, _, w3n_s_1 m te q, hk⟩) o h
theorem c3n (m : Int) (te : TypeId) (q : LF) (hf : mapO (frzT 40 ⟨0, .nl⟩) [.agg [q.a0, q.a1, q.a2, q.a3, q.a4]] = some [.agg [q.a0, q.a1, q.a2, q.a3, q.a4]]) (n : Nat) {r : T} (hk : K3n_s m te q = true) (hr : noM.fin n (V3n_s m te q) = some r) : PureFn prog (glZ m te) 3 [.agg [q.a0, q.a1, q.a2, q.a3, q.a4]] r := run3n m te q hf (T3n_s m te q hk) hr
end
end Go.Proofs.Tryz

/- Slices of plain data, told by functions. -/
namespace Go.Ps
noncomputable section
def nz : Nat → T → T
 | 0, t => t
 | n + 1, t => match t with
  | .nils => .slf true 0 (fun _ => undefT)
  | .sl fl xs => .slf fl xs.length (fun i => .agg (((xs.getD i undefT).cells).map (nz n)))
  | .agg cs => .agg (cs.map (nz n))
  | t => t
def dataA : Nat → A → Bool
 | 0, _ => false
 | n + 1, a => match a with
  | .ival .. | .strv .. | .bool _ | .sxv .. => true
  | .slv (.agg es) _ _ => lEv (dataA n) es
  | .agg es => lEv (dataA n) es
  | _ => false
section
variable {ρ : List Int} {μ : List (Option Nat)}
theorem gmL_nz {n : Nat} {es : List A} (hf : ∀ a ∈ es, ∀ t, Gm ρ μ a t → Gm ρ μ a (nz n t)) : ∀ {ts : List T}, GmL ρ μ es ts → GmL ρ μ es (ts.map (nz n)) := by
 intro ts h
 refine ⟨by simpa using h.1, fun j a t ha ht => ?_⟩
 rw [List.getElem?_map, Option.map_eq_some_iff] at ht
 obtain ⟨u, hu, rfl⟩ := ht
 exact hf a (List.mem_of_getElem? ha) u (h.2 j a u ha hu)
theorem gm_agg {es : List A} {x : T} (h : Gm ρ μ (.agg es) x) : ∃ ts, x = .agg ts ∧ GmL ρ μ es ts := by
 cases h with
 | agg _ ts h1 h2 => exact ⟨ts, rfl, h1, h2⟩
theorem nz_gm : ∀ (n : Nat) (a : A) (t : T), dataA n a = true → Gm ρ μ a t → Gm ρ μ a (nz n t)
 | 0, a, t, h, _ => by simp [dataA] at h
 | n + 1, a, t, h, hg => by
  have ih := nz_gm n
  cases hg with
  | ival k lo hi m h1 h2 h3 => exact .ival k lo hi m h1 h2 h3
  | strv lo hi l h1 h2 => exact .strv lo hi l h1 h2
  | bool B b hb => exact .bool B b hb
  | sxv lo hi full m f h1 h2 => exact .sxv lo hi full m f h1 h2
  | agg es ts h1 h2 =>
   have hl := gmL_nz (n := n) (fun a ha t ht => ih a t (lEv_mem (by simpa [dataA] using h) a ha) ht) (ts := ts) ⟨h1, h2⟩
   exact .agg _ _ hl.1 hl.2
  | slv e lo hi t xs h1 h2 h3 h4 =>
   cases e with
   | agg es =>
    have hes : ∀ a ∈ es, dataA n a = true := fun a ha => lEv_mem (by simpa [dataA] using h) a ha
    have hel : ∀ x ∈ xs, Gm ρ μ (.agg es) (.agg (x.cells.map (nz n))) := fun x hx => by
     obtain ⟨ts, rfl, hts⟩ := gm_agg (h4 x hx)
     have hl := gmL_nz (n := n) (fun a ha t ht => ih a t (hes a ha) ht) hts
     exact .agg _ _ hl.1 hl.2
    rcases h1 with ⟨rfl, rfl⟩ | ⟨f, rfl⟩ | ⟨full, m, f, rfl, rfl⟩
    ·exact .slv _ _ _ _ [] (.inr (.inr ⟨true, 0, _, rfl, rfl⟩)) h2 h3 (fun x hx => by simp at hx)
    ·refine .slv _ _ _ _ (xs.map fun x => .agg (x.cells.map (nz n))) (.inr (.inr ⟨f, xs.length, _, rfl, ?_⟩)) (by simpa using h2) (by simpa using h3) (fun x hx => ?_)
     ·apply List.ext_getElem?
      intro j
      rw [List.getElem?_map, List.getElem?_map]
      by_cases hj : j < xs.length
      ·rw [List.getElem?_range hj, List.getElem?_eq_getElem hj]
       simp [List.getD_eq_getElem?_getD, hj]
      ·rw [List.getElem?_eq_none (by omega), List.getElem?_eq_none (by simp; omega)]; rfl
     ·obtain ⟨y, hy, rfl⟩ := List.mem_map.1 hx
      exact hel y hy
    ·exact .slv _ _ _ _ _ (.inr (.inr ⟨full, m, f, rfl, rfl⟩)) h2 h3 h4
   | _ => simp [dataA] at h
  | _ => simp [dataA] at h
theorem nz_rd {g : G} : ∀ (n : Nat) (a : A) (t : T), dataA n a = true → Gm ρ μ a t → ∀ v, Rd g v t → RdI g v (nz n t)
 | 0, a, t, h, _ => by simp [dataA] at h
 | n + 1, a, t, h, hg => by
  intro v hr
  have ih := nz_rd (g := g) n
  cases hg with
  | ival k lo hi m h1 h2 h3 => cases hr; exact .int _ _
  | strv lo hi l h1 h2 => cases hr; exact .str _
  | bool B b hb => cases hr; exact .bool _
  | sxv lo hi full m f h1 h2 =>
   cases hr with
   | slfn _ _ p => exact .slfn _ _ p
   | slf _ _ _ sz b o cap vs k1 k2 k3 k4 k5 k6 k7 k8 => exact .slf _ _ _ sz b o cap vs k1 k2 k3 k4 k5 k6 k7 k8
  | agg es ts h1 h2 =>
   cases hr with
   | agg _ vs k1 k2 =>
    refine .agg _ vs (by simpa using k1) (fun j u c hu hc => ?_)
    rw [List.getElem?_map, Option.map_eq_some_iff] at hc
    obtain ⟨c0, hc0, rfl⟩ := hc
    obtain ⟨a, ha, hga⟩ := GmL.at' ⟨h1, h2⟩ hc0
    exact ih a c0 (lEv_mem (by simpa [dataA] using h) a (List.mem_of_getElem? ha)) hga u (k2 j u c0 hu hc0)
  | slv e lo hi t xs h1 h2 h3 h4 =>
   cases e with
   | agg es =>
    have hes : ∀ a ∈ es, dataA n a = true := fun a ha => lEv_mem (by simpa [dataA] using h) a ha
    rcases h1 with ⟨rfl, rfl⟩ | ⟨f, rfl⟩ | ⟨full, m, f, rfl, rfl⟩
    ·cases hr; exact .slfn _ _ none
    ·cases hr with
     | sl _ _ sz b o cap vs k1 k2 k3 k4 k5 k6 k7 k8 =>
      have hget : ∀ i, (hi : i < xs.length) → xs.getD i undefT = xs[i]'hi := fun i hi => by simp [List.getD_eq_getElem?_getD, hi]
      refine .slf f xs.length _ sz b o cap vs (fun q => k1 (fun e => q (by simp [e]))) (fun i hi => ?_) k3 k4 k5 k6 k7 (fun i j u c hi hj hu hc => ?_)
      ·show (List.map (nz n) (xs.getD i undefT).cells).length = sz
       rw [List.length_map, hget i hi]; exact k2 _ (List.getElem_mem hi)
      ·have hc : (((xs.getD i undefT).cells).map (nz n))[j]? = some c := hc
       rw [hget i hi, List.getElem?_map, Option.map_eq_some_iff] at hc
       obtain ⟨c0, hc0, rfl⟩ := hc
       have hm := List.getElem_mem hi
       obtain ⟨ts, hts, hgl⟩ := gm_agg (h4 _ hm)
       have hcell : ts[j]? = some c0 := by rw [hts] at hc0; exact hc0
       obtain ⟨a, ha, hga⟩ := hgl.at' hcell
       refine ih a c0 (hes a (List.mem_of_getElem? ha)) hga u (k8 _ u c0 hu ?_)
       exact rows_at k2 (List.getElem?_eq_getElem hi) j c0 hc0
    ·cases hr with
     | slfn _ _ p => exact .slfn _ _ p
     | slf _ _ _ sz b o cap vs k1 k2 k3 k4 k5 k6 k7 k8 => exact .slf _ _ _ sz b o cap vs k1 k2 k3 k4 k5 k6 k7 k8
   | _ => simp [dataA] at h
  | _ => simp [dataA] at h
theorem rdI_slf_congr {g : G} {v : Value} {fl : Bool} {k : Nat} {f f' : Nat → T} (h : RdI g v (.slf fl k f)) (he : ∀ i, i < k → f i = f' i) : RdI g v (.slf fl k f') := by
 cases h with
 | slfn _ _ p => exact .slfn _ _ p
 | slf _ _ _ sz b o cap vs k1 k2 k3 k4 k5 k6 k7 k8 =>
  exact .slf _ _ _ sz b o cap vs k1 (fun i hi => by rw [← he i hi]; exact k2 i hi) k3 k4 k5 k6 k7 (fun i j u c hi hj hu hc => k8 i j u c hi hj hu (by rw [he i hi]; exact hc))
end
end
end Go.Ps

/- DeadletterChecks returns true at every filter. -/
namespace Go.Ps
section
variable {P : Program} {gl : Nat → Option T} {k : Nat} {ga : Nat → Option A} {pa pa' : FuncId → List A → Nat → List Con → Option AV} {pe : FuncId → List T → Option T} {dom dom' : FuncId → Bool}
theorem Lay.ct (hz : GlFrz gl) (hk : dep ≤ k) {X : AX} {tab : FuncId → Bool} (h' : Lay P gl k ga pa' (extP P gl pe X.own X.top k tab) dom') (hc : Cn X gl (lend k pe)) {d : Nat} {c : Ctr} (hrun : ctRun P X d c = true) (htab : tab c.f = true)
  (hpre : lEv (pureA dep) c.pre = true) {ts : List T} (hts : GmL [] [] c.pre ts) : ∃ r, PureFn P gl c.f ts r ∧ Gm [] [] c.res r := by
 obtain ⟨r, r1, r2⟩ := ct_ans hc hk hrun hts
 refine ⟨r, h'.pure hz (extP_ans htab r1) (mapO_id _ fun x hx => ?_), r2⟩
 obtain ⟨a, ha, hg⟩ := gmL_mem hts.1 hts.2 hx
 exact frz_id dep a x (lEv_mem hpre a ha) hg k hk
end
section
variable {ρ : List Int} {μ : List (Option Nat)}
theorem nz_sl {n : Nat} {es : List A} {lo hi : Int} {W : T} (hes : ∀ a ∈ es, dataA n a = true) (h : Gm ρ μ (.slv (.agg es) lo hi) W) : ∃ fl k f, nz (n + 1) W = .slf fl k f ∧ ∀ i, i < k → ∃ us, f i = .agg us ∧ GmL ρ μ es us := by
 cases h with
 | slv _ _ _ _ xs h1 h2 h3 h4 =>
  rcases h1 with ⟨rfl, rfl⟩ | ⟨f, rfl⟩ | ⟨full, m, f, rfl, rfl⟩
  ·exact ⟨true, 0, _, rfl, fun i hi => by omega⟩
  ·refine ⟨f, xs.length, _, rfl, fun i hi => ⟨_, rfl, ?_⟩⟩
   have hget : xs.getD i undefT = xs[i]'hi := by simp [List.getD_eq_getElem?_getD, hi]
   rw [hget]
   obtain ⟨ts, hts, hgl⟩ := gm_agg (h4 _ (List.getElem_mem hi))
   rw [hts]
   exact gmL_nz (fun a ha t ht => nz_gm n a t (hes a ha) ht) hgl
  ·refine ⟨full, m, f, rfl, fun i hi => ?_⟩
   obtain ⟨ts, hts, hgl⟩ := gm_agg (h4 (f i) (List.mem_map.2 ⟨i, by simpa using hi, rfl⟩))
   exact ⟨ts, hts, hgl⟩
end
end Go.Ps
namespace Go.Proofs.Tryz
open Go.Ps
set_option maxRecDepth 100000
noncomputable section
theorem isn_ex (m : Int) (te : TypeId) {s : List UInt8} (h : s.length ≤ 100) : (∃ b, PureFn prog (glZ m te) 26 [.str s] (.bool b)) ∧ ∃ b, PureFn prog (glZ m te) 27 [.str s] (.bool b) := by
 have hl := layq m te
 have hts : GmL [] [] [txt 100] [.str s] := GmL.cons (.strv _ _ _ (by omega) (by omega)) .nil
 constructor
 ·obtain ⟨r, h1, h2⟩ := Lay.ct (X := cKr) (glZFrz m te) dep40 (layr m te) (Lay.cn hl rfl rfl (l := []) rfl rfl) (c := c26) (kR c26 (by simp [lR])) (by rfl) (by kernel_rfl) hts
  cases h2 with
  | bool _ b _ => exact ⟨b, h1⟩
 ·obtain ⟨r, h1, h2⟩ := Lay.ct (X := cKr) (glZFrz m te) dep40 (layr m te) (Lay.cn hl rfl rfl (l := []) rfl rfl) (c := c27) (kR c27 (by simp [lR])) (by rfl) (by kernel_rfl) hts
  cases h2 with
  | bool _ b _ => exact ⟨b, h1⟩
theorem check_ex (m : Int) (te : TypeId) {x : T} (h : Gm [] [] (.agg (eA 3)) x) : ∃ e, PureFn prog (glZ m te) 28 [x] (.int .i64 e) := by
 obtain ⟨r, h1, h2⟩ := Lay.ct (X := cK5) (glZFrz m te) dep40 (lay5 m te) (Lay.cn (lay4 m te) rfl rfl (l := [57]) rfl (by kernel_rfl)) (c := c28) k28 (by rfl) (by kernel_rfl) (GmL.cons h .nil)
 cases h2 with
 | ival _ _ _ e _ _ _ => exact ⟨e, h1⟩
theorem short_ex (m : Int) (te : TypeId) {ts : List T} (h : GmL [] [] c8.pre ts) : ∃ r, PureFn prog (glZ m te) 8 ts r ∧ Gm [] [] c8.res r :=
 Lay.ct (X := cS 3 pS6 [8, 23] [23]) (glZFrz m te) dep40 (lays7 m te) (Lay.cn (lays6 m te) rfl rfl (l := [23]) rfl (by kernel_rfl)) (c := c8) s4 (by rfl) (by kernel_rfl) h
def uc (f : Nat → T) (j i : Nat) : T := match f i with
 | .agg us => us.getD j undefT
 | _ => undefT
theorem law_ok (m : Int) (te : TypeId) {t : T} (h : GmL [] [] c8.pre [t]) : PureFn prog (glZ m te) 3 [t] (.bool true) := by
 obtain ⟨r8, hp8, hg8⟩ := short_ex m te h
 have hr8 := hg8
 obtain ⟨ts, rfl, hts⟩ := gm_agg (show Gm [] [] (.agg [txt 100, txt 100, ifull, ifull, .slv (.agg (eA 3)) 0 8]) r8 from hg8)
 obtain ⟨c0, r0, rfl, g0, hts⟩ := hts.inv_cons
 obtain ⟨c1, r1, rfl, g1, hts⟩ := hts.inv_cons
 obtain ⟨c2, r2, rfl, g2, hts⟩ := hts.inv_cons
 obtain ⟨c3, r3, rfl, g3, hts⟩ := hts.inv_cons
 obtain ⟨W, r4, rfl, gW, hts⟩ := hts.inv_cons
 rw [hts.inv_nil] at hp8 hr8
 cases g0 with
 | strv _ _ nd n1 n2 =>
 cases g1 with
 | strv _ _ rs n3 n4 =>
 cases g2 with
 | ival _ _ _ fr _ _ _ =>
 cases g3 with
 | ival _ _ _ till _ _ _ =>
 have hdat : ∀ a ∈ eA 3, dataA 18 a = true := List.all_eq_true.1 (by kernel_rfl)
 obtain ⟨fl, k, f, hW, hf⟩ := nz_sl (n := 18) hdat gW
 have hshape : ∀ i, i < k → f i = .agg [uc f 0 i, uc f 1 i, uc f 2 i, uc f 3 i, uc f 4 i] ∧ GmL [] [] (eA 3) [uc f 0 i, uc f 1 i, uc f 2 i, uc f 3 i, uc f 4 i] := by
  intro i hi
  obtain ⟨us, h1, h2⟩ := hf i hi
  have hl : us.length = 5 := by rw [← h2.1]; rfl
  match us, hl with
  | [v0, v1, v2, v3, v4], _ =>
   simp only [uc, h1]
   exact ⟨rfl, h2⟩
 obtain ⟨s, hs⟩ : ∃ s : T, s = .agg [.str nd, .str rs, .int .i64 fr, .int .i64 till, .slf fl k (fun i => .agg [uc f 0 i, uc f 1 i, uc f 2 i, uc f 3 i, uc f 4 i])] := ⟨_, rfl⟩
 have hp : PureFn prog (glZ m te) 8 [t] s := by
  refine hp8.mono fun g v hv => ?_
  have hI := nz_rd 20 _ _ (show dataA 20 c8.res = true by kernel_rfl) hr8 v hv
  have e20 : nz 20 (.agg [.str nd, .str rs, .int .i64 fr, .int .i64 till, W]) = .agg [.str nd, .str rs, .int .i64 fr, .int .i64 till, nz 19 W] := rfl
  rw [e20, hW] at hI
  cases hI with
  | agg _ vs k1 k2 =>
   rw [hs]
   refine (RdI.agg [.str nd, .str rs, .int .i64 fr, .int .i64 till, .slf fl k (fun i => .agg [uc f 0 i, uc f 1 i, uc f 2 i, uc f 3 i, uc f 4 i])] vs (by simpa using k1) (fun j u c hu hc => ?_)).rd
   match j, hc with
   | 0, hc => exact k2 0 u c hu hc
   | 1, hc => exact k2 1 u c hu hc
   | 2, hc => exact k2 2 u c hu hc
   | 3, hc => exact k2 3 u c hu hc
   | 4, hc => cases hc; exact rdI_slf_congr (k2 4 u _ hu rfl) (fun i hi => (hshape i hi).1)
   | j + 5, hc => simp at hc
 obtain ⟨bN, hN⟩ := (isn_ex m te (s := nd) (by omega)).1
 obtain ⟨bV, hV⟩ := (isn_ex m te (s := rs) (by omega)).2
 obtain ⟨e, he⟩ : ∃ e, 0 < k → PureFn prog (glZ m te) 28 [.agg [uc f 0 0, uc f 1 0, uc f 2 0, uc f 3 0, uc f 4 0]] (.int .i64 e) := by
  by_cases h0 : 0 < k
  ·obtain ⟨e, he⟩ := check_ex m te (x := .agg [uc f 0 0, uc f 1 0, uc f 2 0, uc f 3 0, uc f 4 0]) (.agg _ _ (hshape 0 h0).2.1 (hshape 0 h0).2.2)
   exact ⟨e, fun _ => he⟩
  ·exact ⟨0, fun h => absurd h h0⟩
 have hq : SFk m te ⟨nd, rs, fr, till, bN, bV, e, .agg [uc f 0 0, uc f 1 0, uc f 2 0, uc f 3 0, uc f 4 0]⟩ k (uc f 0) (uc f 1) (uc f 2) (uc f 3) (uc f 4) :=
  ⟨hN, hV, he, fun _ => rfl, fun h0 => allOneA_ok (hshape 0 h0).2 (by kernel_rfl)⟩
 have h10 := chk10 (fl := fl) hq
 have h11 := chk11 (fl := fl) hq
 rw [← hs] at h10 h11
 obtain ⟨ts, rfl, hts⟩ := gm_agg (show Gm [] [] (.agg [txt cBig, txt cBig, ifull, ifull, .slv (.agg (eI 3)) 0 cBig]) t from h.head)
 have hl : ts.length = 5 := by rw [← hts.1]; rfl
 match ts, hl with
 | [a0, a1, a2, a3, a4], _ =>
  refine c3n m te ⟨a0, a1, a2, a3, a4, .str nd, .str rs, .int .i64 fr, .int .i64 till, .slf fl k (fun i => .agg [uc f 0 i, uc f 1 i, uc f 2 i, uc f 3 i, uc f 4 i]), erV ⟨nd, rs, fr, till, bN, bV, e, .agg [uc f 0 0, uc f 1 0, uc f 2 0, uc f 3 0, uc f 4 0]⟩ k⟩ (mapO_id _ fun x hx => ?_) 0 ?_ ?_
  ·obtain ⟨a, ha, hga⟩ := gmL_mem h.1 h.2 hx
   exact frz_id dep a x (lEv_mem (show lEv (pureA dep) c8.pre = true by kernel_rfl) a ha) hga 40 dep40
  ·unfold K3n_s g3n_s_1
   rw [hs] at h10 h11 hp
   simp only [allT, Bool.and_true, Bool.and_eq_true, pb_iff]
   simp [h10, h11, hp, allOne, T.one]
  ·unfold V3n_s
   simp
end
end Go.Proofs.Tryz

/- Opening an argument: what reads a_s plain data (numbers, texts, structures, slices of such) is a tree; it reads again where nothing that was there has changed. -/
namespace Go.Ps
def RdIL (g : G) (vs : List Value) (ts : List T) : Prop := vs.length = ts.length ∧ ∀ (j : Nat) (v : Value) (c : T), vs[j]? = some v → ts[j]? = some c → RdI g v c
section
variable {g : G}
theorem RdIL.nil : RdIL g [] [] := ⟨rfl, fun j v c h => by simp at h⟩
theorem RdIL.one {v : Value} {t : T} (h : RdI g v t) : RdIL g [v] [t] := by
 refine ⟨rfl, fun j u c hu hc => ?_⟩
 cases j with
 | zero => simp at hu hc; subst hu; subst hc; exact h
 | succ j => simp at hu
theorem RdIL.append {vs us : List Value} {ts ss : List T} (h : RdIL g vs ts) (k : RdIL g us ss) : RdIL g (vs ++ us) (ts ++ ss) := by
 refine ⟨by simp [h.1, k.1], fun j u c hu hc => ?_⟩
 rw [List.getElem?_append] at hu hc
 by_cases hj : j < vs.length
 ·rw [if_pos hj] at hu
  rw [if_pos (h.1 ▸ hj)] at hc
  exact h.2 j u c hu hc
 ·rw [if_neg hj] at hu
  rw [if_neg (h.1 ▸ hj), ← h.1] at hc
  exact k.2 _ u c hu hc
end
def fieldAt (P : Program) (t : TypeId) (i : Nat) : Option (TypeId × Nat × Nat) :=
 match P.underlying t with
 | some (.struct fs) => (fs[i]?).map fun f => (f.type, f.offset, P.cellsOf f.type)
 | _ => none
section
variable {H : Type} (enc : TypeId × Value → H) (P : Program) (W : World)
def Opens (t : TypeId) {A : Type} (mk : A → List T) (ok : A → Prop) : Prop :=
 ∀ (n : Nat) (cs : List Value) (y : DataW H × List MemPlace), DataW.trod enc P W 0 (fun _ => true) true n t cs = some y → ∃ a : A, RdIL (G.start W) cs (mk a) ∧ ok a
variable {enc P W}
theorem Opens.int {t : TypeId} {k : IntKind} (ht : P.underlying t = some (.int k)) : Opens enc P W t (fun n : Int => [.int k n]) (fun n => k.has n) := by
 intro n cs y h
 obtain ⟨m, rfl, _, hw⟩ := DataW.trod_int ht h
 refine ⟨m, RdIL.one (.int k m), ?_⟩
 simp [Lit.wf] at hw
 exact hw
theorem Opens.bool {t : TypeId} (ht : P.underlying t = some .bool) : Opens enc P W t (fun b : Bool => [.bool b]) (fun _ => True) := by
 intro n cs y h
 obtain ⟨b, rfl, _⟩ := DataW.trod_bool ht h
 exact ⟨b, RdIL.one (.bool b), trivial⟩
theorem Opens.str {t : TypeId} (ht : P.underlying t = some .string) : Opens enc P W t (fun s : List UInt8 => [.str s]) (fun s => s.length ≤ maxLen) := by
 intro n cs y h
 obtain ⟨s, rfl, _, hs⟩ := DataW.trod_string ht h
 exact ⟨s.data.toList, RdIL.one (.str s), by simpa using hs⟩
theorem cells_some {w : World} {a : Addr} {n : Nat} {cs : List Value} (h : w.cells? 0 a n = some cs) : cs.length = n ∧ ∀ (j : Nat) (v : Value), cs[j]? = some v → w.cell? (a.add j) = some v := by
 obtain ⟨_, hl, hc⟩ := World.cells?_some h
 refine ⟨hl, fun j v hv => ?_⟩
 have hj : j < n := by rw [← hl]; exact (List.getElem?_eq_some_iff.1 hv).1
 rw [hc j hj]; exact hv
theorem spot_of_cell {w : World} {a : Addr} {v : Value} (h : w.cell? a = some v) : a.spot = none := by
 unfold World.cell? at h
 split at h
 ·split at h
  ·cases h
  ·rename_i hs; simpa using hs
 ·cases h
theorem Opens.sliceN {N : Nat} {t e : TypeId} {sz : Nat} {A : Type} [Inhabited A] {mk : A → List T} {ok : A → Prop} (toT : A → T) (ht : P.underlying t = some (.slice e)) (hsz : P.cellsOf e = sz) (hpos : 0 < sz) (hmk : ∀ a, (mk a).length = sz)
  (htoT : ∀ a, (toT a).cells = mk a) (he : ∀ (n : Nat), n < N → ∀ (cs : List Value) (y : DataW H × List MemPlace), DataW.trod enc P W 0 (fun _ => true) true n e cs = some y → ∃ a : A, RdIL (G.start W) cs (mk a) ∧ ok a)
  (n : Nat) (hn : n ≤ N) (cs : List Value) (y : DataW H × List MemPlace) (h : DataW.trod enc P W 0 (fun _ => true) true n t cs = some y) :
  ∃ x : Nat × (Nat → A), RdIL (G.start W) cs [.slf false x.1 (fun i => toT (x.2 i))] ∧ x.1 ≤ maxLen ∧ ∀ i, i < x.1 → ok (x.2 i) := by
 rcases DataW.trod_slice ht h with ⟨rfl, _⟩ | ⟨a, len, cap, elems, rest, n', hfu, rfl, _, _, hl, hm, hlen, hel, hsp, _⟩
 ·exact ⟨(0, default), RdIL.one (.slfn false _ none), by simp, fun i hi => by simp at hi⟩
 ·rw [hsz] at hel hsp
  have one : ∀ i, i < len → ∃ c x, W.cells? 0 (a.add (i * sz)) sz = some c ∧ RdIL (G.start W) c (mk x) ∧ ok x := by
   intro i hi
   have h1 := hel i hi
   have h2 : elems[i]? = some (elems[i]'(by omega)) := List.getElem?_eq_getElem (by omega)
   rw [h2, Option.bind_eq_some_iff] at h1
   obtain ⟨c, hc, hy⟩ := h1
   obtain ⟨x, hx, hk⟩ := he _ (by omega) _ _ hy
   exact ⟨c, x, hc, hx, hk⟩
  have hspot : 0 < cap → a.spot = none := by
   intro hc
   by_cases hl0 : 0 < len
   ·obtain ⟨c, x, h1, _, _⟩ := one 0 hl0
    obtain ⟨h2, h3⟩ := cells_some h1
    have h4 : c[0]? = some (c[0]'(by omega)) := List.getElem?_eq_getElem (by omega)
    have := spot_of_cell (h3 0 _ h4)
    simpa [Addr.add] using this
   ·obtain ⟨h1, h2⟩ := hsp rfl
    have h3 := h2 0 (by omega)
    have h4 : rest[0]? = some (rest[0]'(by omega)) := List.getElem?_eq_getElem (by omega)
    rw [h4, Option.bind_eq_some_iff] at h3
    obtain ⟨c, hc, _⟩ := h3
    have l0 : len = 0 := by omega
    subst l0
    obtain ⟨h5, h6⟩ := cells_some hc
    have h7 : c[0]? = some (c[0]'(by omega)) := List.getElem?_eq_getElem (by omega)
    have := spot_of_cell (h6 0 _ h7)
    simpa [Addr.add] using this
  classical
  let cel : Nat → List Value := fun i => if hi : i < len then Classical.choose (one i hi) else []
  let xs : Nat → A := fun i => if hi : i < len then Classical.choose (Classical.choose_spec (one i hi)) else default
  have hcx : ∀ i, i < len → W.cells? 0 (a.add (i * sz)) sz = some (cel i) ∧ RdIL (G.start W) (cel i) (mk (xs i)) ∧ ok (xs i) := by
   intro i hi
   simp only [cel, xs, dif_pos hi]
   exact Classical.choose_spec (Classical.choose_spec (one i hi))
  refine ⟨(len, xs), RdIL.one ?_, by show len ≤ maxLen; omega, fun i hi => (hcx i hi).2.2⟩
  by_cases hcap : cap = 0
  ·have l0 : len = 0 := by omega
   subst l0; subst hcap
   exact .slfn false _ (some a)
  ·obtain ⟨b, o, sp⟩ := a
   have hs := hspot (by omega)
   simp only at hs
   subst hs
   have hlenAll : ∀ x ∈ (List.range len).map cel, x.length = sz := fun x hx => by
    obtain ⟨i, hi, rfl⟩ := List.mem_map.1 hx
    exact (cells_some (hcx i (by simpa using hi)).1).1
   have hflat : ∀ (m : Nat), m ≤ len → (((List.range m).map cel).flatten).length = m * sz := by
    intro m
    induction m with
    | zero => intro _; simp
    | succ m ih =>
     intro hm
     rw [List.range_succ, List.map_append, List.flatten_append, List.length_append, ih (by omega), Nat.succ_mul]
     simp [(cells_some (hcx m (by omega)).1).1]
   have hat : ∀ (m : Nat), m ≤ len → ∀ i j, i < m → j < sz → (((List.range m).map cel).flatten)[i * sz + j]? = (cel i)[j]? := by
    intro m
    induction m with
    | zero => intro _ i j hi; omega
    | succ m ih =>
     intro hm i j hi hj
     rw [List.range_succ, List.map_append, List.flatten_append, List.getElem?_append, hflat m (by omega)]
     by_cases him : i < m
     ·have : i * sz + j < m * sz := by
       have : (i + 1) * sz ≤ m * sz := Nat.mul_le_mul_right _ him
       rw [Nat.succ_mul] at this
       omega
      rw [if_pos this]
      exact ih (by omega) i j him hj
     ·have : i = m := by omega
      subst this
      rw [if_neg (by omega)]
      simp
   refine .slf false len (fun i => toT (xs i)) sz b o cap (((List.range len).map cel).flatten) (fun hn => ?_) (fun i hi => by rw [htoT, hmk]) hl hm (fun q => by cases q) (hflat len (Nat.le_refl _)) (fun j v hv => ?_) (fun i j v c hi hj hv hc => ?_)
   ·obtain ⟨h1, _, _⟩ := hcx 0 (by omega)
    obtain ⟨h2, h3⟩ := cells_some h1
    have h4 : (cel 0)[0]? = some ((cel 0)[0]'(by omega)) := List.getElem?_eq_getElem (by omega)
    have := lt_of_cell (h3 0 _ h4)
    show b < W.heap.size
    simpa [Addr.add] using this
   ·have hj : j < len * sz := by
     rw [← hflat len (Nat.le_refl _)]
     exact (List.getElem?_eq_some_iff.1 hv).1
    have hd : j = j / sz * sz + j % sz := by rw [Nat.mul_comm]; exact (Nat.div_add_mod j sz).symm
    have hq : j / sz < len := by rw [Nat.div_lt_iff_lt_mul hpos]; exact hj
    have hr : j % sz < sz := Nat.mod_lt _ hpos
    rw [hd, hat len (Nat.le_refl _) _ _ hq hr] at hv
    have h1 := (cells_some (hcx _ hq).1).2 _ v hv
    show W.cell? ⟨b, o + j, none⟩ = some v
    have e : (Addr.add (Addr.add ⟨b, o, none⟩ (j / sz * sz)) (j % sz)) = ⟨b, o + j, none⟩ := by
     rw [Addr.add_lit, Addr.add_lit]
     congr 1
     omega
    rw [← e]; exact h1
   ·rw [hat len (Nat.le_refl _) i j hi hj] at hv
    rw [htoT] at hc
    exact (hcx i hi).2.1.2 j v c hv hc
theorem Opens.slice {t e : TypeId} {sz : Nat} {A : Type} [Inhabited A] {mk : A → List T} {ok : A → Prop} (toT : A → T) (ht : P.underlying t = some (.slice e)) (hsz : P.cellsOf e = sz) (hpos : 0 < sz) (hmk : ∀ a, (mk a).length = sz)
  (htoT : ∀ a, (toT a).cells = mk a) (he : Opens enc P W e mk ok) : Opens enc P W t (fun x : Nat × (Nat → A) => [.slf false x.1 (fun i => toT (x.2 i))]) (fun x => x.1 ≤ maxLen ∧ ∀ i, i < x.1 → ok (x.2 i)) :=
 fun n cs y h => Opens.sliceN toT ht hsz hpos hmk htoT (fun n' _ => he n') n (Nat.le_refl n) cs y h
theorem st_field {t : TypeId} {fuel : Nat} {cs : List Value} {x : DataW H × List MemPlace} (h : DataW.trod enc P W 0 (fun _ => true) true fuel t cs = some x) {i : Nat} {u : TypeId} {o s : Nat} (hf : fieldAt P t i = some (u, o, s)) :
  cs.length = P.cellsOf t ∧ ∃ n y, DataW.trod enc P W 0 (fun _ => true) true n u ((cs.drop o).take s) = some y := by
 unfold fieldAt at hf
 split at hf
 ·rename_i fs ht
  simp only [Option.map_eq_some_iff] at hf
  obtain ⟨f, hf, he⟩ := hf
  cases he
  obtain ⟨xs, n, _, _, hl, hlen, hx⟩ := DataW.trod_struct ht h
  refine ⟨hl, n, ?_⟩
  have hi : i < xs.length := by rw [hlen]; exact (Array.getElem?_eq_some_iff.1 hf).1
  exact ⟨xs[i], by rw [hx i f hf, List.getElem?_eq_getElem hi]⟩
 ·cases hf
theorem st_fieldN {t : TypeId} {fuel : Nat} {cs : List Value} {x : DataW H × List MemPlace} (h : DataW.trod enc P W 0 (fun _ => true) true fuel t cs = some x) {i : Nat} {u : TypeId} {o s : Nat} (hf : fieldAt P t i = some (u, o, s)) :
  cs.length = P.cellsOf t ∧ ∃ n y, n < fuel ∧ DataW.trod enc P W 0 (fun _ => true) true n u ((cs.drop o).take s) = some y := by
 unfold fieldAt at hf
 split at hf
 ·rename_i fs ht
  simp only [Option.map_eq_some_iff] at hf
  obtain ⟨f, hf, he⟩ := hf
  cases he
  obtain ⟨xs, n, hn, _, hl, hlen, hx⟩ := DataW.trod_struct ht h
  have hi : i < xs.length := by rw [hlen]; exact (Array.getElem?_eq_some_iff.1 hf).1
  exact ⟨hl, n, xs[i], by omega, by rw [hx i f hf, List.getElem?_eq_getElem hi]⟩
 ·cases hf
theorem Opens.field {t u : TypeId} {A : Type} {mk : A → List T} {ok : A → Prop} (hu : Opens enc P W u mk ok) {fuel : Nat} {cs : List Value} {x : DataW H × List MemPlace} (h : DataW.trod enc P W 0 (fun _ => true) true fuel t cs = some x) {i o s : Nat} (hf : fieldAt P t i = some (u, o, s)) :
  ∃ a : A, RdIL (G.start W) ((cs.drop o).take s) (mk a) ∧ ok a := by
 obtain ⟨_, n, y, hy⟩ := st_field h hf
 exact hu _ _ _ hy
theorem RdIL.cut {g : G} {cs : List Value} {o s : Nat} {ts us : List T} (h : RdIL g ((cs.drop o).take s) ts) (k : RdIL g (cs.drop (o + s)) us) : RdIL g (cs.drop o) (ts ++ us) := by
 have := h.append k
 rwa [← List.drop_drop, List.take_append_drop] at this
theorem RdIL.end_ {g : G} {cs : List Value} {o : Nat} (h : cs.length = o) : RdIL g (cs.drop o) [] := by
 rw [List.drop_eq_nil_of_le (by omega)]; exact RdIL.nil
theorem rd_struct {t : TypeId} {v : Value} {r : Reach} {base : Nat} {fs : Array Field} (ht : P.underlying t = some (.struct fs)) (hval : Value.okWide P W r base t v) : ∃ cs : Array Value, v = .agg cs ∧ v.cells.toList = cs.toList := by
 unfold Value.okWide at hval
 rw [ht] at hval
 obtain ⟨cs, rfl, _⟩ := hval
 exact ⟨cs, rfl, rfl⟩
theorem rd_agg {g : G} {cs : Array Value} {ts : List T} (h : RdIL g cs.toList ts) : Rd g (.agg cs) (.agg ts) := by
 have := (RdI.agg (g := g) ts cs.toList h.1 h.2).rd
 simpa using this
end
end Go.Ps

/- The data of the layer balance a_s trees: stamps, lines, certificates. -/
namespace Go.Ps
structure Sp where
 entry : Int
 n : Nat
 at_ : Nat → Int
structure Ln where
 st : Sp
 mass : Int
 k : Nat
 from_ : Nat → Sp
 fate : Int
 closed : Int
 node : List UInt8
structure Ct where
 entries : Int
 accepted : Int
 delivered : Int
 waiting : Int
 letters : Int
 discarded : Int
 n : Nat
 line : Nat → Ln
def spT (s : Sp) : T := .agg [.int .i64 s.entry, .slf false s.n (fun i => .int .i64 (s.at_ i))]
def lnT (x : Ln) : T := .agg [.int .i64 x.st.entry, .slf false x.st.n (fun i => .int .i64 (x.st.at_ i)), .int .i64 x.mass, .slf false x.k (fun i => spT (x.from_ i)), .int .i64 x.fate, .int .i64 x.closed, .str x.node]
def ctT (c : Ct) : T := .agg [.int .i64 c.entries, .int .i64 c.accepted, .int .i64 c.delivered, .int .i64 c.waiting, .int .i64 c.letters, .int .i64 c.discarded, .slf false c.n (fun i => lnT (c.line i))]
def slN : T → Nat
 | .slf _ n _ => n
 | _ => 0
def slF : T → Nat → T
 | .slf _ _ f => f
 | _ => fun _ => undefT
def strv : T → List UInt8
 | .str s => s
 | _ => []
def spv : T → Sp
 | .agg [e, p] => ⟨intv e, slN p, fun i => intv (slF p i)⟩
 | _ => ⟨0, 0, fun _ => 0⟩
def lnv : T → Ln
 | .agg [e, p, m, fs, fa, cl, nd] => ⟨⟨intv e, slN p, fun i => intv (slF p i)⟩, intv m, slN fs, fun i => spv (slF fs i), intv fa, intv cl, strv nd⟩
 | _ => ⟨⟨0, 0, fun _ => 0⟩, 0, 0, fun _ => ⟨0, 0, fun _ => 0⟩, 0, 0, []⟩
def ctv : T → Ct
 | .agg [a, b, c, d, e, f, l] => ⟨intv a, intv b, intv c, intv d, intv e, intv f, slN l, fun i => lnv (slF l i)⟩
 | _ => ⟨0, 0, 0, 0, 0, 0, 0, fun _ => lnv undefT⟩
noncomputable def isV (t u : T) : Bool := @decide (t = u) (Classical.propDecidable _)
theorem isV_iff {t u : T} : isV t u = true ↔ t = u := by unfold isV; simp
@[simp] theorem isV_self (t : T) : isV t t = true := isV_iff.2 rfl
@[simp] theorem spv_spT (s : Sp) : spv (spT s) = s := rfl
@[simp] theorem lnv_lnT (x : Ln) : lnv (lnT x) = x := rfl
@[simp] theorem ctv_ctT (c : Ct) : ctv (ctT c) = c := rfl
end Go.Ps

/- The data of the layers value and expr a_s trees: a value and an expression with the trees of their parts, and which trees are values and expressions. -/
namespace Go.Ps
structure Vl where
 kind : Int
 int : Int
 scale : Int
 text : List UInt8
 n : Nat
 list : Nat → T
 m : Nat
 fld : Nat → T
structure Fd where
 name : List UInt8
 val : Vl
structure Ex where
 op : Int
 int : Int
 text : List UInt8
 nv : Nat
 val : Nat → T
 na : Nat
 arg : Nat → T
def vlC (v : Vl) : List T := [.int .i64 v.kind, .int .i64 v.int, .int .i64 v.scale, .str v.text, .slf false v.n v.list, .slf false v.m v.fld]
def vlT (v : Vl) : T := .agg (vlC v)
def fdT (f : Fd) : T := .agg [.str f.name, .int .i64 f.val.kind, .int .i64 f.val.int, .int .i64 f.val.scale, .str f.val.text, .slf false f.val.n f.val.list, .slf false f.val.m f.val.fld]
def exT (e : Ex) : T := .agg [.int .i64 e.op, .int .i64 e.int, .str e.text, .slf false e.nv e.val, .slf false e.na e.arg]
def vlv : T → Vl
 | .agg [k, i, s, t, l, f] => ⟨intv k, intv i, intv s, strv t, slN l, slF l, slN f, slF f⟩
 | _ => ⟨0, 0, 0, [], 0, fun _ => undefT, 0, fun _ => undefT⟩
def fdv : T → Fd
 | .agg [a, k, i, s, t, l, f] => ⟨strv a, ⟨intv k, intv i, intv s, strv t, slN l, slF l, slN f, slF f⟩⟩
 | _ => ⟨[], ⟨0, 0, 0, [], 0, fun _ => undefT, 0, fun _ => undefT⟩⟩
def exv : T → Ex
 | .agg [o, i, t, v, a] => ⟨intv o, intv i, strv t, slN v, slF v, slN a, slF a⟩
 | _ => ⟨0, 0, [], 0, fun _ => undefT, 0, fun _ => undefT⟩
@[simp] theorem vlv_vlT (v : Vl) : vlv (vlT v) = v := rfl
@[simp] theorem fdv_fdT (f : Fd) : fdv (fdT f) = f := rfl
@[simp] theorem exv_exT (e : Ex) : exv (exT e) = e := rfl
inductive WfV : T → Prop
 | mk (v : Vl) (hl : ∀ i, i < v.n → WfV (v.list i)) (hf : ∀ i, i < v.m → v.fld i = fdT (fdv (v.fld i))) (hw : ∀ i, i < v.m → WfV (vlT (fdv (v.fld i)).val)) : WfV (vlT v)
inductive WfE : T → Prop
 | mk (e : Ex) (hv : ∀ i, i < e.nv → WfV (e.val i)) (ha : ∀ i, i < e.na → WfE (e.arg i)) : WfE (exT e)
theorem WfV.list {v : Vl} (h : WfV (vlT v)) {i : Nat} (hi : i < v.n) : WfV (v.list i) := by
 generalize ht : vlT v = t at h
 cases h with
 | mk v' hl hf hw =>
  have e : v = v' := by rw [← vlv_vlT v, ht, vlv_vlT]
  subst e; exact hl i hi
theorem WfV.fld {v : Vl} (h : WfV (vlT v)) {i : Nat} (hi : i < v.m) : v.fld i = fdT (fdv (v.fld i)) ∧ WfV (vlT (fdv (v.fld i)).val) := by
 generalize ht : vlT v = t at h
 cases h with
 | mk v' hl hf hw =>
  have e : v = v' := by rw [← vlv_vlT v, ht, vlv_vlT]
  subst e; exact ⟨hf i hi, hw i hi⟩
theorem WfE.val {e : Ex} (h : WfE (exT e)) {i : Nat} (hi : i < e.nv) : WfV (e.val i) := by
 generalize ht : exT e = t at h
 cases h with
 | mk e' hv ha =>
  have q : e = e' := by rw [← exv_exT e, ht, exv_exT]
  subst q; exact hv i hi
theorem WfE.arg {e : Ex} (h : WfE (exT e)) {i : Nat} (hi : i < e.na) : WfE (e.arg i) := by
 generalize ht : exT e = t at h
 cases h with
 | mk e' hv ha =>
  have q : e = e' := by rw [← exv_exT e, ht, exv_exT]
  subst q; exact ha i hi
end Go.Ps

/- From what comes in to trees: values and expressions, whatever their depth. -/
namespace Go.Ps
section
variable {H : Type} {enc : TypeId × Value → H} {P : Program} {W : World}
instance : Inhabited Vl := ⟨⟨0, 0, 0, [], 0, fun _ => undefT, 0, fun _ => undefT⟩⟩
instance : Inhabited Fd := ⟨⟨[], default⟩⟩
instance : Inhabited Ex := ⟨⟨0, 0, [], 0, fun _ => undefT, 0, fun _ => undefT⟩⟩
structure VlTy (P : Program) (tV tI tS tLV tF tLF : TypeId) : Prop where
 i : P.underlying tI = some (.int .i64)
 s : P.underlying tS = some .string
 lv : P.underlying tLV = some (.slice tV)
 lf : P.underlying tLF = some (.slice tF)
 cV : P.cellsOf tV = 6
 cF : P.cellsOf tF = 7
 v0 : fieldAt P tV 0 = some (tI, 0, 1)
 v1 : fieldAt P tV 1 = some (tI, 1, 1)
 v2 : fieldAt P tV 2 = some (tI, 2, 1)
 v3 : fieldAt P tV 3 = some (tS, 3, 1)
 v4 : fieldAt P tV 4 = some (tLV, 4, 1)
 v5 : fieldAt P tV 5 = some (tLF, 5, 1)
 f0 : fieldAt P tF 0 = some (tS, 0, 1)
 f1 : fieldAt P tF 1 = some (tV, 1, 6)
theorem openV {tV tI tS tLV tF tLF : TypeId} (h : VlTy P tV tI tS tLV tF tLF) : ∀ (n : Nat) (cs : List Value) (y : DataW H × List MemPlace), DataW.trod enc P W 0 (fun _ => true) true n tV cs = some y → ∃ v : Vl, RdIL (G.start W) cs (vlC v) ∧ WfV (vlT v) := by
 intro n
 induction n using Nat.strongRecOn with
 | ind n ih =>
  intro cs y hy
  have hI : Opens enc P W tI (fun n : Int => [T.int .i64 n]) (fun n => IntKind.i64.has n) := Opens.int h.i
  have hS : Opens enc P W tS (fun s : List UInt8 => [T.str s]) (fun s => s.length ≤ maxLen) := Opens.str h.s
  obtain ⟨a0, h0, _⟩ := hI.field hy h.v0
  obtain ⟨a1, h1, _⟩ := hI.field hy h.v1
  obtain ⟨a2, h2, _⟩ := hI.field hy h.v2
  obtain ⟨a3, h3, _⟩ := hS.field hy h.v3
  obtain ⟨hl, n4, y4, hn4, e4⟩ := st_fieldN hy h.v4
  obtain ⟨_, n5, y5, hn5, e5⟩ := st_fieldN hy h.v5
  obtain ⟨x4, h4, _, k4⟩ := Opens.sliceN (N := n4) (A := Vl) (mk := vlC) (ok := fun v => WfV (vlT v)) vlT h.lv h.cV (by decide) (fun _ => rfl) (fun _ => rfl)
   (fun n' hn' cs y hy => ih n' (by omega) cs y hy) n4 (Nat.le_refl _) _ _ e4
  obtain ⟨x5, h5, _, k5⟩ := Opens.sliceN (N := n5) (A := Fd) (mk := fun f => (fdT f).cells) (ok := fun f => WfV (vlT f.val)) fdT h.lf h.cF (by decide) (fun _ => rfl) (fun _ => rfl)
   (fun n' hn' cs y hy => by
    obtain ⟨b0, g0, _⟩ := hS.field hy h.f0
    obtain ⟨hlf, m1, y1, hm1, e1⟩ := st_fieldN hy h.f1
    obtain ⟨v, g1, w⟩ := ih m1 (by omega) _ _ e1
    exact ⟨⟨b0, v⟩, by have := g0.cut (g1.cut (RdIL.end_ (hlf.trans h.cF))); rw [List.drop_zero] at this; exact this, w⟩) n5 (Nat.le_refl _) _ _ e5
  refine ⟨⟨a0, a1, a2, a3, x4.1, fun i => vlT (x4.2 i), x5.1, fun i => fdT (x5.2 i)⟩, ?_, ?_⟩
  ·have := h0.cut (h1.cut (h2.cut (h3.cut (h4.cut (h5.cut (RdIL.end_ (hl.trans h.cV))))))); rw [List.drop_zero] at this; exact this
  ·exact .mk _ k4 (fun i _ => rfl) k5
structure ExTy (P : Program) (tE tI tS tLV tLE : TypeId) : Prop where
 le : P.underlying tLE = some (.slice tE)
 cE : P.cellsOf tE = 5
 e0 : fieldAt P tE 0 = some (tI, 0, 1)
 e1 : fieldAt P tE 1 = some (tI, 1, 1)
 e2 : fieldAt P tE 2 = some (tS, 2, 1)
 e3 : fieldAt P tE 3 = some (tLV, 3, 1)
 e4 : fieldAt P tE 4 = some (tLE, 4, 1)
theorem openE {tV tI tS tLV tF tLF tE tLE : TypeId} (h : VlTy P tV tI tS tLV tF tLF) (k : ExTy P tE tI tS tLV tLE) : ∀ (n : Nat) (cs : List Value) (y : DataW H × List MemPlace), DataW.trod enc P W 0 (fun _ => true) true n tE cs = some y → ∃ e : Ex, RdIL (G.start W) cs (exT e).cells ∧ WfE (exT e) := by
 intro n
 induction n using Nat.strongRecOn with
 | ind n ih =>
  intro cs y hy
  have hI : Opens enc P W tI (fun n : Int => [T.int .i64 n]) (fun n => IntKind.i64.has n) := Opens.int h.i
  have hS : Opens enc P W tS (fun s : List UInt8 => [T.str s]) (fun s => s.length ≤ maxLen) := Opens.str h.s
  obtain ⟨a0, h0, _⟩ := hI.field hy k.e0
  obtain ⟨a1, h1, _⟩ := hI.field hy k.e1
  obtain ⟨a2, h2, _⟩ := hS.field hy k.e2
  obtain ⟨hl, n3, y3, hn3, e3⟩ := st_fieldN hy k.e3
  obtain ⟨_, n4, y4, hn4, e4⟩ := st_fieldN hy k.e4
  obtain ⟨x3, h3, _, k3⟩ := Opens.sliceN (N := n3) (A := Vl) (mk := vlC) (ok := fun v => WfV (vlT v)) vlT h.lv h.cV (by decide) (fun _ => rfl) (fun _ => rfl)
   (fun n' _ cs y hy => openV h n' cs y hy) n3 (Nat.le_refl _) _ _ e3
  obtain ⟨x4, h4, _, k4⟩ := Opens.sliceN (N := n4) (A := Ex) (mk := fun e => (exT e).cells) (ok := fun e => WfE (exT e)) exT k.le k.cE (by decide) (fun _ => rfl) (fun _ => rfl)
   (fun n' hn' cs y hy => ih n' (by omega) cs y hy) n4 (Nat.le_refl _) _ _ e4
  refine ⟨⟨a0, a1, a2, x3.1, fun i => vlT (x3.2 i), x4.1, fun i => exT (x4.2 i)⟩, ?_, ?_⟩
  ·have := h0.cut (h1.cut (h2.cut (h3.cut (h4.cut (RdIL.end_ (hl.trans k.cE)))))); rw [List.drop_zero] at this; exact this
  ·exact .mk _ k3 k4
end
end Go.Ps
