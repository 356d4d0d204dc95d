/- DeadletterChecks returns true at every input, and its argument reads as it did: the call's contract, and a world that meets the row's conditions. -/
import Derived.Test.YthfdachbgpjafaaGreatDoorCa5
import Derived.Test.YthfdachbgpjafaaGreatDoorCa6
set_option linter.unusedSimpArgs false
set_option linter.unusedVariables false
set_option linter.unusedSectionVars false
namespace Go.Proofs.YthfdachbgpjafaaGreatDoor
open Go.ChangeShapes Go.WideShapes Go.ChangeAt Go.RowKit
set_option maxRecDepth 100000
namespace Checks
theorem glOk {W : World} (h : laidMetH Tryz.prog Rows.deadletterChecksRow.laid W) (hS : W.ShapedOpen Tryz.prog) : ∃ m, Ps.GlOk (Tryz.glZ m 372) (Ps.G.start W) := by
 have h1 : laidMet Tryz.prog Rows.deadletterChecksRow.laid W := h
 exact glOkZ h1 hS
theorem contract (H : Type) (enc : TypeId × Value → H) (W : World) (base : Nat) (args : Array Value) (ds gs : List (DataW H)) (before : List MemPlace)
  (hval : ∀ (j : Nat) t v, Tryz.f3.params[j]? = some t → args[j]? = some v → Value.okWide Tryz.prog W .any base t v)
  (hW : DataW.Whole enc Tryz.prog Tryz.f3.params.toList Rows.deadletterChecksSpec.vars false W args.toList ds gs before) (hL : laidMetH Tryz.prog Rows.deadletterChecksRow.laid W) (hS : W.ShapedOpen Tryz.prog) :
  Calls Tryz.prog 3 args W fun e W' => ∃ v, e = .returned v ∧ Rows.deadletterChecksSpec.post enc Tryz.prog Tryz.f3 false true false false W args v W' := by
 have hW' := hW
 obtain ⟨p, q, hA0, hV, rfl, hfz, hnd⟩ := hW
 have hA : DataW.TrodAll enc Tryz.prog W 0 (fun _ => true) true Tryz.f3.params.toList args.toList ds p := hA0
 have hp : Tryz.f3.params = #[24] := by kernel_rfl
 rw [hp] at hA hval
 obtain ⟨v0, vs0, d0, ds0, p0, q0, hargs, rfl, rfl, h0, r0⟩ := trodAll_cons hA
 obtain ⟨rfl, rfl, rfl⟩ := trodAll_nil r0
 obtain rfl : args = #[v0] := by cases args; simp_all
 obtain ⟨rfl, rfl⟩ := trodVars_none hV
 obtain ⟨t, hc, ok⟩ := openArg (hval 0 24 v0 rfl rfl) h0
 have hlt : ∀ x ∈ p0, x.block < W.heap.size := fun x hx => hW'.lt x (by simpa using hx)
 simp only [List.append_nil] at hW'
 obtain ⟨m, hG⟩ := glOk hL hS
 refine (Ps.run_start (Tryz.law_ok m 372 ok) hG (Ps.RdL.cons hc Ps.RdL.nil)).mono fun e W' ⟨v, g', e1, e2, e3, e4⟩ => ?_
 subst e2
 cases e4
 have again := Below.trod (by kernel_rfl) (by kernel_rfl) (of_decide_eq_true (by kernel_rfl)) h0 (below_of e3) hlt
 refine ⟨_, e1, _, _, _, [], p0 ++ [], [], hW', trodAll_cons_mk (shut_bool Tryz.underlying4 _) trodAll_mk0, trodAll_cons_mk again trodAll_mk0, rfl, Ps.kept_of e3 _, fun h => by cases h⟩
abbrev arg0 : Value := .agg #[.string ⟨#[]⟩, .string ⟨#[]⟩, .int .i64 0, .int .i64 0, .slice none 0 0]
noncomputable def door (os : Os) : World :=
 { World.doorLaid Tryz.prog 77 os with
  heap := (World.doorLaid Tryz.prog 77 os).heap.modify 0 fun o => match o with
   | .cells _ t f => .cells (Go.Pinned.utf8FirstZ.map fun n : Nat => Value.int .u8 (n : Int)).toArray t f
   | o => o }
theorem door_met (os : Os) (args : Array Value) : laidMet Tryz.prog Rows.deadletterChecksRow.laid ((door os).forCall (fun _ _ => 0) ⟨#[], args, []⟩).memory :=
 laidMet_of_run' 8 (by kernel_rfl) (by kernel_rfl)
theorem reads (os : Os) {H : Type} (enc : TypeId × Value → H) : ∃ places, DataW.whole enc Tryz.prog ((door os).forCall (fun _ _ => 0) ⟨#[], #[arg0], []⟩).memory Tryz.f3.params.toList Rows.deadletterChecksSpec.vars false #[arg0].toList 8
  = some ([.agg [.lit (.string []), .lit (.string []), .lit (.int .i64 0), .lit (.int .i64 0), .nil]], [], places) :=
 ⟨[], by kernel_rfl⟩
theorem lifted (os : Os) (started : os.Started) (H : Type) (enc : TypeId × Value → H) (F : Stop.Interp) :
  ReturnsInHanded {} Tryz.checked os 3 .any ((OpenSpec.ofChange Rows.deadletterChecksSpec).preRow enc Tryz.prog Tryz.f3 Rows.deadletterChecksRow.domain false Rows.deadletterChecksRow.laid) (((OpenSpec.ofChange Rows.deadletterChecksSpec).at F).post enc Tryz.prog Tryz.f3 false true false false) := by
 obtain ⟨places, hx⟩ := reads os enc
 refine returnsInHanded_of_row (C := Tryz.checked) (s := OpenSpec.ofChange Rows.deadletterChecksSpec) ownN started (by kernel_rfl) Tryz.func3
  (witness_row_at (enc := enc) (C := Tryz.checked) false (door os) #[arg0] rfl (by kernel_rfl) (by kernel_rfl) (by kernel_rfl)
   (OpenSpec.preRow_of_cond 8 hx (by kernel_rfl) (fun k hk => by cases hk) (by kernel_rfl) (door_met os _))) ?_
 intro W base args ds gs before hval hW _ _ _ hL hS _
 exact contract H enc W base args ds gs before hval hW hL hS
end Checks
end Go.Proofs.YthfdachbgpjafaaGreatDoor
