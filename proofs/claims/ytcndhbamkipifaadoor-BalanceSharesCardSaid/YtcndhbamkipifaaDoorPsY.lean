/- From a contract over trees to a run out of any world: nothing that was there is written. -/
import Derived.Test.YtcndhbamkipifaaDoorPsX
import Derived.Lib.LaidTab
namespace Go.Ps

/-- The ghost in which a call from outside begins: whatever there is is written no more. -/
def G.start (W : World) : G := { w := W, S := fun b => b < W.heap.size, al := fun _ => False, loc := fun _ => 0, cp := fun _ => 0 }

theorem start_ok (W : World) : Gok (G.start W) := fun _ h => h

/-- A table among the package's variables. -/
theorem gl_of_tab {P : Program} {W : World} {name : String} {k : Nat} {ik : IntKind} {zs : List Int} (hn : P.globalNamed name = some k) (h : Lib.TabIs P W name ik zs) : GlAt (G.start W) k (.ref (.agg (zs.map (T.int ik))) 0) := by
  unfold Lib.TabIs World.var? at h
  rw [hn, Option.bind_some] at h
  split at h
  · rename_i cs e fz hb
    cases h
    have hlt : k < W.heap.size := (Array.getElem?_eq_some_iff.1 hb).1
    refine ⟨?_, hlt, _, e, fz, hb, by simp [T.refLen, T.cells]⟩
    have key := Rd.ref (g := G.start W) (.agg (zs.map (T.int ik))) 0 k 0 (zs.map fun z => Value.int ik z) hlt (by simp [T.cells]) (fun j v hv => ?_) (fun j v c hv hc => ?_)
    · exact key
    · unfold World.cell?
      show (match W.heap[k]? with | some (.cells c _ _) => if (none : Option _).isSome then none else c[0 + j]? | _ => none) = some v
      rw [hb]
      simpa using hv
    · simp only [T.cells, List.getElem?_map] at hv hc
      cases hz : zs[j]? with
      | none => rw [hz] at hv; simp at hv
      | some z => rw [hz] at hv hc; simp at hv hc; subst hv; subst hc; exact .int ik z
  · cases h

theorem kept_of {g g' : G} (h : PStep g g') (may : MemPlace → Prop) : g.w.keptBut g'.w may := by
  refine ⟨h.os, h.output, fun i hi => ?_⟩
  rw [h.block i hi]
  cases ho : g.w.heap[i]? with
  | none => simp
  | some o => cases o <;> simp

/-- A contract at a start. -/
theorem run_start {P : Program} {gl : Nat → Option T} {f : FuncId} {ts : List T} {r : T} (h : PureFn P gl f ts r) {W : World} (hgl : GlOk gl (G.start W)) {vs : List Value} (hv : RdL (G.start W) vs ts) :
    Calls P f vs.toArray W fun e w' => ∃ v g', e = .returned v ∧ g'.w = w' ∧ PStep (G.start W) g' ∧ Rd g' v r :=
  (h.2 (G.start W) vs (start_ok W) ⟨0, fun _ _ q => q⟩ hgl hv).mono fun _ _ ⟨v, g', e1, e2, e3, _, e5⟩ => ⟨v, g', e1, e2, e3, e5⟩
end Go.Ps
