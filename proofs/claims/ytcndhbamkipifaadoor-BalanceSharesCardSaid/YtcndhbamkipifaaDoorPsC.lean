/- Each operation that changes no object: what it yields in the model reads as what the evaluator says. -/
import Derived.Test.YtcndhbamkipifaaDoorPsB
namespace Go.Ps

/-- A function with a body, and no name that the model treats apart. -/
def okFn (P : Program) (f : FuncId) : Bool :=
  match P.funcs[f]? with
  | some fn => fn.body.isSome && !(fn.name == "runtime.NumGoroutine")
  | none => false

def T.refLen : T → Nat
  | .ref x _ => x.cells.length
  | _ => 0

/-- A package's variable: a block that is written no more, of just these cells. -/
def GlAt (g : G) (k : Nat) (t : T) : Prop := Rd g (.pointer (some ⟨k, 0, none⟩)) t ∧ g.S k ∧ ∃ cs e fz, g.w.heap[k]? = some (.cells cs e fz) ∧ cs.size = t.refLen

def GlOk (gl : Nat → Option T) (g : G) : Prop := ∀ k t, gl k = some t → GlAt g k t

/-- The contracts of an environment hold. -/
def PeOk (P : Program) (gl : Nat → Option T) (pe : Hp → FuncId → List T → Option T) : Prop :=
  ∀ H f ts r, pe H f ts = some r → okFn P f = true ∧ ∀ (g : G) (vs : List Value), Gok g → St g H → GlOk gl g → RdL g vs ts →
    Calls P f vs.toArray g.w fun e w' => ∃ v g', e = .returned v ∧ g'.w = w' ∧ PStep g g' ∧ Gok g' ∧ Rd g' v r

theorem GlOk.pstep {gl : Nat → Option T} {g g' : G} (h : PStep g g') (hg : GlOk gl g) : GlOk gl g' := fun k t ht => by
  obtain ⟨h1, h2, cs, e, fz, h3, h4⟩ := hg k t ht
  exact ⟨h1.pstep h, h.sub k h2, cs, e, fz, by rw [h.block k (Array.getElem?_eq_some_iff.1 h3).1]; exact h3, h4⟩

/-- The operation yields a value that reads as t, whatever comes behind. -/
def POk (P : Program) (o : Oper) (a : Act) (g : G) (t : T) : Prop :=
  ∀ (K : Act → World → Prop) (Q : Exit → Act → World → Prop), (∀ v g', PStep g g' → Gok g' → Rd g' v t → K (a.put o.dst v) g'.w) → o.wp P a g.w K Q

theorem pok_val {P : Program} {o : Oper} {a : Act} {g : G} {t : T} {v : Value} (hg : Gok g) (hr : (execOp a.eval o).run P g.w = .ok (.value v) g.w) (h : Rd g v t) : POk P o a g t := by
  intro K Q hK
  unfold Oper.wp
  rw [hr]
  exact hK v g (PStep.refl g) hg h

/-- A new block that is written no more. -/
def G.add (g : G) (o : Obj) : G := { g with w := { g.w with heap := g.w.heap.push o }, S := fun b => g.S b ∨ b = g.w.heap.size }

theorem G.add_step (g : G) (o : Obj) : PStep g (g.add o) :=
  ⟨rfl, rfl, rfl, by simp [G.add], fun b hb => by simp only [G.add]; rw [Array.getElem?_push, if_neg (by omega)], fun _ h => .inl h, fun b h => h.elim .inl (fun e => .inr (by omega)), rfl, rfl, rfl⟩
theorem G.add_ok {g : G} (h : Gok g) (o : Obj) : Gok (g.add o) := by
  intro b hb
  simp only [G.add, Array.size_push]
  rcases hb with hb | hb
  · have := h b hb; omega
  · omega
theorem G.add_cell (g : G) (cs : Array Value) (e : TypeId) (j : Nat) : (g.add (.cells cs e)).w.cell? ⟨g.w.heap.size, j, none⟩ = cs[j]? := by
  have h : (g.add (.cells cs e)).w.heap[g.w.heap.size]? = some (.cells cs e (0, 0)) := by simp only [G.add]; exact Array.getElem?_push_size
  simp [World.cell?, h]

theorem pok_alloc {P : Program} {o : Oper} {a : Act} {g : G} {t : T} {v : Value} {ob : Obj} (hg : Gok g)
    (hr : (execOp a.eval o).run P g.w = .ok (.value v) (g.add ob).w) (h : Rd (g.add ob) v t) : POk P o a g t := by
  intro K Q hK
  unfold Oper.wp
  rw [hr]
  exact hK v _ (g.add_step ob) (g.add_ok hg ob) h

theorem run_loadCellsFrom (P : Program) (w : World) (b o : Nat) : ∀ (n i : Nat) (acc : Array Value) (vs : List Value), vs.length = n →
    (∀ j v, vs[j]? = some v → w.cell? ⟨b, o + (i + j), none⟩ = some v) → (loadCellsFrom ⟨b, o, none⟩ i n acc).run P w = .ok (acc ++ vs.toArray) w
  | 0, i, acc, vs, hl, _ => by
    have : vs = [] := List.eq_nil_of_length_eq_zero hl
    subst this
    simp [loadCellsFrom]
  | n + 1, i, acc, v :: vs, hl, hc => by
    have h0 := hc 0 v rfl
    have ih := run_loadCellsFrom P w b o n (i + 1) (acc.push v) vs (by simpa using hl) (fun j u hu => by
      have := hc (j + 1) u (by simpa using hu)
      rw [show o + (i + 1 + j) = o + (i + (j + 1)) by omega]
      exact this)
    simp only [loadCellsFrom, Sem.run_bind, Addr.add_lit, run_load]
    simp only [Nat.add_zero] at h0
    simp [h0, ih]

theorem run_loadCells (P : Program) (w : World) (b o n : Nat) (vs : List Value) (hl : vs.length = n) (hc : ∀ j v, vs[j]? = some v → w.cell? ⟨b, o + j, none⟩ = some v) :
    (loadCells ⟨b, o, none⟩ n).run P w = .ok vs.toArray w := by
  have := run_loadCellsFrom P w b o n 0 #[] vs hl (fun j v hv => by simpa using hc j v hv)
  simpa [loadCells] using this

theorem cellsAt_ok {g : G} {H : Hp} (hs : St g H) {p : T} {v : Value} {cs : List T} {off : Nat} (h : cellsAt H p = some (cs, off)) (hr : Rd g v p) :
    ∃ (b o : Nat) (vs : List Value), v = .pointer (some ⟨b, o + off, none⟩) ∧ RdL g vs cs ∧ ∀ j u, vs[j]? = some u → g.w.cell? ⟨b, o + j, none⟩ = some u := by
  cases hr <;> simp only [cellsAt] at h <;> try cases h
  case ref b o vs hS hl hc hx => exact ⟨b, o, vs, rfl, ⟨hl, hx⟩, hc⟩
  case ptr l off' hl =>
    split at h
    · rename_i ob hob
      cases h
      obtain ⟨_, _, c, hb, h1, _, _, h4⟩ := hs.own l ob hob
      refine ⟨g.loc l, 0, c.toList.take ob.cells.length, by simp, h4, fun j u hu => ?_⟩
      rw [List.getElem?_take] at hu
      split at hu
      · simp [World.cell?, hb] at hu ⊢; exact hu
      · cases hu
    · cases h

theorem part_ok {P : Program} {g : G} {t : TypeId} {cs : List T} {off : Nat} {r : T} (h : partT P t cs off = some r) {vs : List Value} (hv : RdL g vs cs) :
    ∃ u, (part t vs.toArray off).run P g.w = .ok u g.w ∧ Rd g u r := by
  unfold partT aggT szT at h
  unfold part isAgg sizeOf typeInfo
  cases hu : P.underlying t with
  | none => simp [hu] at h
  | some d =>
    have scalar : (cs[off]? = some r) → ∃ u, (match vs.toArray[off]? with | some v => (pure v : Sem Value) | none => stuck "part: no such cell").run P g.w = .ok u g.w ∧ Rd g u r := by
      intro hc
      obtain ⟨u, hu', hr⟩ := hv.at_ hc
      exact ⟨u, by simp [hu'], hr⟩
    have aggr : (match Option.map (fun x => x.size) (P.info? t) with | some n => if off + n ≤ cs.length then some (T.agg (List.take n (List.drop off cs))) else none | none => none) = some r →
        ∃ i, P.info? t = some i ∧ off + i.size ≤ cs.length ∧ r = .agg ((cs.drop off).take i.size) := by
      intro hh
      cases hi : P.info? t with
      | none => simp [hi] at hh
      | some i => simp [hi] at hh; exact ⟨i, rfl, hh.1, hh.2.symm⟩
    have close : ∀ i, P.info? t = some i → off + i.size ≤ cs.length → r = .agg ((cs.drop off).take i.size) → Rd g (.agg (vs.toArray.extract off (off + i.size))) r := by
      intro i _ hle hr
      subst hr
      have e : vs.toArray.extract off (off + i.size) = ((vs.drop off).take i.size).toArray := by
        simp [List.extract_eq_take_drop]
      rw [e]
      exact Rd.mk_agg ((hv.drop off).take i.size)
    cases d <;> simp only [hu] at h <;> simp only [Sem.run_bind, run_underlying hu, Result.andThen_ok, Sem.run_pure, Bool.false_eq_true, if_false, if_true] <;>
      first
        | exact scalar h
        | (obtain ⟨i, hi, hle, hr⟩ := aggr h; exact ⟨_, by simp [hi], close i hi hle hr⟩)

theorem load_ok {P : Program} {g : G} {H : Hp} (hs : St g H) {t : TypeId} {p r : T} {v : Value} (h : loadT P H t p = some r) (hr : Rd g v p) :
    ∃ u, (Instr.loadAt t v).run P g.w = .ok u g.w ∧ Rd g u r := by
  unfold loadT at h
  split at h
  · rename_i cs off hc
    obtain ⟨b, o, vs, rfl, hv, hcell⟩ := cellsAt_ok hs hc hr
    unfold partT aggT szT at h
    unfold Instr.loadAt Instr.sureAddr loadVar isAgg sizeOf typeInfo
    cases hu : P.underlying t with
    | none => simp [hu] at h
    | some d =>
      have scalar : (cs[off]? = some r) → ∃ u, (load ⟨b, o + off, none⟩).run P g.w = .ok u g.w ∧ Rd g u r := by
        intro hc
        obtain ⟨u, hu', hr⟩ := hv.at_ hc
        exact ⟨u, by simp [hcell off u hu'], hr⟩
      have aggr : (match Option.map (fun x => x.size) (P.info? t) with | some n => if off + n ≤ cs.length then some (T.agg (List.take n (List.drop off cs))) else none | none => none) = some r →
          ∃ i, P.info? t = some i ∧ off + i.size ≤ cs.length ∧ r = .agg ((cs.drop off).take i.size) := by
        intro hh
        cases hi : P.info? t with
        | none => simp [hi] at hh
        | some i => simp [hi] at hh; exact ⟨i, rfl, hh.1, hh.2.symm⟩
      have close : ∀ i, P.info? t = some i → off + i.size ≤ cs.length → r = .agg ((cs.drop off).take i.size) →
          (loadCells ⟨b, o + off, none⟩ i.size).run P g.w = .ok ((vs.drop off).take i.size).toArray g.w ∧ Rd g (.agg ((vs.drop off).take i.size).toArray) r := by
        intro i _ hle hr
        subst hr
        refine ⟨run_loadCells P g.w b (o + off) i.size _ (by have := hv.1; simp; omega) (fun j u hu' => ?_), Rd.mk_agg ((hv.drop off).take i.size)⟩
        rw [List.getElem?_take] at hu'
        split at hu'
        · rw [List.getElem?_drop] at hu'
          rw [Nat.add_assoc]
          exact hcell _ u hu'
        · cases hu'
      cases d <;> simp only [hu] at h <;> simp only [Sem.run_bind, run_underlying hu, Result.andThen_ok, Sem.run_pure, Bool.false_eq_true, if_false, if_true] <;>
        first
          | exact scalar h
          | (obtain ⟨i, hi, hle, hr⟩ := aggr h; obtain ⟨h1, h2⟩ := close i hi hle hr; exact ⟨_, by simp [hi, h1], h2⟩)
  · cases h

end Go.Ps
