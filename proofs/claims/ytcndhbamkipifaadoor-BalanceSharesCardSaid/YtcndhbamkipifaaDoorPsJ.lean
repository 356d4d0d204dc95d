/- Regions whose order is the text's. -/
import Derived.Test.YtcndhbamkipifaaDoorPsI
namespace Go.Ps

/-- A frame's slots read as the trees, but for one slot. -/
def RdX (g : G) (a : Act) (fr : List T) (sk : Option Tmp) : Prop :=
  a.tmps.size = fr.length ∧ ∀ (j : Nat) (v : Value) (c : T), sk ≠ some j → a.tmps[j]? = some v → fr[j]? = some c → Rd g v c

theorem RdX.of {g : G} {a : Act} {fr : List T} (h : RdL g a.tmps.toList fr) (sk : Option Tmp) : RdX g a fr sk := ⟨by simpa using h.1, fun j v c _ hv hc => h.2 j v c (by simpa using hv) hc⟩
theorem RdX.all {g : G} {a : Act} {fr : List T} (h : RdX g a fr none) : RdL g a.tmps.toList fr := ⟨by simpa using h.1, fun j v c hv hc => h.2 j v c (by simp) (by simpa using hv) hc⟩

section
variable {g : G} {a : Act} {fr : List T} {sk : Option Tmp}

theorem RdX.get (h : RdX g a fr sk) {t : Tmp} (ht : sk ≠ some t) : Rd g (a.tmps.getD t undef) (getT fr t) := by
  unfold getT
  by_cases hlt : t < fr.length
  · have hlt' : t < a.tmps.size := by rw [h.1]; exact hlt
    have := h.2 t (a.tmps[t]'hlt') (fr[t]'hlt) ht (by simp [hlt']) (by simp [hlt])
    simpa [hlt, hlt'] using this
  · have hlt' : ¬ t < a.tmps.size := by rw [h.1]; exact hlt
    have e1 : a.tmps.getD t undef = undef := by simp [Array.getElem?_eq_none (Nat.le_of_not_lt hlt')]
    have e2 : fr.getD t undefT = undefT := by simp [List.getElem?_eq_none (Nat.le_of_not_lt hlt)]
    rw [e1, e2]
    exact Rd.undef

theorem RdX.eval {gl : Nat → Option T} (h : RdX g a fr sk) (hgl : GlOk gl g) {x : Operand} (hx : ∀ t, x = .tmp t → sk ≠ some t) {r : T} (hr : evalT gl fr x = some r) : Rd g (a.eval x) r := by
  cases x with
  | tmp t => simp only [evalT, Option.some.injEq] at hr; subst hr; exact h.get (hx t rfl)
  | const v => exact rd_ofVal g hr
  | global k => exact (hgl k r hr).1
  | func f => simp only [evalT, Option.some.injEq] at hr; subst hr; exact Rd.mk_fn RdL.nil RdL.nil

theorem RdX.put (h : RdX g a fr sk) {dst : Option Tmp} {v : Value} {t : T} (hv : Rd g v t) : RdX g (a.put dst v) (putT fr dst t) sk := by
  cases dst with
  | none => exact h
  | some d =>
    refine ⟨by simp [Act.put, putT, h.1], fun j u c hj hu hc => ?_⟩
    simp only [Act.put, putT] at hu hc
    rw [Array.getElem?_setIfInBounds] at hu
    rw [List.getElem?_set] at hc
    by_cases hd : d = j
    · rw [if_pos hd] at hu hc
      split at hu
      · split at hc
        · cases hu; cases hc; exact hv
        · cases hc
      · cases hu
    · rw [if_neg hd] at hu hc
      exact h.2 j u c hj hu hc

theorem RdX.step {g' : G} (h : RdX g a fr sk) (hk : ∀ v t, Rd g v t → Rd g' v t) : RdX g' a fr sk := ⟨h.1, fun j v c hj hv hc => hk _ _ (h.2 j v c hj hv hc)⟩
theorem RdX.skip (h : RdX g a fr none) (d : Tmp) : RdX g a fr (some d) := ⟨h.1, fun j v c _ hv hc => h.2 j v c (by simp) hv hc⟩

theorem Rd.of_bool {b : Bool} {t : T} (h : Rd g (.bool b) t) : t = .bool b := by cases h; rfl

theorem yielded_eq {ops : Array Oper} (h : RdX g a fr sk) (j : Nat) (hj : ∀ d, (ops[j]?).bind (·.dst) = some d → sk ≠ some d) : yielded ops a.tmps j = yieldedT ops fr j := by
  unfold yielded yieldedT
  cases hd : (ops[j]?).bind (·.dst) with
  | none => rfl
  | some d =>
    simp only [Option.bind_some]
    have hne := hj d hd
    by_cases hlt : d < fr.length
    · have hlt' : d < a.tmps.size := by rw [h.1]; exact hlt
      have hv : a.tmps[d]? = some a.tmps[d] := by simp [hlt']
      have hc : fr[d]? = some fr[d] := by simp [hlt]
      have := h.2 d _ _ hne hv hc
      rw [hv, hc]
      generalize a.tmps[d] = u at this
      generalize fr[d] = c at this
      cases this <;> rfl
    · have hlt' : ¬ d < a.tmps.size := by rw [h.1]; exact hlt
      rw [Array.getElem?_eq_none (Nat.le_of_not_lt hlt'), List.getElem?_eq_none (Nat.le_of_not_lt hlt)]

theorem mem_looksAt_op {ops : Array Oper} {o : Oper} {t : Tmp} (h : (Operand.tmp t) ∈ o.op.operands) : t ∈ o.looksAt ops := by
  unfold Oper.looksAt
  refine List.mem_append.2 (.inl ?_)
  exact List.mem_filterMap.2 ⟨.tmp t, by simpa using h, rfl⟩

theorem mem_looksAt_guard {ops : Array Oper} {o : Oper} {j : Nat} {w : Bool} (hg : o.guard = some (j, w)) {d : Tmp} (hd : (ops[j]?).bind (·.dst) = some d) : d ∈ o.looksAt ops := by
  unfold Oper.looksAt
  refine List.mem_append.2 (.inr ?_)
  rw [hg]
  simp [hd]

theorem wanted_eq {ops : Array Oper} (h : RdX g a fr sk) {o : Oper} (hl : ∀ d ∈ o.looksAt ops, sk ≠ some d) : Region.wanted o (yielded ops a.tmps) = wantedT ops fr o := by
  unfold Region.wanted wantedT
  cases hg : o.guard with
  | none => rfl
  | some p =>
    obtain ⟨j, w⟩ := p
    simp only
    rw [yielded_eq h j (fun d hd => hl d (mem_looksAt_guard hg hd))]
end

/-- The pending variable: a block of its own, made since the region began. -/
def Pend (P : Program) (g0 g : G) (H : Hp) (a : Act) (d : Tmp) (t : TypeId) : Prop :=
  ∃ (b : Nat) (cs : Array Value), a.tmps[d]? = some (.pointer (some ⟨b, 0, none⟩)) ∧ g0.w.heap.size ≤ b ∧ ¬ g.S b ∧ (∀ l o, H.get l = some o → g.loc l ≠ b) ∧ g.w.heap[b]? = some (.cells cs t (0, 0)) ∧ szT P t = some cs.size

structure Inv (P : Program) (E : Env) (g0 : G) (H0 : Hp) (g : G) (a : Act) (s : Fx) : Prop where
  ok : Gok g
  st : St g s.H
  gl : GlOk E.gl g
  df : a.defers = []
  fr : RdX g a s.fr (s.pend.map (·.1))
  pd : ∀ d t, s.pend = some (d, t) → Pend P g0 g s.H a d t
  step : SStep H0 g0 s.H g

theorem Pend.pstep {P : Program} {g0 g g' : G} {H : Hp} {a : Act} {d : Tmp} {t : TypeId} (h : Pend P g0 g H a d t) (hp : PStep g g') : Pend P g0 g' H a d t := by
  obtain ⟨b, cs, h1, h2, h3, h4, h5, h6⟩ := h
  have hlt : b < g.w.heap.size := (Array.getElem?_eq_some_iff.1 h5).1
  exact ⟨b, cs, h1, h2, fun q => (hp.fresh b q).elim h3 (fun q => by omega), fun l o ho => by rw [hp.loc]; exact h4 l o ho, by rw [hp.block b hlt]; exact h5, h6⟩

theorem Pend.sstep {P : Program} {g0 g g' : G} {H H' : Hp} {a : Act} {d : Tmp} {t : TypeId} (h : Pend P g0 g H a d t) (hp : SStep H g H' g') : Pend P g0 g' H' a d t := by
  obtain ⟨b, cs, h1, h2, h3, h4, h5, h6⟩ := h
  have hlt : b < g.w.heap.size := (Array.getElem?_eq_some_iff.1 h5).1
  refine ⟨b, cs, h1, h2, fun q => ?_, fun l o ho e => ?_, by rw [hp.block b hlt h4]; exact h5, h6⟩
  · rcases hp.fresh b q with q | q | ⟨l, o, q1, q2⟩
    · exact h3 q
    · omega
    · exact h4 l o q1 q2
  · rcases hp.live l o ho with ⟨l0, o0, q1, q2⟩ | q
    · exact h4 l0 o0 q1 (q2.trans e)
    · omega

theorem Pend.put {P : Program} {g0 g : G} {H : Hp} {a : Act} {d : Tmp} {t : TypeId} (h : Pend P g0 g H a d t) {dst : Option Tmp} (hd : dst ≠ some d) (v : Value) : Pend P g0 g H (a.put dst v) d t := by
  obtain ⟨b, cs, h1, h2⟩ := h
  refine ⟨b, cs, ?_, h2⟩
  cases dst with
  | none => exact h1
  | some e =>
    have : e ≠ d := fun q => hd (by rw [q])
    simp only [Act.put, Array.getElem?_setIfInBounds_ne this]; exact h1

theorem put_defers (a : Act) (d : Option Tmp) (v : Value) : (a.put d v).defers = a.defers := by cases d <;> rfl

section
variable {P : Program} {E : Env} {F : Fc} {g0 g : G} {H0 : Hp} {a : Act} {s : Fx}

/-- A step of plain kind, the pending slot not touched. -/
theorem Inv.pnext (h : Inv P E g0 H0 g a s) {g' : G} (hp : PStep g g') (hok : Gok g') {dst : Option Tmp} {v : Value} {t : T} (hv : Rd g' v t) (hd : ∀ d, s.pend.map (·.1) = some d → dst ≠ some d) :
    Inv P E g0 H0 g' (a.put dst v) { s with fr := putT s.fr dst t } :=
  ⟨hok, h.st.pstep hp, h.gl.pstep hp, by rw [put_defers]; exact h.df, (h.fr.step fun _ _ q => q.pstep hp).put hv, fun d ty hpd => ((h.pd d ty hpd).pstep hp).put (hd d (by rw [hpd]; rfl)) v, h.step.trans hp.toS⟩

theorem Inv.enext (h : Inv P E g0 H0 g a s) {g' : G} {H' : Hp} (hp : SStep s.H g H' g') (hok : Gok g') (hst : St g' H') {dst : Option Tmp} {v : Value} {t : T} (hv : Rd g' v t) (hd : ∀ d, s.pend.map (·.1) = some d → dst ≠ some d) :
    Inv P E g0 H0 g' (a.put dst v) { s with fr := putT s.fr dst t, H := H' } :=
  ⟨hok, hst, h.gl.sstep h.st hp, by rw [put_defers]; exact h.df, (h.fr.step fun _ _ q => q.sstep h.st hp).put hv, fun d ty hpd => ((h.pd d ty hpd).sstep hp).put (hd d (by rw [hpd]; rfl)) v, h.step.trans hp⟩

theorem touch_spec {ops : Array Oper} {o : Oper} {d : Tmp} (h : touchesT ops o d = false) : d ∉ o.looksAt ops ∧ o.dst ≠ some d := by
  simp only [touchesT, Bool.or_eq_false_iff] at h
  exact ⟨by simpa using h.1, by simpa using h.2⟩

/-- A new variable that is pending. -/
theorem alloc_pend (h : Inv P E g0 H0 g a s) (hpn : s.pend = none) {o : Oper} {t : TypeId} {d : Tmp} {n : Nat} {z : T} (ho : o.op = .alloc t) (hdst : o.dst = some d) (hn : szT P t = some n) (hz : zeroT P t = some z) (hzl : z.cells.length = n) (hd : d < s.fr.length)
    {K : Act → World → Prop} {Q : Exit → Act → World → Prop} (hK : ∀ a' g', PStep g g' → Inv P E g0 H0 g' a' { s with fr := s.fr.set d undefT, pend := some (d, t) } → K a' g'.w) : o.wp P a g.w K Q := by
  obtain ⟨v, hv, hr⟩ := zero_ok (g := g) hz
  let g' : G := { g with w := { g.w with heap := g.w.heap.push (.cells v.cells t) } }
  have hp : PStep g g' := ⟨rfl, rfl, rfl, by simp [g'], fun b hb => by simp only [g']; rw [Array.getElem?_push, if_neg (by omega)], fun _ q => q, fun _ q => .inl q, rfl, rfl, rfl⟩
  have hok : Gok g' := fun b hb => by have := h.ok b hb; simp only [g', Array.size_push]; omega
  have hrun : (execOp a.eval o).run P g.w = .ok (.value (.pointer (some ⟨g.w.heap.size, 0, none⟩))) g'.w := by
    simp only [execOp, ho, Instr.alloc, Sem.run_bind, hv, Result.andThen_ok, newVar, newRow, run_newObj, Sem.run_pure]; rfl
  unfold Oper.wp
  rw [hrun]
  show K (a.put o.dst (.pointer (some ⟨g.w.heap.size, 0, none⟩))) g'.w
  have hfr : RdX g a s.fr none := by have := h.fr; rw [hpn] at this; exact this
  have hsz : a.tmps.size = s.fr.length := hfr.1
  refine hK _ g' hp ⟨hok, h.st.pstep hp, h.gl.pstep hp, by rw [put_defers]; exact h.df, ?_, fun d' t' hpd => ?_, h.step.trans hp.toS⟩
  · refine ⟨by simp [hdst, Act.put, hsz], fun j u c hj hu hc => ?_⟩
    have hne : d ≠ j := fun q => hj (by simp [q])
    simp only [hdst, Act.put, Array.getElem?_setIfInBounds_ne hne] at hu
    simp only [List.getElem?_set_ne hne] at hc
    exact (hfr.2 j u c (by simp) hu hc).pstep hp
  · simp only [Option.some.injEq, Prod.mk.injEq] at hpd
    obtain ⟨rfl, rfl⟩ := hpd
    have hc := hr.cells
    refine ⟨g.w.heap.size, v.cells, ?_, h.step.size, fun q => ?_, fun l ob hl => ?_, ?_, ?_⟩
    · simp only [hdst, Act.put]; rw [Array.getElem?_setIfInBounds_self, if_pos (by rw [hsz]; exact hd)]
    · exact absurd (h.ok _ q) (by omega)
    · have := h.st.lt hl; show g.loc l ≠ _; omega
    · simp only [g']; exact Array.getElem?_push_size
    · rw [hn, ← hzl, ← hc.1]; simp

/-- The store that gives a pending variable its value: it is written no more. -/
theorem store_pend (h : Inv P E g0 H0 g a s) {o : Oper} {t : TypeId} {d : Tmp} {x : Operand} {y : T} {n : Nat} (hpn : s.pend = some (d, t)) (ho : o.op = .store t (.tmp d) x) (hdst : o.dst = none) (hx : notSlot x d = true) (hy : evalT E.gl s.fr x = some y) (hn : szT P t = some n) (hyl : y.cells.length = n) (h1 : allOne y.cells = true)
    {K : Act → World → Prop} {Q : Exit → Act → World → Prop} (hK : ∀ a' g', Inv P E g0 H0 g' a' { s with fr := s.fr.set d (.ref y 0), pend := none } → K a' g'.w) : o.wp P a g.w K Q := by
  obtain ⟨b, cs, p1, p2, p3, p4, p5, p6⟩ := h.pd d t hpn
  have hfr : RdX g a s.fr (some d) := by have := h.fr; rw [hpn] at this; exact this
  have hr : Rd g (a.eval x) y := hfr.eval h.gl (fun k e => by subst e; simp only [notSlot, bne_iff_ne] at hx; intro q; cases q; exact hx rfl) hy
  have hc := hr.cells
  rw [hn] at p6
  have hcs : cs.size = n := by simpa using p6.symm
  have hvs : (a.eval x).cells.size = n := by rw [← hyl, ← hc.1]; simp
  have hlt : b < g.w.heap.size := (Array.getElem?_eq_some_iff.1 p5).1
  have hst := run_storeCells_at (P := P) b 0 t (a.eval x).cells.toList 0 cs g.w p5 (by simp; omega) (one_of hc h1)
  have hall : (cs.toList.take (0 + 0) ++ (a.eval x).cells.toList ++ cs.toList.drop (0 + 0 + (a.eval x).cells.toList.length)).toArray = (a.eval x).cells := by
    have : cs.toList.drop (0 + 0 + (a.eval x).cells.toList.length) = [] := List.drop_of_length_le (by simp; omega)
    rw [this]; simp
  rw [hall] at hst
  let g' : G := { g with w := g.w.setRow b (a.eval x).cells, S := fun k => g.S k ∨ k = b }
  have hblk : ∀ k, k ≠ b → g'.w.heap[k]? = g.w.heap[k]? := fun k hk => setRow_other _ _ _ _ hk
  have hbb : g'.w.heap[b]? = some (.cells (a.eval x).cells t (0, 0)) := setRow_heap _ _ _ _ _ _ p5
  have hcell : ∀ k o v, g.S k → g.w.cell? ⟨k, o, none⟩ = some v → g'.w.cell? ⟨k, o, none⟩ = some v := fun k o v hk hv =>
    (World.cell?_of_block (w := g.w) (a := ⟨k, o, none⟩) (hblk k (fun e => p3 (e ▸ hk)))).trans hv
  have keep : ∀ v t, Rd g v t → Rd g' v t := by
    intro v t hv
    induction hv with
    | int k n => exact .int k n
    | bool b => exact .bool b
    | str s => exact .str s
    | nilp => exact .nilp
    | ptr l off hl => exact .ptr (g := g') l off hl
    | ref x off b o vs hS hlen hc _ ih => exact .ref x off b o vs (.inl hS) hlen (fun j v hv => hcell _ _ _ hS (hc j v hv)) ih
    | nils => exact .nils
    | slfn full f => exact .slfn full f
    | sl full xs sz b o cap vs hS hsz q1 q2 q3 hlen hc _ ih =>
      refine .sl full xs sz b o cap vs (fun hx => .inl (hS hx)) hsz q1 q2 q3 hlen (fun j v hv => ?_) ih
      have hx : xs ≠ [] := by
        rintro rfl
        simp at hlen
        subst hlen
        simp at hv
      exact hcell _ _ _ (hS hx) (hc j v hv)
    | slf full n f sz b o cap vs h1 h2 h3 h4 h5 h6 h7 h8 => exact Rd.slf_keep (g := g) (g' := g') (fun _ q => Or.inl q) hcell h1 h2 h3 h4 h5 h6 h7 h8
    | osl l sz i len b o cap hl q1 q2 q3 q4 => exact .osl (g := g') l sz i len b o cap hl q1 q2 q3 q4
    | nilf => exact .nilf
    | fn f first captured vs us q1 _ q2 _ ih1 ih2 => exact .fn f first captured vs us q1 ih1 q2 ih2
    | nili => exact .nili
    | iface t v x _ ih => exact .iface t v x ih
    | nilm => exact .nilm
    | agg cs vs q1 _ ih => exact .agg cs vs q1 ih
    | tup cs vs q1 _ ih => exact .tup cs vs q1 ih
  have hpd : a.eval (.tmp d) = .pointer (some ⟨b, 0, none⟩) := by simp [Act.eval, p1]
  obtain ⟨i, hi, hin⟩ : ∃ i, P.info? t = some i ∧ i.size = n := by simpa [szT] using hn
  have hrun : (execOp a.eval o).run P g.w = .ok .skip g'.w := by
    simp [execOp, ho, Instr.storeAt, hpd, Instr.sureAddr, storeVar, sizeOf, typeInfo, hi, hin, hvs, hst, g']
  unfold Oper.wp
  rw [hrun]
  show K (a.put o.dst undef) g'.w
  rw [hdst]
  show K a g'.w
  refine hK a g' ⟨fun k hk => ?_, ⟨fun l ob hl => ?_, fun l l' q q' e1 e2 e3 => h.st.sep l l' q q' e1 e2 e3, fun l hl => h.st.new l hl⟩, fun k r hk => ⟨keep _ _ (h.gl k r hk).1, .inl (h.gl k r hk).2.1, by rw [hblk k (fun e => p3 (e ▸ (h.gl k r hk).2.1))]; exact (h.gl k r hk).2.2⟩, h.df, ?_, fun d' t' q => by simp at q, ?_⟩
  · have : g'.w.heap.size = g.w.heap.size := by simp [g', World.setRow]
    rw [this]
    rcases hk with hk | hk
    · exact h.ok k hk
    · omega
  · obtain ⟨ha, hS, c0, hb, q1, q2, q3, q4⟩ := h.st.own l ob hl
    refine ⟨ha, fun q => q.elim hS (p4 l ob hl), c0, ?_, q1, q2, q3, ⟨q4.1, fun j v c hv hc => keep _ _ (q4.2 j v c hv hc)⟩⟩
    rw [hblk _ (p4 l ob hl)]; exact hb
  · refine ⟨by simp [hfr.1], fun j v c _ hv hcc => ?_⟩
    rw [List.getElem?_set] at hcc
    by_cases hj : d = j
    · rw [if_pos hj] at hcc
      split at hcc
      · cases hcc
        subst hj
        rw [p1] at hv
        cases hv
        have hc' := (keep _ _ hr).cells
        exact .ref y 0 b 0 (a.eval x).cells.toList (.inr rfl) hc'.1 (fun k u hu => by simp [World.cell?, hbb] at hu ⊢; exact hu) hc'.2
      · cases hcc
    · rw [if_neg hj] at hcc
      exact keep _ _ (hfr.2 j v c (by simpa using hj) hv hcc)
  · have hs := h.step
    refine ⟨hs.os, hs.tape, hs.output, by simp [g', World.setRow]; exact hs.size, fun k hk hno => ?_, fun k hk => .inl (hs.sub k hk), fun k hk => ?_, hs.al, hs.loc, hs.cp, hs.live⟩
    · rw [hblk k (by omega)]; exact hs.block k hk hno
    · rcases hk with hk | hk
      · exact hs.fresh k hk
      · exact .inr (.inl (by omega))

theorem allocOf_spec {o : Oper} {d : Tmp} {t : TypeId} (h : allocOf F o = some (d, t)) : o.op = .alloc t ∧ o.dst = some d := by
  unfold allocOf at h
  split at h
  · rename_i t' ho
    split at h
    · rename_i d' hd
      split at h
      · cases h
      · cases h; exact ⟨ho, hd⟩
    · cases h
  · cases h

/-- ONE OPERATION. -/
theorem stepE_ok (hE : PeOk P E.gl E.pe) (hF : EeOk P E.gl F.ee) {ops : Array Oper} {o : Oper} {s' : Fx} (h : Inv P E g0 H0 g a s) (he : stepE P E F ops s o = some s') {i : Nat} (hi : ops[i]? = some o)
    {K : Act → World → Prop} {Q : Exit → Act → World → Prop} (hK : ∀ a' g', Inv P E g0 H0 g' a' s' → K a' g'.w) : wpOp P ops Q i K a g.w := by
  unfold wpOp
  rw [hi]
  simp only
  -- the plain kind
  have plain : (∀ d, s.pend.map (·.1) = some d → d ∉ o.looksAt ops ∧ o.dst ≠ some d) → plainE P E F ops s o = some s' →
      (if Region.wanted o (yielded ops a.tmps) = true then o.wp P a g.w K Q ∨ o.asks P a g.w ∧ LetsOut Q else K (a.put o.dst undef) g.w) := by
    intro hnt hp
    unfold plainE at hp
    have hsk : ∀ d ∈ o.looksAt ops, s.pend.map (·.1) ≠ some d := fun d hd q => (hnt d q).1 hd
    rw [wanted_eq h.fr hsk]
    have hop : ∀ x ∈ o.op.operands, ∀ t, evalT E.gl s.fr x = some t → Rd g (a.eval x) t := fun x hx t ht =>
      h.fr.eval h.gl (fun k e => by subst e; exact hsk k (mem_looksAt_op hx)) ht
    have hdst : ∀ d, s.pend.map (·.1) = some d → o.dst ≠ some d := fun d q => (hnt d q).2
    by_cases hw : wantedT ops s.fr o = true
    · rw [if_pos hw] at hp ⊢
      left
      split at hp
      · rename_i v hv
        cases hp
        exact evalP_ok hE h.gl h.st h.ok hv hop K Q (fun u g' hst hok hr => hK _ g' (h.pnext hst hok hr hdst))
      · have eff : effT P E F s.H s.fr o = none ∨ ∃ v H', effT P E F s.H s.fr o = some (v, H') := by
          cases effT P E F s.H s.fr o with
          | none => exact .inl rfl
          | some p => exact .inr ⟨p.1, p.2, rfl⟩
        have run : (match effT P E F s.H s.fr o with
            | some (v, H') => some { s with fr := putT s.fr o.dst v, H := H' }
            | none => none) = some s' → o.wp P a g.w K Q := by
          intro hh
          rcases eff with e | ⟨v, H', e⟩
          · rw [e] at hh; cases hh
          · rw [e] at hh
            cases hh
            exact effT_ok hF h.gl h.st h.ok e hop K Q (fun u g' hst hok hs' hr => hK _ g' (h.enext hst hok hs' hr hdst))
        split at hp
        · rename_i d t hal
          obtain ⟨hop', hd'⟩ := allocOf_spec hal
          split at hp
          · cases hp
          · rename_i hpn
            have hpn' : s.pend = none := by simpa using hpn
            split at hp
            · rename_i n z hn hz
              split at hp
              · rename_i hc
                cases hp
                exact alloc_pend h hpn' hop' hd' hn hz hc.1 hc.2 (fun a' g' _ hi' => hK a' g' hi')
              · cases hp
            · cases hp
        · exact run hp
    · rw [if_neg hw] at hp ⊢
      cases hp
      exact hK _ g (h.pnext (PStep.refl g) h.ok Rd.undef hdst)
  unfold stepE at he
  split at he
  · rename_i hpn
    exact plain (fun d q => by rw [hpn] at q; cases q) he
  · rename_i d t hpn
    have free : touchesT ops o d = false → ∀ d', s.pend.map (·.1) = some d' → d' ∉ o.looksAt ops ∧ o.dst ≠ some d' := fun q d' e => by
      rw [hpn] at e
      cases e
      exact touch_spec q
    split at he
    · rename_i t' d' x ho hd hgd
      split at he
      · rename_i e
        subst e
        split at he
        · rename_i hc
          split at he
          · rename_i y n hy hn
            split at he
            · rename_i hcc
              cases he
              obtain ⟨rfl, hx⟩ := hc
              have hw : Region.wanted o (yielded ops a.tmps) = true := by simp [Region.wanted, hgd]
              rw [if_pos hw]
              exact .inl (store_pend h hpn ho hd hx hy hn hcc.1 hcc.2 (fun a' g' hi' => hK a' g' hi'))
            · cases he
          · cases he
        · cases he
      · split at he
        · cases he
        · rename_i ht; exact plain (free (by simpa using ht)) he
    · split at he
      · cases he
      · rename_i ht; exact plain (free (by simpa using ht)) he

/-- OPERATIONS IN THE ORDER OF THE TEXT. -/
theorem seq_ok (hE : PeOk P E.gl E.pe) (hF : EeOk P E.gl F.ee) {ops : Array Oper} {Q : Exit → Act → World → Prop} : ∀ (l : List Oper) (k : Nat) (s s' : Fx) (a : Act) (g : G), (∀ j, l[j]? = ops[k + j]?) → Inv P E g0 H0 g a s → evalSeq P E F ops l s = some s' →
    (∀ a' g', Inv P E g0 H0 g' a' s' → Q .normal a' g'.w) → wpOps P ops Q (List.range' k l.length) a g.w
  | [], k, s, s', a, g, _, h, he, hQ => by
    simp only [evalSeq, Option.some.injEq] at he
    subst he
    exact hQ a g h
  | o :: l, k, s, s', a, g, hl, h, he, hQ => by
    simp only [evalSeq] at he
    split at he
    · rename_i s1 hs1
      have h0 : ops[k]? = some o := by simpa using (hl 0).symm
      rw [List.length_cons, List.range'_succ, wpOps_cons]
      refine stepE_ok hE hF h hs1 h0 (fun a' g' h' => ?_)
      exact seq_ok hE hF l (k + 1) s1 s' a' g' (fun j => by have := hl (j + 1); simpa [Nat.add_assoc, Nat.add_comm 1 j] using this) h' he hQ
    · cases he
end
end Go.Ps
