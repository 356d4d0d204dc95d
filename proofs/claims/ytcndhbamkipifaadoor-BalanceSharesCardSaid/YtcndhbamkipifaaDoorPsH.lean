/- Operations that change objects of the abstract heap. -/
import Derived.Test.YtcndhbamkipifaaDoorPsF
import Derived.Test.YtcndhbamkipifaaDoorPsG
import Derived.Laws.CopyRow
import Derived.Laws.MakeOwn
import Derived.Laws.AppendOwn
import Derived.Deep.AppendSrc
namespace Go.Ps

/-- A step: what there was and is no object is as it was; the objects behind it lie where objects lay, or in new blocks. -/
structure SStep (H : Hp) (g : G) (H' : Hp) (g' : G) : Prop where
  os : g'.w.os = g.w.os
  tape : g'.w.tape = g.w.tape
  output : g'.w.output = g.w.output
  size : g.w.heap.size ≤ g'.w.heap.size
  block : ∀ b, b < g.w.heap.size → (∀ l o, H.get l = some o → g.loc l ≠ b) → g'.w.heap[b]? = g.w.heap[b]?
  sub : ∀ b, g.S b → g'.S b
  fresh : ∀ b, g'.S b → g.S b ∨ g.w.heap.size ≤ b ∨ ∃ l o, H.get l = some o ∧ g.loc l = b
  al : ∀ l, g.al l → g'.al l
  loc : ∀ l, g.al l → g'.loc l = g.loc l
  cp : ∀ l, g.al l → g'.cp l = g.cp l
  live : ∀ l o, H'.get l = some o → (∃ l0 o0, H.get l0 = some o0 ∧ g.loc l0 = g'.loc l) ∨ g.w.heap.size ≤ g'.loc l

theorem PStep.toS {g g' : G} {H : Hp} (h : PStep g g') : SStep H g H g' :=
  ⟨h.os, h.tape, h.output, h.size, fun b hb _ => h.block b hb, h.sub, fun b hb => (h.fresh b hb).imp id .inl, fun l hl => h.al ▸ hl, fun l _ => by rw [h.loc], fun l _ => by rw [h.cp], fun l o ho => .inl ⟨l, o, ho, by rw [h.loc]⟩⟩

theorem SStep.refl (H : Hp) (g : G) : SStep H g H g := (PStep.refl g).toS

theorem St.lt {g : G} {H : Hp} (hs : St g H) {l : Nat} {o : Ob} (h : H.get l = some o) : g.loc l < g.w.heap.size := by
  obtain ⟨_, _, cs, hb, _⟩ := hs.own l o h
  exact (Array.getElem?_eq_some_iff.1 hb).1

theorem SStep.trans {H H' H'' : Hp} {a b c : G} (h : SStep H a H' b) (k : SStep H' b H'' c) : SStep H a H'' c := by
  have away : ∀ i, i < a.w.heap.size → (∀ l o, H.get l = some o → a.loc l ≠ i) → ∀ l o, H'.get l = some o → b.loc l ≠ i := by
    intro i hi hn l o ho e
    rcases h.live l o ho with ⟨l0, o0, h0, e0⟩ | hge
    · exact hn l0 o0 h0 (e0.trans e)
    · omega
  refine ⟨k.os.trans h.os, k.tape.trans h.tape, k.output.trans h.output, Nat.le_trans h.size k.size, fun i hi hn => ?_, fun i hi => k.sub i (h.sub i hi), fun i hi => ?_,
    fun l hl => k.al l (h.al l hl), fun l hl => (k.loc l (h.al l hl)).trans (h.loc l hl), fun l hl => (k.cp l (h.al l hl)).trans (h.cp l hl), fun l o ho => ?_⟩
  · rw [k.block i (Nat.lt_of_lt_of_le hi h.size) (away i hi hn), h.block i hi hn]
  · rcases k.fresh i hi with hi | hi | ⟨l, o, ho, e⟩
    · exact h.fresh i hi
    · exact .inr (.inl (Nat.le_trans h.size hi))
    · rcases h.live l o ho with ⟨l0, o0, h0, e0⟩ | hge
      · exact .inr (.inr ⟨l0, o0, h0, e0.trans e⟩)
      · exact .inr (.inl (by omega))
  · rcases k.live l o ho with ⟨l0, o0, h0, e0⟩ | hge
    · rcases h.live l0 o0 h0 with ⟨l1, o1, h1, e1⟩ | hge
      · exact .inl ⟨l1, o1, h1, e1.trans e0⟩
      · exact .inr (by omega)
    · exact .inr (Nat.le_trans h.size hge)

theorem SStep.cell {H H' : Hp} {g g' : G} (hs : St g H) (h : SStep H g H' g') {b o : Nat} {v : Value} (hS : g.S b) (hc : g.w.cell? ⟨b, o, none⟩ = some v) : g'.w.cell? ⟨b, o, none⟩ = some v :=
  (World.cell?_of_block (w := g.w) (a := ⟨b, o, none⟩) (h.block b (lt_of_cell hc) (fun l ob hl e => (hs.own l ob hl).2.1 (e ▸ hS)))).trans hc

theorem Rd.sstep {H H' : Hp} {g g' : G} (hs : St g H) (h : SStep H g H' g') {v : Value} {t : T} (hr : Rd g v t) : Rd g' v t := by
  induction hr with
  | int k n => exact .int k n
  | bool b => exact .bool b
  | str s => exact .str s
  | nilp => exact .nilp
  | ptr l off hl => rw [← h.loc l hl]; exact .ptr l off (h.al l hl)
  | ref x off b o vs hS hlen hc _ ih => exact .ref x off b o vs (h.sub b hS) hlen (fun j v hv => h.cell hs hS (hc j v hv)) ih
  | nils => exact .nils
  | slfn full f => exact .slfn full f
  | sl full xs sz b o cap vs hS hsz h1 h2 h3 hlen hc _ ih =>
    refine .sl full xs sz b o cap vs (fun hx => h.sub b (hS hx)) hsz h1 h2 h3 hlen (fun j v hv => ?_) ih
    have hx : xs ≠ [] := by
      rintro rfl
      simp at hlen
      subst hlen
      simp at hv
    exact h.cell hs (hS hx) (hc j v hv)
  | slf full n f sz b o cap vs h1 h2 h3 h4 h5 h6 h7 h8 => exact Rd.slf_keep h.sub (fun _ _ _ hS hc => h.cell hs hS hc) h1 h2 h3 h4 h5 h6 h7 h8
  | osl l sz i len b o cap hl h1 h2 h3 h4 => exact .osl l sz i len b o cap (h.al l hl) h1 (h.cp l hl ▸ h2) (fun q => h.loc l hl ▸ h3 q) (fun q => h.cp l hl ▸ h4 q)
  | nilf => exact .nilf
  | fn f first captured vs us h1 _ h2 _ ih1 ih2 => exact .fn f first captured vs us h1 ih1 h2 ih2
  | nili => exact .nili
  | iface t v x _ ih => exact .iface t v x ih
  | nilm => exact .nilm
  | agg cs vs h1 _ ih => exact .agg cs vs h1 ih
  | tup cs vs h1 _ ih => exact .tup cs vs h1 ih

theorem RdL.sstep {H H' : Hp} {g g' : G} (hs : St g H) (h : SStep H g H' g') {vs : List Value} {ts : List T} (hr : RdL g vs ts) : RdL g' vs ts := ⟨hr.1, fun j v c hv hc => (hr.2 j v c hv hc).sstep hs h⟩
theorem GlOk.sstep {gl : Nat → Option T} {H H' : Hp} {g g' : G} (hs : St g H) (h : SStep H g H' g') (hg : GlOk gl g) : GlOk gl g' := fun k t ht => by
  obtain ⟨h1, h2, cs, e, fz, h3, h4⟩ := hg k t ht
  refine ⟨h1.sstep hs h, h.sub k h2, cs, e, fz, ?_, h4⟩
  rw [h.block k (Array.getElem?_eq_some_iff.1 h3).1 (fun l o ho e => (hs.own l o ho).2.1 (e ▸ h2))]; exact h3

/-! ### The abstract heap's own laws -/
theorem findOb_new (H : Hp) (o : Ob) (l : Nat) : (H.new o).get l = if H.next = l then some o else H.get l := by simp [Hp.new, Hp.get, findOb]
theorem findOb_set (L : List (Nat × Ob)) (l : Nat) (o : Ob) (m : Nat) : findOb (setOb L l o) m = if m = l ∧ (findOb L l).isSome then some o else findOb L m := by
  induction L with
  | nil => simp [setOb, findOb]
  | cons p L ih =>
    obtain ⟨k, q⟩ := p
    simp only [setOb, findOb]
    by_cases hk : k = l
    · subst hk
      simp only [if_true, findOb]
      by_cases hm : k = m
      · subst hm; simp
      · simp [hm, Ne.symm hm]
    · simp only [if_neg hk, findOb, ih]
      by_cases hm : k = m
      · subst hm; simp [hk]
      · simp [hm]
theorem get_put (H : Hp) (l : Nat) (o : Ob) (m : Nat) (h : (H.get l).isSome = true) : (H.put l o).get m = if m = l then some o else H.get m := by
  simp only [Hp.put, Hp.get, findOb_set]
  simp only [Hp.get] at h
  simp [h]
theorem findOb_drop (L : List (Nat × Ob)) (l m : Nat) : findOb (dropOb L l) m = if m = l then none else findOb L m := by
  induction L with
  | nil => simp [dropOb, findOb]
  | cons p L ih =>
    obtain ⟨k, q⟩ := p
    simp only [dropOb]
    by_cases hk : k = l
    · subst hk
      simp only [if_true, ih, findOb]
      by_cases hm : k = m
      · subst hm; simp
      · simp [hm]
    · simp only [if_neg hk, findOb, ih]
      by_cases hm : k = m
      · subst hm; simp [hk]
      · simp [hm]
theorem get_drop (H : Hp) (l m : Nat) : (H.drop l).get m = if m = l then none else H.get m := by simp [Hp.drop, Hp.get, findOb_drop]

/-- A new object in a new block. -/
def G.own (g : G) (l : Nat) (ob : Obj) (c : Nat) : G :=
  { w := { g.w with heap := g.w.heap.push ob }, S := g.S, al := fun m => g.al m ∨ m = l, loc := fun m => if m = l then g.w.heap.size else g.loc m, cp := fun m => if m = l then c else g.cp m }

theorem own_step {g : G} {H : Hp} (hs : St g H) (ob : Obj) (c : Nat) (o : Ob) : SStep H g (H.new o) (g.own H.next ob c) := by
  have hn := hs.new H.next (Nat.le_refl _)
  have hne : ∀ l, g.al l → l ≠ H.next := fun l hl e => hn (e ▸ hl)
  refine ⟨rfl, rfl, rfl, by simp [G.own], fun b hb _ => by simp only [G.own]; rw [Array.getElem?_push, if_neg (by omega)], fun _ h => h, fun b h => .inl h, fun l hl => .inl hl,
    fun l hl => by simp [G.own, hne l hl], fun l hl => by simp [G.own, hne l hl], fun l o' ho => ?_⟩
  rw [findOb_new] at ho
  split at ho
  · rename_i e; subst e; right; simp [G.own]
  · rename_i e; left; exact ⟨l, o', ho, by simp [G.own, Ne.symm e]⟩

theorem own_ok {g : G} (h : Gok g) (l : Nat) (ob : Obj) (c : Nat) : Gok (g.own l ob c) := by
  intro b hb
  have := h b hb
  simp only [G.own, Array.size_push]; omega

theorem own_st {g : G} {H : Hp} (hs : St g H) (hg : Gok g) {cs : Array Value} {c : Nat} {o : Ob} (h1 : o.cells.length ≤ cs.size) (h2 : o.sz = 0 → cs.size = o.cells.length)
    (h3 : o.sz ≠ 0 → cs.size = c * o.sz ∧ c ≤ maxLen) (h4 : RdL g (cs.toList.take o.cells.length) o.cells) : St (g.own H.next (.cells cs o.elem) c) (H.new o) := by
  have hst := own_step hs (.cells cs o.elem) c o
  have hn := hs.new H.next (Nat.le_refl _)
  refine ⟨fun l o' ho => ?_, fun l l' o1 o2 h1 h2 e => ?_, fun l hl => ?_⟩
  · rw [findOb_new] at ho
    split at ho
    · rename_i e
      subst e
      cases ho
      refine ⟨.inr rfl, fun hS => ?_, cs, ?_, h1, h2, ?_, h4.sstep hs hst⟩
      · simp only [G.own, if_true] at hS
        have := hg _ hS; omega
      · simp only [G.own, if_true]; exact Array.getElem?_push_size
      · simpa [G.own] using h3
    · rename_i e
      obtain ⟨ha, hS, cs', hb, q1, q2, q3, q4⟩ := hs.own l o' ho
      have hloc : (g.own H.next (.cells cs o.elem) c).loc l = g.loc l := hst.loc l ha
      have hlt := hs.lt ho
      refine ⟨.inl ha, ?_, cs', ?_, q1, q2, ?_, q4.sstep hs hst⟩
      · rw [hloc]; exact hS
      · rw [hloc]; simp only [G.own]; rw [Array.getElem?_push, if_neg (by omega)]; exact hb
      · rw [hst.cp l ha]; exact q3
  · rw [findOb_new] at h1 h2
    have hsz : ∀ l o, H.get l = some o → (g.own H.next (.cells cs o.elem) c).loc l = g.loc l ∧ g.loc l < g.w.heap.size := fun l o ho => ⟨(own_step hs (.cells cs o.elem) c o).loc l (hs.own l o ho).1, hs.lt ho⟩
    split at h1
    · rename_i e1
      split at h2
      · rename_i e2; rw [← e1, ← e2]
      · rename_i e2
        have := hsz l' o2 h2
        simp only [G.own] at e this
        rw [if_pos e1.symm, if_neg (Ne.symm e2)] at e
        omega
    · rename_i e1
      split at h2
      · rename_i e2
        have := hsz l o1 h1
        simp only [G.own] at e this
        rw [if_pos e2.symm, if_neg (Ne.symm e1)] at e
        omega
      · rename_i e2
        simp only [G.own] at e
        rw [if_neg (Ne.symm e1), if_neg (Ne.symm e2)] at e
        exact hs.sep l l' o1 o2 h1 h2 e
  · simp only [Hp.new] at hl
    simp only [G.own]
    rintro (ha | ha)
    · exact hs.new l (by omega) ha
    · omega

theorem own_rd {g : G} (l : Nat) (ob : Obj) (c : Nat) : Rd (g.own l ob c) (.pointer (some ⟨g.w.heap.size, 0, none⟩)) (.ptr l 0) := by
  have h := Rd.ptr (g := g.own l ob c) l 0 (.inr rfl)
  simpa [G.own] using h

/-- An object's cells written anew. -/
def G.setRow (g : G) (b : Nat) (cs : Array Value) : G := { g with w := g.w.setRow b cs }

theorem set_step {g : G} {H : Hp} {l : Nat} {o : Ob} (ho : H.get l = some o) (cs : Array Value) (o' : Ob) : SStep H g (H.put l o') (g.setRow (g.loc l) cs) := by
  refine ⟨rfl, rfl, rfl, by simp [G.setRow, World.setRow], fun b _ hn => setRow_other _ _ _ _ (fun e => hn l o ho e.symm), fun _ h => h, fun b h => .inl h, fun _ h => h, fun _ _ => rfl, fun _ _ => rfl, fun m q hq => ?_⟩
  rw [get_put H l o' m (by simp [ho])] at hq
  left
  split at hq
  · rename_i e; subst e; exact ⟨m, o, ho, rfl⟩
  · exact ⟨m, q, hq, rfl⟩

theorem set_st {g : G} {H : Hp} (hs : St g H) {l : Nat} {o : Ob} (ho : H.get l = some o) {cs old : Array Value} (hold : g.w.heap[g.loc l]? = some (.cells old o.elem (0, 0))) (hsz : cs.size = old.size) {cells : List T} (hlen : cells.length = o.cells.length)
    (h4 : RdL g (cs.toList.take cells.length) cells) : St (g.setRow (g.loc l) cs) (H.put l { o with cells := cells }) := by
  have hst := set_step (g := g) ho cs { o with cells := cells }
  refine ⟨fun m q hq => ?_, fun m m' q q' h1 h2 e => ?_, fun m hm => hs.new m hm⟩
  · rw [get_put H l _ m (by simp [ho])] at hq
    split at hq
    · rename_i e
      subst e
      cases hq
      obtain ⟨ha, hS, c0, hb, q1, q2, q3, q4⟩ := hs.own m o ho
      rw [hold] at hb
      cases hb
      refine ⟨ha, hS, cs, setRow_heap _ _ _ _ _ _ hold, by simp only; omega, fun z => by simp only at z ⊢; rw [hsz, hlen]; exact q2 z, fun z => by rw [hsz]; exact q3 z, h4.sstep hs hst⟩
    · rename_i e
      obtain ⟨ha, hS, c0, hb, q1, q2, q3, q4⟩ := hs.own m q hq
      refine ⟨ha, hS, c0, ?_, q1, q2, q3, q4.sstep hs hst⟩
      have : g.loc m ≠ g.loc l := fun e' => e (hs.sep m l q o hq ho e')
      show (g.w.setRow (g.loc l) cs).heap[g.loc m]? = _
      rw [setRow_other _ _ _ _ this]; exact hb
  · have hex : ∀ m q, (H.put l { o with cells := cells }).get m = some q → ∃ q0, H.get m = some q0 := fun m q hq => by
      rw [get_put H l _ m (by simp [ho])] at hq
      split at hq
      · rename_i e; subst e; exact ⟨o, ho⟩
      · exact ⟨q, hq⟩
    obtain ⟨q0, hq0⟩ := hex m q h1
    obtain ⟨q1, hq1⟩ := hex m' q' h2
    exact hs.sep m m' q0 q1 hq0 hq1 e

theorem allOne_spec : ∀ {ts : List T}, allOne ts = true → ∀ t ∈ ts, t.one = true
  | [], _, t, h => by cases h
  | x :: xs, h, t, ht => by
    simp only [allOne, Bool.and_eq_true] at h
    rcases List.mem_cons.1 ht with rfl | ht
    · exact h.1
    · exact allOne_spec h.2 t ht

theorem one_of {g : G} {vs : List Value} {ts : List T} (h : RdL g vs ts) (ho : allOne ts = true) : ∀ v ∈ vs, v.oneCell' = true := by
  intro v hv
  obtain ⟨j, hj, e⟩ := List.getElem_of_mem hv
  have hvj : vs[j]? = some v := by rw [List.getElem?_eq_getElem hj, e]
  have htj : ts[j]? = some (ts[j]'(by rw [← h.1]; exact hj)) := List.getElem?_eq_getElem _
  exact (h.2 j v _ hvj htj).oneCell (allOne_spec ho _ (List.mem_of_getElem? htj))

theorem store_ok {P : Program} {g : G} {H H' : Hp} (hs : St g H) {t : TypeId} {p x : T} (h : storeT P H t p x = some H') {u v : Value} (hu : Rd g u p) (hv : Rd g v x) :
    ∃ g', (Instr.storeAt t u v).run P g.w = .ok () g'.w ∧ SStep H g H' g' ∧ St g' H' ∧ (Gok g → Gok g') := by
  unfold storeT at h
  split at h
  · rename_i l off
    split at h
    · rename_i o n ho hn
      split at h
      · rename_i hc
        cases h
        obtain ⟨h1, h2, h3⟩ := hc
        simp only [szT, Option.map_eq_some_iff] at hn
        obtain ⟨i, hi, rfl⟩ := hn
        cases hu
        obtain ⟨ha, hS, cs, hb, q1, q2, q3, q4⟩ := hs.own l o ho
        have hvc := hv.cells
        have hlen : v.cells.toList.length = i.size := by rw [hvc.1, h1]
        have hsz : v.cells.size = i.size := by simpa using hlen
        have hst := run_storeCells_at (P := P) (g.loc l) off o.elem v.cells.toList 0 cs g.w hb (by simp only [Array.length_toList] at hlen ⊢; omega) (one_of hvc h3)
        refine ⟨g.setRow (g.loc l) (cs.toList.take (off + 0) ++ v.cells.toList ++ cs.toList.drop (off + 0 + v.cells.toList.length)).toArray, ?_, set_step ho _ _, ?_, fun hg b hb => by simpa [G.setRow, World.setRow] using hg b hb⟩
        · simp [Instr.storeAt, Instr.sureAddr, storeVar, sizeOf, typeInfo, hi, hsz, hst, G.setRow]
        · have hspl : (spliceT o.cells off x.cells).length = o.cells.length := by simp [spliceT]; omega
          refine set_st hs ho hb (by simp; omega) hspl ?_
          rw [hspl]
          have key : (cs.toList.take (off + 0) ++ v.cells.toList ++ cs.toList.drop (off + 0 + v.cells.toList.length)).take o.cells.length
              = (cs.toList.take o.cells.length).take off ++ v.cells.toList ++ (cs.toList.take o.cells.length).drop (off + x.cells.length) := by
            rw [Nat.add_zero, List.take_append, List.take_append]
            have e1 : (cs.toList.take off).length = off := by simp; omega
            rw [List.take_of_length_le (l := cs.toList.take off) (by rw [e1]; omega), List.take_of_length_le (l := v.cells.toList) (by rw [e1, hlen]; omega)]
            rw [List.take_take, show min off o.cells.length = off by omega]
            congr 1
            rw [List.drop_take, List.length_append, e1, hlen, h1]
          show RdL g (List.take o.cells.length (cs.toList.take (off + 0) ++ v.cells.toList ++ cs.toList.drop (off + 0 + v.cells.toList.length)).toArray.toList) _
          rw [List.toList_toArray, key]
          unfold spliceT
          exact ((q4.take off).append hvc).append (q4.drop _)
      · cases h
    · cases h
  · cases h
end Go.Ps
