/- Literals, boxes, calls; and the theorem on every operation that changes no object. -/
import Derived.Test.YtcndhbamkipifaaDoorPsE
namespace Go.Ps

section
variable {P : Program} {g : G}

theorem splice_fold (off : Nat) : ∀ (l : List Value) (k : Nat) (cs : Array Value), off + k + l.length ≤ cs.size →
    ((l.zipIdx k).foldl (fun (cs : Array Value) (p : Value × Nat) => cs.setIfInBounds (off + p.2) p.1) cs).toList = cs.toList.take (off + k) ++ l ++ cs.toList.drop (off + k + l.length)
  | [], k, cs, _ => by simp
  | c :: l, k, cs, h => by
    simp only [List.length_cons] at h
    have hk : off + k < cs.toList.length := by simp; omega
    rw [List.zipIdx_cons, List.foldl_cons, splice_fold off l (k + 1) _ (by simp; omega)]
    simp only [Array.toList_setIfInBounds, List.length_cons]
    rw [show off + (k + 1) = off + k + 1 by omega, show off + k + 1 + l.length = off + k + (l.length + 1) by omega]
    rw [List.drop_set_of_lt (by omega)]
    rw [List.take_set, List.take_succ_eq_append_getElem hk]
    have : ((cs.toList.take (off + k)) ++ [cs.toList[off + k]]).set (off + k) c = cs.toList.take (off + k) ++ [c] := by
      rw [List.set_append]
      have hl : (cs.toList.take (off + k)).length = off + k := by simp at hk ⊢; omega
      rw [if_neg (by omega), hl]
      simp
    rw [this]
    simp

theorem splice_cells (off : Nat) (vc cs : Array Value) (h : off + vc.size ≤ cs.size) :
    (vc.zipIdx.foldl (fun (cs : Array Value) (p : Value × Nat) => cs.setIfInBounds (off + p.2) p.1) cs).toList = cs.toList.take off ++ vc.toList ++ cs.toList.drop (off + vc.size) := by
  have := splice_fold off vc.toList 0 cs (by simpa using h)
  rw [← Array.foldl_toList]
  simpa using this

/-- Parts: the same places, values that read as the trees. -/
def RdP (g : G) : List (Nat × Value) → List (Nat × T) → Prop
  | [], [] => True
  | (i, v) :: vs, (j, t) :: ts => i = j ∧ Rd g v t ∧ RdP g vs ts
  | _, _ => False

theorem fill_ok {place : Nat → Option (Nat × Nat)} : ∀ {ps : List (Nat × T)} {cs cs' : List T}, fillT place cs ps = some cs' → ∀ {qs : List (Nat × Value)} {ca : Array Value}, RdP g qs ps → RdL g ca.toList cs →
    ∃ ca', Instr.fill place ca qs = some ca' ∧ RdL g ca'.toList cs'
  | [], cs, cs', h, qs, ca, hq, hc => by
    simp [fillT] at h; subst h
    cases qs with
    | nil => exact ⟨ca, rfl, hc⟩
    | cons q qs => simp [RdP] at hq
  | (i, t) :: ps, cs, cs', h, [], ca, hq, hc => by simp [RdP] at hq
  | (i, t) :: ps, cs, cs', h, (i', v) :: qs, ca, hq, hc => by
    obtain ⟨rfl, hv, hq⟩ := hq
    simp only [fillT] at h
    split at h
    · cases h
    · rename_i off size hp
      split at h
      · rename_i hcond
        obtain ⟨h1, h2⟩ := hcond
        have hvc := hv.cells
        have e1 : v.cells.size = size := by rw [← h1, ← hvc.1]; simp
        have e2 : ca.size = cs.length := by rw [← hc.1]; simp
        have hle : off + v.cells.size ≤ ca.size := by omega
        have hs := splice_cells off v.cells ca hle
        have hr : RdL g (v.cells.zipIdx.foldl (fun (cs : Array Value) (p : Value × Nat) => cs.setIfInBounds (off + p.2) p.1) ca).toList (spliceT cs off t.cells) := by
          rw [hs]
          unfold spliceT
          rw [h1, ← e1]
          exact ((hc.take off).append hvc).append (hc.drop _)
        obtain ⟨ca', h3, h4⟩ := fill_ok h hq hr
        refine ⟨ca', ?_, h4⟩
        simp only [Instr.fill, hp]
        rw [if_neg (by simp [e1]; omega)]
        exact h3
      · cases h

theorem places_ok : ∀ {fs : List Field} {pl : List (Nat × Nat)}, placesT P fs = some pl → (fs.mapM (fun f => do pure (f.offset, ← sizeOf f.type)) : Sem (List (Nat × Nat))).run P g.w = .ok pl g.w
  | [], pl, h => by simp [placesT] at h; subst h; simp
  | f :: fs, pl, h => by
    simp only [placesT] at h
    split at h
    · rename_i s hs
      split at h
      · rename_i l hl
        cases h
        simp only [szT, Option.map_eq_some_iff] at hs
        obtain ⟨i, hi, rfl⟩ := hs
        have ih := places_ok hl
        simp only [List.mapM_cons, Sem.run_bind, sizeOf, typeInfo, run_program, Result.andThen_ok, hi, Sem.run_pure]
        simp only [sizeOf, typeInfo] at ih
        rw [ih]
        simp
      · cases h
    · cases h

theorem zero_ok {t : TypeId} {z : T} (h : zeroT P t = some z) : ∃ v, (zeroValue t).run P g.w = .ok v g.w ∧ Rd g v z := by
  unfold zeroT at h
  split at h
  · rename_i i hi
    split at h
    · rename_i v hv
      exact ⟨v, by simp [zeroValue, typeInfo, hi, hv], rd_ofVal g h⟩
    · cases h
  · cases h

theorem build_ok {t : TypeId} {ps : List (Nat × T)} {r : T} (h : buildT P t ps = some r) {qs : List (Nat × Value)} (hq : RdP g qs ps) :
    ∃ q, (Instr.build t qs.toArray).run P g.w = .ok q g.w ∧ Rd g q r := by
  unfold buildT at h
  split at h
  · rename_i z hz
    obtain ⟨v, hv, hr⟩ := zero_ok (g := g) hz
    split at h
    · rename_i fs hd
      split at h
      · rename_i pl hpl
        simp only [Option.map_eq_some_iff] at h
        obtain ⟨cs, hcs, rfl⟩ := h
        obtain ⟨ca, h1, h2⟩ := fill_ok hcs hq hr.cells
        have hp := places_ok (g := g) hpl
        refine ⟨.agg ca, ?_, by have := Rd.mk_agg h2; simpa using this⟩
        have hpa : (fs.mapM (fun f => do pure (f.offset, ← sizeOf f.type)) : Sem (Array (Nat × Nat))).run P g.w = .ok pl.toArray g.w := by
          obtain ⟨fl⟩ := fs
          rw [List.mapM_toArray]
          simp only [Sem.run_map]
          simp only at hp
          rw [hp]
          rfl
        have h1' : Instr.fill (fun x => pl.toArray[x]?) v.cells qs = some ca := by simpa using h1
        simp only [Instr.build, Sem.run_bind, hv, Result.andThen_ok, run_underlying hd, hpa, h1', Sem.run_pure]
      · cases h
    · rename_i n e hd
      split at h
      · rename_i s hs
        simp only [Option.map_eq_some_iff] at h
        obtain ⟨cs, hcs, rfl⟩ := h
        simp only [szT, Option.map_eq_some_iff] at hs
        obtain ⟨i, hi, rfl⟩ := hs
        obtain ⟨ca, h1, h2⟩ := fill_ok hcs hq hr.cells
        refine ⟨.agg ca, ?_, by have := Rd.mk_agg h2; simpa using this⟩
        simp only [Instr.build, Sem.run_bind, hv, Result.andThen_ok, run_underlying hd, sizeOf, typeInfo, run_program, hi, Sem.run_pure, h1]
      · cases h
    · cases h
  · cases h

theorem sets_fill {s : Nat} {ag : Bool} : ∀ {ps : List (Nat × T)} {xs xs' : List T}, setsT s ag xs ps = some xs' → (∀ x ∈ xs, x.cells.length = s) →
    fillT (fun i => some (i * s, s)) (xs.flatMap T.cells) ps = some (xs'.flatMap T.cells) ∧ (∀ x ∈ xs', x.cells.length = s) ∧ xs'.length = xs.length
  | [], xs, xs', h, hs => by simp [setsT] at h; subst h; exact ⟨rfl, hs, rfl⟩
  | (i, t) :: ps, xs, xs', h, hs => by
    simp only [setsT] at h
    split at h
    · rename_i hc
      obtain ⟨h1, h2, h3⟩ := hc
      have hs' : ∀ x ∈ xs.set i t, x.cells.length = s := fun x hx => by
        rcases List.mem_or_eq_of_mem_set hx with hx | rfl
        · exact hs x hx
        · exact h1
      obtain ⟨a, b, c⟩ := sets_fill h hs'
      refine ⟨?_, b, by simpa using c⟩
      have hmul : i * s + s ≤ xs.length * s := by rw [← Nat.succ_mul]; exact Nat.mul_le_mul_right _ h3
      simp only [fillT]
      rw [if_pos ⟨h1, by rw [flat_length hs]; exact hmul⟩]
      rw [show spliceT (xs.flatMap T.cells) (i * s) t.cells = (xs.set i t).flatMap T.cells from ?_]
      · exact a
      · unfold spliceT
        rw [List.set_eq_take_append_cons_drop, if_pos h3]
        simp only [List.flatMap_append, List.flatMap_cons, flat_take hs, flat_drop hs, h1, Nat.succ_mul, List.append_assoc]
    · cases h

theorem zeros_ok {z : T} {v : Value} (hz : Rd g v z) {n s : Nat} (hs : z.cells.length = s) (h0 : 0 < s) :
    RdL g ((Array.range (n * s)).map (v.cells[· % v.cells.size]!)).toList ((List.replicate n z).flatMap T.cells) := by
  have hc := hz.cells
  have hv : v.cells.size = s := by rw [← hs, ← hc.1]; simp
  have hall : ∀ x ∈ List.replicate n z, x.cells.length = s := fun x hx => by rw [(List.mem_replicate.1 hx).2]; exact hs
  refine ⟨by simp [flat_length hall], fun j u c hu hcc => ?_⟩
  have hj : j < n * s := by
    have := (List.getElem?_eq_some_iff.1 hcc).1
    rw [flat_length hall] at this
    simpa using this
  have hi : j / s < n := (Nat.div_lt_iff_lt_mul h0).2 hj
  have hr : j % s < s := Nat.mod_lt _ h0
  have hzj : z.cells[j % s]? = some (z.cells[j % s]'(by omega)) := List.getElem?_eq_getElem _
  have hx : (List.replicate n z)[j / s]? = some z := by simp [hi]
  have h1 := rows_at hall hx (j % s) _ hzj
  rw [show j / s * s + j % s = j by rw [Nat.mul_comm]; exact Nat.div_add_mod j s] at h1
  rw [hcc] at h1
  cases h1
  simp [hj] at hu
  rw [hv] at hu
  have hvj : v.cells.toList[j % s]? = some (v.cells[j % s]'(by omega)) := by simp
  rw [getElem!_pos v.cells (j % s) (by omega)] at hu
  subst hu
  exact hc.2 (j % s) _ _ hvj hzj

theorem buildSlice_ok {t : TypeId} {len : Nat} {ps : List (Nat × T)} {r : T} (h : buildSliceT P t len ps = some r) {qs : List (Nat × Value)} (hq : RdP g qs ps) :
    ∃ (ca : Array Value) (e : TypeId), (Instr.buildSlice t len qs.toArray).run P g.w = .ok (.slice (some ⟨g.w.heap.size, 0, none⟩) len len) (g.add (.cells ca e)).w ∧
      Rd (g.add (.cells ca e)) (.slice (some ⟨g.w.heap.size, 0, none⟩) len len) r ∧
      ∃ (xs : List T) (s : Nat), r = .sl true xs ∧ P.underlying t = some (.slice e) ∧ szT P e = some s ∧ 0 < s ∧ len * s ≤ 65536 ∧ (xs.flatMap T.cells).length = len * s ∧ RdL g ca.toList (xs.flatMap T.cells) := by
  unfold buildSliceT at h
  split at h
  · rename_i e hd
    split at h
    · rename_i s ag z hs hag hz
      split at h
      · rename_i hc
        obtain ⟨h0, hsmall, hzl, hza⟩ := hc
        simp only [Option.map_eq_some_iff] at h
        obtain ⟨xs, hxs, rfl⟩ := h
        simp only [szT, Option.map_eq_some_iff] at hs
        obtain ⟨i, hi, rfl⟩ := hs
        obtain ⟨v, hv, hr⟩ := zero_ok (g := g) hz
        have hall : ∀ x ∈ List.replicate len z, x.cells.length = i.size := fun x hx => by rw [(List.mem_replicate.1 hx).2]; exact hzl
        obtain ⟨h1, h2, h3⟩ := sets_fill hxs hall
        have hz0 := zeros_ok hr (n := len) hzl h0
        obtain ⟨ca, h4, h5⟩ := fill_ok h1 hq hz0
        have hlen : xs.length = len := by simpa using h3
        refine ⟨ca, e, ?_, ?_, xs, i.size, rfl, hd, by simp [szT, hi], h0, hsmall, by rw [flat_length h2, hlen], h5⟩
        · have hnot : ¬ (len * i.size > 2 ^ 24) := by omega
          by_cases hl0 : len * i.size = 0
          · have hlen0 : len = 0 := by
              rcases Nat.eq_zero_or_pos len with q | q
              · exact q
              · have := Nat.mul_pos q h0; omega
            subst hlen0
            have e0 : ((Array.range 0).map (fun x => v.cells[x % v.cells.size]!)) = #[] := by simp
            simp only [Nat.zero_mul, e0] at h4
            simp [Instr.buildSlice, run_underlying hd, sizeOf, typeInfo, hi, h4, newRow, G.add, Array.range_zero']
          · simp only [Instr.buildSlice, Sem.run_bind, run_underlying hd, Result.andThen_ok, sizeOf, typeInfo, run_program, hi, Sem.run_pure, if_neg hnot, if_neg hl0, hv, h4]
            simp [newRow, G.add]
        · have hst := g.add_step (.cells ca e)
          have h5' := h5.pstep hst
          rw [← hlen]
          refine .sl true xs i.size g.w.heap.size 0 xs.length ca.toList (fun _ => .inr rfl) h2 (Nat.le_refl _) ?_ (fun _ => rfl) ?_ ?_ h5'.2
          · have : len ≤ len * i.size := Nat.le_mul_of_pos_right _ h0
            simp only [maxLen]; omega
          · have := h5.1; rw [flat_length h2] at this; simpa using this
          · intro j u hu
            rw [Nat.zero_add, G.add_cell]; simpa using hu
      · cases h
    · cases h
  · cases h

theorem box_ok {x : T} {v : Value} (hv : Rd g v x) (e : TypeId) :
    (Instr.box e v).run P g.w = .ok (.pointer (some ⟨g.w.heap.size, 0, none⟩)) (g.add (.cells v.cells e)).w ∧ Rd (g.add (.cells v.cells e)) (.pointer (some ⟨g.w.heap.size, 0, none⟩)) (.ref x 0) := by
  have hst := g.add_step (.cells v.cells e)
  have hc := (hv.pstep hst).cells
  refine ⟨by simp [Instr.box, newVar, newRow, G.add], ?_⟩
  exact .ref x 0 g.w.heap.size 0 v.cells.toList (.inr rfl) hc.1 (fun j u hu => by rw [Nat.zero_add, G.add_cell]; simpa using hu) hc.2

theorem evalAll_ok {gl : Nat → Option T} {fr : List T} {a : Act} : ∀ {xs : List Operand} {ts : List T}, evalAll gl fr xs = some ts → (∀ x ∈ xs, ∀ t, evalT gl fr x = some t → Rd g (a.eval x) t) → RdL g (xs.map a.eval) ts
  | [], ts, h, _ => by simp [evalAll] at h; subst h; exact RdL.nil
  | x :: xs, ts, h, hx => by
    simp only [evalAll] at h
    split at h
    · rename_i t ht
      split at h
      · rename_i ts' hts
        cases h
        exact RdL.cons (hx x (by simp) t ht) (evalAll_ok hts (fun y hy => hx y (by simp [hy])))
      · cases h
    · cases h

theorem pairs_ok {gl : Nat → Option T} {fr : List T} {a : Act} : ∀ {xs : List (Nat × Operand)} {ts : List (Nat × T)}, pairsT gl fr xs = some ts →
    (∀ p ∈ xs, ∀ t, evalT gl fr p.2 = some t → Rd g (a.eval p.2) t) → RdP g (xs.map fun p => (p.1, a.eval p.2)) ts
  | [], ts, h, _ => by simp [pairsT] at h; subst h; trivial
  | (i, x) :: xs, ts, h, hx => by
    simp only [pairsT] at h
    split at h
    · rename_i t ht
      split at h
      · rename_i ts' hts
        cases h
        exact ⟨rfl, hx (i, x) (by simp) t ht, pairs_ok hts (fun y hy => hx y (by simp [hy]))⟩
      · cases h
    · cases h

theorem okFn_call {f : FuncId} (h : okFn P f = true) (args : Array Value) : (callFunc f args).run P g.w = .ok (.enter f args) g.w := by
  unfold okFn at h
  unfold callFunc
  split at h
  · rename_i fn hf
    simp only [Bool.and_eq_true, Bool.not_eq_true', Option.isSome_iff_ne_none] at h
    obtain ⟨h1, h2⟩ := h
    have h3 : fn.body.isNone = false := by cases hb : fn.body <;> simp_all
    simp only [Sem.run_bind, run_program, Result.andThen_ok, hf, h2, h3]
    simp
  · cases h


theorem array_map_toList (f : Operand → Value) (xs : Array Operand) : xs.map f = (xs.toList.map f).toArray := by
  cases xs; simp

/-- EVERY OPERATION THAT CHANGES NO OBJECT. -/
theorem evalP_ok {E : Env} (hE : PeOk P E.gl E.pe) (hgl : GlOk E.gl g) {own : Bool} {H : Hp} (hH : St g H) (hg : Gok g) {fr : List T} {a : Act} {o : Oper} {t : T}
    (h : evalP P E own H fr o = some t) (hop : ∀ x ∈ o.op.operands, ∀ t, evalT E.gl fr x = some t → Rd g (a.eval x) t) : POk P o a g t := by
  obtain ⟨dst, op, type, pos, after, guard⟩ := o
  cases op <;> simp only [evalP] at h <;> simp only [Op.operands] at hop <;> try (cases h; done)
  case move x => exact pok_val hg (by simp [execOp]) (hop x (by simp) t h)
  case assign x => exact pok_val hg (by simp [execOp]) (hop x (by simp) t h)
  case pick c x y =>
    split at h
    · rename_i b hb
      have hc := (hop c (by simp) _ hb).inv_bool
      cases b with
      | true => exact pok_val hg (v := a.eval x) (by simp [execOp, hc, asBool]) (hop x (by simp) t (by simpa using h))
      | false => exact pok_val hg (v := a.eval y) (by simp [execOp, hc, asBool]) (hop y (by simp) t (by simpa using h))
    · cases h
  case box e x =>
    split at h
    · cases h
    · simp only [Option.map_eq_some_iff] at h
      obtain ⟨y, hy, rfl⟩ := h
      obtain ⟨h1, h2⟩ := box_ok (P := P) (hop x (by simp) y hy) e
      exact pok_alloc hg (by simp only [execOp, Sem.run_bind, h1, Result.andThen_ok, Sem.run_pure]) h2
  case build ty parts =>
    split at h
    · rename_i l hl
      have hp := pairs_ok (g := g) (a := a) hl (fun p hp t ht => hop p.2 (by simp; exact ⟨p.1, by simpa using hp⟩) t ht)
      obtain ⟨q, h1, h2⟩ := build_ok h hp
      refine pok_val hg (v := q) ?_ h2
      have e : (parts.map fun x => (x.1, a.eval x.2)) = (parts.toList.map fun p => (p.1, a.eval p.2)).toArray := by cases parts; simp
      simp only [execOp, Sem.run_bind, e, h1, Result.andThen_ok, Sem.run_pure]
    · cases h
  case buildSlice ty len parts =>
    split at h
    · cases h
    · split at h
      · rename_i l hl
        have hp := pairs_ok (g := g) (a := a) hl (fun p hp t ht => hop p.2 (by simp; exact ⟨p.1, by simpa using hp⟩) t ht)
        obtain ⟨ca, e, h1, h2, _⟩ := buildSlice_ok h hp
        refine pok_alloc hg (ob := .cells ca e) ?_ h2
        have e : (parts.map fun x => (x.1, a.eval x.2)) = (parts.toList.map fun p => (p.1, a.eval p.2)).toArray := by cases parts; simp
        simp only [execOp, Sem.run_bind, e, h1, Result.andThen_ok, Sem.run_pure]
      · cases h
  case load ty x =>
    split at h
    · rename_i p hp
      obtain ⟨u, h1, h2⟩ := load_ok hH h (hop x (by simp) p hp)
      exact pok_val hg (by simp only [execOp, Sem.run_bind, h1, Result.andThen_ok, Sem.run_pure]) h2
    · cases h
  case nilCheck x =>
    split at h
    · rename_i p hp
      have hr := hop x (by simp) p hp
      unfold nilCheckT at h
      split at h <;> cases h
      · refine pok_val hg (v := a.eval x) ?_ hr
        generalize hu : a.eval x = u at hr
        cases hr
        simp [execOp, hu]
      · refine pok_val hg (v := a.eval x) ?_ hr
        generalize hu : a.eval x = u at hr
        cases hr
        simp [execOp, hu]
      · refine pok_val hg (v := a.eval x) ?_ hr
        generalize hu : a.eval x = u at hr
        cases hr
        simp [execOp, hu]
      · refine pok_val hg (v := a.eval x) ?_ hr
        generalize hu : a.eval x = u at hr
        cases hr
        simp [execOp, hu]
    · cases h
  case binOp op ty x y ty' =>
    split at h
    · rename_i p q hp hq
      obtain ⟨u, h1, h2⟩ := bin_ok (P := P) h (hop x (by simp) p hp) (hop y (by simp) q hq) x y
      refine pok_val hg (v := u) ?_ h2
      simp only [execOp, Sem.run_bind] at h1 ⊢
      simp only [h1, Result.andThen_ok, Sem.run_pure]
    · cases h
  case unOp op ty x =>
    split at h
    · rename_i p hp
      obtain ⟨u, h1, h2⟩ := un_ok (P := P) h (hop x (by simp) p hp)
      exact pok_val hg (by simp only [execOp, Sem.run_bind, h1, Result.andThen_ok, Sem.run_pure]) h2
    · cases h
  case convert s d x =>
    split at h
    · rename_i p hp
      obtain ⟨u, h1, h2⟩ := conv_ok (P := P) h (hop x (by simp) p hp)
      exact pok_val hg (by simp only [execOp, Sem.run_bind, h1, Result.andThen_ok, Sem.run_pure]) h2
    · cases h
  case makeFunc f first captured =>
    split at h
    · rename_i p q hp hq
      cases h
      have h1 := evalAll_ok (g := g) (a := a) hp (fun x hx => hop x (by simp at hx; simp [hx]))
      have h2 := evalAll_ok (g := g) (a := a) hq (fun x hx => hop x (by simp at hx; simp [hx]))
      exact pok_val hg (by simp only [execOp, Sem.run_bind, Instr.makeFunc, array_map_toList, Sem.run_pure, Result.andThen_ok]) (Rd.mk_fn h1 h2)
    · cases h
  case slice ty x lo hi mx =>
    cases mx with
    | some m => cases h
    | none =>
      simp only at h
      split at h
      · rename_i p hp
        split at h
        · rename_i l hh hl hhi
          have hlo : RdO g (lo.map a.eval) l := by
            cases lo with
            | none => simp [optT] at hl; subst hl; trivial
            | some y =>
              simp only [optT] at hl
              split at hl
              · rename_i z hz; cases hl; exact hop y (by simp) z hz
              · cases hl
          have hhi' : RdO g (hi.map a.eval) hh := by
            cases hi with
            | none => simp [optT] at hhi; subst hhi; trivial
            | some y =>
              simp only [optT] at hhi
              split at hhi
              · rename_i z hz; cases hhi; exact hop y (by simp) z hz
              · cases hhi
          obtain ⟨u, h1, h2⟩ := slice_ok (P := P) h (hop x (by simp) p hp) hlo hhi'
          exact pok_val hg (by simp only [execOp, Sem.run_bind, Option.map_none, h1, Result.andThen_ok, Sem.run_pure]) h2
        · cases h
      · cases h
  case fieldAddr s x f =>
    split at h
    · rename_i p hp
      obtain ⟨u, h1, h2⟩ := fieldAddr_ok (P := P) h (hop x (by simp) p hp)
      exact pok_val hg (by simp only [execOp, Sem.run_bind, h1, Result.andThen_ok, Sem.run_pure]) h2
    · cases h
  case field ty x f =>
    split at h
    · rename_i cs hp
      split at h
      · rename_i fd hfd
        unfold fieldT at hfd
        split at hfd
        · rename_i fs hd
          obtain ⟨vs, hv, hr⟩ := (hop x (by simp) _ hp).inv_agg
          obtain ⟨u, h1, h2⟩ := part_ok (P := P) h hr
          exact pok_val hg (v := u) (by simp only [execOp, Instr.field, Sem.run_bind, run_underlying hd, Result.andThen_ok, hfd, hv, asAgg, Sem.run_pure, h1]) h2
        · cases hfd
      · cases h
    · cases h
  case indexAddr ty x i =>
    split at h
    · rename_i p q hp hq
      obtain ⟨u, h1, h2⟩ := indexAddr_ok (P := P) h (hop x (by simp) p hp) (hop i (by simp) q hq)
      exact pok_val hg (by simp only [execOp, Sem.run_bind, h1, Result.andThen_ok, Sem.run_pure]) h2
    · cases h
  case index ty x i =>
    split at h
    · rename_i p q hp hq
      obtain ⟨u, h1, h2⟩ := index_ok (P := P) h (hop x (by simp) p hp) (hop i (by simp) q hq)
      exact pok_val hg (by simp only [execOp, Sem.run_bind, h1, Result.andThen_ok, Sem.run_pure]) h2
    · cases h
  case extract x i =>
    split at h
    · rename_i cs hp
      obtain ⟨vs, hv, hr⟩ := (hop x (by simp) _ hp).inv_tup
      obtain ⟨u, h1, h2⟩ := hr.at_ h
      exact pok_val hg (v := u) (by simp [execOp, Instr.extract, hv, h1]) h2
    · cases h
  case call c =>
    obtain ⟨callee, args, tys⟩ := c
    unfold evalC at h
    cases callee with
    | invoke r m => cases h
    | value f =>
      simp only [Call.operands] at hop
      simp only at h
      split at h
      · rename_i k first cap hf
        split at h
        · rename_i as has
          obtain ⟨vs, us, hv, hr1, hr2⟩ := (hop f (by simp) _ hf).inv_fn
          have h3 := evalAll_ok (g := g) (a := a) has (fun x hx => hop x (by simp at hx; simp [hx]))
          obtain ⟨hk, hc⟩ := hE H k _ t h
          have hcall := hc g _ hg hH hgl ((hr1.append h3).append hr2)
          intro K Q hK
          have hrun : (execOp a.eval { dst, op := .call ⟨.value f, args, tys⟩, type, pos, after, guard }).run P g.w = .ok (.enter k (vs ++ args.toList.map a.eval ++ us).toArray) g.w := by
            simp only [execOp, resolve, hv, Deferred.ofValue, Sem.run_bind, Sem.run_pure, Result.andThen_ok, invoke, array_map_toList]
            rw [okFn_call hk]
            simp
          unfold Oper.wp
          rw [hrun]
          exact hcall.mono fun e w' ⟨v, g', he, hw, hst, hok, hrd⟩ => by
            subst he; subst hw
            exact hK v g' hst hok hrd
        · cases h
      · cases h
    | builtin b =>
      simp only [Call.operands] at hop
      cases b <;> try (cases h; done)
      case len =>
        simp only at h
        split at h
        · rename_i x t0 ts hx hts
          split at h
          · rename_i p hp
            have hr := hop x (by have : x ∈ args.toList := by rw [hx]; simp
                                 simpa using this) p hp
            have e1 : args.map a.eval = #[a.eval x] := by rw [array_map_toList, hx]; rfl
            have e2 : tys[0]? = some t0 := by rw [← Array.getElem?_toList, hts]; rfl
            obtain ⟨u, h1, h2⟩ := len_ok (P := P) h hr tys e2 type
            exact pok_val hg (v := u) (by simp only [execOp, resolve, Sem.run_bind, Sem.run_pure, Result.andThen_ok, invoke, builtin, e1, h1]) h2
          · cases h
        · cases h
      case min =>
        simp only at h
        split at h
        · rename_i x r hx
          have h3 := evalAll_ok (g := g) (a := a) hx (fun x hx => hop x (by simpa using hx))
          cases hl : args.toList.map a.eval with
          | nil => rw [hl] at h3; simp [RdL] at h3
          | cons v vs =>
            rw [hl] at h3
            obtain ⟨h4, h5⟩ := h3.inv_cons
            obtain ⟨u, h1, h2⟩ := foldT_min_ok (P := P) h h4 h5
            refine pok_val hg (v := u) ?_ h2
            simp only [execOp, resolve, Sem.run_bind, Sem.run_pure, Result.andThen_ok, invoke, builtin, array_map_toList, hl, Builtin.min_, h1]
        · cases h
      case max =>
        simp only at h
        split at h
        · rename_i x r hx
          have h3 := evalAll_ok (g := g) (a := a) hx (fun x hx => hop x (by simpa using hx))
          cases hl : args.toList.map a.eval with
          | nil => rw [hl] at h3; simp [RdL] at h3
          | cons v vs =>
            rw [hl] at h3
            obtain ⟨h4, h5⟩ := h3.inv_cons
            obtain ⟨u, h1, h2⟩ := foldT_max_ok (P := P) h h4 h5
            refine pok_val hg (v := u) ?_ h2
            simp only [execOp, resolve, Sem.run_bind, Sem.run_pure, Result.andThen_ok, invoke, builtin, array_map_toList, hl, Builtin.max_, h1]
        · cases h
end
end Go.Ps
