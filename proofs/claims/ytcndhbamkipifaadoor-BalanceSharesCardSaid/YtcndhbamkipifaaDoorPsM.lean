/- From evaluations to contracts: results that lie in new memory are written no more behind the call. -/
import Derived.Test.YtcndhbamkipifaaDoorPsL
namespace Go.Ps

def mapO (f : T → Option T) : List T → Option (List T)
  | [] => some []
  | t :: ts => match f t with
    | some r => match mapO f ts with
      | some rs => some (r :: rs)
      | none => none
    | none => none

def chunk (sz : Nat) : Nat → List T → List T
  | 0, _ => []
  | n + 1, cs => .agg (cs.take sz) :: chunk sz n (cs.drop sz)

/-- A tree without objects: what the objects hold is laid into it. -/
def frzT : Nat → Hp → T → Option T
  | 0, _, _ => none
  | n + 1, H, t => match t with
    | .int k i => some (.int k i)
    | .bool b => some (.bool b)
    | .str s => some (.str s)
    | .nilp => some .nilp
    | .nils => some .nils
    | .nilf => some .nilf
    | .nili => some .nili
    | .nilm => some .nilm
    | .ptr l off => match H.get l with
      | some o => match mapO (frzT n H) o.cells with
        | some cs => some (.ref (.agg cs) off)
        | none => none
      | none => none
    | .ref x off => match frzT n H x with
      | some y => if y.cells.length = x.cells.length ∧ y.isAgg = x.isAgg then some (.ref y off) else none
      | none => none
    | .sl f xs => match mapO (frzT n H) xs with
      | some ys => if (xs.map fun x => (x.isAgg, x.cells.length)) = (ys.map fun x => (x.isAgg, x.cells.length)) then some (.sl f ys) else none
      | none => none
    | .slf f n h => some (.slf f n h)
    | .osl l sz i len => match H.get l with
      | some o => if sz ≠ 0 ∧ o.sz = sz ∧ (i + len) * sz ≤ o.cells.length then
          match mapO (frzT n H) ((o.cells.drop (i * sz)).take (len * sz)) with
          | some cs => if sz = 1 then (if (cs.all fun c => !c.isAgg) then some (.sl false cs) else none) else some (.sl false (chunk sz len cs))
          | none => none
        else none
      | none => none
    | .fn f a c => match mapO (frzT n H) a, mapO (frzT n H) c with
      | some a', some c' => some (.fn f a' c')
      | _, _ => none
    | .iface t x => match frzT n H x with
      | some y => some (.iface t y)
      | none => none
    | .agg cs => match mapO (frzT n H) cs with
      | some ds => some (.agg ds)
      | none => none
    | .tup cs => match mapO (frzT n H) cs with
      | some ds => some (.tup ds)
      | none => none

theorem mapO_at {f : T → Option T} : ∀ {ts rs : List T}, mapO f ts = some rs → rs.length = ts.length ∧ ∀ (j : Nat) (r : T), rs[j]? = some r → ∃ t, ts[j]? = some t ∧ f t = some r
  | [], rs, h => by simp [mapO] at h; subst h; simp
  | t :: ts, rs, h => by
    simp only [mapO] at h
    split at h
    · rename_i r hr
      split at h
      · rename_i rs' hrs
        cases h
        obtain ⟨h1, h2⟩ := mapO_at hrs
        refine ⟨by simp [h1], fun j q hq => ?_⟩
        cases j with
        | zero => simp at hq; subst hq; exact ⟨t, rfl, hr⟩
        | succ j => simp at hq; obtain ⟨t', a, b⟩ := h2 j q hq; exact ⟨t', by simpa using a, b⟩
      · cases h
    · cases h

/-- The objects of H among the blocks that are written no more. -/
def G.frz (g : G) (H : Hp) (g0 : G) : G := { w := g.w, S := fun b => g.S b ∨ ∃ l o, H.get l = some o ∧ g.loc l = b, al := g0.al, loc := g0.loc, cp := g0.cp }

theorem chunk_flat (sz : Nat) : ∀ (n : Nat) (cs : List T), cs.length = n * sz → (chunk sz n cs).flatMap T.cells = cs ∧ (∀ x ∈ chunk sz n cs, x.cells.length = sz) ∧ (chunk sz n cs).length = n
  | 0, cs, h => by simp at h; subst h; simp [chunk]
  | n + 1, cs, h => by
    have hl : sz ≤ cs.length := by rw [h, Nat.succ_mul]; omega
    obtain ⟨h1, h2, h3⟩ := chunk_flat sz n (cs.drop sz) (by rw [List.length_drop, h, Nat.succ_mul]; omega)
    refine ⟨?_, ?_, by simp [chunk, h3]⟩
    · simp only [chunk, List.flatMap_cons, T.cells, h1, List.take_append_drop]
    · intro x hx
      simp only [chunk, List.mem_cons] at hx
      rcases hx with rfl | hx
      · simp [T.cells]; omega
      · exact h2 x hx

theorem cells_of_notAgg {t : T} (h : t.isAgg = false) : t.cells = [t] := by cases t <;> simp_all [T.isAgg, T.cells]

theorem flat_single : ∀ (cs : List T), (cs.all fun c => !c.isAgg) = true → cs.flatMap T.cells = cs ∧ ∀ x ∈ cs, x.cells.length = 1
  | [], _ => by simp
  | c :: cs, h => by
    simp only [List.all_cons, Bool.and_eq_true, Bool.not_eq_true'] at h
    have hc := cells_of_notAgg h.1
    obtain ⟨h1, h2⟩ := flat_single cs h.2
    refine ⟨by simp [List.flatMap_cons, hc, h1], fun x hx => ?_⟩
    rcases List.mem_cons.1 hx with rfl | hx
    · simp [hc]
    · exact h2 x hx

/-- Trees of one shape have cells at the same places. -/
theorem frz_cells {n : Nat} {H : Hp} {x y : T} (h : frzT (n + 1) H x = some y) (hl : y.cells.length = x.cells.length) (ha : y.isAgg = x.isAgg) : ∀ (j : Nat) (c : T), y.cells[j]? = some c → ∃ b, x.cells[j]? = some b ∧ (frzT n H b = some c ∨ frzT (n + 1) H b = some c) := by
  intro j c hc
  cases hx : x.isAgg with
  | false =>
    rw [hx] at ha
    rw [cells_of_notAgg ha] at hc
    rw [cells_of_notAgg hx]
    cases j with
    | zero => simp at hc; subst hc; exact ⟨x, rfl, .inr h⟩
    | succ j => simp at hc
  | true =>
    cases x <;> simp [T.isAgg] at hx
    rename_i cs
    simp only [frzT] at h
    split at h
    · rename_i ds hds
      cases h
      obtain ⟨_, h2⟩ := mapO_at hds
      obtain ⟨b, hb, hf⟩ := h2 j c (by simpa [T.cells] using hc)
      exact ⟨b, by simpa [T.cells] using hb, .inl hf⟩
    · cases h

theorem flat_shape : ∀ {xs ys : List T} {sz : Nat}, (xs.map fun x => (x.isAgg, x.cells.length)) = (ys.map fun x => (x.isAgg, x.cells.length)) → (∀ x ∈ xs, x.cells.length = sz) → (∀ y ∈ ys, y.cells.length = sz) ∧
    ∀ (j : Nat) (c : T), (ys.flatMap T.cells)[j]? = some c → ∃ (i k : Nat) (x y : T), xs[i]? = some x ∧ ys[i]? = some y ∧ x.isAgg = y.isAgg ∧ x.cells.length = y.cells.length ∧ y.cells[k]? = some c ∧ j = i * sz + k
  | [], [], sz, _, _ => by simp
  | [], y :: ys, sz, h, _ => by simp at h
  | x :: xs, [], sz, h, _ => by simp at h
  | x :: xs, y :: ys, sz, h, hs => by
    simp only [List.map_cons, List.cons.injEq, Prod.mk.injEq] at h
    obtain ⟨⟨ha, hl⟩, hr⟩ := h
    have hx := hs x (by simp)
    obtain ⟨h1, h2⟩ := flat_shape hr (fun z hz => hs z (by simp [hz]))
    refine ⟨fun z hz => ?_, fun j c hc => ?_⟩
    · rcases List.mem_cons.1 hz with rfl | hz
      · omega
      · exact h1 z hz
    · rw [List.flatMap_cons, List.getElem?_append] at hc
      split at hc
      · exact ⟨0, j, x, y, rfl, rfl, ha, hl, hc, by simp⟩
      · rename_i hj
        obtain ⟨i, k, x', y', e1, e2, e3, e4, e5, e6⟩ := h2 _ c hc
        refine ⟨i + 1, k, x', y', by simpa using e1, by simpa using e2, e3, e4, e5, ?_⟩
        rw [Nat.succ_mul]; omega

theorem frz_ok {g g0 : G} {H : Hp} (hs : St g H) : ∀ (n : Nat) (t r : T) (v : Value), frzT n H t = some r → Rd g v t → Rd (g.frz H g0) v r := by
  intro n
  induction n using Nat.strongRecOn with
  | _ n ih =>
  cases n with
  | zero => intro t r v h; simp [frzT] at h
  | succ n =>
    have ih1 : ∀ (t r : T) (v : Value), frzT n H t = some r → Rd g v t → Rd (g.frz H g0) v r := ih n (by omega)
    have lst : ∀ {ts rs : List T} {vs : List Value}, mapO (frzT n H) ts = some rs → RdL g vs ts → RdL (g.frz H g0) vs rs := by
      intro ts rs vs hm hv
      obtain ⟨h1, h2⟩ := mapO_at hm
      refine ⟨by rw [hv.1, h1], fun j v c hvj hc => ?_⟩
      obtain ⟨t, ht, hf⟩ := h2 j c hc
      exact ih1 t c v hf (hv.2 j v t hvj ht)
    -- the cells of a tree of one shape
    have cel : ∀ {x y : T}, frzT n H x = some y → y.cells.length = x.cells.length → y.isAgg = x.isAgg → ∀ (j : Nat) (c : T), y.cells[j]? = some c → ∃ b, x.cells[j]? = some b ∧ ∀ u, Rd g u b → Rd (g.frz H g0) u c := by
      intro x y hy hl ha j c hc
      cases n with
      | zero => simp [frzT] at hy
      | succ n =>
        obtain ⟨b', hb', hf⟩ := frz_cells hy hl ha j c hc
        refine ⟨b', hb', fun u hu => ?_⟩
        rcases hf with hf | hf
        · exact ih n (by omega) b' c u hf hu
        · exact ih1 b' c u hf hu
    intro t r v h hr
    cases hr with
    | int k i => simp only [frzT] at h; cases h; exact .int k i
    | bool b => simp only [frzT] at h; cases h; exact .bool b
    | str s => simp only [frzT] at h; cases h; exact .str s
    | nilp => simp only [frzT] at h; cases h; exact .nilp
    | nils => simp only [frzT] at h; cases h; exact .nils
    | nilf => simp only [frzT] at h; cases h; exact .nilf
    | nili => simp only [frzT] at h; cases h; exact .nili
    | nilm => simp only [frzT] at h; cases h; exact .nilm
    | ptr l off hl =>
      simp only [frzT] at h
      split at h
      · rename_i o ho
        split at h
        · rename_i cs hcs
          cases h
          obtain ⟨_, _, c0, hb, q1, _, _, q4⟩ := hs.own l o ho
          have hrd := lst hcs q4
          have e0 : (⟨g.loc l, off, none⟩ : Addr) = ⟨g.loc l, 0 + off, none⟩ := by simp
          rw [e0]
          refine .ref (.agg cs) off (g.loc l) 0 (c0.toList.take o.cells.length) (.inr ⟨l, o, ho, rfl⟩) hrd.1 (fun j u hu => ?_) hrd.2
          rw [List.getElem?_take] at hu
          split at hu
          · show g.w.cell? _ = _; simp [World.cell?, hb] at hu ⊢; exact hu
          · cases hu
        · cases h
      · cases h
    | ref x off b o vs hS hlen hc hx =>
      simp only [frzT] at h
      split at h
      · rename_i y hy
        split at h
        · rename_i hsh
          cases h
          refine .ref y off b o vs (.inl hS) (by rw [hsh.1]; exact hlen) hc (fun j u c hu hcc => ?_)
          obtain ⟨b', hb', hf⟩ := cel hy hsh.1 hsh.2 j c hcc
          exact hf u (hx j u b' hu hb')
        · cases h
      · cases h
    | sl full xs sz b o cap vs h1 h2 h3 h4 h5 h6 h7 h8 =>
      simp only [frzT] at h
      split at h
      · rename_i ys hys
        split at h
        · rename_i hsh
          cases h
          obtain ⟨hl, hat⟩ := mapO_at hys
          obtain ⟨s1, s2⟩ := flat_shape hsh h2
          rw [← hl]
          refine .sl full ys sz b o cap vs (fun hy => .inl (h1 (fun e => hy (by subst e; simpa using hl)))) s1 (by omega) h4 (fun q => by rw [h5 q, hl]) (by rw [hl]; exact h6) h7 (fun j u c hu hc => ?_)
          obtain ⟨i, k, x, y, e1, e2, e3, e4, e5, e6⟩ := s2 j c hc
          obtain ⟨x', hx', hf⟩ := hat i y e2
          rw [e1] at hx'
          cases hx'
          obtain ⟨b', hb', hff⟩ := cel hf e4.symm e3.symm k c e5
          exact hff u (h8 j u b' hu (by rw [e6]; exact rows_at h2 e1 k b' hb'))
        · cases h
      · cases h
    | slfn full f =>
      simp only [frzT] at h
      cases h
      exact .slfn _ _
    | slf full m f sz b o cap vs h1 h2 h3 h4 h5 h6 h7 h8 =>
      simp only [frzT] at h
      cases h
      exact Rd.slf_keep (g := g) (g' := g.frz H g0) (fun _ q => Or.inl q) (fun _ _ _ _ q => q) h1 h2 h3 h4 h5 h6 h7 h8
    | osl l sz i len b o cap p1 p2 p3 p4 p5 =>
      simp only [frzT] at h
      split at h
      · rename_i ob ho
        split at h
        · rename_i hc
          obtain ⟨c1, c2, c3⟩ := hc
          split at h
          · rename_i cs hcs
            obtain ⟨_, _, c0, hb, q1, _, q3, q4⟩ := hs.own l ob ho
            have q3' := q3 (by omega)
            have hrd : RdL (g.frz H g0) (((c0.toList.take ob.cells.length).drop (i * sz)).take (len * sz)) cs := lst hcs ((q4.drop _).take _)
            have hmul : (i + len) * sz = i * sz + len * sz := Nat.add_mul _ _ _
            have hvl : (((c0.toList.take ob.cells.length).drop (i * sz)).take (len * sz)).length = len * sz := by
              simp only [List.length_take, List.length_drop, Array.length_toList]; omega
            have hcl : cs.length = len * sz := by rw [← hrd.1]; exact hvl
            have fin : ∀ (xs : List T), xs.length = len → xs.flatMap T.cells = cs → (∀ x ∈ xs, x.cells.length = sz) → Rd (g.frz H g0) (.slice (some ⟨b, o, none⟩) len cap) (.sl false xs) := by
              intro xs e1 e2 e3
              subst e1
              refine .sl false xs sz b o cap _ (fun hx => ?_) e3 p2 (by omega) (fun q => by cases q) hvl (fun j u hu => ?_) (fun j u c hu hcc => hrd.2 j u c hu (by rw [← e2]; exact hcc))
              · obtain ⟨rfl, _⟩ := p4 (.inl (by cases xs with | nil => exact absurd rfl hx | cons y ys => simp))
                exact .inr ⟨l, ob, ho, rfl⟩
              · have hpos : 0 < xs.length := by
                  rcases Nat.eq_zero_or_pos xs.length with q | q
                  · have hz : (((c0.toList.take ob.cells.length).drop (i * sz)).take (xs.length * sz)).length = 0 := by rw [hvl, q, Nat.zero_mul]
                    rw [List.eq_nil_of_length_eq_zero hz] at hu
                    simp at hu
                  · exact q
                obtain ⟨rfl, rfl⟩ := p4 (.inl hpos)
                rw [List.getElem?_take] at hu
                split at hu
                · rw [List.getElem?_drop, List.getElem?_take] at hu
                  split at hu
                  · show g.w.cell? _ = _; simp [World.cell?, hb] at hu ⊢; exact hu
                  · cases hu
                · cases hu
            split at h
            · rename_i hs1
              split at h
              · rename_i hag
                cases h
                subst hs1
                obtain ⟨f1, f2⟩ := flat_single cs hag
                exact fin cs (by simpa using hcl) f1 f2
              · cases h
            · cases h
              obtain ⟨f1, f2, f3⟩ := chunk_flat sz len cs hcl
              exact fin _ f3 f1 f2
          · cases h
        · cases h
      · cases h
    | fn f a c vs us h1 h2 h3 h4 =>
      simp only [frzT] at h
      split at h
      · rename_i a' c' ha hc
        cases h
        exact Rd.mk_fn (lst ha ⟨h1, h2⟩) (lst hc ⟨h3, h4⟩)
      · cases h
    | iface t v x hx =>
      simp only [frzT] at h
      split at h
      · rename_i y hy; cases h; exact .iface t v y (ih1 x y v hy hx)
      · cases h
    | agg cs vs h1 h2 =>
      simp only [frzT] at h
      split at h
      · rename_i ds hds; cases h; exact Rd.mk_agg (lst hds ⟨h1, h2⟩)
      · cases h
    | tup cs vs h1 h2 =>
      simp only [frzT] at h
      split at h
      · rename_i ds hds; cases h; exact Rd.mk_tup (lst hds ⟨h1, h2⟩)
      · cases h

section
variable {P : Program} {E : Env} {F : Fc}

/-- The contract of a function that leaves all memory alone but for what is new. -/
def PureFn (P : Program) (gl : Nat → Option T) (f : FuncId) (ts : List T) (r : T) : Prop :=
  okFn P f = true ∧ ∀ (g : G) (vs : List Value), Gok g → (∃ N, ∀ l, N ≤ l → ¬ g.al l) → GlOk gl g → RdL g vs ts →
    Calls P f vs.toArray g.w fun e w' => ∃ v g', e = .returned v ∧ g'.w = w' ∧ PStep g g' ∧ Gok g' ∧ Rd g' v r

/-- EVALUATED WITH NO OBJECT THERE, at whatever number the objects of its own begin. -/
theorem pure_of (hm : P.follows .mixedOrders = true) (hE : PeOk P E.gl E.pe) (hF : EeOk P E.gl F.ee) {n k : Nat} {f : FuncId} (h1 : okFn P f = true) (h2 : fnOk P f = true) {ts : List T} {r : T}
    (h : ∀ N, ∃ q H', evalFn P E F n f ts ⟨N, []⟩ = some (q, H') ∧ frzT k H' q = some r) : PureFn P E.gl f ts r := by
  refine ⟨h1, fun g vs hg ⟨N, hN⟩ hgl hv => ?_⟩
  obtain ⟨q, H', he, hf⟩ := h N
  have hs : St g ⟨N, []⟩ := ⟨fun l o ho => by simp [Hp.get, findOb] at ho, fun l l' o o' ho => by simp [Hp.get, findOb] at ho, hN⟩
  refine (fn_ok hm hE hF h2 he g vs hg hs hgl hv).mono fun e w' ⟨v, g', e1, e2, e3, e4, e5, e6⟩ => ?_
  refine ⟨v, g'.frz H' g, e1, e2, ?_, ?_, frz_ok e5 k q r v hf e6⟩
  · refine ⟨e3.os, e3.tape, e3.output, e3.size, fun b hb => e3.block b hb (fun l o ho => by simp [Hp.get, findOb] at ho), fun b hb => .inl (e3.sub b hb), fun b hb => ?_, rfl, rfl, rfl⟩
    rcases hb with hb | ⟨l, o, ho, rfl⟩
    · rcases e3.fresh b hb with q | q | ⟨l, o, ho, _⟩
      · exact .inl q
      · exact .inr q
      · simp [Hp.get, findOb] at ho
    · rcases e3.live l o ho with ⟨l0, o0, q, _⟩ | q
      · simp [Hp.get, findOb] at q
      · exact .inr q
  · intro b hb
    rcases hb with hb | ⟨l, o, ho, rfl⟩
    · exact e4 b hb
    · exact e5.lt ho
end
end Go.Ps
