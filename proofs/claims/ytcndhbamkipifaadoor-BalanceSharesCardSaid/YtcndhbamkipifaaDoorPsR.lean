/- Closed runs: callees evaluated in place. -/
import Derived.Test.YtcndhbamkipifaaDoorPsQ
namespace Go.Ps

structure Xt where
  gl : Nat → Option T
  pe : FuncId → List T → Option T
  ee : FuncId → List T → Hp → Option (T × Hp)
  own : FuncId → Tmp → Bool
  pu : FuncId → Bool
  ef : FuncId → Bool
  n : Nat
  k : Nat

/-- A value that points nowhere. -/
def scal1 : T → Bool
  | .int .. | .bool _ | .str _ | .nilp | .nils | .nilf | .nili | .nilm => true
  | _ => false

def scal : T → Bool
  | .tup ts => ts.all scal1
  | .agg ts => ts.all scal1
  | t => scal1 t

/-- A call in place that leaves all memory alone but for what is new. -/
def pureT (P : Program) (E : Env) (F : Fc) (n k : Nat) (f : FuncId) (ts : List T) : Option T :=
  match evalFn P E F n f ts ⟨0, []⟩ with
  | some (q, H') => frzT k H' q
  | none => none

/-- The objects among the arguments are lent to the callee. -/
def lend (k : Nat) (pe : FuncId → List T → Option T) (H : Hp) (f : FuncId) (ts : List T) : Option T :=
  match mapO (frzT k ⟨0, []⟩) ts with
  | some ts' => pe f ts'
  | none => match mapO (frzT k H) ts with
    | some ts' => match pe f ts' with
      | some r => if scal r then some r else none
      | none => none
    | none => none

def runP (P : Program) (X : Xt) : Nat → (FuncId → List T → Option T) × (FuncId → List T → Hp → Option (T × Hp))
  | 0 => (X.pe, X.ee)
  | d + 1 =>
    (fun f ts => match X.pe f ts with
      | some r => some r
      | none => if X.pu f then pureT P ⟨X.gl, lend X.k (runP P X d).1⟩ ⟨X.own f, (runP P X d).2⟩ X.n X.k f ts else none,
     fun f ts H => match X.ee f ts H with
      | some r => some r
      | none => if X.ef f then evalFn P ⟨X.gl, lend X.k (runP P X d).1⟩ ⟨X.own f, (runP P X d).2⟩ X.n f ts H else none)

section
variable {P : Program}

/-- A ghost without objects. -/
def G.bare (g : G) : G := { w := g.w, S := g.S, al := fun _ => False, loc := g.loc, cp := g.cp }

/-- The package's variables hold no objects. -/
def GlFrz (gl : Nat → Option T) : Prop := ∀ k t, gl k = some t → ∃ n, frzT n ⟨0, []⟩ t = some t

/-- A tree without objects is what it is, whatever objects there are. -/
theorem frz_bare : ∀ (n : Nat) (N : Nat) (H : Hp) (t r : T), frzT n ⟨N, []⟩ t = some r → frzT n H t = some r := by
  intro n
  induction n with
  | zero => intro N H t r h; simp [frzT] at h
  | succ n ih =>
    intro N H
    have ihm : ∀ (ts rs : List T), mapO (frzT n ⟨N, []⟩) ts = some rs → mapO (frzT n H) ts = some rs := by
      intro ts
      induction ts with
      | nil => intro rs h; exact h
      | cons t ts iht =>
        intro rs h
        simp only [mapO] at h ⊢
        split at h
        · rename_i a ha
          split at h
          · rename_i b hb
            rw [ih N H _ _ ha, iht _ hb]; exact h
          · cases h
        · cases h
    intro t r h
    cases t <;> simp only [frzT] at h ⊢ <;> try exact h
    case ptr l off => simp [Hp.get, findOb] at h
    case osl l sz i len => simp [Hp.get, findOb] at h
    case ref x off =>
      split at h
      · rename_i y hy; rw [ih N H _ _ hy]; exact h
      · cases h
    case sl f xs =>
      split at h
      · rename_i y hy; rw [ihm _ _ hy]; exact h
      · cases h
    case fn f a c =>
      split at h
      · rename_i x y hx hy; rw [ihm _ _ hx, ihm _ _ hy]; exact h
      · cases h
    case iface t x =>
      split at h
      · rename_i y hy; rw [ih N H _ _ hy]; exact h
      · cases h
    case agg cs =>
      split at h
      · rename_i y hy; rw [ihm _ _ hy]; exact h
      · cases h
    case tup cs =>
      split at h
      · rename_i y hy; rw [ihm _ _ hy]; exact h
      · cases h

theorem frzL_ok {g g0 : G} {H : Hp} (hs : St g H) {k : Nat} {ts ts' : List T} (h : mapO (frzT k H) ts = some ts') {vs : List Value} (hv : RdL g vs ts) : RdL (g.frz H g0) vs ts' := by
  obtain ⟨a1, a2⟩ := mapO_at h
  refine ⟨by rw [hv.1, a1], fun j v c hvj hc => ?_⟩
  obtain ⟨t, ht, hf⟩ := a2 j c hc
  exact frz_ok hs k t c v hf (hv.2 j v t hvj ht)

theorem St.bare {g : G} {H : Hp} (hs : St g H) : St g ⟨H.next, []⟩ := ⟨fun l o ho => by simp [Hp.get, findOb] at ho, fun l l' o o' ho => by simp [Hp.get, findOb] at ho, hs.new⟩

theorem frz_nil (g g0 : G) (N : Nat) : g.frz ⟨N, []⟩ g0 = { w := g.w, S := g.S, al := g0.al, loc := g0.loc, cp := g0.cp } := by
  simp only [G.frz, Hp.get, findOb]
  congr 1
  funext b
  simp

theorem GlOk.frz {gl : Nat → Option T} (hz : GlFrz gl) {g g0 : G} {H : Hp} (hs : St g H) (h : GlOk gl g) : GlOk gl (g.frz H g0) := fun j t ht => by
  obtain ⟨n, hn⟩ := hz j t ht
  obtain ⟨h1, h2, h3⟩ := h j t ht
  exact ⟨frz_ok hs n t t _ (frz_bare n 0 H t t hn) h1, .inl h2, h3⟩

/-- Contracts on trees that hold no objects. -/
def PcOk (P : Program) (gl : Nat → Option T) (pe : FuncId → List T → Option T) : Prop :=
  ∀ f ts r, pe f ts = some r → okFn P f = true ∧ ∀ (g : G) (vs : List Value), Gok g → (∀ l, ¬ g.al l) → GlOk gl g → RdL g vs ts →
    Calls P f vs.toArray g.w fun e w' => ∃ v g', e = .returned v ∧ g'.w = w' ∧ PStep g g' ∧ Gok g' ∧ Rd g' v r

theorem scal1_rd {g g' : G} {v : Value} {t : T} (h : scal1 t = true) (hr : Rd g v t) : Rd g' v t := by
  cases hr <;> simp [scal1] at h <;> constructor

theorem scal_rd {g g' : G} {v : Value} {t : T} (h : scal t = true) (hr : Rd g v t) : Rd g' v t := by
  cases hr with
  | agg cs vs h1 h2 =>
    simp only [scal, List.all_eq_true] at h
    exact .agg cs vs h1 (fun j v c hv hc => scal1_rd (h c (List.mem_of_getElem? hc)) (h2 j v c hv hc))
  | tup cs vs h1 h2 =>
    simp only [scal, List.all_eq_true] at h
    exact .tup cs vs h1 (fun j v c hv hc => scal1_rd (h c (List.mem_of_getElem? hc)) (h2 j v c hv hc))
  | int k n => exact .int k n
  | bool b => exact .bool b
  | str s => exact .str s
  | nilp => exact .nilp
  | nils => exact .nils
  | nilf => exact .nilf
  | nili => exact .nili
  | nilm => exact .nilm
  | _ => simp [scal, scal1] at h

/-- A tree that is frozen holds no objects: it reads alike over a ghost with others. -/
theorem rd_frozen {g g' : G} (hw : g.w = g'.w) (hS : ∀ b, g.S b → g'.S b) (hal : ∀ l, ¬ g.al l) : ∀ {v : Value} {t : T}, Rd g v t → Rd g' v t := by
  intro v t hr
  have hc : ∀ (a : Addr) (v : Value), g.w.cell? a = some v → g'.w.cell? a = some v := fun a v h => by rw [← hw]; exact h
  induction hr with
  | int k n => exact .int k n
  | bool b => exact .bool b
  | str s => exact .str s
  | nilp => exact .nilp
  | ptr l off hl => exact absurd hl (hal l)
  | ref x off b o vs h1 hlen hcc _ ih => exact .ref x off b o vs (hS b h1) hlen (fun j v hv => hc _ _ (hcc j v hv)) ih
  | nils => exact .nils
  | slfn full f => exact .slfn full f
  | sl full xs sz b o cap vs h1 hsz h2 h3 h4 hlen hcc _ ih => exact .sl full xs sz b o cap vs (fun hx => hS b (h1 hx)) hsz h2 h3 h4 hlen (fun j v hv => hc _ _ (hcc j v hv)) ih
  | slf full n f sz b o cap vs h1 h2 h3 h4 h5 h6 h7 h8 => exact Rd.slf_keep hS (fun _ _ _ _ q => hc _ _ q) h1 h2 h3 h4 h5 h6 h7 h8
  | osl l sz i len b o cap hl => exact absurd hl (hal l)
  | nilf => exact .nilf
  | fn f a c vs us h1 _ h3 _ ih1 ih2 => exact .fn f a c vs us h1 ih1 h3 ih2
  | nili => exact .nili
  | iface t v x _ ih => exact .iface t v x ih
  | nilm => exact .nilm
  | agg cs vs h1 _ ih => exact .agg cs vs h1 ih
  | tup cs vs h1 _ ih => exact .tup cs vs h1 ih

theorem lend_ok {gl : Nat → Option T} {pe : FuncId → List T → Option T} {k : Nat} (hz : GlFrz gl) (h : PcOk P gl pe) : PeOk P gl (lend k pe) := by
  intro H f ts r hr
  unfold lend at hr
  split at hr
  · rename_i ts' hts
    obtain ⟨h1, h2⟩ := h f ts' r hr
    refine ⟨h1, fun g vs hg hs hgl hv => ?_⟩
    have hts1 : mapO (frzT k ⟨H.next, []⟩) ts = some ts' := by
      have : ∀ (ts ts' : List T), mapO (frzT k ⟨0, []⟩) ts = some ts' → mapO (frzT k ⟨H.next, []⟩) ts = some ts' := by
        intro ts
        induction ts with
        | nil => intro rs h; exact h
        | cons t ts iht =>
          intro rs h
          simp only [mapO] at h ⊢
          split at h
          · rename_i a ha
            split at h
            · rename_i b hb
              rw [frz_bare k 0 _ _ _ ha, iht _ hb]; exact h
            · cases h
          · cases h
      exact this ts ts' hts
    have hv' : RdL g.bare vs ts' := by
      have := frzL_ok (g0 := g.bare) hs.bare hts1 hv
      rw [frz_nil] at this
      exact this
    have hgl' : GlOk gl g.bare := by
      have := GlOk.frz (g0 := g.bare) hz hs.bare hgl
      rw [frz_nil] at this
      exact this
    refine (h2 g.bare vs hg (fun _ q => q) hgl' hv').mono fun e w' ⟨v, g', e1, e2, e3, e4, e5⟩ => ?_
    refine ⟨v, { w := g'.w, S := g'.S, al := g.al, loc := g.loc, cp := g.cp }, e1, e2, ⟨e3.os, e3.tape, e3.output, e3.size, e3.block, e3.sub, e3.fresh, rfl, rfl, rfl⟩, e4, ?_⟩
    exact rd_frozen (g := g') (g' := { w := g'.w, S := g'.S, al := g.al, loc := g.loc, cp := g.cp }) rfl (fun _ q => q) (by rw [e3.al]; exact fun _ q => q) e5
  · split at hr
    · rename_i ts' hts
      split at hr
      · rename_i r' hr'
        split at hr
        · rename_i hsc
          cases hr
          obtain ⟨h1, h2⟩ := h f ts' r hr'
          refine ⟨h1, fun g vs hg hs hgl hv => ?_⟩
          have hv' : RdL (g.frz H g.bare) vs ts' := frzL_ok hs hts hv
          have hgl' : GlOk gl (g.frz H g.bare) := GlOk.frz hz hs hgl
          have hg' : Gok (g.frz H g.bare) := by
            intro b hb
            rcases hb with hb | ⟨l, o, ho, rfl⟩
            · exact hg b hb
            · exact hs.lt ho
          refine (h2 (g.frz H g.bare) vs hg' (fun _ q => q) hgl' hv').mono fun e w' ⟨v, g', e1, e2, e3, e4, e5⟩ => ?_
          refine ⟨v, { w := g'.w, S := g.S, al := g.al, loc := g.loc, cp := g.cp }, e1, e2, ⟨e3.os, e3.tape, e3.output, e3.size, e3.block, fun _ q => q, fun _ q => .inl q, rfl, rfl, rfl⟩, fun b hb => Nat.lt_of_lt_of_le (hg b hb) e3.size, scal_rd hsc e5⟩
        · cases hr
      · cases hr
    · cases hr

theorem pureT_ok {E : Env} {F : Fc} (hm : P.follows .mixedOrders = true) (hE : PeOk P E.gl E.pe) (hF : EeOk P E.gl F.ee) {n k : Nat} {f : FuncId} (h2 : fnOk P f = true) {ts : List T} {r : T}
    (h : pureT P E F n k f ts = some r) (g : G) (vs : List Value) (hg : Gok g) (hal : ∀ l, ¬ g.al l) (hgl : GlOk E.gl g) (hv : RdL g vs ts) :
    Calls P f vs.toArray g.w fun e w' => ∃ v g', e = .returned v ∧ g'.w = w' ∧ PStep g g' ∧ Gok g' ∧ Rd g' v r := by
  unfold pureT at h
  split at h
  · rename_i q H' he
    have hs : St g ⟨0, []⟩ := ⟨fun l o ho => by simp [Hp.get, findOb] at ho, fun l l' o o' ho => by simp [Hp.get, findOb] at ho, fun l _ => hal l⟩
    refine (fn_ok hm hE hF h2 he g vs hg hs hgl hv).mono fun e w' ⟨v, g', e1, e2, e3, e4, e5, e6⟩ => ?_
    refine ⟨v, g'.frz H' g, e1, e2, ?_, ?_, frz_ok e5 k q r v h e6⟩
    · refine ⟨e3.os, e3.tape, e3.output, e3.size, fun b hb => e3.block b hb (fun l o ho => by simp [Hp.get, findOb] at ho), fun b hb => .inl (e3.sub b hb), fun b hb => ?_, rfl, rfl, rfl⟩
      rcases hb with hb | ⟨l, o, ho, rfl⟩
      · rcases e3.fresh b hb with q | q | ⟨l, o, ho, _⟩
        · exact .inl q
        · exact .inr q
        · simp [Hp.get, findOb] at ho
      · rcases e3.live l o ho with ⟨l0, o0, q, _⟩ | q
        · simp [Hp.get, findOb] at q
        · exact .inr q
    · intro b hb
      rcases hb with hb | ⟨l, o, ho, rfl⟩
      · exact e4 b hb
      · exact e5.lt ho
  · cases h

/-- CALLEES IN PLACE: each answer is a contract. -/
theorem runP_ok {X : Xt} (hm : P.follows .mixedOrders = true) (hpu : ∀ f, X.pu f = true → okFn P f = true ∧ fnOk P f = true) (hef : ∀ f, X.ef f = true → okFn P f = true ∧ fnOk P f = true) (hz : GlFrz X.gl) (hE : PcOk P X.gl X.pe) (hF : EeOk P X.gl X.ee) :
    ∀ d, PcOk P X.gl (runP P X d).1 ∧ EeOk P X.gl (runP P X d).2 := by
  intro d
  induction d with
  | zero => exact ⟨hE, hF⟩
  | succ d ih =>
    have hl := lend_ok (k := X.k) hz ih.1
    refine ⟨fun f ts r h => ?_, fun f ts H r H' h => ?_⟩
    · simp only [runP] at h
      split at h
      · rename_i q hq; cases h; exact hE f ts _ hq
      · split at h
        · rename_i ho
          exact ⟨(hpu f ho).1, fun g vs hg hal hgl hv => pureT_ok (E := ⟨X.gl, lend X.k (runP P X d).1⟩) (F := ⟨X.own f, (runP P X d).2⟩) hm hl ih.2 (hpu f ho).2 h g vs hg hal hgl hv⟩
        · cases h
    · simp only [runP] at h
      split at h
      · rename_i q hq; cases h; exact hF f ts H _ _ hq
      · split at h
        · rename_i ho
          exact ⟨(hef f ho).1, fun g vs hg hs hgl hv => fn_ok (E := ⟨X.gl, lend X.k (runP P X d).1⟩) (F := ⟨X.own f, (runP P X d).2⟩) hm hl ih.2 (hef f ho).2 h g vs hg hs hgl hv⟩
        · cases h
end
end Go.Ps
