/- Code and functions: what the evaluator says is a contract. -/
import Derived.Test.YtcndhbamkipifaaDoorPsK
import Derived.LoopN
import Derived.Scope
namespace Go.Ps

structure CInv (E : Env) (g0 : G) (H0 : Hp) (g : G) (a : Act) (fr : List T) (H : Hp) : Prop where
  ok : Gok g
  st : St g H
  gl : GlOk E.gl g
  df : a.defers = []
  fr : RdL g a.tmps.toList fr
  step : SStep H0 g0 H g

def X.exit_ : X → Exit
  | .normal => .normal
  | .exit id => .exit id
  | .ret => .ret

section
variable {P : Program} {E : Env} {F : Fc}

theorem CInv.toInv {g0 g : G} {H0 H : Hp} {a : Act} {fr : List T} (h : CInv E g0 H0 g a fr H) : Inv P E g H g a ⟨fr, H, none⟩ :=
  ⟨h.ok, h.st, h.gl, h.df, RdX.of h.fr none, fun d t q => (by cases q), SStep.refl H g⟩

theorem Inv.toC {g0 g1 g : G} {H0 H1 : Hp} {a : Act} {s : Fx} (hs : SStep H0 g0 H1 g1) (h : Inv P E g1 H1 g a s) (hp : s.pend = none) : CInv E g0 H0 g a s.fr s.H :=
  ⟨h.ok, h.st, h.gl, h.df, RdX.all (by have := h.fr; rw [hp] at this; exact this), hs.trans h.step⟩

theorem region_ok (hm : P.follows .mixedOrders = true) (hE : PeOk P E.gl E.pe) (hF : EeOk P E.gl F.ee) {id : Nat} {ops : Array Oper} {draw : Bool} (hok : draw = true → drawOk ops = true) {fr fr' : List T} {H H' : Hp}
    (he : (if draw then evalDraw P E F ops ops.toList 0 ⟨fr, H, none⟩ else evalSeq P E F ops ops.toList ⟨fr, H, none⟩) = some ⟨fr', H', none⟩) {g0 g : G} {H0 : Hp} {a : Act} (hc : CInv E g0 H0 g a fr H)
    {Q : Exit → Act → World → Prop} (hQ : ∀ a' g', CInv E g0 H0 g' a' fr' H' → Q .normal a' g'.w) : (Code.region id ops draw).wp P Q a g.w := by
  cases draw with
  | false =>
    simp only [Bool.false_eq_true, if_false] at he
    refine wp_region ?_
    have := seq_ok (P := P) (E := E) (F := F) (g0 := g) (H0 := H) hE hF ops.toList 0 _ _ a g (fun j => by simp) hc.toInv he (fun a' g' hi => hQ a' g' (hi.toC hc.step rfl))
    rwa [Array.length_toList, ← List.range_eq_range'] at this
  | true =>
    simp only [if_true] at he
    let gd : G := { g with w := { g.w with drawn := g.w.drawn + 1 } }
    have hp : PStep g gd := ⟨rfl, rfl, rfl, Nat.le_refl _, fun _ _ => rfl, fun _ h => h, fun _ h => .inl h, rfl, rfl, rfl⟩
    have hd := hok rfl
    obtain ⟨m, S, hml, hS0, htr, hend⟩ := trace_of (P := P) (E := E) (F := F) (ops := ops) ops.toList 0 _ _ (fun j => by simp) he
    have hml' : m ≤ ops.size := by simpa using hml
    have htrace : Trace P E F ops m S := fun i hi => by
      obtain ⟨o, ho, hps⟩ := htr i hi
      exact ⟨o, by simpa using ho, hps⟩
    have hcd : CInv E g0 H0 gd a fr H := ⟨hc.ok, hc.st.pstep hp, hc.gl.pstep hp, hc.df, hc.fr.pstep hp, hc.step.trans hp.toS⟩
    refine wp_region_any hm ?_
    have hinv : DInv P E ops m S gd H (Array.replicate ops.size false) gd a := by
      refine ⟨by simp, fun i o ho hl => ?_, fun i hl => ?_, hcd.ok, by rw [hS0]; exact hcd.st, hcd.gl, hcd.df, by rw [hS0]; have := hcd.fr.1; simpa using this, ?_, ?_, by rw [hS0]; exact SStep.refl H gd⟩
      · unfold Ld at hl
        by_cases q : i < ops.size <;> simp [q] at hl
      · unfold Ld at hl
        by_cases q : i < ops.size <;> simp [q] at hl
      · intro t i v c hi h1 h2 hpn hv hcc
        have hno : ∀ j o, j < i → ops[j]? = some o → o.dst ≠ some t := fun j o hj ho hdd => by
          have := h1 j o hj ho hdd
          unfold Ld at this
          by_cases q : j < ops.size <;> simp [q] at this
        have := htrace.same (t := t) i 0 (by omega) (fun j o _ hj ho => hno j o (by omega) ho)
        rw [Nat.zero_add] at this
        rw [this, hS0] at hcc
        exact hcd.fr.2 t v c (by simpa using hv) hcc
      · intro p d t _ _ _ hl
        unfold Ld at hl
        by_cases q : p < ops.size <;> simp [q] at hl
    have hcnt : cnt (Array.replicate ops.size false) = ops.size := by simp [cnt]
    refine draw_any hE hd htrace (by rw [hS0]) hml' (fun hlt => ?_) (fun a' g' hi => ?_) ops.size _ a gd hinv hcnt
    · rcases hend with ⟨e, _⟩ | ⟨_, e, _⟩
      · simp at e; omega
      · simpa using e
    · rcases hend with ⟨e1, e2, e3⟩ | ⟨e1, _, e3⟩
      · have : m = ops.size := by simpa using e1
        rw [this, Nat.sub_self]
        show Q .normal a' g'.w
        have := hi.toC (P := P) hcd.step e2
        rw [← e3] at this
        exact hQ a' g' this
      · have := seq_ok (P := P) (E := E) (F := F) (g0 := gd) (H0 := H) hE hF (ops.toList.drop m) m _ _ a' g' (fun j => by simp) hi e3 (fun a'' g'' hi' => hQ a'' g'' (hi'.toC hcd.step rfl))
        rwa [List.length_drop, Array.length_toList] at this

theorem code_ok (hm : P.follows .mixedOrders = true) (hE : PeOk P E.gl E.pe) (hF : EeOk P E.gl F.ee) (n : Nat) : ∀ (c : Code) (fr : List T) (H : Hp) (x : X) (fr' : List T) (H' : Hp), codeOk c = true → evalCode P E F n c fr H = some (x, fr', H') →
    ∀ (g0 g : G) (H0 : Hp) (a : Act), CInv E g0 H0 g a fr H → ∀ (Q : Exit → Act → World → Prop), (∀ a' g', CInv E g0 H0 g' a' fr' H' → Q x.exit_ a' g'.w) → c.wp P Q a g.w := by
  intro c
  induction c with
  | skip =>
    intro fr H x fr' H' _ he g0 g H0 a hc Q hQ
    simp only [evalCode, Option.some.injEq, Prod.mk.injEq] at he
    obtain ⟨rfl, rfl, rfl⟩ := he
    exact wp_skip (hQ a g hc)
  | label l =>
    intro fr H x fr' H' _ he g0 g H0 a hc Q hQ
    simp only [evalCode, Option.some.injEq, Prod.mk.injEq] at he
    obtain ⟨rfl, rfl, rfl⟩ := he
    exact wp_label (hQ a g hc)
  | region id ops draw =>
    intro fr H x fr' H' hok he g0 g H0 a hc Q hQ
    simp only [evalCode] at he
    split at he
    · rename_i f1 h1 hr
      cases he
      exact region_ok hm hE hF (fun q => by subst q; simpa [codeOk] using hok) hr hc hQ
    · cases he
  | seq c1 c2 ih1 ih2 =>
    intro fr H x fr' H' hok he g0 g H0 a hc Q hQ
    simp only [codeOk, Bool.and_eq_true] at hok
    simp only [evalCode] at he
    refine wp_seq ?_
    split at he
    · rename_i f1 h1 hr
      exact ih1 _ _ _ _ _ hok.1 hr g0 g H0 a hc _ (fun a' g' hc' => ih2 _ _ _ _ _ hok.2 he g0 g' H0 a' hc' Q hQ)
    · rename_i hr
      refine ih1 _ _ _ _ _ hok.1 he g0 g H0 a hc _ (fun a' g' hc' => ?_)
      cases x with
      | normal => exact absurd he (hr _ _)
      | exit id => exact hQ a' g' hc'
      | ret => exact hQ a' g' hc'
  | cond o c1 c2 ih1 ih2 =>
    intro fr H x fr' H' hok he g0 g H0 a hc Q hQ
    simp only [codeOk, Bool.and_eq_true] at hok
    simp only [evalCode] at he
    split at he
    · rename_i b hb
      have hr := (RdX.of hc.fr none).eval hc.gl (fun _ _ => by simp) hb
      refine wp_cond hr.inv_bool ?_
      cases b with
      | true => exact ih1 _ _ _ _ _ hok.1 (by simpa using he) g0 g H0 a hc Q hQ
      | false => exact ih2 _ _ _ _ _ hok.2 (by simpa using he) g0 g H0 a hc Q hQ
    · cases he
  | block id c ih =>
    intro fr H x fr' H' hok he g0 g H0 a hc Q hQ
    simp only [codeOk] at hok
    simp only [evalCode] at he
    refine wp_block ?_
    split at he
    · rename_i id' f1 h1 hr
      refine ih _ _ _ _ _ hok hr g0 g H0 a hc _ (fun a' g' hc' => ?_)
      simp only [X.exit_, Exit.inBlock]
      split at he
      · rename_i e; cases he; rw [if_pos e]; exact hQ a' g' hc'
      · rename_i e; cases he; rw [if_neg e]; exact hQ a' g' hc'
    · rename_i hr
      refine ih _ _ _ _ _ hok he g0 g H0 a hc _ (fun a' g' hc' => ?_)
      cases x with
      | normal => exact hQ a' g' hc'
      | exit id' => exact absurd he (hr _ _ _)
      | ret => exact hQ a' g' hc'
  | loop c ih =>
    intro fr H x fr' H' hok he g0 g H0 a hc Q hQ
    simp only [codeOk] at hok
    simp only [evalCode] at he
    refine wp_loop_rounds n ?_
    have key : ∀ (k : Nat) (fr : List T) (H : Hp) (a : Act) (g : G), evalCode.loopN (fun fr H => evalCode P E F n c fr H) k fr H = some (x, fr', H') → CInv E g0 H0 g a fr H → Code.rounds P c Q k a g.w := by
      intro k
      induction k with
      | zero => intro fr H a g h; simp [evalCode.loopN] at h
      | succ k ihk =>
        intro fr H a g h hcc
        simp only [evalCode.loopN] at h
        rw [rounds_succ]
        split at h
        · rename_i f1 h1 hr
          exact ih _ _ _ _ _ hok hr g0 g H0 a hcc _ (fun a' g' hc' => ihk f1 h1 a' g' h hc')
        · rename_i hr
          refine ih _ _ _ _ _ hok h g0 g H0 a hcc _ (fun a' g' hc' => ?_)
          cases x with
          | normal => exact absurd h (hr _ _)
          | exit id => exact hQ a' g' hc'
          | ret => exact hQ a' g' hc'
    exact key n fr H a g he hc
  | scope c ih =>
    intro fr H x fr' H' hok he g0 g H0 a hc Q hQ
    simp only [codeOk] at hok
    simp only [evalCode] at he
    refine wp_scope_straight (ih _ _ _ _ _ hok he g0 g H0 a hc _ (fun a' g' hc' => ?_))
    cases x with
    | normal => exact hQ a' g' hc'
    | exit id => exact hQ a' g' hc'
    | ret => exact hQ a' g' hc'
  | exit id =>
    intro fr H x fr' H' _ he g0 g H0 a hc Q hQ
    simp only [evalCode, Option.some.injEq, Prod.mk.injEq] at he
    obtain ⟨rfl, rfl, rfl⟩ := he
    exact wp_exit (hQ a g hc)
  | ret =>
    intro fr H x fr' H' _ he g0 g H0 a hc Q hQ
    simp only [evalCode, Option.some.injEq, Prod.mk.injEq] at he
    obtain ⟨rfl, rfl, rfl⟩ := he
    exact wp_ret (hQ a g hc)
  | _ =>
    intro fr H x fr' H' _ he
    simp [evalCode] at he

def resM (tmps : Array Value) : ResultVar → Sem Value
  | .tmp t => pure (tmps.getD t undef)
  | .cell x t => do loadVar t (← asAddr (tmps.getD x undef))

theorem results_eq (fn : Func) (tmps : Array Value) : results fn tmps = (do
    let vs ← fn.results.mapM (resM tmps)
    pure (if h : vs.size = 1 then vs[0] else .tuple vs)) := by
  unfold results
  congr 1

theorem resAll_ok {g : G} {H : Hp} {a : Act} {fr : List T} (hs : St g H) (hf : RdL g a.tmps.toList fr) : ∀ {rs : List ResultVar} {ts : List T}, resAll P fr H rs = some ts →
    ∃ vs, (rs.mapM (resM a.tmps)).run P g.w = .ok vs g.w ∧ RdL g vs ts
  | [], ts, h => by simp [resAll] at h; subst h; exact ⟨[], by simp, RdL.nil⟩
  | r :: rs, ts, h => by
    simp only [resAll] at h
    split at h
    · rename_i t ht
      split at h
      · rename_i ts' hts
        cases h
        obtain ⟨vs, h1, h2⟩ := resAll_ok hs hf hts
        have hx := RdX.of hf none
        cases r with
        | tmp k =>
          simp only [resT, Option.some.injEq] at ht
          subst ht
          exact ⟨_ :: vs, by rw [List.mapM_cons]; simp only [resM, Sem.run_bind, Sem.run_pure, Result.andThen_ok, h1], RdL.cons (hx.get (by simp)) h2⟩
        | cell k ty =>
          simp only [resT] at ht
          have hk := hx.get (t := k) (by simp)
          obtain ⟨u, h3, h4⟩ := load_ok (P := P) hs ht hk
          refine ⟨u :: vs, ?_, RdL.cons h4 h2⟩
          unfold Instr.loadAt at h3
          have : ∃ A, a.tmps.getD k undef = .pointer (some A) := by
            unfold loadT at ht
            split at ht
            · rename_i cs off hc
              obtain ⟨b, o, _, e, _⟩ := cellsAt_ok hs hc hk
              exact ⟨_, e⟩
            · cases ht
          obtain ⟨A, hA⟩ := this
          rw [hA] at h3
          simp only [Instr.sureAddr, Sem.run_bind, Sem.run_pure, Result.andThen_ok] at h3
          have h5 : (resM a.tmps (.cell k ty)).run P g.w = .ok u g.w := by
            simp only [resM, hA, asAddr, Sem.run_bind, Sem.run_pure, Result.andThen_ok, h3]
          rw [List.mapM_cons]
          simp only [Sem.run_bind, h5, Sem.run_pure, Result.andThen_ok, h1]
      · cases h
    · cases h

/-- A FUNCTION, AS THE EVALUATOR SEES IT, IS A CONTRACT. -/
theorem fn_ok (hm : P.follows .mixedOrders = true) (hE : PeOk P E.gl E.pe) (hF : EeOk P E.gl F.ee) {n : Nat} {f : FuncId} (hok : fnOk P f = true) {ts : List T} {H H' : Hp} {r : T} (he : evalFn P E F n f ts H = some (r, H'))
    (g : G) (vs : List Value) (hg : Gok g) (hs : St g H) (hgl : GlOk E.gl g) (hv : RdL g vs ts) :
    Calls P f vs.toArray g.w fun e w' => ∃ v g', e = .returned v ∧ g'.w = w' ∧ SStep H g H' g' ∧ Gok g' ∧ St g' H' ∧ Rd g' v r := by
  unfold evalFn at he
  unfold fnOk at hok
  split at he
  · rename_i fn hfn
    rw [hfn] at hok
    simp only at hok
    split at he
    · rename_i c hc
      rw [hc] at hok
      simp only at hok
      have hframe : RdL g (vs.toArray ++ Array.replicate (fn.ntmps - vs.toArray.size) undef).toList (ts ++ List.replicate (fn.ntmps - ts.length) undefT) := by
        have : (vs.toArray ++ Array.replicate (fn.ntmps - vs.toArray.size) undef).toList = vs ++ List.replicate (fn.ntmps - ts.length) undef := by simp [hv.1]
        rw [this]
        exact hv.append (RdL.replicate _ Rd.undef)
      have hinv : CInv E g H g { tmps := vs.toArray ++ Array.replicate (fn.ntmps - vs.toArray.size) undef, defers := [] } (ts ++ List.replicate (fn.ntmps - ts.length) undefT) H := ⟨hg, hs, hgl, rfl, hframe, SStep.refl H g⟩
      have fin : ∀ (fr : List T) (H1 : Hp), (match resAll P fr H1 fn.results.toList with
          | some [t] => some (t, H1)
          | some ts => some (.tup ts, H1)
          | none => none) = some (r, H') → ∀ (a' : Act) (g' : G), CInv E g H g' a' fr H1 → a'.defers = [] ∧ ∃ v, (results fn a'.tmps).run P g'.w = .ok v g'.w ∧ ∃ v' g'', Ending.returned v = .returned v' ∧ g''.w = g'.w ∧ SStep H g H' g'' ∧ Gok g'' ∧ St g'' H' ∧ Rd g'' v' r := by
        intro fr H1 hr a' g' hci
        refine ⟨hci.df, ?_⟩
        have hH : H1 = H' := by
          split at hr
          · cases hr; rfl
          · cases hr; rfl
          · cases hr
        subst hH
        split at hr
        · rename_i t ht
          cases hr
          obtain ⟨us, h1, h2⟩ := resAll_ok (P := P) hci.st hci.fr ht
          match us, h2 with
          | [u], h2 =>
            refine ⟨u, ?_, u, g', rfl, rfl, hci.step, hci.ok, hci.st, (h2.inv_cons).1⟩
            have : fn.results = fn.results.toList.toArray := by simp
            rw [results_eq, this, List.mapM_toArray]
            simp only [Sem.run_bind, Sem.run_map]
            rw [h1]
            simp
          | [], h2 => simp [RdL] at h2
          | _ :: _ :: _, h2 => simp [RdL] at h2
        · rename_i ts' hne ht
          cases hr
          obtain ⟨us, h1, h2⟩ := resAll_ok (P := P) hci.st hci.fr ht
          refine ⟨.tuple us.toArray, ?_, _, g', rfl, rfl, hci.step, hci.ok, hci.st, Rd.mk_tup h2⟩
          have : fn.results = fn.results.toList.toArray := by simp
          rw [results_eq, this, List.mapM_toArray]
          simp only [Sem.run_bind, Sem.run_map]
          rw [h1]
          have hl : us.length ≠ 1 := fun q => by
            rw [h2.1] at q
            obtain ⟨t, rfl⟩ := List.length_eq_one_iff.1 q
            exact hne t rfl
          simp [hl]
        · cases hr
      refine calls_of_wp hfn hc ?_
      split at he
      · rename_i fr H1 hev
        exact code_ok hm hE hF n c _ _ _ _ _ hok hev g g H _ hinv _ (fun a' g' hci => fin fr H1 he a' g' hci)
      · rename_i fr H1 hev
        exact code_ok hm hE hF n c _ _ _ _ _ hok hev g g H _ hinv _ (fun a' g' hci => fin fr H1 he a' g' hci)
      · cases he
    · cases he
  · cases he
end
end Go.Ps
