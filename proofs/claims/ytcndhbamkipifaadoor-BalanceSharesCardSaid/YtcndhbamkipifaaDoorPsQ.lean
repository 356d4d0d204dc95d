/- Triples over trees: code with loops. -/
import Derived.Test.YtcndhbamkipifaaDoorPsP
namespace Go.Ps

/-- From this frame and heap the code comes to an exit, a frame and a heap of which Q holds. -/
def Good (P : Program) (E : Env) (c : Code) (fr : List T) (H : Hp) (Q : X → List T → Hp → Prop) : Prop :=
  ∀ (g0 g : G) (H0 : Hp) (a : Act), CInv E g0 H0 g a fr H → ∀ (R : Exit → Act → World → Prop), (∀ x fr' H' a' g', Q x fr' H' → CInv E g0 H0 g' a' fr' H' → R x.exit_ a' g'.w) → c.wp P R a g.w

def exitThen (N : List T → Hp → Prop) (Q : X → List T → Hp → Prop) : X → List T → Hp → Prop
  | .normal, fr, H => N fr H
  | x, fr, H => Q x fr H

def exitBlock (id : Nat) (Q : X → List T → Hp → Prop) : X → List T → Hp → Prop
  | .exit id', fr, H => if id' = id then Q .normal fr H else Q (.exit id') fr H
  | x, fr, H => Q x fr H

section
variable {P : Program} {E : Env} {c : Code} {fr : List T} {H : Hp} {Q : X → List T → Hp → Prop}

theorem Good.mono {Q' : X → List T → Hp → Prop} (h : Good P E c fr H Q) (hq : ∀ x fr' H', Q x fr' H' → Q' x fr' H') : Good P E c fr H Q' :=
  fun g0 g H0 a hc R hR => h g0 g H0 a hc R (fun x fr' H' a' g' hQ => hR x fr' H' a' g' (hq x fr' H' hQ))

theorem good_seq {c1 c2 : Code} (h : Good P E c1 fr H (exitThen (fun fr' H' => Good P E c2 fr' H' Q) Q)) : Good P E (.seq c1 c2) fr H Q := by
  intro g0 g H0 a hc R hR
  refine wp_seq (h g0 g H0 a hc _ (fun x fr' H' a' g' hQ hc' => ?_))
  cases x with
  | normal => exact hQ g0 g' H0 a' hc' R hR
  | exit id => exact hR _ _ _ _ _ hQ hc'
  | ret => exact hR _ _ _ _ _ hQ hc'

theorem good_block {id : Nat} (h : Good P E c fr H (exitBlock id Q)) : Good P E (.block id c) fr H Q := by
  intro g0 g H0 a hc R hR
  refine wp_block (h g0 g H0 a hc _ (fun x fr' H' a' g' hQ hc' => ?_))
  cases x with
  | normal => exact hR _ _ _ _ _ hQ hc'
  | exit id' =>
    simp only [exitBlock] at hQ
    simp only [X.exit_, Exit.inBlock]
    split at hQ
    · rename_i e; rw [if_pos e]; exact hR _ _ _ _ _ hQ hc'
    · rename_i e; rw [if_neg e]; exact hR _ _ _ _ _ hQ hc'
  | ret => exact hR _ _ _ _ _ hQ hc'

theorem good_scope (h : Good P E c fr H Q) : Good P E (.scope c) fr H Q := by
  intro g0 g H0 a hc R hR
  refine wp_scope_straight (h g0 g H0 a hc _ (fun x fr' H' a' g' hQ hc' => ?_))
  cases x with
  | normal => exact hR _ _ _ _ _ hQ hc'
  | exit id => exact hR _ _ _ _ _ hQ hc'
  | ret => exact hR _ _ _ _ _ hQ hc'

theorem good_cond {o : Operand} {c1 c2 : Code} {t : Bool} (ho : evalT E.gl fr o = some (.bool t)) (h1 : t = true → Good P E c1 fr H Q) (h2 : t = false → Good P E c2 fr H Q) : Good P E (.cond o c1 c2) fr H Q := by
  intro g0 g H0 a hc R hR
  have hr := (RdX.of hc.fr none).eval hc.gl (fun _ _ => by simp) ho
  refine wp_cond hr.inv_bool ?_
  cases t with
  | true => exact h1 rfl g0 g H0 a hc R hR
  | false => exact h2 rfl g0 g H0 a hc R hR

theorem rounds_more {R : Exit → Act → World → Prop} : ∀ (k : Nat) (a : Act) (w : World), Code.rounds P c R k a w → Code.rounds P c R (k + 1) a w
  | 0, _, _, h => h.elim
  | k + 1, a, w, h => by
    rw [rounds_succ] at h ⊢
    refine wp_mono h fun e a' w' q => ?_
    cases e with
    | normal => exact rounds_more k a' w' q
    | _ => exact q

theorem rounds_le {R : Exit → Act → World → Prop} {k m : Nat} (hkm : k ≤ m) {a : Act} {w : World} (h : Code.rounds P c R k a w) : Code.rounds P c R m a w := by
  induction m with
  | zero => have : k = 0 := by omega
            subst this; exact h
  | succ m ih =>
    rcases Nat.eq_or_lt_of_le hkm with e | hlt
    · exact e ▸ h
    · exact rounds_more m a w (ih (by omega))

theorem good_loop (I : Nat → List T → Hp → Prop) (hI : ∀ n fr H, I n fr H → Good P E c fr H (exitThen (fun fr' H' => ∃ m, m < n ∧ I m fr' H') Q)) : ∀ n fr H, I n fr H → Good P E (.loop c) fr H Q := by
  intro n fr H hi g0 g H0 a hc R hR
  refine wp_loop_rounds (n + 1) ?_
  have key : ∀ n fr H a g, I n fr H → CInv E g0 H0 g a fr H → Code.rounds P c R (n + 1) a g.w := by
    intro n
    induction n using Nat.strongRecOn with
    | _ n ih =>
      intro fr H a g hi hc
      rw [rounds_succ]
      refine hI n fr H hi g0 g H0 a hc _ (fun x fr' H' a' g' hQ hc' => ?_)
      cases x with
      | normal =>
        obtain ⟨m, hm, him⟩ := hQ
        exact rounds_le (k := m + 1) (by omega) (ih m hm fr' H' a' g' him hc')
      | exit id => exact hR _ _ _ _ _ hQ hc'
      | ret => exact hR _ _ _ _ _ hQ hc'
  exact key n fr H a g hi hc

/-- Code without loops, along one way. -/
theorem good_way {D : Ed} {F : Fc} (hm : P.follows .mixedOrders = true) (hE : PeOk P D.gl D.env.pe) (hF : EeOk P D.gl F.ee) (hok : codeOk c = true) {ds ds' log : List Bool} {x : X} {fr' : List T} {H' : Hp}
    (h : evalCodeD P D F c fr H ds [] = .ok (x, fr', H') ds' log) (hl : allT log = true) (hQ : Q x fr' H') : Good P D.env c fr H Q := by
  intro g0 g H0 a hc R hR
  exact code_ok hm hE hF 0 c fr H x fr' H' hok (codeD_ok 0 h hl).1 g0 g H0 a hc R (fun a' g' hc' => hR x fr' H' a' g' hQ hc')

def resultT (P : Program) (fn : Func) (fr : List T) (H : Hp) : Option T :=
  match resAll P fr H fn.results.toList with
  | some [t] => some t
  | some ts => some (.tup ts)
  | none => none

theorem result_ok {fn : Func} {g0 g : G} {H0 : Hp} {a : Act} (hc : CInv E g0 H0 g a fr H) {r : T} (hr : resultT P fn fr H = some r) : ∃ v, (results fn a.tmps).run P g.w = .ok v g.w ∧ Rd g v r := by
  unfold resultT at hr
  split at hr
  · rename_i t ht
    cases hr
    obtain ⟨us, h1, h2⟩ := resAll_ok (P := P) hc.st hc.fr ht
    match us, h2 with
    | [u], h2 =>
      refine ⟨u, ?_, (h2.inv_cons).1⟩
      have : fn.results = fn.results.toList.toArray := by simp
      rw [results_eq, this, List.mapM_toArray]
      simp only [Sem.run_bind, Sem.run_map]
      rw [h1]
      simp
    | [], h2 => simp [RdL] at h2
    | _ :: _ :: _, h2 => simp [RdL] at h2
  · rename_i ts' hne ht
    cases hr
    obtain ⟨us, h1, h2⟩ := resAll_ok (P := P) hc.st hc.fr ht
    refine ⟨.tuple us.toArray, ?_, Rd.mk_tup h2⟩
    have : fn.results = fn.results.toList.toArray := by simp
    rw [results_eq, this, List.mapM_toArray]
    simp only [Sem.run_bind, Sem.run_map]
    rw [h1]
    have hl : us.length ≠ 1 := fun q => by
      rw [h2.1] at q
      obtain ⟨t, rfl⟩ := List.length_eq_one_iff.1 q
      exact hne t rfl
    simp [hl]
  · cases hr

/-- The end of a body: it returns r. -/
def Ends (P : Program) (fn : Func) (k : Nat) (r : T) (x : X) (fr : List T) (H : Hp) : Prop := (x = .normal ∨ x = .ret) ∧ ∃ q, resultT P fn fr H = some q ∧ frzT k H q = some r

/-- A TRIPLE OF A BODY IS A CONTRACT. -/
theorem pure_good {k : Nat} {f : FuncId} {fn : Func} (h1 : okFn P f = true) (hfn : P.funcs[f]? = some fn) (hb : fn.body = some c) {ts : List T} {r : T}
    (h : ∀ N, Good P E c (ts ++ List.replicate (fn.ntmps - ts.length) undefT) ⟨N, []⟩ (Ends P fn k r)) : PureFn P E.gl f ts r := by
  refine ⟨h1, fun g vs hg ⟨N, hN⟩ hgl hv => ?_⟩
  have hs : St g ⟨N, []⟩ := ⟨fun l o ho => by simp [Hp.get, findOb] at ho, fun l l' o o' ho => by simp [Hp.get, findOb] at ho, hN⟩
  have hframe : RdL g (vs.toArray ++ Array.replicate (fn.ntmps - vs.toArray.size) undef).toList (ts ++ List.replicate (fn.ntmps - ts.length) undefT) := by
    have : (vs.toArray ++ Array.replicate (fn.ntmps - vs.toArray.size) undef).toList = vs ++ List.replicate (fn.ntmps - ts.length) undef := by simp [hv.1]
    rw [this]
    exact hv.append (RdL.replicate _ Rd.undef)
  have hinv : CInv E g ⟨N, []⟩ g { tmps := vs.toArray ++ Array.replicate (fn.ntmps - vs.toArray.size) undef, defers := [] } (ts ++ List.replicate (fn.ntmps - ts.length) undefT) ⟨N, []⟩ := ⟨hg, hs, hgl, rfl, hframe, SStep.refl _ g⟩
  refine calls_of_wp hfn hb (h N g g ⟨N, []⟩ _ hinv _ (fun x fr' H' a' g' hQ hc => ?_))
  obtain ⟨hx, q, hq, hz⟩ := hQ
  obtain ⟨v, hv1, hv2⟩ := result_ok (fn := fn) hc hq
  have e3 := hc.step
  have fin : ∃ v' g'', Ending.returned v = .returned v' ∧ g''.w = g'.w ∧ PStep g g'' ∧ Gok g'' ∧ Rd g'' v' r := by
    refine ⟨v, g'.frz H' g, rfl, rfl, ?_, ?_, frz_ok hc.st k q r v hz hv2⟩
    · refine ⟨e3.os, e3.tape, e3.output, e3.size, fun b hb => e3.block b hb (fun l o ho => by simp [Hp.get, findOb] at ho), fun b hb => .inl (e3.sub b hb), fun b hb => ?_, rfl, rfl, rfl⟩
      rcases hb with hb | ⟨l, o, ho, rfl⟩
      · rcases e3.fresh b hb with q | q | ⟨l, o, ho, _⟩
        · exact .inl q
        · exact .inr q
        · simp [Hp.get, findOb] at ho
      · rcases e3.live l o ho with ⟨l0, o0, q, _⟩ | q
        · simp [Hp.get, findOb] at q
        · exact .inr q
    · intro b hb
      rcases hb with hb | ⟨l, o, ho, rfl⟩
      · exact hc.ok b hb
      · exact hc.st.lt ho
  rcases hx with rfl | rfl
  · exact ⟨hc.df, v, hv1, fin⟩
  · exact ⟨hc.df, v, hv1, fin⟩

end

/-- A new contract beside the old ones. -/
def pdAdd (f : FuncId) (spec : List T → Option (T × List Bool)) (pd : Hp → FuncId → List T → Option (T × List Bool)) : Hp → FuncId → List T → Option (T × List Bool) := fun H g ts => if g = f then spec ts else pd H g ts

theorem pdAdd_ok {P : Program} {gl : Nat → Option T} {f : FuncId} {spec : List T → Option (T × List Bool)} {pd : Hp → FuncId → List T → Option (T × List Bool)} (h : PeOk P gl (Ed.env ⟨gl, pd⟩).pe)
    (hs : ∀ ts r cs, spec ts = some (r, cs) → allT cs = true → PureFn P gl f ts r) : PeOk P gl (Ed.env ⟨gl, pdAdd f spec pd⟩).pe := by
  intro H k ts r hr
  simp only [Ed.env, pdAdd] at hr
  by_cases e : k = f
  · subst e
    simp only [if_true] at hr
    split at hr
    · rename_i q cs hq
      split at hr
      · rename_i hc
        simp only [Option.some.injEq] at hr
        subst hr
        have := hs ts _ cs hq hc
        exact ⟨this.1, fun g vs hg hst => this.2 g vs hg ⟨H.next, hst.new⟩⟩
      · cases hr
    · cases hr
  · rw [if_neg e] at hr
    exact h H k ts r hr

theorem pdNone_ok {P : Program} {gl : Nat → Option T} : PeOk P gl (Ed.env ⟨gl, fun _ _ _ => none⟩).pe := fun H f ts r h => by simp [Ed.env] at h
theorem eeNone_ok {P : Program} {gl : Nat → Option T} : EeOk P gl (fun _ _ _ => none) := fun f ts H r H' h => by cases h

/-- A frame of which some slots are known: the list written out. -/
def ovl (kn : List (Nat × T)) (fr : List T) : Nat → Nat → List T
  | _, 0 => []
  | k, n + 1 => (match kn.lookup k with | some v => v | none => getT fr k) :: ovl kn fr (k + 1) n

theorem ovl_eq (kn : List (Nat × T)) (fr : List T) (hk : ∀ k v, kn.lookup k = some v → getT fr k = v) : ∀ (n k : Nat), k + n = fr.length → ovl kn fr k n = fr.drop k
  | 0, k, h => by simp [ovl]; omega
  | n + 1, k, h => by
    simp only [ovl]
    rw [ovl_eq kn fr hk n (k + 1) (by omega), List.drop_eq_getElem_cons (show k < fr.length by omega)]
    congr 1
    split
    · rename_i v hv
      have := hk k v hv
      rw [← this]
      unfold getT
      rw [List.getD_eq_getElem?_getD, List.getElem?_eq_getElem (by omega)]; rfl
    · unfold getT
      rw [List.getD_eq_getElem?_getD, List.getElem?_eq_getElem (by omega)]; rfl

end Go.Ps
