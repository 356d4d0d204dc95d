/- The ways from cut to cut, told by what the kernel finds: kept slots, the heap, what was asked. -/
import Derived.Test.YtcndhbamkipifaaDoorPsV
namespace Go.Ps

def bodyOf (f : Func) : Code :=
  match f.body with
  | some c => c
  | none => .skip

/-- The i-th loop of a function, with what stands behind it. -/
def loopAt (f : Func) (i : Nat) : Code × List Ki := (loopsOf (bodyOf f) []).getD i (.skip, [])

inductive OutT where
  | again (j : Nat)
  | done (r : Option T)
  | loop (j : Nat) (c : Code) (ks : List Ki)

def resF (P : Program) (fn : Func) (k : Nat) (fr : List T) (H : Hp) : Option T :=
  match resultT P fn fr H with
  | some q => frzT k H q
  | none => none

def outK (P : Program) (fn : Func) (k : Nat) (keep : List Nat) : RD Out → Option (OutT × List Bool × Hp × List T × Nat)
  | .ok (.again j fr H) _ log => some (.again j, log, H, keep.map (getT fr), fr.length)
  | .ok (.done .normal fr H) _ log => some (.done (resF P fn k fr H), log, ⟨0, []⟩, [], 0)
  | .ok (.done .ret fr H) _ log => some (.done (resF P fn k fr H), log, ⟨0, []⟩, [], 0)
  | .ok (.loop j c ks fr H) _ log => some (.loop j c ks, log, H, keep.map (getT fr), fr.length)
  | _ => none

/-- A frame of which the kept slots are known. -/
def frK (keep : List Nat) (vs : List T) (fr : List T) (len : Nat) : List T := ovl (keep.zip vs) fr 0 len

theorem zip_lookup {fr : List T} : ∀ (keep : List Nat) (vs : List T), keep.map (getT fr) = vs → ∀ k v, (keep.zip vs).lookup k = some v → getT fr k = v
  | [], _, _, k, v, h => by simp at h
  | x :: xs, [], e, k, v, h => by simp at h
  | x :: xs, y :: ys, e, k, v, h => by
    simp only [List.map_cons, List.cons.injEq] at e
    simp only [List.zip_cons_cons, List.lookup_cons] at h
    split at h
    · rename_i hk
      have : k = x := by simpa using hk
      cases h; rw [this]; exact e.1
    · exact zip_lookup xs ys e.2 k v h

theorem frK_eq {keep : List Nat} {vs fr : List T} {len : Nat} (h1 : keep.map (getT fr) = vs) (h2 : fr.length = len) : frK keep vs fr len = fr := by
  unfold frK
  rw [ovl_eq (keep.zip vs) fr (zip_lookup keep vs h1) len 0 (by omega)]
  rfl

section
variable {P : Program} {D : Ed} {F : Fc} {As : List (List T → Hp → Prop)} {fn : Func} {k : Nat} {res : T} {keep : List Nat} {N : Nat} {m : Md} {ks : List Ki} {fr : List T} {H H' : Hp} {ds log : List Bool} {vs : List T} {len : Nat}

theorem way_done {r : Option T} (hm : P.follows .mixedOrders = true) (hE : PeOk P D.gl D.env.pe) (hF : EeOk P D.gl F.ee) (hmo : mdOk m = true) (hko : ksOk ks = true)
    (h : outK P fn k keep (runK P D F N m ks 0 fr H ds []) = some (.done r, log, H', vs, len)) (hr : r = some res) (hl : allT log = true) : mdGood P D.env fr H (postK P D.env (Ends P fn k res) ks As) m := by
  subst hr
  have key : ∀ (x : X) (fr1 : List T) (H1 : Hp) (ds1 : List Bool), (x = .normal ∨ x = .ret) → runK P D F N m ks 0 fr H ds [] = .ok (.done x fr1 H1) ds1 log → resF P fn k fr1 H1 = some res → mdGood P D.env fr H (postK P D.env (Ends P fn k res) ks As) m := by
    intro x fr1 H1 ds1 hx hr1 hres
    refine (runK_ok hm hE hF _ _ _ _ _ _ _ _ _ _ _ hr1 hl hmo hko).2 ⟨hx, ?_⟩
    unfold resF at hres
    split at hres
    · rename_i q hq; exact ⟨q, hq, hres⟩
    · cases hres
  unfold outK at h
  split at h <;> try cases h
  · rename_i fr1 H1 ds1 log1 hr1
    simp only [Option.some.injEq, Prod.mk.injEq, OutT.done.injEq] at h
    obtain ⟨e1, rfl, _⟩ := h
    exact key _ fr1 H1 ds1 (.inl rfl) hr1 e1
  · rename_i fr1 H1 ds1 log1 hr1
    simp only [Option.some.injEq, Prod.mk.injEq, OutT.done.injEq] at h
    obtain ⟨e1, rfl, _⟩ := h
    exact key _ fr1 H1 ds1 (.inr rfl) hr1 e1

theorem way_again (hm : P.follows .mixedOrders = true) (hE : PeOk P D.gl D.env.pe) (hF : EeOk P D.gl F.ee) (hmo : mdOk m = true) (hko : ksOk ks = true) {Q : X → List T → Hp → Prop} {j : Nat}
    (h : outK P fn k keep (runK P D F N m ks 0 fr H ds []) = some (.again j, log, H', vs, len)) (hl : allT log = true) {A : List T → Hp → Prop} (hA : As[j]? = some A) (hq : ∀ fr', keep.map (getT fr') = vs → fr'.length = len → A fr' H') :
    mdGood P D.env fr H (postK P D.env Q ks As) m := by
  unfold outK at h
  split at h <;> cases h
  rename_i fr1 ds1 hr1
  exact (runK_ok hm hE hF _ _ _ _ _ _ _ _ _ _ _ hr1 hl hmo hko).2 ⟨A, hA, hq fr1 rfl rfl⟩

theorem way_loop (hm : P.follows .mixedOrders = true) (hE : PeOk P D.gl D.env.pe) (hF : EeOk P D.gl F.ee) (hmo : mdOk m = true) (hko : ksOk ks = true) {Q : X → List T → Hp → Prop} {j : Nat} {c : Code} {ks' : List Ki}
    (h : outK P fn k keep (runK P D F N m ks 0 fr H ds []) = some (.loop j c ks', log, H', vs, len)) (hl : allT log = true) (hq : ∀ fr', keep.map (getT fr') = vs → fr'.length = len → Good P D.env (.loop c) fr' H' (postK P D.env Q ks' (As.drop j))) :
    mdGood P D.env fr H (postK P D.env Q ks As) m := by
  unfold outK at h
  split at h <;> cases h
  rename_i fr1 ds1 hr1
  exact (runK_ok hm hE hF _ _ _ _ _ _ _ _ _ _ _ hr1 hl hmo hko).2 (hq fr1 rfl rfl)

theorem mapO_ints {H : Hp} {d : Nat} : ∀ (C : List T), (C.all scal1) = true → mapO (frzT (d + 1) H) C = some C
  | [], _ => rfl
  | c :: r, h => by
    simp only [List.all_cons, Bool.and_eq_true] at h
    have e : frzT (d + 1) H c = some c := by cases c <;> simp [scal1] at h <;> rfl
    simp only [mapO, e, mapO_ints r h.2]

theorem scal1_notAgg : ∀ (C : List T), (C.all scal1) = true → (C.all fun c => !c.isAgg) = true
  | [], _ => rfl
  | c :: r, h => by
    simp only [List.all_cons, Bool.and_eq_true] at h ⊢
    exact ⟨by cases c <;> simp [scal1] at h <;> rfl, scal1_notAgg r h.2⟩

/-- A row of plain values, given out. -/
theorem frz_row {H : Hp} {d l n : Nat} {o : Ob} (ho : H.get l = some o) (hsz : o.sz = 1) (hn : o.cells.length = n) (hs : (o.cells.all scal1) = true) : frzT (d + 2) H (.osl l 1 0 n) = some (T.sl false o.cells) := by
  have hm := mapO_ints (H := H) (d := d) _ hs
  have e : (o.cells.drop (0 * 1)).take (n * 1) = o.cells := by simp [← hn]
  show (match H.get l with
      | some o => if 1 ≠ 0 ∧ o.sz = 1 ∧ (0 + n) * 1 ≤ o.cells.length then
          match mapO (frzT (d + 1) H) ((o.cells.drop (0 * 1)).take (n * 1)) with
          | some cs => if 1 = 1 then (if (cs.all fun c => !c.isAgg) then some (T.sl false cs) else none) else some (T.sl false (chunk 1 n cs))
          | none => none
        else none
      | none => none) = some (T.sl false o.cells)
  rw [ho]
  simp only
  rw [if_pos ⟨by decide, hsz, by omega⟩, e, hm]
  simp only [if_true, scal1_notAgg _ hs]

/-- A loop whose state is told by data. -/
theorem loop_data {E : Env} {Q : X → List T → Hp → Prop} {α : Type} (keep : List Nat) (len : Nat) (vs : α → List T) (Hd : α → Hp) (ok : α → Prop) (ms : α → Nat) {c : Code} {ks : List Ki} {As : List (List T → Hp → Prop)}
    (hb : ∀ a fr, ok a → Good P E c (frK keep (vs a) fr len) (Hd a) (postK P E Q (.lp :: ks) ((fun fr' H' => ∃ b, ms b < ms a ∧ ok b ∧ keep.map (getT fr') = vs b ∧ fr'.length = len ∧ H' = Hd b) :: As))) :
    ∀ a fr H, ok a → keep.map (getT fr) = vs a → fr.length = len → H = Hd a → Good P E (.loop c) fr H (postK P E Q ks As) := by
  intro a fr H h1 h2 h3 h4
  refine good_loop (fun n fr H => ∃ a, ms a = n ∧ ok a ∧ keep.map (getT fr) = vs a ∧ fr.length = len ∧ H = Hd a) (fun n fr H ⟨a, e, q1, q2, q3, q4⟩ => ?_) (ms a) fr H ⟨a, rfl, h1, h2, h3, h4⟩
  subst e; subst q4
  have := hb a fr q1
  rw [frK_eq q2 q3] at this
  refine this.mono fun x fr' H' hp => ?_
  simp only [postK] at hp
  cases x with
  | normal =>
    obtain ⟨b, z1, z2, z3, z4, z5⟩ := hp
    exact ⟨ms b, z1, b, rfl, z2, z3, z4, z5⟩
  | exit id => exact hp
  | ret => exact hp

/-- Arguments that hold no objects: the call's own objects begin at nought. -/
theorem pure_good0 {E : Env} {c : Code} {f : FuncId} {fn : Func} (hz : GlFrz E.gl) (h1 : okFn P f = true) (hfn : P.funcs[f]? = some fn) (hb : fn.body = some c) {ts : List T} {r : T} {d : Nat} (hts : mapO (frzT d ⟨0, []⟩) ts = some ts)
    (h : Good P E c (ts ++ List.replicate (fn.ntmps - ts.length) undefT) ⟨0, []⟩ (Ends P fn k r)) : PureFn P E.gl f ts r := by
  refine ⟨h1, fun g vs hg ⟨N, hN⟩ hgl hv => ?_⟩
  have hsN : St g ⟨N, []⟩ := ⟨fun l o ho => by simp [Hp.get, findOb] at ho, fun l l' o o' ho => by simp [Hp.get, findOb] at ho, hN⟩
  have hts1 : mapO (frzT d ⟨N, []⟩) ts = some ts := by
    have : ∀ (ts ts' : List T), mapO (frzT d ⟨0, []⟩) ts = some ts' → mapO (frzT d ⟨N, []⟩) ts = some ts' := by
      intro ts
      induction ts with
      | nil => intro rs h; exact h
      | cons t ts iht =>
        intro rs h
        simp only [mapO] at h ⊢
        split at h
        · rename_i a ha
          split at h
          · rename_i b hb
            rw [frz_bare d 0 _ _ _ ha, iht _ hb]; exact h
          · cases h
        · cases h
    exact this ts ts hts
  have hv' : RdL g.bare vs ts := by
    have := frzL_ok (g0 := g.bare) hsN hts1 hv
    rw [frz_nil] at this
    exact this
  have hgl' : GlOk E.gl g.bare := by
    have := GlOk.frz (g0 := g.bare) hz hsN hgl
    rw [frz_nil] at this
    exact this
  have hs : St g.bare ⟨0, []⟩ := ⟨fun l o ho => by simp [Hp.get, findOb] at ho, fun l l' o o' ho => by simp [Hp.get, findOb] at ho, fun l _ q => q⟩
  have hframe : RdL g.bare (vs.toArray ++ Array.replicate (fn.ntmps - vs.toArray.size) undef).toList (ts ++ List.replicate (fn.ntmps - ts.length) undefT) := by
    have : (vs.toArray ++ Array.replicate (fn.ntmps - vs.toArray.size) undef).toList = vs ++ List.replicate (fn.ntmps - ts.length) undef := by simp [hv.1]
    rw [this]
    exact hv'.append (RdL.replicate _ Rd.undef)
  have hinv : CInv E g.bare ⟨0, []⟩ g.bare { tmps := vs.toArray ++ Array.replicate (fn.ntmps - vs.toArray.size) undef, defers := [] } (ts ++ List.replicate (fn.ntmps - ts.length) undefT) ⟨0, []⟩ := ⟨hg, hs, hgl', rfl, hframe, SStep.refl _ _⟩
  refine calls_of_wp hfn hb (h g.bare g.bare ⟨0, []⟩ _ hinv _ (fun x fr' H' a' g' hQ hc => ?_))
  obtain ⟨hx, q, hq, hz⟩ := hQ
  obtain ⟨v, hv1, hv2⟩ := result_ok (fn := fn) hc hq
  have e3 := hc.step
  have fin : ∃ v' g'', Ending.returned v = .returned v' ∧ g''.w = g'.w ∧ PStep g g'' ∧ Gok g'' ∧ Rd g'' v' r := by
    refine ⟨v, g'.frz H' g, rfl, rfl, ?_, ?_, frz_ok hc.st k q r v hz hv2⟩
    · refine ⟨e3.os, e3.tape, e3.output, e3.size, fun b hb => e3.block b hb (fun l o ho => by simp [Hp.get, findOb] at ho), fun b hb => .inl (e3.sub b hb), fun b hb => ?_, rfl, rfl, rfl⟩
      rcases hb with hb | ⟨l, o, ho, rfl⟩
      · rcases e3.fresh b hb with q | q | ⟨l, o, ho, _⟩
        · exact .inl q
        · exact .inr q
        · simp [Hp.get, findOb] at ho
      · rcases e3.live l o ho with ⟨l0, o0, q, _⟩ | q
        · simp [Hp.get, findOb] at q
        · exact .inr q
    · intro b hb
      rcases hb with hb | ⟨l, o, ho, rfl⟩
      · exact hc.ok b hb
      · exact hc.st.lt ho
  rcases hx with rfl | rfl
  · exact ⟨hc.df, v, hv1, fin⟩
  · exact ⟨hc.df, v, hv1, fin⟩
end
end Go.Ps
