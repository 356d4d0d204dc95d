/- Texts merged: AtT, AtU, AtV, AtW, Kc, La. -/
import Derived.Test.YthfdachbgpjafaaGreatDoorCa3
import Derived.Test.YthfdachbgpjafaaGreatDoorCa1
import Derived.Test.YthfdachbgpjafaaGreatDoorProg
import Derived.KernelRfl
import Derived.Test.YthfdachbgpjafaaGreatDoorCa2
import Derived.Lib.AtoiAllCases
set_option linter.unusedSimpArgs false
set_option linter.unusedVariables false
set_option linter.unusedSectionVars false
/- Soundness: loops, code, functions. -/
namespace Go.Ps
section
variable {ρ ρ' ρ0 ρ1 : List Int} {μ μ' μ0 μ1 : List (Option Nat)} {X : AX} {gl : Nat → Option T} {pe : Hp → FuncId → List T → Option T} {H H1 : Hp} {S S1 : AS} {P : Program}
variable {call : FuncId → List A → AS → Option (List AR)} {ee : Nat → Nat → FuncId → List T → Hp → Option (T × Hp)} {F : Tmp → Bool} {fr fr1 : List T}
variable {yld : Nat → List A → AS → Option (List AR)} {yd : Nat → Nat → Nat → List T → Hp → Option (Bool × Hp)}
def XOk (l : List (Go.Ps.X × AS)) (ρ : List Int) (μ : List (Option Nat)) (x : Go.Ps.X) (fr : List T) (H : Hp) : Prop :=
 ∃ S, (x, S) ∈ l ∧ ∃ ρ' μ', Ext ρ ρ' ∧ Ext μ μ' ∧ GS S ρ' μ' fr H
theorem XOk.lift {l l' : List (Go.Ps.X × AS)} {x : Go.Ps.X} (h : XOk l ρ μ x fr H) (hl : ∀ y ∈ l, y ∈ l') : XOk l' ρ μ x fr H := by
 obtain ⟨S, h1, h2⟩ := h; exact ⟨S, hl _ h1, h2⟩
theorem XOk.trans {l : List (Go.Ps.X × AS)} {x : Go.Ps.X} (e1 : Ext ρ ρ') (e2 : Ext μ μ') (h : XOk l ρ' μ' x fr H) : XOk l ρ μ x fr H := by
 obtain ⟨S, h1, a, b, h2, h3, h4⟩ := h; exact ⟨S, h1, a, b, e1.trans h2, e2.trans h3, h4⟩
theorem liftN_ok : ∀ (l : List Af) (q : List (Go.Ps.X × AS)), liftN l = some q → ∀ s ∈ l, s.pend = none ∧ (.normal, s.S) ∈ q
 | s :: r, q, h, z, hz => by
  simp only [liftN] at h
  split at h
  ·rename_i hp
   split at h
   ·rename_i q' hq
    cases h
    rcases List.mem_cons.1 hz with rfl | hz
    ·exact ⟨hp, List.mem_cons_self⟩
    ·obtain ⟨h1, h2⟩ := liftN_ok r q' hq z hz
     exact ⟨h1, List.mem_cons_of_mem _ h2⟩
   ·cases h
  ·cases h
theorem exitsB_mem {id : Nat} : ∀ {l : List (Go.Ps.X × AS)} {x : Go.Ps.X} {S : AS}, (x, S) ∈ l → ((match x with | .exit id' => if id' = id then .normal else .exit id' | x => x : Go.Ps.X), S) ∈ exitsB id l
 | (y, S') :: r, x, S, h => by
  rcases List.mem_cons.1 h with h | h
  ·cases h
   cases y with
   | normal => exact List.mem_cons_self
   | ret => exact List.mem_cons_self
   | exit id' =>
    simp only [exitsB]
    by_cases hi : id' = id
    ·rw [if_pos hi, if_pos (by rw [hi]; simp)]; exact List.mem_cons_self
    ·rw [if_neg hi, if_neg (by simpa using hi)]; exact List.mem_cons_self
  ·have ih := exitsB_mem (id := id) h
   cases y with
   | normal => exact List.mem_cons_of_mem _ ih
   | ret => exact List.mem_cons_of_mem _ ih
   | exit id' => exact List.mem_cons_of_mem _ ih
theorem loopOuts_ok {w : List Tmp} {la : LA} {oc : List (Nat × Nat × TA)} {Sh : AS} : ∀ (l q : List (Go.Ps.X × AS)), loopOuts S w la oc Sh l = some q → ∀ x S2, (x, S2) ∈ l →
  (x = .normal ∧ okS S w la.sp oc la.cons S2 S.nx 1 = true ∧ measOk S Sh S2 la.m0 la.ms = true) ∨ (x ≠ .normal ∧ (x, S2) ∈ q)
 | (y, S') :: r, q, h, x, S2, hm => by
  cases y with
  | normal =>
   simp only [loopOuts] at h
   split at h
   ·rename_i hc
    simp only [Bool.and_eq_true] at hc
    rcases List.mem_cons.1 hm with hm | hm
    ·cases hm; exact .inl ⟨rfl, hc⟩
    ·exact loopOuts_ok r q h x S2 hm
   ·cases h
  | ret =>
   simp only [loopOuts] at h
   split at h
   ·rename_i q' hq
    cases h
    rcases List.mem_cons.1 hm with hm | hm
    ·cases hm; exact .inr ⟨by simp, List.mem_cons_self⟩
    ·exact (loopOuts_ok r q' hq x S2 hm).imp (fun z => z) fun ⟨a, b⟩ => ⟨a, List.mem_cons_of_mem _ b⟩
   ·cases h
  | exit id =>
   simp only [loopOuts] at h
   split at h
   ·rename_i q' hq
    cases h
    rcases List.mem_cons.1 hm with hm | hm
    ·cases hm; exact .inr ⟨by simp, List.mem_cons_self⟩
    ·exact (loopOuts_ok r q' hq x S2 hm).imp (fun z => z) fun ⟨a, b⟩ => ⟨a, List.mem_cons_of_mem _ b⟩
   ·cases h
/-! ### Measures -/
noncomputable def measN (fr : List T) (H : Hp) : Meas → Option Int
 | .down p => refN fr H 0 p
 | .up p q c => match refN fr H 0 p, refN fr H 0 q with
  | some x, some y => some (y + c - x)
  | _, _ => none
theorem meas0_ok (hs : GS S ρ μ fr H) {Sh S2 : AS} {m0 : Int} {ms : Meas} (h : measOk S Sh S2 m0 ms = true) : ∃ M, measN fr H ms = some M ∧ M ≤ m0 := by
 have hz : ∀ v, ρ[0]? = some v → v + 0 = 0 := fun v hv => by rw [hs.sy.zero] at hv; cases hv; rfl
 cases ms with
 | down p =>
  simp only [measOk, Bool.and_eq_true] at h
  have h1 := h.1
  split at h1
  ·rename_i x a hp
   obtain ⟨v, v1, v2⟩ := refA_ok hs hz ⟨0, hs.sy.zero⟩ hp
   have := leq_ok hs.sy.cs h1 v1 hs.sy.zero
   exact ⟨_, v2, by omega⟩
  ·cases h1
 | up p q c =>
  simp only [measOk, Bool.and_eq_true] at h
  have h1 := h.1
  split at h1
  ·rename_i x a y b hp hq
   obtain ⟨v, v1, v2⟩ := refA_ok hs hz ⟨0, hs.sy.zero⟩ hp
   obtain ⟨w, w1, w2⟩ := refA_ok hs hz ⟨0, hs.sy.zero⟩ hq
   have := leq_ok hs.sy.cs h1 w1 v1
   exact ⟨w + b + c - (v + a), by simp only [measN, v2, w2], by omega⟩
  ·cases h1
theorem meas1_ok {Sh S2 : AS} (hh : GS Sh ρ μ fr H) (h2 : GS S2 ρ' μ' fr1 H1) (he : Ext ρ ρ') {m0 : Int} {ms : Meas} (h : measOk S Sh S2 m0 ms = true) : ∃ M M', measN fr H ms = some M ∧ measN fr1 H1 ms = some M' ∧ M' + 1 ≤ M ∧ 0 ≤ M' := by
 have hz : ∀ v, ρ[0]? = some v → v + 0 = 0 := fun v hv => by rw [hh.sy.zero] at hv; cases hv; rfl
 have hz2 : ∀ v, ρ'[0]? = some v → v + 0 = 0 := fun v hv => by rw [h2.sy.zero] at hv; cases hv; rfl
 cases ms with
 | down p =>
  simp only [measOk, Bool.and_eq_true] at h
  have h1 := h.2
  split at h1
  ·rename_i x a y b hp hq
   simp only [Bool.and_eq_true] at h1
   obtain ⟨v, v1, v2⟩ := refA_ok hh hz ⟨0, hh.sy.zero⟩ hp
   obtain ⟨w, w1, w2⟩ := refA_ok h2 hz2 ⟨0, h2.sy.zero⟩ hq
   have q1 := leq_ok h2.sy.cs h1.1 w1 (he _ _ v1)
   have q2 := leq_ok h2.sy.cs h1.2 h2.sy.zero w1
   exact ⟨_, _, v2, w2, by omega, by omega⟩
  ·cases h1
 | up p q c =>
  simp only [measOk, Bool.and_eq_true] at h
  have h1 := h.2
  split at h1
  ·rename_i x a y b x' a' y' b' hp hq hp' hq'
   simp only [Bool.and_eq_true, beq_iff_eq] at h1
   obtain ⟨k1, k2, k3, k4⟩ := h1
   have k1 := nat_beq k1
   subst k1 k2
   obtain ⟨v, v1, v2⟩ := refA_ok hh hz ⟨0, hh.sy.zero⟩ hp
   obtain ⟨w, w1, w2⟩ := refA_ok hh hz ⟨0, hh.sy.zero⟩ hq
   obtain ⟨v', v3, v4⟩ := refA_ok h2 hz2 ⟨0, h2.sy.zero⟩ hp'
   obtain ⟨w', w3, w4⟩ := refA_ok h2 hz2 ⟨0, h2.sy.zero⟩ hq'
   have := he _ _ w1
   rw [w3] at this; cases this
   have q1 := leq_ok h2.sy.cs k3 (he _ _ v1) v3
   have q2 := leq_ok h2.sy.cs k4 v3 w3
   exact ⟨w + b + c - (v + a), w + b + c - (v' + a'), by simp only [measN, v2, w2], by simp only [measN, v4, w4], by omega, by omega⟩
  ·cases h1
theorem loop_ok {H0 : Hp} (hs : GS S ρ0 μ0 fr H0) {w : List Tmp} {la : LA} {oc : List (Nat × Nat × TA)} {Sh : AS} (hi : invS S w la.sp oc la.cons la.m0 = some Sh) {l q : List (Go.Ps.X × AS)} (hq : loopOuts S w la oc Sh l = some q)
  {f : Nat → Nat → List T → Hp → Option (Go.Ps.X × List T × Hp)} (hbody : ∀ (ρ : List Int) (μ : List (Option Nat)) (fr : List T) (H : Hp), GS Sh ρ μ fr H → Ext μ0 μ → ∃ x fr' H', Ev (fun n d => f n d fr H = some (x, fr', H')) ∧ Keep H H' ∧ XOk l ρ μ x fr' H') :
  ∀ (N : Nat) (ρ : List Int) (μ : List (Option Nat)) (fr : List T) (H : Hp) (g : Int), GS Sh ρ μ fr H → Keep H0 H → Ext ρ0 ρ → Ext μ0 μ → ρ[S.nx]? = some g → 0 ≤ g → (∀ M, measN fr H la.ms = some M → M ≤ N) → ((∃ x S2, (x, S2) ∈ l ∧ x = .normal) → ∃ M, measN fr H la.ms = some M ∧ M + g ≤ la.m0) →
   ∃ x fr' H', x ≠ .normal ∧ (∃ m, ∀ n d k, m ≤ n → m ≤ d → m ≤ k → evalCode.loopN (f n d) k fr H = some (x, fr', H')) ∧ XOk q ρ0 μ0 x fr' H' := by
 intro N
 induction N with
 | zero =>
  intro ρ μ fr H g hg hkp e1 e2 hgg h0 hN hM
  obtain ⟨x, fr1, H1, ⟨m, hm⟩, hk1, S2, s1, ρ', μ', x1, x2, g2⟩ := hbody ρ μ fr H hg e2
  rcases loopOuts_ok l q hq x S2 s1 with ⟨rfl, k1, k2⟩ | ⟨k1, k2⟩
  ·obtain ⟨M, M', q1, q2, q3, q4⟩ := meas1_ok hg g2 x1 k2
   have := hN M q1
   omega
  ·refine ⟨x, fr1, H1, k1, ⟨m + 1, fun n d k hn hd hk => ?_⟩, S2, k2, ρ', μ', e1.trans x1, e2.trans x2, g2⟩
   obtain ⟨k, rfl⟩ : ∃ k', k = k' + 1 := ⟨k - 1, by omega⟩
   simp only [evalCode.loopN, hm n d (by omega) (by omega)]
   cases x <;> first | rfl | exact absurd rfl k1
 | succ N ih =>
  intro ρ μ fr H g hg hkp e1 e2 hgg h0 hN hM
  obtain ⟨x, fr1, H1, ⟨m, hm⟩, hk1, S2, s1, ρ', μ', x1, x2, g2⟩ := hbody ρ μ fr H hg e2
  rcases loopOuts_ok l q hq x S2 s1 with ⟨rfl, k1, k2⟩ | ⟨k1, k2⟩
  ·obtain ⟨M, M', q1, q2, q3, q4⟩ := meas1_ok hg g2 x1 k2
   have hN' := hN M q1
   obtain ⟨M2, q5, q6⟩ := hM ⟨_, _, s1, rfl⟩
   rw [q1] at q5; cases q5
   obtain ⟨ρ2, μ2, y1, y2, y3, y4⟩ := okS_ok (hkp.trans hk1) hs g2 (e1.trans x1) (e2.trans x2) (g := g + 1) (by omega) (by omega) (gs := S.nx) (gc := 1) (fun v hv => by rw [x1 _ _ hgg] at hv; cases hv; rfl) ⟨g, x1 _ _ hgg⟩ k1 hi
   obtain ⟨x', fr', H', z1, ⟨m', z2⟩, z3⟩ := ih ρ2 μ2 fr1 H1 (g + 1) y4 (hkp.trans hk1) y1 y2 y3 (by omega) (fun M3 h3 => by rw [q2] at h3; cases h3; omega) (fun _ => ⟨M', q2, by omega⟩)
   refine ⟨x', fr', H', z1, ⟨max m m' + 1, fun n d k hn hd hk => ?_⟩, z3⟩
   obtain ⟨k, rfl⟩ : ∃ k', k = k' + 1 := ⟨k - 1, by omega⟩
   simp only [evalCode.loopN, hm n d (by omega) (by omega)]
   exact z2 n d k (by omega) (by omega) (by omega)
  ·refine ⟨x, fr1, H1, k1, ⟨m + 1, fun n d k hn hd hk => ?_⟩, S2, k2, ρ', μ', e1.trans x1, e2.trans x2, g2⟩
   obtain ⟨k, rfl⟩ : ∃ k', k = k' + 1 := ⟨k - 1, by omega⟩
   simp only [evalCode.loopN, hm n d (by omega) (by omega)]
   cases x <;> first | rfl | exact absurd rfl k1
theorem allIn_mem {w : List Tmp} {sp : List (Tmp × TA)} : ∀ (l : List Af), allIn S w sp l = true → ∀ s ∈ l, s.pend = none ∧ okS S w sp [] [] s.S 0 0 = true
 | s :: r, h, z, hz => by
  simp only [allIn, Bool.and_eq_true] at h
  rcases List.mem_cons.1 hz with rfl | hz
  ·exact ⟨by simpa using h.1, h.2.1⟩
  ·exact allIn_mem r h.2.2 z hz
theorem joinAf_ok (hs : GS S ρ0 μ0 fr H) {w : List Tmp} {l l' : List Af} (h : joinAf S w l = some l') {fr1 : List T} {H1 : Hp} {pd : Option (Tmp × TypeId)} (hk : Keep H H1) (ho : AfOk P gl pe F l ρ0 μ0 fr1 H1 pd) : AfOk P gl pe F l' ρ0 μ0 fr1 H1 pd := by
 have gen : ∀ (s : Af) (r : List Af), (if allIn S w (spOf S.nx S.nl s r w) (s :: r) then match invS S w (spOf S.nx S.nl s r w) [] [] 0 with | some S' => some [⟨S', none, []⟩] | none => none else none) = some l' → AfOk P gl pe F (s :: r) ρ0 μ0 fr1 H1 pd → AfOk P gl pe F l' ρ0 μ0 fr1 H1 pd := by
  intro s r h ⟨z, z1, ρ1, μ1, e1, e2, e3, g1, _⟩
  split at h
  ·rename_i ha
   split at h
   ·rename_i S' hS'
    cases h
    obtain ⟨k1, k2⟩ := allIn_mem _ ha z z1
    obtain ⟨ρ2, μ2, y1, y2, _, y4⟩ := okS_ok hk hs g1 e1 e2 (g := 0) (m0 := 0) (by omega) (by omega) (gs := 0) (gc := 0) (fun v hv => by rw [g1.sy.zero] at hv; cases hv; rfl) ⟨0, g1.sy.zero⟩ k2 hS'
    exact ⟨_, List.mem_singleton_self _, ρ2, μ2, y1, y2, by rw [← e3, k1], y4, .nil⟩
   ·cases h
  ·cases h
 match l, h, ho with
 | [], h, ho => simp only [joinAf] at h; cases h; exact ho
 | [s], h, ho => simp only [joinAf] at h; cases h; exact ho
 | s :: t :: r, h, ho => exact gen s (t :: r) h ho
theorem joinG_ok (hs : GS S ρ0 μ0 fr H) {w : List Tmp} : ∀ (n : Nat) (l l' : List Af), joinG S w n l = some l' → ∀ {fr1 : List T} {H1 : Hp} {pd : Option (Tmp × TypeId)}, Keep H H1 → AfOk P gl pe F l ρ0 μ0 fr1 H1 pd → AfOk P gl pe F l' ρ0 μ0 fr1 H1 pd
 | 0, l, l', h, _, _, _, _, ho => by simp only [joinG] at h; cases h; exact ho
 | n + 1, [], l', h, _, _, _, _, ho => by simp only [joinG] at h; cases h; exact ho
 | n + 1, s :: r, l', h, fr1, H1, pd, hk, ⟨z, z1, hz⟩ => by
  simp only [joinG] at h
  split at h
  ·rename_i a ha
   split at h
   ·rename_i b hb
    cases h
    rcases List.mem_cons.1 z1 with rfl | z1
    ·exact (joinAf_ok hs ha hk ⟨z, List.mem_cons_self, hz⟩).lift fun y hy => List.mem_append_left _ hy
    ·by_cases hq : sigEq s z w = true
     ·exact (joinAf_ok hs ha hk ⟨z, List.mem_cons_of_mem _ (List.mem_filter.2 ⟨z1, hq⟩), hz⟩).lift fun y hy => List.mem_append_left _ hy
     ·exact (joinG_ok hs n _ b hb hk ⟨z, List.mem_filter.2 ⟨z1, by simpa using hq⟩, hz⟩).lift fun y hy => List.mem_append_right _ hy
   ·cases h
  ·cases h
/-! ### Rounds -/
def YldA (yld : Nat → List A → AS → Option (List AR)) (yd : Nat → Nat → Nat → List T → Hp → Option (Bool × Hp)) : Prop :=
 ∀ l args S rs, yld l args S = some rs → ∀ (ρ : List Int) (μ : List (Option Nat)) (H : Hp) (ts : List T) (x : Nat), Sy ρ S.nx S.cs → GH S.hp S.nl ρ μ H → GmL ρ μ args ts → μ[l]? = some (some x) →
  ∃ b H', Ev (fun n d => yd n d x ts H = some (b, H')) ∧ ∃ R ∈ rs, ROk ρ μ R (.bool b) H'
section
variable (P : Program) (E : Env) (e : FuncId → List T → Hp → Option (T × Hp)) (y : Nat → List T → Hp → Option (Bool × Hp)) (ow : Tmp → Bool)
noncomputable def step2 (ops : Array Oper) (s : Fx) (o : Oper) : Option Fx :=
 match (if s.pend.isNone && wantedT ops s.fr o then yieldQ E.gl s.fr o else none) with
 | some (l, ars) => match y l ars s.H with
  | some (b, H') => some ⟨putT s.fr o.dst (.bool b), H', none⟩
  | none => none
 | none => stepE P E (fcOf ow e) ops s o
end
theorem seq2_cons {E : Env} {e : FuncId → List T → Hp → Option (T × Hp)} {y : Nat → List T → Hp → Option (Bool × Hp)} {ow : Tmp → Bool} {ops : Array Oper} {o : Oper} {r : List Oper} {s s1 : Fx} (h : step2 P E e y ow ops s o = some s1) :
  seq2 P E e y ow ops (o :: r) s = seq2 P E e y ow ops r s1 := by
 simp only [seq2]
 unfold step2 at h
 split at h
 ·rename_i hq
  rw [hq]
  simp only
  split at h
  ·rename_i hy; rw [hy]; cases h; rfl
  ·cases h
 ·rename_i hq
  rw [hq]
  simp only
  rw [h]
theorem step2_keep {E : Env} {e : FuncId → List T → Hp → Option (T × Hp)} {y : Nat → List T → Hp → Option (Bool × Hp)} {ow : Tmp → Bool} (hF : EeK e) (hY : YdK y) {ops : Array Oper} {o : Oper} {s s1 : Fx} (h : step2 P E e y ow ops s o = some s1) : Keep s.H s1.H := by
 have h1 := seq2_cons (r := []) h
 exact seq2_keep hF hY (s := s) (s' := s1) (l := [o]) (h1.trans rfl)
theorem stepE_noY {E : Env} {G : Fc} {ops : Array Oper} {s s' : Fx} {o : Oper} (h : stepE P E G ops s o = some s') (hp : s.pend = none) (hw : wantedT ops s.fr o = true) : yieldQ E.gl s.fr o = none := by
 cases hq : yieldQ E.gl s.fr o with
 | none => rfl
 | some q =>
  exfalso
  unfold yieldQ at hq
  unfold stepE at h
  simp only [hp] at h
  unfold plainE at h
  rw [if_pos hw] at h
  split at hq
  ·rename_i c ho
   split at hq
   ·rename_i f hf
    split at hq
    ·rename_i l hl
     have e1 : evalP P E (ownD G o) s.H s.fr o = none := by simp only [evalP, ho, evalC, hf, hl]
     have e2 : allocOf G o = none := by simp only [allocOf, ho]
     have e3 : effT P E G s.H s.fr o = none := by simp only [effT, ho, hf, hl]
     simp only [e1, e2, e3] at h
     cases h
    ·cases hq
   ·cases hq
  ·cases hq
theorem yOf_ok (hc : Cn X gl pe) (hg : GS S ρ μ fr H) {o : Oper} {l : Nat} {xs : List Operand} (h : yOf X.gl S.fr o = some (l, xs)) {ars : List A} (ha : evAll X.gl S.fr xs = some ars) : ∃ x ts, μ[l]? = some (some x) ∧ yieldQ gl fr o = some (x, ts) ∧ GmL ρ μ ars ts := by
 unfold yOf at h
 split at h
 ·rename_i c ho
  split at h
  ·rename_i f hf
   split at h
   ·rename_i l' hl
    cases h
    obtain ⟨t, t1, t2⟩ := evA_ok hc.gl hg.sy.zero hg.fr hl
    cases t2 with
    | yl _ x hx =>
    obtain ⟨ts, u1, u2⟩ := evAll_ok hc.gl hg.sy.zero hg.fr ha
    exact ⟨x, ts, hx, by simp only [yieldQ, ho, hf, t1, u1], u2⟩
   ·cases h
  ·cases h
 ·cases h
theorem fcA_of : FcA F ee (fun n d => fcOf F (ee n d)) := ⟨fun _ _ => rfl, fun n d => fcOf_ee _ _⟩
theorem stepY_ok (hc : Cn X gl pe) (hcall : CallA call ee) (hyl : YldA yld yd) {s : Af} (hg : GS s.S ρ μ fr H) (hav : AvOk P gl pe F s.av fr H) {ops : Array Oper} {o : Oper} {l : List Af} (h : stepY P X call yld F ops s o = some l) :
  ∃ fr' H' pd, Ev (fun n d => step2 P ⟨gl, pe⟩ (ee n d) (yd n d) F ops ⟨fr, H, s.pend⟩ o = some ⟨fr', H', pd⟩) ∧ AfOk P gl pe F l ρ μ fr' H' pd := by
 unfold stepY at h
 split at h
 ·split at h
  ·cases h
  ·rename_i hpn
   have hpn : s.pend = none := by simpa using hpn
   split at h
   ·rename_i gs hgs
    obtain ⟨q, q1, q2, q3⟩ := guardA_ok hg hgs
    obtain ⟨u, u1, u2⟩ := catM_mem h q q1
    split at u1
    ·rename_i hw
     rw [q2] at hw
     unfold oneY at u1
     split at u1
     ·rename_i l' xs hy
      split at u1
      ·rename_i ars ha
       split at u1
       ·rename_i rs hrs
        cases u1
        obtain ⟨x, ts, v1, v2, v3⟩ := yOf_ok hc q3 hy ha
        obtain ⟨b, H', e1, R, r1, ρ', μ', k1, k2, k3, k4, k5⟩ := hyl _ _ _ _ hrs ρ μ H ts x q3.sy q3.hp v3 v1
        refine ⟨putT fr o.dst (.bool b), H', none, e1.mono fun n d e => ?_, _, u2 _ (List.mem_map.2 ⟨R, r1, rfl⟩), ρ', μ', k1, k2, rfl, ⟨k3, k4, (q3.fr.ext k1 k2).put k5 o.dst⟩, .nil⟩
        unfold step2
        simp only [hpn, Option.isNone_none, Bool.true_and, hw, if_true, v2, e]
       ·cases u1
      ·cases u1
     ·cases u1
    ·rename_i hw
     have hw : wantedT ops fr o = false := by rw [← q2]; simpa using hw
     cases u1
     refine ⟨putT fr o.dst undefT, H, none, .of fun n d => ?_, _, u2 _ (List.mem_singleton_self _), ρ, μ, .refl _, .refl _, rfl, ⟨q3.sy, q3.hp, q3.fr.put gm_undef o.dst⟩, .nil⟩
     unfold step2
     simp only [hpn, hw, Option.isNone_none, Bool.and_false, Bool.false_eq_true, if_false]
     unfold stepE
     simp only [plainE, hw, Bool.false_eq_true, if_false]
   ·cases h
 ·obtain ⟨fr', H', pd, e1, e2⟩ := stepA_ok (Fe := fun n d => fcOf F (ee n d)) hc hcall fcA_of hg hav h
  refine ⟨fr', H', pd, e1.mono fun n d e => ?_, e2⟩
  unfold step2
  have : (if (s.pend.isNone && wantedT ops fr o) = true then yieldQ gl fr o else none) = none := by
   split
   ·rename_i hcnd
    simp only [Bool.and_eq_true] at hcnd
    exact stepE_noY e (by simpa using hcnd.1) hcnd.2
   ·rfl
  simp only [this]
  exact e
theorem seqY_ok (hc : Cn X gl pe) (hcall : CallA call ee) (hyl : YldA yld yd) {ops : Array Oper} : ∀ (os : List Oper) (s : Af) (ρ : List Int) (μ : List (Option Nat)) (fr : List T) (H : Hp) (l : List Af), GS s.S ρ μ fr H → AvOk P gl pe F s.av fr H → seqY P X call yld F ops os s = some l →
  ∃ fr' H' pd, Ev (fun n d => seq2 P ⟨gl, pe⟩ (ee n d) (yd n d) F ops os ⟨fr, H, s.pend⟩ = some ⟨fr', H', pd⟩) ∧ AfOk P gl pe F l ρ μ fr' H' pd
 | [], s, ρ, μ, fr, H, l, hg, hav, h => by
  simp only [seqY] at h; cases h
  exact ⟨fr, H, s.pend, .of fun n d => rfl, _, List.mem_singleton_self _, ρ, μ, .refl _, .refl _, rfl, hg, hav⟩
 | o :: rest, s, ρ, μ, fr, H, l, hg, hav, h => by
  simp only [seqY] at h
  split at h
  ·rename_i q hq
   obtain ⟨fr1, H1, pd1, e1, s1, m1, ρ1, μ1, x1, x2, x3, g1, av1⟩ := stepY_ok hc hcall hyl hg hav hq
   obtain ⟨r, r1, r2⟩ := catM_mem h s1 m1
   obtain ⟨fr2, H2, pd2, e2, k2⟩ := seqY_ok hc hcall hyl rest s1 ρ1 μ1 fr1 H1 r g1 av1 r1
   rw [x3] at e2
   refine ⟨fr2, H2, pd2, (e1.and e2).mono fun n d ⟨a, b⟩ => ?_, (k2.lift r2).trans x1 x2⟩
   rw [seq2_cons a]; exact b
  ·cases h
theorem Ev.ex {p : Nat → Nat → Prop} (h : Ev p) : ∃ n d, p n d := by obtain ⟨m, hm⟩ := h; exact ⟨m, m, hm m m (Nat.le_refl _) (Nat.le_refl _)⟩
theorem seqJ_ok (hc : Cn X gl pe) (hcall : CallA call ee) (hyl : YldA yld yd) (hK : ∀ n d, EeK (ee n d)) (hKy : ∀ n d, YdK (yd n d)) (hs : GS S ρ0 μ0 fr H) {ops : Array Oper} : ∀ (os : List Oper) (w : List Tmp) (l l' : List Af) (fr1 : List T) (H1 : Hp) (pd : Option (Tmp × TypeId)), seqJ P X call yld F S ops w os l = some l' → Keep H H1 → AfOk P gl pe F l ρ0 μ0 fr1 H1 pd →
  ∃ fr' H' pd', Ev (fun n d => seq2 P ⟨gl, pe⟩ (ee n d) (yd n d) F ops os ⟨fr1, H1, pd⟩ = some ⟨fr', H', pd'⟩) ∧ AfOk P gl pe F l' ρ0 μ0 fr' H' pd'
 | [], w, l, l', fr1, H1, pd, h, _, ho => by simp only [seqJ] at h; cases h; exact ⟨fr1, H1, pd, .of fun n d => rfl, ho⟩
 | o :: rest, w, l, l', fr1, H1, pd, h, hk, ⟨s, s1, ρ1, μ1, e1, e2, e3, g1, av1⟩ => by
  simp only [seqJ] at h
  split at h
  ·rename_i q hq
   obtain ⟨u, u1, u2⟩ := catM_mem hq s s1
   obtain ⟨fr2, H2, pd2, k1, k2⟩ := stepY_ok hc hcall hyl g1 av1 u1
   have hk2 : Keep H H2 := by
    obtain ⟨n, d, e⟩ := k1.ex
    have := step2_keep (hK n d) (hKy n d) e
    exact hk.trans this
   have k3 : AfOk P gl pe F q ρ0 μ0 fr2 H2 pd2 := (k2.lift u2).trans e1 e2
   split at h
   ·rename_i l2 hl2
    have k4 : AfOk P gl pe F l2 ρ0 μ0 fr2 H2 pd2 := by
     split at hl2
     ·exact joinG_ok hs _ _ _ hl2 hk2 k3
     ·cases hl2; exact k3
    obtain ⟨fr', H', pd', k5, k6⟩ := seqJ_ok hc hcall hyl hK hKy hs rest _ l2 l' fr2 H2 pd2 h hk2 k4
    rw [e3] at k1
    refine ⟨fr', H', pd', (k1.and k5).mono fun n d ⟨a, b⟩ => ?_, k6⟩
    rw [seq2_cons a]; exact b
   ·cases h
  ·cases h
/-! ### Loops over functions -/
def RoOk (μ : List (Option Nat)) : Option Nat → Option Nat → Prop
 | none, none => True
 | some l, some x => μ[l]? = some (some x)
 | _, _ => False
theorem RoOk.ext {μ μ' : List (Option Nat)} (h : Ext μ μ') {a b : Option Nat} (hr : RoOk μ a b) : RoOk μ' a b := by
 cases a <;> cases b <;> first | trivial | exact hr.elim | exact h _ _ hr
theorem GH.atL {hp : List (Nat × AO)} {nl : Nat} {H : Hp} (hg : GH hp nl ρ μ H) {l x : Nat} {st : LoopState} {pn : Option (Option Nat)} {fa : List A} {ps : Array Tmp} {asg bd : Code} {ow : Tmp → Bool} {aa ab : An} (h : findA hp l = some (.loop st pn fa ps asg bd ow aa ab)) (hx : μ[l]? = some (some x)) :
  ∃ b r, H.any x = some b ∧ b.me = some (.loop r) ∧ r.st = st ∧ r.pe = peC pn ∧ r.ps = ps ∧ r.asg = asg ∧ r.bd = bd ∧ r.ow = ow ∧ GmL ρ μ fa (r.fr.view r.n) := by
 obtain ⟨y, h1, h2⟩ := hg.obj l _ h
 rw [hx] at h1; cases h1
 obtain ⟨b, h3, r, h4⟩ := h2 x rfl
 exact ⟨b, r, h3, h4⟩
theorem GH.newL {hp : List (Nat × AO)} {nl : Nat} {H : Hp} (hh : GH hp nl ρ μ H) {o : AO} {b : Ob} (hb : GmO ρ (μ ++ [some H.next]) o b) (ho : o.plain = false) : GH ((nl, o) :: hp) (nl + 1) ρ (μ ++ [some H.next]) (H.new b) := by
 refine ⟨by simp [hh.len], fun l q hl => ?_, fun l l' q q' x hl hl' hx hx' => ?_, fun l x hx => ?_, fun l e xs hl => ?_⟩
 ·simp only [findA] at hl
  split at hl
  ·rename_i e
   have e := Nat.eq_of_beq_eq_true e
   subst e
   cases hl
   refine ⟨some H.next, app_last hh.len _, fun x hx => ?_⟩
   cases hx
   refine ⟨b, ?_, hb⟩
   have : (H.new b).any H.next = some b := by rw [any_new, if_pos rfl]
   cases o <;> first | exact this | cases ho
  ·obtain ⟨y, h1, h2, h3⟩ := hh.extM (some H.next) l q hl
   refine ⟨y, h1, fun x hx => ?_⟩
   obtain ⟨c, h4, h5⟩ := h3 x hx
   subst hx
   exact ⟨c, by rw [obAt_new (hh.lt l x h2)]; exact h4, h5⟩
 ·rcases app_inv hh.len hx with ⟨e1, e2⟩ | ⟨e1, e2⟩
  ·rcases app_inv hh.len hx' with ⟨e3, e4⟩ | ⟨e3, e4⟩
   ·omega
   ·have := hh.lt _ _ e4; cases e2; omega
  ·rcases app_inv hh.len hx' with ⟨e3, e4⟩ | ⟨e3, e4⟩
   ·have := hh.lt _ _ e2; cases e4; omega
   ·simp only [findA] at hl hl'
    rw [if_neg (by simp; omega)] at hl hl'
    exact hh.inj l l' q q' x hl hl' e2 e4
 ·rcases app_inv hh.len hx with ⟨e1, e2⟩ | ⟨e1, e2⟩
  ·cases e2; simp [Hp.new]
  ·have := hh.lt _ _ e2; simp [Hp.new]; omega
 ·simp only [findA] at hl
  split at hl
  ·cases hl; cases ho
  ·obtain ⟨x, hx⟩ := hh.fixp l e xs hl; exact ⟨x, Ext.app _ _ _ _ hx⟩
theorem GH.putL {hp : List (Nat × AO)} {nl : Nat} {H : Hp} (hh : GH hp nl ρ μ H) {l x : Nat} {o o' : AO} {b' : Ob} (hl : findA hp l = some o) (hx : μ[l]? = some (some x)) (ho : GmO ρ μ o' b') (hp' : o'.plain = false) : GH (setA hp l o') nl ρ μ (H.put x b') := by
 refine ⟨hh.len, fun m q hm => ?_, fun m m' q q' y hm hm' hy hy' => ?_, fun m y hy => hh.lt m y hy, fun m e xs hm => ?_⟩
 ·rw [findA_set] at hm
  split at hm
  ·rename_i e
   subst e
   rw [hl] at hm; cases hm
   refine ⟨some x, hx, fun y hy => ?_⟩
   cases hy
   refine ⟨b', ?_, ho⟩
   have : (H.put x b').any x = some b' := by rw [any_put, if_pos rfl]
   cases o' <;> first | exact this | cases hp'
  ·rename_i hne
   obtain ⟨y, h1, h2⟩ := hh.obj m q hm
   refine ⟨y, h1, fun z hz => ?_⟩
   obtain ⟨c, h3, h4⟩ := h2 z hz
   subst hz
   have : z ≠ x := fun e => by subst e; exact hne (hh.inj l m o q z hl hm hx h1)
   exact ⟨c, by rw [obAt_put this]; exact h3, h4⟩
 ·have old : ∀ {m : Nat} {q : AO}, findA (setA hp l o') m = some q → ∃ q, findA hp m = some q := fun {m q} h => by
   rw [findA_set] at h
   split at h
   ·rename_i e; subst e; exact ⟨o, hl⟩
   ·exact ⟨q, h⟩
  obtain ⟨p, hp1⟩ := old hm
  obtain ⟨p', hp2⟩ := old hm'
  exact hh.inj m m' p p' y hp1 hp2 hy hy'
 ·rw [findA_set] at hm
  split at hm
  ·rw [hl] at hm; cases hm; cases hp'
  ·exact hh.fixp m e xs hm
theorem endR_ok {l : Nat} : ∀ (rs : List AR) (q : List (Go.Ps.X × AS)), endR S l rs = some q → ∀ R ∈ rs, ∃ st pn fa ps asg bd ow aa ab, findA R.hp l = some (.loop st pn fa ps asg bd ow aa ab) ∧ st ≠ .busy ∧ (jmpA pn, { fr := S.fr, hp := dropA R.hp l, nx := R.nx, nl := R.nl, cs := R.cs }) ∈ q
 | R :: rs, q, h, R', hm => by
  simp only [endR] at h
  split at h
  ·rename_i st pn fa ps asg bd ow aa ab hf
   split at h
   ·cases h
   ·rename_i hst
    split at h
    ·rename_i q' hq
     cases h
     rcases List.mem_cons.1 hm with rfl | hm
     ·exact ⟨st, pn, fa, ps, asg, bd, ow, aa, ab, hf, fun e => hst (by rw [e]; rfl), List.mem_cons_self⟩
     ·obtain ⟨st, pn, fa, ps, asg, bd, ow, aa, ab, a1, a2, a3⟩ := endR_ok rs q' hq R' hm
      exact ⟨st, pn, fa, ps, asg, bd, ow, aa, ab, a1, a2, List.mem_cons_of_mem _ a3⟩
    ·cases h
  ·cases h
theorem lpOf_eq {α : Type} {H : Hp} {l : Nat} {b : Ob} {r : Lr} (h1 : H.any l = some b) (h2 : b.me = some (.loop r)) (k : Lr → Option α) : lpOf H l k = k r := by
 unfold lpOf
 simp only [h1, okO]
 simp only [h2]
theorem roOk_of (hg : GS S ρ μ fr H) {ro ro' : Option Nat} (h : roA S ro = true) (hr : RoOk μ ro ro') : roOk H ro' = true := by
 cases ro with
 | none => cases ro' with
  | none => rfl
  | some x => exact hr.elim
 | some l => cases ro' with
  | none => exact hr.elim
  | some x =>
   simp only [roA] at h
   split at h
   ·rename_i st pn fa ps asg bd ow aa ab hf
    obtain ⟨b, r, h1, h2, _⟩ := hg.hp.atL hf hr
    simp only [roOk, isLp, h1, h2]
   ·cases h
theorem rangeA_ok (hcall : CallA call ee) (hc : Cn X gl pe) {ro ro' : Option Nat} {g : Operand} {ps : Array Tmp} {asg bd : Code} {an : An} (hg : GS S ρ μ fr H) (hro : RoOk μ ro ro') {l : List (Go.Ps.X × AS)} {J : Nat → Bool} (h : codeA P X call yld F J ro (.rangeFunc g ps asg bd) an S = some l) :
  ∃ x fr' H', Ev (fun n d => code2 P ⟨gl, pe⟩ (ee n d) (yd n d) F n ro' (.rangeFunc g ps asg bd) fr H = some (x, fr', H')) ∧ XOk l ρ μ x fr' H' := by
 simp only [codeA] at h
 split at h
 ·rename_i gf cap hgf
  split at h
  ·rename_i hra
   split at h
   ·rename_i rs hrs
    obtain ⟨t, t1, t2⟩ := evA_ok hc.gl hg.sy.zero hg.fr hgf
    cases t2 with
    | fn _ _ _ f' cap' q1 q2 q3 q4 =>
    have hf' : f' = [] := by cases f' with | nil => rfl | cons => simp at q1
    subst hf'
    obtain ⟨v1, v2⟩ := of_view' (n := fr.length) (fr := fr) rfl
    have hgm : GmO ρ (μ ++ [some H.next]) (.loop .ready none S.fr ps asg bd F an.l an.r) (lpOb ⟨.ready, none, FT.of fr 0 .nl, fr.length, ps, asg, bd, F⟩) :=
     ⟨_, rfl, rfl, rfl, rfl, rfl, rfl, rfl, by rw [v1]; exact hg.fr.ext (.refl _) (.app _ _)⟩
    have hnew := hg.hp.newL hgm rfl
    obtain ⟨r, H2, e1, R, m1, ρ', μ', k1, k2, k3, k4, k5⟩ := hcall _ _ _ _ hrs ρ (μ ++ [some H.next]) _ (.yl H.next :: cap') hg.sy hnew (GmL.cons (.yl _ _ (app_last hg.hp.len _)) (GmL.ext (.refl _) (.app _ _) ⟨q3, q4⟩))
    obtain ⟨st, pn, fa, ps', asg', bd', ow', aa, ab, w1, w2, w3⟩ := endR_ok rs l h R m1
    have hx : μ'[S.nl]? = some (some H.next) := k2 _ _ (app_last hg.hp.len _)
    obtain ⟨b, rc, z1, z2, z3, z4, _⟩ := k4.atL w1 hx
    refine ⟨jmpA pn, fr, H2.drop H.next, e1.mono fun n d e => ?_, _, w3, ρ', μ', k1, (Ext.app _ _).trans k2, k3, k4.dropR w1 hx, hg.fr.ext k1 ((Ext.app _ _).trans k2)⟩
    simp only [code2, t1]
    rw [if_pos (roOk_of hg hra hro), e]
    simp only [endL2]
    rw [lpOf_eq z1 z2, z3, z4]
    cases st <;> first | exact absurd rfl w2 | (rcases pn with _ | _ | id <;> rfl)
   ·cases h
  ·cases h
 ·cases h
theorem codeA_ok (hc : Cn X gl pe) (hcall : CallA call ee) (hyl : YldA yld yd) (hK : ∀ n d, EeK (ee n d)) (hKy : ∀ n d, YdK (yd n d)) {J : Nat → Bool} {ro ro' : Option Nat} : ∀ (c : Code) (an : An) (S : AS) (ρ : List Int) (μ : List (Option Nat)) (fr : List T) (H : Hp) (l : List (Go.Ps.X × AS)), GS S ρ μ fr H → RoOk μ ro ro' → codeA P X call yld F J ro c an S = some l →
  ∃ x fr' H', Ev (fun n d => code2 P ⟨gl, pe⟩ (ee n d) (yd n d) F n ro' c fr H = some (x, fr', H')) ∧ XOk l ρ μ x fr' H' := by
 intro c
 induction c with
 | skip => intro an S ρ μ fr H l hg hro h; simp only [codeA] at h; cases h; exact ⟨.normal, fr, H, .of fun n d => rfl, S, List.mem_singleton_self _, ρ, μ, .refl _, .refl _, hg⟩
 | label _ => intro an S ρ μ fr H l hg hro h; simp only [codeA] at h; cases h; exact ⟨.normal, fr, H, .of fun n d => rfl, S, List.mem_singleton_self _, ρ, μ, .refl _, .refl _, hg⟩
 | exit id => intro an S ρ μ fr H l hg hro h; simp only [codeA] at h; cases h; exact ⟨.exit id, fr, H, .of fun n d => rfl, S, List.mem_singleton_self _, ρ, μ, .refl _, .refl _, hg⟩
 | ret => intro an S ρ μ fr H l hg hro h; simp only [codeA] at h; cases h; exact ⟨.ret, fr, H, .of fun n d => rfl, S, List.mem_singleton_self _, ρ, μ, .refl _, .refl _, hg⟩
 | region id ops draw =>
  intro an S ρ μ fr H l hg hro h
  simp only [codeA] at h
  split at h
  ·rename_i r hr
   cases draw with
   | true =>
    simp only [if_true] at hr
    obtain ⟨fr', H', pd, e1, s, s1, ρ', μ', x1, x2, x3, g1, _⟩ := drawXA_ok (Fe := fun n d => fcOf F (ee n d)) hc hcall fcA_of hg hr
    obtain ⟨p1, p2⟩ := liftN_ok r l h s s1
    refine ⟨.normal, fr', H', e1.mono fun n d e => ?_, s.S, p2, ρ', μ', x1, x2, g1⟩
    simp only [code2, if_true]
    rw [e, ← x3, p1]
   | false =>
    simp only [Bool.false_eq_true, if_false] at hr
    have hseq : ∃ fr' H' pd, Ev (fun n d => seq2 P ⟨gl, pe⟩ (ee n d) (yd n d) F ops ops.toList ⟨fr, H, none⟩ = some ⟨fr', H', pd⟩) ∧ AfOk P gl pe F r ρ μ fr' H' pd := by
     split at hr
     ·split at hr
      ·rename_i l0 hl0
       obtain ⟨fr', H', pd, e1, e2⟩ := seqJ_ok hc hcall hyl hK hKy hg ops.toList [] [⟨S, none, []⟩] l0 fr H none hl0 (.refl _) ⟨_, List.mem_singleton_self _, ρ, μ, .refl _, .refl _, rfl, hg, .nil⟩
       have hk : Keep H H' := by
        obtain ⟨n, d, e⟩ := e1.ex
        exact seq2_keep (hK n d) (hKy n d) e
       exact ⟨fr', H', pd, e1, joinAf_ok hg hr hk e2⟩
      ·cases hr
     ·exact seqY_ok hc hcall hyl ops.toList ⟨S, none, []⟩ ρ μ fr H r hg .nil hr
    obtain ⟨fr', H', pd, e1, s, s1, ρ', μ', x1, x2, x3, g1, _⟩ := hseq
    obtain ⟨p1, p2⟩ := liftN_ok r l h s s1
    refine ⟨.normal, fr', H', e1.mono fun n d e => ?_, s.S, p2, ρ', μ', x1, x2, g1⟩
    simp only [code2, Bool.false_eq_true, if_false]
    rw [e, ← x3, p1]
  ·cases h
 | seq a b iha ihb =>
  intro an S ρ μ fr H l hg hro h
  simp only [codeA] at h
  split at h
  ·rename_i r hr
   obtain ⟨x, fr1, H1, e1, S1, s1, ρ1, μ1, x1, x2, g1⟩ := iha _ S ρ μ fr H r hg hro hr
   obtain ⟨u, u1, u2⟩ := catM_mem h _ s1
   cases x with
   | normal =>
    obtain ⟨y, fr2, H2, e2, k2⟩ := ihb _ S1 ρ1 μ1 fr1 H1 u g1 (hro.ext x2) u1
    refine ⟨y, fr2, H2, (e1.and e2).mono fun n d ⟨p, q⟩ => ?_, (k2.lift u2).trans x1 x2⟩
    simp only [code2, p]; exact q
   | exit id =>
    cases u1
    refine ⟨.exit id, fr1, H1, e1.mono fun n d p => ?_, S1, u2 _ (List.mem_singleton_self _), ρ1, μ1, x1, x2, g1⟩
    simp only [code2, p]
   | ret =>
    cases u1
    refine ⟨.ret, fr1, H1, e1.mono fun n d p => ?_, S1, u2 _ (List.mem_singleton_self _), ρ1, μ1, x1, x2, g1⟩
    simp only [code2, p]
  ·cases h
 | cond c a b iha ihb =>
  intro an S ρ μ fr H l hg hro h
  simp only [codeA] at h
  split at h
  ·rename_i B hB
   obtain ⟨t, t1, t2⟩ := evA_ok hc.gl hg.sy.zero hg.fr hB
   cases t2 with
   | bool _ b' hb =>
    obtain ⟨cs', m1, m2⟩ := splitB_ok hg.sy.cs hb
    obtain ⟨u, u1, u2⟩ := catM_mem h _ m1
    have hg' : GS { S with cs := cs' } ρ μ fr H := ⟨⟨hg.sy.len, hg.sy.zero, m2⟩, hg.hp, hg.fr⟩
    cases b' with
    | true =>
     simp only [if_true] at u1
     obtain ⟨x, fr1, H1, e1, k1⟩ := iha _ _ ρ μ fr H u hg' hro u1
     refine ⟨x, fr1, H1, e1.mono fun n d p => ?_, k1.lift u2⟩
     simp only [code2, t1, if_true]; exact p
    | false =>
     simp only [Bool.false_eq_true, if_false] at u1
     obtain ⟨x, fr1, H1, e1, k1⟩ := ihb _ _ ρ μ fr H u hg' hro u1
     refine ⟨x, fr1, H1, e1.mono fun n d p => ?_, k1.lift u2⟩
     simp only [code2, t1, Bool.false_eq_true, if_false]; exact p
  ·cases h
 | block id c ih =>
  intro an S ρ μ fr H l hg hro h
  simp only [codeA] at h
  split at h
  ·rename_i r hr
   cases h
   obtain ⟨x, fr1, H1, e1, S1, s1, k1⟩ := ih _ S ρ μ fr H r hg hro hr
   have hm := exitsB_mem (id := id) s1
   cases x with
   | normal => exact ⟨.normal, fr1, H1, e1.mono fun n d p => by simp only [code2, p], S1, hm, k1⟩
   | ret => exact ⟨.ret, fr1, H1, e1.mono fun n d p => by simp only [code2, p], S1, hm, k1⟩
   | exit id' =>
    by_cases hi : id' = id
    ·simp only [if_pos hi] at hm
     exact ⟨.normal, fr1, H1, e1.mono fun n d p => by simp only [code2, p, if_pos hi], S1, hm, k1⟩
    ·simp only [if_neg hi] at hm
     exact ⟨.exit id', fr1, H1, e1.mono fun n d p => by simp only [code2, p, if_neg hi], S1, hm, k1⟩
  ·cases h
 | loop c ih =>
  intro an S ρ μ fr H l hg hro h
  simp only [codeA] at h
  split at h
  ·rename_i la b
   split at h
   ·rename_i oc hoc
    split at h
    ·rename_i hcc
     simp only [Bool.and_eq_true, ile, decide_eq_true_eq] at hcc
     split at h
     ·rename_i Sh hSh
      split at h
      ·rename_i r hr
       have hbody : ∀ (ρ' : List Int) (μ' : List (Option Nat)) (fr : List T) (H : Hp), GS Sh ρ' μ' fr H → Ext μ μ' → ∃ x fr' H', Ev (fun n d => code2 P ⟨gl, pe⟩ (ee n d) (yd n d) F n ro' c fr H = some (x, fr', H')) ∧ Keep H H' ∧ XOk r ρ' μ' x fr' H' := fun ρ' μ' fr H hg hμ => by
        obtain ⟨x, fr', H', e1, e2⟩ := ih _ Sh ρ' μ' fr H r hg (hro.ext hμ) hr
        refine ⟨x, fr', H', e1, ?_, e2⟩
        obtain ⟨n, d, e⟩ := e1.ex
        exact code2_keep (hK n d) (hKy n d) _ _ _ _ _ _ e
       obtain ⟨ρ2, μ2, y1, y2, y3, y4⟩ := okS_ok (.refl _) hg hg (.refl _) (.refl _) (g := 0) (m0 := la.m0) (by omega) hcc.1.1.1.1 (gs := 0) (gc := 0) (fun v hv => by rw [hg.sy.zero] at hv; cases hv; rfl) ⟨0, hg.sy.zero⟩ hcc.2 hSh
       have hM : (∃ x S2, (x, S2) ∈ r ∧ x = .normal) → ∃ M, measN fr H la.ms = some M ∧ M ≤ la.m0 := by
        rintro ⟨x, S2, h1, rfl⟩
        rcases loopOuts_ok r l h _ S2 h1 with ⟨_, _, k2⟩ | ⟨k1, _⟩
        ·exact meas0_ok hg k2
        ·exact absurd rfl k1
       obtain ⟨x, fr', H', z1, ⟨m, z2⟩, z3⟩ := loop_ok hg hSh h (f := fun n d fr H => code2 P ⟨gl, pe⟩ (ee n d) (yd n d) F n ro' c fr H) hbody ((measN fr H la.ms).getD 0).toNat ρ2 μ2 fr H 0 y4 (.refl _) y1 y2 y3 (by omega)
        (fun M h => by rw [h]; simp only [Option.getD_some]; omega) (fun hx => by obtain ⟨M, q1, q2⟩ := hM hx; exact ⟨M, q1, by omega⟩)
       refine ⟨x, fr', H', ⟨m, fun n d hn hd => ?_⟩, z3⟩
       simp only [code2]
       exact z2 n d n hn hd hn
      ·cases h
     ·cases h
    ·cases h
   ·cases h
  ·cases h
 | rangeFunc g ps asg bd _ _ =>
  intro an S ρ μ fr H l hg hro h
  exact rangeA_ok hcall hc hg hro h
 | _ => intro an S ρ μ fr H l hg hro h; simp only [codeA] at h; cases h
/-! ### Rounds -/
theorem updL_ok (hs : Sy ρ S.nx S.cs) (hh : GH S.hp S.nl ρ μ H) {l x : Nat} (hx : μ[l]? = some (some x)) {st : LoopState} {pn : Option (Option Nat)} {S' : AS} (h : updL S l st pn = some S') :
  ∃ b r, H.any x = some b ∧ b.me = some (.loop r) ∧ Sy ρ S'.nx S'.cs ∧ S'.fr = S.fr ∧ GH S'.hp S'.nl ρ μ (H.put x (lpOb { r with st := st, pe := peC pn })) := by
 unfold updL at h
 split at h
 ·rename_i st' pn' fa ps asg bd ow aa ab hf
  cases h
  obtain ⟨b, r, h1, h2, h3, h4, h5, h6, h7, h8, h9⟩ := hh.atL hf hx
  exact ⟨b, r, h1, h2, hs, rfl, hh.putL hf hx ⟨_, rfl, rfl, rfl, h5, h6, h7, h8, h9⟩ rfl⟩
 ·cases h
theorem rndEnds_ok {l : Nat} : ∀ (r : List (Go.Ps.X × AS)) (q : List AR), rndEnds l r = some q → ∀ x S, (x, S) ∈ r → ∃ S', updL S l (if normX x then .ready else .done) (peX x) = some S' ∧ (⟨.bool (.lit (normX x)), S'.hp, S'.nx, S'.nl, S'.cs⟩ : AR) ∈ q
 | (y, S0) :: r, q, h, x, S, hm => by
  simp only [rndEnds] at h
  split at h
  ·rename_i S' hS'
   split at h
   ·rename_i q' hq
    cases h
    rcases List.mem_cons.1 hm with hm | hm
    ·cases hm; exact ⟨S', hS', List.mem_cons_self⟩
    ·obtain ⟨S2, a1, a2⟩ := rndEnds_ok r q' hq x S hm
     exact ⟨S2, a1, List.mem_cons_of_mem _ a2⟩
   ·cases h
  ·cases h
theorem setPsA_ok : ∀ (ps : List Tmp) (a_s : List A) (ts : List T) (fa : List A) (fr : List T), GmL ρ μ a_s ts → GmL ρ μ fa fr → GmL ρ μ (setPsA ps a_s fa) (setPs ps ts fr)
 | [], a_s, ts, fa, fr, _, h => by
  cases a_s <;> cases ts <;> exact h
 | p :: ps, [], ts, fa, fr, h1, h => by rw [h1.inv_nil]; exact h
 | p :: ps, a :: a_s, ts, fa, fr, h1, h => by
  obtain ⟨t, r, rfl, h2, h3⟩ := h1.inv_cons
  exact setPsA_ok ps a_s r (fa.set p a) (fr.set p t) h3 (h.set h2 p)
theorem sameX_ok {x y : Go.Ps.X} (h : sameX x y = true) : x = y := by
 cases x <;> cases y <;> first | rfl | (cases h; done) | (rw [nat_beq h])
theorem memX_bnd {S' : AS} {x : Go.Ps.X} : ∀ (r : List (Go.Ps.X × AS)), (∃ S, (x, S) ∈ r) → (x, S') ∈ bndEnds S' r
 | (y, S0) :: r, ⟨S, h⟩ => by
  simp only [bndEnds]
  rcases List.mem_cons.1 h with h | h
  ·cases h
   split
   ·rename_i hm
    have key : ∀ (l : List (Go.Ps.X × AS)), memX x l = true → ∃ S, (x, S) ∈ l := by
     intro l
     induction l with
     | nil => intro h; cases h
     | cons q l ih =>
      obtain ⟨z, Sz⟩ := q
      intro h
      simp only [memX, Bool.or_eq_true] at h
      rcases h with h | h
      ·exact ⟨Sz, by rw [sameX_ok h]; exact List.mem_cons_self⟩
      ·obtain ⟨S2, h2⟩ := ih h
       exact ⟨S2, List.mem_cons_of_mem _ h2⟩
    exact memX_bnd r (key r hm)
   ·exact List.mem_cons_self
  ·have ih := memX_bnd (S' := S') r ⟨S, h⟩
   split
   ·exact ih
   ·exact List.mem_cons_of_mem _ ih
theorem okEnds_mem {oc : List (Nat × Nat × TA)} : ∀ (r : List (Go.Ps.X × AS)), okEnds S oc r = true → ∀ x S1, (x, S1) ∈ r → okS { S with fr := [.top] } [0] [] oc [] { S1 with fr := [.top] } 0 0 = true
 | (y, S0) :: r, h, x, S1, hm => by
  simp only [okEnds, Bool.and_eq_true] at h
  rcases List.mem_cons.1 hm with hm | hm
  ·cases hm; exact h.1
  ·exact okEnds_mem r h.2 x S1 hm
theorem boundRd_ok (hs : GS S ρ0 μ0 fr H) {ab : An} {r r' : List (Go.Ps.X × AS)} (h : boundRd S ab r = some r') {x : Go.Ps.X} {S1 : AS} (hm : (x, S1) ∈ r) {fr1 : List T} {H1 : Hp} (hk : Keep H H1) (h1 : GS S1 ρ1 μ1 fr1 H1) (he : Ext ρ0 ρ1) (he' : Ext μ0 μ1) :
  ∃ S2 ρ2 μ2 fr2, (x, S2) ∈ r' ∧ Ext ρ0 ρ2 ∧ Ext μ0 μ2 ∧ GS S2 ρ2 μ2 fr2 H1 := by
 unfold boundRd at h
 split at h
 ·split at h
  ·rename_i oc hoc
   split at h
   ·rename_i hcc
    simp only [Bool.and_eq_true] at hcc
    split at h
    ·rename_i S' hS'
     cases h
     have g0 : GS { S with fr := [.top] } ρ0 μ0 [undefT] H := ⟨hs.sy, hs.hp, GmL.cons (.top _) .nil⟩
     have g1 : GS { S1 with fr := [.top] } ρ1 μ1 [undefT] H1 := ⟨h1.sy, h1.hp, GmL.cons (.top _) .nil⟩
     obtain ⟨ρ2, μ2, y1, y2, _, y4⟩ := okS_ok hk g0 g1 he he' (g := 0) (m0 := 0) (by omega) (by omega) (gs := 0) (gc := 0) (fun v hv => by rw [h1.sy.zero] at hv; cases hv; rfl) ⟨0, h1.sy.zero⟩ (okEnds_mem r hcc.2 x S1 hm) hS'
     exact ⟨S', ρ2, μ2, _, memX_bnd r ⟨S1, hm⟩, y1, y2, y4⟩
    ·cases h
   ·cases h
  ·cases h
 ·cases h
  exact ⟨S1, ρ1, μ1, fr1, hm, he, he', h1⟩
theorem rndA_ok (hc : Cn X gl pe) (hcall : CallA call ee) (hyl : YldA yld yd) (hK : ∀ n d, EeK (ee n d)) (hKy : ∀ n d, YdK (yd n d)) :
  YldA (rndA P X call yld) (fun n d => round2 P ⟨gl, pe⟩ (ee n d) (yd n d) n) := by
 intro l args S rs h ρ μ H ts x hs hh ha hx
 unfold rndA at h
 split at h
 ·rename_i st pn fa ps asg bd ow aa ab hf
  obtain ⟨b, rc, h1, h2, h3, h4, h5, h6, h7, h8, h9⟩ := hh.atL hf hx
  split at h
  ·rename_i hcc
   simp only [Bool.and_eq_true] at hcc
   obtain ⟨c1, c2, c3⟩ := hcc
   have c1 := nat_beq c1
   split at h
   ·rename_i r hr
    have hg0 : GS { S with fr := setPsA ps.toList args fa } ρ μ (setPs ps.toList ts (rc.fr.view rc.n)) H := ⟨hs, hh, setPsA_ok _ _ _ _ _ ha h9⟩
    obtain ⟨x1, fr1, H1, e1, S1, s1, ρ1, μ1, k1, k2, g1⟩ := codeA_ok (F := ow) (ro := some l) (ro' := some x) hc hcall hyl hK hKy asg aa _ ρ μ _ H r hg0 hx hr
    obtain ⟨u, u1, u2⟩ := catM_mem h _ s1
    unfold rndA1 at u1
    split at u1
    ·rename_i hn
     simp only [Bool.and_eq_true] at hn
     have hx1 : x1 = .normal := by cases x1 <;> first | rfl | cases hn.1
     subst hx1
     have hrd := hn.2
     unfold isReady at hrd
     split at hrd
     ·rename_i st1 pn1 fa1 ps1 asg1 bd1 ow1 aa1 ab1 hf1
      have hst1 : st1 = .ready := sameSt_ok hrd
      subst hst1
      have hx' := k2 _ _ hx
      split at u1
      ·rename_i S2 hS2
       have hpe : peAt S1 l = pn1 := by simp only [peAt, hf1]
       rw [hpe] at hS2
       obtain ⟨b1, r1, p1, p2, p3, p4, p5, p6, p7, p8, p9⟩ := g1.hp.atL hf1 hx'
       obtain ⟨b2, r2, q1, q2, q3, q4, q5⟩ := updL_ok g1.sy g1.hp hx' hS2
       rw [p1] at q1; cases q1
       rw [p2] at q2; cases q2
       have hg2 : GS S2 ρ1 μ1 fr1 (H1.put x (lpOb { r1 with st := .busy })) := by
        refine ⟨q3, ?_, by rw [q4]; exact g1.fr⟩
        have : ({ r1 with st := .busy, pe := peC pn1 } : Lr) = { r1 with st := .busy } := by rw [← p4]
        rw [← this]; exact q5
       split at u1
       ·rename_i rr0 hrr
        obtain ⟨x2, fr2', H2, e2, S3', s3', ρ2', μ2', y1', y2', g3'⟩ := codeA_ok (F := ow) (ro := some l) (ro' := some x) hc hcall hyl hK hKy bd ab.body S2 ρ1 μ1 fr1 _ rr0 hg2 hx' hrr
        split at u1
        case h_2 => cases u1
        rename_i rr hbnd
        have hkk : Keep (H1.put x (lpOb { r1 with st := .busy })) H2 := by
         obtain ⟨n, d, e⟩ := e2.ex
         exact code2_keep (hK n d) (hKy n d) _ _ _ _ _ _ e
        obtain ⟨S3, ρ2, μ2, fr2, s3, y1, y2, g3⟩ := boundRd_ok hg2 hbnd s3' hkk g3' y1' y2'
        obtain ⟨S4, w1, w2⟩ := rndEnds_ok rr u u1 x2 S3 s3
        have hx2 := y2 _ _ hx'
        obtain ⟨b3, r3, v1, v2, v3, v4, v5⟩ := updL_ok g3.sy g3.hp hx2 w1
        refine ⟨normX x2, H2.put x (lpOb { r3 with st := (if normX x2 then .ready else .done), pe := peC (peX x2) }), (e1.and e2).mono fun n d ⟨a1, a2⟩ => ?_, _, u2 _ w2, ρ2, μ2, k1.trans y1, k2.trans y2, v3, v5, .bool _ _ rfl⟩
        show round2 P ⟨gl, pe⟩ (ee n d) (yd n d) n x ts H = _
        simp only [round2]
        rw [lpOf_eq h1 h2, if_pos ⟨by rw [← ha.1, c1, h5], by rw [h6]; exact c2, by rw [h7]; exact c3⟩, h5, h6, h8]
        rw [a1]
        simp only [roundA2]
        rw [lpOf_eq p1 p2, p3]
        simp only
        rw [h8, h7, a2]
        simp only [roundB]
        rw [lpOf_eq v1 v2]
        cases x2 <;> rfl
       ·cases u1
      ·cases u1
     ·cases hrd
    ·cases u1
   ·cases h
  ·cases h
 ·cases h
end
end Go.Ps

/- Soundness: functions; contracts out of bounds. -/
namespace Go.Ps
section
variable {ρ ρ' ρ0 ρ1 : List Int} {μ μ' μ0 μ1 : List (Option Nat)} {X : AX} {gl : Nat → Option T} {pe : Hp → FuncId → List T → Option T} {H H1 : Hp} {S S1 : AS} {P : Program} {fr fr1 : List T}
theorem resAllA_ok : ∀ (rs : List ResultVar) (S : AS) (ρ : List Int) (fa : List A) (l : List A) (S' : AS), GS S ρ μ fr H → GmL ρ μ fa fr → resAllA P fa rs S = some (l, S') →
  ∃ ts ρ', resAll P fr H rs = some ts ∧ Ext ρ ρ' ∧ Sy ρ' S'.nx S'.cs ∧ S'.hp = S.hp ∧ S'.nl = S.nl ∧ GmL ρ' μ l ts
 | [], S, ρ, fa, l, S', hg, hf, h => by
  simp only [resAllA] at h; cases h
  exact ⟨[], ρ, rfl, .refl _, hg.sy, rfl, rfl, .nil⟩
 | r :: rs, S, ρ, fa, l, S', hg, hf, h => by
  simp only [resAllA] at h
  split at h
  ·rename_i v hv
   have one : ∃ t, resT P fr H r = some t ∧ VOk ρ μ v t := by
    cases r with
    | tmp t => simp only [resA] at hv; cases hv; exact ⟨_, rfl, .here hg.sy (hf.get t)⟩
    | cell a t => exact loadA_ok hg.sy hg.hp (hf.get a) hv
   obtain ⟨t, t1, ρ1, e1, s1, g1⟩ := one
   split at h
   ·rename_i l' S2 hr
    cases h
    obtain ⟨ts, ρ2, q1, q2, q3, q4, q5, q6⟩ := resAllA_ok rs { S with nx := v.nx, cs := v.cs } ρ1 fa l' _ (hg.sym e1 s1) (hf.ext e1 (.refl _)) hr
    exact ⟨t :: ts, ρ2, by simp only [resAll, t1, q1], e1.trans q2, q3, q4, q5, GmL.cons (g1.ext q2 (.refl _)) q6⟩
   ·cases h
  ·cases h
def tupT : List T → T
 | [t] => t
 | ts => .tup ts
theorem tup1_ok {a_s : List A} {ts : List T} (h : GmL ρ μ a_s ts) : Gm ρ μ (tup1 a_s) (tupT ts) := by
 cases a_s with
 | nil => rw [h.inv_nil]; exact gm_undef
 | cons a a_s =>
  obtain ⟨t, r, rfl, h1, h2⟩ := h.inv_cons
  cases a_s with
  | nil => rw [h2.inv_nil]; exact h1
  | cons b bs =>
   obtain ⟨u, r', rfl, h3, h4⟩ := h2.inv_cons
   exact .tup _ _ h.1 h.2
theorem endsA_ok (rs : List ResultVar) : ∀ (l : List (Go.Ps.X × AS)) (q : List AR), endsA P rs l = some q → ∀ (x : Go.Ps.X) (S : AS), (x, S) ∈ l → ∀ (ρ : List Int) (μ : List (Option Nat)) (fr : List T) (H : Hp), GS S ρ μ fr H →
  (x = .normal ∨ x = .ret) ∧ ∃ ts, resAll P fr H rs = some ts ∧ ∃ R ∈ q, ROk ρ μ R (tupT ts) H
 | (y, S') :: r, q, h, x, S, hm, ρ, μ, fr, H, hg => by
  simp only [endsA] at h
  split at h
  ·cases h
  ·rename_i hne
   split at h
   ·rename_i l' S2 hres
    split at h
    ·rename_i q' hq
     cases h
     rcases List.mem_cons.1 hm with hm | hm
     ·cases hm
      obtain ⟨ts, ρ', q1, q2, q3, q4, q5, q6⟩ := resAllA_ok rs _ ρ _ l' S2 hg hg.fr hres
      refine ⟨?_, ts, q1, _, List.mem_cons_self, ρ', μ, q2, .refl _, q3, ?_, tup1_ok q6⟩
      ·cases y with
       | normal => exact .inl rfl
       | ret => exact .inr rfl
       | exit id => exact absurd rfl (hne id)
      ·rw [q4, q5]; exact hg.hp.ext q2
     ·obtain ⟨k1, ts, k2, R, k3, k4⟩ := endsA_ok rs r q' hq x S hm ρ μ fr H hg
      exact ⟨k1, ts, k2, R, List.mem_cons_of_mem _ k3, k4⟩
    ·cases h
   ·cases h
theorem postA_mem {oc : List (Nat × Nat × TA)} {res : A} : ∀ (l : List AR), postA S oc res l = true → ∀ r ∈ l, okS { S with fr := [.top] } [0] [(0, .a res)] oc [] { fr := [r.a], hp := r.hp, nx := r.nx, nl := r.nl, cs := r.cs } 0 0 = true
 | r :: rs, h, z, hz => by
  simp only [postA, Bool.and_eq_true] at h
  rcases List.mem_cons.1 hz with rfl | hz
  ·exact h.1
  ·exact postA_mem rs h.2 z hz
theorem boundR_ok (hk : Keep H H1) (hs : Sy ρ S.nx S.cs) (hh : GH S.hp S.nl ρ μ H) {args : List A} {p : Post} {l rs : List AR} (h : boundR S args p l = some rs) {R : AR} (hR : R ∈ l) {t : T} (hr : ROk ρ μ R t H1) : ∃ R' ∈ rs, ROk ρ μ R' t H1 := by
 unfold boundR at h
 split at h
 ·rename_i oc hoc
  split at h
  ·rename_i hcc
   simp only [Bool.and_eq_true] at hcc
   split at h
   ·rename_i S' hS'
    cases h
    obtain ⟨ρ1, μ1, e1, e2, s1, g1, v1⟩ := hr
    have hS : GS { S with fr := [.top] } ρ μ [t] H := ⟨hs, hh, GmL.cons (.top _) .nil⟩
    have h1 : GS { fr := [R.a], hp := R.hp, nx := R.nx, nl := R.nl, cs := R.cs } ρ1 μ1 [t] H1 := ⟨s1, g1, GmL.cons v1 .nil⟩
    obtain ⟨ρ2, μ2, y1, y2, _, y4⟩ := okS_ok hk hS h1 e1 e2 (g := 0) (m0 := 0) (by omega) (by omega) (gs := 0) (gc := 0) (fun v hv => by rw [s1.zero] at hv; cases hv; rfl) ⟨0, s1.zero⟩ (postA_mem l hcc.2 R hR) hS'
    exact ⟨_, List.mem_singleton_self _, ρ2, μ2, y1, y2, y4.sy, y4.hp, y4.fr.get 0⟩
   ·cases h
  ·cases h
 ·cases h
theorem fnA1_ok (hc : Cn X gl pe) {call : FuncId → List A → AS → Option (List AR)} {ee : Nat → Nat → FuncId → List T → Hp → Option (T × Hp)} {yld : Nat → List A → AS → Option (List AR)} {yd : Nat → Nat → Nat → List T → Hp → Option (Bool × Hp)}
  (hcall : CallA call ee) (hyl : YldA yld yd) (hK : ∀ n d, EeK (ee n d)) (hKy : ∀ n d, YdK (yd n d)) {f : FuncId} {args : List A} {rs : List AR} (h : fnA1 P X call yld f args S = some rs) (hs : Sy ρ S.nx S.cs) (hh : GH S.hp S.nl ρ μ H) {ts : List T} (ha : GmL ρ μ args ts) :
  X.top f = true ∧ ∃ r H', Ev (fun n d => fn2 P ⟨gl, pe⟩ (ee n d) (yd n d) (X.own f) n f ts H = some (r, H')) ∧ ∃ R ∈ rs, ROk ρ μ R r H' := by
 unfold fnA1 at h
 split at h
 ·cases h
 rename_i hinl
 refine ⟨by simpa using hinl, ?_⟩
 split at h
 ·rename_i fn hfn
  split at h
  ·rename_i c hbody
   split at h
   ·rename_i l hl
    have hg : GS { S with fr := args ++ List.replicate (fn.ntmps - args.length) (.tup []) } ρ μ (ts ++ List.replicate (fn.ntmps - ts.length) undefT) H :=
     ⟨hs, hh, by rw [← ha.1]; exact ha.app (GmL.replicate gm_undef _)⟩
    obtain ⟨x, fr', H', e1, S', s1, ρ1, μ1, x1, x2, g1⟩ := codeA_ok (F := X.own f) (ro := none) (ro' := none) hc hcall hyl hK hKy c _ _ ρ μ _ H l hg trivial hl
    have hk : Keep H H' := by
     obtain ⟨n, d, e⟩ := e1.ex
     exact code2_keep (hK n d) (hKy n d) _ _ _ _ _ _ e
    split at h
    ·rename_i rs' hrs
     obtain ⟨k1, us, k2, R, k3, k4⟩ := endsA_ok _ l rs' hrs x S' s1 ρ1 μ1 fr' H' g1
     have k4' : ROk ρ μ R (tupT us) H' := by
      obtain ⟨a, b, h1, h2, h3⟩ := k4
      exact ⟨a, b, x1.trans h1, x2.trans h2, h3⟩
     have fin : ∃ R' ∈ rs, ROk ρ μ R' (tupT us) H' := by
      split at h
      ·exact boundR_ok hk hs hh h k3 k4'
      ·cases h; exact ⟨R, k3, k4'⟩
     refine ⟨_, H', e1.mono fun n d e => ?_, fin⟩
     simp only [fn2, hfn, hbody]
     rw [e]
     rcases k1 with rfl | rfl <;> simp only [k2] <;> (rcases us with _ | ⟨t, _ | ⟨u, r⟩⟩ <;> rfl)
    ·cases h
   ·cases h
  ·cases h
 ·cases h
theorem runA_ok (hc : Cn X gl pe) : ∀ (d : Nat), CallA (runA P X d).fn (fun n d => (run2 P ⟨gl, pe⟩ X.own X.top n d).ee) ∧ YldA (runA P X d).yd (fun n d => (run2 P ⟨gl, pe⟩ X.own X.top n d).yd)
 | 0 => ⟨fun f args S rs h => by simp [runA] at h, fun l args S rs h => by simp [runA] at h⟩
 | d + 1 => by
  obtain ⟨ih1, ih2⟩ := runA_ok hc d
  have hK : ∀ n d, EeK (run2 P ⟨gl, pe⟩ X.own X.top n d).ee := fun n d => (run2_keep d).1
  have hKy : ∀ n d, YdK (run2 P ⟨gl, pe⟩ X.own X.top n d).yd := fun n d => (run2_keep d).2
  refine ⟨fun f args S rs h ρ μ H ts hs hh ha => ?_, fun l args S rs h ρ μ H ts x hs hh ha hx => ?_⟩
  ·obtain ⟨h1, r, H', ⟨m, e1⟩, fin⟩ := fnA1_ok hc ih1 ih2 hK hKy h hs hh ha
   refine ⟨r, H', ⟨m + 1, fun n d' hn hd => ?_⟩, fin⟩
   obtain ⟨d', rfl⟩ : ∃ d0, d' = d0 + 1 := ⟨d' - 1, by omega⟩
   simp only [run2]
   rw [if_pos h1]
   exact e1 n d' (by omega) (by omega)
  ·obtain ⟨b, H', ⟨m, e1⟩, fin⟩ := rndA_ok hc ih1 ih2 hK hKy _ _ _ _ h ρ μ H ts x hs hh ha hx
   refine ⟨b, H', ⟨m + 1, fun n d' hn hd => ?_⟩, fin⟩
   obtain ⟨d', rfl⟩ : ∃ d0, d' = d0 + 1 := ⟨d' - 1, by omega⟩
   simp only [run2]
   exact e1 n d' (by omega) (by omega)
theorem fnA_ok (hc : Cn X gl pe) (d : Nat) : CallA (fnA P X d) (fun n d => (run2 P ⟨gl, pe⟩ X.own X.top n d).ee) := (runA_ok hc d).1
end
end Go.Ps

/- Contracts out of bounds: each answer is a function of the arguments alone. -/
namespace Go.Ps
section
variable {P : Program} {gl : Nat → Option T}
noncomputable def pureE (P : Program) (gl : Nat → Option T) (pe : FuncId → List T → Option T) (own : FuncId → Tmp → Bool) (ok : FuncId → Bool) (k n d : Nat) (f : FuncId) (ts : List T) : Option T :=
 match (run2 P ⟨gl, lend k pe⟩ own ok n d).ee f ts ⟨0, .nl⟩ with
 | some (q, H') => frzT k H' q
 | none => none
theorem pureE_ok (hm : P.follows .mixedOrders = true) (hz : GlFrz gl) {pe : FuncId → List T → Option T} (hp : PcOk P gl pe) {own : FuncId → Tmp → Bool} {ok : FuncId → Bool} (hok : ∀ f, ok f = true → okFn P f = true ∧ fnOk2 P f = true)
  {k n d : Nat} {f : FuncId} {ts : List T} {r : T} (h : pureE P gl pe own ok k n d f ts = some r) :
  okFn P f = true ∧ ∀ (g : G) (vs : List Value), Gok g → (∀ l, ¬ g.al l) → GlOk gl g → RdL g vs ts →
   Calls P f vs.toArray g.w fun e w' => ∃ v g', e = .returned v ∧ g'.w = w' ∧ PStep g g' ∧ Gok g' ∧ Rd g' v r := by
 unfold pureE at h
 split at h
 ·rename_i q H' he
  obtain ⟨h1, h2⟩ := (run2_ok hm (E := ⟨gl, lend k pe⟩) (lend_ok (k := k) hz hp) hok (own := own) (n := n) d).1 f ts _ q H' he
  refine ⟨h1, fun g vs hg hal hgl hv => ?_⟩
  have hs : St g ⟨0, .nl⟩ := St.nl _ _ (fun l _ => hal l)
  refine (h2 g vs hg hs hgl hv).mono fun e w' ⟨v, g', e1, e2, e3, e4, e5, e6⟩ => ?_
  refine ⟨v, g'.frz H' g, e1, e2, ?_, ?_, frz_ok e5 k q r v h e6⟩
  ·refine ⟨e3.os, e3.tape, e3.output, e3.size, fun b hb => e3.block b hb (fun l o ho => (by rw [any_nl] at ho; cases ho)), fun b hb => .inl (e3.sub b hb), fun b hb => ?_, rfl, rfl, rfl⟩
   rcases hb with hb | ⟨l, o, ho, rfl⟩
   ·rcases e3.fresh b hb with q | q | ⟨l, o, ho, _⟩
    ·exact .inl q
    ·exact .inr q
    ·rw [any_nl] at ho; cases ho
   ·rcases e3.live l o (get_any ho).1 with ⟨l0, o0, q, _⟩ | q
    ·rw [any_nl] at q; cases q
    ·exact .inr q
  ·intro b hb
   rcases hb with hb | ⟨l, o, ho, rfl⟩
   ·exact e4 b hb
   ·exact e5.lt (get_any ho).1
 ·cases h
def Ans (P : Program) (gl : Nat → Option T) (pe : FuncId → List T → Option T) (own : FuncId → Tmp → Bool) (ok : FuncId → Bool) (k : Nat) (f : FuncId) (ts : List T) (r : T) : Prop :=
 ∃ m, ∀ n d, m ≤ n → m ≤ d → pureE P gl pe own ok k n d f ts = some r
theorem Ans.unique {pe : FuncId → List T → Option T} {own : FuncId → Tmp → Bool} {ok : FuncId → Bool} {k : Nat} {f : FuncId} {ts : List T} {r r' : T} (h : Ans P gl pe own ok k f ts r) (h' : Ans P gl pe own ok k f ts r') : r = r' := by
 obtain ⟨m, hm⟩ := h
 obtain ⟨m', hm'⟩ := h'
 have := hm (max m m') (max m m') (by omega) (by omega)
 rw [hm' (max m m') (max m m') (by omega) (by omega)] at this
 exact (Option.some.inj this).symm
open Classical in
noncomputable def extP (P : Program) (gl : Nat → Option T) (pe : FuncId → List T → Option T) (own : FuncId → Tmp → Bool) (ok : FuncId → Bool) (k : Nat) (tab : FuncId → Bool) : FuncId → List T → Option T := fun f ts =>
 if tab f = true then (if h : ∃ r, Ans P gl pe own ok k f ts r then some (Classical.choose h) else none) else pe f ts
theorem extP_ok (hm : P.follows .mixedOrders = true) (hz : GlFrz gl) {pe : FuncId → List T → Option T} (hp : PcOk P gl pe) {own : FuncId → Tmp → Bool} {ok : FuncId → Bool} (hok : ∀ f, ok f = true → okFn P f = true ∧ fnOk2 P f = true) {k : Nat} {tab : FuncId → Bool} :
  PcOk P gl (extP P gl pe own ok k tab) := by
 intro f ts r h
 unfold extP at h
 split at h
 ·split at h
  ·rename_i hex
   cases h
   obtain ⟨m, hm'⟩ := Classical.choose_spec hex
   exact pureE_ok hm hz hp hok (hm' m m (Nat.le_refl _) (Nat.le_refl _))
  ·cases h
 ·exact hp f ts r h
theorem extP_ans {pe : FuncId → List T → Option T} {own : FuncId → Tmp → Bool} {ok : FuncId → Bool} {k : Nat} {tab : FuncId → Bool} {f : FuncId} {ts : List T} {r : T} (ht : tab f = true) (h : Ans P gl pe own ok k f ts r) : extP P gl pe own ok k tab f ts = some r := by
 unfold extP
 rw [if_pos ht, dif_pos ⟨r, h⟩]
 exact congrArg some ((Classical.choose_spec ⟨r, h⟩ : Ans P gl pe own ok k f ts _).unique h)
/-! ### Trees without objects -/
def pureA : Nat → A → Bool
 | 0, _ => false
 | n + 1, a => match a with
  | .sx .. | .sxv .. | .int .. | .ival .. | .bool _ | .strc _ | .str .. | .strv .. | .nilp | .nils | .nilf | .nili | .nilm => true
  | .slv e _ hi => ile hi 0 || pureA n e
  | .sl e _ _ => pureA n e
  | .agg a_s | .tup a_s | .or a_s => lEv (pureA n) a_s
  | .ref x _ => pureA n x
  | .fn _ a_s bs => lEv (pureA n) a_s && lEv (pureA n) bs
  | .iface _ x => pureA n x
  | _ => false
theorem mapO_id {f : T → Option T} : ∀ (ts : List T), (∀ t ∈ ts, f t = some t) → mapO f ts = some ts
 | [], _ => rfl
 | t :: ts, h => by simp [mapO, h t (by simp), mapO_id ts (fun x hx => h x (by simp [hx]))]
theorem gmL_mem {ρ : List Int} {μ : List (Option Nat)} {a_s : List A} {ts : List T} (h1 : a_s.length = ts.length) (h2 : ∀ (j : Nat) (a : A) (t : T), a_s[j]? = some a → ts[j]? = some t → Gm ρ μ a t) {t : T} (ht : t ∈ ts) : ∃ a ∈ a_s, Gm ρ μ a t := by
 obtain ⟨j, hj, rfl⟩ := List.getElem_of_mem ht
 obtain ⟨a, ha, hg⟩ := GmL.at' ⟨h1, h2⟩ (List.getElem?_eq_getElem hj)
 exact ⟨a, List.mem_of_getElem? ha, hg⟩
theorem frz_id {ρ : List Int} {μ : List (Option Nat)} {H : Hp} : ∀ (n : Nat) (a : A) (t : T), pureA n a = true → Gm ρ μ a t → ∀ k, n ≤ k → frzT k H t = some t
 | 0, _, _, h, _, _, _ => by simp [pureA] at h
 | n + 1, a, t, h, hg, k, hk => by
  have ih := frz_id (ρ := ρ) (μ := μ) (H := H) n
  obtain ⟨k, rfl⟩ : ∃ k', k = k' + 1 := ⟨k - 1, by omega⟩
  have hk : n ≤ k := by omega
  have sl : ∀ {t : T} {xs : List T}, IsSl t xs → (∀ x ∈ xs, frzT k H x = some x) → frzT (k + 1) H t = some t := by
   intro t xs hs hx
   rcases hs with ⟨rfl, rfl⟩ | ⟨f, rfl⟩ | ⟨full, m, f, rfl, rfl⟩
   ·rfl
   ·simp only [frzT, mapO_id xs hx]; simp
   ·rfl
  cases hg with
  | int k s c v h1 h2 => rfl
  | ival k lo hi m h1 h2 h3 => rfl
  | bool B b hb => rfl
  | strc s => rfl
  | str s c v l h1 h2 => rfl
  | strv lo hi l h1 h2 => rfl
  | sx => rfl
  | sxv => rfl
  | nilp => rfl
  | nils => rfl
  | nilf => rfl
  | nili => rfl
  | nilm => rfl
  | top => simp [pureA] at h
  | any => simp [pureA] at h
  | ifc => simp [pureA] at h
  | yl => simp [pureA] at h
  | ptr => simp [pureA] at h
  | elp => simp [pureA] at h
  | osl => simp [pureA] at h
  | osl0 => simp [pureA] at h
  | ref x t off h1 h2 =>
   have := ih _ _ (by simpa [pureA] using h) h2 k hk
   simp only [frzT, this]; simp
  | sl e s c t xs v h1 h2 h3 h4 => exact sl h1 fun x hx => ih _ _ (by simpa [pureA] using h) (h4 x hx) k hk
  | slv e lo hi t xs h1 h2 h3 h4 =>
   simp only [pureA, Bool.or_eq_true, ile, decide_eq_true_eq] at h
   rcases h with h | h
   ·have : xs = [] := by cases xs with | nil => rfl | cons => simp at h3; omega
    subst this
    exact sl h1 fun x hx => by simp at hx
   ·exact sl h1 fun x hx => ih _ _ h (h4 x hx) k hk
  | fn f a_s bs as' bs' h1 h2 h3 h4 =>
   simp only [pureA, Bool.and_eq_true] at h
   have e1 := mapO_id (f := frzT k H) as' fun x hx => by
    obtain ⟨a, ha, hg⟩ := gmL_mem h1 h2 hx
    exact ih _ _ (lEv_mem h.1 a ha) hg k hk
   have e2 := mapO_id (f := frzT k H) bs' fun x hx => by
    obtain ⟨a, ha, hg⟩ := gmL_mem h3 h4 hx
    exact ih _ _ (lEv_mem h.2 a ha) hg k hk
   simp only [frzT, e1, e2]
  | iface t x y h1 =>
   have := ih _ _ (by simpa [pureA] using h) h1 k hk
   simp only [frzT, this]
  | or a_s a t hm h1 =>
   have hp := lEv_mem (by simpa [pureA] using h) a hm
   exact ih _ _ hp h1 (k + 1) (by omega)
  | agg a_s ts h1 h2 =>
   have e1 := mapO_id (f := frzT k H) ts fun x hx => by
    obtain ⟨a, ha, hg⟩ := gmL_mem h1 h2 hx
    exact ih _ _ (lEv_mem (by simpa [pureA] using h) a ha) hg k hk
   simp only [frzT, e1]
  | tup a_s ts h1 h2 =>
   have e1 := mapO_id (f := frzT k H) ts fun x hx => by
    obtain ⟨a, ha, hg⟩ := gmL_mem h1 h2 hx
    exact ih _ _ (lEv_mem (by simpa [pureA] using h) a ha) hg k hk
   simp only [frzT, e1]
/-! ### Contracts in bounds -/
structure Ctr where
 f : FuncId
 pre : List A
 res : A
def frL (f : A → Option A) : List A → Option (List A)
 | [] => some []
 | a :: a_s => match f a with
  | some b => match frL f a_s with
   | some bs => some (b :: bs)
   | none => none
  | none => none
def frA (hp : List (Nat × AO)) : Nat → A → Option A
 | 0, _ => none
 | n + 1, a => if pureA (n + 1) a then some a else match a with
  | .osl l sz si ci s c => match findA hp l with
   | some (.row _ sz' e s' c') => if Nat.beq sz sz' && (Nat.beq si 0 && (ci == 0 && (Nat.beq s s' && c == c'))) then match e with
     | .agg es => if Nat.blt 1 sz && Nat.beq es.length sz then match frL (frA hp n) es with
       | some bs => some (.sl (.agg bs) s c)
       | none => none
      else none
     | e => if Nat.beq sz 1 && e.one then match frA hp n e with
       | some b => if b.one then some (.sl b s c) else none
       | none => none
      else none
    else none
   | _ => none
  | .agg a_s => match frL (frA hp n) a_s with
   | some bs => some (.agg bs)
   | none => none
  | .tup a_s => match frL (frA hp n) a_s with
   | some bs => some (.tup bs)
   | none => none
  | _ => none
theorem frL_ok {ρ : List Int} {μ : List (Option Nat)} {f : A → Option A} {g : T → Option T} (hf : ∀ a b t, f a = some b → Gm ρ μ a t → ∃ t', g t = some t' ∧ Gm ρ μ b t') :
  ∀ (a_s bs : List A) (ts : List T), frL f a_s = some bs → GmL ρ μ a_s ts → ∃ us, mapO g ts = some us ∧ GmL ρ μ bs us
 | [], bs, ts, h, hg => by simp only [frL] at h; cases h; rw [hg.inv_nil]; exact ⟨[], rfl, .nil⟩
 | a :: a_s, bs, ts, h, hg => by
  simp only [frL] at h
  obtain ⟨t, r, rfl, h1, h2⟩ := hg.inv_cons
  split at h
  ·rename_i b hb
   split at h
   ·rename_i cs hcs
    cases h
    obtain ⟨t', e1, e2⟩ := hf a b t hb h1
    obtain ⟨us, e3, e4⟩ := frL_ok hf a_s cs r hcs h2
    exact ⟨t' :: us, by simp [mapO, e1, e3], GmL.cons e2 e4⟩
   ·cases h
  ·cases h
theorem mapO_app {f : T → Option T} : ∀ (a_s bs xs ys : List T), mapO f a_s = some xs → mapO f bs = some ys → mapO f (a_s ++ bs) = some (xs ++ ys)
 | [], bs, xs, ys, h, h' => by simp only [mapO] at h; cases h; simpa using h'
 | a :: a_s, bs, xs, ys, h, h' => by
  simp only [mapO] at h
  split at h
  ·rename_i r hr
   split at h
   ·rename_i rs hrs
    cases h
    simp [mapO, hr, mapO_app a_s bs rs ys hrs h']
   ·cases h
  ·cases h
theorem rows_ok {ρ : List Int} {μ : List (Option Nat)} {f : T → Option T} {bs : List A} {sz : Nat} (hb : bs.length = sz) (hpos : 0 < sz) : ∀ (ts : List T), (∀ t ∈ ts, ∃ us, mapO f t.cells = some us ∧ GmL ρ μ bs us) →
  ∃ cs, mapO f (ts.flatMap T.cells) = some cs ∧ cs.length = ts.length * sz ∧ ∀ x ∈ chunk sz ts.length cs, Gm ρ μ (.agg bs) x
 | [], _ => ⟨[], rfl, by simp, fun x hx => by simp [chunk] at hx⟩
 | t :: ts, h => by
  obtain ⟨us, u1, u2⟩ := h t (by simp)
  obtain ⟨cs, c1, c2, c3⟩ := rows_ok hb hpos ts fun x hx => h x (by simp [hx])
  have hul : us.length = sz := by rw [← u2.1]; exact hb
  refine ⟨us ++ cs, by rw [List.flatMap_cons]; exact mapO_app _ _ _ _ u1 c1, by rw [List.length_append, hul, c2, List.length_cons, Nat.succ_mul]; omega, fun x hx => ?_⟩
  simp only [List.length_cons, chunk, List.mem_cons] at hx
  rcases hx with rfl | hx
  ·rw [List.take_left' hul]; exact .agg _ _ u2.1 u2.2
  ·rw [List.drop_left' hul] at hx; exact c3 x hx
theorem frA_ok {ρ : List Int} {μ : List (Option Nat)} {hp : List (Nat × AO)} {nl : Nat} {H : Hp} (h0 : ρ[0]? = some 0) (hh : GH hp nl ρ μ H) : ∀ (n : Nat) (a b : A) (t : T), frA hp n a = some b → Gm ρ μ a t → ∀ k, n ≤ k → ∃ t', frzT k H t = some t' ∧ Gm ρ μ b t'
 | 0, _, _, _, h, _, _, _ => by simp [frA] at h
 | n + 1, a, b, t, h, hg, k, hk => by
  have ih := frA_ok h0 hh n
  simp only [frA] at h
  split at h
  ·rename_i hp'
   cases h
   exact ⟨t, frz_id (n + 1) a t hp' hg k hk, hg⟩
  ·obtain ⟨k, rfl⟩ : ∃ k', k = k' + 1 := ⟨k - 1, by omega⟩
   have hk : n ≤ k := by omega
   split at h
   ·rename_i l sz si ci s c _
    split at h
    ·rename_i e0 sz' e s' c' hf
     split at h
     ·rename_i hc
      simp only [Bool.and_eq_true, beq_iff_eq] at hc
      obtain ⟨k1, k2, k3, k4, k5⟩ := hc
      have k1 := nat_beq k1
      have k2 := nat_beq k2
      have k4 := nat_beq k4
      subst k1 k2 k3 k4 k5
      have nilc : ∀ e', (∃ v, ρ[s]? = some v ∧ v + c = 0) → Gm ρ μ (.sl e' s c) .nils := by
       rintro e' ⟨v, v1, v2⟩
       exact .sl e' s c .nils [] v (.inl ⟨rfl, rfl⟩) v1 (by simpa using v2.symm) (fun x hx => by simp at hx)
      cases hg with
      | osl0 _ _ _ _ _ _ vi v g1 g2 g3 g4 g5 =>
       refine ⟨.nils, rfl, ?_⟩
       split at h
       ·split at h
        ·split at h
         ·cases h; exact nilc _ ⟨v, g4, g5⟩
         ·cases h
        ·cases h
       ·split at h
        ·split at h
         ·split at h
          ·cases h; exact nilc _ ⟨v, g4, g5⟩
          ·cases h
         ·cases h
        ·cases h
      | osl _ _ _ _ _ _ l' vi v g1 g2 g3 g4 g5 =>
       rw [h0] at g2; cases g2
       obtain ⟨o, o1, o2, o3, ts, v1, r1, r2, r3, r4⟩ := hh.at hf g1
       rw [g4] at r1; cases r1
       have hlen : (v + c).toNat = ts.length := by omega
       have hfl := flat_len ts (fun t ht => (r4 t ht).2)
       have hcells : (o.cells.drop ((0 + 0 : Int).toNat * sz)).take ((v + c).toNat * sz) = ts.flatMap T.cells := by
        rw [hlen, r3, ← hfl]
        show List.take _ (List.drop ((0 : Nat) * sz) _) = _
        rw [Nat.zero_mul, List.drop_zero, List.take_length]
       have hfit : ((0 + 0 : Int).toNat + (v + c).toNat) * sz ≤ o.cells.length := by rw [r3, hfl, hlen]; simp
       split at h
       ·rename_i es
        split at h
        ·rename_i hsz
         simp only [Bool.and_eq_true] at hsz
         have hsz1 := nat_blt hsz.1
         have hsz2 := nat_beq hsz.2
         split at h
         ·rename_i bs hbs
          cases h
          have hbl : bs.length = sz := by
           rw [← hsz2]
           clear hsz2 hf hsz r4 ih
           induction es generalizing bs with
           | nil => simp only [frL] at hbs; cases hbs; rfl
           | cons x xs ihx =>
            simp only [frL] at hbs
            split at hbs
            ·split at hbs
             ·rename_i q hq; cases hbs; simp [ihx q hq]
             ·cases hbs
            ·cases hbs
          obtain ⟨cs, c1, c2, c3⟩ := rows_ok (ρ := ρ) (μ := μ) (f := frzT k H) hbl (by omega) ts fun t ht => by
           have hgt := (r4 t ht).1
           cases hgt with
           | agg _ us q1 q2 => exact frL_ok (fun a b t hab hat => ih a b t hab hat k hk) es bs us hbs ⟨q1, q2⟩
          refine ⟨.sl false (chunk sz (v + c).toNat cs), ?_, ?_⟩
          ·simp only [frzT, o1]
           rw [if_pos ⟨by omega, o3, hfit⟩, hcells, c1]
           simp only
           rw [if_neg (by omega)]
          ·have := (chunk_flat sz ts.length cs (by rw [c2])).2.2
           rw [hlen]
           exact .sl _ _ _ _ (chunk sz ts.length cs) v (.inr (.inl ⟨_, rfl⟩)) g4 (by rw [this]; exact r2) c3
         ·cases h
        ·cases h
       ·rename_i hna
        split at h
        ·rename_i hsz
         simp only [Bool.and_eq_true] at hsz
         have hsz1 := nat_beq hsz.1
         split at h
         ·rename_i b' hb'
          split at h
          ·rename_i hbo
           cases h
           have cellsOne : ∀ t ∈ ts, t.cells = [t] := fun t ht => cells_single (one_gm (r4 t ht).1 hsz.2).2
           have key : ∀ (l : List T), (∀ t ∈ l, t ∈ ts) → ∃ us, mapO (frzT k H) (l.flatMap T.cells) = some us ∧ us.length = l.length ∧ ∀ u ∈ us, Gm ρ μ b' u := by
            intro l
            induction l with
            | nil => intro _; exact ⟨[], rfl, rfl, fun u hu => by simp at hu⟩
            | cons t l ihl =>
             intro hsub
             obtain ⟨us, u1, u2, u3⟩ := ihl fun x hx => hsub x (by simp [hx])
             obtain ⟨t', t1, t2⟩ := ih _ b' t hb' (r4 t (hsub t (by simp))).1 k hk
             refine ⟨t' :: us, ?_, by simp [u2], fun u hu => ?_⟩
             ·rw [List.flatMap_cons, cellsOne t (hsub t (by simp))]
              simp [mapO, t1, u1]
             ·rcases List.mem_cons.1 hu with rfl | hu
              ·exact t2
              ·exact u3 u hu
           obtain ⟨us, u1, u2, u3⟩ := key ts fun t ht => ht
           refine ⟨.sl false us, ?_, .sl _ _ _ _ us v (.inr (.inl ⟨_, rfl⟩)) g4 (by rw [u2]; exact r2) u3⟩
           simp only [frzT, o1]
           rw [if_pos ⟨by omega, o3, hfit⟩, hcells, u1]
           simp only
           rw [if_pos hsz1, if_pos]
           rw [List.all_eq_true]
           intro u hu
           have := (one_gm (u3 u hu) hbo).2
           simp [this]
          ·cases h
         ·cases h
        ·cases h
     ·cases h
    ·cases h
   ·rename_i a_s _
    split at h
    ·rename_i bs hbs
     cases h
     cases hg with
     | agg _ ts q1 q2 =>
      obtain ⟨us, u1, u2⟩ := frL_ok (fun a b t hab hat => ih a b t hab hat k hk) a_s bs ts hbs ⟨q1, q2⟩
      exact ⟨.agg us, by simp only [frzT, u1], .agg _ _ u2.1 u2.2⟩
    ·cases h
   ·rename_i a_s _
    split at h
    ·rename_i bs hbs
     cases h
     cases hg with
     | tup _ ts q1 q2 =>
      obtain ⟨us, u1, u2⟩ := frL_ok (fun a b t hab hat => ih a b t hab hat k hk) a_s bs ts hbs ⟨q1, q2⟩
      exact ⟨.tup us, by simp only [frzT, u1], .tup _ _ u2.1 u2.2⟩
    ·cases h
   ·cases h
noncomputable def ctRun (P : Program) (X : AX) (d : Nat) (c : Ctr) : Bool :=
 match matV (.tup c.pre) 1 [] with
 | ⟨.tup a_s, n, cs⟩ => match fnA P X d c.f a_s ⟨[], [], n, 0, cs⟩ with
  | some rs => rs.all fun R => match frA R.hp dep R.a with
   | some b => leT R.cs 0 0 dep b c.res
   | none => false
  | none => false
 | _ => false
theorem take0 {α : Type} (l : List α) : l.take 0 = [] := rfl
theorem ct_ans {X : AX} {pe : FuncId → List T → Option T} {k : Nat} (hc : Cn X gl (lend k pe)) (hk : dep ≤ k) {d : Nat} {c : Ctr} (h : ctRun P X d c = true) {ts : List T} (ht : GmL [] [] c.pre ts) :
  ∃ r, Ans P gl pe X.own X.top k c.f ts r ∧ Gm [] [] c.res r := by
 unfold ctRun at h
 have h0 : Sy [0] 1 [] := ⟨rfl, rfl, fun q hq => by simp at hq⟩
 have hv := matV_ok (μ := []) h0 (a := .tup c.pre) (t := .tup ts) (.tup _ _ (ht.ext (ρ' := [0]) (fun j v h => by simp at h) (.refl _)).1 (ht.ext (ρ' := [0]) (fun j v h => by simp at h) (.refl _)).2)
 split at h
 ·rename_i a_s n cs hm
  rw [hm] at hv
  obtain ⟨ρ1, e1, s1, g1⟩ := hv
  cases g1 with
  | tup _ _ g1 g2 =>
  split at h
  ·rename_i rs hrs
   have hh : GH [] 0 ρ1 [] ⟨0, .nl⟩ := ⟨rfl, fun l o h => by simp [findA] at h, fun l l' o o' x h => by simp [findA] at h, fun l x h => by simp at h, fun l e xs h => by simp [findA] at h⟩
   obtain ⟨r, H', ⟨m, e2⟩, R, m1, ρ2, μ2, x1, x2, x3, x4, x5⟩ := fnA_ok hc d c.f a_s ⟨[], [], n, 0, cs⟩ rs hrs ρ1 [] ⟨0, .nl⟩ ts s1 hh ⟨g1, g2⟩
   have hl := List.all_eq_true.1 h R m1
   split at hl
   ·rename_i b hb
    obtain ⟨r', f1, f2⟩ := frA_ok x3.zero x4 dep R.a b r hb x5 k hk
    have hg := leT_ok x3.cs x3.zero 0 0 dep _ _ _ hl f2
    rw [take0, take0] at hg
    refine ⟨r', ⟨m, fun n' d' hn hd => ?_⟩, hg⟩
    unfold pureE
    have e3 : (run2 P ⟨gl, lend k pe⟩ X.own X.top n' d').ee c.f ts ⟨0, .nl⟩ = some (r, H') := e2 n' d' hn hd
    rw [e3]
    exact f1
   ·cases hl
  ·cases h
 ·cases h
def peTab (l : List Ctr) (pe : FuncId → List A → Nat → List Con → Option AV) : FuncId → List A → Nat → List Con → Option AV := fun f a_s n cs =>
 if l.any fun c => Nat.beq c.f f then match l.find? (fun c => Nat.beq c.f f && lAll (leT cs 0 0 dep) a_s c.pre) with
  | some c => some (matV c.res n cs)
  | none => none
 else pe f a_s n cs
theorem peTab_ok {X : AX} {pe : FuncId → List T → Option T} {k : Nat} (hk : dep ≤ k) {pa : FuncId → List A → Nat → List Con → Option AV} (hpa : PeA (lend k pe) pa) {l : List Ctr}
  (hl : ∀ c ∈ l, lEv (pureA dep) c.pre = true ∧ ∃ Y d, Y.own = X.own ∧ Y.top = X.top ∧ Cn Y gl (lend k pe) ∧ ctRun P Y d c = true) :
  PeA (lend k (extP P gl pe X.own X.top k fun f => l.any fun c => Nat.beq c.f f)) (peTab l pa) := by
 intro f a_s n cs v h ρ μ H ts hs hg
 unfold peTab at h
 split at h
 ·rename_i hany
  split at h
  ·rename_i c hf
   have hmem := List.mem_of_find?_eq_some hf
   have hcf := List.find?_some (p := fun c : Ctr => Nat.beq c.f f && lAll (leT cs 0 0 dep) a_s c.pre) hf
   simp only [Bool.and_eq_true] at hcf
   obtain ⟨hcf, hle⟩ := hcf
   have hcf := nat_beq hcf
   subst hcf
   obtain ⟨h2, Y, d, hY1, hY2, hc, h3⟩ := hl c hmem
   cases h
   have hgp : GmL [] [] c.pre ts := by
    have := lAll_gm (fun a t x => leT_ok hs.cs hs.zero 0 0 dep a t x) hle hg
    rwa [take0, take0] at this
   obtain ⟨r, r1, r2⟩ := ct_ans hc hk h3 hgp
   rw [hY1, hY2] at r1
   have hfz : mapO (frzT k ⟨0, .nl⟩) ts = some ts := mapO_id _ fun x hx => by
    obtain ⟨a, ha, hga⟩ := gmL_mem hgp.1 hgp.2 hx
    exact frz_id dep a x (lEv_mem h2 a ha) hga k hk
   refine ⟨r, ?_, matV_ok hs (r2.ext (fun j v h => by simp at h) (fun j v h => by simp at h))⟩
   unfold lend
   rw [hfz]
   exact extP_ans hany r1
  ·cases h
 ·rename_i hno
  obtain ⟨r, r1, r2⟩ := hpa f a_s n cs v h ρ μ H ts hs hg
  refine ⟨r, ?_, r2⟩
  have hfn : ∀ ts, extP P gl pe X.own X.top k (fun f => l.any fun c => Nat.beq c.f f) f ts = pe f ts := fun ts => by
   unfold extP; rw [if_neg hno]
  unfold lend at r1 ⊢
  simp only [hfn]
  exact r1
end
end Go.Ps

/- Layers of contracts. -/
namespace Go.Ps
section
variable {P : Program} {gl : Nat → Option T}
structure Lay (P : Program) (gl : Nat → Option T) (k : Nat) (ga : Nat → Option A) (pa : FuncId → List A → Nat → List Con → Option AV) (pe : FuncId → List T → Option T) (dom : FuncId → Bool) : Prop where
 gA : GlA gl ga
 pA : PeA (lend k pe) pa
 pc : PcOk P gl pe
 dm : ∀ f ts, dom f = false → pe f ts = none
variable {k : Nat} {ga : Nat → Option A} {pa : FuncId → List A → Nat → List Con → Option AV} {pe : FuncId → List T → Option T} {dom : FuncId → Bool}
theorem memN_all {p : FuncId → Bool} : ∀ {l : List Nat}, l.all p = true → ∀ f, memN f l = true → p f = true
 | x :: xs, h, f, hf => by
  simp only [List.all_cons, Bool.and_eq_true] at h
  simp only [memN, Bool.or_eq_true] at hf
  rcases hf with hf | hf
  ·rw [← nat_beq hf]; exact h.1
  ·exact memN_all h.2 f hf
theorem Lay.cn (h : Lay P gl k ga pa pe dom) {X : AX} (h1 : X.gl = ga) (h2 : X.pe = pa) {l : List Nat} (h3 : X.inl = fun f => memN f l) (h4 : l.all (fun f => !dom f) = true) : Cn X gl (lend k pe) := by
 refine ⟨by rw [h1]; exact h.gA, by rw [h2]; exact h.pA, fun g H ts hg => ?_⟩
 rw [h3] at hg
 have hd := memN_all h4 g hg
 have hn : ∀ ts, pe g ts = none := fun ts => h.dm g ts (by simpa using hd)
 unfold lend
 split
 ·exact hn _
 ·split
  ·simp only [hn]
  ·rfl
theorem topOk {l : List Nat} (h : l.all (fun f => okFn P f && fnOk2 P f) = true) : ∀ f, memN f l = true → okFn P f = true ∧ fnOk2 P f = true := fun f hf => by
 have := memN_all h f hf
 simpa using this
theorem Lay.step (h : Lay P gl k ga pa pe dom) (hm : P.follows .mixedOrders = true) (hz : GlFrz gl) (hk : dep ≤ k) {X : AX} {tl : List Nat} (ht : X.top = fun f => memN f tl) (htl : tl.all (fun f => okFn P f && fnOk2 P f) = true) {l : List Ctr}
  (hl : ∀ c ∈ l, lEv (pureA dep) c.pre = true ∧ ∃ Y d, Y.own = X.own ∧ Y.top = X.top ∧ Cn Y gl (lend k pe) ∧ ctRun P Y d c = true) :
  Lay P gl k ga (peTab l pa) (extP P gl pe X.own X.top k fun f => l.any fun c => Nat.beq c.f f) (fun f => (l.any fun c => Nat.beq c.f f) || dom f) := by
 refine ⟨h.gA, peTab_ok hk h.pA hl, extP_ok hm hz h.pc (fun f hf => topOk htl f (by rw [ht] at hf; exact hf)), fun f ts hd => ?_⟩
 simp only [Bool.or_eq_false_iff] at hd
 unfold extP
 rw [if_neg (fun q => by have q' : (l.any fun c => Nat.beq c.f f) = true := q; rw [hd.1] at q'; cases q')]
 exact h.dm f ts hd.2
theorem Lay.start : Lay P (fun _ => none) k (fun _ => none) (fun _ _ _ _ => none) (fun _ _ => none) (fun _ => false) :=
 ⟨fun g a h => (by cases h), fun g a_s n cs v h => (by cases h), fun f ts r h => (by cases h), fun f ts _ => rfl⟩
theorem Lay.pure (h : Lay P gl k ga pa pe dom) (hz : GlFrz gl) {f : FuncId} {ts : List T} {r : T} (hr : pe f ts = some r) (hf : mapO (frzT k ⟨0, .nl⟩) ts = some ts) : PureFn P gl f ts r := by
 have hp := lend_ok (k := k) hz h.pc ⟨0, .nl⟩ f ts r (by unfold lend; rw [hf]; exact hr)
 refine ⟨hp.1, fun g vs hg ⟨N, hN⟩ hgl hv => ?_⟩
 obtain ⟨h1, h2⟩ := lend_ok (k := k) hz h.pc ⟨N, .nl⟩ f ts r (by unfold lend; rw [hf]; exact hr)
 exact h2 g vs hg (St.nl _ _ (hN)) hgl hv
end
end Go.Ps

/- Bounds, notes of loops. -/
namespace Go.Proofs.Tryz
noncomputable section
open Go.Ps
set_option maxRecDepth 100000
def ifull : A := .ival .i64 (-9223372036854775808) 9223372036854775807
def cIdx : A := .ival .i64 0 4611686018427387904
def txt (n : Int) : A := .strv 0 n
def cBig : Int := 9223372036854775807
def a6 : List A := [ifull, ifull, ifull, txt 0, .sxv 0 0, .sxv 0 0]
def a5 : List A := [ifull, ifull, txt 0, .sxv 0 0, .sxv 0 0]
def vA (t w : Int) : Nat → List A
 | 0 => [ifull, ifull, ifull, txt t, .slv (.agg a6) 0 0, .slv (.agg (txt 0 :: a6)) 0 0]
 | d + 1 => [ifull, ifull, ifull, txt t, .slv (.agg (vA t w d)) 0 w, .slv (.agg (txt t :: vA t w d)) 0 w]
def eA : Nat → List A
 | 0 => [ifull, ifull, txt 60, .slv (.agg (vA 40 6 1)) 0 2, .slv (.agg a5) 0 0]
 | d + 1 => [ifull, ifull, txt 60, .slv (.agg (vA 40 6 1)) 0 2, .slv (.agg (eA d)) 0 4]
def vI : Nat → List A
 | 0 => [ifull, ifull, ifull, txt cBig, .sxv 0 cBig, .sxv 0 cBig]
 | d + 1 => [ifull, ifull, ifull, txt cBig, .slv (.agg (vI d)) 0 cBig, .slv (.agg (txt cBig :: vI d)) 0 cBig]
def eI : Nat → List A
 | 0 => [ifull, ifull, txt cBig, .slv (.agg (vI 1)) 0 cBig, .sxv 0 cBig]
 | d + 1 => [ifull, ifull, txt cBig, .slv (.agg (vI 1)) 0 cBig, .slv (.agg (eI d)) 0 cBig]
def partA3 : A := .agg [ifull, ifull, txt 1000000]
def cOne (n : Int) : A := .ival .i64 n n
def upTo (i n : Tmp) : LA := { sp := [(i, .a cIdx)], ms := .up (.slot i) (.slot n) 0 }
def rowTo (i out : Tmp) (e : TypeId) (sz : Nat) (a : A) (m : Int) : LA := { sp := [(i, .a cIdx), (out, .row e sz a 0 m)], cons := [(.slot out, .slot i, 0)], ms := .up (.slot i) .zero m, m0 := m }
def fld (d j : Tmp) (i : Tmp) (e : TypeId) (sz : Nat) (a : A) (m : Int) : LA := { sp := [(i, .a cIdx)], oc := [(d, j, .row e sz a 0 m)], cons := [(.cell d j, .slot i, 0)], ms := .up (.slot i) .zero m, m0 := m }
def peS : FuncId → List A → Nat → List Con → Option AV := fun f l n cs =>
 if Nat.beq f 115 then match l with
  | [s, .strc b] => if beqS b [46, 91, 63] then match lenS s with
   | some (x, c) => if leq cs x c 0 4000000000 then some ⟨.int .i64 n 0, n + 1, .le 0 n 1 :: .le n x (c - 1) :: .le n 0 1000000000000000000 :: cs⟩ else none
   | none => none
   else none
  | _ => none
 else if Nat.beq f 207 then match l with
  | [s, t] => match lenS s, lenS t with
   | some (x, c), some _ => if leq cs x c 0 4000000000 then some ⟨.tup [.str n 0, .str (n + 1) 0, .bool boTop], n + 2, .le 0 n 0 :: .le n x c :: .le 0 (n + 1) 0 :: .le (n + 1) x c :: cs⟩ else none
   | _, _ => none
  | _ => none
 else if Nat.beq f 208 then match l with
  | [s] => match lenS s with
   | some (x, c) => if leq cs x c 0 4000000000 then some (matV (.tup [ifull, .or [.nili, .ifc]]) n cs) else none
   | none => none
  | _ => none
 else if Nat.beq f 56 then match l with
  | [s] => match lenS s with
   | some (x, c) => if leq cs x c 0 4000000000 then some ⟨.bool boTop, n, cs⟩ else none
   | none => none
  | _ => none
 else if Nat.beq f 40 then match l with
  | [.int .i64 _ _] => some (matV (.strv 0 40) n cs)
  | _ => none
 else none
def cmem (l : List Nat) : FuncId → Bool := fun f => memN f l
def anK : FuncId → An := fun f =>
 if Nat.beq f 26 then .node .leaf (.node .leaf (.node (.node .leaf (.loop (upTo 16 15) .leaf)) .leaf))
 else if Nat.beq f 273 then .node .leaf (.node (.node .leaf (.loop (upTo 7 6) .leaf)) .leaf)
 else if Nat.beq f 280 then .node .leaf (.node .leaf (.node (.node .leaf (.loop (upTo 16 15) .leaf)) .leaf))
 else if Nat.beq f 283 then .node .leaf (.node .leaf (.node (.node .leaf (.loop { upTo 17 16 with oc := [(5002, 0, .a ifull), (3002, 0, .a ifull)] } .leaf)) .leaf))
 else if Nat.beq f 317 then .node .leaf (.node (.node .leaf (.node .leaf (.node .leaf (.node .leaf (.node (.node .leaf (.node (.node .leaf (.loop { rowTo 18 3 36 6 (.agg (vA 40 6 0)) 6 with cons := [(.slot 3, .slot 18, 0), (.slot 18, .slot 17, 0)] } .leaf)) .leaf)) .leaf))))) .leaf)
 else if Nat.beq f 137 then .node .leaf (.node .leaf (.node .leaf (.node (.node .leaf (.node .leaf (.loop { oc := [(4, 0, .a ifull), (2, 0, .a ifull)], ms := .down .zero } .leaf))) .leaf)))
 else if Nat.beq f 57 then .node .leaf (.node .leaf (.node .leaf (.node .leaf (.node .leaf (.node (.node .leaf (.loop { upTo 25 24 with oc := [(2, 0, .a ifull)] } .leaf)) .leaf)))))
 else if Nat.beq f 92 then .node .leaf (.node .leaf (.node .leaf (.node (.node .leaf (.loop { sp := [(5, .a (txt 61)), (4, .row 165 3 partA3 0 100)], cons := [(.slot 4, .ghost, 0)], ms := .down (.slot 5), m0 := 61 } .leaf)) .leaf)))
 else if Nat.beq f 141 then .node .leaf (.node (.node .leaf (.loop (upTo 8 7) .leaf)) .leaf)
 else if Nat.beq f 209 then .node .leaf (.node .leaf (.node (.node .leaf (.loop (upTo 25 24) .leaf)) .leaf))
 else .leaf
def poK : FuncId → Option Post := fun f =>
 if Nat.beq f 57 then some { res := ifull, oc := [(2, 0, .a ifull)] }
 else if Nat.beq f 91 then some { res := ifull }
 else if Nat.beq f 88 then some { res := .tup [ifull, ifull] }
 else if memN f [89, 90, 138, 93] then some { res := .bool boTop }
 else none
def jrK : FuncId → Nat → Bool := fun f r => Nat.beq f 205 || Nat.beq f 60 || Nat.beq f 26 || Nat.beq f 209 && Nat.beq r 6 || Nat.beq f 58 && (Nat.beq r 6 || Nat.beq r 4 || Nat.beq r 21)
def kX (pe : FuncId → List A → Nat → List Con → Option AV) (t i : List Nat) : AX := { gl := fun _ => none, pe := pe, inl := cmem i, top := cmem t, own := fun f s => !(Nat.beq f 272 && Nat.beq s 9), jr := jrK, an := anK, post := poK }
def c209 : Ctr := ⟨209, [txt 1000000], .bool boTop⟩
def c140 : Ctr := ⟨140, [partA3], .bool boTop⟩
def c92 : Ctr := ⟨92, [txt 60], .tup [.slv partA3 0 100, ifull]⟩
def c137 : Ctr := ⟨137, [.agg (vA 40 6 1)], ifull⟩
def c58 : Ctr := ⟨58, [.agg (eA 3)], ifull⟩
def c28 : Ctr := ⟨28, [.agg (eA 3)], ifull⟩
def cK1 := kX peS [209] []
def pK1 := peTab [c209] peS
def cK2 := kX pK1 [140] []
def pK2 := peTab [c140] pK1
def cR (f : Nat) : Ctr := ⟨f, [.agg (vA 40 6 1)], ifull⟩
def c205 : Ctr := ⟨205, [.agg (vA 40 6 1)], .bool boTop⟩
def c60 : Ctr := ⟨60, [.agg (vA 40 6 1)], .bool boTop⟩
def c317a : Ctr := ⟨317, [.agg (vA 40 6 0)], .slv (.agg a6) 0 0⟩
def c317b : Ctr := ⟨317, [.agg (vA 40 6 1)], .slv (.agg (vA 40 6 0)) 0 6⟩
def c26 : Ctr := ⟨26, [txt 100], .bool boTop⟩
def c27 : Ctr := ⟨27, [txt 100], .bool boTop⟩
def lR : List Ctr := [cR 269, cR 271, cR 272, cR 274, cR 276, cR 277, cR 278, cR 279, cR 280, cR 281, c205, c60, c317a, c317b, c26, c27]
def c270 : Ctr := ⟨270, [ifull, ifull, ifull], ifull⟩
def c273 : Ctr := ⟨273, [.slv ifull 0 10], ifull⟩
def c275 : Ctr := ⟨275, [ifull, ifull, ifull], ifull⟩
def cKq := kX pK2 [270, 273, 275] []
def pKq := peTab [c270, c273, c275] pK2
def cKr := kX pKq [26, 27, 60, 205, 317, 269, 271, 272, 274, 276, 277, 278, 279, 280, 281] []
def pKr := peTab lR pKq
def cKv := kX pKr [137, 203, 204, 282, 283, 92, 139, 197, 206, 262] [203, 204, 282, 283]
def cK3 := kX pKr [137, 203, 204, 282, 283, 92, 139, 197, 206, 262] [139, 197, 206, 262]
def pK3 := peTab [c92, c137] pKr
def cK4 := kX pK3 [58, 88, 89, 90, 91, 93, 94, 138, 141] [88, 89, 90, 91, 93, 94, 138, 141]
def pK4 := peTab [c58] pK3
def cK5 := kX pK4 [28, 57] [57]
def pK5 := peTab [c28] pK4
def peN := pK5
def anS (d : Nat) : FuncId → An := fun f =>
 if Nat.beq f 29 then .node .leaf (.node .leaf (.node .leaf (.node .leaf (.node (.node .leaf (.loop (rowTo 7 5 36 6 (.agg (vA 40 6 (d - 1))) (if Nat.beq d 0 then 0 else 6)) .leaf)) (.node (.node .leaf (.loop (rowTo 8 6 114 7 (.agg (txt 40 :: vA 40 6 (d - 1))) (if Nat.beq d 0 then 0 else 6)) .leaf)) .leaf)))))
 else if Nat.beq f 55 then .node .leaf (.node .leaf (.node .leaf (.node (.node .leaf (.loop (rowTo 6 5 36 6 (.agg (vA 40 6 1)) 2) .leaf)) (.node .leaf (.node (.node .leaf (.loop (rowTo 8 7 66 5 (.agg (eA (d - 1))) (if Nat.beq d 0 then 0 else 4)) .leaf)) .leaf)))))
 else if Nat.beq f 23 then .node .leaf (.node .leaf (.node (.node .leaf (.loop (fld 3 0 4 68 6 (.agg (txt 60 :: eA 3)) 8) .leaf)) .leaf))
 else if Nat.beq f 8 then .node .leaf (.node .leaf (.node (.node .leaf (.loop (fld 3 0 4 68 6 (.agg (txt 0 :: eI 3)) 2) .leaf)) (.node .leaf (.node .leaf (.node (.node .leaf (.loop (fld 1 4 5 66 5 (.agg (eA 3)) 8) .leaf)) .leaf)))))
 else .leaf
def c29 (d : Nat) : Ctr := ⟨29, [.agg (vI d), cOne (d + 1)], .agg (vA 40 6 d)⟩
def c55 (d : Nat) : Ctr := ⟨55, [.agg (eI d), cOne (d + 1)], .agg (eA d)⟩
def c8 : Ctr := ⟨8, [.agg [txt cBig, txt cBig, ifull, ifull, .slv (.agg (eI 3)) 0 cBig]], .agg [txt 100, txt 100, ifull, ifull, .slv (.agg (eA 3)) 0 8]⟩
def cOwn : FuncId → Tmp → Bool := fun f s => !(Nat.beq f 29 && Nat.beq s 84 || Nat.beq f 8 && (Nat.beq s 25 || Nat.beq s 46) || Nat.beq f 23 && Nat.beq s 41)
def cS (d : Nat) (pe : FuncId → List A → Nat → List Con → Option AV) (t i : List Nat) : AX := { gl := fun _ => none, pe := pe, inl := fun f => memN f i, top := fun f => memN f t, own := cOwn, jr := fun _ _ => false, an := anS d, post := fun _ => none }
def pS1 := peTab [c29 0] peN
def pS2 := peTab [c29 0, c29 1] pS1
def pS3 := peTab [c55 0] pS2
def pS4 := peTab [c55 0, c55 1] pS3
def pS5 := peTab [c55 0, c55 1, c55 2] pS4
def pS6 := peTab [c55 0, c55 1, c55 2, c55 3] pS5
def pS7 := peTab [c8] pS6
end
end Go.Proofs.Tryz

/- What the library answers on the road, in bounds. -/
namespace Go.Proofs.Tryz
open Go.Ps
set_option maxRecDepth 100000
theorem digK_len : ∀ (k u : Nat) (acc : List UInt8), (digK k u acc).length ≤ k + acc.length
 | 0, _, acc => by simp [digK]
 | k + 1, u, acc => by
  unfold digK
  split
  ·simp; omega
  ·have := digK_len k (u / 10) (UInt8.ofNat (48 + u % 10) :: acc)
   simp only [List.length_cons] at this; omega
theorem itoaK_len (n : Int) : (itoaK n).length ≤ 21 := by
 unfold itoaK
 split
 ·have := digK_len 20 n.natAbs []
  simp at this ⊢; omega
 ·have := digK_len 20 n.toNat []
  simp at this; omega
theorem indexAny_lt (c : List UInt8) : ∀ l : List UInt8, Lib.indexAny l c + 1 ≤ l.length
 | [] => by simp [Lib.indexAny]
 | b :: l => by
  have ih := indexAny_lt c l
  simp only [Lib.indexAny, List.length_cons]
  split
  ·omega
  ·split <;> omega
theorem cut_len (s sep : List UInt8) : (Lib.cut s sep).1.length ≤ s.length ∧ (Lib.cut s sep).2.1.length ≤ s.length := by
 unfold Lib.cut
 split
 ·exact ⟨by simp only [List.length_take]; omega, by simp only [List.length_drop]; omega⟩
 ·exact ⟨Nat.le_refl _, by simp⟩
theorem aV_in (s : List UInt8) : InK .i64 (aV s) := by
 unfold aV
 split
 ·rename_i v h; have := Lib.atoiAll_bounds h; exact i64_of (by omega)
 ·unfold Lib.atoiSat; split <;> exact i64_of (by omega)
 ·exact i64_of (by omega)
theorem lend_strs {k : Nat} {pe : FuncId → List T → Option T} {H : Hp} {f : FuncId} {ts : List T} (h : mapO (frzT k ⟨0, .nl⟩) ts = some ts) {r : T} (hr : pe f ts = some r) : lend k pe H f ts = some r := by
 unfold lend
 rw [h]
 exact hr
theorem peS_ok : PeA (lend 40 peZ) peS := by
 intro f xs n cs v h ρ μ H ts hs hg
 unfold peS at h
 split at h
 ·rename_i hf
  have hf := nat_beq hf
  subst hf
  split at h
  ·rename_i s b
   split at h
   ·rename_i hb
    have hb := beqS_ok hb
    subst hb
    split at h
    ·rename_i x c hl
     split at h
     ·rename_i hle
      cases h
      obtain ⟨t, r, rfl, g1, g2⟩ := hg.inv_cons
      obtain ⟨u, r', rfl, g3, g4⟩ := g2.inv_cons
      rw [g4.inv_nil]
      cases g3
      obtain ⟨l, w, rfl, e1, e2⟩ := lenS_ok hs.zero g1 hl
      have hle := leq_ok hs.cs hle e1 hs.zero
      have hi := indexAny_lt dots l
      have hj := Lib.indexAny_ge dots l
      refine ⟨.int .i64 (Lib.indexAny l dots), lend_strs (by rfl) ?_, new_ok hs (i64_of (by omega)) ?_⟩
      ·unfold peZ
       rw [if_pos rfl]
       exact if_pos ⟨by omega, rfl⟩
      ·obtain ⟨n1, n2, n3, n4⟩ := hs.new (Lib.indexAny l dots)
       exact .cons ⟨0, _, n4, n2, by omega⟩ (.cons ⟨_, w, n2, n1 _ _ e1, by omega⟩ (.cons ⟨_, 0, n2, n4, by omega⟩ (hs.cs.ext n1)))
     ·cases h
    ·cases h
   ·cases h
  ·cases h
 ·split at h
  ·rename_i hf
   have hf := nat_beq hf
   subst hf
   split at h
   ·rename_i s t
    split at h
    ·rename_i x c y hl hl2
     split at h
     ·rename_i hle
      cases h
      obtain ⟨t1, r, rfl, g1, g2⟩ := hg.inv_cons
      obtain ⟨u, r', rfl, g3, g4⟩ := g2.inv_cons
      rw [g4.inv_nil]
      obtain ⟨l, w, rfl, e1, e2⟩ := lenS_ok hs.zero g1 hl
      obtain ⟨l2, w2, rfl, e3, e4⟩ := lenS_ok hs.zero g3 (s := y.1) (c := y.2) (by simpa using hl2)
      have hle := leq_ok hs.cs hle e1 hs.zero
      obtain ⟨c1, c2⟩ := cut_len l l2
      refine ⟨.tup [.str (Lib.cut l l2).1, .str (Lib.cut l l2).2.1, .bool (Lib.cut l l2).2.2], lend_strs (by rfl) ?_, ?_⟩
      ·unfold peZ
       rw [if_neg (by decide), if_pos rfl]
       exact if_pos (by omega)
      ·obtain ⟨n1, n2, n3, n4⟩ := hs.new ((Lib.cut l l2).1.length : Int)
       have hs1 : Sy (ρ ++ [((Lib.cut l l2).1.length : Int)]) (n + 1) (.le 0 n 0 :: .le n x c :: cs) :=
        ⟨n3, n4, .cons ⟨0, _, n4, n2, by omega⟩ (.cons ⟨_, w, n2, n1 _ _ e1, by omega⟩ (hs.cs.ext n1))⟩
       obtain ⟨m1, m2, m3, m4⟩ := hs1.new ((Lib.cut l l2).2.1.length : Int)
       refine ⟨_, n1.trans m1, ⟨m3, m4, ?_⟩, .tup _ _ rfl ?_⟩
       ·refine .cons ?_ (.cons ?_ (.cons ?_ (.cons ?_ (hs.cs.ext (n1.trans m1)))))
        ·exact ⟨0, _, m4, m1 _ _ n2, by omega⟩
        ·exact ⟨_, w, m1 _ _ n2, m1 _ _ (n1 _ _ e1), by omega⟩
        ·exact ⟨0, _, m4, m2, by omega⟩
        ·exact ⟨_, w, m2, m1 _ _ (n1 _ _ e1), by omega⟩
       ·intro j a t ha ht
        match j, ha, ht with
        | 0, ha, ht => cases ha; cases ht; exact .str _ _ _ _ (m1 _ _ n2) (by omega)
        | 1, ha, ht => cases ha; cases ht; exact .str _ _ _ _ m2 (by omega)
        | 2, ha, ht => cases ha; cases ht; exact .bool _ _ (boTop_ok _)
        | j + 3, ha, ht => simp at ha
     ·cases h
    ·cases h
   ·cases h
  ·split at h
   ·rename_i hf
    have hf := nat_beq hf
    subst hf
    split at h
    ·rename_i s
     split at h
     ·rename_i x c hl
      split at h
      ·rename_i hle
       cases h
       obtain ⟨t1, r, rfl, g1, g2⟩ := hg.inv_cons
       rw [g2.inv_nil]
       obtain ⟨l, w, rfl, e1, e2⟩ := lenS_ok hs.zero g1 hl
       have hle := leq_ok hs.cs hle e1 hs.zero
       refine ⟨.tup [.int .i64 (aV l), aE l], lend_strs (by rfl) ?_, matV_ok hs (.tup _ _ rfl ?_)⟩
       ·unfold peZ
        rw [if_neg (by decide), if_neg (by decide), if_pos rfl]
        exact if_pos (by omega)
       ·intro j a t ha ht
        match j, ha, ht with
        | 0, ha, ht =>
         cases ha; cases ht
         have hb := aV_in l
         exact .ival _ _ _ _ hb.1 hb.2 hb
        | 1, ha, ht =>
         cases ha; cases ht
         unfold aE
         split
         ·exact .or _ .nili _ (by simp) .nili
         ·exact .or _ .ifc _ (by simp) (.ifc _ _)
        | j + 2, ha, ht => simp at ha
      ·cases h
     ·cases h
    ·cases h
   ·split at h
    ·rename_i hf
     have hf := nat_beq hf
     subst hf
     split at h
     ·rename_i s
      split at h
      ·rename_i x c hl
       split at h
       ·rename_i hle
        cases h
        obtain ⟨t1, r, rfl, g1, g2⟩ := hg.inv_cons
        rw [g2.inv_nil]
        obtain ⟨l, w, rfl, e1, e2⟩ := lenS_ok hs.zero g1 hl
        have hle := leq_ok hs.cs hle e1 hs.zero
        refine ⟨.bool (Lib.validD l), lend_strs (by rfl) ?_, .here hs (.bool _ _ (boTop_ok _))⟩
        unfold peZ
        rw [if_neg (by decide), if_neg (by decide), if_neg (by decide), if_pos rfl]
        exact if_pos (by omega)
       ·cases h
      ·cases h
     ·cases h
    ·split at h
     ·rename_i hf
      have hf := nat_beq hf
      subst hf
      split at h
      ·rename_i s c
       cases h
       obtain ⟨t1, r, rfl, g1, g2⟩ := hg.inv_cons
       rw [g2.inv_nil]
       cases g1 with
       | int _ _ _ w e1 hk =>
       have hb : -9223372036854775808 ≤ w + c ∧ w + c ≤ 9223372036854775807 := hk
       refine ⟨.str (itoaK (w + c)), lend_strs (by rfl) ?_, matV_ok hs (.strv _ _ _ (by omega) ?_)⟩
       ·unfold peZ
        rw [if_neg (by decide), if_neg (by decide), if_neg (by decide), if_neg (by decide), if_pos rfl]
        exact if_pos hb
       ·have := itoaK_len (w + c); omega
      ·cases h
     ·cases h
end Go.Proofs.Tryz
