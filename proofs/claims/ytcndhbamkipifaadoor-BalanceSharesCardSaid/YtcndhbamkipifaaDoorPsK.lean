/- Regions that draw their order: the order of the text serves every order. -/
import Derived.Test.YtcndhbamkipifaaDoorPsJ
namespace Go.Ps

def Ld (listed : Array Bool) (i : Nat) : Prop := listed.getD i false = true

theorem ld_set {listed : Array Bool} {i j : Nat} (hi : i < listed.size) : Ld (listed.setIfInBounds i true) j ↔ Ld listed j ∨ j = i := by
  unfold Ld
  by_cases h : i = j
  · subst h; simp [hi]
  · rw [getD_set_ne false h]; simp [Ne.symm h]

theorem not_ld {listed : Array Bool} {i : Nat} : listed.getD i true = false ↔ i < listed.size ∧ ¬ Ld listed i := by
  unfold Ld
  by_cases h : i < listed.size
  · simp [h]
  · simp [h]

/-! ### What comes before what -/
theorem ancMask_bit (acc : List Nat) (j : Nat) : ∀ (l : List Edge) (s : Nat), (l.foldl (fun s e => if Region.binds .any e then s ||| (2 ^ e.on ||| acc.getD e.on 0) else s) s).testBit j = true →
    s.testBit j = true ∨ ∃ e ∈ l, Region.binds .any e = true ∧ (j = e.on ∨ (acc.getD e.on 0).testBit j = true)
  | [], s, h => .inl h
  | e :: l, s, h => by
    rw [List.foldl_cons] at h
    rcases ancMask_bit acc j l _ h with h | ⟨e', he', h'⟩
    · split at h
      · rename_i hb
        rw [Nat.testBit_or, Nat.testBit_or, Bool.or_eq_true, Bool.or_eq_true] at h
        rcases h with h | h | h
        · exact .inl h
        · refine .inr ⟨e, by simp, hb, .inl ?_⟩
          rw [Nat.testBit_two_pow] at h
          exact (of_decide_eq_true h).symm
        · exact .inr ⟨e, by simp, hb, .inr h⟩
      · exact .inl h
    · exact .inr ⟨e', by simp [he'], h'⟩

theorem ancs_take : ∀ (l : List Oper) (acc : List Nat), (ancs l acc).take acc.length = acc ∧ (ancs l acc).length = acc.length + l.length
  | [], acc => by simp [ancs]
  | o :: l, acc => by
    have ih := ancs_take l (acc ++ [ancMask acc o])
    simp only [ancs]
    refine ⟨?_, by rw [ih.2]; simp; omega⟩
    have h1 := ih.1
    have : ((ancs l (acc ++ [ancMask acc o])).take (acc ++ [ancMask acc o]).length).take acc.length = acc := by rw [h1]; simp
    rw [List.take_take] at this
    rwa [show min acc.length (acc ++ [ancMask acc o]).length = acc.length by simp] at this

theorem ancs_at : ∀ (l : List Oper) (acc : List Nat) (i : Nat) (o : Oper), l[i]? = some o → (ancs l acc)[acc.length + i]? = some (ancMask ((ancs l acc).take (acc.length + i)) o)
  | [], acc, i, o, h => by simp at h
  | x :: l, acc, 0, o, h => by
    simp at h; subst h
    have ht := ancs_take l (acc ++ [ancMask acc x])
    have ht0 := ancs_take (x :: l) acc
    simp only [ancs] at ht0 ⊢
    simp only [Nat.add_zero]
    rw [ht0.1]
    have : ((ancs l (acc ++ [ancMask acc x])).take (acc ++ [ancMask acc x]).length)[acc.length]? = some (ancMask acc x) := by rw [ht.1]; simp
    rw [List.getElem?_take] at this
    split at this
    · exact this
    · cases this
  | x :: l, acc, i + 1, o, h => by
    simp at h
    have := ancs_at l (acc ++ [ancMask acc x]) i o h
    simp only [ancs]
    simp only [List.length_append, List.length_cons, List.length_nil, Nat.zero_add] at this
    rw [show acc.length + (i + 1) = acc.length + 1 + i by omega]
    exact this

theorem prec_spec {ops : Array Oper} {i j : Nat} {o : Oper} (ho : ops[i]? = some o) (h : prec (ancs ops.toList []) i j = true) :
    ∃ e ∈ o.after, Region.binds .any e = true ∧ (j = e.on ∨ (e.on < i ∧ prec (ancs ops.toList []) e.on j = true)) := by
  have ha := ancs_at ops.toList [] i o (by simpa using ho)
  simp only [List.length_nil, Nat.zero_add] at ha
  unfold prec at h
  rw [List.getD_eq_getElem?_getD, ha] at h
  simp only [Option.getD_some] at h
  unfold ancMask at h
  rcases ancMask_bit _ j _ 0 h with h | ⟨e, he, hb, h⟩
  · simp at h
  · refine ⟨e, by simpa using he, hb, h.imp id fun h => ?_⟩
    rw [List.getD_eq_getElem?_getD, List.getElem?_take] at h
    split at h
    · rename_i hlt
      exact ⟨hlt, by unfold prec; rw [List.getD_eq_getElem?_getD]; exact h⟩
    · simp at h

/-- What is listed holds with each operation all that it waits for. -/
def Down (ops : Array Oper) (listed : Array Bool) : Prop := ∀ i o, ops[i]? = some o → Ld listed i → ∀ e ∈ o.after, Region.binds .any e = true → Ld listed e.on

theorem closed_of {ops : Array Oper} {listed : Array Bool} (hd : Down ops listed) (hsz : listed.size = ops.size) : ∀ (i : Nat) (o : Oper), ops[i]? = some o → (∀ e ∈ o.after, Region.binds .any e = true → Ld listed e.on) → ∀ j, prec (ancs ops.toList []) i j = true → Ld listed j := by
  intro i
  induction i using Nat.strongRecOn with
  | _ i ih =>
    intro o ho hall j hp
    obtain ⟨e, he, hb, h⟩ := prec_spec ho hp
    have hl := hall e he hb
    rcases h with rfl | ⟨hlt, h⟩
    · exact hl
    · have hlt' : e.on < ops.size := by
        have : e.on < listed.size := by
          unfold Ld at hl
          by_cases q : e.on < listed.size
          · exact q
          · simp [q] at hl
        omega
      exact ih e.on hlt (ops[e.on]) (by simp [hlt']) (hd e.on _ (by simp [hlt']) hl) j h

theorem edgesBack_spec {ops : Array Oper} (h : edgesBack ops = true) {i : Nat} {o : Oper} (ho : ops[i]? = some o) : ∀ e ∈ o.after, Region.binds .any e = true → e.on < i := by
  intro e he hb
  unfold edgesBack at h
  rw [List.all_eq_true] at h
  have hm : (o, i) ∈ ops.toList.zipIdx := by
    rw [List.mem_iff_getElem?]
    exact ⟨i, by simp [ho]⟩
  have := h _ hm
  rw [List.all_eq_true] at this
  have := this e (by simpa using he)
  simp [hb] at this
  exact this

theorem tmpsOk_spec {ops : Array Oper} {A : List Nat} (h : tmpsOk ops A = true) {i j : Nat} {oi oj : Oper} (hi : ops[i]? = some oi) (hj : ops[j]? = some oj) (hne : i ≠ j) {d : Tmp} (hd : oj.dst = some d) (hn : d ∈ namesT ops oi) :
    (j < i → prec A i j = true) ∧ (i < j → prec A j i = true) := by
  unfold tmpsOk at h
  rw [List.all_eq_true] at h
  have hm : ∀ {k : Nat} {o : Oper}, ops[k]? = some o → (o, k) ∈ ops.toList.zipIdx := fun {k o} ho => by
    rw [List.mem_iff_getElem?]
    exact ⟨k, by simp [ho]⟩
  have := h _ (hm hi)
  rw [List.all_eq_true] at this
  have := this _ (hm hj)
  simp only [hd, Bool.or_eq_true, beq_iff_eq, Bool.not_eq_true'] at this
  rcases this with h | h | h
  · exact absurd h hne
  · exact absurd (List.contains_iff_mem.2 hn) (by rw [h]; simp)
  · constructor
    · intro hlt; rw [if_pos hlt] at h; exact h
    · intro hlt; rw [if_neg (by omega)] at h; exact h

theorem chained_spec {A : List Nat} {m n : Nat} (h : chained A m n = true) {i j : Nat} (h1 : m ≤ i) (h2 : i < n) (h3 : j < i) : prec A i j = true := by
  unfold chained at h
  rw [List.all_eq_true] at h
  have := h i (by rw [List.mem_range'_1]; omega)
  rw [List.all_eq_true] at this
  exact this j (by simpa using h3)

/-! ### How many are left -/
def cnt (listed : Array Bool) : Nat := listed.toList.count false

theorem cnt_set {listed : Array Bool} {i : Nat} (h : listed.getD i true = false) : cnt (listed.setIfInBounds i true) + 1 = cnt listed := by
  obtain ⟨hi, hn⟩ := not_ld.1 h
  have hi' : i < listed.toList.length := by simpa using hi
  have he : listed.toList[i] = false := by simpa [hi] using h
  unfold cnt
  rw [Array.toList_setIfInBounds, List.count_set hi']
  have hpos : 0 < listed.toList.count false := List.count_pos_iff.2 (by rw [← he]; exact List.getElem_mem hi')
  rw [he]
  simp only [beq_self_eq_true, if_true]
  have : (true == false) = false := rfl
  rw [this]
  simp only [Bool.false_eq_true, if_false]
  omega

theorem all_of_cnt {listed : Array Bool} (h : cnt listed = 0) {i : Nat} (hi : i < listed.size) : Ld listed i := by
  unfold cnt at h
  rw [List.count_eq_zero] at h
  unfold Ld
  have : listed.toList[i]'(by simpa using hi) ≠ false := fun q => h (by rw [← q]; exact List.getElem_mem _)
  simpa [hi] using this

theorem cnt_of_all {listed : Array Bool} (h : ∀ i, i < listed.size → Ld listed i) : cnt listed = 0 := by
  unfold cnt
  rw [List.count_eq_zero]
  intro hm
  obtain ⟨i, hi, he⟩ := List.getElem_of_mem hm
  have hi' : i < listed.size := by simpa using hi
  have := h i hi'
  unfold Ld at this
  simp [hi'] at this he
  rw [this] at he; cases he

theorem least (p : Nat → Prop) : ∀ n, (∃ i, i < n ∧ p i) → ∃ i, i < n ∧ p i ∧ ∀ j, j < i → ¬ p j := by
  intro n
  induction n with
  | zero => rintro ⟨i, hi, _⟩; omega
  | succ n ih =>
    rintro ⟨i, hi, hp⟩
    rcases Classical.em (∃ i, i < n ∧ p i) with h | h
    · obtain ⟨i, h1, h2, h3⟩ := ih h; exact ⟨i, by omega, h2, h3⟩
    · have : i = n := by
        rcases Nat.lt_or_ge i n with q | q
        · exact absurd ⟨i, q, hp⟩ h
        · omega
      subst this
      exact ⟨i, by omega, hp, fun j hj hpj => h ⟨j, hj, hpj⟩⟩

theorem some_ready {ops : Array Oper} {listed : Array Bool} (hb : edgesBack ops = true) (hsz : listed.size = ops.size) (h : 0 < cnt listed) : Region.ready .any ops listed ≠ [] := by
  have hex : ∃ i, i < ops.size ∧ ¬ Ld listed i := by
    rcases Classical.em (∃ i, i < ops.size ∧ ¬ Ld listed i) with q | q
    · exact q
    · have : cnt listed = 0 := cnt_of_all fun i hi => Classical.byContradiction fun hn => q ⟨i, by omega, hn⟩
      omega
  obtain ⟨i, h1, h2, h3⟩ := least (fun i => ¬ Ld listed i) ops.size hex
  have : i ∈ Region.ready .any ops listed := by
    refine mem_ready.2 ⟨not_ld.2 ⟨by omega, h2⟩, ops[i], by simp [h1], fun e he hbd => ?_⟩
    have := edgesBack_spec hb (i := i) (o := ops[i]) (by simp [h1]) e he hbd
    exact Classical.byContradiction fun q => h3 e.on this q
  intro e
  rw [e] at this
  cases this

section
variable {P : Program} {ops : Array Oper} {Q : Exit → Act → World → Prop}

/-- Where all up to i have come and the rest is chained. -/
theorem tail_any (hb : edgesBack ops = true) {m : Nat} (hch : chained (ancs ops.toList []) m ops.size = true) : ∀ (r i : Nat) (listed : Array Bool) (a : Act) (w : World), i + r = ops.size → m ≤ i → listed.size = ops.size →
    (∀ j, Ld listed j ↔ j < i) → wpOps P ops Q (List.range' i r) a w → wpAny P .any ops Q r listed a w := by
  intro r
  induction r with
  | zero =>
    intro i listed a w hir _ hsz hl h
    refine ⟨?_, h⟩
    rcases hr : Region.ready .any ops listed with _ | ⟨x, xs⟩
    · rfl
    · have hx : x ∈ Region.ready .any ops listed := by rw [hr]; simp
      obtain ⟨h1, o, h2, _⟩ := mem_ready.1 hx
      have hlt : x < ops.size := (Array.getElem?_eq_some_iff.1 h2).1
      exact absurd ((hl x).2 (by omega)) (not_ld.1 h1).2
  | succ r ih =>
    intro i listed a w hir hmi hsz hl h
    have hdown : Down ops listed := fun k o ho hk e he hbd => (hl e.on).2 (by have := edgesBack_spec hb ho e he hbd; have := (hl k).1 hk; omega)
    refine ⟨fun hr => ?_, fun k hk => ?_⟩
    · have hi : i ∈ Region.ready .any ops listed := by
        refine mem_ready.2 ⟨not_ld.2 ⟨by omega, fun q => by have := (hl i).1 q; omega⟩, ops[i]'(by omega), by simp, fun e he hbd => ?_⟩
        exact (hl e.on).2 (edgesBack_spec hb (i := i) (o := ops[i]'(by omega)) (by simp) e he hbd)
      rw [hr] at hi; cases hi
    · obtain ⟨h1, o, h2, h3⟩ := mem_ready.1 hk
      have hlt : k < ops.size := (Array.getElem?_eq_some_iff.1 h2).1
      have hge : i ≤ k := by
        rcases Nat.lt_or_ge k i with q | q
        · exact absurd ((hl k).2 q) (not_ld.1 h1).2
        · exact q
      have : k = i := by
        rcases Nat.eq_or_lt_of_le hge with q | q
        · exact q.symm
        · have hp := chained_spec hch (i := k) (j := i) (by omega) hlt q
          have := closed_of hdown hsz k o h2 h3 i hp
          have := (hl i).1 this
          omega
      subst this
      rw [List.range'_succ, wpOps_cons] at h
      refine wpOp_mono (fun a w hh => ih (k + 1) (listed.setIfInBounds k true) a w (by omega) (by omega) (by simpa using hsz) (fun j => ?_) hh) h
      rw [ld_set (by omega), hl j]; omega
end

/-! ### The lexical states -/
section
variable (P : Program) (E : Env) (F : Fc) (ops : Array Oper)

/-- One operation that may come at any time. -/
def PreStep (s : Fx) (o : Oper) (s' : Fx) : Prop :=
  (∀ d t, s.pend = some (d, t) → touchesT ops o d = false) ∧ (∀ d, o.dst = some d → d < s.fr.length) ∧
  ((wantedT ops s.fr o = true ∧ ∃ v, evalP P E (ownD F o) s.H s.fr o = some v ∧ s' = { s with fr := putT s.fr o.dst v }) ∨
   (wantedT ops s.fr o = true ∧ ∃ t d n z, o.op = .alloc t ∧ o.dst = some d ∧ s.pend = none ∧ szT P t = some n ∧ zeroT P t = some z ∧ z.cells.length = n ∧ s' = { s with fr := s.fr.set d undefT, pend := some (d, t) }) ∨
   (wantedT ops s.fr o = false ∧ s' = { s with fr := putT s.fr o.dst undefT }))

def Trace (m : Nat) (S : Nat → Fx) : Prop := ∀ i, i < m → ∃ o, ops[i]? = some o ∧ PreStep P E F ops (S i) o (S (i + 1))
end

section
variable {P : Program} {E : Env} {F : Fc} {ops : Array Oper}

theorem trace_of : ∀ (l : List Oper) (m : Nat) (s s' : Fx), (∀ j, l[j]? = ops[m + j]?) → evalDraw P E F ops l m s = some s' →
    ∃ (k : Nat) (S : Nat → Fx), k ≤ l.length ∧ S 0 = s ∧ (∀ i, i < k → ∃ o, l[i]? = some o ∧ PreStep P E F ops (S i) o (S (i + 1))) ∧
      ((k = l.length ∧ (S k).pend = none ∧ s' = S k) ∨ (k < l.length ∧ chained (ancs ops.toList []) (m + k) ops.size = true ∧ evalSeq P E F ops (l.drop k) (S k) = some s'))
  | [], m, s, s', _, h => by
    simp only [evalDraw] at h
    split at h
    · rename_i hp; cases h; exact ⟨0, fun _ => s, by simp, rfl, fun i hi => by omega, .inl ⟨rfl, hp, rfl⟩⟩
    · cases h
  | o :: l, m, s, s', hl, h => by
    have h0 : ops[m]? = some o := by simpa using (hl 0).symm
    have hl' : ∀ j, l[j]? = ops[m + 1 + j]? := fun j => by have := hl (j + 1); simpa [Nat.add_assoc, Nat.add_comm 1 j] using this
    have stop : chained (ancs ops.toList []) m ops.size = true → evalSeq P E F ops (o :: l) s = some s' → _ := fun h1 h2 =>
      (⟨0, fun _ => s, by simp, rfl, fun i hi => by omega, .inr ⟨by simp, h1, h2⟩⟩ : ∃ (k : Nat) (S : Nat → Fx), k ≤ (o :: l).length ∧ S 0 = s ∧ (∀ i, i < k → ∃ o', (o :: l)[i]? = some o' ∧ PreStep P E F ops (S i) o' (S (i + 1))) ∧
      ((k = (o :: l).length ∧ (S k).pend = none ∧ s' = S k) ∨ (k < (o :: l).length ∧ chained (ancs ops.toList []) (m + k) ops.size = true ∧ evalSeq P E F ops ((o :: l).drop k) (S k) = some s')))
    have go : ∀ s1, PreStep P E F ops s o s1 → evalDraw P E F ops l (m + 1) s1 = some s' → ∃ (k : Nat) (S : Nat → Fx), k ≤ (o :: l).length ∧ S 0 = s ∧ (∀ i, i < k → ∃ o', (o :: l)[i]? = some o' ∧ PreStep P E F ops (S i) o' (S (i + 1))) ∧
      ((k = (o :: l).length ∧ (S k).pend = none ∧ s' = S k) ∨ (k < (o :: l).length ∧ chained (ancs ops.toList []) (m + k) ops.size = true ∧ evalSeq P E F ops ((o :: l).drop k) (S k) = some s')) := by
      intro s1 hpre hev
      obtain ⟨k, S, h1, h2, h3, h4⟩ := trace_of l (m + 1) s1 s' hl' hev
      refine ⟨k + 1, fun i => match i with | 0 => s | i + 1 => S i, by simp; omega, rfl, fun i hi => ?_, ?_⟩
      · cases i with
        | zero => exact ⟨o, rfl, by simpa [h2] using hpre⟩
        | succ i => obtain ⟨o', ho', hp'⟩ := h3 i (by omega); exact ⟨o', by simpa using ho', hp'⟩
      · rcases h4 with ⟨e1, e2, e3⟩ | ⟨e1, e2, e3⟩
        · exact .inl ⟨by simp; omega, e2, e3⟩
        · exact .inr ⟨by simp; omega, by rw [show m + (k + 1) = m + 1 + k by omega]; exact e2, by simpa using e3⟩
    simp only [evalDraw] at h
    split at h
    · split at h
      · rename_i hc; exact stop hc h
      · cases h
    · rename_i htouch
      have hpt : ∀ d t, s.pend = some (d, t) → touchesT ops o d = false := fun d t hp => by
        simp only [pendHit, hp, Bool.not_eq_true] at htouch; exact htouch
      split at h
      · cases h
      · rename_i hdst
        have hdl : ∀ d, o.dst = some d → d < s.fr.length := fun d hd => by simpa [dstIn, hd] using hdst
        split at h
        · rename_i hw
          split at h
          · rename_i v hv
            exact go _ ⟨hpt, hdl, .inl ⟨hw, v, hv, rfl⟩⟩ h
          · split at h
            · rename_i d t hal
              obtain ⟨hop, hd⟩ := allocOf_spec hal
              split at h
              · cases h
              · rename_i hpn
                have hpn' : s.pend = none := by simpa using hpn
                split at h
                · rename_i n z hn hz
                  split at h
                  · rename_i hzl
                    exact go _ ⟨hpt, hdl, .inr (.inl ⟨hw, t, d, n, z, hop, hd, hpn', hn, hz, hzl, rfl⟩)⟩ h
                  · cases h
                · cases h
            · split at h
              · rename_i hc; exact stop hc h
              · cases h
        · rename_i hw
          exact go _ ⟨hpt, hdl, .inr (.inr ⟨by simpa using hw, rfl⟩)⟩ h

theorem PreStep.len {s s' : Fx} {o : Oper} (h : PreStep P E F ops s o s') : s'.fr.length = s.fr.length ∧ s'.H = s.H := by
  rcases h.2.2 with ⟨_, v, _, rfl⟩ | ⟨_, t, d, n, z, _, _, _, _, _, _, rfl⟩ | ⟨_, rfl⟩
  · exact ⟨by cases o.dst <;> simp [putT], rfl⟩
  · exact ⟨by simp, rfl⟩
  · exact ⟨by cases o.dst <;> simp [putT], rfl⟩

theorem PreStep.other {s s' : Fx} {o : Oper} (h : PreStep P E F ops s o s') {t : Tmp} (ht : o.dst ≠ some t) : s'.fr[t]? = s.fr[t]? := by
  rcases h.2.2 with ⟨_, v, _, rfl⟩ | ⟨_, ty, d, n, z, _, hd, _, _, _, _, rfl⟩ | ⟨_, rfl⟩
  · cases hd : o.dst with
    | none => rfl
    | some d => have : d ≠ t := fun e => ht (by rw [hd, e]); simp [putT, List.getElem?_set_ne this]
  · have : d ≠ t := fun e => ht (by rw [hd, e]); simp [List.getElem?_set_ne this]
  · cases hd : o.dst with
    | none => rfl
    | some d => have : d ≠ t := fun e => ht (by rw [hd, e]); simp [putT, List.getElem?_set_ne this]

theorem PreStep.pend {s s' : Fx} {o : Oper} (h : PreStep P E F ops s o s') : s'.pend = s.pend ∨ (s.pend = none ∧ ∃ d t, s'.pend = some (d, t) ∧ o.dst = some d ∧ o.op = .alloc t) := by
  rcases h.2.2 with ⟨_, v, _, rfl⟩ | ⟨_, ty, d, n, z, hop, hd, hp, _, _, _, rfl⟩ | ⟨_, rfl⟩
  · exact .inl rfl
  · exact .inr ⟨hp, d, ty, rfl, hd, hop⟩
  · exact .inl rfl

variable {m : Nat} {S : Nat → Fx}

theorem Trace.same (h : Trace P E F ops m S) {t : Tmp} : ∀ (k p : Nat), p + k ≤ m → (∀ j o, p ≤ j → j < p + k → ops[j]? = some o → o.dst ≠ some t) → (S (p + k)).fr[t]? = (S p).fr[t]? := by
  intro k
  induction k with
  | zero => intro p _ _; rfl
  | succ k ih =>
    intro p hp hn
    obtain ⟨o, ho, hs⟩ := h (p + k) (by omega)
    rw [show p + (k + 1) = p + k + 1 by omega, hs.other (hn (p + k) o (by omega) (by omega) ho)]
    exact ih p (by omega) (fun j o' h1 h2 => hn j o' h1 (by omega))

theorem Trace.len (h : Trace P E F ops m S) : ∀ i, i ≤ m → (S i).fr.length = (S 0).fr.length ∧ (S i).H = (S 0).H := by
  intro i
  induction i with
  | zero => intro _; exact ⟨rfl, rfl⟩
  | succ i ih =>
    intro hi
    obtain ⟨o, _, hs⟩ := h i (by omega)
    have := hs.len
    have := ih (by omega)
    exact ⟨by omega, by simp_all⟩

/-- The pending slot stays. -/
theorem Trace.pend (h : Trace P E F ops m S) {d : Tmp} {t : TypeId} : ∀ (k i : Nat), i + k ≤ m → (S i).pend = some (d, t) → (S (i + k)).pend = some (d, t) := by
  intro k
  induction k with
  | zero => intro i _ hp; exact hp
  | succ k ih =>
    intro i hi hp
    obtain ⟨o, _, hs⟩ := h (i + k) (by omega)
    have h1 := ih i (by omega) hp
    rcases hs.pend with e | ⟨e, _⟩
    · rw [show i + (k + 1) = i + k + 1 by omega, e]; exact h1
    · rw [h1] at e; cases e

structure DInv (P : Program) (E : Env) (ops : Array Oper) (m : Nat) (S : Nat → Fx) (g0 : G) (H0 : Hp) (listed : Array Bool) (g : G) (a : Act) : Prop where
  sz : listed.size = ops.size
  down : Down ops listed
  lt : ∀ i, Ld listed i → i < m
  ok : Gok g
  st : St g (S 0).H
  gl : GlOk E.gl g
  df : a.defers = []
  len : a.tmps.size = (S 0).fr.length
  sl : ∀ (t : Tmp) (i : Nat) (v : Value) (c : T), i ≤ m → (∀ j o, j < i → ops[j]? = some o → o.dst = some t → Ld listed j) → (∀ j o, i ≤ j → j < m → ops[j]? = some o → o.dst = some t → ¬ Ld listed j) →
    (S i).pend.map (·.1) ≠ some t → a.tmps[t]? = some v → (S i).fr[t]? = some c → Rd g v c
  pd : ∀ (p : Nat) (d : Tmp) (t : TypeId), p < m → (S p).pend = none → (S (p + 1)).pend = some (d, t) → Ld listed p → Pend P g0 g (S 0).H a d t
  step : SStep H0 g0 (S 0).H g

theorem draw_any (hE : PeOk P E.gl E.pe) (hdr : drawOk ops = true) {g0 : G} {H0 : Hp} (htr : Trace P E F ops m S) (hp0 : (S 0).pend = none) (hm : m ≤ ops.size) (hch : m < ops.size → chained (ancs ops.toList []) m ops.size = true) {Q : Exit → Act → World → Prop}
    (hfin : ∀ a' g', Inv P E g0 H0 g' a' (S m) → wpOps P ops Q (List.range' m (ops.size - m)) a' g'.w) :
    ∀ (fuel : Nat) (listed : Array Bool) (a : Act) (g : G), DInv P E ops m S g0 H0 listed g a → cnt listed = fuel → wpAny P .any ops Q fuel listed a g.w := by
  simp only [drawOk, Bool.and_eq_true] at hdr
  obtain ⟨⟨hb, _⟩, htm⟩ := hdr
  -- all of the prefix have come
  have full : ∀ (listed : Array Bool) (a : Act) (g : G), DInv P E ops m S g0 H0 listed g a → (∀ i, i < m → Ld listed i) → Inv P E g0 H0 g a (S m) := by
    intro listed a g h hall
    have hlen := htr.len m (Nat.le_refl _)
    refine ⟨h.ok, by rw [hlen.2]; exact h.st, h.gl, h.df, ⟨by rw [hlen.1]; exact h.len, fun j v c hj hv hc => ?_⟩, fun d t hpd => ?_, by rw [hlen.2]; exact h.step⟩
    · exact h.sl j m v c (Nat.le_refl _) (fun k o hk _ _ => hall k hk) (fun k o h1 h2 => by omega) hj hv hc
    · -- the pending slot began somewhere
      have : ∃ p, p < m ∧ (S p).pend = none ∧ (S (p + 1)).pend = some (d, t) := by
        have key : ∀ i, i ≤ m → (S i).pend = some (d, t) → ∃ p, p < i ∧ (S p).pend = none ∧ (S (p + 1)).pend = some (d, t) := by
          intro i
          induction i with
          | zero => intro _ q; rw [hp0] at q; cases q
          | succ i ih =>
            intro hi q
            obtain ⟨o, _, hs⟩ := htr i (by omega)
            rcases hs.pend with e | ⟨e, _⟩
            · obtain ⟨p, h1, h2, h3⟩ := ih (by omega) (by rw [← e]; exact q)
              exact ⟨p, by omega, h2, h3⟩
            · exact ⟨i, by omega, e, q⟩
        exact key m (Nat.le_refl _) hpd
      obtain ⟨p, h1, h2, h3⟩ := this
      have := h.pd p d t h1 h2 h3 (hall p h1)
      rw [hlen.2]; exact this
  intro fuel
  induction fuel with
  | zero =>
    intro listed a g h hc
    have hall : ∀ i, i < ops.size → Ld listed i := fun i hi => all_of_cnt hc (by rw [h.sz]; exact hi)
    have hme : m = ops.size := by
      rcases Nat.lt_or_ge m ops.size with q | q
      · have := h.lt m (hall m q); omega
      · omega
    have hi := full listed a g h (fun i hi => hall i (by omega))
    have hq := hfin a g hi
    rw [hme, Nat.sub_self] at hq
    refine ⟨?_, hq⟩
    rcases hr : Region.ready .any ops listed with _ | ⟨x, xs⟩
    · rfl
    · have hx : x ∈ Region.ready .any ops listed := by rw [hr]; simp
      obtain ⟨h1, o, h2, _⟩ := mem_ready.1 hx
      exact absurd (hall x (Array.getElem?_eq_some_iff.1 h2).1) (not_ld.1 h1).2
  | succ fuel ih =>
    intro listed a g h hc
    refine ⟨fun hr => absurd hr (some_ready hb h.sz (by omega)), fun i hi => ?_⟩
    obtain ⟨h1, o, h2, h3⟩ := mem_ready.1 hi
    have hni := (not_ld.1 h1).2
    have hio : i < ops.size := (Array.getElem?_eq_some_iff.1 h2).1
    have hcl : ∀ j, prec (ancs ops.toList []) i j = true → Ld listed j := closed_of h.down h.sz i o h2 h3
    by_cases him : i < m
    · -- an operation of the prefix
      obtain ⟨o', ho', hps⟩ := htr i him
      rw [h2] at ho'
      cases ho'
      -- writers of a slot that it names: those before it have come, those behind it have not
      have before : ∀ t, t ∈ namesT ops o → ∀ j oj, j < i → ops[j]? = some oj → oj.dst = some t → Ld listed j := fun t ht j oj hj hoj hd =>
        hcl j ((tmpsOk_spec htm h2 hoj (by omega) hd ht).1 hj)
      have behind : ∀ t, t ∈ namesT ops o → ∀ j oj, i < j → ops[j]? = some oj → oj.dst = some t → ¬ Ld listed j := fun t ht j oj hj hoj hd hl =>
        hni (closed_of h.down h.sz j oj hoj (h.down j oj hoj hl) i ((tmpsOk_spec htm h2 hoj (by omega) hd ht).2 hj))
      have notself : ∀ t, t ∈ namesT ops o → ∀ j oj, i ≤ j → ops[j]? = some oj → oj.dst = some t → ¬ Ld listed j := fun t ht j oj hj hoj hd => by
        rcases Nat.eq_or_lt_of_le hj with rfl | hj
        · exact hni
        · exact behind t ht j oj hj hoj hd
      have hleni := htr.len i (by omega)
      -- what it looks at
      have slot : ∀ t, t ∈ o.looksAt ops → (S i).pend.map (·.1) ≠ some t → ∀ v c, a.tmps[t]? = some v → (S i).fr[t]? = some c → Rd g v c := fun t ht hpn v c hv hcc => by
        have hn : t ∈ namesT ops o := List.mem_append.2 (.inr ht)
        exact h.sl t i v c (by omega) (fun j oj hj hoj hd => before t hn j oj hj hoj hd) (fun j oj hj _ hoj hd => notself t hn j oj hj hoj hd) hpn hv hcc
      have hnp : ∀ t, t ∈ o.looksAt ops → (S i).pend.map (·.1) ≠ some t := fun t ht q => by
        cases hp : (S i).pend with
        | none => rw [hp] at q; cases q
        | some dt =>
          obtain ⟨d, ty⟩ := dt
          rw [hp] at q
          cases q
          exact (touch_spec (hps.1 d ty hp)).1 ht
      have getfr : ∀ t, t ∈ o.looksAt ops → Rd g (a.tmps.getD t undef) (getT (S i).fr t) := fun t ht => by
        unfold getT
        by_cases hlt : t < (S i).fr.length
        · have hlt' : t < a.tmps.size := by rw [h.len, ← hleni.1]; exact hlt
          have := slot t ht (hnp t ht) a.tmps[t] (S i).fr[t] (by simp [hlt']) (by simp [hlt])
          simpa [hlt, hlt'] using this
        · have hlt' : ¬ t < a.tmps.size := by rw [h.len, ← hleni.1]; exact hlt
          have e1 : a.tmps.getD t undef = undef := by simp [Array.getElem?_eq_none (Nat.le_of_not_lt hlt')]
          have e2 : (S i).fr.getD t undefT = undefT := by simp [List.getElem?_eq_none (Nat.le_of_not_lt hlt)]
          rw [e1, e2]; exact Rd.undef
      have hop : ∀ x ∈ o.op.operands, ∀ r, evalT E.gl (S i).fr x = some r → Rd g (a.eval x) r := fun x hx r hr => by
        cases x with
        | tmp t => simp only [evalT, Option.some.injEq] at hr; subst hr; exact getfr t (mem_looksAt_op hx)
        | const v => exact rd_ofVal g hr
        | global k => exact (h.gl k r hr).1
        | func f => simp only [evalT, Option.some.injEq] at hr; subst hr; exact Rd.mk_fn RdL.nil RdL.nil
      have hwant : Region.wanted o (yielded ops a.tmps) = wantedT ops (S i).fr o := by
        unfold Region.wanted wantedT
        cases hg : o.guard with
        | none => rfl
        | some p =>
          obtain ⟨j, w⟩ := p
          simp only
          congr 1
          unfold yielded yieldedT
          cases hd : (ops[j]?).bind (·.dst) with
          | none => rfl
          | some d =>
            simp only [Option.bind_some]
            have hl := mem_looksAt_guard hg hd
            by_cases hlt : d < (S i).fr.length
            · have hlt' : d < a.tmps.size := by rw [h.len, ← hleni.1]; exact hlt
              have hv : a.tmps[d]? = some a.tmps[d] := by simp [hlt']
              have hcc : (S i).fr[d]? = some (S i).fr[d] := by simp [hlt]
              have := slot d hl (hnp d hl) _ _ hv hcc
              rw [hv, hcc]
              generalize a.tmps[d] = u at this
              generalize (S i).fr[d] = c at this
              cases this <;> rfl
            · have hlt' : ¬ d < a.tmps.size := by rw [h.len, ← hleni.1]; exact hlt
              rw [Array.getElem?_eq_none (Nat.le_of_not_lt hlt'), List.getElem?_eq_none (Nat.le_of_not_lt hlt)]
      -- the state behind it
      have hcnt : cnt (listed.setIfInBounds i true) = fuel := by have := cnt_set h1; omega
      have hld : ∀ j, Ld (listed.setIfInBounds i true) j ↔ Ld listed j ∨ j = i := fun j => ld_set (by rw [h.sz]; exact hio)
      have hdown' : Down ops (listed.setIfInBounds i true) := fun k ok hk hl e he hbd => (hld e.on).2 (.inl (by
        rcases (hld k).1 hl with q | rfl
        · exact h.down k ok hk q e he hbd
        · rw [h2] at hk; cases hk; exact h3 e he hbd))
      -- no operation that has come since touches the pending slot
      have pendkeep : ∀ (p : Nat) (d : Tmp) (t : TypeId), p < m → (S p).pend = none → (S (p + 1)).pend = some (d, t) → Ld listed p → o.dst ≠ some d := fun p d t hp hn hsm hlp hd => by
        obtain ⟨op, hop', hpp⟩ := htr p hp
        have hdst : op.dst = some d := by
          rcases hpp.pend with e | ⟨_, d', t', e1, e2, _⟩
          · rw [e, hn] at hsm; cases hsm
          · rw [hsm] at e1; cases e1; exact e2
        have hip : i ≠ p := fun q => hni (q ▸ hlp)
        rcases Nat.lt_or_ge i p with q | q
        · -- it is before: then it has come
          have := tmpsOk_spec htm h2 hop' hip hdst (List.mem_append.2 (.inl (by rw [hd]; simp)))
          exact hni (closed_of h.down h.sz p op hop' (h.down p op hop' hlp) i (this.2 q))
        · have hpi : (S i).pend = some (d, t) := by
            have := htr.pend (i - (p + 1)) (p + 1) (by omega) hsm
            rwa [show p + 1 + (i - (p + 1)) = i by omega] at this
          exact (touch_spec (hps.1 d t hpi)).2 hd
      -- the next state, where a value was put
      have next : ∀ (g' : G) (v : Value) (c : T), PStep g g' → Gok g' → Rd g' v c → (∀ d, o.dst = some d → (S (i + 1)).fr[d]? = some c ∧ (S (i + 1)).pend = (S i).pend) → (o.dst = none → (S (i + 1)).pend = (S i).pend) →
          DInv P E ops m S g0 H0 (listed.setIfInBounds i true) g' (a.put o.dst v) := by
        intro g' v c hst hok hv hset hset'
        have hpe : (S (i + 1)).pend = (S i).pend := by
          cases hd : o.dst with
          | none => exact hset' hd
          | some d => exact (hset d hd).2
        refine ⟨by simpa using h.sz, hdown', fun j hj => ((hld j).1 hj).elim (h.lt j) (fun e => e ▸ him), hok, h.st.pstep hst, h.gl.pstep hst, by rw [put_defers]; exact h.df, ?_, ?_, ?_, h.step.trans hst.toS⟩
        · cases o.dst <;> simp [Act.put, h.len]
        · intro t k u cc hk hw1 hw2 hpn hu hcc
          by_cases htd : o.dst = some t
          · -- its own slot
            have hik : i < k := by
              rcases Nat.lt_or_ge i k with q | q
              · exact q
              · exact absurd ((hld i).2 (.inr rfl)) (hw2 i o q him h2 htd)
            have hnow : ∀ j oj, i + 1 ≤ j → j < k → ops[j]? = some oj → oj.dst ≠ some t := fun j oj hj1 hj2 hoj hd => by
              have hl := hw1 j oj hj2 hoj hd
              rcases (hld j).1 hl with q | q
              · exact behind t (List.mem_append.2 (.inl (by rw [htd]; simp))) j oj (by omega) hoj hd q
              · omega
            have hsame := htr.same (t := t) (k - (i + 1)) (i + 1) (by omega) (fun j oj q1 q2 => hnow j oj q1 (by omega))
            rw [show i + 1 + (k - (i + 1)) = k by omega] at hsame
            rw [hsame, (hset t htd).1] at hcc
            cases hcc
            rw [htd] at hu
            simp only [Act.put, Array.getElem?_setIfInBounds_self] at hu
            split at hu
            · cases hu; exact hv
            · cases hu
          · have hu' : a.tmps[t]? = some u := by
              cases hd : o.dst with
              | none => rw [hd] at hu; exact hu
              | some d =>
                rw [hd] at hu
                have : d ≠ t := fun e => htd (by rw [hd, e])
                simpa [Act.put, Array.getElem?_setIfInBounds_ne this] using hu
            refine (h.sl t k u cc hk (fun j oj hj hoj hd => ?_) (fun j oj hj1 hj2 hoj hd hl => hw2 j oj hj1 hj2 hoj hd ((hld j).2 (.inl hl))) hpn hu' hcc).pstep hst
            rcases (hld j).1 (hw1 j oj hj hoj hd) with q | rfl
            · exact q
            · rw [h2] at hoj; cases hoj; exact absurd hd htd
        · intro p d t hp hn hsm hl
          rcases (hld p).1 hl with q | rfl
          · exact ((h.pd p d t hp hn hsm q).pstep hst).put (pendkeep p d t hp hn hsm q) v
          · rw [hpe, hn] at hsm; cases hsm
      unfold wpOp
      rw [h2]
      simp only
      rw [hwant]
      rcases hps.2.2 with ⟨hw, v, hv, hS⟩ | ⟨hw, t, d, n, z, hopa, hd, hpn, hn, hz, hzl, hS⟩ | ⟨hw, hS⟩
      · rw [if_pos hw]
        left
        have hst' : St g (S i).H := by rw [hleni.2]; exact h.st
        refine evalP_ok hE h.gl hst' h.ok hv hop _ _ (fun u g' hst hok hr => ih _ _ g' (next g' u v hst hok hr (fun d hd => ?_) (fun _ => by rw [hS])) hcnt)
        refine ⟨?_, by rw [hS]⟩
        rw [hS, hd]
        simp [putT, hps.2.1 d hd]
      · rw [if_pos hw]
        left
        -- the pending variable is made
        obtain ⟨zv, hzv, hzr⟩ := zero_ok (g := g) hz
        let g' : G := { g with w := { g.w with heap := g.w.heap.push (.cells zv.cells t) } }
        have hst : PStep g g' := ⟨rfl, rfl, rfl, by simp [g'], fun b hb => by simp only [g']; rw [Array.getElem?_push, if_neg (by omega)], fun _ q => q, fun _ q => .inl q, rfl, rfl, rfl⟩
        have hok : Gok g' := fun b hb => by have := h.ok b hb; simp only [g', Array.size_push]; omega
        have hrun : (execOp a.eval o).run P g.w = .ok (.value (.pointer (some ⟨g.w.heap.size, 0, none⟩))) g'.w := by
          simp only [execOp, hopa, Instr.alloc, Sem.run_bind, hzv, Result.andThen_ok, newVar, newRow, run_newObj, Sem.run_pure]; rfl
        unfold Oper.wp
        rw [hrun]
        refine ih _ _ g' ?_ hcnt
        have hdl := hps.2.1 d hd
        have hdl' : d < a.tmps.size := by rw [h.len, ← hleni.1]; exact hdl
        refine ⟨by simpa using h.sz, hdown', fun j hj => ((hld j).1 hj).elim (h.lt j) (fun e => e ▸ him), hok, h.st.pstep hst, h.gl.pstep hst, by rw [put_defers]; exact h.df, by simp [hd, Act.put, h.len], ?_, ?_, h.step.trans hst.toS⟩
        · intro t' k u cc hk hw1 hw2 hpn' hu hcc
          by_cases htd : d = t'
          · subst htd
            have hik : i < k := by
              rcases Nat.lt_or_ge i k with q | q
              · exact q
              · exact absurd ((hld i).2 (.inr rfl)) (hw2 i o q him h2 hd)
            have hpk : (S k).pend = some (d, t) := by
              have h0 : (S (i + 1)).pend = some (d, t) := by rw [hS]
              have := htr.pend (k - (i + 1)) (i + 1) (by omega) h0
              rwa [show i + 1 + (k - (i + 1)) = k by omega] at this
            rw [hpk] at hpn'
            exact absurd rfl hpn'
          · have hu' : a.tmps[t']? = some u := by
              rw [hd] at hu
              simpa [Act.put, Array.getElem?_setIfInBounds_ne htd] using hu
            refine (h.sl t' k u cc hk (fun j oj hj hoj hdj => ?_) (fun j oj hj1 hj2 hoj hdj hl => hw2 j oj hj1 hj2 hoj hdj ((hld j).2 (.inl hl))) hpn' hu' hcc).pstep hst
            rcases (hld j).1 (hw1 j oj hj hoj hdj) with q | rfl
            · exact q
            · rw [h2] at hoj; cases hoj; rw [hd] at hdj; exact absurd (by injection hdj) htd
        · intro p d' t' hp hnn hsm hl
          rcases (hld p).1 hl with q | rfl
          · exact ((h.pd p d' t' hp hnn hsm q).pstep hst).put (pendkeep p d' t' hp hnn hsm q) _
          · rw [hS] at hsm
            simp only [Option.some.injEq, Prod.mk.injEq] at hsm
            obtain ⟨rfl, rfl⟩ := hsm
            have hcz := hzr.cells
            refine ⟨g.w.heap.size, zv.cells, ?_, h.step.size, fun q => ?_, fun l ob hl => ?_, ?_, ?_⟩
            · simp only [hd, Act.put]; rw [Array.getElem?_setIfInBounds_self, if_pos hdl']
            · exact absurd (h.ok _ q) (by omega)
            · have := h.st.lt hl; show g.loc l ≠ _; omega
            · simp only [g']; exact Array.getElem?_push_size
            · rw [hn, ← hzl, ← hcz.1]; simp
      · rw [hw]
        simp only [Bool.false_eq_true, if_false]
        refine ih _ _ g (next g undef undefT (PStep.refl g) h.ok Rd.undef (fun d hd => ?_) (fun _ => by rw [hS])) hcnt
        refine ⟨?_, by rw [hS]⟩
        rw [hS, hd]
        simp [putT, hps.2.1 d hd]
    · -- the chained rest begins
      have hlt : m < ops.size := by omega
      have hchn := hch hlt
      have hallj : ∀ j, j < i → Ld listed j := fun j hj => hcl j (chained_spec hchn (by omega) hio hj)
      have hie : i = m := by
        rcases Nat.eq_or_lt_of_le (Nat.le_of_not_lt him) with q | q
        · exact q.symm
        · have := h.lt m (hallj m q); omega
      subst hie
      have hinv := full listed a g h hallj
      have hq := hfin a g hinv
      have hexact : ∀ j, Ld listed j ↔ j < i := fun j => ⟨h.lt j, hallj j⟩
      have hc' : cnt listed = ops.size - i := by
        -- by the tail's own count
        have key : ∀ (r k : Nat) (L : Array Bool), L.size = ops.size → (∀ j, Ld L j ↔ j < k) → k + r = ops.size → cnt L = r := by
          intro r
          induction r with
          | zero => intro k L hs hl hk; exact cnt_of_all fun j hj => (hl j).2 (by omega)
          | succ r ihr =>
            intro k L hs hl hk
            have hun : L.getD k true = false := not_ld.2 ⟨by omega, fun q => by have := (hl k).1 q; omega⟩
            have := ihr (k + 1) (L.setIfInBounds k true) (by simpa using hs) (fun j => by rw [ld_set (by omega), hl j]; omega) (by omega)
            have := cnt_set hun
            omega
        exact key (ops.size - i) i listed h.sz hexact (by omega)
      rw [show ops.size - i = (ops.size - (i + 1)) + 1 by omega, List.range'_succ, wpOps_cons] at hq
      have hf : fuel = ops.size - (i + 1) := by omega
      rw [hf]
      refine wpOp_mono (fun a w hh => tail_any hb hchn (ops.size - (i + 1)) (i + 1) (listed.setIfInBounds i true) a w (by omega) (by omega) (by simpa using h.sz) (fun j => ?_) hh) hq
      rw [ld_set (by rw [h.sz]; exact hio), hexact j]; omega
end
end Go.Ps
