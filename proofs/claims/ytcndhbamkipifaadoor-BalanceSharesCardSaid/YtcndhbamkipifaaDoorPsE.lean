/- Slices, struct and slice literals, calls; and the theorem on every operation that changes no object. -/
import Derived.Test.YtcndhbamkipifaaDoorPsD
namespace Go.Ps

theorem extract_bytes (s : ByteArray) (l h : Nat) : (s.extract l h).data.toList = (s.data.toList.take h).drop l := by
  rw [ByteArray.data_extract, Array.toList_extract, List.extract_eq_take_drop, List.drop_take]

section
variable {P : Program} {g : G}

/-- An optional operand, read. -/
def RdO (g : G) : Option Value → Option T → Prop
  | none, none => True
  | some v, some t => Rd g v t
  | _, _ => False

theorem bound_ok {x : Option T} {dflt top r : Nat} (h : boundT x dflt top = some r) {v : Option Value} (hv : RdO g v x) :
    (v = none ∧ r = dflt) ∨ ∃ k n, v = some (.int k n) ∧ 0 ≤ n ∧ n ≤ top ∧ n.toNat = r := by
  unfold boundT at h
  split at h
  · cases h; left; cases v with
    | none => exact ⟨rfl, rfl⟩
    | some v => simp [RdO] at hv
  · rename_i k n
    split at h
    · rename_i hn
      cases h
      cases v with
      | none => simp [RdO] at hv
      | some v => simp only [RdO] at hv; cases hv; exact .inr ⟨k, n, rfl, hn.1, hn.2, rfl⟩
    · cases h
  · cases h

theorem bounds_run {isS : Bool} {len cap : Nat} {lo hi : Option Value} {l h : Nat}
    (hh : (hi = none ∧ h = len) ∨ ∃ k n, hi = some (.int k n) ∧ 0 ≤ n ∧ n ≤ (cap : Int) ∧ n.toNat = h)
    (hl : (lo = none ∧ l = 0) ∨ ∃ k n, lo = some (.int k n) ∧ 0 ≤ n ∧ n ≤ (h : Int) ∧ n.toNat = l) :
    (Instr.sliceBounds isS len cap lo hi none).run P g.w = .ok (l, h, cap) g.w := by
  rcases hh with ⟨rfl, rfl⟩ | ⟨k, n, rfl, a0, a1, rfl⟩ <;> rcases hl with ⟨rfl, rfl⟩ | ⟨k', n', rfl, b0, b1, rfl⟩ <;> simp_all [Instr.sliceBounds, Instr.sliceBound, asIntOf]

theorem flat_take {xs : List T} {sz : Nat} (hsz : ∀ x ∈ xs, x.cells.length = sz) (n : Nat) : (xs.take n).flatMap T.cells = (xs.flatMap T.cells).take (n * sz) := by
  induction xs generalizing n with
  | nil => simp
  | cons x xs ih =>
    have hx := hsz x (by simp)
    cases n with
    | zero => simp
    | succ n =>
      simp only [List.take_succ_cons, List.flatMap_cons, ih (fun y hy => hsz y (by simp [hy]))]
      rw [List.take_append, hx, List.take_of_length_le (l := x.cells) (by rw [hx, Nat.succ_mul]; omega), show (n + 1) * sz - sz = n * sz by rw [Nat.succ_mul]; omega]
theorem flat_drop {xs : List T} {sz : Nat} (hsz : ∀ x ∈ xs, x.cells.length = sz) (n : Nat) : (xs.drop n).flatMap T.cells = (xs.flatMap T.cells).drop (n * sz) := by
  induction xs generalizing n with
  | nil => simp
  | cons x xs ih =>
    have hx := hsz x (by simp)
    cases n with
    | zero => simp
    | succ n =>
      simp only [List.drop_succ_cons, List.flatMap_cons, ih (fun y hy => hsz y (by simp [hy]))]
      rw [List.drop_append, hx, List.drop_of_length_le (l := x.cells) (by rw [hx, Nat.succ_mul]; omega), show (n + 1) * sz - sz = n * sz by rw [Nat.succ_mul]; omega]
      simp
theorem flat_sub {xs : List T} {sz l hh : Nat} (hsz : ∀ x ∈ xs, x.cells.length = sz) (_hle : hh ≤ xs.length) (j : Nat) (c : T) (hc : (((xs.take hh).drop l).flatMap T.cells)[j]? = some c) : (xs.flatMap T.cells)[l * sz + j]? = some c := by
  rw [flat_drop (fun x hx => hsz x (List.mem_of_mem_take hx)), flat_take hsz, List.getElem?_drop, List.getElem?_take] at hc
  split at hc
  · exact hc
  · cases hc

theorem slice_ok {t : TypeId} {x r : T} {lo hi : Option T} (h : sliceT P t x lo hi = some r) {u : Value} {vlo vhi : Option Value} (hu : Rd g u x) (hlo : RdO g vlo lo) (hhi : RdO g vhi hi) :
    ∃ q, (Instr.sliceAt t u vlo vhi none).run P g.w = .ok q g.w ∧ Rd g q r := by
  unfold sliceT at h
  split at h
  · rename_i s hd
    obtain ⟨a, rfl, rfl⟩ := hu.inv_str
    have es : a.data.toList.length = a.size := by simp [ByteArray.size_data]
    split at h
    · rename_i hh eh
      split at h
      · rename_i l el
        cases h
        have b1 := bound_ok eh hhi
        have b2 := bound_ok el hlo
        rw [es] at b1
        have hb := bounds_run (P := P) (g := g) (isS := false) (len := a.size) (cap := a.size) b1 b2
        refine ⟨.string (a.extract l hh), by simp [Instr.sliceAt, Instr.slice, run_underlying hd, hb], ?_⟩
        rw [← extract_bytes]; exact .str _
      · cases h
    · cases h
  · rename_i e full xs hd
    split at h
    · rename_i hh eh
      split at h
      · rename_i l el
        split at h
        · rename_i s hs
          split at h
          · rename_i hok
            cases h
            simp only [szT, Option.map_eq_some_iff] at hs
            obtain ⟨i, hi, rfl⟩ := hs
            cases hu with
            | sl _ _ sz b o cap vs h1 h2 h3 h4 h5 h6 h7 h8 =>
              have b1 := bound_ok eh hhi
              have b2 := bound_ok el hlo
              have b1' : (vhi = none ∧ hh = xs.length) ∨ ∃ k n, vhi = some (.int k n) ∧ 0 ≤ n ∧ n ≤ (cap : Int) ∧ n.toNat = hh := by
                rcases b1 with b1 | ⟨k, n, e1, e2, e3, e4⟩
                · exact .inl b1
                · exact .inr ⟨k, n, e1, e2, by omega, e4⟩
              have hle : hh ≤ xs.length := by rcases b1 with ⟨_, b1⟩ | ⟨k, n, e1, e2, e3, e4⟩ <;> omega
              have hl : l ≤ hh := by rcases b2 with ⟨_, b2⟩ | ⟨k, n, e1, e2, e3, e4⟩ <;> omega
              have hb := bounds_run (P := P) (g := g) (isS := true) (len := xs.length) (cap := cap) b1' b2
              have hlen : ((xs.take hh).drop l).length = hh - l := by simp; omega
              refine ⟨.slice (some (if cap = l then ⟨b, o, none⟩ else ⟨b, o + l * i.size, none⟩)) (hh - l) (cap - l), ?_, ?_⟩
              · simp only [Instr.sliceAt, Instr.slice, Sem.run_bind, run_underlying hd, Result.andThen_ok, hb, sizeOf, typeInfo, run_program, hi, Sem.run_pure, Option.map_some, Addr.add_lit]
                split <;> rfl
              · rw [← hlen]
                have hcap : (full && hh == xs.length) = true → cap - l = ((xs.take hh).drop l).length := fun q => by
                  simp only [Bool.and_eq_true, beq_iff_eq] at q
                  have := h5 q.1
                  rw [hlen]; omega
                by_cases hnil : (xs.take hh).drop l = []
                · rw [hnil] at hcap ⊢
                  have : ∀ (b' o' : Nat), Rd g (.slice (some ⟨b', o', none⟩) ([] : List T).length (cap - l)) (.sl (full && hh == xs.length) []) := fun b' o' =>
                    .sl _ [] 0 _ _ _ [] (fun q => absurd rfl q) (by simp) (by simp) (by omega) hcap (by simp) (by simp) (by simp)
                  split
                  · exact this _ _
                  · exact this _ _
                · have hx0 : xs ≠ [] := by rintro rfl; simp at hnil
                  have hlt : l < hh := by
                    rcases Nat.lt_or_ge l hh with q | q
                    · exact q
                    · exact absurd (List.eq_nil_of_length_eq_zero (by rw [hlen]; omega)) hnil
                  have esz : i.size = sz := by
                    cases xs with
                    | nil => exact absurd rfl hx0
                    | cons x xs => simp only [headOk, beq_iff_eq] at hok; rw [← hok]; exact h2 x (by simp)
                  rw [if_neg (by omega), esz]
                  have hm1 : l * sz ≤ hh * sz := Nat.mul_le_mul_right _ (by omega)
                  have hm2 : hh * sz ≤ xs.length * sz := Nat.mul_le_mul_right _ hle
                  have hsub : ∀ x ∈ (xs.take hh).drop l, x.cells.length = sz := fun x hx => h2 x (List.mem_of_mem_take (List.mem_of_mem_drop hx))
                  refine .sl _ _ sz b (o + l * sz) (cap - l) ((vs.take (hh * sz)).drop (l * sz)) (fun _ => h1 hx0) hsub (by rw [hlen]; omega) (by omega) hcap ?_ ?_ ?_
                  · rw [hlen]; simp only [List.length_drop, List.length_take, h6, Nat.sub_mul]; omega
                  · intro j w hw
                    rw [List.getElem?_drop, List.getElem?_take] at hw
                    split at hw
                    · rw [Nat.add_assoc]; exact h7 _ w hw
                    · cases hw
                  · intro j w c hw hc
                    rw [List.getElem?_drop, List.getElem?_take] at hw
                    split at hw
                    · refine h8 _ w c hw ?_
                      exact flat_sub h2 hle j c hc
                    · cases hw
          · cases h
        · cases h
      · cases h
    · cases h
  · rename_i e full n f hd
    split at h
    · rename_i hh eh
      split at h
      · rename_i l el
        split at h
        · rename_i s hs
          split at h
          · cases h
          · rename_i hok
            cases h
            simp only [szT, Option.map_eq_some_iff] at hs
            obtain ⟨i, hi, rfl⟩ := hs
            cases hu with
            | slfn _ _ =>
              have b1 := bound_ok eh hhi
              have b2 := bound_ok el hlo
              have e1 : hh = 0 := by rcases b1 with ⟨_, b1⟩ | ⟨k, n, e1, e2, e3, e4⟩ <;> omega
              have e2 : l = 0 := by rcases b2 with ⟨_, b2⟩ | ⟨k, n, e1, e2, e3, e4⟩ <;> omega
              subst e1; subst e2
              have hb := bounds_run (P := P) (g := g) (isS := true) (len := 0) (cap := 0) b1 b2
              exact ⟨.slice none 0 0, by simp [Instr.sliceAt, Instr.slice, run_underlying hd, hb, sizeOf, typeInfo, hi], .slfn _ _⟩
            | slf _ _ _ sz b o cap vs h1 h2 h3 h4 h5 h6 h7 h8 =>
              have b1 := bound_ok eh hhi
              have b2 := bound_ok el hlo
              have b1' : (vhi = none ∧ hh = n) ∨ ∃ k m, vhi = some (.int k m) ∧ 0 ≤ m ∧ m ≤ (cap : Int) ∧ m.toNat = hh := by
                rcases b1 with b1 | ⟨k, m, e1, e2, e3, e4⟩
                · exact .inl b1
                · exact .inr ⟨k, m, e1, e2, by omega, e4⟩
              have hle : hh ≤ n := by rcases b1 with ⟨_, b1⟩ | ⟨k, m, e1, e2, e3, e4⟩ <;> omega
              have hl : l ≤ hh := by rcases b2 with ⟨_, b2⟩ | ⟨k, m, e1, e2, e3, e4⟩ <;> omega
              have hb := bounds_run (P := P) (g := g) (isS := true) (len := n) (cap := cap) b1' b2
              refine ⟨.slice (some (if cap = l then ⟨b, o, none⟩ else ⟨b, o + l * i.size, none⟩)) (hh - l) (cap - l), ?_, ?_⟩
              · simp only [Instr.sliceAt, Instr.slice, Sem.run_bind, run_underlying hd, Result.andThen_ok, hb, sizeOf, typeInfo, run_program, hi, Sem.run_pure, Option.map_some, Addr.add_lit]
                split <;> rfl
              · have hcap : (full && hh == n) = true → cap - l = hh - l := fun q => by
                  simp only [Bool.and_eq_true, beq_iff_eq] at q
                  have := h5 q.1
                  omega
                by_cases hlt : l < hh
                · have esz : i.size = sz := by
                    have q : ¬ (f l).cells.length ≠ i.size := fun q => hok ⟨hlt, q⟩
                    have := h2 l (by omega)
                    omega
                  rw [if_neg (by omega), esz]
                  have hm1 : l * sz ≤ hh * sz := Nat.mul_le_mul_right _ (by omega)
                  have hm2 : hh * sz ≤ n * sz := Nat.mul_le_mul_right _ hle
                  refine .slf _ _ _ sz b (o + l * sz) (cap - l) ((vs.take (hh * sz)).drop (l * sz)) (fun _ => h1 (by omega)) (fun k hk => h2 (l + k) (by omega)) (by omega) (by omega) hcap ?_ ?_ ?_
                  · simp only [List.length_drop, List.length_take, h6, Nat.sub_mul]; omega
                  · intro j w hw
                    rw [List.getElem?_drop, List.getElem?_take] at hw
                    split at hw
                    · rw [Nat.add_assoc]; exact h7 _ w hw
                    · cases hw
                  · intro k j w c hk hj hw hc
                    rw [List.getElem?_drop, List.getElem?_take] at hw
                    split at hw
                    · refine h8 (l + k) j w c (by omega) hj ?_ hc
                      rw [Nat.add_mul, Nat.add_assoc]; exact hw
                    · cases hw
                · have hz : hh - l = 0 := by omega
                  rw [hz] at hcap ⊢
                  have : ∀ (b' o' : Nat), Rd g (.slice (some ⟨b', o', none⟩) 0 (cap - l)) (.slf (full && hh == n) 0 (fun k => f (l + k))) := fun b' o' =>
                    .slf _ 0 _ 0 _ _ _ [] (fun q => absurd rfl q) (fun k hk => by omega) (by omega) (by omega) hcap (by simp) (by simp) (fun k j w c hk => by omega)
                  split
                  · exact this _ _
                  · exact this _ _
        · cases h
      · cases h
    · cases h
  · rename_i e hd
    split at h
    · rename_i hh eh
      split at h
      · rename_i l el
        split at h
        · rename_i hsz
          cases h
          obtain ⟨s, hs⟩ := Option.isSome_iff_exists.1 hsz
          simp only [szT, Option.map_eq_some_iff] at hs
          obtain ⟨i, hi, rfl⟩ := hs
          cases hu
          have b1 := bound_ok eh hhi
          have b2 := bound_ok el hlo
          have e1 : hh = 0 := by rcases b1 with ⟨_, b1⟩ | ⟨k, n, e1, e2, e3, e4⟩ <;> omega
          have e2 : l = 0 := by rcases b2 with ⟨_, b2⟩ | ⟨k, n, e1, e2, e3, e4⟩ <;> omega
          subst e1; subst e2
          have hb := bounds_run (P := P) (g := g) (isS := true) (len := 0) (cap := 0) b1 b2
          exact ⟨.slice none 0 0, by simp [Instr.sliceAt, Instr.slice, run_underlying hd, hb, sizeOf, typeInfo, hi], .nils⟩
        · cases h
      · cases h
    · cases h
  · rename_i e l' sz j len hd
    split at h
    · rename_i hh eh
      split at h
      · rename_i k el
        split at h
        · rename_i s hs
          split at h
          · rename_i es
            cases h
            simp only [szT, Option.map_eq_some_iff] at hs
            obtain ⟨i, hi, rfl⟩ := hs
            cases hu with
            | osl _ _ _ _ b o cap h1 h2 h3 h4 h5 =>
              have b1 := bound_ok eh hhi
              have b2 := bound_ok el hlo
              have b1' : (vhi = none ∧ hh = len) ∨ ∃ k n, vhi = some (.int k n) ∧ 0 ≤ n ∧ n ≤ (cap : Int) ∧ n.toNat = hh := by
                rcases b1 with b1 | ⟨k, n, e1, e2, e3, e4⟩
                · exact .inl b1
                · exact .inr ⟨k, n, e1, e2, by omega, e4⟩
              have hle : hh ≤ len := by rcases b1 with ⟨_, b1⟩ | ⟨k, n, e1, e2, e3, e4⟩ <;> omega
              have hl : k ≤ hh := by rcases b2 with ⟨_, b2⟩ | ⟨k, n, e1, e2, e3, e4⟩ <;> omega
              have hb := bounds_run (P := P) (g := g) (isS := true) (len := len) (cap := cap) b1' b2
              refine ⟨.slice (some (if cap = k then ⟨b, o, none⟩ else ⟨b, o + k * i.size, none⟩)) (hh - k) (cap - k), ?_, ?_⟩
              · simp only [Instr.sliceAt, Instr.slice, Sem.run_bind, run_underlying hd, Result.andThen_ok, hb, sizeOf, typeInfo, run_program, hi, Sem.run_pure, Option.map_some, Addr.add_lit]
                split <;> rfl
              · by_cases hck : cap = k
                · rw [if_pos hck]
                  refine .osl l' sz (j + k) (hh - k) b o (cap - k) h1 (by omega) (by omega) (fun q => ?_) (fun q => ?_)
                  · have : j = 0 ∧ k = 0 := by omega
                    obtain ⟨rfl, rfl⟩ := this
                    simpa using h4 (.inr rfl)
                  · have : j = 0 ∧ k = 0 := by omega
                    obtain ⟨rfl, rfl⟩ := this
                    simpa using h5 rfl
                · rw [if_neg hck, es]
                  refine .osl l' sz (j + k) (hh - k) b (o + k * sz) (cap - k) h1 (by omega) (by omega) (fun q => ?_) (fun q => ?_)
                  · have := h4 (by omega)
                    refine ⟨this.1, ?_⟩
                    rw [this.2, Nat.add_mul]
                  · have : j = 0 ∧ k = 0 := by omega
                    obtain ⟨rfl, rfl⟩ := this
                    simpa using h5 rfl
          · cases h
        · cases h
      · cases h
    · cases h
  · cases h
end
end Go.Ps
