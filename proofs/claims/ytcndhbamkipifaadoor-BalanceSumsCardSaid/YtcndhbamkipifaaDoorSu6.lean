/- Texts merged: Rs, Q3, PsOp, Shares3, Opn. -/
import Derived.Test.YtcndhbamkipifaaDoorSu5
import Derived.Test.YtcndhbamkipifaaDoorSu1
import Derived.ChangeArms
import Derived.Carry
import Derived.Test.YtcndhbamkipifaaDoorCards
import Derived.Test.YtcndhbamkipifaaDoorTie
import Derived.WalkKit
import Derived.ProofKit
import Derived.OpenShut
import Derived.Deep.DeepHandedRow
import Derived.Lib.LaidTab
import Derived.Stop.LaidErr
import Derived.LaidMore
/- The conservation of mass: in a consistent certificate the accepted mass is the sum of the delivered, waiting, rejected and discarded masses. -/
namespace Go.Proofs
open Go.Ps
set_option linter.unusedSimpArgs false
set_option linter.unusedVariables false

/-- A sum over q places from i on. -/
def Tryd.sg (f : Nat → Int) : Nat → Nat → Int
  | 0, _ => 0
  | q + 1, i => f i + Tryd.sg f q (i + 1)
theorem Tryd.sg_congr {f g : Nat → Int} : ∀ (q i : Nat), (∀ j, i ≤ j → j < i + q → f j = g j) → Tryd.sg f q i = Tryd.sg g q i
  | 0, _, _ => rfl
  | q + 1, i, h => by
    unfold Tryd.sg
    rw [h i (by omega) (by omega), Tryd.sg_congr q (i + 1) (fun j h1 h2 => h j (by omega) (by omega))]
theorem Tryd.sg_add (f g : Nat → Int) : ∀ (q i : Nat), Tryd.sg (fun j => f j + g j) q i = Tryd.sg f q i + Tryd.sg g q i
  | 0, _ => rfl
  | q + 1, i => by
    unfold Tryd.sg
    rw [Tryd.sg_add f g q (i + 1)]; omega
theorem Tryd.sg_zero : ∀ (q i : Nat), Tryd.sg (fun _ => 0) q i = 0
  | 0, _ => rfl
  | q + 1, i => by unfold Tryd.sg; rw [Tryd.sg_zero q (i + 1)]; rfl
theorem Tryd.sg_sw (f : Nat → Nat → Int) : ∀ (n i m j : Nat), Tryd.sg (fun a => Tryd.sg (fun b => f a b) m j) n i = Tryd.sg (fun b => Tryd.sg (fun a => f a b) n i) m j := by
  intro n
  induction n with
  | zero => intro i m j; simp only [Tryd.sg]; rw [Tryd.sg_zero]
  | succ n ih =>
    intro i m j
    rw [Tryd.sg, ih (i + 1) m j, ← Tryd.sg_add]
    rfl
theorem Tryd.sg_none (p : Nat) (w : Int) : ∀ (q i : Nat), p < i ∨ i + q ≤ p → Tryd.sg (fun a => if p = a then w else 0) q i = 0
  | 0, _, _ => rfl
  | q + 1, i, h => by
    unfold Tryd.sg
    rw [if_neg (by omega), Tryd.sg_none p w q (i + 1) (by omega)]; rfl
theorem Tryd.sg_one (p : Nat) (w : Int) : ∀ (q i : Nat), i ≤ p → p < i + q → Tryd.sg (fun a => if p = a then w else 0) q i = w
  | 0, _, h1, h2 => by omega
  | q + 1, i, h1, h2 => by
    unfold Tryd.sg
    by_cases e : p = i
    · rw [if_pos e, Tryd.sg_none p w q (i + 1) (by omega)]; omega
    · rw [if_neg e, Tryd.sg_one p w q (i + 1) (by omega) (by omega)]; omega
theorem Tryd.sg_bound {f : Nat → Int} {B : Int} : ∀ (q i : Nat), (∀ j, i ≤ j → j < i + q → 0 ≤ f j ∧ f j ≤ B) → 0 ≤ Tryd.sg f q i ∧ Tryd.sg f q i ≤ q * B
  | 0, _, _ => by simp [Tryd.sg]
  | q + 1, i, h => by
    unfold Tryd.sg
    have h0 := h i (by omega) (by omega)
    have h1 := Tryd.sg_bound q (i + 1) (fun j a b => h j (by omega) (by omega))
    have : ((q + 1 : Nat) : Int) * B = q * B + B := by rw [Int.natCast_add, Int.add_mul]; simp
    omega
/-- Ones everywhere, if the sum of so many is that number. -/
theorem Tryd.sg_all {p : Nat → Bool} : ∀ (q i : Nat), (q : Int) ≤ Tryd.sg (fun j => if p j then 1 else 0) q i → ∀ j, i ≤ j → j < i + q → p j = true
  | 0, _, _, j, h1, h2 => by omega
  | q + 1, i, h, j, h1, h2 => by
    unfold Tryd.sg at h
    have hb := (Tryd.sg_bound (f := fun j => if p j then (1 : Int) else 0) (B := 1) q (i + 1) (fun j _ _ => by split <;> omega)).2
    have e : p i = true := by
      cases e : p i with
      | true => rfl
      | false => rw [e] at h; simp at h hb; omega
    by_cases ej : j = i
    · rw [ej]; exact e
    · refine Tryd.sg_all q (i + 1) ?_ j (by omega) (by omega)
      rw [e] at h; simp at h ⊢; omega
theorem Tryd.sg_not {p : Nat → Bool} : ∀ (q i : Nat), Tryd.sg (fun j => if p j then 1 else 0) q i ≤ 0 → ∀ j, i ≤ j → j < i + q → p j = false
  | 0, _, _, j, h1, h2 => by omega
  | q + 1, i, h, j, h1, h2 => by
    unfold Tryd.sg at h
    have hb := (Tryd.sg_bound (f := fun j => if p j then (1 : Int) else 0) (B := 1) q (i + 1) (fun j _ _ => by split <;> omega)).1
    have e : p i = false := by
      cases e : p i with
      | false => rfl
      | true => rw [e] at h; simp at h hb; omega
    by_cases ej : j = i
    · rw [ej]; exact e
    · refine Tryd.sg_not q (i + 1) ?_ j (by omega) (by omega)
      rw [e] at h; simp at h ⊢; omega

/-- The sum over a list. -/
def Tryd.ls (g : Int → Int) : List Int → Int
  | [] => 0
  | x :: r => g x + Tryd.ls g r
theorem Tryd.ls_app (g : Int → Int) : ∀ (xs ys : List Int), Tryd.ls g (xs ++ ys) = Tryd.ls g xs + Tryd.ls g ys
  | [], ys => by simp [Tryd.ls]
  | x :: r, ys => by simp only [List.cons_append, Tryd.ls, Tryd.ls_app g r ys]; omega
theorem Tryd.ls_idx (g : Int → Int) (xs : List Int) : ∀ (ys : List Int), Tryd.ls g xs = Tryd.sg (fun t => g ((ys ++ xs).getD t 0)) xs.length ys.length := by
  induction xs with
  | nil => intro ys; rfl
  | cons x r ih =>
    intro ys
    have := ih (ys ++ [x])
    simp only [List.append_assoc, List.singleton_append, List.length_append, List.length_singleton] at this
    simp only [Tryd.ls, List.length_cons, Tryd.sg]
    rw [this]
    congr 1
    simp [List.getD_eq_getElem?_getD]

theorem Tryd.wid {x : Int} (h1 : 0 ≤ x) (h2 : x ≤ 9223372036854775807) : IntKind.i64.wrap x = x := IntWalk.i64_in x (by omega)

/-! ### the parts of a mass -/
theorem Tryd.shI_eq {m p : Int} (hm : 0 ≤ m) (hm2 : m ≤ 1099511627776) (hp : 1 ≤ p) (t : Nat) : Tryd.shI m p t = m / p + (if (t : Int) < m % p then 1 else 0) := by
  have h1 : 0 ≤ m / p := Int.ediv_nonneg hm (by omega)
  have h2 : m / p ≤ m := Int.ediv_le_self p hm
  unfold Tryd.shI
  rw [Int.tdiv_eq_ediv_of_nonneg hm, Int.tmod_eq_emod_of_nonneg hm, Tryd.wid h1 (by omega), Tryd.wid (by omega) (by omega)]
  split <;> omega
theorem Tryd.shI_sum {m p : Int} (hm : 0 ≤ m) (hm2 : m ≤ 1099511627776) (hp : 1 ≤ p) : ∀ (q t : Nat), Tryd.sg (Tryd.shI m p) q t = q * (m / p) + (min ((t + q : Nat) : Int) (max (m % p) t) - t)
  | 0, t => by simp [Tryd.sg]; omega
  | q + 1, t => by
    rw [Tryd.sg, Tryd.shI_sum hm hm2 hp q (t + 1), Tryd.shI_eq hm hm2 hp]
    have : ((q + 1 : Nat) : Int) * (m / p) = q * (m / p) + m / p := by rw [Int.natCast_add, Int.add_mul]; simp
    rw [this]
    split <;> omega
theorem Tryd.shI_all {m : Int} {p : Nat} (hm : 0 ≤ m) (hm2 : m ≤ 1099511627776) (hp : 1 ≤ p) : Tryd.sg (Tryd.shI m p) p 0 = m := by
  rw [Tryd.shI_sum hm hm2 (by omega) p 0]
  have h1 : 0 ≤ m % (p : Int) := Int.emod_nonneg _ (by omega)
  have h2 : m % (p : Int) < p := Int.emod_lt_of_pos _ (by omega)
  have h3 := Int.mul_ediv_add_emod m p
  omega

/-! ### the children's list -/
theorem Tryd.ls_kidR (g : Int → Int) (f : Nat → Ln) (s : Sp) (i : Nat) : ∀ (q k : Nat) (xs : List Int), Tryd.ls g (Tryd.kidR f s i q k xs) = Tryd.ls g xs + Tryd.sg (fun k => if Tryd.eqS ((f i).from_ k) s then g i else 0) q k
  | 0, _, xs => by simp [Tryd.kidR, Tryd.sg]
  | q + 1, k, xs => by
    rw [Tryd.kidR, Tryd.ls_kidR g f s i q (k + 1), Tryd.sg]
    split
    · rw [Tryd.ls_app]; simp only [Tryd.ls]; omega
    · omega
theorem Tryd.ls_kidO (g : Int → Int) (f : Nat → Ln) (s : Sp) : ∀ (q i : Nat) (xs : List Int), Tryd.ls g (Tryd.kidO f s q i xs) = Tryd.ls g xs + Tryd.sg (fun i => Tryd.sg (fun k => if Tryd.eqS ((f i).from_ k) s then g i else 0) (f i).k 0) q i
  | 0, _, xs => by simp [Tryd.kidO, Tryd.sg]
  | q + 1, i, xs => by
    rw [Tryd.kidO, Tryd.ls_kidO g f s q (i + 1), Tryd.ls_kidR, Tryd.sg]; omega
theorem Tryd.mem_kidR {f : Nat → Ln} {s : Sp} {i : Nat} : ∀ (q k : Nat) (xs : List Int) (z : Int), z ∈ xs → z ∈ Tryd.kidR f s i q k xs
  | 0, _, _, _, h => h
  | q + 1, k, xs, z, h => by
    rw [Tryd.kidR]
    refine Tryd.mem_kidR q (k + 1) _ z ?_
    split
    · exact List.mem_append_left _ h
    · exact h
theorem Tryd.mem_kidR' {f : Nat → Ln} {s : Sp} {i : Nat} : ∀ (q k : Nat) (xs : List Int) (j : Nat), k ≤ j → j < k + q → Tryd.eqS ((f i).from_ j) s = true → (i : Int) ∈ Tryd.kidR f s i q k xs
  | 0, _, _, _, h1, h2, _ => by omega
  | q + 1, k, xs, j, h1, h2, h => by
    rw [Tryd.kidR]
    by_cases e : j = k
    · subst e
      rw [if_pos h]
      exact Tryd.mem_kidR _ _ _ _ (by simp)
    · exact Tryd.mem_kidR' q (k + 1) _ j (by omega) (by omega) h
theorem Tryd.mem_kidO {f : Nat → Ln} {s : Sp} : ∀ (q i : Nat) (xs : List Int) (z : Int), z ∈ xs → z ∈ Tryd.kidO f s q i xs
  | 0, _, _, _, h => h
  | q + 1, i, xs, z, h => by
    rw [Tryd.kidO]
    exact Tryd.mem_kidO q (i + 1) _ z (Tryd.mem_kidR _ _ _ _ h)
theorem Tryd.mem_kidO' {f : Nat → Ln} {s : Sp} : ∀ (q i : Nat) (xs : List Int) (a j : Nat), i ≤ a → a < i + q → j < (f a).k → Tryd.eqS ((f a).from_ j) s = true → (a : Int) ∈ Tryd.kidO f s q i xs
  | 0, _, _, _, _, h1, h2, _, _ => by omega
  | q + 1, i, xs, a, j, h1, h2, h3, h => by
    rw [Tryd.kidO]
    by_cases e : a = i
    · subst e
      exact Tryd.mem_kidO _ _ _ _ (Tryd.mem_kidR' _ 0 _ j (by omega) (by omega) h)
    · exact Tryd.mem_kidO' q (i + 1) _ a j (by omega) (by omega) h3 h

/-! ### the merged ones -/
theorem Tryd.mg_eq (q : Nat → Ln) : ∀ (m k : Nat) (a s : Int), 0 ≤ a → a + m ≤ 100 → 0 ≤ s → s + m * 1099511627776 ≤ 9007199254740992 → (∀ j, k ≤ j → j < k + m → 0 ≤ (q j).mass ∧ (q j).mass ≤ 1099511627776) →
    Tryd.mg q m k a s = (a + Tryd.sg (fun j => if (q j).fate == 2 then 1 else 0) m k, s + Tryd.sg (fun j => (q j).mass) m k)
  | 0, k, a, s, _, _, _, _, _ => by simp [Tryd.mg, Tryd.sg]
  | m + 1, k, a, s, h1, h2, h3, h4, h5 => by
    have h0 := h5 k (by omega) (by omega)
    rw [Tryd.mg]
    have e1 : (if (q k).fate == 2 then IntKind.i64.wrap (a + 1) else a) = a + (if (q k).fate == 2 then 1 else 0) := by
      split
      · exact Tryd.wid (by omega) (by omega)
      · omega
    rw [e1, Tryd.wid (by omega) (by omega), Tryd.mg_eq q m (k + 1) _ _ (by split <;> omega) (by split <;> omega) (by omega) (by omega) (fun j a b => h5 j (by omega) (by omega))]
    simp only [Tryd.sg]
    congr 1 <;> omega

/-! ### the sums of the rule -/
theorem Tryd.sumR_eq {F : Int → Ln → Int} {line : Nat → Ln} {v : Nat → Int} (hF : ∀ (s : Int) (i : Nat), F s (line i) = IntKind.i64.wrap (s + v i) ∨ (F s (line i) = s ∧ v i = 0)) : ∀ (q i : Nat) (s : Int), 0 ≤ s → s + q * 1099511627776 ≤ 9007199254740992 → (∀ j, i ≤ j → j < i + q → 0 ≤ v j ∧ v j ≤ 1099511627776) → Tryd.sumR F line q i s = s + Tryd.sg v q i
  | 0, _, s, _, _, _ => by simp [Tryd.sumR, Tryd.sg]
  | q + 1, i, s, h1, h2, h3 => by
    have h0 := h3 i (by omega) (by omega)
    have e : F s (line i) = s + v i := by
      rcases hF s i with e | ⟨e, e'⟩
      · rw [e]; exact Tryd.wid (by omega) (by omega)
      · omega
    rw [Tryd.sumR, e, Tryd.sumR_eq hF q (i + 1) _ (by omega) (by omega) (fun j a b => h3 j (by omega) (by omega)), Tryd.sg]
    omega

/-! ### the law -/
theorem Tryd.fo_child {c : Ct} {i : Nat} (h : Tryd.fo (Tryd.kl c i) c (c.line i) = 0) (n2 : (c.line i).fate ≠ 2) {j : Nat} (hj : (j : Int) ∈ Tryd.kl c i) : (c.line j).k = 1 := by
  have hlen : 0 < (Tryd.kl c i).length := List.length_pos_of_mem hj
  unfold Tryd.fo at h
  by_cases f1 : (c.line i).fate = 1
  · rw [if_pos f1, if_neg (by omega)] at h
    split at h
    · cases h
    · rename_i hx
      obtain ⟨t, ht, e⟩ := List.getElem_of_mem hj
      have := Tryd.exR_false _ 0 (by simpa using hx) t (by omega) (by omega)
      rw [List.getElem?_eq_getElem ht, e] at this
      simp at this
      omega
  · rw [if_neg f1, if_neg n2] at h
    by_cases f5 : (c.line i).closed = 5
    · rw [if_pos f5] at h
      split at h
      · cases h
      · rename_i hx
        have l1 : (Tryd.kl c i).length = 1 := by omega
        obtain ⟨t, ht, e⟩ := List.getElem_of_mem hj
        have t0 : t = 0 := by omega
        subst t0
        have hk : (c.line ((Tryd.kl c i).getD 0 0).toNat).k = 1 := by omega
        rw [List.getD_eq_getElem?_getD, List.getElem?_eq_getElem ht, e] at hk
        simpa using hk
    · rw [if_neg f5, if_pos (by omega)] at h
      cases h

/-- What a message that is closed by its children hands on. -/
def Tryd.used (x : Ln) : Bool := x.fate == 1 || x.fate == 2 || x.closed == 5
def Tryd.wt (c : Ct) (i : Nat) (z : Int) : Int := if (c.line i).fate = 2 then (c.line i).mass else (c.line z.toNat).mass

theorem Tryd.fo_sum {c : Ct} {i : Nat} (h : Tryd.fo (Tryd.kl c i) c (c.line i) = 0) (hm : 0 ≤ (c.line i).mass) (hm2 : (c.line i).mass ≤ 1099511627776) :
    Tryd.ls (Tryd.wt c i) (Tryd.kl c i) = if Tryd.used (c.line i) then (c.line i).mass else 0 := by
  unfold Tryd.fo at h
  by_cases f1 : (c.line i).fate = 1
  · rw [if_pos f1] at h
    split at h
    · cases h
    · rename_i h0
      split at h
      · cases h
      · split at h
        · cases h
        · rename_i hx
          rw [if_pos (by simp [Tryd.used, f1])]
          rw [Tryd.ls_idx (Tryd.wt c i) (Tryd.kl c i) []]
          refine Eq.trans ?_ (Tryd.shI_all (p := (Tryd.kl c i).length) hm hm2 (by omega))
          refine Tryd.sg_congr _ _ (fun t _ ht => ?_)
          have := Tryd.exR_false _ 0 (by simpa using hx) t (by omega) (by simpa using ht)
          simp only [bne_eq_false_iff_eq] at this
          show Tryd.wt c i _ = _
          unfold Tryd.wt
          rw [if_neg (by omega), List.nil_append]
          exact this
  · rw [if_neg f1] at h
    by_cases f2 : (c.line i).fate = 2
    · rw [if_pos f2] at h
      split at h
      · cases h
      · rename_i hl
        rw [if_pos (by simp [Tryd.used, f2])]
        have l1 : (Tryd.kl c i).length = 1 := by omega
        obtain ⟨z, hz⟩ := List.length_eq_one_iff.1 l1
        rw [hz]
        simp [Tryd.ls, Tryd.wt, f2]
    · rw [if_neg f2] at h
      by_cases f5 : (c.line i).closed = 5
      · rw [if_pos f5] at h
        split at h
        · cases h
        · rename_i hl
          split at h
          · cases h
          · rename_i hx
            rw [if_pos (by simp [Tryd.used, f5])]
            have l1 : (Tryd.kl c i).length = 1 := by omega
            obtain ⟨z, hz⟩ := List.length_eq_one_iff.1 l1
            rw [hz] at hx ⊢
            simp only [Tryd.ls, Tryd.wt, if_neg f2]
            simp at hx
            omega
      · rw [if_neg f5] at h
        split at h
        · cases h
        · rename_i hl
          have l0 : (Tryd.kl c i) = [] := List.length_eq_zero_iff.1 (by omega)
          rw [l0, if_neg (by simp [Tryd.used, f1, f2, f5])]
          rfl

theorem Tryd.sums_law {c : Ct} (hs : Tryd.small c) (h : Tryd.checkL c = 0) : c.accepted = IntKind.i64.wrap (IntKind.i64.wrap (IntKind.i64.wrap (c.delivered + c.waiting) + c.letters) + c.discarded) := by
  have hn := hs.1
  have hE := Tryd.check_same c hs
  unfold Tryd.checkL at h
  by_cases h0 : Tryd.sizE c = 0
  case neg => rw [if_pos h0] at h; exact absurd h h0
  rw [if_neg (by simp [h0])] at h
  by_cases h2 : Tryd.formE c = 0
  case neg => rw [if_pos h2] at h; exact absurd h h2
  rw [if_neg (by simp [h2])] at h
  by_cases h3 : Tryd.fst (Tryd.te (Tryd.fl c) c) c.n 0 = 0
  case neg => rw [if_pos h3] at h; exact absurd h h3
  rw [if_neg (by simp [h3])] at h
  by_cases h4 : Tryd.fst (fun i => Tryd.fo (Tryd.kl c i) c (c.line i)) c.n 0 = 0
  case neg => rw [if_pos h4] at h; exact absurd h h4
  rw [if_neg (by simp [h4])] at h
  by_cases h5 : Tryd.fst (Tryd.me (Tryd.al c) c) c.n 0 = 0
  case neg => rw [if_pos h5] at h; exact absurd h h5
  rw [if_neg (by simp [h5])] at h
  have hi := Tryd.inc_of h2
  have hfe := fun i (hin : i < c.n) => Tryd.fe_zero (Tryd.fst_zero c.n 0 h2 i (by omega) (by omega))
  have hte := fun i (hin : i < c.n) => Tryd.te_zero (Tryd.fst_zero c.n 0 h3 i (by omega) (by omega))
  have hfo := fun i (hin : i < c.n) => Tryd.fst_zero c.n 0 h4 i (by omega) (by omega)
  have hme := fun i (hin : i < c.n) => Tryd.fst_zero c.n 0 h5 i (by omega) (by omega)
  have hl : Tryd.allFl c := fun i hin => (hte i hin).2.1
  have hmass := fun i (hin : i < c.n) => (⟨(hfe i hin).2.2.2.1, (hfe i hin).2.2.2.2.1⟩ : 0 ≤ (c.line i).mass ∧ (c.line i).mass ≤ 1099511627776)
  -- the weight of an edge
  let p : Nat → Nat → Nat := fun j k => Tryd.al c ((c.line j).from_ k)
  let w : Nat → Nat → Int := fun j k => Tryd.wt c (p j k) j
  have hp : ∀ j k, j < c.n → k < (c.line j).k → p j k < c.n ∧ ∀ z, z < c.n → (p j k = z ↔ Tryd.eqS ((c.line j).from_ k) (c.line z).st = true) := by
    intro j k hj hk
    obtain ⟨y, hy, hy0, ha, hal⟩ := Tryd.fl_at hi (hl j hj k hk)
    refine ⟨by show Tryd.al c _ < _; omega, fun z hz => ?_⟩
    rw [← Tryd.ap_iff hi (hl j hj k hk) hz]
    show Tryd.al c _ = z ↔ _
    omega
  -- by parents
  have byP : Tryd.sg (fun i => if Tryd.used (c.line i) then (c.line i).mass else 0) c.n 0 = Tryd.sg (fun j => Tryd.sg (w j) (c.line j).k 0) c.n 0 := by
    have e1 : Tryd.sg (fun i => if Tryd.used (c.line i) then (c.line i).mass else 0) c.n 0 = Tryd.sg (fun i => Tryd.sg (fun j => Tryd.sg (fun k => if p j k = i then w j k else 0) (c.line j).k 0) c.n 0) c.n 0 := by
      refine Tryd.sg_congr _ _ (fun i _ hin => ?_)
      have hin' : i < c.n := by omega
      rw [← Tryd.fo_sum (hfo i hin') (hmass i hin').1 (hmass i hin').2]
      unfold Tryd.kl Tryd.kids
      rw [Tryd.ls_kidO]
      simp only [Tryd.ls, Int.zero_add]
      refine Tryd.sg_congr _ _ (fun j _ hj => Tryd.sg_congr _ _ (fun k _ hk => ?_))
      have := (hp j k (by omega) (by omega)).2 i hin'
      by_cases e : p j k = i
      · rw [if_pos e, if_pos (this.1 e)]
        show _ = Tryd.wt c (p j k) j
        rw [e]
      · rw [if_neg e, if_neg (fun q => e (this.2 q))]
    rw [e1, Tryd.sg_sw]
    refine Tryd.sg_congr _ _ (fun j _ hj => ?_)
    rw [Tryd.sg_sw]
    refine Tryd.sg_congr _ _ (fun k _ hk => ?_)
    exact Tryd.sg_one (p j k) (w j k) c.n 0 (by omega) (by have := (hp j k (by omega) (by omega)).1; omega)
  -- by children
  have byC : Tryd.sg (fun j => Tryd.sg (w j) (c.line j).k 0) c.n 0 = Tryd.sg (fun j => if (c.line j).k = 0 then 0 else (c.line j).mass) c.n 0 := by
    refine Tryd.sg_congr _ _ (fun j _ hj => ?_)
    have hj' : j < c.n := by omega
    by_cases k0 : (c.line j).k = 0
    · rw [if_pos k0, k0]; rfl
    · rw [if_neg k0]
      have hk10 := (hs.2 j hj').1
      have hm5 := hme j hj'
      unfold Tryd.me at hm5
      rw [Tryd.mg_eq _ _ _ _ _ (by omega) (by omega) (by omega) (by omega) (fun k _ hk => hmass _ (hp j k hj' (by omega)).1)] at hm5
      unfold Tryd.mgE at hm5
      simp only [Int.zero_add] at hm5
      by_cases hc : Tryd.sg (fun k => if (c.line (Tryd.al c ((c.line j).from_ k))).fate == 2 then (1 : Int) else 0) (c.line j).k 0 > 0
      · split at hm5
        · cases hm5
        · rename_i g1
          split at hm5
          · cases hm5
          · rename_i g2
            have g3 : ¬ (Tryd.sg (fun k => if (c.line (Tryd.al c ((c.line j).from_ k))).fate == 2 then (1 : Int) else 0) (c.line j).k 0 > 0 ∧ Tryd.sg (fun k => if (c.line (Tryd.al c ((c.line j).from_ k))).fate == 2 then (1 : Int) else 0) (c.line j).k 0 < (c.line j).k) := g1
            have hc2 : ((c.line j).k : Int) ≤ Tryd.sg (fun k => if (c.line (Tryd.al c ((c.line j).from_ k))).fate == 2 then (1 : Int) else 0) (c.line j).k 0 := by omega
            have all := Tryd.sg_all (p := fun k => (c.line (Tryd.al c ((c.line j).from_ k))).fate == 2) (c.line j).k 0 hc2
            have ht : Tryd.sg (fun k => (c.line (Tryd.al c ((c.line j).from_ k))).mass) (c.line j).k 0 = (c.line j).mass := by
              by_cases e : Tryd.sg (fun k => (c.line (Tryd.al c ((c.line j).from_ k))).mass) (c.line j).k 0 = (c.line j).mass
              · exact e
              · exact absurd ⟨hc, e⟩ g2
            rw [← ht]
            refine Tryd.sg_congr _ _ (fun k _ hk => ?_)
            have := all k (by omega) hk
            show Tryd.wt c (p j k) j = _
            unfold Tryd.wt
            rw [if_pos (by simpa using this)]
      · have hc2 : Tryd.sg (fun k => if (c.line (Tryd.al c ((c.line j).from_ k))).fate == 2 then (1 : Int) else 0) (c.line j).k 0 ≤ 0 := by omega
        have none := Tryd.sg_not (p := fun k => (c.line (Tryd.al c ((c.line j).from_ k))).fate == 2) (c.line j).k 0 hc2
        obtain ⟨q1, q2⟩ := hp j 0 hj' (by omega)
        have f2 : (c.line (p j 0)).fate ≠ 2 := by have := none 0 (by omega) (by omega); simpa using this
        have hk1 : (c.line j).k = 1 := by
          refine Tryd.fo_child (hfo _ q1) f2 ?_
          unfold Tryd.kl Tryd.kids
          exact Tryd.mem_kidO' c.n 0 [] j 0 (by omega) (by omega) (by omega) ((q2 _ q1).1 rfl)
        rw [hk1]
        show Tryd.wt c (p j 0) j + 0 = _
        unfold Tryd.wt
        rw [if_neg f2]
        simp
  -- the rule's sums
  unfold Tryd.totL at h
  rw [Tryd.tot_sum (fun i hin => (hfe i hin).2.2.2.2.2.2.2) c.n 0 0 0 0 0 (by omega)] at h
  simp only at h
  split at h
  · cases h
  · rename_i hT
    have bnd : ∀ (b : Ln → Bool), ∀ j, 0 ≤ j → j < 0 + c.n → 0 ≤ (if b (c.line j) then (c.line j).mass else 0) ∧ (if b (c.line j) then (c.line j).mass else 0) ≤ 1099511627776 := by
      intro b j _ hj
      have := hmass j (by omega)
      split <;> omega
    have e1 : ∀ g, Tryd.sumR (Tryd.F57 g) c.line c.n 0 0 = Tryd.sg (fun i => if Tryd.prd g (c.line i) then (c.line i).mass else 0) c.n 0 := by
      intro g
      rw [Tryd.sumR_eq (v := fun i => if Tryd.prd g (c.line i) then (c.line i).mass else 0) (fun s i => ?_) c.n 0 0 (by omega) (by omega) (bnd (Tryd.prd g))]
      · omega
      · unfold Tryd.F57
        cases Tryd.prd g (c.line i) with
        | true => left; rfl
        | false => right; exact ⟨rfl, rfl⟩
    have e2 : Tryd.sumR Tryd.F58 c.line c.n 0 0 = Tryd.sg (fun i => if (c.line i).k = 0 then 1048576 else 0) c.n 0 := by
      rw [Tryd.sumR_eq (v := fun i => if (c.line i).k = 0 then (1048576 : Int) else 0) (fun s i => ?_) c.n 0 0 (by omega) (by omega) (fun j _ _ => by split <;> omega)]
      · omega
      · unfold Tryd.F58
        by_cases e : (c.line i).k = 0
        · left; simp [e]
        · right; simp [e]
    have hcons := byP.trans byC
    have s1 : Tryd.sg (fun i => if (c.line i).k = 0 then (1048576 : Int) else 0) c.n 0 + Tryd.sg (fun j => if (c.line j).k = 0 then 0 else (c.line j).mass) c.n 0 = Tryd.sg (fun i => (c.line i).mass) c.n 0 := by
      rw [← Tryd.sg_add]
      refine Tryd.sg_congr _ _ (fun j _ hj => ?_)
      by_cases e : (c.line j).k = 0
      · rw [if_pos e, if_pos e, ((hte j (by omega)).2.2 e).2]; rfl
      · rw [if_neg e, if_neg e]; omega
    have s2 : Tryd.sg (fun i => if Tryd.prd 59 (c.line i) then (c.line i).mass else 0) c.n 0 + (Tryd.sg (fun i => if Tryd.prd 34 (c.line i) then (c.line i).mass else 0) c.n 0 + (Tryd.sg (fun i => if Tryd.prd 60 (c.line i) then (c.line i).mass else 0) c.n 0
        + (Tryd.sg (fun i => if Tryd.prd 61 (c.line i) then (c.line i).mass else 0) c.n 0 + Tryd.sg (fun i => if Tryd.used (c.line i) then (c.line i).mass else 0) c.n 0))) = Tryd.sg (fun i => (c.line i).mass) c.n 0 := by
      rw [← Tryd.sg_add, ← Tryd.sg_add, ← Tryd.sg_add, ← Tryd.sg_add]
      refine Tryd.sg_congr _ _ (fun j _ hj => ?_)
      have q := (hfe j (by omega)).2.2.2.2.2
      have hf : (c.line j).fate = 0 ∨ (c.line j).fate = 1 ∨ (c.line j).fate = 2 ∨ (c.line j).fate = 3 ∨ (c.line j).fate = 4 := by omega
      have hcl := q.2.2
      have z4 : (c.line j).fate ≠ 4 → (c.line j).closed = 0 := by omega
      have z5 : (c.line j).closed = 0 ∨ (c.line j).closed = 5 ∨ (c.line j).closed = 6 := by omega
      rcases hf with f | f | f | f | f
      · simp [Tryd.prd, Tryd.used, f, z4 (by omega)]
      · simp [Tryd.prd, Tryd.used, f, z4 (by omega)]
      · simp [Tryd.prd, Tryd.used, f, z4 (by omega)]
      · simp [Tryd.prd, Tryd.used, f, z4 (by omega)]
      · rcases z5 with z | z | z <;> simp [Tryd.prd, Tryd.used, f, z]
    rw [e1, e1, e1, e1, e2] at hT
    have b := fun g => Tryd.sg_bound (B := 1099511627776) c.n 0 (bnd (Tryd.prd g))
    have b1 := b 59
    have b2 := b 34
    have b3 := b 60
    have b4 := b 61
    have t1 : c.accepted = Tryd.sg (fun i => if (c.line i).k = 0 then (1048576 : Int) else 0) c.n 0 := by omega
    have t2 : c.delivered = Tryd.sg (fun i => if Tryd.prd 59 (c.line i) then (c.line i).mass else 0) c.n 0 := by omega
    have t3 : c.waiting = Tryd.sg (fun i => if Tryd.prd 34 (c.line i) then (c.line i).mass else 0) c.n 0 := by omega
    have t4 : c.letters = Tryd.sg (fun i => if Tryd.prd 60 (c.line i) then (c.line i).mass else 0) c.n 0 := by omega
    have t5 : c.discarded = Tryd.sg (fun i => if Tryd.prd 61 (c.line i) then (c.line i).mass else 0) c.n 0 := by omega
    have w1 : IntKind.i64.wrap (c.delivered + c.waiting) = c.delivered + c.waiting := Tryd.wid (by omega) (by omega)
    have w2 : IntKind.i64.wrap (c.delivered + c.waiting + c.letters) = c.delivered + c.waiting + c.letters := Tryd.wid (by omega) (by omega)
    rw [w1, w2, Tryd.wid (by omega) (by omega)]
    omega
end Go.Proofs

/- BalanceSums: the contract. -/
namespace Go.Proofs
open Go.Ps
theorem Tryd.sumsLaw_ok (c : Ct) : PureFn Tryd.prog Tryd.gl 3 [ctT c] (.bool true) := by
  have hs := (Tryd.smallB_ok c).1
  cases e : Tryd.smallB c with
  | false =>
    refine Tryd.c3 c 0 ?_ ?_
    · unfold Tryd.K3_s; rw [e]; simp [Tryd.g3_s_1, allT, e, isV_self]
    · unfold Tryd.V3_s; rw [e]; rfl
  | true =>
    have hp : Tryd.pB (Tryd.small c) = true := Tryd.pB_iff.2 (hs e)
    by_cases h0 : Tryd.CheckE c = 0
    · have e0 : (Tryd.CheckE c != 0) = false := bne_eq_false_iff_eq.2 h0
      have hr : PureFn Tryd.prog Tryd.gl 3 [ctT c] (.bool (c.accepted == IntKind.i64.wrap (IntKind.i64.wrap (IntKind.i64.wrap (c.delivered + c.waiting) + c.letters) + c.discarded))) := by
        refine Tryd.c3 c 0 ?_ ?_
        · unfold Tryd.K3_s; rw [e, e0]; simp [Tryd.g3_s_3, allT, e, e0, h0, hp, isV_self]
        · unfold Tryd.V3_s; rw [e, e0]; rfl
      rw [beq_iff_eq.2 (Tryd.sums_law (hs e) ((Tryd.check_same c (hs e)).symm.trans h0))] at hr
      exact hr
    · have e0 : (Tryd.CheckE c != 0) = true := bne_iff_ne.2 h0
      refine Tryd.c3 c 0 ?_ ?_
      · unfold Tryd.K3_s; rw [e, e0]; simp [Tryd.g3_s_2, allT, e, e0, hp, isV_self]
      · unfold Tryd.V3_s; rw [e, e0]; rfl
end Go.Proofs

/- Opening an argument: what reads as plain data (numbers, texts, structures, slices of such) is a tree; it reads again where nothing that was there has changed. -/
namespace Go.Ps

/-- Cells and trees of plain data, one by one. -/
def RdIL (g : G) (vs : List Value) (ts : List T) : Prop := vs.length = ts.length ∧ ∀ (j : Nat) (v : Value) (c : T), vs[j]? = some v → ts[j]? = some c → RdI g v c

section
variable {g : G}
theorem RdIL.nil : RdIL g [] [] := ⟨rfl, fun j v c h => by simp at h⟩
theorem RdIL.one {v : Value} {t : T} (h : RdI g v t) : RdIL g [v] [t] := by
  refine ⟨rfl, fun j u c hu hc => ?_⟩
  cases j with
  | zero => simp at hu hc; subst hu; subst hc; exact h
  | succ j => simp at hu
theorem RdIL.append {vs us : List Value} {ts ss : List T} (h : RdIL g vs ts) (k : RdIL g us ss) : RdIL g (vs ++ us) (ts ++ ss) := by
  refine ⟨by simp [h.1, k.1], fun j u c hu hc => ?_⟩
  rw [List.getElem?_append] at hu hc
  by_cases hj : j < vs.length
  · rw [if_pos hj] at hu
    rw [if_pos (h.1 ▸ hj)] at hc
    exact h.2 j u c hu hc
  · rw [if_neg hj] at hu
    rw [if_neg (h.1 ▸ hj), ← h.1] at hc
    exact k.2 _ u c hu hc
end

/-- The type, the offset and the size of a field. -/
def fieldAt (P : Program) (t : TypeId) (i : Nat) : Option (TypeId × Nat × Nat) :=
  match P.underlying t with
  | some (.struct fs) => (fs[i]?).map fun f => (f.type, f.offset, P.cellsOf f.type)
  | _ => none

section
variable {H : Type} (enc : TypeId × Value → H) (P : Program) (W : World)

/-- Whatever reads at a type has cells of the family 'mk'. -/
def Opens (t : TypeId) {A : Type} (mk : A → List T) (ok : A → Prop) : Prop :=
  ∀ (n : Nat) (cs : List Value) (y : DataW H × List MemPlace), DataW.trod enc P W 0 (fun _ => true) true n t cs = some y → ∃ a : A, RdIL (G.start W) cs (mk a) ∧ ok a

variable {enc P W}

theorem Opens.int {t : TypeId} {k : IntKind} (ht : P.underlying t = some (.int k)) : Opens enc P W t (fun n : Int => [.int k n]) (fun n => k.has n) := by
  intro n cs y h
  obtain ⟨m, rfl, _, hw⟩ := DataW.trod_int ht h
  refine ⟨m, RdIL.one (.int k m), ?_⟩
  simp [Lit.wf] at hw
  exact hw

theorem Opens.bool {t : TypeId} (ht : P.underlying t = some .bool) : Opens enc P W t (fun b : Bool => [.bool b]) (fun _ => True) := by
  intro n cs y h
  obtain ⟨b, rfl, _⟩ := DataW.trod_bool ht h
  exact ⟨b, RdIL.one (.bool b), trivial⟩

theorem Opens.str {t : TypeId} (ht : P.underlying t = some .string) : Opens enc P W t (fun s : List UInt8 => [.str s]) (fun s => s.length ≤ maxLen) := by
  intro n cs y h
  obtain ⟨s, rfl, _, hs⟩ := DataW.trod_string ht h
  exact ⟨s.data.toList, RdIL.one (.str s), by simpa using hs⟩

theorem cells_some {w : World} {a : Addr} {n : Nat} {cs : List Value} (h : w.cells? 0 a n = some cs) : cs.length = n ∧ ∀ (j : Nat) (v : Value), cs[j]? = some v → w.cell? (a.add j) = some v := by
  obtain ⟨_, hl, hc⟩ := World.cells?_some h
  refine ⟨hl, fun j v hv => ?_⟩
  have hj : j < n := by rw [← hl]; exact (List.getElem?_eq_some_iff.1 hv).1
  rw [hc j hj]; exact hv

theorem spot_of_cell {w : World} {a : Addr} {v : Value} (h : w.cell? a = some v) : a.spot = none := by
  unfold World.cell? at h
  split at h
  · split at h
    · cases h
    · rename_i hs; simpa using hs
  · cases h

theorem Opens.slice {t e : TypeId} {sz : Nat} {A : Type} [Inhabited A] {mk : A → List T} {ok : A → Prop} (toT : A → T) (ht : P.underlying t = some (.slice e)) (hsz : P.cellsOf e = sz) (hpos : 0 < sz) (hmk : ∀ a, (mk a).length = sz)
    (htoT : ∀ a, (toT a).cells = mk a) (he : Opens enc P W e mk ok) : Opens enc P W t (fun x : Nat × (Nat → A) => [.slf false x.1 (fun i => toT (x.2 i))]) (fun x => x.1 ≤ maxLen ∧ ∀ i, i < x.1 → ok (x.2 i)) := by
  intro n cs y h
  rcases DataW.trod_slice ht h with ⟨rfl, _⟩ | ⟨a, len, cap, elems, rest, n, _, rfl, _, _, hl, hm, hlen, hel, hsp, _⟩
  · exact ⟨(0, default), RdIL.one (.slfn false _ none), by simp, fun i hi => by simp at hi⟩
  · rw [hsz] at hel hsp
    have one : ∀ i, i < len → ∃ c x, W.cells? 0 (a.add (i * sz)) sz = some c ∧ RdIL (G.start W) c (mk x) ∧ ok x := by
      intro i hi
      have h1 := hel i hi
      have h2 : elems[i]? = some (elems[i]'(by omega)) := List.getElem?_eq_getElem (by omega)
      rw [h2, Option.bind_eq_some_iff] at h1
      obtain ⟨c, hc, hy⟩ := h1
      obtain ⟨x, hx, hk⟩ := he _ _ _ hy
      exact ⟨c, x, hc, hx, hk⟩
    have hspot : 0 < cap → a.spot = none := by
      intro hc
      by_cases hl0 : 0 < len
      · obtain ⟨c, x, h1, _, _⟩ := one 0 hl0
        obtain ⟨h2, h3⟩ := cells_some h1
        have h4 : c[0]? = some (c[0]'(by omega)) := List.getElem?_eq_getElem (by omega)
        have := spot_of_cell (h3 0 _ h4)
        simpa [Addr.add] using this
      · obtain ⟨h1, h2⟩ := hsp rfl
        have h3 := h2 0 (by omega)
        have h4 : rest[0]? = some (rest[0]'(by omega)) := List.getElem?_eq_getElem (by omega)
        rw [h4, Option.bind_eq_some_iff] at h3
        obtain ⟨c, hc, _⟩ := h3
        have l0 : len = 0 := by omega
        subst l0
        obtain ⟨h5, h6⟩ := cells_some hc
        have h7 : c[0]? = some (c[0]'(by omega)) := List.getElem?_eq_getElem (by omega)
        have := spot_of_cell (h6 0 _ h7)
        simpa [Addr.add] using this
    classical
    let cel : Nat → List Value := fun i => if hi : i < len then Classical.choose (one i hi) else []
    let xs : Nat → A := fun i => if hi : i < len then Classical.choose (Classical.choose_spec (one i hi)) else default
    have hcx : ∀ i, i < len → W.cells? 0 (a.add (i * sz)) sz = some (cel i) ∧ RdIL (G.start W) (cel i) (mk (xs i)) ∧ ok (xs i) := by
      intro i hi
      simp only [cel, xs, dif_pos hi]
      exact Classical.choose_spec (Classical.choose_spec (one i hi))
    refine ⟨(len, xs), RdIL.one ?_, by show len ≤ maxLen; omega, fun i hi => (hcx i hi).2.2⟩
    by_cases hcap : cap = 0
    · have l0 : len = 0 := by omega
      subst l0; subst hcap
      exact .slfn false _ (some a)
    · obtain ⟨b, o, sp⟩ := a
      have hs := hspot (by omega)
      simp only at hs
      subst hs
      have hlenAll : ∀ x ∈ (List.range len).map cel, x.length = sz := fun x hx => by
        obtain ⟨i, hi, rfl⟩ := List.mem_map.1 hx
        exact (cells_some (hcx i (by simpa using hi)).1).1
      have hflat : ∀ (m : Nat), m ≤ len → (((List.range m).map cel).flatten).length = m * sz := by
        intro m
        induction m with
        | zero => intro _; simp
        | succ m ih =>
          intro hm
          rw [List.range_succ, List.map_append, List.flatten_append, List.length_append, ih (by omega), Nat.succ_mul]
          simp [(cells_some (hcx m (by omega)).1).1]
      have hat : ∀ (m : Nat), m ≤ len → ∀ i j, i < m → j < sz → (((List.range m).map cel).flatten)[i * sz + j]? = (cel i)[j]? := by
        intro m
        induction m with
        | zero => intro _ i j hi; omega
        | succ m ih =>
          intro hm i j hi hj
          rw [List.range_succ, List.map_append, List.flatten_append, List.getElem?_append, hflat m (by omega)]
          by_cases him : i < m
          · have : i * sz + j < m * sz := by
              have : (i + 1) * sz ≤ m * sz := Nat.mul_le_mul_right _ him
              rw [Nat.succ_mul] at this
              omega
            rw [if_pos this]
            exact ih (by omega) i j him hj
          · have : i = m := by omega
            subst this
            rw [if_neg (by omega)]
            simp
      refine .slf false len (fun i => toT (xs i)) sz b o cap (((List.range len).map cel).flatten) (fun hn => ?_) (fun i hi => by rw [htoT, hmk]) hl hm (fun q => by cases q) (hflat len (Nat.le_refl _)) (fun j v hv => ?_) (fun i j v c hi hj hv hc => ?_)
      · obtain ⟨h1, _, _⟩ := hcx 0 (by omega)
        obtain ⟨h2, h3⟩ := cells_some h1
        have h4 : (cel 0)[0]? = some ((cel 0)[0]'(by omega)) := List.getElem?_eq_getElem (by omega)
        have := lt_of_cell (h3 0 _ h4)
        show b < W.heap.size
        simpa [Addr.add] using this
      · have hj : j < len * sz := by
          rw [← hflat len (Nat.le_refl _)]
          exact (List.getElem?_eq_some_iff.1 hv).1
        have hd : j = j / sz * sz + j % sz := by rw [Nat.mul_comm]; exact (Nat.div_add_mod j sz).symm
        have hq : j / sz < len := by rw [Nat.div_lt_iff_lt_mul hpos]; exact hj
        have hr : j % sz < sz := Nat.mod_lt _ hpos
        rw [hd, hat len (Nat.le_refl _) _ _ hq hr] at hv
        have h1 := (cells_some (hcx _ hq).1).2 _ v hv
        show W.cell? ⟨b, o + j, none⟩ = some v
        have e : (Addr.add (Addr.add ⟨b, o, none⟩ (j / sz * sz)) (j % sz)) = ⟨b, o + j, none⟩ := by
          rw [Addr.add_lit, Addr.add_lit]
          congr 1
          omega
        rw [← e]; exact h1
      · rw [hat len (Nat.le_refl _) i j hi hj] at hv
        rw [htoT] at hc
        exact (hcx i hi).2.1.2 j v c hv hc

/-- A field reads. -/
theorem st_field {t : TypeId} {fuel : Nat} {cs : List Value} {x : DataW H × List MemPlace} (h : DataW.trod enc P W 0 (fun _ => true) true fuel t cs = some x) {i : Nat} {u : TypeId} {o s : Nat} (hf : fieldAt P t i = some (u, o, s)) :
    cs.length = P.cellsOf t ∧ ∃ n y, DataW.trod enc P W 0 (fun _ => true) true n u ((cs.drop o).take s) = some y := by
  unfold fieldAt at hf
  split at hf
  · rename_i fs ht
    simp only [Option.map_eq_some_iff] at hf
    obtain ⟨f, hf, he⟩ := hf
    cases he
    obtain ⟨xs, n, _, _, hl, hlen, hx⟩ := DataW.trod_struct ht h
    refine ⟨hl, n, ?_⟩
    have hi : i < xs.length := by rw [hlen]; exact (Array.getElem?_eq_some_iff.1 hf).1
    exact ⟨xs[i], by rw [hx i f hf, List.getElem?_eq_getElem hi]⟩
  · cases hf

theorem Opens.field {t u : TypeId} {A : Type} {mk : A → List T} {ok : A → Prop} (hu : Opens enc P W u mk ok) {fuel : Nat} {cs : List Value} {x : DataW H × List MemPlace} (h : DataW.trod enc P W 0 (fun _ => true) true fuel t cs = some x) {i o s : Nat} (hf : fieldAt P t i = some (u, o, s)) :
    ∃ a : A, RdIL (G.start W) ((cs.drop o).take s) (mk a) ∧ ok a := by
  obtain ⟨_, n, y, hy⟩ := st_field h hf
  exact hu _ _ _ hy

/-- Cells in pieces. -/
theorem RdIL.cut {g : G} {cs : List Value} {o s : Nat} {ts us : List T} (h : RdIL g ((cs.drop o).take s) ts) (k : RdIL g (cs.drop (o + s)) us) : RdIL g (cs.drop o) (ts ++ us) := by
  have := h.append k
  rwa [← List.drop_drop, List.take_append_drop] at this
theorem RdIL.end_ {g : G} {cs : List Value} {o : Nat} (h : cs.length = o) : RdIL g (cs.drop o) [] := by
  rw [List.drop_eq_nil_of_le (by omega)]; exact RdIL.nil

/-- An argument that is a structure. -/
theorem rd_struct {t : TypeId} {v : Value} {r : Reach} {base : Nat} {fs : Array Field} (ht : P.underlying t = some (.struct fs)) (hval : Value.okWide P W r base t v) : ∃ cs : Array Value, v = .agg cs ∧ v.cells.toList = cs.toList := by
  unfold Value.okWide at hval
  rw [ht] at hval
  obtain ⟨cs, rfl, _⟩ := hval
  exact ⟨cs, rfl, rfl⟩

theorem rd_agg {g : G} {cs : Array Value} {ts : List T} (h : RdIL g cs.toList ts) : Rd g (.agg cs) (.agg ts) := by
  have := (RdI.agg (g := g) ts cs.toList h.1 h.2).rd
  simpa using this
end
end Go.Ps

/- BalanceShares is true at every input. -/
namespace Go.Proofs
open Go.Ps

section
set_option maxRecDepth 100000

end
end Go.Proofs

/- The certificate that comes in is a tree; what the row's list gives. -/
namespace Go.Ps
instance : Inhabited Sp := ⟨⟨0, 0, fun _ => 0⟩⟩
instance : Inhabited Ln := ⟨⟨default, 0, 0, fun _ => default, 0, 0, []⟩⟩
def Sp.ok (s : Sp) : Prop := IntKind.i64.has s.entry ∧ s.n ≤ maxLen ∧ ∀ i, i < s.n → IntKind.i64.has (s.at_ i)
def Ln.ok (x : Ln) : Prop := x.st.ok ∧ IntKind.i64.has x.mass ∧ (x.k ≤ maxLen ∧ ∀ i, i < x.k → (x.from_ i).ok) ∧ IntKind.i64.has x.fate ∧ IntKind.i64.has x.closed ∧ x.node.length ≤ maxLen
def Ct.ok (c : Ct) : Prop := IntKind.i64.has c.entries ∧ IntKind.i64.has c.accepted ∧ IntKind.i64.has c.delivered ∧ IntKind.i64.has c.waiting ∧ IntKind.i64.has c.letters ∧ IntKind.i64.has c.discarded ∧ c.n ≤ maxLen ∧ ∀ i, i < c.n → (c.line i).ok
end Go.Ps
namespace Go.Proofs.YtcndhbamkipifaaDoor
open Go.ChangeShapes Go.WideShapes Go.ChangeAt Go.RowKit Go.Ps

theorem ownN : ownKnob Tryd.prog.godebug = none := by kernel_rfl

section
variable {H : Type} {enc : TypeId × Value → H} {W : World}
theorem opInt : Opens enc Tryd.prog W 3 (fun n : Int => [T.int .i64 n]) (fun n => IntKind.i64.has n) := Opens.int Tryd.underlying3
theorem opStr : Opens enc Tryd.prog W 9 (fun s : List UInt8 => [T.str s]) (fun s => s.length ≤ maxLen) := Opens.str (by kernel_rfl)
theorem opInts : Opens enc Tryd.prog W 29 (fun x : Nat × (Nat → Int) => [T.slf false x.1 (fun i => T.int .i64 (x.2 i))]) (fun x => x.1 ≤ maxLen ∧ ∀ i, i < x.1 → IntKind.i64.has (x.2 i)) :=
  Opens.slice (sz := 1) (fun n => T.int .i64 n) (by kernel_rfl) (by kernel_rfl) (by decide) (fun _ => rfl) (fun _ => rfl) opInt
theorem opSp : Opens enc Tryd.prog W 36 (fun s : Sp => (spT s).cells) Sp.ok := by
  intro n cs y h
  obtain ⟨a, ha, oa⟩ := opInt.field h (i := 0) (o := 0) (s := 1) (by kernel_rfl)
  obtain ⟨p, hp, op⟩ := opInts.field h (i := 1) (o := 1) (s := 1) (by kernel_rfl)
  have hl : cs.length = 2 := (st_field h (i := 0) (u := 3) (o := 0) (s := 1) (by kernel_rfl)).1.trans (by kernel_rfl)
  exact ⟨⟨a, p.1, p.2⟩, by have := ha.cut (hp.cut (RdIL.end_ hl)); rw [List.drop_zero] at this; exact this, oa, op⟩
theorem opSps : Opens enc Tryd.prog W 37 (fun x : Nat × (Nat → Sp) => [T.slf false x.1 (fun i => spT (x.2 i))]) (fun x => x.1 ≤ maxLen ∧ ∀ i, i < x.1 → (x.2 i).ok) :=
  Opens.slice (sz := 2) spT (by kernel_rfl) (by kernel_rfl) (by decide) (fun _ => rfl) (fun _ => rfl) opSp
theorem opLn : Opens enc Tryd.prog W 39 (fun x : Ln => (lnT x).cells) Ln.ok := by
  intro n cs y h
  obtain ⟨a0, h0, o0⟩ := opSp.field h (i := 0) (o := 0) (s := 2) (by kernel_rfl)
  obtain ⟨a1, h1, o1⟩ := opInt.field h (i := 1) (o := 2) (s := 1) (by kernel_rfl)
  obtain ⟨a2, h2, o2⟩ := opSps.field h (i := 2) (o := 3) (s := 1) (by kernel_rfl)
  obtain ⟨a3, h3, o3⟩ := opInt.field h (i := 3) (o := 4) (s := 1) (by kernel_rfl)
  obtain ⟨a4, h4, o4⟩ := opInt.field h (i := 4) (o := 5) (s := 1) (by kernel_rfl)
  obtain ⟨a5, h5, o5⟩ := opStr.field h (i := 5) (o := 6) (s := 1) (by kernel_rfl)
  have hl : cs.length = 7 := (st_field h (i := 1) (u := 3) (o := 2) (s := 1) (by kernel_rfl)).1.trans (by kernel_rfl)
  exact ⟨⟨a0, a1, a2.1, a2.2, a3, a4, a5⟩, by have := h0.cut (h1.cut (h2.cut (h3.cut (h4.cut (h5.cut (RdIL.end_ hl)))))); rw [List.drop_zero] at this; exact this, o0, o1, o2, o3, o4, o5⟩
theorem opLns : Opens enc Tryd.prog W 22 (fun x : Nat × (Nat → Ln) => [T.slf false x.1 (fun i => lnT (x.2 i))]) (fun x => x.1 ≤ maxLen ∧ ∀ i, i < x.1 → (x.2 i).ok) :=
  Opens.slice (sz := 7) lnT (by kernel_rfl) (by kernel_rfl) (by decide) (fun _ => rfl) (fun _ => rfl) opLn
theorem opCt : Opens enc Tryd.prog W 24 (fun c : Ct => (ctT c).cells) Ct.ok := by
  intro n cs y h
  obtain ⟨a0, h0, o0⟩ := opInt.field h (i := 0) (o := 0) (s := 1) (by kernel_rfl)
  obtain ⟨a1, h1, o1⟩ := opInt.field h (i := 1) (o := 1) (s := 1) (by kernel_rfl)
  obtain ⟨a2, h2, o2⟩ := opInt.field h (i := 2) (o := 2) (s := 1) (by kernel_rfl)
  obtain ⟨a3, h3, o3⟩ := opInt.field h (i := 3) (o := 3) (s := 1) (by kernel_rfl)
  obtain ⟨a4, h4, o4⟩ := opInt.field h (i := 4) (o := 4) (s := 1) (by kernel_rfl)
  obtain ⟨a5, h5, o5⟩ := opInt.field h (i := 5) (o := 5) (s := 1) (by kernel_rfl)
  obtain ⟨a6, h6, o6⟩ := opLns.field h (i := 6) (o := 6) (s := 1) (by kernel_rfl)
  have hl : cs.length = 7 := (st_field h (i := 1) (u := 3) (o := 1) (s := 1) (by kernel_rfl)).1.trans (by kernel_rfl)
  exact ⟨⟨a0, a1, a2, a3, a4, a5, a6.1, a6.2⟩, by have := h0.cut (h1.cut (h2.cut (h3.cut (h4.cut (h5.cut (h6.cut (RdIL.end_ hl))))))); rw [List.drop_zero] at this; exact this, o0, o1, o2, o3, o4, o5, o6⟩

/-- The certificate. -/
theorem openCt {base : Nat} {v : Value} {d : DataW H} {p : List MemPlace} (hval : Value.okWide Tryd.prog W .any base 24 v) (h : DataW.Trod enc Tryd.prog W 0 (fun _ => true) true 24 v d p) : ∃ c : Ct, Rd (G.start W) v (ctT c) ∧ c.ok := by
  obtain ⟨n, h⟩ := h
  obtain ⟨c, hc, ok⟩ := opCt n _ _ h
  have hst : ∃ fs, Tryd.prog.underlying 24 = some (.struct fs) := by
    have hu : (match Tryd.prog.underlying 24 with | some (.struct _) => true | _ => false) = true := by kernel_rfl
    split at hu
    · rename_i fs e; exact ⟨fs, e⟩
    · cases hu
  obtain ⟨fs, hst⟩ := hst
  obtain ⟨cs, rfl, e⟩ := rd_struct hst hval
  rw [e] at hc
  exact ⟨c, rd_agg hc, ok⟩
end

/-- The table of powers of ten. -/
theorem glOkN {l : List (String × DataW Unit)} {W : World} (h : laidMet Tryd.prog (l ++ [("internal/strconv.uint64pow10", Lib.tabData .u64 Lib.pow10Tab)]) W) (hl : l.length = 2) : GlOk Tryd.gl (G.start W) := by
  match l, hl with
  | [a, b], _ =>
    have h2 : laidMet Tryd.prog [("internal/strconv.uint64pow10", Lib.tabData .u64 Lib.pow10Tab)] W := h.tail.tail
    have h3 := Lib.tabIs_of_head (g := 0) (t := 95) (e := 87) (n := 20) (by kernel_rfl) (by kernel_rfl) (by kernel_rfl) (by kernel_rfl) (by kernel_rfl) (by kernel_rfl) h2
    intro k t ht
    unfold Tryd.gl at ht
    split at ht
    · rename_i e
      subst e
      cases ht
      exact gl_of_tab (by kernel_rfl) h3
    · cases ht

theorem below_of {g g' : G} (h : PStep g g') : Below g.w.heap.size g.w g'.w := ⟨h.os, h.tape, h.output, h.size, h.block⟩
end Go.Proofs.YtcndhbamkipifaaDoor
