/- Texts merged: Oc, Nc, Nd, Pe, Qs, Ws, E7, Wc, Xg, Xh, N73, Nu, Sq, Pq, Xl, Xp, R29, Rt, Rj, Re, Rg, Xd. -/
import Derived.Test.YtcndhbamkipifaaGreatDoorTe3
import Derived.Test.YtcndhbamkipifaaGreatDoorTe1
import Derived.Test.YtcndhbamkipifaaGreatDoorTe0
import Derived.RangeFuncBound
import Derived.Shelf.Abstract
import Derived.Shelf.RegionOpen
import Derived.WalkKit
import Derived.OwnWalkIn
import Derived.TacticsInMore
import Derived.LoopNIn
import Derived.LoopIn
import Derived.Maps.AppendAt
import Derived.Lib.AtoiAll
import Derived.Lib.Split
set_option linter.unusedSimpArgs false
set_option linter.unusedVariables false
set_option linter.unusedSectionVars false
/- Check: the contract. -/
namespace Go.Proofs.Tryz
open Go.Ps
set_option maxRecDepth 100000
theorem fst_zero {e : Nat → Int} : ∀ (q i : Nat), fst e q i = 0 → ∀ j, i ≤ j → j < i + q → e j = 0
 | 0, _, _, j, h1, h2 => by omega
 | q + 1, i, h, j, h1, h2 => by
  unfold fst at h
  by_cases h0 : e i = 0
  ·rw [if_neg (by simp [h0])] at h
   by_cases hj : j = i
   ·rw [hj]; exact h0
   ·exact fst_zero q (i + 1) h j (by omega) (by omega)
  ·rw [if_pos h0] at h; exact absurd h h0
theorem exR_false {p : Nat → Bool} : ∀ (m k : Nat), exR p m k = false → ∀ j, k ≤ j → j < k + m → p j = false
 | 0, _, _, j, h1, h2 => by omega
 | m + 1, k, h, j, h1, h2 => by
  unfold exR at h
  by_cases h0 : p k = true
  ·rw [if_pos h0] at h; cases h
  ·rw [if_neg h0] at h
   by_cases hj : j = k
   ·rw [hj]; simpa using h0
   ·exact exR_false m (k + 1) h j (by omega) (by omega)
theorem te_zero {fnd : Sp → Bool} {c : Ct} {i : Nat} (h : te fnd c i = 0) : (∀ k, k < (c.line i).k → ordBad (c.line i) k = false) ∧ (∀ k, k < (c.line i).k → fnd ((c.line i).from_ k) = true) ∧ ((c.line i).k = 0 → arr (c.line i).st = true ∧ (c.line i).mass = 1048576) := by
 unfold te at h
 split at h
 ·cases h
 ·rename_i h1
  split at h
  ·cases h
  ·rename_i h2
   split at h
   ·cases h
   ·rename_i h3
    refine ⟨fun k hk => exR_false _ 0 (by simpa using h1) k (by omega) (by omega), fun k hk => ?_, fun hk => ?_⟩
    ·have := exR_false _ 0 (by simpa using h2) k (by omega) (by omega)
     simpa using this
    ·constructor
     ·by_cases q : arr (c.line i).st = true
      ·exact q
      ·exact absurd ⟨hk, .inl (by simpa using q)⟩ h3
     ·by_cases q : (c.line i).mass = 1048576
      ·exact q
      ·exact absurd ⟨hk, .inr q⟩ h3
theorem linked_of_par {c : Ct} (h : parE c = 0) : linked (ap c) c := by
 intro i hi k hk
 have h1 := fst_zero c.n 0 h i (by omega) (by omega)
 have h2 := (te_zero h1).2.1 k hk
 unfold fp found at h2
 rw [Bool.and_eq_true, decide_eq_true_eq] at h2
 exact h2.1
noncomputable def CheckE (c : Ct) : Int :=
 if sizE c ≠ 0 then sizE c else if formE c ≠ 0 then formE c else if parE c ≠ 0 then parE c
 else if chE (rowsP c) c ≠ 0 then chE (rowsP c) c else if merE c ≠ 0 then merE c else totE c
theorem Check_ok (c : Ct) (hs : small c) : PureFn prog gl 12 [ctT c] (.int .i64 (CheckE c)) := by
 have hsB : pB (small c) = true := pB_iff.2 hs
 have hn : decide (c.n ≤ 281474976710656) = true := decide_eq_true (by have := hs.1; omega)
 suffices hrun : Runs (M8 c) .l0u0 (.int .i64 (CheckE c)) by
  obtain ⟨n, h⟩ := hrun
  exact c8 c n (by unfold K8_s; simp [g8_s_1, allT]) (by unfold V8_s; exact h)
 unfold CheckE
 have s0 : (M8 c).step .l0u0 = some (V8_0u0 c) := T8_0u0 c (by
  unfold K8_0u0
  refine tree_eq (fun e => ?_) (fun e => ?_) <;> simp only [g8_0u0_1, g8_0u0_2, allT, isV_self, e, Bool.not_false, Bool.and_true])
 have s1 : (M8 c).step .l0u1 = some (V8_0u1 c) := T8_0u1 c (by
  unfold K8_0u1
  refine tree_eq (fun e => ?_) (fun e => ?_) <;> simp only [g8_0u1_1, g8_0u1_2, allT, isV_self, e, hsB, Bool.not_false, Bool.and_true, k8_0u1_0])
 have s2 : (M8 c).step .l0u2 = some (V8_0u2 c) := T8_0u2 c (by
  unfold K8_0u2
  refine tree_eq (fun e => ?_) (fun e => ?_) <;> simp only [g8_0u2_1, g8_0u2_2, allT, isV_self, e, hsB, Bool.not_false, Bool.and_true, k8_0u2_0])
 have s5 : (M8 c).step .l0u5 = some (V8_0u5 c) := T8_0u5 c (by
  unfold K8_0u5
  refine tree_eq (fun e => ?_) (fun e => ?_) <;> simp only [g8_0u5_1, g8_0u5_2, allT, isV_self, e, hn, Bool.not_false, Bool.and_true, k8_0u5_0])
 have s6 : (M8 c).step .l0u6 = some (.inr (.int .i64 0)) := T8_0u6 c (by unfold K8_0u6; simp [g8_0u6_1, allT])
 by_cases h0 : sizE c = 0
 ·have e0 : (sizE c != 0) = false := bne_eq_false_iff_eq.2 h0
  unfold V8_0u0 at s0; rw [e0] at s0
  rw [if_neg (by simp [h0])]
  refine .next s0 ?_
  by_cases h1 : formE c = 0
  ·have e1 : (formE c != 0) = false := bne_eq_false_iff_eq.2 h1
   unfold V8_0u1 at s1; rw [e1] at s1
   rw [if_neg (by simp [h1])]
   refine .next s1 ?_
   by_cases h2 : parE c = 0
   ·have e2 : (parE c != 0) = false := bne_eq_false_iff_eq.2 h2
    unfold V8_0u2 at s2; rw [e2] at s2
    rw [if_neg (by simp [h2])]
    refine .next s2 ?_
    have hlB : pB (linked (ap c) c) = true := pB_iff.2 (linked_of_par h2)
    have s3 : (M8 c).step .l0u3 = some (V8_0u3 c) := T8_0u3 c (by
     unfold K8_0u3
     refine tree_eq (fun e => ?_) (fun e => ?_) <;> simp only [g8_0u3_1, g8_0u3_2, allT, isV_self, e, hsB, hlB, Bool.not_false, Bool.and_true, k8_0u3_0])
    have s4 : (M8 c).step .l0u4 = some (V8_0u4 c) := T8_0u4 c (by
     unfold K8_0u4
     refine tree_eq (fun e => ?_) (fun e => ?_) <;> simp only [g8_0u4_1, g8_0u4_2, allT, isV_self, e, hsB, hlB, Bool.not_false, Bool.and_true, k8_0u4_0])
    by_cases h3 : chE (rowsP c) c = 0
    ·have e3 : (chE (rowsP c) c != 0) = false := bne_eq_false_iff_eq.2 h3
     unfold V8_0u3 at s3; rw [e3] at s3
     rw [if_neg (by simp [h3])]
     refine .next s3 ?_
     by_cases h4 : merE c = 0
     ·have e4 : (merE c != 0) = false := bne_eq_false_iff_eq.2 h4
      unfold V8_0u4 at s4; rw [e4] at s4
      rw [if_neg (by simp [h4])]
      refine .next s4 ?_
      by_cases h5 : totE c = 0
      ·have e5 : (totE c != 0) = false := bne_eq_false_iff_eq.2 h5
       unfold V8_0u5 at s5; rw [e5] at s5
       rw [h5]
       exact .next s5 (.done s6)
      ·have e5 : (totE c != 0) = true := bne_iff_ne.2 h5
       unfold V8_0u5 at s5; rw [e5] at s5
       exact .done s5
     ·have e4 : (merE c != 0) = true := bne_iff_ne.2 h4
      unfold V8_0u4 at s4; rw [e4] at s4
      rw [if_pos h4]; exact .done s4
    ·have e3 : (chE (rowsP c) c != 0) = true := bne_iff_ne.2 h3
     unfold V8_0u3 at s3; rw [e3] at s3
     rw [if_pos h3]; exact .done s3
   ·have e2 : (parE c != 0) = true := bne_iff_ne.2 h2
    unfold V8_0u2 at s2; rw [e2] at s2
    rw [if_pos h2]; exact .done s2
  ·have e1 : (formE c != 0) = true := bne_iff_ne.2 h1
   unfold V8_0u1 at s1; rw [e1] at s1
   rw [if_pos h1]; exact .done s1
 ·have e0 : (sizE c != 0) = true := bne_iff_ne.2 h0
  unfold V8_0u0 at s0; rw [e0] at s0
  rw [if_pos h0]; exact .done s0
end Go.Proofs.Tryz

/- check of the law: the contract. -/
namespace Go.Proofs.Tryz
open Go.Ps
set_option maxRecDepth 100000
noncomputable def E11 (c : Ct) (ru : Int) (i : Nat) : Int := if ru = 2 then fe c i else if ru = 3 then te (fl c) c i else if ru = 4 then fo (kl c i) c (c.line i) else me (al c) c i
def totL (c : Ct) (n : Int) : Int := if c.accepted ≠ n ∨ c.delivered ≠ (ltR c.line c.n 0 0 0 0 0).1 ∨ c.waiting ≠ (ltR c.line c.n 0 0 0 0 0).2.1 ∨ c.letters ≠ (ltR c.line c.n 0 0 0 0 0).2.2.1 ∨ c.discarded ≠ (ltR c.line c.n 0 0 0 0 0).2.2.2 then 38 else 0
theorem pB_true : pB True = true := pB_iff.2 trivial
section
variable (c : Ct) (hs : small c)
include hs
theorem st11_1 (ru : Int) (i : Nat) (hi : i < c.n) (h4 : ru = 4 → 0 ≤ (c.line i).mass) (h5 : ru ≠ 2 → ru ≠ 3 → ru ≠ 4 → allFl c) : (M11 c).step (.l1 ru i) = some (if E11 c ru i ≠ 0 then .inr (.int .i64 (E11 c ru i)) else .inl (.l1 ru (i + 1 : Nat))) := by
 have h1 := hs.1
 have hsB : pB (small c) = true := pB_iff.2 hs
 have b1 : decide ((i : Int) < c.n) = true := decide_eq_true (by omega)
 have b2 : decide ((0 : Int) ≤ i) = true := decide_eq_true (by omega)
 show step11_1 c ru i = _
 rw [T11_1 c ru i ?_]
 ·congr 1
  unfold V11_1
  rw [wsucc i (by omega)]
  simp only [Int.toNat_natCast]
  rw [if_pos b1]
  repeat' (refine tree_eq (fun _ => ?_) (fun _ => ?_))
  all_goals (unfold E11; grind)
 ·unfold K11_1
  simp only [Int.toNat_natCast]
  rw [if_pos b1]
  by_cases r2 : ru = 2
  ·subst r2
   refine tree_eq (fun _ => ?_) (fun q => by cases q)
   refine tree_eq (fun _ => ?_) (fun _ => ?_)
   all_goals (simp only [g11_1_1, g11_1_2, g11_1_3, g11_1_4, g11_1_5, g11_1_6, g11_1_7, g11_1_8, g11_1_9, Int.toNat_natCast, k11_1_0, k11_1_1, k11_1_3, k11_1_2, k11_1_4] at *; simp only [*, pB_true, allT, isV_self, decide_true, Bool.not_false, Bool.not_true, Bool.and_true])
  ·have q2 : (ru == 2) = false := by simp [r2]
   rw [if_neg (by simp [r2])]
   by_cases r3 : ru = 3
   ·subst r3
    refine tree_eq (fun _ => ?_) (fun q => by cases q)
    refine tree_eq (fun _ => ?_) (fun _ => ?_)
    all_goals (simp only [g11_1_1, g11_1_2, g11_1_3, g11_1_4, g11_1_5, g11_1_6, g11_1_7, g11_1_8, g11_1_9, Int.toNat_natCast, k11_1_0, k11_1_1, k11_1_3, k11_1_2, k11_1_4] at *; simp only [*, pB_true, allT, isV_self, decide_true, Bool.not_false, Bool.not_true, Bool.and_true])
   ·have q3 : (ru == 3) = false := by simp [r3]
    rw [if_neg (by simp [r3])]
    by_cases r4 : ru = 4
    ·have b5 : decide (0 ≤ (c.line i).mass) = true := decide_eq_true (h4 r4)
     subst r4
     refine tree_eq (fun _ => ?_) (fun q => by cases q)
     refine tree_eq (fun _ => ?_) (fun _ => ?_)
     all_goals (simp only [g11_1_1, g11_1_2, g11_1_3, g11_1_4, g11_1_5, g11_1_6, g11_1_7, g11_1_8, g11_1_9, Int.toNat_natCast, k11_1_0, k11_1_1, k11_1_3, k11_1_2, k11_1_4] at *; simp only [*, pB_true, allT, isV_self, decide_true, Bool.not_false, Bool.not_true, Bool.and_true])
    ·have q4 : (ru == 4) = false := by simp [r4]
     have b5 : pB (allFl c) = true := pB_iff.2 (h5 r2 r3 r4)
     rw [if_neg (by simp [r4])]
     refine tree_eq (fun _ => ?_) (fun _ => ?_)
     all_goals (simp only [g11_1_1, g11_1_2, g11_1_3, g11_1_4, g11_1_5, g11_1_6, g11_1_7, g11_1_8, g11_1_9, Int.toNat_natCast, k11_1_0, k11_1_1, k11_1_3, k11_1_2, k11_1_4] at *; simp only [*, pB_true, allT, isV_self, decide_true, Bool.not_false, Bool.not_true, Bool.and_true])
theorem run11_1 (ru : Nat) (hru : ru < 100) (h4 : (ru : Int) = 4 → ∀ i, i < c.n → 0 ≤ (c.line i).mass) (h5 : (ru : Int) ≠ 2 → (ru : Int) ≠ 3 → (ru : Int) ≠ 4 → allFl c) (r : T) (hn : fst (E11 c ru) c.n 0 = 0 → Runs (M11 c) (.l0 (ru + 1 : Nat)) r) (hr : fst (E11 c ru) c.n 0 ≠ 0 → r = .int .i64 (fst (E11 c ru) c.n 0)) (h05 : ru ≤ 5) :
  Runs (M11 c) (.l0 ru) r := by
 have h1 := hs.1
 have inner : ∀ (q i : Nat), q + i = c.n → (fst (E11 c ru) q i = 0 → Runs (M11 c) (.l0 (ru + 1 : Nat)) r) → (fst (E11 c ru) q i ≠ 0 → r = .int .i64 (fst (E11 c ru) q i)) → Runs (M11 c) (.l1 ru i) r := by
  intro q
  induction q with
  | zero =>
   intro i hi hn _
   have : i = c.n := by omega
   subst this
   refine .next ?_ (hn rfl)
   show step11_1 c ru c.n = _
   rw [T11_1 c ru c.n (by unfold K11_1; rw [if_neg (by simp)]; simp [g11_1_1, g11_1_2, g11_1_3, g11_1_4, g11_1_5, g11_1_6, g11_1_7, g11_1_8, g11_1_9, allT, k11_1_0, k11_1_1, k11_1_3, k11_1_2, k11_1_4])]
   unfold V11_1
   rw [if_neg (by simp), wsucc ru (by omega)]
  | succ q ih =>
   intro i hi hn hr
   have hst := st11_1 c hs ru i (by omega) (fun e => h4 e i (by omega)) h5
   unfold fst at hn hr
   by_cases e : E11 c ru i = 0
   ·rw [if_neg (by simp [e])] at hst hn hr
    exact .next hst (ih (i + 1) (by omega) hn hr)
   ·rw [if_pos e] at hst hn hr
    rw [hr e]
    exact .done hst
 refine .next ?_ (inner c.n 0 (by omega) hn hr)
 show step11_0 c ru = _
 have b1 : decide ((ru : Int) ≤ 5) = true := decide_eq_true (by omega)
 rw [T11_0 c ru (by unfold K11_0; rw [if_pos b1]; simp only [g11_0_1, allT, b1, Bool.and_true])]
 unfold V11_0
 rw [if_pos b1]
 rfl
end
end Go.Proofs.Tryz

/- check of the law: proved. -/
namespace Go.Proofs.Tryz
open Go.Ps
set_option maxRecDepth 100000
noncomputable def checkL (c : Ct) : Int :=
 if sizE c ≠ 0 then sizE c else if formE c ≠ 0 then formE c else if fst (te (fl c) c) c.n 0 ≠ 0 then fst (te (fl c) c) c.n 0
 else if fst (fun i => fo (kl c i) c (c.line i)) c.n 0 ≠ 0 then fst (fun i => fo (kl c i) c (c.line i)) c.n 0
 else if fst (me (al c) c) c.n 0 ≠ 0 then fst (me (al c) c) c.n 0 else totL c (sumR F58 c.line c.n 0 0)
theorem run11_2 (c : Ct) (hs : small c) : ∀ (q i : Nat) (s : Int), q + i = c.n → Runs (M11 c) (.l2 s i) (.int .i64 (totL c (sumR F58 c.line q i s))) := by
 have h1 := hs.1
 intro q
 induction q with
 | zero =>
  intro i s hi
  have : i = c.n := by omega
  subst this
  have a1 : decide (c.n ≤ 281474976710656) = true := decide_eq_true (by omega)
  refine .done ?_
  show step11_2 c s c.n = _
  rw [T11_2 c s c.n ?_]
  ·congr 1
   unfold V11_2
   rw [if_neg (by simp)]
   repeat' (refine tree_eq (fun _ => ?_) (fun _ => ?_))
   all_goals (unfold totL sumR; grind)
  ·have b1 : decide ((c.n : Int) < c.n) = false := decide_eq_false (by omega)
   unfold K11_2
   rw [if_neg (by simp)]
   repeat' (refine tree_eq (fun _ => ?_) (fun _ => ?_))
   all_goals (simp only [g11_2_1, g11_2_2, g11_2_3, g11_2_4, g11_2_5, g11_2_6, g11_2_7, g11_2_8, k11_2_0, k11_2_1, k11_2_2, k11_2_3, k11_2_4, k11_2_5] at *; simp only [*, allT, isV_self, decide_true, Bool.not_false, Bool.not_true, Bool.and_true])
 | succ q ih =>
  intro i s hi
  have b1 : decide ((i : Int) < c.n) = true := decide_eq_true (by omega)
  have b2 : decide ((0 : Int) ≤ i) = true := decide_eq_true (by omega)
  have e : (M11 c).step (.l2 s i) = some (.inl (.l2 (F58 s (c.line i)) (i + 1 : Nat))) := by
   show step11_2 c s i = _
   rw [T11_2 c s i ?_]
   ·congr 1
    unfold V11_2
    rw [if_pos b1, wsucc i (by omega)]
    simp only [Int.toNat_natCast]
    repeat' (refine tree_eq (fun _ => ?_) (fun _ => ?_))
    all_goals (unfold F58; simp [*])
   ·unfold K11_2
    rw [if_pos b1]
    simp only [Int.toNat_natCast]
    repeat' (refine tree_eq (fun _ => ?_) (fun _ => ?_))
    all_goals (simp only [g11_2_1, g11_2_2, g11_2_3, g11_2_4, g11_2_5, g11_2_6, g11_2_7, g11_2_8, Int.toNat_natCast, k11_2_0, k11_2_1, k11_2_2, k11_2_3, k11_2_4, k11_2_5] at *; simp only [*, allT, isV_self, decide_true, Bool.not_false, Bool.not_true, Bool.and_true])
  unfold sumR
  exact .next e (ih (i + 1) _ (by omega))
theorem fe_zero {c : Ct} {i : Nat} (h : fe c i = 0) : chk (c.line i).st = 0 ∧ (c.line i).st.entry ≤ c.entries ∧ (0 < i → cmpS (c.line (i - 1)).st (c.line i).st < 0) ∧ 0 ≤ (c.line i).mass ∧ (c.line i).mass ≤ 1099511627776 ∧ 0 ≤ (c.line i).fate ∧ (c.line i).fate ≤ 4 ∧ ((c.line i).closed = 0 ∨ ((c.line i).fate = 4 ∧ ((c.line i).closed = 5 ∨ (c.line i).closed = 6))) := by
 unfold fe at h
 split at h
 ·rename_i h1; exact absurd h h1
 ·split at h
  ·cases h
  ·split at h
   ·cases h
   ·split at h
    ·cases h
    ·split at h
     ·cases h
     ·split at h
      ·cases h
      ·rename_i h1 h2 h3 h4 h5 h6
       refine ⟨by simpa using h1, by omega, fun q => ?_, by omega, by omega, by omega, by omega, ?_⟩
       ·by_cases w : cmpS (c.line (i - 1)).st (c.line i).st ≥ 0
        ·exact absurd ⟨q, w⟩ h3
        ·omega
       ·by_cases w : (c.line i).closed = 0
        ·exact .inl w
        ·right
         by_cases v : (c.line i).fate = 4 ∧ ((c.line i).closed = 5 ∨ (c.line i).closed = 6)
         ·exact v
         ·exact absurd ⟨w, v⟩ h6
theorem check_ok (c : Ct) (hs : small c) : PureFn prog gl 8 [ctT c] (.int .i64 (checkL c)) := by
 have hK : K11_s c = true := by
  unfold K11_s
  repeat' (refine tree_eq (fun _ => ?_) (fun _ => ?_))
  all_goals (simp only [g11_s_1, g11_s_2, g11_s_3, g11_s_4, k11_s_0] at *; simp only [*, allT, decide_true, Bool.not_false, Bool.not_true, Bool.and_true])
 by_cases h0 : sizE c = 0
 ·suffices hrun : Runs (M11 c) (.l0 (2 : Nat)) (.int .i64 (checkL c)) by
   obtain ⟨n, h⟩ := hrun
   refine c11 c n hK ?_
   have hv : V11_s c = .inl (.l0 2) := by
    unfold V11_s
    unfold sizE at h0
    repeat' (refine tree_eq (fun _ => ?_) (fun _ => ?_))
    all_goals grind
   rw [hv]; exact h
  unfold checkL
  rw [if_neg (by simp [h0])]
  have e2 : fst (E11 c ((2 : Nat) : Int)) c.n 0 = formE c := fst_congr _ _ (fun j _ _ => by unfold E11; rw [if_pos (by rfl)])
  have e3 : fst (E11 c ((3 : Nat) : Int)) c.n 0 = fst (te (fl c) c) c.n 0 := fst_congr _ _ (fun j _ _ => by unfold E11; rw [if_neg (by decide), if_pos (by rfl)])
  have e4 : fst (E11 c ((4 : Nat) : Int)) c.n 0 = fst (fun i => fo (kl c i) c (c.line i)) c.n 0 := fst_congr _ _ (fun j _ _ => by unfold E11; rw [if_neg (by decide), if_neg (by decide), if_pos (by rfl)])
  have e5 : fst (E11 c ((5 : Nat) : Int)) c.n 0 = fst (me (al c) c) c.n 0 := fst_congr _ _ (fun j _ _ => by unfold E11; rw [if_neg (by decide), if_neg (by decide), if_neg (by decide)])
  refine run11_1 c hs 2 (by omega) (fun q => absurd q (by decide)) (fun q => absurd rfl q) _ ?_ ?_ (by omega)
  ·rw [e2]
   intro h2
   rw [if_neg (by simp [h2])]
   refine run11_1 c hs 3 (by omega) (fun q => absurd q (by decide)) (fun _ q => absurd rfl q) _ ?_ ?_ (by omega)
   ·rw [e3]
    intro h3
    rw [if_neg (by simp [h3])]
    refine run11_1 c hs 4 (by omega) (fun _ i hi => (fe_zero (fst_zero c.n 0 h2 i (by omega) (by omega))).2.2.2.1) (fun _ _ q => absurd rfl q) _ ?_ ?_ (by omega)
    ·rw [e4]
     intro h4
     rw [if_neg (by simp [h4])]
     refine run11_1 c hs 5 (by omega) (fun q => absurd q (by decide)) (fun _ _ _ i hi => (te_zero (fst_zero c.n 0 h3 i (by omega) (by omega))).2.1) _ ?_ ?_ (by omega)
     ·rw [e5]
      intro h5
      rw [if_neg (by simp [h5])]
      refine .next ?_ (run11_2 c hs c.n 0 0 (by omega))
      show step11_0 c 6 = _
      rw [T11_0 c 6 (by unfold K11_0; rw [if_neg (by decide)]; rfl)]
      unfold V11_0
      rw [if_neg (by decide)]
      rfl
     ·rw [e5]
      intro h5
      rw [if_pos h5]
    ·rw [e4]
     intro h4
     rw [if_pos h4]
   ·rw [e3]
    intro h3
    rw [if_pos h3]
  ·rw [e2]
   intro h2
   rw [if_pos h2]
 ·refine c11 c 0 hK ?_
  have hv : V11_s c = .inr (.int .i64 (checkL c)) := by
   unfold checkL
   rw [if_pos h0]
   unfold V11_s
   unfold sizE at h0 ⊢
   repeat' (refine tree_eq (fun _ => ?_) (fun _ => ?_))
   all_goals grind
  rw [hv]; rfl
end Go.Proofs.Tryz

/- The program's check and the law's check answer alike. -/
namespace Go.Proofs.Tryz
open Go.Ps
def inc (c : Ct) : Prop := ∀ i j, i < j → j < c.n → cmpS (c.line i).st (c.line j).st < 0
theorem inc_of {c : Ct} (h : formE c = 0) : inc c := by
 intro i j
 induction j with
 | zero => intro h1; omega
 | succ j ih =>
  intro h1 h2
  have h3 := (fe_zero (fst_zero c.n 0 h (j + 1) (by omega) (by omega))).2.2.1 (by omega)
  simp only [Nat.add_sub_cancel] at h3
  by_cases e : i = j
  ·rw [e]; exact h3
  ·exact cmpS_trans _ _ _ (ih (by omega) (by omega)) h3
section
variable {c : Ct} (hi : inc c)
include hi
theorem ap_at {s : Sp} {j : Nat} (hj : j < c.n) (h : cmpS (c.line j).st s = 0) : ap c s = j := by
 obtain ⟨h1, h2, h3⟩ := bs_spec c.n (fun i => cmpS (c.line i).st s) (fun a b hab hb hp => cmpS_trans _ _ _ (hi a b hab hb) hp)
 unfold ap
 rcases Nat.lt_trichotomy (bs c.n (fun i => cmpS (c.line i).st s)) j with q | q | q
 ·have h4 := h3 (by omega)
  have h5 := hi _ j q hj
  rw [cmpS_congr' _ _ _ h] at h5
  exact absurd h5 h4
 ·exact q
 ·have : cmpS (c.line j).st s < 0 := h1 j q
  omega
theorem fp_fl (s : Sp) : fp c s = fl c s := by
 rcases idx_found c.n (fun i => eqS (c.line i).st s) with ⟨e, f⟩ | ⟨j, hj, hp, _, e⟩
 ·have : fl c s = false := by unfold fl; rw [e]; rfl
  rw [this]
  unfold fp found
  by_cases hb : bs c.n (fun i => cmpS (c.line i).st s) < c.n
  ·have := f _ hb
   unfold eqS at this
   rw [this]; simp
  ·rw [decide_eq_false hb]; rfl
 ·have : fl c s = true := by unfold fl; rw [e, decide_eq_false (by omega)]; rfl
  rw [this]
  have h0 : cmpS (c.line j).st s = 0 := by simpa [eqS] using hp
  have ha := ap_at hi hj h0
  unfold ap at ha
  unfold fp found
  rw [ha, decide_eq_true hj]; simp [h0]
theorem fl_at {s : Sp} (h : fl c s = true) : ∃ j, j < c.n ∧ cmpS (c.line j).st s = 0 ∧ ap c s = j ∧ al c s = j := by
 rcases idx_found c.n (fun i => eqS (c.line i).st s) with ⟨e, f⟩ | ⟨j, hj, hp, _, e⟩
 ·unfold fl at h; rw [e] at h; exact absurd h (by decide)
 ·have h0 : cmpS (c.line j).st s = 0 := by simpa [eqS] using hp
  exact ⟨j, hj, h0, ap_at hi hj h0, by unfold al; rw [e]; rfl⟩
theorem ap_iff {s : Sp} (h : fl c s = true) {z : Nat} (hz : z < c.n) : (z = ap c s) ↔ eqS s (c.line z).st = true := by
 obtain ⟨j, hj, h0, ha, _⟩ := fl_at hi h
 constructor
 ·intro e
  rw [ha] at e
  subst e
  have := cmpS_anti s (c.line z).st
  simp [eqS]; omega
 ·intro e
  have e1 : cmpS s (c.line z).st = 0 := by simpa [eqS] using e
  have := cmpS_anti (c.line z).st s
  exact (ap_at hi hz (by omega)).symm
theorem rwR_kid (i : Nat) (hin : i < c.n) (hl : allFl c) (z : Nat) (hz : z < c.n) : ∀ (q k : Nat) (R : Nat → List Int), q + k = (c.line i).k → rwR c i q k R z = kidR c.line (c.line z).st i q k (R z)
 | 0, _, _, _ => rfl
 | q + 1, k, R, h => by
  unfold rwR kidR
  rw [rwR_kid i hin hl z hz q (k + 1) _ (by omega)]
  congr 1
  unfold push
  have h1 := ap_iff hi (hl i hin k (by omega)) hz
  by_cases e : z = ap c ((c.line i).from_ k)
  ·rw [if_pos e, if_pos (h1.1 e)]
  ·rw [if_neg e, if_neg (fun w => e (h1.2 w))]
theorem rwO_kid (hl : allFl c) (z : Nat) (hz : z < c.n) : ∀ (q i : Nat) (R : Nat → List Int), q + i = c.n → rwO c q i R z = kidO c.line (c.line z).st q i (R z)
 | 0, _, _, _ => rfl
 | q + 1, i, R, h => by
  unfold rwO kidO
  rw [rwO_kid hl z hz q (i + 1) _ (by omega), rwR_kid hi i (by omega) hl z hz _ _ _ (by omega)]
theorem rows_kl (hl : allFl c) (z : Nat) (hz : z < c.n) : rowsP c z = kl c z := by
 unfold rowsP kl kids
 exact rwO_kid hi hl z hz c.n 0 _ (by omega)
end
theorem exR_any {p : Nat → Bool} : ∀ (q i : Nat), exR p q i = decide (idxR p q i ≥ 0)
 | 0, _ => rfl
 | q + 1, i => by
  unfold exR idxR
  cases p i
  ·simpa using exR_any q (i + 1)
  ·simp
theorem any_exR (n : Nat) (p : Nat → Bool) : any n p = exR p n 0 := (exR_any n 0).symm
theorem fq_fo (ks : List Int) (c : Ct) (x : Ln) (h1 : 0 ≤ x.mass) (h2 : x.closed = 5 → x.fate = 4) (h3 : ks.length ≤ 65536) : fq ks c x = fo ks c x := by
 unfold fq fo
 by_cases a : x.fate = 1
 ·rw [if_pos a, if_pos a, any_exR]
  by_cases b : ks.length = 0
  ·rw [if_pos b, if_pos b]
  ·have : shN x.mass ks.length = ks.length := by unfold shN; rw [if_neg (by omega)]; rfl
   rw [if_neg b, if_neg b, this]
 ·rw [if_neg a, if_neg a]
  by_cases b : x.closed = 5
  ·have n2 : ¬ x.fate = 2 := by rw [h2 b]; decide
   simp only [if_pos b, if_neg n2]
   by_cases d : ks.length = 1
   ·have hx : any ks.length (fun j => ((c.line (ks.getD j 0).toNat).k : Int) != 1) = !decide ((c.line (ks.getD 0 0).toNat).k = 1) := by
     rw [any_exR, d]
     by_cases e : (c.line (ks.getD 0 0).toNat).k = 1
     ·have : (((c.line (ks.getD 0 0).toNat).k : Int) != 1) = false := by rw [e]; rfl
      unfold exR exR
      rw [if_neg (by rw [this]; decide), decide_eq_true e]; rfl
     ·have : (((c.line (ks.getD 0 0).toNat).k : Int) != 1) = true := bne_iff_ne.2 (fun q => e (by exact_mod_cast q))
      unfold exR
      rw [if_pos this, decide_eq_false e]; rfl
    rw [hx, d]
    generalize c.line (ks.getD 0 0).toNat = y
    by_cases e : y.k = 1
    ·simp [e]
    ·simp [e]
   ·rw [if_pos d, if_pos (.inl d)]
  ·rw [if_neg b, if_neg b]
theorem tot_sum {c : Ct} (h : ∀ i, i < c.n → (c.line i).closed = 0 ∨ ((c.line i).fate = 4 ∧ ((c.line i).closed = 5 ∨ (c.line i).closed = 6))) : ∀ (q i : Nat) (d w l x : Int), q + i = c.n → ltR c.line q i d w l x = (sumR (F57 82) c.line q i d, sumR (F57 53) c.line q i w, sumR (F57 83) c.line q i l, sumR (F57 84) c.line q i x)
 | 0, _, _, _, _, _, _ => rfl
 | q + 1, i, d, w, l, x, hq => by
  have ih := tot_sum h q (i + 1)
  have h0 := h i (by omega)
  unfold ltR
  simp only [sumR]
  by_cases a : (c.line i).closed = 6
  ·rw [if_pos (by simp [a]), ih _ _ _ _ (by omega)]
   have f4 : (c.line i).fate = 4 := by omega
   simp [F57, prd, a, f4]
  ·rw [if_neg (by simp [a])]
   by_cases b : (c.line i).fate = 0
   ·rw [if_pos (by simp [b]), ih _ _ _ _ (by omega)]
    simp [F57, prd, a, b]
   ·rw [if_neg (by simp [b])]
    by_cases e : (c.line i).fate = 3
    ·rw [if_pos (by simp [e]), ih _ _ _ _ (by omega)]
     simp [F57, prd, a, e]
    ·rw [if_neg (by simp [e])]
     by_cases f : (c.line i).fate = 4 ∧ (c.line i).closed = 0
     ·rw [if_pos (by simp [f]), ih _ _ _ _ (by omega)]
      simp [F57, prd, f]
     ·rw [if_neg (by simpa using f), ih _ _ _ _ (by omega)]
      have : ((c.line i).fate == 4 && (c.line i).closed == 0) = false := by
       rw [Bool.eq_false_iff]; simpa using f
      simp [F57, prd, a, b, e, this]
theorem check_same (c : Ct) (hs : small c) : CheckE c = checkL c := by
 unfold CheckE checkL
 by_cases h0 : sizE c = 0
 ·have nh0 : ¬ (sizE c ≠ 0) := by simp [h0]
  simp only [if_neg nh0]
  by_cases h1 : formE c = 0
  ·have nh1 : ¬ (formE c ≠ 0) := by simp [h1]
   simp only [if_neg nh1]
   have hi := inc_of h1
   have hfe := fun i (hin : i < c.n) => fe_zero (fst_zero c.n 0 h1 i (by omega) (by omega))
   have e3 : parE c = fst (te (fl c) c) c.n 0 := by
    have : fp c = fl c := funext (fp_fl hi)
    unfold parE; rw [this]
   rw [e3]
   by_cases h3 : fst (te (fl c) c) c.n 0 = 0
   ·have nh3 : ¬ (fst (te (fl c) c) c.n 0 ≠ 0) := by simp [h3]
    simp only [if_neg nh3]
    have hl : allFl c := fun i hin => (te_zero (fst_zero c.n 0 h3 i (by omega) (by omega))).2.1
    have e4 : chE (rowsP c) c = fst (fun i => fo (kl c i) c (c.line i)) c.n 0 := by
     unfold chE
     refine fst_congr _ _ (fun j _ hj => ?_)
     have hj' : j < c.n := by omega
     rw [rows_kl hi hl j hj']
     have := hfe j hj'
     have h8 := this.2.2.2.2.2.2.2
     refine fq_fo _ _ _ this.2.2.2.1 (by omega) ?_
     have := kids_len c.line (c.line j).st c.n hs
     unfold kl; omega
    have e5 : merE c = fst (me (al c) c) c.n 0 := by
     unfold merE
     refine fst_congr _ _ (fun j _ hj => ?_)
     have hj' : j < c.n := by omega
     unfold me
     have hmg : ∀ (m k : Nat) (a s : Int), m + k = (c.line j).k → mg (fun k => c.line (ap c ((c.line j).from_ k))) m k a s = mg (fun k => c.line (al c ((c.line j).from_ k))) m k a s := by
      intro m
      induction m with
      | zero => intro k a s _; rfl
      | succ m ih =>
       intro k a s hk
       obtain ⟨z, _, _, q1, q2⟩ := fl_at hi (hl j hj' k (by omega))
       unfold mg
       simp only [q1, q2]
       exact ih (k + 1) _ _ (by omega)
     rw [hmg _ _ _ _ (by omega)]
    have e6 : totE c = totL c (sumR F58 c.line c.n 0 0) := by
     unfold totE totL
     rw [tot_sum (fun i hin => (hfe i hin).2.2.2.2.2.2.2) c.n 0 0 0 0 0 (by omega)]
    rw [e4, e5, e6]
   ·rw [if_pos h3, if_pos h3]
  ·rw [if_pos h1, if_pos h1]
 ·rw [if_pos h0, if_pos h0]
end Go.Proofs.Tryz

/- The contracts of known, small, Check, check. -/
namespace Go.Proofs.Tryz
noncomputable section
open Go.Ps
def smallB (c : Ct) : Bool := Classical.choose (small_ex c)
theorem smallB_t (c : Ct) : (smallB c = true → smallT c) ∧ PureFn prog gl 6 [ctT c] (.bool (smallB c)) := Classical.choose_spec (small_ex c)
theorem smallB_ok (c : Ct) : (smallB c = true → small c) ∧ PureFn prog gl 6 [ctT c] (.bool (smallB c)) := ⟨fun h => small_of ((smallB_t c).1 h), (smallB_t c).2⟩
def s7 : List T → Option (T × List Bool)
 | [t] => some (.bool (smallB (ctv t)), [isV t (ctT (ctv t))])
 | _ => none
def s8 : List T → Option (T × List Bool)
 | [t] => some (.int .i64 (CheckE (ctv t)), [isV t (ctT (ctv t)), pB (small (ctv t))])
 | _ => none
def s11 : List T → Option (T × List Bool)
 | [t] => some (.int .i64 (checkL (ctv t)), [isV t (ctT (ctv t)), pB (small (ctv t))])
 | _ => none
theorem s7_ok (ts : List T) (r : T) (cs : List Bool) (h : s7 ts = some (r, cs)) (k : allT cs = true) : PureFn prog gl 6 ts r := by
 unfold s7 at h; split at h
 ·rename_i t
  cases h
  simp only [allT, Bool.and_true, isV_iff] at k
  have := (smallB_ok (ctv t)).2
  rw [← k] at this
  exact this
 ·cases h
theorem s8_ok (ts : List T) (r : T) (cs : List Bool) (h : s8 ts = some (r, cs)) (k : allT cs = true) : PureFn prog gl 12 ts r := by
 unfold s8 at h; split at h
 ·rename_i t
  cases h
  simp only [allT, Bool.and_true, Bool.and_eq_true, isV_iff, pB_iff] at k
  rw [k.1]; exact Check_ok _ k.2
 ·cases h
theorem s11_ok (ts : List T) (r : T) (cs : List Bool) (h : s11 ts = some (r, cs)) (k : allT cs = true) : PureFn prog gl 8 ts r := by
 unfold s11 at h; split at h
 ·rename_i t
  cases h
  simp only [allT, Bool.and_true, Bool.and_eq_true, isV_iff, pB_iff] at k
  rw [k.1]; exact check_ok _ k.2
 ·cases h
def D20 : Ed := ⟨gl, pdAdd 5 s6 (pdAdd 6 s7 (pdAdd 12 s8 (pdAdd 8 s11 D18.pd)))⟩
theorem cx20 : Cx prog D20 F0 := ⟨follows, pdAdd_ok (pdAdd_ok (pdAdd_ok (pdAdd_ok cx18.hE s11_ok) s8_ok) s7_ok) (fun ts r cs h _ => s6_ok ts r cs h), F0ok⟩
end
end Go.Proofs.Tryz

/- The contracts that Encode calls. -/
namespace Go.Proofs.Tryz
noncomputable section
open Go.Ps
def s19z : List T → Option (T × List Bool)
 | [t] => some (.tup [.str (txt (spv t)), .int .i64 0], [isV t (spT (spv t)), pb (chk (spv t) = 0)])
 | _ => none
theorem s19z_ok (ts : List T) (r : T) (cs : List Bool) (h : s19z ts = some (r, cs)) (hc : allT cs = true) : PureFn prog gl 19 ts r := by
 unfold s19z at h
 split at h
 ·rename_i t
  cases h
  simp only [allT, Bool.and_true, Bool.and_eq_true, isV_iff, pb_iff] at hc
  obtain ⟨h1, h2⟩ := hc
  have := text_ok (spv t) (by have := (chk_zero h2).2.2.2.1; omega)
  rw [if_pos h2, ← h1] at this
  exact this
 ·cases h
def s20z : List T → Option (T × List Bool)
 | [.str s] => some (.str (hy s), [])
 | _ => none
theorem s20z_ok (ts : List T) (r : T) (cs : List Bool) (h : s20z ts = some (r, cs)) (_ : allT cs = true) : PureFn prog gl 20 ts r := by
 unfold s20z at h
 split at h
 ·cases h; exact hyphen_ok _
 ·cases h
def Lw (H : Hp) (l : Nat) (ts : List T) (s : List UInt8) (H' : Hp) : Prop := EeFn prog gl 15 ts H (.tup []) H' ∧ ∀ B, Bd H l B → Bd H' l (B ++ s)
def lw (H : Hp) (l : Nat) (ts : List T) (s : List UInt8) : Hp := @dite _ (∃ H', Lw H l ts s H') (Classical.propDecidable _) (fun h => Classical.choose h) (fun _ => H)
theorem lw_ok {H : Hp} {l : Nat} {ts : List T} {s : List UInt8} (h : ∃ H', Lw H l ts s H') : Lw H l ts s (lw H l ts s) := by
 unfold lw
 rw [dif_pos h]
 exact Classical.choose_spec h
def e15z : List T → Hp → Option (T × Hp × List Bool)
 | [.str w, .sl true [.int .i64 a, .int .i64 b, .int .i64 c, .int .i64 d, .int .i64 e, .int .i64 f], .nils, .ptr l 0], H =>
  some (.tup [], lw H l [.str w, .sl true [.int .i64 a, .int .i64 b, .int .i64 c, .int .i64 d, .int .i64 e, .int .i64 f], .nils, .ptr l 0] (joinL [32] [w, itoaK a, itoaK b, itoaK c, itoaK d, itoaK e, itoaK f] ++ [10]),
   [pb (∃ H', Lw H l [.str w, .sl true [.int .i64 a, .int .i64 b, .int .i64 c, .int .i64 d, .int .i64 e, .int .i64 f], .nils, .ptr l 0] (joinL [32] [w, itoaK a, itoaK b, itoaK c, itoaK d, itoaK e, itoaK f] ++ [10]) H')])
 | [.str w, .sl true [.int .i64 a, .int .i64 b, .int .i64 c], .sl true [.str p, .str q, .str r], .ptr l 0], H =>
  some (.tup [], lw H l [.str w, .sl true [.int .i64 a, .int .i64 b, .int .i64 c], .sl true [.str p, .str q, .str r], .ptr l 0] (joinL [32] [w, p, itoaK a, itoaK b, itoaK c, q, r] ++ [10]),
   [pb (∃ H', Lw H l [.str w, .sl true [.int .i64 a, .int .i64 b, .int .i64 c], .sl true [.str p, .str q, .str r], .ptr l 0] (joinL [32] [w, p, itoaK a, itoaK b, itoaK c, q, r] ++ [10]) H')])
 | _, _ => none
theorem e15z_ok (ts : List T) (H : Hp) (r : T) (H' : Hp) (cs : List Bool) (h : e15z ts H = some (r, H', cs)) (hc : allT cs = true) : EeFn prog gl 15 ts H r H' := by
 unfold e15z at h
 split at h
 ·cases h
  simp only [allT, Bool.and_true, pb_iff] at hc
  exact (lw_ok hc).1
 ·cases h
  simp only [allT, Bool.and_true, pb_iff] at hc
  exact (lw_ok hc).1
 ·cases h
def bdB (H : Hp) (l : Nat) : List UInt8 := match strX 47 5 [.ptr l 0] H with
 | some (.str s, _) => s
 | _ => []
def bdH (H : Hp) (l : Nat) : Hp := match strX 47 5 [.ptr l 0] H with
 | some (_, H') => H'
 | none => H
def e21z : List T → Hp → Option (T × Hp × List Bool)
 | [.ptr l 0], H => some (.str (bdB H l), bdH H l, [pb (strX 47 5 [.ptr l 0] H = some (.str (bdB H l), bdH H l))])
 | _, _ => none
theorem e21z_ok (ts : List T) (H : Hp) (r : T) (H' : Hp) (cs : List Bool) (h : e21z ts H = some (r, H', cs)) (hc : allT cs = true) : EeFn prog gl 21 ts H r H' := by
 unfold e21z at h
 split at h
 ·cases h
  simp only [allT, Bool.and_true, pb_iff] at hc
  exact str_ee (ρ := lays156_ren) { lays156 with } Builder_Extra_156 (by kernel_rfl) hc
 ·cases h
def D31 : Ed := ⟨gl, pdAdd 19 s19z (pdAdd 20 s20z (pdAdd 16 s16z (pdAddH 18 s18z D20.pd)))⟩
def F7z : Fc := ⟨fun d => d == 5, edAdd 15 e15z (edAdd 21 e21z (fun _ _ _ => none))⟩
theorem cx31 : Cx prog D31 F7z := ⟨follows, pdAdd_ok (pdAdd_ok (pdAdd_ok (pdAddH_ok cx20.hE s18z_ok) s16z_ok) s20z_ok) s19z_ok, edAdd_ok (own := fun _ => false) (edAdd_ok (own := fun _ => false) eeNone_ok e21z_ok _) e15z_ok _⟩
end
end Go.Proofs.Tryz

/- Encode as a machine, by program (gen2). -/
namespace Go.Proofs.Tryz
noncomputable section
open Go.Ps
set_option maxRecDepth 100000
/-! ### 7 -/
inductive S7z where
 | l0 (x39 x40 : Int) (H : Hp)
 | l1n (x39 x40 x52 x53 : Int) (H : Hp)
 | l1o (L N : Nat) (x39 x40 x52 x53 : Int) (H : Hp)
def g7z_s_1 (c : Ct) : List Bool := [CheckE c != 0, isV (ctT c) (ctT c), pB (small c)]
def g7z_s_2 (c : Ct) : List Bool := [pb (Exists (Lw { next := 0 + 1, objs := [(0, { elem := 47, sz := 0, cells := [T.nilp, T.nils] })] } 0 [T.str [98, 97, 108, 97, 110, 99, 101], T.sl true [T.int .i64 c.entries, T.int .i64 c.accepted, T.int .i64 c.delivered, T.int .i64 c.waiting, T.int .i64 c.letters, T.int .i64 c.discarded], T.nils, T.ptr 0 0] (joinL [32] ([98, 97, 108, 97, 110, 99, 101] :: [itoaK c.entries, itoaK c.accepted, itoaK c.delivered, itoaK c.waiting, itoaK c.letters, itoaK c.discarded]) ++ [10]))), !CheckE c != 0, isV (ctT c) (ctT c), pB (small c)]
def g7z_0_1 (c : Ct) (x39 x40 : Int) (H : Hp) : List Bool := [isV (spT (c.line x40.toNat).st) (spT (c.line x40.toNat).st), pb (chk (c.line x40.toNat).st = 0), true, true, decide (0 ≤ x40), decide (x40 < (↑c.n : Int)), true, decide (x40 < x39)]
def g7z_0_2 (c : Ct) (x39 x40 : Int) (H : Hp) : List Bool := [pb (strX 47 5 [T.ptr 0 0] H = some (T.str (bdB H 0), bdH H 0)), !decide (x40 < x39)]
def g7z_1n_1 (c : Ct) (x39 x40 x52 x53 : Int) (H : Hp) : List Bool := [true, true, true, isV (spT ((c.line x40.toNat).from_ x53.toNat)) (spT ((c.line x40.toNat).from_ x53.toNat)), pb (chk ((c.line x40.toNat).from_ x53.toNat) = 0), true, true, decide (0 ≤ x53), decide (x53 < (↑(c.line x40.toNat).k : Int)), true, decide (x53 < x52)]
def g7z_1n_2 (c : Ct) (x39 x40 x52 x53 : Int) (H : Hp) : List Bool := [pb (Exists (Lw H 0 [T.str [108, 105, 110, 101], T.sl true [T.int .i64 (c.line x40.toNat).mass, T.int .i64 (c.line x40.toNat).fate, T.int .i64 (c.line x40.toNat).closed], T.sl true [T.str (txt (c.line x40.toNat).st), T.str (hy (c.line x40.toNat).node), T.str [45]], T.ptr 0 0] (joinL [32] ([108, 105, 110, 101] :: [txt (c.line x40.toNat).st, itoaK (c.line x40.toNat).mass, itoaK (c.line x40.toNat).fate, itoaK (c.line x40.toNat).closed, hy (c.line x40.toNat).node, [45]]) ++ [10]))), !decide (x53 < x52)]
def g7z_1o_1 (c : Ct) (L N : Nat) (x39 x40 x52 x53 : Int) (H : Hp) : List Bool := [true, true, obApp H L 9 1 N, roomT (N + 1) 16, isV (spT ((c.line x40.toNat).from_ x53.toNat)) (spT ((c.line x40.toNat).from_ x53.toNat)), pb (chk ((c.line x40.toNat).from_ x53.toNat) = 0), true, true, decide (0 ≤ x53), decide (x53 < (↑(c.line x40.toNat).k : Int)), true, decide (x53 < x52)]
def g7z_1o_2 (c : Ct) (L N : Nat) (x39 x40 x52 x53 : Int) (H : Hp) : List Bool := [pb (Exists (Lw H 0 [T.str [108, 105, 110, 101], T.sl true [T.int .i64 (c.line x40.toNat).mass, T.int .i64 (c.line x40.toNat).fate, T.int .i64 (c.line x40.toNat).closed], T.sl true [T.str (txt (c.line x40.toNat).st), T.str (hy (c.line x40.toNat).node), T.str (hy (joinL [44] (strv (obv H L).cells)))], T.ptr 0 0] (joinL [32] ([108, 105, 110, 101] :: [txt (c.line x40.toNat).st, itoaK (c.line x40.toNat).mass, itoaK (c.line x40.toNat).fate, itoaK (c.line x40.toNat).closed, hy (c.line x40.toNat).node, hy (joinL [44] (strv (obv H L).cells))]) ++ [10]))), pb (rowS H L N), decide ((joinL [44] (strv (obv H L).cells)).length ≤ 140737488355328), decide (N ≤ 140737488355328), !decide (x53 < x52)]
def V7z_0 (c : Ct) (x39 x40 : Int) (H : Hp) : S7z ⊕ T :=
 (if decide (x40 < x39) then (.inl (.l1n x39 x40 (↑(c.line x40.toNat).k : Int) 0 H)) else (.inr (T.tup [T.str (bdB H 0), T.int .i64 0])))
def K7z_0 (c : Ct) (x39 x40 : Int) (H : Hp) : Bool :=
 (if decide (x40 < x39) then (allT (g7z_0_1 c x39 x40 H)) else (allT (g7z_0_2 c x39 x40 H)))
def step7z_0 (c : Ct) (x39 x40 : Int) (H : Hp) : Option (S7z ⊕ T) := if K7z_0 c x39 x40 H then some (V7z_0 c x39 x40 H) else none
theorem T7z_0 (c : Ct) (x39 x40 : Int) (H : Hp) (hk : K7z_0 c x39 x40 H = true) : step7z_0 c x39 x40 H = some (V7z_0 c x39 x40 H) := if_pos hk
def V7z_1n (c : Ct) (x39 x40 x52 x53 : Int) (H : Hp) : S7z ⊕ T :=
 (if decide (x53 < x52) then (.inl (.l1o H.next 1 x39 x40 x52 (IntKind.i64.wrap (x53 + 1)) ({ next := H.next + 1, objs := (H.next, { elem := 9, sz := 1, cells := [T.str (txt ((c.line x40.toNat).from_ x53.toNat))] }) :: H.objs }))) else (.inl (.l0 x39 (IntKind.i64.wrap (x40 + 1)) (lw H 0 [T.str [108, 105, 110, 101], T.sl true [T.int .i64 (c.line x40.toNat).mass, T.int .i64 (c.line x40.toNat).fate, T.int .i64 (c.line x40.toNat).closed], T.sl true [T.str (txt (c.line x40.toNat).st), T.str (hy (c.line x40.toNat).node), T.str [45]], T.ptr 0 0] (joinL [32] ([108, 105, 110, 101] :: [txt (c.line x40.toNat).st, itoaK (c.line x40.toNat).mass, itoaK (c.line x40.toNat).fate, itoaK (c.line x40.toNat).closed, hy (c.line x40.toNat).node, [45]]) ++ [10])))))
def K7z_1n (c : Ct) (x39 x40 x52 x53 : Int) (H : Hp) : Bool :=
 (if decide (x53 < x52) then (allT (g7z_1n_1 c x39 x40 x52 x53 H)) else (allT (g7z_1n_2 c x39 x40 x52 x53 H)))
def step7z_1n (c : Ct) (x39 x40 x52 x53 : Int) (H : Hp) : Option (S7z ⊕ T) := if K7z_1n c x39 x40 x52 x53 H then some (V7z_1n c x39 x40 x52 x53 H) else none
theorem T7z_1n (c : Ct) (x39 x40 x52 x53 : Int) (H : Hp) (hk : K7z_1n c x39 x40 x52 x53 H = true) : step7z_1n c x39 x40 x52 x53 H = some (V7z_1n c x39 x40 x52 x53 H) := if_pos hk
def V7z_1o (c : Ct) (L N : Nat) (x39 x40 x52 x53 : Int) (H : Hp) : S7z ⊕ T :=
 (if decide (x53 < x52) then (.inl (.l1o H.next (N + 1) x39 x40 x52 (IntKind.i64.wrap (x53 + 1)) ({ next := H.next + 1, objs := (H.next, { elem := 9, sz := 1, cells := (obv H L).cells ++ [T.str (txt ((c.line x40.toNat).from_ x53.toNat))] }) :: dropOb H.objs L }))) else (.inl (.l0 x39 (IntKind.i64.wrap (x40 + 1)) (lw H 0 [T.str [108, 105, 110, 101], T.sl true [T.int .i64 (c.line x40.toNat).mass, T.int .i64 (c.line x40.toNat).fate, T.int .i64 (c.line x40.toNat).closed], T.sl true [T.str (txt (c.line x40.toNat).st), T.str (hy (c.line x40.toNat).node), T.str (hy (joinL [44] (strv (obv H L).cells)))], T.ptr 0 0] (joinL [32] ([108, 105, 110, 101] :: [txt (c.line x40.toNat).st, itoaK (c.line x40.toNat).mass, itoaK (c.line x40.toNat).fate, itoaK (c.line x40.toNat).closed, hy (c.line x40.toNat).node, hy (joinL [44] (strv (obv H L).cells))]) ++ [10])))))
def K7z_1o (c : Ct) (L N : Nat) (x39 x40 x52 x53 : Int) (H : Hp) : Bool :=
 (if decide (x53 < x52) then (allT (g7z_1o_1 c L N x39 x40 x52 x53 H)) else (allT (g7z_1o_2 c L N x39 x40 x52 x53 H)))
def step7z_1o (c : Ct) (L N : Nat) (x39 x40 x52 x53 : Int) (H : Hp) : Option (S7z ⊕ T) := if K7z_1o c L N x39 x40 x52 x53 H then some (V7z_1o c L N x39 x40 x52 x53 H) else none
theorem T7z_1o (c : Ct) (L N : Nat) (x39 x40 x52 x53 : Int) (H : Hp) (hk : K7z_1o c L N x39 x40 x52 x53 H = true) : step7z_1o c L N x39 x40 x52 x53 H = some (V7z_1o c L N x39 x40 x52 x53 H) := if_pos hk
def V7z_s (c : Ct) : S7z ⊕ T :=
 (if CheckE c != 0 then (.inr (T.tup [T.str [], T.int .i64 (CheckE c)])) else (.inl (.l0 (↑c.n : Int) 0 (lw { next := 0 + 1, objs := [(0, { elem := 47, sz := 0, cells := [T.nilp, T.nils] })] } 0 [T.str [98, 97, 108, 97, 110, 99, 101], T.sl true [T.int .i64 c.entries, T.int .i64 c.accepted, T.int .i64 c.delivered, T.int .i64 c.waiting, T.int .i64 c.letters, T.int .i64 c.discarded], T.nils, T.ptr 0 0] (joinL [32] ([98, 97, 108, 97, 110, 99, 101] :: [itoaK c.entries, itoaK c.accepted, itoaK c.delivered, itoaK c.waiting, itoaK c.letters, itoaK c.discarded]) ++ [10])))))
def K7z_s (c : Ct) : Bool :=
 (if CheckE c != 0 then (allT (g7z_s_1 c)) else (allT (g7z_s_2 c)))
def step7z (c : Ct) : S7z → Option (S7z ⊕ T)
 | .l0 x39 x40 H => step7z_0 c x39 x40 H
 | .l1n x39 x40 x52 x53 H => step7z_1n c x39 x40 x52 x53 H
 | .l1o L N x39 x40 x52 x53 H => step7z_1o c L N x39 x40 x52 x53 H
def M7z (c : Ct) : Mch S7z where
 lp := fun σ => match σ with
  | .l0 .. => 0
  | .l1n .. => 1
  | .l1o .. => 1
 keep := fun ι => match ι with
  | 0 => [5, 6, 38, 39, 40]
  | 1 => [5, 6, 8, 9, 11, 38, 39, 40, 51, 52, 53]
  | _ => []
 par := fun ι => match ι with
  | 0 => []
  | 1 => [0]
  | _ => []
 vs := fun σ => match σ with
  | .l0 x39 x40 H => [T.ptr 0 0, T.fn (Fn.func 15) [] [T.ptr 0 0], T.slf false c.n fun i => lnT (c.line i), T.int .i64 x39, T.int .i64 x40]
  | .l1n x39 x40 x52 x53 H => [T.ptr 0 0, T.fn (Fn.func 15) [] [T.ptr 0 0], (lnT (c.line x40.toNat)).ref 0, T.str (txt (c.line x40.toNat).st), T.nils, T.slf false c.n fun i => lnT (c.line i), T.int .i64 x39, T.int .i64 x40, T.slf false (c.line x40.toNat).k fun i => spT ((c.line x40.toNat).from_ i), T.int .i64 x52, T.int .i64 x53]
  | .l1o L N x39 x40 x52 x53 H => [T.ptr 0 0, T.fn (Fn.func 15) [] [T.ptr 0 0], (lnT (c.line x40.toNat)).ref 0, T.str (txt (c.line x40.toNat).st), T.osl L 1 0 N, T.slf false c.n fun i => lnT (c.line i), T.int .i64 x39, T.int .i64 x40, T.slf false (c.line x40.toNat).k fun i => spT ((c.line x40.toNat).from_ i), T.int .i64 x52, T.int .i64 x53]
 hp := fun σ => match σ with
  | .l0 _ _ H => H
  | .l1n _ _ _ _ H => H
  | .l1o _ _ _ _ _ _ H => H
 len := 86
 step := step7z c
def r7z_0 (c : Ct) (x39 x40 : Int) (H : Hp) (fr : List T) (ds : List Bool) : RD Out := (M7z c).rk prog D31 F7z f7 (.l0 x39 x40 H) fr ds
theorem w7z_0_1 (c : Ct) (x39 x40 : Int) (H : Hp) (fr : List T) : (M7z c).wl prog f7 (r7z_0 c x39 x40 H fr [true]) 0 (g7z_0_1 c x39 x40 H) (.l1n x39 x40 (↑(c.line x40.toNat).k : Int) 0 H) := by unfold Mch.wl; kernel_rfl
theorem w7z_0_2 (c : Ct) (x39 x40 : Int) (H : Hp) (fr : List T) : outK prog f7 20 [] (r7z_0 c x39 x40 H fr [false]) = wdn (T.tup [T.str (bdB H 0), T.int .i64 0]) (g7z_0_2 c x39 x40 H) := by kernel_rfl
def r7z_1n (c : Ct) (x39 x40 x52 x53 : Int) (H : Hp) (fr : List T) (ds : List Bool) : RD Out := (M7z c).rk prog D31 F7z f7 (.l1n x39 x40 x52 x53 H) fr ds
theorem w7z_1n_1 (c : Ct) (x39 x40 x52 x53 : Int) (H : Hp) (fr : List T) : (M7z c).wa prog f7 (r7z_1n c x39 x40 x52 x53 H fr [true]) 0 (g7z_1n_1 c x39 x40 x52 x53 H) (.l1o H.next 1 x39 x40 x52 (IntKind.i64.wrap (x53 + 1)) ({ next := H.next + 1, objs := (H.next, { elem := 9, sz := 1, cells := [T.str (txt ((c.line x40.toNat).from_ x53.toNat))] }) :: H.objs })) := by unfold Mch.wa; kernel_rfl
theorem w7z_1n_2 (c : Ct) (x39 x40 x52 x53 : Int) (H : Hp) (fr : List T) : (M7z c).wa prog f7 (r7z_1n c x39 x40 x52 x53 H fr [false]) 1 (g7z_1n_2 c x39 x40 x52 x53 H) (.l0 x39 (IntKind.i64.wrap (x40 + 1)) (lw H 0 [T.str [108, 105, 110, 101], T.sl true [T.int .i64 (c.line x40.toNat).mass, T.int .i64 (c.line x40.toNat).fate, T.int .i64 (c.line x40.toNat).closed], T.sl true [T.str (txt (c.line x40.toNat).st), T.str (hy (c.line x40.toNat).node), T.str [45]], T.ptr 0 0] (joinL [32] ([108, 105, 110, 101] :: [txt (c.line x40.toNat).st, itoaK (c.line x40.toNat).mass, itoaK (c.line x40.toNat).fate, itoaK (c.line x40.toNat).closed, hy (c.line x40.toNat).node, [45]]) ++ [10]))) := by unfold Mch.wa; kernel_rfl
def r7z_1o (c : Ct) (L N : Nat) (x39 x40 x52 x53 : Int) (H : Hp) (fr : List T) (ds : List Bool) : RD Out := (M7z c).rk prog D31 F7z f7 (.l1o L N x39 x40 x52 x53 H) fr ds
theorem w7z_1o_1 (c : Ct) (L N : Nat) (x39 x40 x52 x53 : Int) (H : Hp) (fr : List T) : (M7z c).wa prog f7 (r7z_1o c L N x39 x40 x52 x53 H fr [true]) 0 (g7z_1o_1 c L N x39 x40 x52 x53 H) (.l1o H.next (N + 1) x39 x40 x52 (IntKind.i64.wrap (x53 + 1)) ({ next := H.next + 1, objs := (H.next, { elem := 9, sz := 1, cells := (obv H L).cells ++ [T.str (txt ((c.line x40.toNat).from_ x53.toNat))] }) :: dropOb H.objs L })) := by unfold Mch.wa; kernel_rfl
theorem w7z_1o_2 (c : Ct) (L N : Nat) (x39 x40 x52 x53 : Int) (H : Hp) (fr : List T) : (M7z c).wa prog f7 (r7z_1o c L N x39 x40 x52 x53 H fr [false]) 1 (g7z_1o_2 c L N x39 x40 x52 x53 H) (.l0 x39 (IntKind.i64.wrap (x40 + 1)) (lw H 0 [T.str [108, 105, 110, 101], T.sl true [T.int .i64 (c.line x40.toNat).mass, T.int .i64 (c.line x40.toNat).fate, T.int .i64 (c.line x40.toNat).closed], T.sl true [T.str (txt (c.line x40.toNat).st), T.str (hy (c.line x40.toNat).node), T.str (hy (joinL [44] (strv (obv H L).cells)))], T.ptr 0 0] (joinL [32] ([108, 105, 110, 101] :: [txt (c.line x40.toNat).st, itoaK (c.line x40.toNat).mass, itoaK (c.line x40.toNat).fate, itoaK (c.line x40.toNat).closed, hy (c.line x40.toNat).node, hy (joinL [44] (strv (obv H L).cells))]) ++ [10]))) := by unfold Mch.wa; kernel_rfl
def r7z_s (c : Ct) (ds : List Bool) : RD Out := runK prog D31 F7z 2000 (.code (bodyOf f7)) [] 0 ([ctT c] ++ List.replicate 85 undefT) ⟨0, []⟩ ds []
theorem w7z_s_1 (c : Ct) : outK prog f7 20 [] (r7z_s c [true]) = wdn (T.tup [T.str [], T.int .i64 (CheckE c)]) (g7z_s_1 c) := by kernel_rfl
theorem w7z_s_2 (c : Ct) : (M7z c).wl prog f7 (r7z_s c [false]) 0 (g7z_s_2 c) (.l0 (↑c.n : Int) 0 (lw { next := 0 + 1, objs := [(0, { elem := 47, sz := 0, cells := [T.nilp, T.nils] })] } 0 [T.str [98, 97, 108, 97, 110, 99, 101], T.sl true [T.int .i64 c.entries, T.int .i64 c.accepted, T.int .i64 c.delivered, T.int .i64 c.waiting, T.int .i64 c.letters, T.int .i64 c.discarded], T.nils, T.ptr 0 0] (joinL [32] ([98, 97, 108, 97, 110, 99, 101] :: [itoaK c.entries, itoaK c.accepted, itoaK c.delivered, itoaK c.waiting, itoaK c.letters, itoaK c.discarded]) ++ [10]))) := by unfold Mch.wl; kernel_rfl
theorem ways7z (c : Ct) : (M7z c).Ways prog D31 F7z f7 20 := by
 intro σ o fr h
 cases σ with
 | l0 x39 x40 H =>
  obtain ⟨hk, ho⟩ := kv_some (K := K7z_0 c x39 x40 H) (V := V7z_0 c x39 x40 H) h
  exact (wk_if (kL (w7z_0_1 c x39 x40 H fr) rfl) (kD (w7z_0_2 c x39 x40 H fr))) hk o ho
 | l1n x39 x40 x52 x53 H =>
  obtain ⟨hk, ho⟩ := kv_some (K := K7z_1n c x39 x40 x52 x53 H) (V := V7z_1n c x39 x40 x52 x53 H) h
  exact (wk_if (kA (w7z_1n_1 c x39 x40 x52 x53 H fr) rfl) (kA (w7z_1n_2 c x39 x40 x52 x53 H fr) rfl)) hk o ho
 | l1o L N x39 x40 x52 x53 H =>
  obtain ⟨hk, ho⟩ := kv_some (K := K7z_1o c L N x39 x40 x52 x53 H) (V := V7z_1o c L N x39 x40 x52 x53 H) h
  exact (wk_if (kA (w7z_1o_1 c L N x39 x40 x52 x53 H fr) rfl) (kA (w7z_1o_2 c L N x39 x40 x52 x53 H fr) rfl)) hk o ho
theorem oks7z (c : Ct) : ∀ σ, Ps.codeOk (loopAt f7 ((M7z c).lp σ)).1 = true ∧ ksOk (.lp :: (loopAt f7 ((M7z c).lp σ)).2) = true := oks_of 2 (by kernel_rfl) (by intro σ; cases σ <;> exact Nat.le_of_ble_eq_true rfl)
theorem c7z (c : Ct) (n : Nat) {r : T} (hk : K7z_s c = true) (hr : (M7z c).fin n (V7z_s c) = some r) : PureFn prog gl 7 [ctT c] r :=
 pure_mach (M := (M7z c)) (fn := f7) (k := 20) (d := 8) (c := bodyOf f7) cx31 glFrz (by kernel_rfl) func7 (by kernel_rfl) rfl (by kernel_rfl) (by kernel_rfl) (L := 85) (by kernel_rfl) (ways7z c) (oks7z c) ((wk_if (kD (w7z_s_1 c)) (kL (w7z_s_2 c) rfl)) hk _ rfl) hr
end
end Go.Proofs.Tryz

/- Encode: the contract. -/
namespace Go.Proofs.Tryz
noncomputable section
open Go.Ps
set_option maxRecDepth 100000
/-! ### equal stamps -/
theorem cmpI_zero {x y : Int} (h : cmpI x y = 0) : x = y := by
 unfold cmpI at h
 split at h
 ·cases h
 ·split at h
  ·cases h
  ·omega
theorem cmpR_zero {n1 n2 : Nat} {f g : Nat → Int} : ∀ (k i : Nat), k + i = n1 → cmpR n1 n2 f g k i = 0 → n2 ≤ n1 ∧ ∀ j, i ≤ j → j < n1 → j < n2 ∧ f j = g j
 | 0, i, hk, h => by
  unfold cmpR at h
  split at h
  ·cases h
  ·exact ⟨by omega, fun j h1 h2 => by omega⟩
 | k + 1, i, hk, h => by
  unfold cmpR at h
  split at h
  ·cases h
  ·split at h
   ·rename_i h1; exact absurd h h1
   ·rename_i h0 h1
    obtain ⟨a, b⟩ := cmpR_zero k (i + 1) (by omega) h
    refine ⟨a, fun j h2 h3 => ?_⟩
    by_cases e : j = i
    ·subst e
     exact ⟨by omega, cmpI_zero (by simpa using h1)⟩
    ·exact b j (by omega) h3
theorem cmpS_zero {a b : Sp} (h : cmpS a b = 0) : a.entry = b.entry ∧ a.n = b.n ∧ ∀ j, j < a.n → a.at_ j = b.at_ j := by
 unfold cmpS at h
 split at h
 ·rename_i h1; exact absurd h h1
 ·rename_i h1
  obtain ⟨h2, h3⟩ := cmpR_zero a.n 0 (by omega) h
  refine ⟨cmpI_zero (by simpa using h1), ?_, fun j hj => (h3 j (by omega) hj).2⟩
  by_cases e : a.n ≤ b.n
  ·omega
  ·have := (h3 b.n (by omega) (by omega)).1; omega
theorem idxR_congr {p q : Nat → Bool} : ∀ (k i : Nat), (∀ j, i ≤ j → j < i + k → p j = q j) → idxR p k i = idxR q k i
 | 0, _, _ => rfl
 | k + 1, i, h => by
  unfold idxR
  rw [h i (by omega) (by omega), idxR_congr k (i + 1) (fun j a b => h j (by omega) (by omega))]
theorem chk_congr {a b : Sp} (h1 : a.entry = b.entry) (h2 : a.n = b.n) (h3 : ∀ j, j < a.n → a.at_ j = b.at_ j) : chk a = chk b := by
 have e1 : any a.n (fun i => bad (a.at_ i)) = any b.n (fun i => bad (b.at_ i)) := by
  unfold any idx
  rw [← h2, idxR_congr a.n 0 (fun j _ hj => by rw [h3 j (by omega)])]
 unfold chk
 rw [e1, h1, h2]
 by_cases n0 : b.n = 0
 ·rw [n0]; rfl
 ·have e2 := h3 0 (by omega)
  by_cases n1 : b.n = 1
  ·rw [e2, n1]; rfl
  ·rw [e2, h3 1 (by omega)]
/-! ### the text -/
def frS (x : Ln) : List (List UInt8) := (List.range x.k).map fun k => txt (x.from_ k)
def lnS (x : Ln) : List UInt8 := joinL [32] ([108, 105, 110, 101] :: [txt x.st, itoaK x.mass, itoaK x.fate, itoaK x.closed, Tryz.hy x.node, Tryz.hy (joinL [44] (frS x))]) ++ [10]
def hdS (c : Ct) : List UInt8 := joinL [32] ([98, 97, 108, 97, 110, 99, 101] :: [itoaK c.entries, itoaK c.accepted, itoaK c.delivered, itoaK c.waiting, itoaK c.letters, itoaK c.discarded]) ++ [10]
def encR (c : Ct) : Nat → List UInt8
 | 0 => hdS c
 | i + 1 => encR c i ++ lnS (c.line i)
def enc (c : Ct) : List UInt8 := encR c c.n
theorem txt_len {s : Sp} (h : s.n ≤ 512) : (txt s).length ≤ 11286 := by
 have h1 := itoaK_len s.entry
 have h2 := joinL_len [46] 21 (pth s) (fun x hx => by obtain ⟨j, _, rfl⟩ := List.mem_map.1 hx; exact itoaK_len _)
 have h3 : (pth s).length = s.n := by simp [pth]
 rw [h3] at h2
 have h4 : s.n * (21 + [46].length) ≤ 512 * 22 := Nat.mul_le_mul h (by simp)
 unfold txt
 simp only [List.length_append, List.length_cons, List.length_nil]
 omega
theorem hy_len (s : List UInt8) : (Tryz.hy s).length ≤ s.length + 1 := by
 unfold Tryz.hy
 split <;> simp
theorem fr_len {xs : List (List UInt8)} (h1 : xs.length ≤ 300) (h2 : ∀ x ∈ xs, x.length ≤ 11286) : (joinL [44] xs).length ≤ 3386100 := by
 have a := joinL_len [44] 11286 xs h2
 have b : xs.length * (11286 + [44].length) ≤ 300 * 11287 := Nat.mul_le_mul h1 (by simp)
 omega
theorem hd_len (c : Ct) : (hdS c).length ≤ 1000 := by
 unfold hdS
 have := itoaK_len
 simp only [joinL, List.length_append, List.length_cons, List.length_nil]
 have h1 := this c.entries; have h2 := this c.accepted; have h3 := this c.delivered; have h4 := this c.waiting; have h5 := this c.letters; have h6 := this c.discarded
 omega
theorem ln_len (x : Ln) (h1 : x.st.n ≤ 512) (h2 : x.node.length ≤ 1000000) (h3 : x.k ≤ 300) (h4 : ∀ k, k < x.k → (x.from_ k).n ≤ 512) : (lnS x).length ≤ 5000000 := by
 unfold lnS
 have a := itoaK_len
 have b := txt_len h1
 have d := hy_len x.node
 have e := fr_len (xs := frS x) (by simp [frS]; omega) (fun y hy => by
  obtain ⟨k, hk, rfl⟩ := List.mem_map.1 hy
  exact txt_len (h4 k (by simpa using hk)))
 have f := hy_len (joinL [44] (frS x))
 simp only [joinL, List.length_append, List.length_cons, List.length_nil]
 have h1 := a x.mass; have h2 := a x.fate; have h3 := a x.closed
 omega
theorem enc_ne (c : Ct) : ∀ i, encR c i ≠ []
 | 0 => by simp [encR, hdS]
 | i + 1 => by
  have := enc_ne c i
  simp [encR, this]
theorem bytesX_u8 : ∀ (B : List UInt8), bytesX (u8s B) = some B
 | [] => rfl
 | x :: r => by
  have := bytesX_u8 r
  unfold u8s at this ⊢
  simp only [List.map_cons, bytesX, this]
  have hx : x.toNat < 256 := x.toNat_lt
  rw [if_pos ⟨by omega, by omega⟩]
  simp
section
variable (c : Ct) (hs : small c) (h0 : CheckE c = 0) (hnd : ∀ i, i < c.n → (c.line i).node.length ≤ 1000000)
include hs h0 hnd
theorem good_of : (∀ i, i < c.n → chk (c.line i).st = 0 ∧ (0 ≤ (c.line i).mass ∧ (c.line i).mass ≤ 1099511627776) ∧ (0 ≤ (c.line i).fate ∧ (c.line i).fate ≤ 4) ∧ (0 ≤ (c.line i).closed ∧ (c.line i).closed ≤ 6)) ∧ ∀ i, i < c.n → ∀ k, k < (c.line i).k → chk ((c.line i).from_ k) = 0 := by
 unfold CheckE at h0
 by_cases g0 : sizE c = 0
 case neg => rw [if_pos g0] at h0; exact absurd h0 g0
 rw [if_neg (by simp [g0])] at h0
 by_cases h2 : formE c = 0
 case neg => rw [if_pos h2] at h0; exact absurd h0 h2
 rw [if_neg (by simp [h2])] at h0
 by_cases h3 : parE c = 0
 case neg => rw [if_pos h3] at h0; exact absurd h0 h3
 have hfe := fun i (hin : i < c.n) => fe_zero (fst_zero c.n 0 h2 i (by omega) (by omega))
 refine ⟨fun i hi => ?_, fun i hi k hk => ?_⟩
 ·have := hfe i hi
  have h8 := this.2.2.2.2.2.2.2
  exact ⟨this.1, ⟨this.2.2.2.1, this.2.2.2.2.1⟩, ⟨this.2.2.2.2.2.1, this.2.2.2.2.2.2.1⟩, by omega⟩
 ·have h1 := (te_zero (fst_zero c.n 0 h3 i (by omega) (by omega))).2.1 k hk
  unfold fp found at h1
  rw [Bool.and_eq_true, decide_eq_true_eq] at h1
  have h4 : cmpS (c.line (bs c.n fun j => cmpS (c.line j).st ((c.line i).from_ k))).st ((c.line i).from_ k) = 0 := by simpa using h1.2
  obtain ⟨e1, e2, e3⟩ := cmpS_zero h4
  rw [← chk_congr e1 e2 e3]
  exact (hfe _ h1.1).1
theorem enc_len : ∀ i, i ≤ c.n → (encR c i).length ≤ 1000 + i * 5000000 := by
 obtain ⟨g1, g2⟩ := good_of c hs h0 hnd
 intro i
 induction i with
 | zero => intro _; have := hd_len c; simpa [encR] using this
 | succ i ih =>
  intro hi
  have h1 := ih (by omega)
  have h2 := ln_len (c.line i) (chk_zero (g1 i (by omega)).1).2.2.2.1 (hnd i (by omega)) (by have := (hs.2 i (by omega)).1; omega) (fun k hk => (chk_zero (g2 i (by omega) k hk)).2.2.2.1)
  rw [encR, List.length_append]
  omega
def AtE (c : Ct) (i : Nat) (σ : S7z) : Prop := ∃ H, σ = .l0 c.n i H ∧ Bd H 0 (encR c i)
def AtF (c : Ct) (i k : Nat) (xs : List (List UInt8)) (σ : S7z) : Prop := (xs = [] ∧ ∃ H, σ = .l1n c.n i (c.line i).k k H ∧ Bd H 0 (encR c i)) ∨ (xs ≠ [] ∧ ∃ L H, σ = .l1o L xs.length c.n i (c.line i).k k H ∧ H.get L = some ⟨9, 1, strs xs⟩ ∧ Bd H 0 (encR c i))
theorem enc_st0 (i : Nat) (hi : i < c.n) (σ : S7z) (h : AtE c i σ) : ∃ σ', (M7z c).step σ = some (.inl σ') ∧ AtF c i 0 [] σ' := by
 obtain ⟨g1, g2⟩ := good_of c hs h0 hnd
 obtain ⟨H, rfl, hB⟩ := h
 have b1 : decide ((i : Int) < c.n) = true := decide_eq_true (by omega)
 have b2 : decide ((0 : Int) ≤ i) = true := decide_eq_true (by omega)
 have b3 := pb_iff.2 (g1 i hi).1
 refine ⟨.l1n c.n i (c.line i).k (0 : Nat) H, ?_, .inl ⟨rfl, H, rfl, hB⟩⟩
 show step7z_0 c c.n i H = _
 rw [T7z_0 c c.n i H (by unfold K7z_0; rw [if_pos b1]; simp only [g7z_0_1, Int.toNat_natCast, allT, isV_self, b1, b2, b3, Bool.and_true])]
 unfold V7z_0
 rw [if_pos b1]
 simp only [Int.toNat_natCast]
 rfl
theorem enc_st1 (i : Nat) (hi : i < c.n) (k : Nat) (hk : k < (c.line i).k) (xs : List (List UInt8)) (hx : xs.length ≤ 300) (σ : S7z) (h : AtF c i k xs σ) : ∃ σ', (M7z c).step σ = some (.inl σ') ∧ AtF c i (k + 1) (xs ++ [txt ((c.line i).from_ k)]) σ' := by
 obtain ⟨g1, g2⟩ := good_of c hs h0 hnd
 have hk3 := (hs.2 i hi).1
 have b1 : decide ((k : Int) < (c.line i).k) = true := decide_eq_true (by omega)
 have b2 : decide ((0 : Int) ≤ k) = true := decide_eq_true (by omega)
 have b3 := pb_iff.2 (g2 i hi k hk)
 have b5 := wsucc k (by omega)
 rcases h with ⟨rfl, H, rfl, hB⟩ | ⟨hne, L, H, rfl, hH, hB⟩
 ·have hst : (M7z c).step (.l1n c.n i (c.line i).k k H) = some (V7z_1n c c.n i (c.line i).k k H) := by
   show step7z_1n c c.n i (c.line i).k k H = _
   refine T7z_1n c c.n i (c.line i).k k H ?_
   unfold K7z_1n
   rw [if_pos b1]
   simp only [g7z_1n_1, Int.toNat_natCast, allT, isV_self, b1, b2, b3, Bool.and_true]
  unfold V7z_1n at hst
  rw [if_pos b1, b5] at hst
  simp only [Int.toNat_natCast] at hst
  refine ⟨_, hst, .inr ⟨by simp, H.next, _, rfl, ?_, Bd_new hB _⟩⟩
  simp [Hp.get, findOb, strs]
 ·have b7 : obApp H L 9 1 xs.length = true := by
   unfold obApp
   rw [hH]
   simp [strs]
  have b8 : roomT (xs.length + 1) 16 = true := by
   unfold roomT
   rw [decide_eq_true (by omega), decide_eq_true (by omega)]
   rfl
  have hst : (M7z c).step (.l1o L xs.length c.n i (c.line i).k k H) = some (V7z_1o c L xs.length c.n i (c.line i).k k H) := by
   show step7z_1o c L xs.length c.n i (c.line i).k k H = _
   refine T7z_1o c L xs.length c.n i (c.line i).k k H ?_
   unfold K7z_1o
   rw [if_pos b1]
   simp only [g7z_1o_1, Int.toNat_natCast, allT, isV_self, b1, b2, b3, b7, b8, Bool.and_true]
  unfold V7z_1o at hst
  rw [if_pos b1, b5] at hst
  simp only [Int.toNat_natCast] at hst
  rw [obv_eq hH] at hst
  refine ⟨_, hst, .inr ⟨by simp, H.next, (H.drop L).new ⟨9, 1, strs xs ++ [T.str (txt ((c.line i).from_ k))]⟩, by simp; rfl, ?_, Bd_new (Bd_drop hB hH) _⟩⟩
  rw [get_new, if_pos (show H.next = (H.drop L).next from rfl)]
  simp [strs]
theorem enc_st2 (i : Nat) (hi : i < c.n) (σ : S7z) (h : AtF c i (c.line i).k (frS (c.line i)) σ) : ∃ σ', (M7z c).step σ = some (.inl σ') ∧ AtE c (i + 1) σ' := by
 obtain ⟨g1, g2⟩ := good_of c hs h0 hnd
 have hn := hs.1
 have hk3 := (hs.2 i hi).1
 obtain ⟨z0, z1, z2, z3⟩ := g1 i hi
 have hlen := enc_len c hs h0 hnd i (by omega)
 have hfl : (frS (c.line i)).length = (c.line i).k := by simp [frS]
 have htx : ∀ y ∈ frS (c.line i), y.length ≤ 11286 := fun y hy => by
  obtain ⟨k, hk, rfl⟩ := List.mem_map.1 hy
  exact txt_len (chk_zero (g2 i hi k (by simpa using hk))).2.2.2.1
 have hj := fr_len (xs := frS (c.line i)) (by omega) htx
 have hr : ∀ z ∈ [(c.line i).mass, (c.line i).fate, (c.line i).closed], -9223372036854775808 ≤ z ∧ z ≤ 9223372036854775807 := by
  intro z hz
  simp only [List.mem_cons, List.not_mem_nil, or_false] at hz
  rcases hz with rfl | rfl | rfl <;> omega
 have hw1 := txt_len (chk_zero z0).2.2.2.1
 have hw2 := hy_len (c.line i).node
 have hw3 := hy_len (joinL [44] (frS (c.line i)))
 have hw4 := hnd i hi
 have b1 : decide (((c.line i).k : Int) < (c.line i).k) = false := decide_eq_false (by omega)
 have b5 := wsucc i (by omega)
 have ex : ∀ H, Bd H 0 (encR c i) → ∃ H', Lw H 0 [.str [108, 105, 110, 101], .sl true [.int .i64 (c.line i).mass, .int .i64 (c.line i).fate, .int .i64 (c.line i).closed], .sl true [.str (txt (c.line i).st), .str (Tryz.hy (c.line i).node), .str (Tryz.hy (joinL [44] (frS (c.line i))))], .ptr 0 0] (lnS (c.line i)) H' := by
  intro H hB
  obtain ⟨H', q1, q2⟩ := lineB_ex hB [108, 105, 110, 101] (c.line i).mass (c.line i).fate (c.line i).closed (txt (c.line i).st) (Tryz.hy (c.line i).node) (Tryz.hy (joinL [44] (frS (c.line i)))) hr ⟨by simp, by omega, by omega, by omega⟩ (by omega)
  exact ⟨H', q1, fun B hB' => by rw [Bd_inj hB' hB]; exact q2⟩
 rcases h with ⟨hx, H, rfl, hB⟩ | ⟨hne, L, H, rfl, hH, hB⟩
 ·have ex1 := ex H hB
  have e1 : Tryz.hy (joinL [44] (frS (c.line i))) = [45] := by rw [hx]; rfl
  have e2 : lnS (c.line i) = joinL [32] ([108, 105, 110, 101] :: [txt (c.line i).st, itoaK (c.line i).mass, itoaK (c.line i).fate, itoaK (c.line i).closed, Tryz.hy (c.line i).node, [45]]) ++ [10] := by unfold lnS; rw [e1]
  rw [e1, e2] at ex1
  have b3 := pb_iff.2 ex1
  refine ⟨.l0 c.n (i + 1 : Nat) (lw H 0 [.str [108, 105, 110, 101], .sl true [.int .i64 (c.line i).mass, .int .i64 (c.line i).fate, .int .i64 (c.line i).closed], .sl true [.str (txt (c.line i).st), .str (Tryz.hy (c.line i).node), .str [45]], .ptr 0 0] (joinL [32] ([108, 105, 110, 101] :: [txt (c.line i).st, itoaK (c.line i).mass, itoaK (c.line i).fate, itoaK (c.line i).closed, Tryz.hy (c.line i).node, [45]]) ++ [10])), ?_, _, rfl, ?_⟩
  ·show step7z_1n c c.n i (c.line i).k (c.line i).k H = _
   rw [T7z_1n c c.n i (c.line i).k (c.line i).k H (by unfold K7z_1n; rw [b1]; simp only [g7z_1n_2, Int.toNat_natCast, allT, b1, Bool.not_false, Bool.and_true, Bool.false_eq_true, if_false]; exact b3)]
   unfold V7z_1n
   rw [b1, b5]
   simp only [Int.toNat_natCast]
   rfl
  ·have := (lw_ok ex1).2 _ hB
   rw [encR, e2]; exact this
 ·have ex1 := ex H hB
  have e1 : strv (obv H L).cells = frS (c.line i) := by rw [obv_eq hH]; exact strv_strs _
  have b3 := pb_iff.2 ex1
  have b4 : pb (rowS H L (frS (c.line i)).length) = true := pb_iff.2 ⟨_, hH, rfl⟩
  have b6 : decide ((joinL [44] (frS (c.line i))).length ≤ 140737488355328) = true := decide_eq_true (by omega)
  have b7 : decide ((frS (c.line i)).length ≤ 140737488355328) = true := decide_eq_true (by omega)
  refine ⟨.l0 c.n (i + 1 : Nat) (lw H 0 [.str [108, 105, 110, 101], .sl true [.int .i64 (c.line i).mass, .int .i64 (c.line i).fate, .int .i64 (c.line i).closed], .sl true [.str (txt (c.line i).st), .str (Tryz.hy (c.line i).node), .str (Tryz.hy (joinL [44] (frS (c.line i))))], .ptr 0 0] (lnS (c.line i))), ?_, _, rfl, ?_⟩
  ·show step7z_1o c L (frS (c.line i)).length c.n i (c.line i).k (c.line i).k H = _
   rw [T7z_1o c L (frS (c.line i)).length c.n i (c.line i).k (c.line i).k H (by unfold K7z_1o; rw [b1]; simp only [g7z_1o_2, Int.toNat_natCast, allT, e1, b1, b4, b6, b7, Bool.not_false, Bool.and_true, Bool.false_eq_true, if_false]; exact b3)]
   unfold V7z_1o
   rw [b1, b5]
   simp only [Int.toNat_natCast, e1]
   rfl
  ·have := (lw_ok ex1).2 _ hB
   rw [encR]; exact this
theorem enc_end (σ : S7z) (h : AtE c c.n σ) : (M7z c).step σ = some (.inr (.tup [.str (enc c), .int .i64 0])) := by
 obtain ⟨H, rfl, hB⟩ := h
 have b1 : decide ((c.n : Int) < c.n) = false := decide_eq_false (by omega)
 have hlen := enc_len c hs h0 hnd c.n (by omega)
 have hx : ∃ L, strX 47 5 [.ptr 0 0] H = some (.str (encR c c.n), H.drop L) := by
  rcases hB.2 with ⟨e, _⟩ | ⟨hne, L, hL, h1, h2⟩
  ·exact absurd e (enc_ne c c.n)
  ·refine ⟨L, ?_⟩
   unfold strX
   simp only [h1, h2]
   have : (encR c c.n).length ≠ 0 := fun e => hne (List.length_eq_zero_iff.1 e)
   rw [if_pos ⟨trivial, trivial⟩, if_pos ⟨trivial, trivial, u8s_len _, this⟩, bytesX_u8]
 obtain ⟨L, hx⟩ := hx
 have e1 : bdB H 0 = encR c c.n := by unfold bdB; rw [hx]
 have e2 : bdH H 0 = H.drop L := by unfold bdH; rw [hx]
 have b2 : pb (strX 47 5 [.ptr 0 0] H = some (.str (bdB H 0), bdH H 0)) = true := pb_iff.2 (by rw [e1, e2]; exact hx)
 show step7z_0 c c.n c.n H = _
 rw [T7z_0 c c.n c.n H (by unfold K7z_0; rw [b1]; simp only [g7z_0_2, allT, b1, b2, Bool.not_false, Bool.and_true, Bool.false_eq_true, if_false])]
 unfold V7z_0
 rw [b1, e1]
 rfl
theorem enc_run : ∀ (q i : Nat) (σ : S7z), q + i = c.n → AtE c i σ → Runs (M7z c) σ (.tup [.str (enc c), .int .i64 0]) := by
 intro q
 induction q with
 | zero =>
  intro i σ hq h
  have : i = c.n := by omega
  subst this
  exact .done (enc_end c hs h0 hnd σ h)
 | succ q ih =>
  intro i σ hq h
  have hi : i < c.n := by omega
  have hk3 := (hs.2 i hi).1
  obtain ⟨σ1, a1, b1⟩ := enc_st0 c hs h0 hnd i hi σ h
  refine .next a1 ?_
  have inner : ∀ (p k : Nat) (σ : S7z), p + k = (c.line i).k → AtF c i k ((List.range k).map fun j => txt ((c.line i).from_ j)) σ → Runs (M7z c) σ (.tup [.str (enc c), .int .i64 0]) := by
   intro p
   induction p with
   | zero =>
    intro k σ hp h
    have : k = (c.line i).k := by omega
    subst this
    obtain ⟨σ', a, b⟩ := enc_st2 c hs h0 hnd i hi σ h
    exact .next a (ih (i + 1) σ' (by omega) b)
   | succ p ihp =>
    intro k σ hp h
    obtain ⟨σ', a, b⟩ := enc_st1 c hs h0 hnd i hi k (by omega) _ (by simp; omega) σ h
    refine .next a (ihp (k + 1) σ' (by omega) ?_)
    rw [List.range_succ, List.map_append]
    exact b
  exact inner (c.line i).k 0 σ1 (by omega) b1
end
theorem encode_ok (c : Ct) (hs : small c) (hnd : ∀ i, i < c.n → (c.line i).node.length ≤ 1000000)
  (hr : ∀ z ∈ [c.entries, c.accepted, c.delivered, c.waiting, c.letters, c.discarded], -9223372036854775808 ≤ z ∧ z ≤ 9223372036854775807) :
  PureFn prog gl 7 [ctT c] (if CheckE c = 0 then .tup [.str (enc c), .int .i64 0] else .tup [.str [], .int .i64 (CheckE c)]) := by
 have hp : pB (small c) = true := pB_iff.2 hs
 by_cases h0 : CheckE c = 0
 ·rw [if_pos h0]
  have e0 : (CheckE c != 0) = false := bne_eq_false_iff_eq.2 h0
  have hB : Bd { next := 0 + 1, objs := [(0, { elem := 47, sz := 0, cells := [T.nilp, T.nils] })] } 0 [] := by
   refine ⟨fun m o hm => ?_, .inl ⟨rfl, rfl⟩⟩
   simp only [Hp.get, findOb] at hm
   split at hm
   ·rename_i e; subst e; decide
   ·cases hm
  obtain ⟨H', q1, q2⟩ := lineA_ex hB [98, 97, 108, 97, 110, 99, 101] c.entries c.accepted c.delivered c.waiting c.letters c.discarded hr (by decide) (by decide)
  have ex1 : ∃ H', Lw { next := 0 + 1, objs := [(0, { elem := 47, sz := 0, cells := [T.nilp, T.nils] })] } 0 [.str [98, 97, 108, 97, 110, 99, 101], .sl true [.int .i64 c.entries, .int .i64 c.accepted, .int .i64 c.delivered, .int .i64 c.waiting, .int .i64 c.letters, .int .i64 c.discarded], .nils, .ptr 0 0] (hdS c) H' :=
   ⟨H', q1, fun B hB' => by rw [Bd_inj hB' hB]; exact q2⟩
  have b3 := pb_iff.2 ex1
  obtain ⟨n, hrun⟩ := enc_run c hs h0 hnd c.n 0 (.l0 c.n (0 : Nat) (lw { next := 0 + 1, objs := [(0, { elem := 47, sz := 0, cells := [T.nilp, T.nils] })] } 0 [.str [98, 97, 108, 97, 110, 99, 101], .sl true [.int .i64 c.entries, .int .i64 c.accepted, .int .i64 c.delivered, .int .i64 c.waiting, .int .i64 c.letters, .int .i64 c.discarded], .nils, .ptr 0 0] (hdS c))) (by omega)
   ⟨_, rfl, (lw_ok ex1).2 [] hB⟩
  refine c7z c n ?_ ?_
  ·unfold K7z_s; rw [e0]; simp only [g7z_s_2, allT, isV_self, e0, hp, Bool.not_false, Bool.and_true, Bool.false_eq_true, if_false]; exact b3
  ·unfold V7z_s; rw [e0]; exact hrun
 ·rw [if_neg h0]
  have e0 : (CheckE c != 0) = true := bne_iff_ne.2 h0
  refine c7z c 0 ?_ ?_
  ·unfold K7z_s; rw [e0]; simp only [g7z_s_1, allT, isV_self, e0, hp, Bool.and_true, if_true]
  ·unfold V7z_s; rw [e0]; rfl
end
end Go.Proofs.Tryz

/- Package variables that hold what they held, whatever bytealg.MaxLen is; Split, Cut and Atoi. -/
namespace Go.Proofs.Tryz
open Go.Ps Go.RowKit
def errT (te : TypeId) : T := .iface te (.ref (.agg []) 0)
def gl1 (m : Int) (te : TypeId) : Nat → Option T := fun n => if n = 0 then some (.ref (.agg (Lib.pow10Tab.map (T.int .u64))) 0) else if n = 1 then some (.ref (.int .i64 m) 0) else if n = 2 then some (.ref (errT te) 0) else if n = 3 then some (.ref (errT te) 0) else none
theorem gl1_sub {m : Int} {te : TypeId} (k : Nat) (t : T) (h : gl k = some t) : gl1 m te k = some t := by
 unfold gl at h
 split at h
 ·rename_i e; subst e; exact h
 ·cases h
theorem gl1Frz (m : Int) (te : TypeId) : GlFrz (gl1 m te) := by
 intro k t h
 unfold gl1 at h
 split at h
 ·cases h; exact ⟨5, by kernel_rfl⟩
 ·split at h
  ·cases h; exact ⟨5, rfl⟩
  ·split at h
   ·cases h; exact ⟨5, rfl⟩
   ·split at h
    ·cases h; exact ⟨5, rfl⟩
    ·cases h
theorem glOk_sub {m : Int} {te : TypeId} {g : G} (h : GlOk (gl1 m te) g) : GlOk gl g := fun k t ht => h k t (gl1_sub k t ht)
theorem pure1 {m : Int} {te : TypeId} {f : FuncId} {ts : List T} {r : T} (h : PureFn prog gl f ts r) : PureFn prog (gl1 m te) f ts r :=
 ⟨h.1, fun g vs hg hN hgl hv => h.2 g vs hg hN (glOk_sub hgl) hv⟩
theorem pe1 {m : Int} {te : TypeId} {pe : Hp → FuncId → List T → Option T} (h : PeOk prog gl pe) : PeOk prog (gl1 m te) pe :=
 fun H f ts r hr => ⟨(h H f ts r hr).1, fun g vs hg hs hgl hv => (h H f ts r hr).2 g vs hg hs (glOk_sub hgl) hv⟩
theorem gl_cell {g : G} {k : Nat} {x : T} (hx : x.cells = [x]) (h : GlAt g k (.ref x 0)) : ∃ v, g.w.cell? ⟨k, 0, none⟩ = some v ∧ Rd g v x := by
 obtain ⟨h1, _, _⟩ := h
 generalize ha : (Value.pointer (some ⟨k, 0, none⟩)) = v at h1
 generalize ht : (T.ref x 0) = t at h1
 cases h1 <;> cases ht
 rename_i b o vs hS hc hl hr
 simp only [Value.pointer.injEq, Option.some.injEq, Addr.mk.injEq] at ha
 obtain ⟨rfl, ho, _⟩ := ha
 have ho0 : o = 0 := by omega
 subst ho0
 rw [hx] at hl hr
 have hv : vs[0]? = some (vs[0]'(by simp at hl; omega)) := List.getElem?_eq_getElem _
 exact ⟨_, by have := hc 0 _ hv; simpa using this, hr 0 _ x hv rfl⟩
theorem maxLen_of {m : Int} {te : TypeId} {g : G} (h : GlOk (gl1 m te) g) : g.w.cell? ⟨1, 0, none⟩ = some (.int .i64 m) := by
 obtain ⟨v, h1, h2⟩ := gl_cell rfl (h 1 (.ref (.int .i64 m) 0) rfl)
 cases h2
 exact h1
theorem err_of {m : Int} {te : TypeId} {g : G} (h : GlOk (gl1 m te) g) {k : Nat} (hk : k = 2 ∨ k = 3) : ∃ ev, g.w.cell? ⟨k, 0, none⟩ = some ev ∧ ∃ t p, ev = .iface t p := by
 have hg : gl1 m te k = some (.ref (errT te) 0) := by rcases hk with rfl | rfl <;> rfl
 obtain ⟨v, h1, h2⟩ := gl_cell rfl (h k _ hg)
 cases h2
 exact ⟨_, h1, _, _, rfl⟩
/-! ### Split -/
noncomputable def spl (s sep : List UInt8) : List (List UInt8) := (Lib.splitB ⟨sep.toArray⟩ 0 (Lib.countB ⟨s.toArray⟩ ⟨sep.toArray⟩) ⟨s.toArray⟩).map (·.data.toList)
theorem split_ok {m : Int} {te : TypeId} (s sep : List UInt8) (hs : s.length < 4294967281) (h1 : sep ≠ []) : PureFn prog (gl1 m te) 27 [.str s, .str sep] (.slf true (spl s sep).length (fun i => .str ((spl s sep).getD i []))) := by
 refine ⟨by kernel_rfl, fun g vs hg hN hgl hv => ?_⟩
 match vs, hv with
 | [v, u], hv =>
  have e1 := str_inv (hv.inv_cons).1
  have e2 := str_inv ((hv.inv_cons).2.inv_cons).1
  subst e1; subst e2
  have hsep : 1 ≤ (⟨sep.toArray⟩ : ByteArray).size := by
   have : sep.length ≠ 0 := fun e => h1 (List.length_eq_zero_iff.1 e)
   show 1 ≤ sep.toArray.size
   simp; omega
  have hsz : (⟨s.toArray⟩ : ByteArray).size < 4294967281 := by show s.toArray.size < _; simpa using hs
  have hlen := Lib.splitB_all ⟨sep.toArray⟩ hsep 0 _ ⟨s.toArray⟩ rfl
  have hcnt := Lib.countB_le ⟨sep.toArray⟩ hsep _ ⟨s.toArray⟩ (Nat.le_refl _)
  refine (Any.strings_Split lays146 (by kernel_rfl) ⟨s.toArray⟩ ⟨sep.toArray⟩ m g.w hsz (maxLen_of hgl) hsep).mono fun e w' ⟨he, hw⟩ => ?_
  subst hw
  have hl : (spl s sep).length = Lib.countB ⟨s.toArray⟩ ⟨sep.toArray⟩ + 1 := by unfold spl; rw [List.length_map, hlen]
  have hB : Below g.w.heap.size g.w (g.w.alloc (.cells ((Lib.splitB ⟨sep.toArray⟩ 0 (Lib.countB ⟨s.toArray⟩ ⟨sep.toArray⟩) ⟨s.toArray⟩).map Value.string).toArray 9)) := (Below.refl _ _).alloc (Nat.le_refl _) _
  refine ⟨_, g.add (.cells ((Lib.splitB ⟨sep.toArray⟩ 0 (Lib.countB ⟨s.toArray⟩ ⟨sep.toArray⟩) ⟨s.toArray⟩).map Value.string).toArray 9), he, rfl, ?_, ?_, ?_⟩
  ·exact ⟨hB.os, hB.tape, hB.output, hB.size, hB.block, fun b q => .inl q, fun b q => q.elim .inl (fun e => .inr (by omega)), rfl, rfl, rfl⟩
  ·intro b hb
   show b < (g.w.heap.push _).size
   rw [Array.size_push]
   rcases hb with hb | hb
   ·have := hg b hb; omega
   ·omega
  ·rw [← hl]
   have hmx : (spl s sep).length ≤ maxLen := by
    rw [hl]
    have : (⟨s.toArray⟩ : ByteArray).size = s.length := by show s.toArray.size = _; simp
    have h2 : maxLen = 9223372036854775807 := rfl
    omega
   refine .slf true _ _ 1 g.w.heap.size 0 _ ((Lib.splitB ⟨sep.toArray⟩ 0 (Lib.countB ⟨s.toArray⟩ ⟨sep.toArray⟩) ⟨s.toArray⟩).map Value.string) (fun _ => .inr rfl) (fun i hi => rfl) (Nat.le_refl _) hmx (fun _ => rfl) (by rw [List.length_map, hlen, hl]; omega) (fun j v hv => ?_) (fun i j v c hi hj hv hc => ?_)
   ·rw [Nat.zero_add]
    unfold World.cell?
    show (match (g.w.heap.push _)[g.w.heap.size]? with | some (.cells c _ _) => if (none : Option _).isSome then none else c[j]? | _ => none) = some v
    rw [Array.getElem?_push_size]
    simpa using hv
   ·have hj0 : j = 0 := by omega
    subst hj0
    simp only [T.cells, List.getElem?_cons_zero, Option.some.injEq] at hc
    subst hc
    simp only [Nat.mul_one, Nat.add_zero, List.getElem?_map, Option.map_eq_some_iff] at hv
    obtain ⟨b, hb, rfl⟩ := hv
    have : (spl s sep).getD i [] = b.data.toList := by
     unfold spl
     rw [List.getD_eq_getElem?_getD, List.getElem?_map, hb]; rfl
    rw [this]
    exact .str b
 | [], hv => simp [RdL] at hv
 | [_], hv => simp [RdL] at hv
 | _ :: _ :: _ :: _, hv => simp [RdL] at hv
/-! ### Cut -/
theorem cut_ok {m : Int} {te : TypeId} (s sep : List UInt8) (hs : s.length < 4294967281) : PureFn prog (gl1 m te) 72 [.str s, .str sep] (.tup [.str (Lib.cut s sep).1, .str (Lib.cut s sep).2.1, .bool (Lib.cut s sep).2.2]) := by
 refine ⟨by kernel_rfl, fun g vs hg hN hgl hv => ?_⟩
 match vs, hv with
 | [v, u], hv =>
  have e1 := str_inv (hv.inv_cons).1
  have e2 := str_inv ((hv.inv_cons).2.inv_cons).1
  subst e1; subst e2
  have hsz : (⟨s.toArray⟩ : ByteArray).size < 4294967281 := by show s.toArray.size < _; simpa using hs
  refine (Any.strings_Cut lays145 ⟨s.toArray⟩ ⟨sep.toArray⟩ m g.w hsz (maxLen_of hgl)).mono fun e w' ⟨he, n, hw⟩ => ?_
  subst hw
  have hB : Below g.w.heap.size g.w (g.w.drewN n) := ⟨by simp [World.drewN], by simp [World.drewN], by simp [World.drewN], by simp [World.drewN], fun k _ => by simp [World.drewN]⟩
  refine ⟨_, { g with w := g.w.drewN n }, he, rfl, pstep_below hB, gok_below hg hB.size, ?_⟩
  refine .tup _ [_, _, _] rfl (fun j v c hv hc => ?_)
  match j with
  | 0 => simp at hv hc; subst hv; subst hc; have := Rd.str (g := { g with w := g.w.drewN n }) ⟨(Lib.cut s sep).1.toArray⟩; simpa using this
  | 1 => simp at hv hc; subst hv; subst hc; have := Rd.str (g := { g with w := g.w.drewN n }) ⟨(Lib.cut s sep).2.1.toArray⟩; simpa using this
  | 2 => simp at hv hc; subst hv; subst hc; exact .bool _
  | k + 3 => simp at hv
 | [], hv => simp [RdL] at hv
 | [_], hv => simp [RdL] at hv
 | _ :: _ :: _ :: _, hv => simp [RdL] at hv
/-! ### Atoi -/
noncomputable def aV (s : List UInt8) : Int := match Lib.atoiAll s with
 | .ok v => v
 | .range => Lib.atoiSat s
 | _ => 0
noncomputable def aE (s : List UInt8) : T := match Lib.atoiAll s with
 | .ok _ => .nili
 | _ => errT 121
theorem aE_if (s : List UInt8) : isIf (aE s) = true := by
 unfold aE
 split <;> rfl
theorem atoi_ok {m : Int} {te : TypeId} (s : List UInt8) (hs : s.length ≤ 281474976710656) : PureFn prog (gl1 m te) 49 [.str s] (.tup [.int .i64 (aV s), aE s]) := by
 refine ⟨by kernel_rfl, fun g vs hg hN hgl hv => ?_⟩
 match vs, hv with
 | [v], hv =>
  have e1 := str_inv (hv.inv_cons).1
  subst e1
  have hsz : (⟨s.toArray⟩ : ByteArray).size ≤ 281474976710656 := by show s.toArray.size ≤ _; simpa using hs
  have bad : ∀ (x : Int) (e : Ending) (w' : World) (N : Nat) (cs : Array Value), e = .returned (.tuple #[.int .i64 x, .iface 121 (.pointer (some ⟨N, 0, none⟩))]) → g.w.heap.size ≤ N → w'.heap[N]? = some (.cells cs 135 (0, 0)) → Below g.w.heap.size g.w w' →
    ∃ v g', e = .returned v ∧ g'.w = w' ∧ PStep g g' ∧ Gok g' ∧ Rd g' v (.tup [.int .i64 x, errT 121]) := by
   intro x e w' N cs he hN hc hB
   have hlt : N < w'.heap.size := (Array.getElem?_eq_some_iff.1 hc).1
   refine ⟨_, { g with w := w', S := fun b => g.S b ∨ b = N }, he, rfl, ⟨hB.os, hB.tape, hB.output, hB.size, hB.block, fun b q => .inl q, fun b q => q.elim .inl (fun e => .inr (by omega)), rfl, rfl, rfl⟩, fun b hb => ?_, ?_⟩
   ·rcases hb with hb | hb
    ·have := hg b hb; have := hB.size; show b < w'.heap.size; omega
    ·show b < w'.heap.size; omega
   ·refine .tup _ [_, _] rfl (fun j v c hv hc => ?_)
    match j with
    | 0 => simp at hv hc; subst hv; subst hc; exact .int _ _
    | 1 =>
     simp at hv hc; subst hv; subst hc
     refine .iface _ _ _ ?_
     exact Rd.ref (.agg []) 0 N 0 [] (.inr rfl) rfl (fun j v h => by simp at h) (fun j v c h => by simp at h)
    | k + 2 => simp at hv
  cases hA : Lib.atoiAll s
  case ok v =>
   have e1 : aV s = v := by unfold aV; rw [hA]
   have e2 : aE s = .nili := by unfold aE; rw [hA]
   rw [e1, e2]
   refine (Any.strconv_Atoi_ok laysC172 ⟨s.toArray⟩ (by omega) v (by simpa using hA) g.w).mono fun e w' ⟨he, hw⟩ => ?_
   have hB : Below g.w.heap.size g.w w' := by
    rcases hw with rfl | ⟨t, rfl⟩
    ·exact Below.refl _ _
    ·exact Lib.bytesWorld_below _ _ _
   refine ⟨_, { g with w := w' }, he, rfl, pstep_below hB, gok_below hg hB.size, ?_⟩
   refine .tup _ [_, _] rfl (fun j v c hv hc => ?_)
   match j with
   | 0 => simp at hv hc; subst hv; subst hc; exact .int _ _
   | 1 => simp at hv hc; subst hv; subst hc; exact .nili
   | k + 2 => simp at hv
  case range =>
   have e1 : aV s = Lib.atoiSat s := by unfold aV; rw [hA]
   have e2 : aE s = errT 121 := by unfold aE; rw [hA]
   rw [e1, e2]
   obtain ⟨ev, h1, h2⟩ := err_of hgl (.inr rfl)
   refine (Any.strconv_Atoi_range laysC172 ⟨s.toArray⟩ hsz (by simpa using hA) ev g.w h1 (.inr h2)).mono fun e w' ⟨N, he, hN, hc, hB⟩ => ?_
   exact bad _ e w' N _ he hN hc hB
  case _ =>
   have e1 : aV s = 0 := by unfold aV; rw [hA]
   have e2 : aE s = errT 121 := by unfold aE; rw [hA]
   rw [e1, e2]
   obtain ⟨ev, h1, h2⟩ := err_of hgl (.inl rfl)
   refine (Any.strconv_Atoi_syntax laysC172 ⟨s.toArray⟩ hsz (by simpa using hA) ev g.w h1 (.inr h2)).mono fun e w' ⟨N, he, hN, hc, hB⟩ => ?_
   exact bad 0 e w' N _ he hN hc hB
 | [], hv => simp [RdL] at hv
 | _ :: _ :: _, hv => simp [RdL] at hv
end Go.Proofs.Tryz

/- The contracts of Split, Cut, Atoi in an environment. -/
namespace Go.Proofs.Tryz
noncomputable section
open Go.Ps
def s49z : List T → Option (T × List Bool)
 | [.str s] => some (.tup [.int .i64 (aV s), aE s], [decide (s.length ≤ 281474976710656)])
 | _ => none
def s27z : List T → Option (T × List Bool)
 | [.str s, .str sep] => some (.slf true (spl s sep).length (fun i => .str ((spl s sep).getD i [])), [decide (s.length < 4294967281), pb (sep ≠ [])])
 | _ => none
def s72z : List T → Option (T × List Bool)
 | [.str s, .str sep] => some (.tup [.str (Lib.cut s sep).1, .str (Lib.cut s sep).2.1, .bool (Lib.cut s sep).2.2], [decide (s.length < 4294967281)])
 | _ => none
section
variable {m : Int} {te : TypeId}
theorem s49z_ok (ts : List T) (r : T) (cs : List Bool) (h : s49z ts = some (r, cs)) (hc : allT cs = true) : PureFn prog (gl1 m te) 49 ts r := by
 unfold s49z at h
 split at h
 ·cases h
  simp only [allT, Bool.and_true, decide_eq_true_eq] at hc
  exact atoi_ok _ hc
 ·cases h
theorem s27z_ok (ts : List T) (r : T) (cs : List Bool) (h : s27z ts = some (r, cs)) (hc : allT cs = true) : PureFn prog (gl1 m te) 27 ts r := by
 unfold s27z at h
 split at h
 ·cases h
  simp only [allT, Bool.and_true, Bool.and_eq_true, decide_eq_true_eq, pb_iff] at hc
  exact split_ok _ _ hc.1 hc.2
 ·cases h
theorem s72z_ok (ts : List T) (r : T) (cs : List Bool) (h : s72z ts = some (r, cs)) (hc : allT cs = true) : PureFn prog (gl1 m te) 72 ts r := by
 unfold s72z at h
 split at h
 ·cases h
  simp only [allT, Bool.and_true, decide_eq_true_eq] at hc
  exact cut_ok _ _ hc
 ·cases h
end
def D40 (m : Int) (te : TypeId) : Ed := ⟨gl1 m te, pdAdd 49 s49z (pdAdd 27 s27z (pdAdd 72 s72z D31.pd))⟩
theorem cx40 (m : Int) (te : TypeId) : Cx prog (D40 m te) F0 := ⟨follows, pdAdd_ok (pdAdd_ok (pdAdd_ok (pe1 (pdAdd_ok (pdAdd_ok (pdAdd_ok (pdAddH_ok cx20.hE s18z_ok) s16z_ok) s20z_ok) s19z_ok)) s72z_ok) s27z_ok) s49z_ok, eeNone_ok⟩
end
end Go.Proofs.Tryz

/- number and numbers as machines, by program (gen2). -/
namespace Go.Proofs.Tryz
noncomputable section
open Go.Ps
set_option maxRecDepth 100000
/-! ### 73 -/
def k73z_s_0 (m : Int) (te : TypeId) (s : List UInt8) : List Bool := [isIf (aE s), decide (s.length ≤ 281474976710656)]
def k73z_s_1 (m : Int) (te : TypeId) (s : List UInt8) : List Bool := (isNi (aE s)) :: (isNi (aE s)) :: (isNi (aE s)) :: (isNi (aE s)) :: k73z_s_0 m te s
def g73z_s_1 (m : Int) (te : TypeId) (s : List UInt8) : List Bool := let y0 := decide ((↑s.length : Int) ≤ 7); y0 :: y0 :: y0 :: (decide (-9223372036854775808 ≤ aV s)) :: (decide (aV s ≤ 9223372036854775807)) :: y0 :: y0 :: k73z_s_1 m te s
def g73z_s_2 (m : Int) (te : TypeId) (s : List UInt8) : List Bool := let y0 := decide ((↑s.length : Int) ≤ 7); (!y0) :: (!y0) :: (!y0) :: (!y0) :: (!y0) :: k73z_s_1 m te s
def g73z_s_3 (m : Int) (te : TypeId) (s : List UInt8) : List Bool := true :: true :: true :: true :: true :: (!isNi (aE s)) :: (!isNi (aE s)) :: (!isNi (aE s)) :: (!isNi (aE s)) :: k73z_s_0 m te s
def V73z_s (m : Int) (te : TypeId) (s : List UInt8) : Empty ⊕ T :=
 (if isNi (aE s) then (if decide ((↑s.length : Int) ≤ 7) then (.inr (T.tup [T.int .i64 (aV s), T.bool (itoaK (aV s) == s)])) else (.inr (T.tup [T.int .i64 (aV s), T.bool false]))) else (.inr (T.tup [T.int .i64 (aV s), T.bool false])))
def K73z_s (m : Int) (te : TypeId) (s : List UInt8) : Bool :=
 (if isNi (aE s) then (if decide ((↑s.length : Int) ≤ 7) then (allT (g73z_s_1 m te s)) else (allT (g73z_s_2 m te s))) else (allT (g73z_s_3 m te s)))
def r73z_s (m : Int) (te : TypeId) (s : List UInt8) (ds : List Bool) : RD Out := runK prog (D40 m te) F0 2000 (.code (bodyOf f73)) [] 0 ([.str s] ++ List.replicate 23 undefT) ⟨0, []⟩ ds []
theorem w73z_s_1 (m : Int) (te : TypeId) (s : List UInt8) : outK prog f73 20 [] (r73z_s m te s (bt 9 511)) = wdn (T.tup [T.int .i64 (aV s), T.bool (itoaK (aV s) == s)]) (g73z_s_1 m te s) := by kernel_rfl
theorem w73z_s_2 (m : Int) (te : TypeId) (s : List UInt8) : outK prog f73 20 [] (r73z_s m te s (bt 9 15)) = wdn (T.tup [T.int .i64 (aV s), T.bool false]) (g73z_s_2 m te s) := by kernel_rfl
theorem w73z_s_3 (m : Int) (te : TypeId) (s : List UInt8) : outK prog f73 20 [] (r73z_s m te s (bt 9 0)) = wdn (T.tup [T.int .i64 (aV s), T.bool false]) (g73z_s_3 m te s) := by kernel_rfl
theorem c73z (m : Int) (te : TypeId) (s : List UInt8) (n : Nat) {r : T} (hk : K73z_s m te s = true) (hr : noM.fin n (V73z_s m te s) = some r) : PureFn prog (gl1 m te) 73 [.str s] r :=
 pure_mach (M := noM) (fn := f73) (k := 20) (d := 8) (c := bodyOf f73) (cx40 m te) (gl1Frz m te) (by kernel_rfl) func73 (by kernel_rfl) rfl (by kernel_rfl) (by kernel_rfl) (L := 23) (by kernel_rfl) noM_ways (fun σ => σ.elim) ((wk_if (wk_if (kD (w73z_s_1 m te s)) (kD (w73z_s_2 m te s))) (kD (w73z_s_3 m te s))) hk _ rfl) hr
/-! ### 28 -/
inductive S28z where
 | l0n (x10 x11 : Int)
 | l0o (L N : Nat) (x10 x11 : Int) (H : Hp)
def g28z_s_1 (m : Int) (te : TypeId) (fu : Bool) (q : Nat) (f : Nat → List UInt8) : List Bool := []
def k28z_0n_0 (m : Int) (te : TypeId) (fu : Bool) (q : Nat) (f : Nat → List UInt8) (x10 x11 : Int) : List Bool := [isIf (aE (f x11.toNat)), decide ((f x11.toNat).length ≤ 281474976710656), decide (0 ≤ x11), decide (x11 < (↑q : Int)), true, decide (x11 < x10)]
def g28z_0n_1 (m : Int) (te : TypeId) (fu : Bool) (q : Nat) (f : Nat → List UInt8) (x10 x11 : Int) : List Bool := (!isNi (aE (f x11.toNat))) :: k28z_0n_0 m te fu q f x10 x11
def g28z_0n_2 (m : Int) (te : TypeId) (fu : Bool) (q : Nat) (f : Nat → List UInt8) (x10 x11 : Int) : List Bool := true :: true :: true :: (!!isNi (aE (f x11.toNat))) :: k28z_0n_0 m te fu q f x10 x11
def g28z_0n_3 (m : Int) (te : TypeId) (fu : Bool) (q : Nat) (f : Nat → List UInt8) (x10 x11 : Int) : List Bool := [!decide (x11 < x10)]
def k28z_0o_0 (m : Int) (te : TypeId) (fu : Bool) (q : Nat) (f : Nat → List UInt8) (L N : Nat) (x10 x11 : Int) (H : Hp) : List Bool := [isIf (aE (f x11.toNat)), decide ((f x11.toNat).length ≤ 281474976710656), decide (0 ≤ x11), decide (x11 < (↑q : Int)), true, decide (x11 < x10)]
def g28z_0o_1 (m : Int) (te : TypeId) (fu : Bool) (q : Nat) (f : Nat → List UInt8) (L N : Nat) (x10 x11 : Int) (H : Hp) : List Bool := (!isNi (aE (f x11.toNat))) :: k28z_0o_0 m te fu q f L N x10 x11 H
def g28z_0o_2 (m : Int) (te : TypeId) (fu : Bool) (q : Nat) (f : Nat → List UInt8) (L N : Nat) (x10 x11 : Int) (H : Hp) : List Bool := true :: true :: (obApp H L 3 1 N) :: (roomT (N + 1) 8) :: (!!isNi (aE (f x11.toNat))) :: k28z_0o_0 m te fu q f L N x10 x11 H
def g28z_0o_3 (m : Int) (te : TypeId) (fu : Bool) (q : Nat) (f : Nat → List UInt8) (L N : Nat) (x10 x11 : Int) (H : Hp) : List Bool := [!decide (x11 < x10)]
def V28z_0n (m : Int) (te : TypeId) (fu : Bool) (q : Nat) (f : Nat → List UInt8) (x10 x11 : Int) : S28z ⊕ T :=
 (if decide (x11 < x10) then (if !isNi (aE (f x11.toNat)) then (.inr (T.tup [T.nils, T.bool false])) else (.inl (.l0o 0 1 x10 (IntKind.i64.wrap (x11 + 1)) ({ next := 1, objs := [(0, { elem := 3, sz := 1, cells := [T.int .i64 (aV (f x11.toNat))] })] })))) else (.inr (T.tup [T.nils, T.bool true])))
def K28z_0n (m : Int) (te : TypeId) (fu : Bool) (q : Nat) (f : Nat → List UInt8) (x10 x11 : Int) : Bool :=
 (if decide (x11 < x10) then (if !isNi (aE (f x11.toNat)) then (allT (g28z_0n_1 m te fu q f x10 x11)) else (allT (g28z_0n_2 m te fu q f x10 x11))) else (allT (g28z_0n_3 m te fu q f x10 x11)))
def step28z_0n (m : Int) (te : TypeId) (fu : Bool) (q : Nat) (f : Nat → List UInt8) (x10 x11 : Int) : Option (S28z ⊕ T) := if K28z_0n m te fu q f x10 x11 then some (V28z_0n m te fu q f x10 x11) else none
theorem T28z_0n (m : Int) (te : TypeId) (fu : Bool) (q : Nat) (f : Nat → List UInt8) (x10 x11 : Int) (hk : K28z_0n m te fu q f x10 x11 = true) : step28z_0n m te fu q f x10 x11 = some (V28z_0n m te fu q f x10 x11) := if_pos hk
def q28z_0o_3 (m : Int) (te : TypeId) (fu : Bool) (q : Nat) (f : Nat → List UInt8) (L N : Nat) (x10 x11 : Int) (H : Hp) : Option T := frzT 20 H (T.tup [T.osl L 1 0 N, T.bool true])
def V28z_0o (m : Int) (te : TypeId) (fu : Bool) (q : Nat) (f : Nat → List UInt8) (L N : Nat) (x10 x11 : Int) (H : Hp) : S28z ⊕ T :=
 (if decide (x11 < x10) then (if !isNi (aE (f x11.toNat)) then (.inr (T.tup [T.nils, T.bool false])) else (.inl (.l0o H.next (N + 1) x10 (IntKind.i64.wrap (x11 + 1)) ({ next := H.next + 1, objs := (H.next, { elem := 3, sz := 1, cells := (obv H L).cells ++ [T.int .i64 (aV (f x11.toNat))] }) :: dropOb H.objs L })))) else (.inr ((q28z_0o_3 m te fu q f L N x10 x11 H).getD undefT)))
def K28z_0o (m : Int) (te : TypeId) (fu : Bool) (q : Nat) (f : Nat → List UInt8) (L N : Nat) (x10 x11 : Int) (H : Hp) : Bool :=
 (if decide (x11 < x10) then (if !isNi (aE (f x11.toNat)) then (allT (g28z_0o_1 m te fu q f L N x10 x11 H)) else (allT (g28z_0o_2 m te fu q f L N x10 x11 H))) else (allT (g28z_0o_3 m te fu q f L N x10 x11 H) && (q28z_0o_3 m te fu q f L N x10 x11 H).isSome))
def step28z_0o (m : Int) (te : TypeId) (fu : Bool) (q : Nat) (f : Nat → List UInt8) (L N : Nat) (x10 x11 : Int) (H : Hp) : Option (S28z ⊕ T) := if K28z_0o m te fu q f L N x10 x11 H then some (V28z_0o m te fu q f L N x10 x11 H) else none
theorem T28z_0o (m : Int) (te : TypeId) (fu : Bool) (q : Nat) (f : Nat → List UInt8) (L N : Nat) (x10 x11 : Int) (H : Hp) (hk : K28z_0o m te fu q f L N x10 x11 H = true) : step28z_0o m te fu q f L N x10 x11 H = some (V28z_0o m te fu q f L N x10 x11 H) := if_pos hk
def V28z_s (m : Int) (te : TypeId) (fu : Bool) (q : Nat) (f : Nat → List UInt8) : S28z ⊕ T :=
 (.inl (.l0n (↑q : Int) 0))
def K28z_s (m : Int) (te : TypeId) (fu : Bool) (q : Nat) (f : Nat → List UInt8) : Bool :=
 (allT (g28z_s_1 m te fu q f))
def step28z (m : Int) (te : TypeId) (fu : Bool) (q : Nat) (f : Nat → List UInt8) : S28z → Option (S28z ⊕ T)
 | .l0n x10 x11 => step28z_0n m te fu q f x10 x11
 | .l0o L N x10 x11 H => step28z_0o m te fu q f L N x10 x11 H
def M28z (m : Int) (te : TypeId) (fu : Bool) (q : Nat) (f : Nat → List UInt8) : Mch S28z where
 lp := fun σ => match σ with
  | .l0n .. => 0
  | .l0o .. => 0
 keep := fun ι => match ι with
  | 0 => [4, 9, 10, 11]
  | _ => []
 par := fun ι => match ι with
  | 0 => []
  | _ => []
 vs := fun σ => match σ with
  | .l0n x10 x11 => [T.nils, T.slf fu q fun i => T.str (f i), T.int .i64 x10, T.int .i64 x11]
  | .l0o L N x10 x11 H => [T.osl L 1 0 N, T.slf fu q fun i => T.str (f i), T.int .i64 x10, T.int .i64 x11]
 hp := fun σ => match σ with
  | .l0n _ _ => ⟨0, []⟩
  | .l0o _ _ _ _ H => H
 len := 28
 step := step28z m te fu q f
def r28z_0n (m : Int) (te : TypeId) (fu : Bool) (q : Nat) (f : Nat → List UInt8) (x10 x11 : Int) (fr : List T) (ds : List Bool) : RD Out := (M28z m te fu q f).rk prog (D40 m te) F0 f28 (.l0n x10 x11) fr ds
theorem w28z_0n_1 (m : Int) (te : TypeId) (fu : Bool) (q : Nat) (f : Nat → List UInt8) (x10 x11 : Int) (fr : List T) : outK prog f28 20 [] (r28z_0n m te fu q f x10 x11 fr [true, true]) = wdn (T.tup [T.nils, T.bool false]) (g28z_0n_1 m te fu q f x10 x11) := by kernel_rfl
theorem w28z_0n_2 (m : Int) (te : TypeId) (fu : Bool) (q : Nat) (f : Nat → List UInt8) (x10 x11 : Int) (fr : List T) : (M28z m te fu q f).wa prog f28 (r28z_0n m te fu q f x10 x11 fr [true, false]) 0 (g28z_0n_2 m te fu q f x10 x11) (.l0o 0 1 x10 (IntKind.i64.wrap (x11 + 1)) ({ next := 1, objs := [(0, { elem := 3, sz := 1, cells := [T.int .i64 (aV (f x11.toNat))] })] })) := by unfold Mch.wa; kernel_rfl
theorem w28z_0n_3 (m : Int) (te : TypeId) (fu : Bool) (q : Nat) (f : Nat → List UInt8) (x10 x11 : Int) (fr : List T) : outK prog f28 20 [] (r28z_0n m te fu q f x10 x11 fr [false]) = wdn (T.tup [T.nils, T.bool true]) (g28z_0n_3 m te fu q f x10 x11) := by kernel_rfl
def r28z_0o (m : Int) (te : TypeId) (fu : Bool) (q : Nat) (f : Nat → List UInt8) (L N : Nat) (x10 x11 : Int) (H : Hp) (fr : List T) (ds : List Bool) : RD Out := (M28z m te fu q f).rk prog (D40 m te) F0 f28 (.l0o L N x10 x11 H) fr ds
theorem w28z_0o_1 (m : Int) (te : TypeId) (fu : Bool) (q : Nat) (f : Nat → List UInt8) (L N : Nat) (x10 x11 : Int) (H : Hp) (fr : List T) : outK prog f28 20 [] (r28z_0o m te fu q f L N x10 x11 H fr [true, true]) = wdn (T.tup [T.nils, T.bool false]) (g28z_0o_1 m te fu q f L N x10 x11 H) := by kernel_rfl
theorem w28z_0o_2 (m : Int) (te : TypeId) (fu : Bool) (q : Nat) (f : Nat → List UInt8) (L N : Nat) (x10 x11 : Int) (H : Hp) (fr : List T) : (M28z m te fu q f).wa prog f28 (r28z_0o m te fu q f L N x10 x11 H fr [true, false]) 0 (g28z_0o_2 m te fu q f L N x10 x11 H) (.l0o H.next (N + 1) x10 (IntKind.i64.wrap (x11 + 1)) ({ next := H.next + 1, objs := (H.next, { elem := 3, sz := 1, cells := (obv H L).cells ++ [T.int .i64 (aV (f x11.toNat))] }) :: dropOb H.objs L })) := by unfold Mch.wa; kernel_rfl
theorem w28z_0o_3 (m : Int) (te : TypeId) (fu : Bool) (q : Nat) (f : Nat → List UInt8) (L N : Nat) (x10 x11 : Int) (H : Hp) (fr : List T) : outK prog f28 20 [] (r28z_0o m te fu q f L N x10 x11 H fr [false]) = wdq (q28z_0o_3 m te fu q f L N x10 x11 H) (g28z_0o_3 m te fu q f L N x10 x11 H) := by kernel_rfl
theorem w28z_s_1 (m : Int) (te : TypeId) (fu : Bool) (q : Nat) (f : Nat → List UInt8) : (M28z m te fu q f).wl prog f28 (runK prog (D40 m te) F0 2000 (.code (bodyOf f28)) [] 0 ([.slf fu q (fun i => .str (f i))] ++ List.replicate 27 undefT) ⟨0, []⟩ [] []) 0 (g28z_s_1 m te fu q f) (.l0n (↑q : Int) 0) := by unfold Mch.wl; kernel_rfl
theorem ways28z (m : Int) (te : TypeId) (fu : Bool) (q : Nat) (f : Nat → List UInt8) : (M28z m te fu q f).Ways prog (D40 m te) F0 f28 20 := by
 intro σ o fr h
 cases σ with
 | l0n x10 x11 =>
  obtain ⟨hk, ho⟩ := kv_some (K := K28z_0n m te fu q f x10 x11) (V := V28z_0n m te fu q f x10 x11) h
  exact (wk_if (wk_if (kD (w28z_0n_1 m te fu q f x10 x11 fr)) (kA (w28z_0n_2 m te fu q f x10 x11 fr) rfl)) (kD (w28z_0n_3 m te fu q f x10 x11 fr))) hk o ho
 | l0o L N x10 x11 H =>
  obtain ⟨hk, ho⟩ := kv_some (K := K28z_0o m te fu q f L N x10 x11 H) (V := V28z_0o m te fu q f L N x10 x11 H) h
  exact (wk_if (wk_if (kD (w28z_0o_1 m te fu q f L N x10 x11 H fr)) (kA (w28z_0o_2 m te fu q f L N x10 x11 H fr) rfl)) (kO (w28z_0o_3 m te fu q f L N x10 x11 H fr))) hk o ho
theorem oks28z (m : Int) (te : TypeId) (fu : Bool) (q : Nat) (f : Nat → List UInt8) : ∀ σ, Ps.codeOk (loopAt f28 ((M28z m te fu q f).lp σ)).1 = true ∧ ksOk (.lp :: (loopAt f28 ((M28z m te fu q f).lp σ)).2) = true := oks_of 1 (by kernel_rfl) (by intro σ; cases σ <;> exact Nat.le_of_ble_eq_true rfl)
theorem c28z (m : Int) (te : TypeId) (fu : Bool) (q : Nat) (f : Nat → List UInt8) (n : Nat) {r : T} (hk : K28z_s m te fu q f = true) (hr : (M28z m te fu q f).fin n (V28z_s m te fu q f) = some r) : PureFn prog (gl1 m te) 28 [.slf fu q (fun i => .str (f i))] r :=
 pure_mach (M := (M28z m te fu q f)) (fn := f28) (k := 20) (d := 8) (c := bodyOf f28) (cx40 m te) (gl1Frz m te) (by kernel_rfl) func28 (by kernel_rfl) rfl (by kernel_rfl) (by kernel_rfl) (L := 27) (by kernel_rfl) (ways28z m te fu q f) (oks28z m te fu q f) ((kL (w28z_s_1 m te fu q f) rfl) hk _ rfl) hr
end
end Go.Proofs.Tryz

/- number and numbers: the contracts. -/
namespace Go.Proofs.Tryz
open Go.Ps
set_option maxRecDepth 100000
noncomputable def aOk (s : List UInt8) : Bool := isNi (aE s)
theorem aV_range (s : List UInt8) (h : aOk s = true) : -9223372036854775808 ≤ aV s ∧ aV s ≤ 9223372036854775807 := by
 unfold aOk aE at h
 unfold aV
 split at h
 ·rename_i v hv
  rw [hv]
  simp only
  unfold Lib.atoiAll at hv
  split at hv
  ·cases hv
  ·simp only at hv
   split at hv
   ·cases hv
   ·cases hv
   ·split at hv
    ·cases hv
    ·split at hv
     ·cases hv
     ·cases hv
      rename_i h1 h2
      split
      ·rename_i h3
       simp only [h3, true_and] at h2
       omega
      ·rename_i h3
       simp only [h3, not_false_eq_true, true_and] at h1
       omega
 ·cases h
noncomputable def nOk (s : List UInt8) : Bool := aOk s && (decide (s.length ≤ 7) && itoaK (aV s) == s)
theorem number_ok {m : Int} {te : TypeId} (s : List UInt8) (hs : s.length ≤ 281474976710656) : PureFn prog (gl1 m te) 73 [.str s] (.tup [.int .i64 (aV s), .bool (nOk s)]) := by
 have a1 : decide (s.length ≤ 281474976710656) = true := decide_eq_true hs
 have a2 := aE_if s
 cases h : isNi (aE s) with
 | false =>
  refine c73z m te s 0 ?_ ?_
  ·unfold K73z_s; rw [h]; simp only [g73z_s_3, allT, h, a1, a2, Bool.not_false, Bool.and_true, Bool.false_eq_true, if_false, k73z_s_0]
  ·unfold V73z_s nOk aOk; rw [h]; rfl
 | true =>
  obtain ⟨r1, r2⟩ := aV_range s h
  have b1 := decide_eq_true r1
  have b2 := decide_eq_true r2
  by_cases h7 : s.length ≤ 7
  ·have c1 : decide ((s.length : Int) ≤ 7) = true := decide_eq_true (by omega)
   have c2 : decide (s.length ≤ 7) = true := decide_eq_true h7
   refine c73z m te s 0 ?_ ?_
   ·unfold K73z_s; rw [h, c1]; simp only [g73z_s_1, allT, h, a1, a2, b1, b2, c1, Bool.and_true, if_true, k73z_s_1, k73z_s_0]
   ·unfold V73z_s nOk aOk; rw [h, c1, c2]; rfl
  ·have c1 : decide ((s.length : Int) ≤ 7) = false := decide_eq_false (by omega)
   have c2 : decide (s.length ≤ 7) = false := decide_eq_false h7
   refine c73z m te s 0 ?_ ?_
   ·unfold K73z_s; rw [h, c1]; simp only [g73z_s_2, allT, h, a1, a2, c1, Bool.not_false, Bool.and_true, if_true, Bool.false_eq_true, if_false, k73z_s_1, k73z_s_0]
   ·unfold V73z_s nOk aOk; rw [h, c1, c2]; rfl
/-! ### numbers -/
noncomputable def allR (f : Nat → List UInt8) : Nat → Nat → Bool
 | 0, _ => true
 | q + 1, i => if aOk (f i) then allR f q (i + 1) else false
theorem rd_tup1 {g : G} {v : Value} {a a' b : T} (k : ∀ u, Rd g u a → Rd g u a') (h : Rd g v (.tup [a, b])) : Rd g v (.tup [a', b]) := by
 cases h with
 | tup _ vs h1 h2 =>
  refine .tup _ vs (by simpa using h1) (fun j u c hu hc => ?_)
  match j with
  | 0 => simp at hc; subst hc; exact k u (h2 0 u a hu rfl)
  | 1 => exact h2 1 u c hu hc
  | n + 2 => simp at hc
section
variable (m : Int) (te : TypeId) (fu : Bool) (q : Nat) (f : Nat → List UInt8) (hq : q ≤ 1000000) (hf : ∀ i, i < q → (f i).length ≤ 281474976710656)
include hq hf
def isz (xs : List Int) : List T := xs.map (T.int .i64)
def AtN (q : Nat) (xs : List Int) (i : Nat) (σ : S28z) : Prop := (xs = [] ∧ σ = .l0n q i) ∨ (xs ≠ [] ∧ ∃ L H, σ = .l0o L xs.length q i H ∧ H.get L = some ⟨3, 1, isz xs⟩)
theorem num_st (i : Nat) (hi : i < q) (xs : List Int) (hx : xs.length ≤ 1000000) (σ : S28z) (h : AtN q xs i σ) :
  (aOk (f i) = false → (M28z m te fu q f).step σ = some (.inr (.tup [.nils, .bool false]))) ∧ (aOk (f i) = true → ∃ σ', (M28z m te fu q f).step σ = some (.inl σ') ∧ AtN q (xs ++ [aV (f i)]) (i + 1) σ') := by
 have b1 : decide ((i : Int) < q) = true := decide_eq_true (by omega)
 have b2 : decide ((0 : Int) ≤ i) = true := decide_eq_true (by omega)
 have b3 : decide ((f i).length ≤ 281474976710656) = true := decide_eq_true (hf i hi)
 have b4 := aE_if (f i)
 have b5 := wsucc i (by omega)
 rcases h with ⟨rfl, rfl⟩ | ⟨hne, L, H, rfl, hH⟩
 ·have hst : ∀ b, isNi (aE (f i)) = b → (M28z m te fu q f).step (.l0n q i) = some (V28z_0n m te fu q f q i) := by
   intro b hb
   show step28z_0n m te fu q f q i = _
   refine T28z_0n m te fu q f q i ?_
   unfold K28z_0n
   simp only [Int.toNat_natCast]
   rw [if_pos b1]
   cases b <;> simp only [hb, g28z_0n_1, g28z_0n_2, Int.toNat_natCast, allT, b1, b2, b3, b4, Bool.not_false, Bool.not_true, Bool.and_true, if_true, Bool.false_eq_true, if_false, k28z_0n_0]
  refine ⟨fun hb => ?_, fun hb => ?_⟩
  ·rw [hst _ hb]
   unfold V28z_0n
   simp only [Int.toNat_natCast]
   have hb' : isNi (aE (f i)) = false := hb
   rw [if_pos b1, hb']; rfl
  ·have h2 := hst _ hb
   unfold V28z_0n at h2
   simp only [Int.toNat_natCast] at h2
   have hb' : isNi (aE (f i)) = true := hb
   rw [if_pos b1, hb', b5] at h2
   exact ⟨_, h2, .inr ⟨by simp, 0, _, rfl, rfl⟩⟩
 ·have b7 : obApp H L 3 1 xs.length = true := by
   unfold obApp
   rw [hH]
   simp [isz]
  have b8 : roomT (xs.length + 1) 8 = true := by
   unfold roomT
   rw [decide_eq_true (by omega), decide_eq_true (by omega)]
   rfl
  have hst : ∀ b, isNi (aE (f i)) = b → (M28z m te fu q f).step (.l0o L xs.length q i H) = some (V28z_0o m te fu q f L xs.length q i H) := by
   intro b hb
   show step28z_0o m te fu q f L xs.length q i H = _
   refine T28z_0o m te fu q f L xs.length q i H ?_
   unfold K28z_0o q28z_0o_3
   simp only [Int.toNat_natCast]
   rw [if_pos b1]
   cases b <;> simp only [hb, g28z_0o_1, g28z_0o_2, Int.toNat_natCast, allT, b1, b2, b3, b4, b7, b8, Bool.not_false, Bool.not_true, Bool.and_true, if_true, Bool.false_eq_true, if_false, k28z_0o_0]
  refine ⟨fun hb => ?_, fun hb => ?_⟩
  ·rw [hst _ hb]
   unfold V28z_0o q28z_0o_3
   simp only [Int.toNat_natCast]
   have hb' : isNi (aE (f i)) = false := hb
   rw [if_pos b1, hb']; rfl
  ·have h2 := hst _ hb
   unfold V28z_0o q28z_0o_3 at h2
   simp only [Int.toNat_natCast] at h2
   have hb' : isNi (aE (f i)) = true := hb
   rw [if_pos b1, hb', b5, obv_eq hH] at h2
   refine ⟨_, h2, .inr ⟨by simp, H.next, (H.drop L).new ⟨3, 1, isz xs ++ [T.int .i64 (aV (f i))]⟩, by simp; rfl, ?_⟩⟩
   rw [get_new, if_pos (show H.next = (H.drop L).next from rfl)]
   simp [isz]
def numT (xs : List Int) : T := if xs = [] then .nils else .sl false (isz xs)
theorem num_end (xs : List Int) (σ : S28z) (h : AtN q xs q σ) : (M28z m te fu q f).step σ = some (.inr (.tup [numT xs, .bool true])) := by
 have b0 : decide ((q : Int) < q) = false := decide_eq_false (by omega)
 rcases h with ⟨rfl, rfl⟩ | ⟨hne, L, H, rfl, hH⟩
 ·show step28z_0n m te fu q f q q = _
  rw [T28z_0n m te fu q f q q (by unfold K28z_0n; rw [b0]; simp only [g28z_0n_3, allT, b0, Bool.not_false, Bool.and_true, Bool.false_eq_true, if_false])]
  unfold V28z_0n
  rw [b0]; rfl
 ·have hz : frzT 19 H (.osl L 1 0 xs.length) = some (.sl false (isz xs)) := frz_row (d := 17) hH rfl (by simp [isz]) (by simp [isz, scal1])
  have hz2 : frzT 20 H (.tup [.osl L 1 0 xs.length, .bool true]) = some (.tup [.sl false (isz xs), .bool true]) := by
   show (match mapO (frzT 19 H) [.osl L 1 0 xs.length, .bool true] with | some ys => some (T.tup ys) | none => none) = _
   simp only [mapO, hz]
   rfl
  show step28z_0o m te fu q f L xs.length q q H = _
  rw [T28z_0o m te fu q f L xs.length q q H (by unfold K28z_0o q28z_0o_3; rw [b0, hz2]; simp only [g28z_0o_3, allT, b0, Bool.not_false, Bool.and_true, Bool.false_eq_true, if_false]; rfl)]
  unfold V28z_0o q28z_0o_3
  rw [b0, hz2]
  unfold numT
  rw [if_neg hne]; rfl
theorem num_run : ∀ (p i : Nat) (σ : S28z), p + i = q → AtN q ((List.range i).map fun j => aV (f j)) i σ →
  Runs (M28z m te fu q f) σ (if allR f p i then .tup [numT ((List.range q).map fun j => aV (f j)), .bool true] else .tup [.nils, .bool false]) := by
 intro p
 induction p with
 | zero =>
  intro i σ hp h
  have : i = q := by omega
  subst this
  exact .done (num_end m te fu i f hq hf _ σ h)
 | succ p ih =>
  intro i σ hp h
  obtain ⟨h1, h2⟩ := num_st m te fu q f hq hf i (by omega) _ (by simp; omega) σ h
  unfold allR
  cases hb : aOk (f i) with
  | false => exact .done (h1 hb)
  | true =>
   obtain ⟨σ', a, b⟩ := h2 hb
   refine .next a (ih (i + 1) σ' (by omega) ?_)
   rw [List.range_succ, List.map_append]
   exact b
end
theorem numbers_ok {m : Int} {te : TypeId} (fu : Bool) (q : Nat) (f : Nat → List UInt8) (hq : q ≤ 1000000) (hf : ∀ i, i < q → (f i).length ≤ 281474976710656) :
  PureFn prog (gl1 m te) 28 [.slf fu q (fun i => .str (f i))] (.tup [.slf false (if allR f q 0 then q else 0) (fun i => .int .i64 (aV (f i))), .bool (allR f q 0)]) := by
 obtain ⟨n, hr⟩ := num_run m te fu q f hq hf q 0 (.l0n q (0 : Nat)) (by omega) (.inl ⟨rfl, rfl⟩)
 have key : PureFn prog (gl1 m te) 28 [.slf fu q (fun i => .str (f i))] (if allR f q 0 then .tup [numT ((List.range q).map fun j => aV (f j)), .bool true] else .tup [.nils, .bool false]) :=
  c28z m te fu q f n rfl (by unfold V28z_s; exact hr)
 refine key.mono fun g v hv => ?_
 cases h : allR f q 0 with
 | false =>
  rw [h] at hv
  exact rd_tup1 (fun u hu => rd_nslf _ _ hu) hv
 | true =>
  rw [h] at hv
  refine rd_tup1 (fun u hu => ?_) hv
  unfold numT at hu
  simp only [if_true]
  split at hu
  ·rename_i e
   have : q = 0 := by simpa using e
   subst this
   exact rd_nslf _ _ hu
  ·exact rd_slf hu (fun x hx => by obtain ⟨z, _, rfl⟩ := List.mem_map.1 hx; rfl) (by simp [isz]) (fun i hi => by simp [isz, hi])
end Go.Proofs.Tryz

/- strings.SplitSeq's iterator: what it hands to the body of a range. -/
namespace Go.Proofs.Tryz
open Go.RowKit Go.Shelf Go.Ps
attribute [local go_sem] Oper.semAt_some
def lays143_ren : Go.Shelf.Ren := ⟨fun | 143 => 69 | 219 => 94 | 217 => 108 | 225 => 109 | 224 => 110 | 267 => 111 | 266 => 118 | 314 => 119 | n => n, fun | 9 => 9 | 4 => 4 | 59 => 94 | 3 => 3 | 5 => 5 | 46 => 125 | 146 => 142 | 51 => 129 | n => n, fun | 1 => 1 | n => n⟩
theorem lays143 : Go.Proofs.Lays.n143 prog lays143_ren := {
 mixed := by kernel_rfl
 f143 := func69.trans (congrArg some (by kernel_rfl))
 f217 := func108.trans (congrArg some (by kernel_rfl))
 f219 := func94.trans (congrArg some (by kernel_rfl))
 f224 := func110.trans (congrArg some (by kernel_rfl))
 f225 := func109.trans (congrArg some (by kernel_rfl))
 f266 := func118.trans (congrArg some (by kernel_rfl))
 f267 := func111.trans (congrArg some (by kernel_rfl))
 f314 := func119.trans (congrArg some (by kernel_rfl))
 t3 := underlying3
 a3 := isAgg3
 z3 := sizeOf3
 v3 := zeroValue3
 t4 := underlying4
 a4 := isAgg4
 z4 := sizeOf4
 v4 := zeroValue4
 t5 := underlying5
 a5 := isAgg5
 z5 := sizeOf5
 v5 := zeroValue5
 t9 := underlying9
 a9 := isAgg9
 z9 := sizeOf9
 v9 := zeroValue9
 t46 := underlying125
 a46 := isAgg125
 z46 := sizeOf125
 v46 := zeroValue125
 t51 := underlying129
 a51 := isAgg129
 z51 := sizeOf129
 v51 := zeroValue129
 t146 := underlying142
 a146 := isAgg142
 z146 := sizeOf142
 v146 := zeroValue142
 g1 := by kernel_rfl }
structure Sqc (m : Int) (sb cb vb : Nat) (sep t : ByteArray) (W : World) : Prop where
 s : W.cell? ⟨sb, 0, none⟩ = some (.string sep)
 c : W.cell? ⟨cb, 0, none⟩ = some (.string t)
 cf : W.frozen? ⟨cb, 0, none⟩ = false
 v : W.cell? ⟨vb, 0, none⟩ = some (.int .i64 0)
 m : W.cell? ⟨1, 0, none⟩ = some (.int .i64 m)
def Kpq (sb cb vb : Nat) (A B : World) : Prop := B.heap[sb]? = A.heap[sb]? ∧ B.heap[cb]? = A.heap[cb]? ∧ B.heap[vb]? = A.heap[vb]? ∧ B.heap[1]? = A.heap[1]?
theorem Sqc.kept {m : Int} {sb cb vb : Nat} {sep t : ByteArray} {A B : World} (h : Sqc m sb cb vb sep t A) (k : Kpq sb cb vb A B) : Sqc m sb cb vb sep t B :=
 ⟨(World.cell?_of_block k.1).trans h.s, (World.cell?_of_block k.2.1).trans h.c, by have := h.cf; unfold World.frozen? at this ⊢; simp only [k.2.1]; exact this, (World.cell?_of_block k.2.2.1).trans h.v, (World.cell?_of_block k.2.2.2).trans h.m⟩
def strSize : Option Value → Nat
 | some (.string s) => s.size
 | _ => 0
theorem sq_seq (m : Int) (sb cb vb : Nat) (h1 : sb ≠ cb) (h2 : vb ≠ cb) (h3 : cb ≠ 1) (sep : ByteArray) (hsep : 1 ≤ sep.size) (s : ByteArray) (hs : s.size < 4294967281) (n : Nat) (hn : 1 ≤ n) (K : Nat) (hK : s.size ≤ K) :
  SeqC Fence.wide n prog 115 #[.pointer (some ⟨sb, 0, none⟩), .pointer (some ⟨cb, 0, none⟩), .pointer (some ⟨vb, 0, none⟩)] (fun x : ByteArray => #[.string x]) cb (Kpq sb cb vb) (Sqc m sb cb vb sep s)
   (Lib.splitB sep 0 K s) := by
 intro l J Jx W hAt hJ hJx hY h0
 have hsep0 : ¬ (sep.size = 0) := by omega
 have hi := hAt.s
 refine callsIn_of_wp func115 rfl trivial ?_ rfl
 simp only [ntmps115, List.size_toArray, List.length_cons, List.length_nil, Nat.reduceAdd, Nat.reduceSub, Array.replicate_succ, Array.replicate_zero, List.push_toArray, List.append_toArray, List.nil_append, List.cons_append]
 gi_wp2
 gi_loopw [] (fun wr => ∃ (pre : List ByteArray) (k : Nat) (t : ByteArray), Lib.splitB sep 0 K s = pre ++ Lib.splitB sep 0 k t ∧ t.size ≤ k ∧ t.size < 4294967281 ∧ Sqc m sb cb vb sep t wr ∧ J pre wr)
  (fun wr => strSize (wr.cell? ⟨cb, 0, none⟩))
 case atStart => exact ⟨[], K, s, rfl, hK, hs, hAt, h0⟩
 case round =>
  obtain ⟨pre, k, t, hx, hk, hts, hq, hJs⟩ := hrel
  have q1 := hq.s
  have q2 := hq.c
  have q3 := hq.cf
  have q4 := hq.v
  have q5 := hq.m
  rcases Lib.index_spec t.data.toList sep.data.toList with ⟨hi1, _⟩ | ⟨i, hi1, hi2, _, _⟩
  ·obtain ⟨fn, tmps, assign, body, hy, hR⟩ := hY pre t wr (by rw [hx, Lib.splitB_miss sep 0 k t hi1]; exact List.prefix_refl _) hJs
   gi_wp2_with (refine ⟨trivial, ?_⟩; gi_at_call 69; refine (callsIn_wide.2 (Any.strings_Index lays143 t sep m wr hts q5)).mono ?_; rw [hi1]; rintro e w' ⟨rfl, rfl⟩)
   refine hR.mono ?_
   rintro e W3 (⟨rfl, hJ3, hk3⟩ | ⟨rfl, hJx3⟩)
   ·gi_wp2
    go_end0
    exact ⟨⟨_, rfl⟩, .inl (by rw [hx, Lib.splitB_miss sep 0 k t hi1]; exact hJ3)⟩
   ·gi_wp2
    go_end0
    exact ⟨⟨_, rfl⟩, .inr ⟨_, hJx3⟩⟩
  ·have e1 : t.data.toList.length = t.size := by first | exact Lib.size_eq t | exact (Lib.size_eq t).symm | rfl
   have e2 : sep.data.toList.length = sep.size := by first | exact Lib.size_eq sep | exact (Lib.size_eq sep).symm | rfl
   have hil := Lib.index_room t.data.toList sep.data.toList (by omega)
   have hl : 1 ≤ t.size := by omega
   obtain ⟨k', rfl⟩ : ∃ k', k = k' + 1 := ⟨k - 1, by omega⟩
   have hit := Lib.splitB_hit sep 0 k' t i hi1
   rw [Nat.add_zero] at hit
   obtain ⟨fn, tmps, assign, body, hy, hR⟩ := hY pre (t.extract 0 i) wr (by rw [hx, hit]; exact ⟨Lib.splitB sep 0 k' (t.extract (i + sep.size) t.size), by simp⟩) hJs
   have hb1 : (i : Int) ≤ t.size := by omega
   have hb2 : (i : Int) + sep.size ≤ t.size := by omega
   have hb3 : ((i : Int) + sep.size).toNat = i + sep.size := by omega
   gi_wp2_with (refine ⟨trivial, ?_⟩; gi_at_call 69; refine (callsIn_wide.2 (Any.strings_Index lays143 t sep m wr hts q5)).mono ?_; rw [hi1]; rintro e w' ⟨rfl, rfl⟩)
   refine hR.mono ?_
   rintro e W3 (⟨rfl, hJ3, hk3⟩ | ⟨rfl, hJx3⟩)
   ·have hq3 := hq.kept hk3
    have p1 := hq3.s
    have p2 := hq3.c
    have p3 := hq3.cf
    gi_wp2
    have hc' : (W3.setCell ⟨cb, 0, none⟩ (.string (t.extract (i + sep.size) t.size))).cell? ⟨cb, 0, none⟩ = some (.string (t.extract (i + sep.size) t.size)) := World.cell?_setCell_same' _ _ _ (by rw [p2]; rfl)
    have hsz : (t.extract (i + sep.size) t.size).size = t.size - (i + sep.size) := by rw [ByteArray.size_extract]; omega
    have ho : ∀ b, b ≠ cb → ∀ v, W3.cell? ⟨b, 0, none⟩ = some v → (W3.setCell ⟨cb, 0, none⟩ (.string (t.extract (i + sep.size) t.size))).cell? ⟨b, 0, none⟩ = some v := fun b hb v hv =>
     (World.cell?_of_block (Below.heap_setCell W3 ⟨cb, 0, none⟩ _ b hb)).trans hv
    refine ⟨⟨pre ++ [t.extract 0 i], k', t.extract (i + sep.size) t.size, by rw [hx, hit]; simp, by omega, by omega, ⟨ho _ h1 _ p1, hc', by rw [World.frozen?_setCell]; exact p3, ho _ h2 _ hq3.v, ho _ (fun e => h3 e.symm) _ hq3.m⟩, hJ.store _ _ _ hJ3⟩, ?_⟩
    rw [hc', q2]
    show (t.extract (i + sep.size) t.size).size < t.size
    omega
   ·gi_wp2
    refine bodyPost_ret (results_none rfl _ _ _) rfl ?_
    exact ⟨⟨_, rfl⟩, .inr ⟨_, hJx3⟩⟩
end Go.Proofs.Tryz

/- stamp.Parse: what it returns at every text. -/
namespace Go.Proofs.Tryz
noncomputable section
open Go.RowKit Go.Shelf Go.Ps
attribute [local go_sem] Oper.semAt_some
set_option maxRecDepth 100000
structure PG (m : Int) (te : TypeId) (g : G) (W : World) : Prop where
 ok : Gok g
 nw : ∃ N, ∀ l, N ≤ l → ¬ g.al l
 gl : GlOk (gl1 m te) g
 bl : Below g.w.heap.size g.w W
section
variable {m : Int} {te : TypeId} {g : G} {W : World}
theorem PG.more (h : PG m te g W) {W' : World} (hb : Below g.w.heap.size W W') : PG m te g W' := ⟨h.ok, h.nw, h.gl, h.bl.trans hb⟩
theorem PG.gok (h : PG m te g W) : Gok { g with w := W } := gok_below h.ok h.bl.size
theorem PG.glok (h : PG m te g W) : GlOk (gl1 m te) { g with w := W } := h.gl.pstep (pstep_below h.bl)
theorem PG.max (h : PG m te g W) : W.cell? ⟨1, 0, none⟩ = some (.int .i64 m) := maxLen_of h.glok
theorem number_pl (h : PG m te g W) (x : ByteArray) (hx : x.size ≤ 281474976710656) :
  Calls prog 73 #[.string x] W fun e w' => e = .returned (.tuple #[.int .i64 (aV x.data.toList), .bool (nOk x.data.toList)]) ∧ Below W.heap.size W w' := by
 refine ((number_ok (m := m) (te := te) x.data.toList (by have := Lib.size_eq x; omega)).2 { g with w := W } [.string x] h.gok h.nw h.glok (RdL.cons (.str x) RdL.nil)).mono ?_
 rintro e w' ⟨v, g', rfl, rfl, hp, _, hr⟩
 refine ⟨?_, ⟨hp.os, hp.tape, hp.output, hp.size, hp.block⟩⟩
 cases hr with
 | tup cs vs h1 h2 =>
  match vs, h1, h2 with
  | [a, b], _, h2 =>
   have r1 := h2 0 a _ rfl rfl
   have r2 := h2 1 b _ rfl rfl
   cases r1
   cases r2
   rfl
theorem seq_pl (n : Nat) (hn : 1 ≤ n) (s sep : ByteArray) (W : World) : CallsIn Fence.wide n prog 74 #[.string s, .string sep] W fun e w' =>
  e = .returned (.func (.func 115) #[] #[.pointer (some ⟨W.heap.size + 1, 0, none⟩), .pointer (some ⟨W.heap.size, 0, none⟩), .pointer (some ⟨W.heap.size + 1 + 1, 0, none⟩)]) ∧
   w' = ((W.alloc (.cells #[.string s] 9)).alloc (.cells #[.string sep] 9)).alloc (.cells #[.int .i64 0] 3) := by
 have h101 : ∀ n, CallsIn Fence.wide n prog 101 #[.string s, .string sep, .int .i64 0] W fun e w' =>
  e = .returned (.func (.func 115) #[] #[.pointer (some ⟨W.heap.size + 1, 0, none⟩), .pointer (some ⟨W.heap.size, 0, none⟩), .pointer (some ⟨W.heap.size + 1 + 1, 0, none⟩)]) ∧
   w' = ((W.alloc (.cells #[.string s] 9)).alloc (.cells #[.string sep] 9)).alloc (.cells #[.int .i64 0] 3) := by
  intro n
  refine callsIn_of_wp func101 rfl trivial ?_ rfl
  simp only [ntmps101, List.size_toArray, List.length_cons, List.length_nil, Nat.reduceAdd, Nat.reduceSub, Array.replicate_succ, Array.replicate_zero, List.push_toArray, List.append_toArray, List.nil_append, List.cons_append]
  gi_wp2
  go_ret
  exact ⟨rfl, rfl⟩
 refine callsIn_of_wp func74 rfl trivial ?_ rfl
 simp only [ntmps74, List.size_toArray, List.length_cons, List.length_nil, Nat.reduceAdd, Nat.reduceSub, Array.replicate_succ, Array.replicate_zero, List.push_toArray, List.append_toArray, List.nil_append, List.cons_append]
 gi_wp2_with (refine ⟨trivial, ?_⟩; gi_at_call 101; refine (h101 _).mono ?_; rintro e w' ⟨rfl, rfl⟩)
 go_ret
 exact ⟨rfl, rfl⟩
def pcs (t : List UInt8) : List ByteArray := Lib.splitB ⟨#[46]⟩ 0 t.length ⟨t.toArray⟩
theorem cut_size (s : ByteArray) (sep : List UInt8) : (⟨(Lib.cut s.data.toList sep).1.toArray⟩ : ByteArray).size ≤ s.size ∧ (⟨(Lib.cut s.data.toList sep).2.1.toArray⟩ : ByteArray).size ≤ s.size := by
 have e : s.data.toList.length = s.size := by first | exact Lib.size_eq s | exact (Lib.size_eq s).symm | rfl
 have k : ∀ l : List UInt8, (⟨l.toArray⟩ : ByteArray).size = l.length := fun l => by show l.toArray.size = _; simp
 have e' : s.data.toList.length ≤ s.size := by omega
 refine ⟨?_, ?_⟩ <;> rw [k] <;> refine Nat.le_trans ?_ e' <;> unfold Lib.cut <;> split
 ·simp only [List.length_take]; omega
 ·exact Nat.le_refl _
 ·simp only [List.length_drop]; omega
 ·exact Nat.zero_le _
def hdB (s : List UInt8) : List UInt8 := (Lib.cut s [47]).1
def tlB (s : List UInt8) : List UInt8 := (Lib.cut s [47]).2.1
def psp (s : List UInt8) : Sp := ⟨aV (hdB s), (pcs (tlB s)).length, fun i => aV ((pcs (tlB s)).getD i ByteArray.empty).data.toList⟩
def pOk (s : List UInt8) : Bool := nOk (hdB s) && ((pcs (tlB s)).all (fun x => nOk x.data.toList) && decide (chk (psp s) = 0))
def RP (g : G) (s : List UInt8) (e : Ending) (W' : World) : Prop :=
 Below g.w.heap.size g.w W' ∧ (pOk s = false ∧ e = .returned (.tuple #[.agg #[.int .i64 0, .slice none 0 0], .int .i64 13]) ∨
  pOk s = true ∧ ∃ rv, e = .returned (.tuple #[.agg #[.int .i64 (aV (hdB s)), rv], .int .i64 0]) ∧ W'.ownsRow g.w.heap.size 3 1 rv (pcs (tlB s)).length ((pcs (tlB s)).map fun x => .int .i64 (aV x.data.toList)))
def Stb (n0 B : Nat) (W W' : World) : Prop := Below n0 W W' ∧ ∀ (k : Nat) (c : Array Value) (e : TypeId) (f : Nat × Nat), (k = n0 ∨ k = n0 + 1 ∨ k = n0 + 2 ∨ B ≤ k) → W.heap[k]? = some (.cells c e f) → W'.heap[k]? = some (.cells c e f)
structure PI (g : G) (B : Nat) (A : Int) (pre : List ByteArray) (W : World) : Prop where
 bl : Below g.w.heap.size g.w W
 b0 : W.heap[g.w.heap.size]? = some (.cells #[.int .i64 0, .slice none 0 0] 39 (0, 0))
 b1 : W.heap[g.w.heap.size + 1]? = some (.cells #[.int .i64 0] 27 (0, 0))
 row : ∃ v, W.heap[g.w.heap.size + 2]? = some (.cells #[.int .i64 A, v] 39 (0, 0)) ∧ W.ownsRow B 3 1 v pre.length (pre.map fun x => .int .i64 (aV x.data.toList))
 all : pre.all (fun x => nOk x.data.toList) = true
 lt : B ≤ W.heap.size
structure PX (g : G) (xs : List ByteArray) (c : Code) (pre : List ByteArray) (W : World) : Prop where
 c : c = .ret
 bl : Below g.w.heap.size g.w W
 b0 : W.heap[g.w.heap.size]? = some (.cells #[.int .i64 0, .slice none 0 0] 39 (0, 0))
 b1 : W.heap[g.w.heap.size + 1]? = some (.cells #[.int .i64 13] 27 (0, 0))
 all : xs.all (fun x => nOk x.data.toList) = false
theorem PI.stb {B : Nat} {A : Int} {pre : List ByteArray} {W' : World} (h : PI g B A pre W) (k : Stb g.w.heap.size B W W') : PI g B A pre W' := by
 obtain ⟨v, h1, h2, h3⟩ := h.row
 refine ⟨h.bl.trans k.1, k.2 _ _ _ _ (.inl rfl) h.b0, k.2 _ _ _ _ (.inr (.inl rfl)) h.b1, ⟨v, k.2 _ _ _ _ (.inr (.inr (.inl rfl))) h1, h2, ?_⟩, h.all, Nat.le_trans h.lt k.1.size⟩
 rcases h3 with h3 | ⟨q, cap, cur, a, b, c, d⟩
 ·exact .inl h3
 ·exact .inr ⟨q, cap, cur, a, b, k.2 _ _ _ _ (.inr (.inr (.inr b))) c, d⟩
theorem PX.stb {B : Nat} {xs : List ByteArray} {c : Code} {pre : List ByteArray} {W' : World} (h : PX g xs c pre W) (k : Stb g.w.heap.size B W W') : PX g xs c pre W' :=
 ⟨h.c, h.bl.trans k.1, k.2 _ _ _ _ (.inl rfl) h.b0, k.2 _ _ _ _ (.inr (.inl rfl)) h.b1, h.all⟩
theorem stb_below {n0 B : Nat} {W W' : World} (hn : n0 ≤ W.heap.size) (k : Below W.heap.size W W') : Stb n0 B W W' := ⟨k.mono hn, fun j c e f _ hj => (k.block j (Array.getElem?_eq_some_iff.1 hj).1).trans hj⟩
theorem stb_alloc {n0 B : Nat} {W : World} (hn : n0 ≤ W.heap.size) (o : Obj) : Stb n0 B W (W.alloc o) := stb_below hn ((Below.refl _ W).alloc (Nat.le_refl _) o)
theorem stb_drew {n0 B : Nat} {W : World} (hn : n0 ≤ W.heap.size) : Stb n0 B W W.drew := stb_below hn (Below.refl _ W).drew
theorem stb_store {n0 B cb : Nat} {W : World} (h1 : n0 + 3 ≤ cb) (h2 : cb < B) (v : Value) : Stb n0 B W (W.setCell ⟨cb, 0, none⟩ v) :=
 ⟨(Below.refl _ W).setCell (p := ⟨cb, 0, none⟩) (by show n0 ≤ cb; omega) v, fun j c e f hq hj => (Below.heap_setCell W _ v j (by show j ≠ cb; omega)).trans hj⟩
theorem stb_put {n0 B l : Nat} {W : World} (h1 : n0 ≤ B) (hl : B ≤ l) {o : Obj} (ho : W.heap[l]? = some o) (hc : o.isCells = false) (o' : Obj) : Stb n0 B W (W.putObj l o') :=
 ⟨⟨rfl, rfl, rfl, by simp [World.putObj], fun k hk => World.putObj_heap_other (by omega)⟩, fun j c e f hq hj => (World.putObj_heap_other (fun q => by subst q; rw [hj] at ho; cases ho; cases hc)).trans hj⟩
theorem ow_PI {B cb : Nat} {A : Int} (h1 : g.w.heap.size + 3 ≤ cb) (h2 : cb < B) : OwC B cb (PI g B A) where
 alloc s W o h := h.stb (stb_alloc h.bl.size o)
 drew s W h := h.stb (stb_drew h.bl.size)
 store s W v h := h.stb (stb_store h1 h2 v)
 put s W l o o' h hl ho hc := h.stb (stb_put (by omega) hl ho hc o')
theorem ow_PX {B cb : Nat} {xs : List ByteArray} (h1 : g.w.heap.size + 3 ≤ cb) (h2 : cb < B) (c : Code) : OwC B cb (PX g xs c) where
 alloc s W o h := h.stb (B := B) (stb_alloc h.bl.size o)
 drew s W h := h.stb (B := B) (stb_drew h.bl.size)
 store s W v h := h.stb (B := B) (stb_store h1 h2 v)
 put s W l o o' h hl ho hc := h.stb (B := B) (stb_put (by omega) hl ho hc o')
theorem piece_size (sep : ByteArray) : ∀ (k : Nat) (s x : ByteArray), x ∈ Lib.splitB sep 0 k s → x.size ≤ s.size
 | 0, s, x, h => by simp [Lib.splitB] at h; subst h; exact Nat.le_refl _
 | k + 1, s, x, h => by
  unfold Lib.splitB at h
  split at h
  ·simp at h; subst h; exact Nat.le_refl _
  ·rcases List.mem_cons.1 h with rfl | h
   ·rw [ByteArray.size_extract]; omega
   ·have := piece_size sep k _ x h
    rw [ByteArray.size_extract] at this; omega
theorem splitB_len (sep : ByteArray) (hs : 1 ≤ sep.size) : ∀ (k : Nat) (s : ByteArray), (Lib.splitB sep 0 k s).length ≤ s.size + 1
 | 0, s => by simp [Lib.splitB]
 | k + 1, s => by
  unfold Lib.splitB
  split
  ·simp
  ·rename_i hne
   have := splitB_len sep hs k (s.extract ((Lib.indexB s sep).toNat + sep.size) s.size)
   rw [ByteArray.size_extract] at this
   have hr : 1 ≤ s.size := by
    rcases Lib.index_spec s.data.toList sep.data.toList with ⟨hi1, _⟩ | ⟨i, hi1, hi2, _, _⟩
    ·exact absurd (beq_iff_eq.2 hi1) hne
    ·have e1 : s.data.toList.length = s.size := by first | exact Lib.size_eq s | exact (Lib.size_eq s).symm | rfl
     have e2 : sep.data.toList.length = sep.size := by first | exact Lib.size_eq sep | exact (Lib.size_eq sep).symm | rfl
     have hil := Lib.index_room s.data.toList sep.data.toList (by omega)
     omega
   simp only [List.length_cons]; omega
theorem info3 : (prog.info? 3).map (fun i => (i.zero, i.size, i.bytes)) = some (some (.int .i64 0), 1, 8) := by kernel_rfl
theorem ownBlock_ge {W : World} {B e sz : Nat} {v : Value} {n : Nat} {xs : List Value} (h : W.ownsRow B e sz v n xs) (k : Nat) (hk : v.ownBlock = some k) : B ≤ k ∧ ∃ cur, W.heap[k]? = some (.cells cur e (0, 0)) := by
 rcases h.2 with ⟨rfl, _⟩ | ⟨q, cap, cur, rfl, hb, hc, _⟩
 ·cases hk
 ·cases hk; exact ⟨hb, cur, hc⟩
theorem PI.appended {B : Nat} {A z : Int} {pre : List ByteArray} {x : ByteArray} {W w1 : World} {v v' : Value} {o : Obj} (h : PI g B A pre W) (hB : g.w.heap.size + 3 ≤ B) (r1 : W.heap[g.w.heap.size + 2]? = some (.cells #[.int .i64 A, v] 39 (0, 0)))
  (r2 : W.ownsRow B 3 1 v pre.length (pre.map fun x => .int .i64 (aV x.data.toList))) (hg : (W.alloc o).grownBy w1 v.ownBlock) (hown : w1.ownsRow B 3 1 v' (pre.length + 1) ((pre.map fun x => Value.int .i64 (aV x.data.toList)) ++ [.int .i64 z]))
  (hz : z = aV x.data.toList) (hk : nOk x.data.toList = true) :
  w1.heap[g.w.heap.size + 2]? = some (.cells #[.int .i64 A, v] 39 (0, 0)) ∧ PI g B A (pre ++ [x]) (w1.setCell ⟨g.w.heap.size + 2, 1, none⟩ v') ∧ (∀ k, k < B → k ≠ g.w.heap.size + 2 → (w1.setCell ⟨g.w.heap.size + 2, 1, none⟩ v').heap[k]? = W.heap[k]?) ∧ KeepsFrom B W (w1.setCell ⟨g.w.heap.size + 2, 1, none⟩ v') := by
 have hlt := h.lt
 have hs : (W.alloc o).heap.size = W.heap.size + 1 := by simp
 have low : ∀ k, k < B → w1.heap[k]? = W.heap[k]? := fun k hk => (hg.block k (by omega) (fun e => by have := (ownBlock_ge r2 k e.symm).1; omega)).trans (Below.heap_alloc _ _ _ (by omega))
 have lo2 : ∀ k, k < B → k ≠ g.w.heap.size + 2 → (w1.setCell ⟨g.w.heap.size + 2, 1, none⟩ v').heap[k]? = W.heap[k]? := fun k hk hn => (Below.heap_setCell _ _ _ _ hn).trans (low k hk)
 have q1 := (low _ (by omega)).trans r1
 have hsz : (w1.setCell ⟨g.w.heap.size + 2, 1, none⟩ v').heap.size = w1.heap.size := by simp [World.setCell]
 have hsz2 := hg.size
 refine ⟨q1, ⟨h.bl.trans ⟨hg.os, hg.tape, hg.output, by omega, fun k hk => lo2 k (by omega) (by omega)⟩, (lo2 _ (by omega) (by omega)).trans h.b0, (lo2 _ (by omega) (by omega)).trans h.b1, ⟨v', ?_, ?_⟩, ?_, by omega⟩, lo2, ⟨by omega, fun k ob hk hob hc => ?_⟩⟩
 ·simp [World.setCell, Array.getElem?_modify, q1]
 ·rw [List.length_append, List.map_append]
  subst hz
  refine ⟨hown.1, ?_⟩
  rcases hown.2 with q | ⟨q, cap, cur, a, b, c, d⟩
  ·exact .inl q
  ·exact .inr ⟨q, cap, cur, a, b, (Below.heap_setCell _ _ _ _ (by show q ≠ g.w.heap.size + 2; omega)).trans c, d⟩
 ·rw [List.all_append, h.all]; simp [hk]
 ·refine (Below.heap_setCell _ _ _ _ (by show k ≠ g.w.heap.size + 2; omega)).trans ?_
  have hkl := (Array.getElem?_eq_some_iff.1 hob).1
  refine ((hg.block k (by omega) (fun e => ?_)).trans (Below.heap_alloc _ _ _ hkl)).trans hob
  obtain ⟨_, cur, q⟩ := ownBlock_ge r2 k e.symm
  rw [hob] at q; cases q; cases hc
theorem keeps_below {B : Nat} {W W' : World} (h : Below W.heap.size W W') : KeepsFrom B W W' := ⟨h.size, fun k o _ hk _ => (h.block k (Array.getElem?_eq_some_iff.1 hk).1).trans hk⟩
theorem PI.left {B : Nat} {A : Int} {pre xs : List ByteArray} {W : World} (h : PI g B A pre W) (hB : g.w.heap.size + 3 ≤ B) (q : List ByteArray) (hx : xs.all (fun x => nOk x.data.toList) = false) :
  KeepsFrom B W (((W.setCell ⟨g.w.heap.size, 0, none⟩ (.int .i64 0)).setCell ⟨g.w.heap.size, 1, none⟩ (.slice none 0 0)).setCell ⟨g.w.heap.size + 1, 0, none⟩ (.int .i64 13)) ∧
   PX g xs .ret q (((W.setCell ⟨g.w.heap.size, 0, none⟩ (.int .i64 0)).setCell ⟨g.w.heap.size, 1, none⟩ (.slice none 0 0)).setCell ⟨g.w.heap.size + 1, 0, none⟩ (.int .i64 13)) := by
 refine ⟨⟨by simp [World.setCell], fun k o hk hob _ => ?_⟩, ⟨rfl, ?_, ?_, ?_, hx⟩⟩
 ·exact (Below.heap_setCell _ _ _ _ (by show k ≠ g.w.heap.size + 1; omega)).trans ((Below.heap_setCell _ _ _ _ (by show k ≠ g.w.heap.size; omega)).trans ((Below.heap_setCell _ _ _ _ (by show k ≠ g.w.heap.size; omega)).trans hob))
 ·exact ((h.bl.setCell (p := ⟨g.w.heap.size, 0, none⟩) (Nat.le_refl _) _).setCell (p := ⟨g.w.heap.size, 1, none⟩) (Nat.le_refl _) _).setCell (p := ⟨g.w.heap.size + 1, 0, none⟩) (Nat.le_add_right _ _) _
 ·refine (Below.heap_setCell _ _ _ _ (by show g.w.heap.size ≠ g.w.heap.size + 1; omega)).trans ?_
  simp [World.setCell, Array.getElem?_modify, h.b0]
 ·have := h.b1
  simp [World.setCell, Array.getElem?_modify, this]
theorem row_rd {B : Nat} {v : Value} {xs : List Int} {n : Nat} (h : W.ownsRow B 3 1 v n (xs.map (Value.int .i64))) (f : Nat → Int) (hf : ∀ i z, xs[i]? = some z → f i = z) :
  RdI { g with w := W, S := fun b => g.S b ∨ v.ownBlock = some b } v (.slf false n (fun i => .int .i64 (f i))) := by
 obtain ⟨h1, h2⟩ := h
 rcases h2 with ⟨rfl, rfl⟩ | ⟨q, cap, cur, rfl, hb, hc, h3, h4, h5, h6⟩
 ·exact .slfn _ _ _
 ·refine .slf false n _ 1 q 0 cap (xs.map (Value.int .i64)) (fun _ => .inr rfl) (fun i _ => rfl) h3 h4 (fun e => by cases e) h1 (fun j u hu => ?_) (fun i j u c hi hj hu hc' => ?_)
  ·rw [← h6, List.getElem?_take] at hu
   split at hu
   ·show W.cell? _ = _
    simp [World.cell?, hc] at hu ⊢; exact hu
   ·cases hu
  ·have hj0 : j = 0 := by omega
   subst hj0
   simp only [T.cells, List.getElem?_cons_zero, Option.some.injEq] at hc'
   subst hc'
   simp only [Nat.mul_one, Nat.add_zero, List.getElem?_map, Option.map_eq_some_iff] at hu
   obtain ⟨z, hz, rfl⟩ := hu
   rw [hf i z hz]
   exact .int _ _
theorem row_gok {B : Nat} {v : Value} {vs : List Value} {n : Nat} (h : PG m te g W) (hr : W.ownsRow B 3 1 v n vs) : Gok { g with w := W, S := fun b => g.S b ∨ v.ownBlock = some b } := by
 intro b hb
 rcases hb with hb | hb
 ·exact h.gok b hb
 ·obtain ⟨_, cur, q⟩ := ownBlock_ge hr b hb
  exact (Array.getElem?_eq_some_iff.1 q).1
theorem row_glok {B : Nat} {v : Value} {vs : List Value} {n : Nat} (h : PG m te g W) (hr : W.ownsRow B 3 1 v n vs) (hB : g.w.heap.size ≤ B) : PStep g { g with w := W, S := fun b => g.S b ∨ v.ownBlock = some b } :=
 ⟨h.bl.os, h.bl.tape, h.bl.output, h.bl.size, h.bl.block, fun b hb => .inl hb, fun b hb => hb.elim .inl (fun q => .inr (by have := (ownBlock_ge hr b q).1; omega)), rfl, rfl, rfl⟩
theorem check_pl {B n : Nat} {v : Value} {A : Int} {xs : List Int} (h : PG m te g W) (hr : W.ownsRow B 3 1 v n (xs.map (Value.int .i64))) (hB : g.w.heap.size ≤ B) (hn : n ≤ 281474976710656) (f : Nat → Int) (hf : ∀ i z, xs[i]? = some z → f i = z) :
  Calls prog 41 #[.agg #[.int .i64 A, v]] W fun e w' => e = .returned (.int .i64 (chk ⟨A, n, f⟩)) ∧ Below W.heap.size W w' := by
 have hp := row_glok h hr hB
 refine ((pure1 (m := m) (te := te) (c32 ⟨A, n, f⟩ hn)).2 { g with w := W, S := fun b => g.S b ∨ v.ownBlock = some b } [.agg #[.int .i64 A, v]] (row_gok h hr) h.nw (h.gl.pstep hp) (RdL.cons ?_ RdL.nil)).mono ?_
 ·exact Rd.mk_agg (vs := [.int .i64 A, v]) (RdL.cons (.int _ _) (RdL.cons (row_rd hr f hf).rd RdL.nil))
 ·rintro e w' ⟨u, g', rfl, rfl, hp', _, hu⟩
  cases hu
  exact ⟨rfl, ⟨hp'.os, hp'.tape, hp'.output, hp'.size, hp'.block⟩⟩
theorem parse_end {W : World} {a b c : Value} {tmps : Array Value} (h0 : W.heap[g.w.heap.size]? = some (.cells #[a, b] 39 (0, 0))) (h1 : W.heap[g.w.heap.size + 1]? = some (.cells #[c] 27 (0, 0)))
  (t2 : tmps[2]?.getD undef = .pointer (some ⟨g.w.heap.size, 0, none⟩)) (t3 : tmps[3]?.getD undef = .pointer (some ⟨g.w.heap.size + 1, 0, none⟩)) : (results f50 tmps).run prog W = .ok (.tuple #[.agg #[a, b], c]) W := by
 have f1 : W.cell? ⟨g.w.heap.size, 0, none⟩ = some a := by simp [World.cell?, h0]
 have f2 : W.cell? ⟨g.w.heap.size, 1, none⟩ = some b := by simp [World.cell?, h0]
 have f3 : W.cell? ⟨g.w.heap.size + 1, 0, none⟩ = some c := by simp [World.cell?, h1]
 simp [results, f50, go_sem, f1, f2, f3, t2, t3]
theorem below_end {n0 D : Nat} {w W : World} (h : Below n0 w W) (hD : n0 ≤ D) (a b c : Value) : Below n0 w ((((W.setCell ⟨n0, 0, none⟩ a).setCell ⟨n0, 1, none⟩ b).setCell ⟨n0 + 1, 0, none⟩ c).putObj D (.deferred none)) :=
 (((h.setCell (p := ⟨n0, 0, none⟩) (Nat.le_refl _) a).setCell (p := ⟨n0, 1, none⟩) (Nat.le_refl _) b).setCell (p := ⟨n0 + 1, 0, none⟩) (Nat.le_add_right _ _) c).trans ⟨rfl, rfl, rfl, by simp [World.putObj], fun k hk => World.putObj_heap_other (by omega)⟩
set_option maxHeartbeats 4000000 in
theorem parse_w (s : ByteArray) (hs : s.size < 4294967281) (h : PG m te g g.w) : CallsIn Fence.wide 6 prog 50 #[.string s] g.w (RP g s.data.toList) := by
 refine callsIn_of_wp_marks func50 rfl trivial ?_ rfl
 simp only [ntmps50, List.size_toArray, List.length_cons, List.length_nil, Nat.reduceAdd, Nat.reduceSub, Array.replicate_succ, Array.replicate_zero, List.push_toArray, List.append_toArray, List.nil_append, List.cons_append]
 gi_wp2
 have hb0 : Below g.w.heap.size g.w ((g.w.alloc (Obj.cells #[Value.int IntKind.i64 0, Value.slice none 0 0] 39)).alloc (Obj.cells #[Value.int IntKind.i64 0] 27)) := ((Below.refl _ g.w).alloc (Nat.le_refl _) _).alloc (by simp) _
 have c0 : ((g.w.alloc (Obj.cells #[Value.int IntKind.i64 0, Value.slice none 0 0] 39)).alloc (Obj.cells #[Value.int IntKind.i64 0] 27)).heap[g.w.heap.size]? = some (.cells #[.int .i64 0, .slice none 0 0] 39 (0, 0)) := (Below.heap_alloc _ _ _ (by simp)).trans (World.alloc_heap_new g.w _)
 have c1 : ((g.w.alloc (Obj.cells #[Value.int IntKind.i64 0, Value.slice none 0 0] 39)).alloc (Obj.cells #[Value.int IntKind.i64 0] 27)).heap[g.w.heap.size + 1]? = some (.cells #[.int .i64 0] 27 (0, 0)) := by
  have := World.alloc_heap_new (g.w.alloc (Obj.cells #[Value.int IntKind.i64 0, Value.slice none 0 0] 39)) (.cells #[.int .i64 0] 27); rwa [World.size_alloc] at this
 have c2 : ((g.w.alloc (Obj.cells #[Value.int IntKind.i64 0, Value.slice none 0 0] 39)).alloc (Obj.cells #[Value.int IntKind.i64 0] 27)).heap.size = g.w.heap.size + 2 := by simp
 generalize ((g.w.alloc (Obj.cells #[Value.int IntKind.i64 0, Value.slice none 0 0] 39)).alloc (Obj.cells #[Value.int IntKind.i64 0] 27)) = W0 at hb0 c0 c1 c2 ⊢
 have h0 := h.more hb0
 obtain ⟨hd, tl, fo, Hc⟩ : ∃ (hd tl : ByteArray) (fo : Bool), Hid (hd = ⟨(Lib.cut s.data.toList [47]).1.toArray⟩ ∧ tl = ⟨(Lib.cut s.data.toList [47]).2.1.toArray⟩ ∧ fo = (Lib.cut s.data.toList [47]).2.2) := ⟨_, _, _, rfl, rfl, rfl⟩
 have hsz := cut_size s [47]
 rw [← Hc.out.1, ← Hc.out.2.1] at hsz
 refine ⟨trivial, (callsIn_wide.2 (Any.strings_Cut lays145 s ⟨#[47]⟩ m W0 hs h0.max)).mono ?_⟩
 rintro e w' ⟨rfl, n, rfl⟩
 rw [show (⟨#[47]⟩ : ByteArray).data.toList = [47] from rfl, ← Hc.out.1, ← Hc.out.2.1, ← Hc.out.2.2]
 have hb1 : Below g.w.heap.size W0 (W0.drewN n) := ⟨by simp [World.drewN], by simp [World.drewN], by simp [World.drewN], by simp [World.drewN], fun k _ => by simp [World.drewN]⟩
 have h1 := h0.more hb1
 have d0 : (W0.drewN n).heap[g.w.heap.size]? = some (.cells #[.int .i64 0, .slice none 0 0] 39 (0, 0)) := by simpa [World.drewN] using c0
 have d1 : (W0.drewN n).heap[g.w.heap.size + 1]? = some (.cells #[.int .i64 0] 27 (0, 0)) := by simpa [World.drewN] using c1
 have d2 : (W0.drewN n).heap.size = g.w.heap.size + 2 := by simpa [World.drewN] using c2
 generalize W0.drewN n = W1 at h1 d0 d1 d2 ⊢
 clear c0 c1 c2 hb0 hb1 h0
 gi_wp2
 have hb2 : Below g.w.heap.size W1 (W1.alloc (Obj.cells #[Value.int IntKind.i64 0, Value.slice none 0 0] 39)) := (Below.refl _ W1).alloc (by omega) _
 have h2 := h1.more hb2
 refine ⟨trivial, (callsIn_wide.2 (number_pl h2 hd (by omega))).mono ?_⟩
 rintro e W2 ⟨rfl, hb3⟩
 have h3 := h2.more (hb3.mono (by simp; omega))
 have e0 : W2.heap[g.w.heap.size]? = some (.cells #[.int .i64 0, .slice none 0 0] 39 (0, 0)) := (hb3.block _ (by simp; omega)).trans ((Below.heap_alloc _ _ _ (by omega)).trans d0)
 have e1 : W2.heap[g.w.heap.size + 1]? = some (.cells #[.int .i64 0] 27 (0, 0)) := (hb3.block _ (by simp; omega)).trans ((Below.heap_alloc _ _ _ (by omega)).trans d1)
 have e2 : W2.heap[g.w.heap.size + 2]? = some (.cells #[.int .i64 0, .slice none 0 0] 39 (0, 0)) := (hb3.block _ (by simp; omega)).trans (by have := World.alloc_heap_new W1 (Obj.cells #[Value.int IntKind.i64 0, Value.slice none 0 0] 39); rwa [d2] at this)
 have e3 : g.w.heap.size + 3 ≤ W2.heap.size := by have := hb3.size; simp at this; omega
 clear d0 d1 d2 hb2 hb3 h1 h2
 obtain ⟨A, HA⟩ : ∃ A, Hid (A = aV hd.data.toList) := ⟨_, rfl⟩
 obtain ⟨ok, Hok⟩ : ∃ ok, Hid (ok = nOk hd.data.toList) := ⟨_, rfl⟩
 rw [← HA.out, ← Hok.out]
 have f1 : W2.cell? ⟨g.w.heap.size + 2, 0, none⟩ = some (.int .i64 0) := by simp [World.cell?, e2]
 have f2 : W2.frozen? ⟨g.w.heap.size + 2, 0, none⟩ = false := by simp [World.frozen?, e2]
 have f3 : W2.cell? ⟨g.w.heap.size, 0, none⟩ = some (.int .i64 0) := by simp [World.cell?, e0]
 have f4 : W2.frozen? ⟨g.w.heap.size, 0, none⟩ = false := by simp [World.frozen?, e0]
 have f5 : W2.cell? ⟨g.w.heap.size, 1, none⟩ = some (.slice none 0 0) := by simp [World.cell?, e0]
 have f6 : W2.frozen? ⟨g.w.heap.size, 1, none⟩ = false := by simp [World.frozen?, e0]
 have f7 : W2.cell? ⟨g.w.heap.size + 1, 0, none⟩ = some (.int .i64 0) := by simp [World.cell?, e1]
 have f8 : W2.frozen? ⟨g.w.heap.size + 1, 0, none⟩ = false := by simp [World.frozen?, e1]
 cases ok with
 | false =>
  gi_wp2
  refine ⟨.tuple #[.agg #[.int .i64 0, .slice none 0 0], .int .i64 13], ?_, h3.bl.trans (((((Below.refl g.w.heap.size W2).setCell (p := ⟨g.w.heap.size + 2, 0, none⟩) (Nat.le_add_right _ _) _).setCell (p := ⟨g.w.heap.size, 0, none⟩) (Nat.le_refl _) _).setCell (p := ⟨g.w.heap.size, 1, none⟩) (Nat.le_refl _) _).setCell (p := ⟨g.w.heap.size + 1, 0, none⟩) (Nat.le_add_right _ _) _), .inl ⟨?_, rfl⟩⟩
  ·simp [results, f50, go_sem, f3, f5, f7]
  ·unfold pOk hdB
   have := Hok.out
   rw [Hc.out.1] at this
   have e5 : (⟨(Lib.cut s.data.toList [47]).1.toArray⟩ : ByteArray).data.toList = (Lib.cut s.data.toList [47]).1 := by simp
   rw [e5] at this
   rw [← this]; rfl
 | true =>
  gi_wp2
  obtain ⟨W3, HW3⟩ : ∃ W3, W3 = W2.setCell { block := g.w.heap.size + 2, off := 0 } (Value.int IntKind.i64 A) := ⟨_, rfl⟩
  have hb4 : Below g.w.heap.size W2 W3 := by rw [HW3]; exact (Below.refl _ W2).setCell (by show g.w.heap.size ≤ g.w.heap.size + 2; omega) _
  have h4 := h3.more hb4
  have g0 : W3.heap[g.w.heap.size]? = some (.cells #[.int .i64 0, .slice none 0 0] 39 (0, 0)) := by rw [HW3]; exact (Below.heap_setCell _ _ _ _ (by show g.w.heap.size ≠ g.w.heap.size + 2; omega)).trans e0
  have g1 : W3.heap[g.w.heap.size + 1]? = some (.cells #[.int .i64 0] 27 (0, 0)) := by rw [HW3]; exact (Below.heap_setCell _ _ _ _ (by show g.w.heap.size + 1 ≠ g.w.heap.size + 2; omega)).trans e1
  have g2 : W3.heap[g.w.heap.size + 2]? = some (.cells #[.int .i64 A, .slice none 0 0] 39 (0, 0)) := by rw [HW3]; simp [World.setCell, Array.getElem?_modify, e2]
  have g3 : g.w.heap.size + 3 ≤ W3.heap.size := by have := hb4.size; omega
  rw [← HW3]
  clear HW3 hb4 e0 e1 e2 e3 f1 f2 f3 f4 f5 f6 f7 f8 h3
  refine ⟨trivial, (seq_pl 5 (by omega) tl ⟨#[46]⟩ W3).mono ?_⟩
  rintro e w' ⟨rfl, rfl⟩
  gi_wp2
  obtain ⟨W4, HW4⟩ : ∃ W4, ((W3.alloc (.cells #[.string tl] 9)).alloc (.cells #[.string ⟨#[46]⟩] 9)).alloc (.cells #[.int .i64 0] 3) = W4 := ⟨_, rfl⟩
  have hz4 : W4.heap.size = W3.heap.size + 3 := by rw [← HW4]; simp
  have hst : Stb g.w.heap.size (W3.heap.size + 3) W3 W4 := by
   refine stb_below h4.bl.size ?_
   rw [← HW4]
   exact (((Below.refl _ W3).alloc (Nat.le_refl _) _).alloc (by simp) _).alloc (by simp; omega) _
  have hI0 : PI g (W3.heap.size + 3) A [] W4 := by
   refine ⟨h4.bl.trans hst.1, hst.2 _ _ _ _ (.inl rfl) g0, hst.2 _ _ _ _ (.inr (.inl rfl)) g1, ⟨_, hst.2 _ _ _ _ (.inr (.inr (.inl rfl))) g2, World.ownsRow_nil _ _ _ _⟩, rfl, by omega⟩
  have hw0 : W4.heap[W3.heap.size]? = some (.cells #[.string tl] 9 (0, 0)) := by
   rw [← HW4]; exact ((Below.heap_alloc _ _ _ (by simp; omega)).trans (Below.heap_alloc _ _ _ (by simp))).trans (World.alloc_heap_new W3 _)
  have hw1 : W4.heap[W3.heap.size + 1]? = some (.cells #[.string ⟨#[46]⟩] 9 (0, 0)) := by
   rw [← HW4]; refine (Below.heap_alloc _ _ _ (by simp)).trans ?_
   have := World.alloc_heap_new (W3.alloc (.cells #[.string tl] 9)) (.cells #[.string ⟨#[46]⟩] 9); rwa [World.size_alloc] at this
  have hw2 : W4.heap[W3.heap.size + 1 + 1]? = some (.cells #[.int .i64 0] 3 (0, 0)) := by
   rw [← HW4]
   have := World.alloc_heap_new ((W3.alloc (.cells #[.string tl] 9)).alloc (.cells #[.string ⟨#[46]⟩] 9)) (.cells #[.int .i64 0] 3); rwa [World.size_alloc, World.size_alloc] at this
  have h1lt : 1 < g.w.heap.size := lt_of_cell h.max
  have hSq : Sqc m (W3.heap.size + 1) W3.heap.size (W3.heap.size + 1 + 1) ⟨#[46]⟩ tl W4 :=
   ⟨by simp [World.cell?, hw1], by simp [World.cell?, hw0], by simp [World.frozen?, hw0], by simp [World.cell?, hw2], (h4.more hst.1).max⟩
  rw [HW4]
  obtain ⟨xs, Hxs⟩ : ∃ xs, Hid (xs = Lib.splitB ⟨#[46]⟩ 0 tl.size tl) := ⟨_, rfl⟩
  have hseq := sq_seq m (W3.heap.size + 1) W3.heap.size (W3.heap.size + 1 + 1) (by omega) (by omega) (by omega) ⟨#[46]⟩ (by decide) tl (by omega) 5 (by omega) tl.size (Nat.le_refl _)
  rw [← Hxs.out] at hseq
  have hxl : xs.length ≤ tl.size + 1 := by rw [Hxs.out]; exact splitB_len _ (by decide) _ _
  have hxm : ∀ x ∈ xs, x.size ≤ tl.size := fun x hx => piece_size _ _ _ _ (by rw [Hxs.out] at hx; exact hx)
  have e5 : (⟨(Lib.cut s.data.toList [47]).1.toArray⟩ : ByteArray).data.toList = (Lib.cut s.data.toList [47]).1 := by simp
  have Hsp : Hid (psp s.data.toList = ⟨A, xs.length, fun i => aV (xs.getD i ByteArray.empty).data.toList⟩ ∧ xs = pcs (tlB s.data.toList) ∧ A = aV (hdB s.data.toList) ∧ nOk (hdB s.data.toList) = true) := by
   have q1 : A = aV (hdB s.data.toList) := by rw [HA.out, Hc.out.1, e5]; rfl
   have q2 : xs = pcs (tlB s.data.toList) := by
    rw [Hxs.out]
    unfold pcs tlB
    rw [← Hc.out.2.1]
    congr 1
    rw [Hc.out.2.1]
    show (Lib.cut s.data.toList [47]).2.1.toArray.size = _
    simp
   have q3 : nOk (hdB s.data.toList) = true := by
    have := Hok.out
    rw [Hc.out.1, e5] at this
    exact this.symm
   exact ⟨by unfold psp; rw [← q1, ← q2], q2, q1, q3⟩
  clear HW4 g0 g1 g2 e5
  refine range_cell rfl (by omega) (gf := 115) rfl trivial (enters_of func115 (by kernel_rfl) rfl) hseq (by omega) hSq
   (fun W o hq => hq.kept ⟨Below.heap_alloc _ _ _ (lt_of_cell hq.s), Below.heap_alloc _ _ _ (lt_of_cell hq.c), Below.heap_alloc _ _ _ (lt_of_cell hq.v), Below.heap_alloc _ _ _ (lt_of_cell hq.m)⟩)
   (fun a b => ⟨b.1.trans a.1, b.2.1.trans a.2.1, b.2.2.1.trans a.2.2.1, b.2.2.2.trans a.2.2.2⟩)
   (fun W l o o' hl _ _ => ⟨World.putObj_heap_other (by omega), World.putObj_heap_other (by omega), World.putObj_heap_other (by omega), World.putObj_heap_other (by omega)⟩)
   (fun _ => rfl) (PI g (W3.heap.size + 3) A) (PX g xs) (hz4 ▸ ow_PI (by omega) (by omega)) (fun c => hz4 ▸ ow_PX (by omega) (by omega) c) hI0
   (fun x => { tmps := #[.string s, undef, .pointer (some ⟨g.w.heap.size, 0, none⟩), .pointer (some ⟨g.w.heap.size + 1, 0, none⟩), .string hd, .string tl, .bool fo, .pointer (some ⟨g.w.heap.size + 2, 0, none⟩), .bool true, .string x, undef, undef,
    .tuple #[.string hd, .string tl, .bool fo], .string s, .tuple #[.string hd, .string tl, .bool fo], .string hd, .string tl, .bool fo, .tuple #[.int .i64 A, .bool true], .string hd, .tuple #[.int .i64 A, .bool true], .int .i64 A, .bool true,
    .pointer (some ⟨g.w.heap.size + 2, 0, none⟩), .bool true, .bool false, undef, .string tl,
    .func (.func 115) #[] #[.pointer (some ⟨W3.heap.size + 1, 0, none⟩), .pointer (some ⟨W3.heap.size, 0, none⟩), .pointer (some ⟨W3.heap.size + 1 + 1, 0, none⟩)], .string x, undef, undef, undef, undef, undef, undef, undef, undef, undef, undef, undef, undef, undef, undef, undef, undef, undef, undef, undef], defers := [] }) ?assign ?body ?done ?stop
  case assign =>
   intro l x W K hK
   gi_wp2
   exact hK
  case body =>
   intro l pre x W hpre hI
   have h5 : PG m te g W := ⟨h.ok, h.nw, h.gl, hI.bl⟩
   have hx : x.size ≤ tl.size := hxm x (hpre.subset (by simp))
   have hpl : pre.length + 1 ≤ xs.length := by have := hpre.length_le; simpa using this
   have hmx : maxLen = 9223372036854775807 := rfl
   obtain ⟨i0, hi, hz0, hz1, hz2⟩ := info_parts info3
   gi_wp2
   refine ⟨trivial, (CallsIn.inRound l (callsIn_wide.2 (number_pl h5 x (by omega)))).mono ?_⟩
   rintro e W5 ⟨rfl, hb5⟩
   have hI5 := hI.stb (stb_below hI.bl.size hb5)
   obtain ⟨v, r1, r2⟩ := hI5.row
   have r3 := hI5.b0
   have r4 := hI5.b1
   have f1 : W5.cell? ⟨g.w.heap.size + 2, 1, none⟩ = some v := by simp [World.cell?, r1]
   have f2 : W5.frozen? ⟨g.w.heap.size + 2, 1, none⟩ = false := by simp [World.frozen?, r1]
   have f3 : W5.cell? ⟨g.w.heap.size, 0, none⟩ = some (.int .i64 0) := by simp [World.cell?, r3]
   have f4 : W5.frozen? ⟨g.w.heap.size, 0, none⟩ = false := by simp [World.frozen?, r3]
   have f5 : W5.cell? ⟨g.w.heap.size, 1, none⟩ = some (.slice none 0 0) := by simp [World.cell?, r3]
   have f6 : W5.frozen? ⟨g.w.heap.size, 1, none⟩ = false := by simp [World.frozen?, r3]
   have f7 : W5.cell? ⟨g.w.heap.size + 1, 0, none⟩ = some (.int .i64 0) := by simp [World.cell?, r4]
   have f8 : W5.frozen? ⟨g.w.heap.size + 1, 0, none⟩ = false := by simp [World.frozen?, r4]
   obtain ⟨z, Hz⟩ : ∃ z, Hid (z = aV x.data.toList) := ⟨_, rfl⟩
   obtain ⟨ok, Hk⟩ : ∃ ok, Hid (ok = nOk x.data.toList) := ⟨_, rfl⟩
   rw [← Hz.out, ← Hk.out]
   cases ok with
   | false =>
    gi_wp2
    rw [hz4]
    have hbad : xs.all (fun x => nOk x.data.toList) = false := by
     rw [List.all_eq_false]
     exact ⟨x, hpre.subset (by simp), by rw [← Hk.out]; simp⟩
    obtain ⟨u1, u2⟩ := hI5.left (xs := xs) (by omega) (pre ++ [x]) hbad
    exact ⟨(keeps_below hb5).trans u1, u2⟩
   | true =>
    gi_wp2_with (gi_at_builtin; refine wpListIn_append_own _ rfl _ _ 37 rfl (W3.heap.size + 3) 3 i0 (.int .i64 0) 1 8 underlying37 hi hz0 hz1 hz2 rfl (by decide) _ _ _ rfl (r2.alloc _) ⟨W5.heap.size, 0, none⟩ 1 1 [.int .i64 z] rfl rfl (cell_one_new _ _ _) (by simp [Value.oneCell']) (by omega) (by omega) (by have := hI5.lt; simp; omega) ?_; intro v' w1 hown' hgrow _; obtain ⟨g', cap', rfl⟩ := ownsRow_succ hown'; obtain ⟨y1, y2, y3, y4⟩ := hI5.appended (by omega) r1 r2 hgrow hown' Hz.out Hk.out.symm; have hc1 : w1.cell? ⟨g.w.heap.size + 2, 1, none⟩ = some v := (by simp [World.cell?, y1]); have hf1 : w1.frozen? ⟨g.w.heap.size + 2, 1, none⟩ = false := (by simp [World.frozen?, y1]))
    rw [hz4]
    have hlt := hI.lt
    refine ⟨(keeps_below hb5).trans y4, ⟨?_, ?_, ?_, ?_⟩, y2⟩ <;> exact (y3 _ (by omega) (by omega)).trans (hb5.block _ (by omega))
  case done =>
   intro D W hD hI hK
   obtain ⟨v, r1, r2⟩ := hI.row
   have h5 : PG m te g W := ⟨h.ok, h.nw, h.gl, hI.bl⟩
   have f1 : W.cell? ⟨g.w.heap.size + 2, 0, none⟩ = some (.int .i64 A) := by simp [World.cell?, r1]
   have f2 : W.cell? ⟨g.w.heap.size + 2, 1, none⟩ = some v := by simp [World.cell?, r1]
   have r2' : W.ownsRow (W3.heap.size + 3) 3 1 v xs.length ((xs.map fun x => aV x.data.toList).map (Value.int .i64)) := by rw [List.map_map]; exact r2
   gi_wp2
   refine ⟨trivial, (callsIn_wide.2 (check_pl h5 r2' (by omega) (by omega) (fun i => aV (xs.getD i ByteArray.empty).data.toList) (fun i z hz => ?_))).mono ?_⟩
   ·simp only [List.getElem?_map, Option.map_eq_some_iff] at hz
    obtain ⟨b, hb, rfl⟩ := hz
    rw [List.getD_eq_getElem?_getD, hb]; rfl
   ·rintro e W6 ⟨rfl, hb6⟩
    have hI6 := hI.stb (stb_below hI.bl.size hb6)
    obtain ⟨C, HC⟩ : ∃ C, Hid (C = chk ⟨A, xs.length, fun i => aV (xs.getD i ByteArray.empty).data.toList⟩) := ⟨_, rfl⟩
    rw [← HC.out]
    have r3 := hI6.b0
    have r4 := hI6.b1
    have r5 : W6.heap[g.w.heap.size + 2]? = some (.cells #[.int .i64 A, v] 39 (0, 0)) := (hb6.block _ (Array.getElem?_eq_some_iff.1 r1).1).trans r1
    have f1 : W6.cell? ⟨g.w.heap.size + 2, 0, none⟩ = some (.int .i64 A) := by simp [World.cell?, r5]
    have f2 : W6.cell? ⟨g.w.heap.size + 2, 1, none⟩ = some v := by simp [World.cell?, r5]
    have f3 : W6.cell? ⟨g.w.heap.size, 0, none⟩ = some (.int .i64 0) := by simp [World.cell?, r3]
    have f4 : W6.frozen? ⟨g.w.heap.size, 0, none⟩ = false := by simp [World.frozen?, r3]
    have f5 : W6.cell? ⟨g.w.heap.size, 1, none⟩ = some (.slice none 0 0) := by simp [World.cell?, r3]
    have f6 : W6.frozen? ⟨g.w.heap.size, 1, none⟩ = false := by simp [World.frozen?, r3]
    have f7 : W6.cell? ⟨g.w.heap.size + 1, 0, none⟩ = some (.int .i64 0) := by simp [World.cell?, r4]
    have f8 : W6.frozen? ⟨g.w.heap.size + 1, 0, none⟩ = false := by simp [World.frozen?, r4]
    have hK6 : W6.heap[D]? = some (.deferred (some [])) := (hb6.block _ (Array.getElem?_eq_some_iff.1 hK).1).trans hK
    have hne : D ≠ g.w.heap.size ∧ D ≠ g.w.heap.size + 1 ∧ g.w.heap.size ≤ D := by omega
    have r6 := (hI6.row)
    by_cases hC : C = 0
    ·obtain ⟨p, l, c, rfl⟩ : ∃ p l c, v = .slice p l c := by
      rcases r2.2 with ⟨q, _⟩ | ⟨_, _, _, q, _⟩
      ·exact ⟨_, _, _, q⟩
      ·exact ⟨_, _, _, q⟩
     gi_wp2
     refine ⟨by simp, .inl ⟨_, _, rfl, run_takeDeferred (w := ((W6.setCell ⟨g.w.heap.size, 0, none⟩ (.int .i64 A)).setCell ⟨g.w.heap.size, 1, none⟩ (.slice p l c)).setCell ⟨g.w.heap.size + 1, 0, none⟩ (.int .i64 0)) ((Below.heap_setCell _ _ _ _ hne.2.1).trans ((Below.heap_setCell _ _ _ _ hne.1).trans ((Below.heap_setCell _ _ _ _ hne.1).trans hK6))), ?_⟩⟩
     refine ⟨.tuple #[.agg #[.int .i64 A, .slice p l c], .int .i64 0], parse_end ?_ ?_ rfl rfl, ?_, .inr ⟨?_, .slice p l c, ?_, ?_⟩⟩
     ·refine (World.putObj_heap_other (by omega)).trans ((Below.heap_setCell _ _ _ _ (by show g.w.heap.size ≠ g.w.heap.size + 1; omega)).trans ?_)
      simp [World.setCell, Array.getElem?_modify, r3]
     ·refine (World.putObj_heap_other (by omega)).trans ?_
      simp [World.setCell, Array.getElem?_modify, r4]
     ·exact below_end hI6.bl hne.2.2 _ _ _
     ·unfold pOk
      rw [Hsp.out.1, Hsp.out.2.2.2, ← Hsp.out.2.1, hI.all, ← HC.out, hC]; rfl
     ·rw [← Hsp.out.2.2.1]
     ·rw [← Hsp.out.2.1]
      refine ⟨r2.1, ?_⟩
      rcases r2.2 with q | ⟨q, cap, cur, qa, qb, qc, qd⟩
      ·exact .inl q
      ·refine .inr ⟨q, cap, cur, qa, by omega, ?_, qd⟩
       have hql := (Array.getElem?_eq_some_iff.1 qc).1
       refine (World.putObj_heap_other (fun e => ?_)).trans ((Below.heap_setCell _ _ _ _ (by show q ≠ g.w.heap.size + 1; omega)).trans ((Below.heap_setCell _ _ _ _ (by show q ≠ g.w.heap.size; omega)).trans ((Below.heap_setCell _ _ _ _ (by show q ≠ g.w.heap.size; omega)).trans ((hb6.block _ hql).trans qc))))
       rw [e] at qc; rw [hK] at qc; cases qc
    ·gi_wp2
     refine ⟨by simp, .inl ⟨_, _, rfl, run_takeDeferred (w := ((W6.setCell ⟨g.w.heap.size, 0, none⟩ (.int .i64 0)).setCell ⟨g.w.heap.size, 1, none⟩ (.slice none 0 0)).setCell ⟨g.w.heap.size + 1, 0, none⟩ (.int .i64 13)) ((Below.heap_setCell _ _ _ _ hne.2.1).trans ((Below.heap_setCell _ _ _ _ hne.1).trans ((Below.heap_setCell _ _ _ _ hne.1).trans hK6))), ?_⟩⟩
     refine ⟨.tuple #[.agg #[.int .i64 0, .slice none 0 0], .int .i64 13], parse_end ?_ ?_ rfl rfl, ?_, .inl ⟨?_, rfl⟩⟩
     ·refine (World.putObj_heap_other (by omega)).trans ((Below.heap_setCell _ _ _ _ (by show g.w.heap.size ≠ g.w.heap.size + 1; omega)).trans ?_)
      simp [World.setCell, Array.getElem?_modify, r3]
     ·refine (World.putObj_heap_other (by omega)).trans ?_
      simp [World.setCell, Array.getElem?_modify, r4]
     ·exact below_end hI6.bl hne.2.2 _ _ _
     ·unfold pOk
      rw [Hsp.out.1, Hsp.out.2.2.2, ← Hsp.out.2.1, hI.all, ← HC.out, decide_eq_false hC]; rfl
  case stop =>
   intro D c pre W hD hX hK
   obtain ⟨rfl, q1, q2, q3, q4⟩ := hX
   gi_wp2
   refine ⟨by simp, .inl ⟨_, _, rfl, run_takeDeferred hK, ?_⟩⟩
   refine ⟨_, parse_end ((World.putObj_heap_other (by omega)).trans q2) ((World.putObj_heap_other (by omega)).trans q3) rfl rfl, ?_, .inl ⟨?_, rfl⟩⟩
   ·exact q1.trans ⟨rfl, rfl, rfl, by simp [World.putObj], fun k hk => World.putObj_heap_other (by omega)⟩
   ·unfold pOk
    rw [Hsp.out.2.2.2, ← Hsp.out.2.1, q4]; rfl
end
def psR (s : List UInt8) : T := if pOk s then .tup [spT (psp s), .int .i64 0] else .tup [spT ⟨0, 0, fun _ => 0⟩, .int .i64 13]
theorem parse_ok {m : Int} {te : TypeId} (s : List UInt8) (hs : s.length < 4294967281) : PureFn prog (gl1 m te) 50 [.str s] (psR s) := by
 refine ⟨by kernel_rfl, fun g vs hg hN hgl hv => ?_⟩
 match vs, hv with
 | [v], hv =>
  have e1 := str_inv (hv.inv_cons).1
  subst e1
  have hsz : (⟨s.toArray⟩ : ByteArray).size < 4294967281 := by show s.toArray.size < _; simpa using hs
  have hP : PG m te g g.w := ⟨hg, hN, hgl, Below.refl _ _⟩
  refine (callsIn_wide.1 (parse_w ⟨s.toArray⟩ hsz hP)).mono fun e w' hR => ?_
  have e2 : (⟨s.toArray⟩ : ByteArray).data.toList = s := by simp
  rw [e2] at hR
  obtain ⟨hB, ⟨hk, rfl⟩ | ⟨hk, rv, rfl, hr⟩⟩ := hR
  ·refine ⟨_, { g with w := w' }, rfl, rfl, pstep_below hB, gok_below hg hB.size, ?_⟩
   unfold psR
   rw [hk]
   exact Rd.mk_tup (vs := [_, _]) (RdL.cons (Rd.mk_agg (vs := [_, _]) (RdL.cons (.int _ _) (RdL.cons (.slfn _ _ _) RdL.nil))) (RdL.cons (.int _ _) RdL.nil))
  ·have hP' : PG m te g w' := ⟨hg, hN, hgl, hB⟩
   have hr' : w'.ownsRow g.w.heap.size 3 1 rv (pcs (tlB s)).length (((pcs (tlB s)).map fun x => aV x.data.toList).map (Value.int .i64)) := by rw [List.map_map]; exact hr
   refine ⟨_, { g with w := w', S := fun b => g.S b ∨ rv.ownBlock = some b }, rfl, rfl, row_glok hP' hr (Nat.le_refl _), row_gok hP' hr, ?_⟩
   unfold psR
   rw [hk]
   refine Rd.mk_tup (vs := [_, _]) (RdL.cons (Rd.mk_agg (vs := [_, _]) (RdL.cons (.int _ _) (RdL.cons (row_rd hr' _ (fun i z hz => ?_)).rd RdL.nil))) (RdL.cons (.int _ _) RdL.nil))
   simp only [List.getElem?_map, Option.map_eq_some_iff] at hz
   obtain ⟨b, hb, rfl⟩ := hz
   show aV ((pcs (tlB s)).getD i ByteArray.empty).data.toList = _
   rw [List.getD_eq_getElem?_getD, hb]; rfl
 | [], hv => simp [RdL] at hv
 | _ :: _ :: _, hv => simp [RdL] at hv
end
end Go.Proofs.Tryz

/- Objects lent to a pure callee; rows of plain structs told by a function; views of the abstract heap. -/
namespace Go.Ps
def pl1 : T → Bool
 | .int .. | .bool _ | .str _ | .nilp | .nils | .nilf | .nili | .nilm | .slf .. => true
 | _ => false
theorem pl1_rdI {g : G} {u : Value} {c : T} (h : pl1 c = true) (hr : Rd g u c) : RdI g u c := by
 cases hr with
 | int k n => exact .int k n
 | bool b => exact .bool b
 | str s => exact .str s
 | nilp => exact .nilp
 | nils => exact .nils
 | nilf => exact .nilf
 | nili => exact .nili
 | nilm => exact .nilm
 | slfn full f p => exact .slfn full f p
 | slf full n f sz b o cap vs h1 h2 h3 h4 h5 h6 h7 h8 => exact .slf full n f sz b o cap vs h1 h2 h3 h4 h5 h6 h7 h8
 | _ => simp [pl1] at h
theorem pl1_frz {n : Nat} {H : Hp} {c : T} (h : pl1 c = true) : frzT (n + 1) H c = some c := by
 cases c <;> simp [pl1] at h <;> rfl
theorem pl1_map {n : Nat} {H : Hp} : ∀ {cs : List T}, (∀ c ∈ cs, pl1 c = true) → mapO (frzT (n + 1) H) cs = some cs
 | [], _ => rfl
 | c :: cs, h => by
  have ih := pl1_map (n := n) (H := H) (cs := cs) (fun d hd => h d (List.mem_cons_of_mem _ hd))
  simp only [mapO, pl1_frz (h c (by simp)), ih]
theorem rd_slf2 {g : G} {v : Value} {full : Bool} {xs : List T} {n : Nat} {f : Nat → T} (h : Rd g v (.sl full xs)) (hs : ∀ x ∈ xs, ∀ c ∈ x.cells, pl1 c = true) (hn : xs.length = n) (hf : ∀ i, i < n → xs[i]? = some (f i)) : Rd g v (.slf full n f) := by
 subst hn
 cases h with
 | sl _ _ sz b o cap vs h1 h2 h3 h4 h5 h6 h7 h8 =>
  refine .slf full xs.length f sz b o cap vs (fun q => h1 (fun e => q (by simp [e]))) (fun i hi => h2 _ (List.mem_of_getElem? (hf i hi))) h3 h4 h5 h6 h7 (fun i j u c hi hj hu hc => ?_)
  have hm := List.mem_of_getElem? (hf i hi)
  have hr := h8 _ u c hu (rows_at h2 (hf i hi) j c hc)
  exact pl1_rdI (hs _ hm c (List.mem_of_getElem? hc)) hr
variable {P : Program} {gl : Nat → Option T}
theorem lend_pure {H : Hp} (hz : GlFrz gl) {f : FuncId} {t t' r : T} (hp : PureFn P gl f [t'] r) (hsc : scal r = true) (hl : ∀ g v, St g H → Rd g v t → Rd (g.frz H g) v t') : PeFn P gl H f [t] r := by
 refine ⟨hp.1, fun g vs hg hs hgl hv => ?_⟩
 have hg' : Gok (g.frz H g) := by
  intro b hb
  rcases hb with hb | ⟨l, o, ho, rfl⟩
  ·exact hg b hb
  ·exact hs.lt ho
 have hv' : RdL (g.frz H g) vs [t'] := by
  match vs, hv with
  | [v], hv => exact RdL.cons (hl g v hs (hv.inv_cons).1) RdL.nil
  | [], hv => simp [RdL] at hv
  | _ :: _ :: _, hv => simp [RdL] at hv
 refine (hp.2 (g.frz H g) vs hg' ⟨H.next, hs.new⟩ (GlOk.frz hz hs hgl) hv').mono fun e w' ⟨v, g', e1, e2, e3, e4, e5⟩ => ?_
 refine ⟨v, { g with w := g'.w }, e1, e2, ⟨e3.os, e3.tape, e3.output, e3.size, e3.block, fun _ q => q, fun _ q => .inl q, rfl, rfl, rfl⟩, fun b hb => Nat.lt_of_lt_of_le (hg b hb) e3.size, scal_rd hsc e5⟩
/-! views -/
theorem obv_get {H : Hp} {l : Nat} {o : Ob} (h : H.get l = some o) : obv H l = o := by unfold obv; rw [h]
theorem obIn_get {H : Hp} {l k : Nat} {o : Ob} (h : H.get l = some o) (hk : k ≤ o.cells.length) : obIn H l k = true := by unfold obIn; rw [h]; exact decide_eq_true hk
theorem get_new (H : Hp) (o : Ob) : (H.new o).get H.next = some o := by rw [findOb_new, if_pos rfl]
theorem get_new_ne {H : Hp} (o : Ob) {l : Nat} (h : l ≠ H.next) : (H.new o).get l = H.get l := by rw [findOb_new, if_neg (fun e => h e.symm)]
theorem get_put_same {H : Hp} {l : Nat} (o : Ob) (h : (H.get l).isSome = true) : (H.put l o).get l = some o := by rw [get_put H l o l h, if_pos rfl]
theorem get_put_ne {H : Hp} {l m : Nat} (o : Ob) (h : (H.get l).isSome = true) (hm : m ≠ l) : (H.put l o).get m = H.get m := by rw [get_put H l o m h, if_neg hm]
theorem get_drop_ne {H : Hp} {l m : Nat} (hm : m ≠ l) : (H.drop l).get m = H.get m := by
 unfold Hp.drop Hp.get
 show findOb (dropOb H.objs l) m = findOb H.objs m
 generalize H.objs = L
 induction L with
 | nil => rfl
 | cons p L ih =>
  obtain ⟨k, q⟩ := p
  simp only [dropOb, findOb]
  by_cases hk : k = l
  ·rw [if_pos hk, ih, if_neg (fun e : k = m => hm (by omega))]
  ·rw [if_neg hk]
   simp only [findOb]
   by_cases e : k = m
   ·rw [if_pos e, if_pos e]
   ·rw [if_neg e, if_neg e, ih]
end Go.Ps

/- The contracts of Parse and numbers in an environment. -/
namespace Go.Proofs.Tryz
noncomputable section
open Go.Ps
def pS (s : List UInt8) : Sp := if pOk s then psp s else ⟨0, 0, fun _ => 0⟩
def pE (s : List UInt8) : Int := if pOk s then 0 else 13
theorem psR_eq (s : List UInt8) : psR s = .tup [spT (pS s), .int .i64 (pE s)] := by
 unfold psR pS pE
 split <;> rfl
def s50z : List T → Option (T × List Bool)
 | [.str s] => some (.tup [.agg [.int .i64 (pS s).entry, .slf false (pS s).n (fun i => .int .i64 ((pS s).at_ i))], .int .i64 (pE s)], [decide (s.length < 4294967281)])
 | _ => none
def nN (f : Nat → List UInt8) (q : Nat) : Nat := if allR f q 0 then q else 0
def s28z : List T → Option (T × List Bool)
 | [.slf _ q f] => some (.tup [.slf false (nN (fun i => Go.Ps.strv (f i)) q) (fun i => .int .i64 (aV (Go.Ps.strv (f i)))), .bool (allR (fun i => Go.Ps.strv (f i)) q 0)],
   [decide (q ≤ 1000000), pb (∀ i, i < q → (Go.Ps.strv (f i)).length ≤ 281474976710656), isV (.slf false q f) (.slf false q (fun i => .str (Go.Ps.strv (f i))))])
 | _ => none
section
variable {m : Int} {te : TypeId}
theorem s50z_ok (ts : List T) (r : T) (cs : List Bool) (h : s50z ts = some (r, cs)) (hc : allT cs = true) : PureFn prog (gl1 m te) 50 ts r := by
 unfold s50z at h
 split at h
 ·rename_i s
  cases h
  simp only [allT, Bool.and_true, decide_eq_true_eq] at hc
  have := parse_ok (m := m) (te := te) s hc
  rw [psR_eq] at this
  exact this
 ·cases h
theorem s28z_ok (ts : List T) (r : T) (cs : List Bool) (h : s28z ts = some (r, cs)) (hc : allT cs = true) : PureFn prog (gl1 m te) 28 ts r := by
 unfold s28z at h
 split at h
 ·rename_i fu q f
  cases h
  simp only [allT, Bool.and_true, Bool.and_eq_true, decide_eq_true_eq, pb_iff, isV_iff] at hc
  obtain ⟨h1, h2, h3⟩ := hc
  have e : f = fun i => .str (Go.Ps.strv (f i)) := by injection h3
  have := numbers_ok (m := m) (te := te) fu q (fun i => Go.Ps.strv (f i)) h1 h2
  rw [← e] at this
  exact this
 ·cases h
end
def D60 (m : Int) (te : TypeId) : Ed := ⟨gl1 m te, pdAdd 50 s50z (pdAdd 28 s28z (D40 m te).pd)⟩
theorem d60ok (m : Int) (te : TypeId) : PeOk prog (gl1 m te) (D60 m te).env.pe := pdAdd_ok (pdAdd_ok (cx40 m te).hE s28z_ok) s50z_ok
def F29 : Fc := ⟨fun d => d == 2 || d == 1009 || d == 88 || d == 69 || d == 94, fun _ _ _ => none⟩
theorem cx60 (m : Int) (te : TypeId) : Cx prog (D60 m te) F29 := ⟨follows, d60ok m te, eeNone_ok⟩
end
end Go.Proofs.Tryz

namespace Go.Proofs.Tryz
noncomputable section
open Go.Ps
set_option maxRecDepth 100000
/-! ### 29 -/
inductive S29z where
 | l0 (x74 x75 : Int) (H : Hp)
def k29z_s_0 (m : Int) (te : TypeId) (s : List UInt8) : List Bool := [decide (s.length < 4294967281), pb (([32] : List UInt8) ≠ [])]
def k29z_s_1 (m : Int) (te : TypeId) (s : List UInt8) : List Bool := let y0 := (↑(spl s [32]).length : Int) != 7; (!y0) :: (!y0) :: (!y0) :: true :: (decide (0 < (↑(spl s [32]).length : Int))) :: true :: (!y0) :: (!y0) :: k29z_s_0 m te s
def k29z_s_2 (m : Int) (te : TypeId) (s : List UInt8) : List Bool := true :: (pb (∀ (i : Nat), i < 3 → ((spl s [32]).getD (2 + i) []).length ≤ 281474976710656)) :: (isV (T.slf false 3 fun i => T.str ((spl s [32]).getD (2 + i) [])) (T.slf false 3 fun i => T.str ((spl s [32]).getD (2 + i) []))) :: true :: (decide (5 ≤ (↑(spl s [32]).length : Int))) :: true :: true :: true :: true :: true :: (decide (((spl s [32]).getD 1 []).length < 4294967281)) :: true :: (decide (1 < (↑(spl s [32]).length : Int))) :: true :: (!!(spl s [32]).getD 0 [] == [108, 105, 110, 101]) :: k29z_s_1 m te s
def k29z_s_3 (m : Int) (te : TypeId) (s : List UInt8) : List Bool := let y0 := pE ((spl s [32]).getD 1 []) != 0; (!y0) :: (!y0) :: (!y0) :: k29z_s_2 m te s
def k29z_s_4 (m : Int) (te : TypeId) (s : List UInt8) : List Bool := true :: (decide (5 < (↑(spl s [32]).length : Int))) :: true :: true :: true :: true :: (decide (2 < (↑(nN (fun i => (spl s [32]).getD (2 + i) []) 3) : Int))) :: true :: true :: (decide (1 < (↑(nN (fun i => (spl s [32]).getD (2 + i) []) 3) : Int))) :: true :: true :: (decide (0 < (↑(nN (fun i => (spl s [32]).getD (2 + i) []) 3) : Int))) :: true :: (!!allR (fun i => (spl s [32]).getD (2 + i) []) 3 0) :: k29z_s_3 m te s
def k29z_s_5 (m : Int) (te : TypeId) (s : List UInt8) : List Bool := true :: (decide (6 < (↑(spl s [32]).length : Int))) :: true :: true :: true :: true :: true :: (decide (5 < (↑(spl s [32]).length : Int))) :: true :: (!(spl s [32]).getD 5 [] == [45]) :: k29z_s_4 m te s
def k29z_s_6 (m : Int) (te : TypeId) (s : List UInt8) : List Bool := true :: (decide (6 < (↑(spl s [32]).length : Int))) :: true :: (!!(spl s [32]).getD 5 [] == [45]) :: k29z_s_4 m te s
def g29z_s_1 (m : Int) (te : TypeId) (s : List UInt8) : List Bool := let y0 := (↑(spl s [32]).length : Int) != 7; true :: true :: true :: true :: y0 :: y0 :: y0 :: y0 :: y0 :: k29z_s_0 m te s
def g29z_s_2 (m : Int) (te : TypeId) (s : List UInt8) : List Bool := true :: true :: true :: (!(spl s [32]).getD 0 [] == [108, 105, 110, 101]) :: k29z_s_1 m te s
def g29z_s_3 (m : Int) (te : TypeId) (s : List UInt8) : List Bool := let y0 := pE ((spl s [32]).getD 1 []) != 0; true :: true :: true :: true :: y0 :: y0 :: y0 :: k29z_s_2 m te s
def g29z_s_4 (m : Int) (te : TypeId) (s : List UInt8) : List Bool := true :: true :: true :: (!allR (fun i => (spl s [32]).getD (2 + i) []) 3 0) :: k29z_s_3 m te s
def g29z_s_5 (m : Int) (te : TypeId) (s : List UInt8) : List Bool := true :: true :: true :: true :: ((spl s [32]).getD 6 [] == [45]) :: k29z_s_5 m te s
def g29z_s_6 (m : Int) (te : TypeId) (s : List UInt8) : List Bool := (decide (((spl s [32]).getD 6 []).length < 4294967281)) :: (pb (([44] : List UInt8) ≠ [])) :: true :: (decide (6 < (↑(spl s [32]).length : Int))) :: true :: (!(spl s [32]).getD 6 [] == [45]) :: k29z_s_5 m te s
def g29z_s_7 (m : Int) (te : TypeId) (s : List UInt8) : List Bool := true :: true :: true :: true :: ((spl s [32]).getD 6 [] == [45]) :: k29z_s_6 m te s
def g29z_s_8 (m : Int) (te : TypeId) (s : List UInt8) : List Bool := (decide (((spl s [32]).getD 6 []).length < 4294967281)) :: (pb (([44] : List UInt8) ≠ [])) :: true :: (decide (6 < (↑(spl s [32]).length : Int))) :: true :: (!(spl s [32]).getD 6 [] == [45]) :: k29z_s_6 m te s
def k29z_0_0 (m : Int) (te : TypeId) (s : List UInt8) (x74 x75 : Int) (H : Hp) : List Bool := [true, true, decide (((spl ((spl s [32]).getD 6 []) [44]).getD x75.toNat []).length < 4294967281), decide (0 ≤ x75), decide (x75 < (↑(spl ((spl s [32]).getD 6 []) [44]).length : Int)), true, decide (x75 < x74)]
def k29z_0_1 (m : Int) (te : TypeId) (s : List UInt8) (x74 x75 : Int) (H : Hp) : List Bool := (obIn H 1 4) :: true :: (!pE ((spl ((spl s [32]).getD 6 []) [44]).getD x75.toNat []) != 0) :: k29z_0_0 m te s x74 x75 H
def g29z_0_1 (m : Int) (te : TypeId) (s : List UInt8) (x74 x75 : Int) (H : Hp) : List Bool := true :: (obIn H 0 7) :: true :: (pE ((spl ((spl s [32]).getD 6 []) [44]).getD x75.toNat []) != 0) :: k29z_0_0 m te s x74 x75 H
def g29z_0_2 (m : Int) (te : TypeId) (s : List UInt8) (x74 x75 : Int) (H : Hp) : List Bool := true :: (obIn (H.new { elem := 39, sz := 2, cells := [T.int .i64 (pS ((spl ((spl s [32]).getD 6 []) [44]).getD x75.toNat [])).entry, T.slf false (pS ((spl ((spl s [32]).getD 6 []) [44]).getD x75.toNat [])).n fun i => T.int .i64 ((pS ((spl ((spl s [32]).getD 6 []) [44]).getD x75.toNat [])).at_ i)] }) 1 4) :: true :: true :: true :: true :: (isNils ((obv H 1).cells.getD 3 undefT)) :: k29z_0_1 m te s x74 x75 H
def g29z_0_3 (m : Int) (te : TypeId) (s : List UInt8) (x74 x75 : Int) (H : Hp) : List Bool := true :: (obIn ((H.drop (oslL ((obv H 1).cells.getD 3 undefT))).new { elem := 39, sz := 2, cells := (obv H (oslL ((obv H 1).cells.getD 3 undefT))).cells ++ [T.int .i64 (pS ((spl ((spl s [32]).getD 6 []) [44]).getD x75.toNat [])).entry, T.slf false (pS ((spl ((spl s [32]).getD 6 []) [44]).getD x75.toNat [])).n fun i => T.int .i64 ((pS ((spl ((spl s [32]).getD 6 []) [44]).getD x75.toNat [])).at_ i)] }) 1 4) :: true :: true :: true :: (obApp H (oslL ((obv H 1).cells.getD 3 undefT)) 39 2 (oslN ((obv H 1).cells.getD 3 undefT))) :: (roomT (oslN ((obv H 1).cells.getD 3 undefT) + 1) 32) :: (isOslS 2 ((obv H 1).cells.getD 3 undefT)) :: k29z_0_1 m te s x74 x75 H
def g29z_0_4 (m : Int) (te : TypeId) (s : List UInt8) (x74 x75 : Int) (H : Hp) : List Bool := [true, obIn H 0 7, allOne [(obv H 1).cells.getD 0 undefT, (obv H 1).cells.getD 1 undefT, (obv H 1).cells.getD 2 undefT, (obv H 1).cells.getD 3 undefT, (obv H 1).cells.getD 4 undefT, (obv H 1).cells.getD 5 undefT, (obv H 1).cells.getD 6 undefT], obIn H 1 7, !decide (x75 < x74)]
def q29z_0_1 (m : Int) (te : TypeId) (s : List UInt8) (x74 x75 : Int) (H : Hp) : Option T := if (obIn { next := H.next, objs := setOb H.objs 0 (have __src := obv H 0; { elem := __src.elem, sz := __src.sz, cells := T.int .i64 0 :: T.nils :: T.int .i64 0 :: T.nils :: T.int .i64 0 :: T.int .i64 0 :: T.str [] :: (List.drop (0 + 7) (obv H 0).cells) }) } 0 7 && true) = true then frzT 20 { next := H.next, objs := setOb H.objs 0 (have __src := obv H 0; { elem := __src.elem, sz := __src.sz, cells := T.int .i64 0 :: T.nils :: T.int .i64 0 :: T.nils :: T.int .i64 0 :: T.int .i64 0 :: T.str [] :: (List.drop (0 + 7) (obv H 0).cells) }) } (T.tup [T.agg [(obv { next := H.next, objs := setOb H.objs 0 (have __src := obv H 0; { elem := __src.elem, sz := __src.sz, cells := T.int .i64 0 :: T.nils :: T.int .i64 0 :: T.nils :: T.int .i64 0 :: T.int .i64 0 :: T.str [] :: (List.drop (0 + 7) (obv H 0).cells) }) } 0).cells.getD 0 undefT, (obv { next := H.next, objs := setOb H.objs 0 (have __src := obv H 0; { elem := __src.elem, sz := __src.sz, cells := T.int .i64 0 :: T.nils :: T.int .i64 0 :: T.nils :: T.int .i64 0 :: T.int .i64 0 :: T.str [] :: (List.drop (0 + 7) (obv H 0).cells) }) } 0).cells.getD 1 undefT, (obv { next := H.next, objs := setOb H.objs 0 (have __src := obv H 0; { elem := __src.elem, sz := __src.sz, cells := T.int .i64 0 :: T.nils :: T.int .i64 0 :: T.nils :: T.int .i64 0 :: T.int .i64 0 :: T.str [] :: (List.drop (0 + 7) (obv H 0).cells) }) } 0).cells.getD 2 undefT, (obv { next := H.next, objs := setOb H.objs 0 (have __src := obv H 0; { elem := __src.elem, sz := __src.sz, cells := T.int .i64 0 :: T.nils :: T.int .i64 0 :: T.nils :: T.int .i64 0 :: T.int .i64 0 :: T.str [] :: (List.drop (0 + 7) (obv H 0).cells) }) } 0).cells.getD 3 undefT, (obv { next := H.next, objs := setOb H.objs 0 (have __src := obv H 0; { elem := __src.elem, sz := __src.sz, cells := T.int .i64 0 :: T.nils :: T.int .i64 0 :: T.nils :: T.int .i64 0 :: T.int .i64 0 :: T.str [] :: (List.drop (0 + 7) (obv H 0).cells) }) } 0).cells.getD 4 undefT, (obv { next := H.next, objs := setOb H.objs 0 (have __src := obv H 0; { elem := __src.elem, sz := __src.sz, cells := T.int .i64 0 :: T.nils :: T.int .i64 0 :: T.nils :: T.int .i64 0 :: T.int .i64 0 :: T.str [] :: (List.drop (0 + 7) (obv H 0).cells) }) } 0).cells.getD 5 undefT, (obv { next := H.next, objs := setOb H.objs 0 (have __src := obv H 0; { elem := __src.elem, sz := __src.sz, cells := T.int .i64 0 :: T.nils :: T.int .i64 0 :: T.nils :: T.int .i64 0 :: T.int .i64 0 :: T.str [] :: (List.drop (0 + 7) (obv H 0).cells) }) } 0).cells.getD 6 undefT], T.bool false]) else none
def q29z_0_4 (m : Int) (te : TypeId) (s : List UInt8) (x74 x75 : Int) (H : Hp) : Option T := if (obIn { next := H.next, objs := setOb H.objs 0 (have __src := obv H 0; { elem := __src.elem, sz := __src.sz, cells := (obv H 1).cells.getD 0 undefT :: (obv H 1).cells.getD 1 undefT :: (obv H 1).cells.getD 2 undefT :: (obv H 1).cells.getD 3 undefT :: (obv H 1).cells.getD 4 undefT :: (obv H 1).cells.getD 5 undefT :: (obv H 1).cells.getD 6 undefT :: (List.drop (0 + 7) (obv H 0).cells) }) } 0 7 && true) = true then frzT 20 { next := H.next, objs := setOb H.objs 0 (have __src := obv H 0; { elem := __src.elem, sz := __src.sz, cells := (obv H 1).cells.getD 0 undefT :: (obv H 1).cells.getD 1 undefT :: (obv H 1).cells.getD 2 undefT :: (obv H 1).cells.getD 3 undefT :: (obv H 1).cells.getD 4 undefT :: (obv H 1).cells.getD 5 undefT :: (obv H 1).cells.getD 6 undefT :: (List.drop (0 + 7) (obv H 0).cells) }) } (T.tup [T.agg [(obv { next := H.next, objs := setOb H.objs 0 (have __src := obv H 0; { elem := __src.elem, sz := __src.sz, cells := (obv H 1).cells.getD 0 undefT :: (obv H 1).cells.getD 1 undefT :: (obv H 1).cells.getD 2 undefT :: (obv H 1).cells.getD 3 undefT :: (obv H 1).cells.getD 4 undefT :: (obv H 1).cells.getD 5 undefT :: (obv H 1).cells.getD 6 undefT :: (List.drop (0 + 7) (obv H 0).cells) }) } 0).cells.getD 0 undefT, (obv { next := H.next, objs := setOb H.objs 0 (have __src := obv H 0; { elem := __src.elem, sz := __src.sz, cells := (obv H 1).cells.getD 0 undefT :: (obv H 1).cells.getD 1 undefT :: (obv H 1).cells.getD 2 undefT :: (obv H 1).cells.getD 3 undefT :: (obv H 1).cells.getD 4 undefT :: (obv H 1).cells.getD 5 undefT :: (obv H 1).cells.getD 6 undefT :: (List.drop (0 + 7) (obv H 0).cells) }) } 0).cells.getD 1 undefT, (obv { next := H.next, objs := setOb H.objs 0 (have __src := obv H 0; { elem := __src.elem, sz := __src.sz, cells := (obv H 1).cells.getD 0 undefT :: (obv H 1).cells.getD 1 undefT :: (obv H 1).cells.getD 2 undefT :: (obv H 1).cells.getD 3 undefT :: (obv H 1).cells.getD 4 undefT :: (obv H 1).cells.getD 5 undefT :: (obv H 1).cells.getD 6 undefT :: (List.drop (0 + 7) (obv H 0).cells) }) } 0).cells.getD 2 undefT, (obv { next := H.next, objs := setOb H.objs 0 (have __src := obv H 0; { elem := __src.elem, sz := __src.sz, cells := (obv H 1).cells.getD 0 undefT :: (obv H 1).cells.getD 1 undefT :: (obv H 1).cells.getD 2 undefT :: (obv H 1).cells.getD 3 undefT :: (obv H 1).cells.getD 4 undefT :: (obv H 1).cells.getD 5 undefT :: (obv H 1).cells.getD 6 undefT :: (List.drop (0 + 7) (obv H 0).cells) }) } 0).cells.getD 3 undefT, (obv { next := H.next, objs := setOb H.objs 0 (have __src := obv H 0; { elem := __src.elem, sz := __src.sz, cells := (obv H 1).cells.getD 0 undefT :: (obv H 1).cells.getD 1 undefT :: (obv H 1).cells.getD 2 undefT :: (obv H 1).cells.getD 3 undefT :: (obv H 1).cells.getD 4 undefT :: (obv H 1).cells.getD 5 undefT :: (obv H 1).cells.getD 6 undefT :: (List.drop (0 + 7) (obv H 0).cells) }) } 0).cells.getD 4 undefT, (obv { next := H.next, objs := setOb H.objs 0 (have __src := obv H 0; { elem := __src.elem, sz := __src.sz, cells := (obv H 1).cells.getD 0 undefT :: (obv H 1).cells.getD 1 undefT :: (obv H 1).cells.getD 2 undefT :: (obv H 1).cells.getD 3 undefT :: (obv H 1).cells.getD 4 undefT :: (obv H 1).cells.getD 5 undefT :: (obv H 1).cells.getD 6 undefT :: (List.drop (0 + 7) (obv H 0).cells) }) } 0).cells.getD 5 undefT, (obv { next := H.next, objs := setOb H.objs 0 (have __src := obv H 0; { elem := __src.elem, sz := __src.sz, cells := (obv H 1).cells.getD 0 undefT :: (obv H 1).cells.getD 1 undefT :: (obv H 1).cells.getD 2 undefT :: (obv H 1).cells.getD 3 undefT :: (obv H 1).cells.getD 4 undefT :: (obv H 1).cells.getD 5 undefT :: (obv H 1).cells.getD 6 undefT :: (List.drop (0 + 7) (obv H 0).cells) }) } 0).cells.getD 6 undefT], T.bool true]) else none
def V29z_0 (m : Int) (te : TypeId) (s : List UInt8) (x74 x75 : Int) (H : Hp) : S29z ⊕ T :=
 (if decide (x75 < x74) then (if pE ((spl ((spl s [32]).getD 6 []) [44]).getD x75.toNat []) != 0 then (.inr ((q29z_0_1 m te s x74 x75 H).getD undefT)) else (if isNils ((obv H 1).cells.getD 3 undefT) then (.inl (.l0 x74 (IntKind.i64.wrap (x75 + 1)) ({ next := H.next + 1, objs := setOb ((H.next, { elem := 39, sz := 2, cells := [T.int .i64 (pS ((spl ((spl s [32]).getD 6 []) [44]).getD x75.toNat [])).entry, T.slf false (pS ((spl ((spl s [32]).getD 6 []) [44]).getD x75.toNat [])).n fun i => T.int .i64 ((pS ((spl ((spl s [32]).getD 6 []) [44]).getD x75.toNat [])).at_ i)] }) :: H.objs) 1 (have __src := obv (H.new { elem := 39, sz := 2, cells := [T.int .i64 (pS ((spl ((spl s [32]).getD 6 []) [44]).getD x75.toNat [])).entry, T.slf false (pS ((spl ((spl s [32]).getD 6 []) [44]).getD x75.toNat [])).n fun i => T.int .i64 ((pS ((spl ((spl s [32]).getD 6 []) [44]).getD x75.toNat [])).at_ i)] }) 1; { elem := __src.elem, sz := __src.sz, cells := spliceT (obv (H.new { elem := 39, sz := 2, cells := [T.int .i64 (pS ((spl ((spl s [32]).getD 6 []) [44]).getD x75.toNat [])).entry, T.slf false (pS ((spl ((spl s [32]).getD 6 []) [44]).getD x75.toNat [])).n fun i => T.int .i64 ((pS ((spl ((spl s [32]).getD 6 []) [44]).getD x75.toNat [])).at_ i)] }) 1).cells 3 [T.osl H.next 2 0 1] }) }))) else (.inl (.l0 x74 (IntKind.i64.wrap (x75 + 1)) ({ next := H.next + 1, objs := setOb ((H.next, { elem := 39, sz := 2, cells := (obv H (oslL ((obv H 1).cells.getD 3 undefT))).cells ++ [T.int .i64 (pS ((spl ((spl s [32]).getD 6 []) [44]).getD x75.toNat [])).entry, T.slf false (pS ((spl ((spl s [32]).getD 6 []) [44]).getD x75.toNat [])).n fun i => T.int .i64 ((pS ((spl ((spl s [32]).getD 6 []) [44]).getD x75.toNat [])).at_ i)] }) :: dropOb H.objs (oslL ((obv H 1).cells.getD 3 undefT))) 1 (have __src := obv ((H.drop (oslL ((obv H 1).cells.getD 3 undefT))).new { elem := 39, sz := 2, cells := (obv H (oslL ((obv H 1).cells.getD 3 undefT))).cells ++ [T.int .i64 (pS ((spl ((spl s [32]).getD 6 []) [44]).getD x75.toNat [])).entry, T.slf false (pS ((spl ((spl s [32]).getD 6 []) [44]).getD x75.toNat [])).n fun i => T.int .i64 ((pS ((spl ((spl s [32]).getD 6 []) [44]).getD x75.toNat [])).at_ i)] }) 1; { elem := __src.elem, sz := __src.sz, cells := spliceT (obv ((H.drop (oslL ((obv H 1).cells.getD 3 undefT))).new { elem := 39, sz := 2, cells := (obv H (oslL ((obv H 1).cells.getD 3 undefT))).cells ++ [T.int .i64 (pS ((spl ((spl s [32]).getD 6 []) [44]).getD x75.toNat [])).entry, T.slf false (pS ((spl ((spl s [32]).getD 6 []) [44]).getD x75.toNat [])).n fun i => T.int .i64 ((pS ((spl ((spl s [32]).getD 6 []) [44]).getD x75.toNat [])).at_ i)] }) 1).cells 3 [T.osl H.next 2 0 (oslN ((obv H 1).cells.getD 3 undefT) + 1)] }) }))))) else (.inr ((q29z_0_4 m te s x74 x75 H).getD undefT)))
def K29z_0 (m : Int) (te : TypeId) (s : List UInt8) (x74 x75 : Int) (H : Hp) : Bool :=
 (if decide (x75 < x74) then (if pE ((spl ((spl s [32]).getD 6 []) [44]).getD x75.toNat []) != 0 then (allT (g29z_0_1 m te s x74 x75 H) && (q29z_0_1 m te s x74 x75 H).isSome) else (if isNils ((obv H 1).cells.getD 3 undefT) then (allT (g29z_0_2 m te s x74 x75 H)) else (allT (g29z_0_3 m te s x74 x75 H)))) else (allT (g29z_0_4 m te s x74 x75 H) && (q29z_0_4 m te s x74 x75 H).isSome))
def step29z_0 (m : Int) (te : TypeId) (s : List UInt8) (x74 x75 : Int) (H : Hp) : Option (S29z ⊕ T) := if K29z_0 m te s x74 x75 H then some (V29z_0 m te s x74 x75 H) else none
theorem T29z_0 (m : Int) (te : TypeId) (s : List UInt8) (x74 x75 : Int) (H : Hp) (hk : K29z_0 m te s x74 x75 H = true) : step29z_0 m te s x74 x75 H = some (V29z_0 m te s x74 x75 H) := if_pos hk
def V29z_s (m : Int) (te : TypeId) (s : List UInt8) : S29z ⊕ T :=
 (if (↑(spl s [32]).length : Int) != 7 then (.inr (T.tup [T.agg [T.int .i64 0, T.nils, T.int .i64 0, T.nils, T.int .i64 0, T.int .i64 0, T.str []], T.bool false])) else (if !(spl s [32]).getD 0 [] == [108, 105, 110, 101] then (.inr (T.tup [T.agg [T.int .i64 0, T.nils, T.int .i64 0, T.nils, T.int .i64 0, T.int .i64 0, T.str []], T.bool false])) else (if pE ((spl s [32]).getD 1 []) != 0 then (.inr (T.tup [T.agg [T.int .i64 0, T.nils, T.int .i64 0, T.nils, T.int .i64 0, T.int .i64 0, T.str []], T.bool false])) else (if !allR (fun i => (spl s [32]).getD (2 + i) []) 3 0 then (.inr (T.tup [T.agg [T.int .i64 0, T.nils, T.int .i64 0, T.nils, T.int .i64 0, T.int .i64 0, T.str []], T.bool false])) else (if !(spl s [32]).getD 5 [] == [45] then (if (spl s [32]).getD 6 [] == [45] then (.inr (T.tup [T.agg [T.int .i64 (pS ((spl s [32]).getD 1 [])).entry, T.slf false (pS ((spl s [32]).getD 1 [])).n fun i => T.int .i64 ((pS ((spl s [32]).getD 1 [])).at_ i), T.int .i64 (aV ((spl s [32]).getD 2 [])), T.nils, T.int .i64 (aV ((spl s [32]).getD 3 [])), T.int .i64 (aV ((spl s [32]).getD 4 [])), T.str ((spl s [32]).getD 5 [])], T.bool true])) else (.inl (.l0 (↑(spl ((spl s [32]).getD 6 []) [44]).length : Int) 0 ({ next := 2, objs := [(1, { elem := 42, sz := 0, cells := [T.int .i64 (pS ((spl s [32]).getD 1 [])).entry, T.slf false (pS ((spl s [32]).getD 1 [])).n fun i => T.int .i64 ((pS ((spl s [32]).getD 1 [])).at_ i), T.int .i64 (aV ((spl s [32]).getD 2 [])), T.nils, T.int .i64 (aV ((spl s [32]).getD 3 [])), T.int .i64 (aV ((spl s [32]).getD 4 [])), T.str ((spl s [32]).getD 5 [])] }), (0, { elem := 42, sz := 0, cells := [T.int .i64 0, T.nils, T.int .i64 0, T.nils, T.int .i64 0, T.int .i64 0, T.str []] })] })))) else (if (spl s [32]).getD 6 [] == [45] then (.inr (T.tup [T.agg [T.int .i64 (pS ((spl s [32]).getD 1 [])).entry, T.slf false (pS ((spl s [32]).getD 1 [])).n fun i => T.int .i64 ((pS ((spl s [32]).getD 1 [])).at_ i), T.int .i64 (aV ((spl s [32]).getD 2 [])), T.nils, T.int .i64 (aV ((spl s [32]).getD 3 [])), T.int .i64 (aV ((spl s [32]).getD 4 [])), T.str []], T.bool true])) else (.inl (.l0 (↑(spl ((spl s [32]).getD 6 []) [44]).length : Int) 0 ({ next := 2, objs := [(1, { elem := 42, sz := 0, cells := [T.int .i64 (pS ((spl s [32]).getD 1 [])).entry, T.slf false (pS ((spl s [32]).getD 1 [])).n fun i => T.int .i64 ((pS ((spl s [32]).getD 1 [])).at_ i), T.int .i64 (aV ((spl s [32]).getD 2 [])), T.nils, T.int .i64 (aV ((spl s [32]).getD 3 [])), T.int .i64 (aV ((spl s [32]).getD 4 [])), T.str []] }), (0, { elem := 42, sz := 0, cells := [T.int .i64 0, T.nils, T.int .i64 0, T.nils, T.int .i64 0, T.int .i64 0, T.str []] })] })))))))))
def K29z_s (m : Int) (te : TypeId) (s : List UInt8) : Bool :=
 (if (↑(spl s [32]).length : Int) != 7 then (allT (g29z_s_1 m te s)) else (if !(spl s [32]).getD 0 [] == [108, 105, 110, 101] then (allT (g29z_s_2 m te s)) else (if pE ((spl s [32]).getD 1 []) != 0 then (allT (g29z_s_3 m te s)) else (if !allR (fun i => (spl s [32]).getD (2 + i) []) 3 0 then (allT (g29z_s_4 m te s)) else (if !(spl s [32]).getD 5 [] == [45] then (if (spl s [32]).getD 6 [] == [45] then (allT (g29z_s_5 m te s)) else (allT (g29z_s_6 m te s))) else (if (spl s [32]).getD 6 [] == [45] then (allT (g29z_s_7 m te s)) else (allT (g29z_s_8 m te s))))))))
def step29z (m : Int) (te : TypeId) (s : List UInt8) : S29z → Option (S29z ⊕ T)
 | .l0 x74 x75 H => step29z_0 m te s x74 x75 H
def M29z (m : Int) (te : TypeId) (s : List UInt8) : Mch S29z where
 lp := fun σ => match σ with
  | .l0 .. => 0
 keep := fun ι => match ι with
  | 0 => [2, 9, 73, 74, 75]
  | _ => []
 par := fun ι => match ι with
  | 0 => []
  | _ => []
 vs := fun σ => match σ with
  | .l0 x74 x75 H => [T.ptr 0 0, T.ptr 1 0, T.slf true (spl ((spl s [32]).getD 6 []) [44]).length fun i => T.str ((spl ((spl s [32]).getD 6 []) [44]).getD i []), T.int .i64 x74, T.int .i64 x75]
 hp := fun σ => match σ with
  | .l0 _ _ H => H
 len := 95
 step := step29z m te s
def r29z_0 (m : Int) (te : TypeId) (s : List UInt8) (x74 x75 : Int) (H : Hp) (fr : List T) (ds : List Bool) : RD Out := (M29z m te s).rk prog (D60 m te) F29 f29 (.l0 x74 x75 H) fr ds
theorem w29z_0_1 (m : Int) (te : TypeId) (s : List UInt8) (x74 x75 : Int) (H : Hp) (fr : List T) : outK prog f29 20 [] (r29z_0 m te s x74 x75 H fr [true, true]) = wdq (q29z_0_1 m te s x74 x75 H) (g29z_0_1 m te s x74 x75 H) := by kernel_rfl
theorem w29z_0_2 (m : Int) (te : TypeId) (s : List UInt8) (x74 x75 : Int) (H : Hp) (fr : List T) : (M29z m te s).wa prog f29 (r29z_0 m te s x74 x75 H fr [true, false, true]) 0 (g29z_0_2 m te s x74 x75 H) (.l0 x74 (IntKind.i64.wrap (x75 + 1)) ({ next := H.next + 1, objs := setOb ((H.next, { elem := 39, sz := 2, cells := [T.int .i64 (pS ((spl ((spl s [32]).getD 6 []) [44]).getD x75.toNat [])).entry, T.slf false (pS ((spl ((spl s [32]).getD 6 []) [44]).getD x75.toNat [])).n fun i => T.int .i64 ((pS ((spl ((spl s [32]).getD 6 []) [44]).getD x75.toNat [])).at_ i)] }) :: H.objs) 1 (have __src := obv (H.new { elem := 39, sz := 2, cells := [T.int .i64 (pS ((spl ((spl s [32]).getD 6 []) [44]).getD x75.toNat [])).entry, T.slf false (pS ((spl ((spl s [32]).getD 6 []) [44]).getD x75.toNat [])).n fun i => T.int .i64 ((pS ((spl ((spl s [32]).getD 6 []) [44]).getD x75.toNat [])).at_ i)] }) 1; { elem := __src.elem, sz := __src.sz, cells := spliceT (obv (H.new { elem := 39, sz := 2, cells := [T.int .i64 (pS ((spl ((spl s [32]).getD 6 []) [44]).getD x75.toNat [])).entry, T.slf false (pS ((spl ((spl s [32]).getD 6 []) [44]).getD x75.toNat [])).n fun i => T.int .i64 ((pS ((spl ((spl s [32]).getD 6 []) [44]).getD x75.toNat [])).at_ i)] }) 1).cells 3 [T.osl H.next 2 0 1] }) })) := by unfold Mch.wa; kernel_rfl
theorem w29z_0_3 (m : Int) (te : TypeId) (s : List UInt8) (x74 x75 : Int) (H : Hp) (fr : List T) : (M29z m te s).wa prog f29 (r29z_0 m te s x74 x75 H fr [true, false, false]) 0 (g29z_0_3 m te s x74 x75 H) (.l0 x74 (IntKind.i64.wrap (x75 + 1)) ({ next := H.next + 1, objs := setOb ((H.next, { elem := 39, sz := 2, cells := (obv H (oslL ((obv H 1).cells.getD 3 undefT))).cells ++ [T.int .i64 (pS ((spl ((spl s [32]).getD 6 []) [44]).getD x75.toNat [])).entry, T.slf false (pS ((spl ((spl s [32]).getD 6 []) [44]).getD x75.toNat [])).n fun i => T.int .i64 ((pS ((spl ((spl s [32]).getD 6 []) [44]).getD x75.toNat [])).at_ i)] }) :: dropOb H.objs (oslL ((obv H 1).cells.getD 3 undefT))) 1 (have __src := obv ((H.drop (oslL ((obv H 1).cells.getD 3 undefT))).new { elem := 39, sz := 2, cells := (obv H (oslL ((obv H 1).cells.getD 3 undefT))).cells ++ [T.int .i64 (pS ((spl ((spl s [32]).getD 6 []) [44]).getD x75.toNat [])).entry, T.slf false (pS ((spl ((spl s [32]).getD 6 []) [44]).getD x75.toNat [])).n fun i => T.int .i64 ((pS ((spl ((spl s [32]).getD 6 []) [44]).getD x75.toNat [])).at_ i)] }) 1; { elem := __src.elem, sz := __src.sz, cells := spliceT (obv ((H.drop (oslL ((obv H 1).cells.getD 3 undefT))).new { elem := 39, sz := 2, cells := (obv H (oslL ((obv H 1).cells.getD 3 undefT))).cells ++ [T.int .i64 (pS ((spl ((spl s [32]).getD 6 []) [44]).getD x75.toNat [])).entry, T.slf false (pS ((spl ((spl s [32]).getD 6 []) [44]).getD x75.toNat [])).n fun i => T.int .i64 ((pS ((spl ((spl s [32]).getD 6 []) [44]).getD x75.toNat [])).at_ i)] }) 1).cells 3 [T.osl H.next 2 0 (oslN ((obv H 1).cells.getD 3 undefT) + 1)] }) })) := by unfold Mch.wa; kernel_rfl
theorem w29z_0_4 (m : Int) (te : TypeId) (s : List UInt8) (x74 x75 : Int) (H : Hp) (fr : List T) : outK prog f29 20 [] (r29z_0 m te s x74 x75 H fr [false]) = wdq (q29z_0_4 m te s x74 x75 H) (g29z_0_4 m te s x74 x75 H) := by kernel_rfl
def r29z_s (m : Int) (te : TypeId) (s : List UInt8) (ds : List Bool) : RD Out := runK prog (D60 m te) F29 2000 (.code (bodyOf f29)) [] 0 ([.str s] ++ List.replicate 94 undefT) ⟨0, []⟩ ds []
theorem w29z_s_1 (m : Int) (te : TypeId) (s : List UInt8) : outK prog f29 20 [] (r29z_s m te s (bt 6 63)) = wdn (T.tup [T.agg [T.int .i64 0, T.nils, T.int .i64 0, T.nils, T.int .i64 0, T.int .i64 0, T.str []], T.bool false]) (g29z_s_1 m te s) := by kernel_rfl
theorem w29z_s_2 (m : Int) (te : TypeId) (s : List UInt8) : outK prog f29 20 [] (r29z_s m te s (bt 6 32)) = wdn (T.tup [T.agg [T.int .i64 0, T.nils, T.int .i64 0, T.nils, T.int .i64 0, T.int .i64 0, T.str []], T.bool false]) (g29z_s_2 m te s) := by kernel_rfl
theorem w29z_s_3 (m : Int) (te : TypeId) (s : List UInt8) : outK prog f29 20 [] (r29z_s m te s (bt 10 960)) = wdn (T.tup [T.agg [T.int .i64 0, T.nils, T.int .i64 0, T.nils, T.int .i64 0, T.int .i64 0, T.str []], T.bool false]) (g29z_s_3 m te s) := by kernel_rfl
theorem w29z_s_4 (m : Int) (te : TypeId) (s : List UInt8) : outK prog f29 20 [] (r29z_s m te s (bt 10 512)) = wdn (T.tup [T.agg [T.int .i64 0, T.nils, T.int .i64 0, T.nils, T.int .i64 0, T.int .i64 0, T.str []], T.bool false]) (g29z_s_4 m te s) := by kernel_rfl
theorem w29z_s_5 (m : Int) (te : TypeId) (s : List UInt8) : outK prog f29 20 [] (r29z_s m te s (bt 12 3072)) = wdn (T.tup [T.agg [T.int .i64 (pS ((spl s [32]).getD 1 [])).entry, T.slf false (pS ((spl s [32]).getD 1 [])).n fun i => T.int .i64 ((pS ((spl s [32]).getD 1 [])).at_ i), T.int .i64 (aV ((spl s [32]).getD 2 [])), T.nils, T.int .i64 (aV ((spl s [32]).getD 3 [])), T.int .i64 (aV ((spl s [32]).getD 4 [])), T.str ((spl s [32]).getD 5 [])], T.bool true]) (g29z_s_5 m te s) := by kernel_rfl
theorem w29z_s_6 (m : Int) (te : TypeId) (s : List UInt8) : (M29z m te s).wl prog f29 (r29z_s m te s (bt 12 1024)) 0 (g29z_s_6 m te s) (.l0 (↑(spl ((spl s [32]).getD 6 []) [44]).length : Int) 0 ({ next := 2, objs := [(1, { elem := 42, sz := 0, cells := [T.int .i64 (pS ((spl s [32]).getD 1 [])).entry, T.slf false (pS ((spl s [32]).getD 1 [])).n fun i => T.int .i64 ((pS ((spl s [32]).getD 1 [])).at_ i), T.int .i64 (aV ((spl s [32]).getD 2 [])), T.nils, T.int .i64 (aV ((spl s [32]).getD 3 [])), T.int .i64 (aV ((spl s [32]).getD 4 [])), T.str ((spl s [32]).getD 5 [])] }), (0, { elem := 42, sz := 0, cells := [T.int .i64 0, T.nils, T.int .i64 0, T.nils, T.int .i64 0, T.int .i64 0, T.str []] })] })) := by unfold Mch.wl; kernel_rfl
theorem w29z_s_7 (m : Int) (te : TypeId) (s : List UInt8) : outK prog f29 20 [] (r29z_s m te s (bt 12 2048)) = wdn (T.tup [T.agg [T.int .i64 (pS ((spl s [32]).getD 1 [])).entry, T.slf false (pS ((spl s [32]).getD 1 [])).n fun i => T.int .i64 ((pS ((spl s [32]).getD 1 [])).at_ i), T.int .i64 (aV ((spl s [32]).getD 2 [])), T.nils, T.int .i64 (aV ((spl s [32]).getD 3 [])), T.int .i64 (aV ((spl s [32]).getD 4 [])), T.str []], T.bool true]) (g29z_s_7 m te s) := by kernel_rfl
theorem w29z_s_8 (m : Int) (te : TypeId) (s : List UInt8) : (M29z m te s).wl prog f29 (r29z_s m te s (bt 12 0)) 0 (g29z_s_8 m te s) (.l0 (↑(spl ((spl s [32]).getD 6 []) [44]).length : Int) 0 ({ next := 2, objs := [(1, { elem := 42, sz := 0, cells := [T.int .i64 (pS ((spl s [32]).getD 1 [])).entry, T.slf false (pS ((spl s [32]).getD 1 [])).n fun i => T.int .i64 ((pS ((spl s [32]).getD 1 [])).at_ i), T.int .i64 (aV ((spl s [32]).getD 2 [])), T.nils, T.int .i64 (aV ((spl s [32]).getD 3 [])), T.int .i64 (aV ((spl s [32]).getD 4 [])), T.str []] }), (0, { elem := 42, sz := 0, cells := [T.int .i64 0, T.nils, T.int .i64 0, T.nils, T.int .i64 0, T.int .i64 0, T.str []] })] })) := by unfold Mch.wl; kernel_rfl
theorem ways29z (m : Int) (te : TypeId) (s : List UInt8) : (M29z m te s).Ways prog (D60 m te) F29 f29 20 := by
 intro σ o fr h
 cases σ with
 | l0 x74 x75 H =>
  obtain ⟨hk, ho⟩ := kv_some (K := K29z_0 m te s x74 x75 H) (V := V29z_0 m te s x74 x75 H) h
  exact (wk_if (wk_if (kO (w29z_0_1 m te s x74 x75 H fr)) (wk_if (kA (w29z_0_2 m te s x74 x75 H fr) rfl) (kA (w29z_0_3 m te s x74 x75 H fr) rfl))) (kO (w29z_0_4 m te s x74 x75 H fr))) hk o ho
theorem oks29z (m : Int) (te : TypeId) (s : List UInt8) : ∀ σ, Ps.codeOk (loopAt f29 ((M29z m te s).lp σ)).1 = true ∧ ksOk (.lp :: (loopAt f29 ((M29z m te s).lp σ)).2) = true := oks_of 1 (by kernel_rfl) (by intro σ; cases σ <;> exact Nat.le_of_ble_eq_true rfl)
theorem c29z (m : Int) (te : TypeId) (s : List UInt8) (n : Nat) {r : T} (hk : K29z_s m te s = true) (hr : (M29z m te s).fin n (V29z_s m te s) = some r) : PureFn prog (gl1 m te) 29 [.str s] r :=
 pure_mach (M := (M29z m te s)) (fn := f29) (k := 20) (d := 8) (c := bodyOf f29) (cx60 m te) (gl1Frz m te) (by kernel_rfl) func29 (by kernel_rfl) rfl (by kernel_rfl) (by kernel_rfl) (L := 94) (by kernel_rfl) (ways29z m te s) (oks29z m te s) ((wk_if (kD (w29z_s_1 m te s)) (wk_if (kD (w29z_s_2 m te s)) (wk_if (kD (w29z_s_3 m te s)) (wk_if (kD (w29z_s_4 m te s)) (wk_if (wk_if (kD (w29z_s_5 m te s)) (kL (w29z_s_6 m te s) rfl)) (wk_if (kD (w29z_s_7 m te s)) (kL (w29z_s_8 m te s) rfl))))))) hk _ rfl) hr
end
end Go.Proofs.Tryz

/- Plain laws: numbers are read as they were written; texts are cut where they were joined. -/
namespace Go.Proofs.Tryz
open Go.Ps
theorem digK_app : ∀ (k u : Nat) (acc : List UInt8), digK k u acc = digK k u [] ++ acc
 | 0, _, acc => by simp [digK]
 | k + 1, u, acc => by
  unfold digK
  split
  ·rfl
  ·rw [digK_app k (u / 10) (UInt8.ofNat (48 + u % 10) :: acc), digK_app k (u / 10) [UInt8.ofNat (48 + u % 10)]]
   simp
theorem parse_snoc : ∀ (xs : List UInt8) (a v : Nat) (c : UInt8), Lib.parseUint10 a xs = .ok v → 48 ≤ c.toNat → c.toNat ≤ 57 → v < 1844674407370955162 → v * 10 + (c.toNat - 48) < 18446744073709551616 → Lib.parseUint10 a (xs ++ [c]) = .ok (v * 10 + (c.toNat - 48))
 | [], a, v, c, h, h1, h2, h3, h4 => by
  simp only [Lib.parseUint10] at h
  cases h
  simp only [List.nil_append, Lib.parseUint10]
  rw [if_pos ⟨h1, h2⟩, if_neg (by omega), if_neg (by omega)]
 | x :: xs, a, v, c, h, h1, h2, h3, h4 => by
  simp only [List.cons_append, Lib.parseUint10] at h ⊢
  split at h
  ·rename_i hd
   rw [if_pos hd]
   split at h
   ·cases h
   ·rename_i g1
    rw [if_neg g1]
    split at h
    ·cases h
    ·rename_i g2
     rw [if_neg g2]
     exact parse_snoc xs _ v c h h1 h2 h3 h4
  ·cases h
theorem dig_nat (d : Nat) (h : d < 10) : (UInt8.ofNat (48 + d)).toNat = 48 + d := by
 rw [UInt8.toNat_ofNat']; omega
theorem parse_dig : ∀ (k u : Nat), u < 10 ^ (k + 1) → u < 18446744073709551616 → Lib.parseUint10 0 (digK (k + 1) u []) = .ok u
 | 0, u, h, _ => by
  have hu : u < 10 := by simpa using h
  have e := dig_nat u hu
  unfold digK
  rw [if_pos hu]
  simp only [Lib.parseUint10, e]
  rw [if_pos ⟨by omega, by omega⟩, if_neg (by omega), if_neg (by omega)]
  congr 1; omega
 | k + 1, u, h, h2 => by
  unfold digK
  split
  ·rename_i hu
   have e := dig_nat u hu
   simp only [Lib.parseUint10, e]
   rw [if_pos ⟨by omega, by omega⟩, if_neg (by omega), if_neg (by omega)]
   congr 1; omega
  ·rename_i hu
   have e := dig_nat (u % 10) (Nat.mod_lt _ (by omega))
   have ih := parse_dig k (u / 10) (by rw [Nat.pow_succ] at h; omega) (by omega)
   rw [digK_app, parse_snoc _ 0 (u / 10) _ ih (by omega) (by omega) (by omega) (by omega), e]
   congr 1; omega
def isDig (c : UInt8) : Prop := 48 ≤ c.toNat ∧ c.toNat ≤ 57
theorem digK_dig : ∀ (k u : Nat) (acc : List UInt8), (∀ c ∈ acc, isDig c) → ∀ c ∈ digK k u acc, isDig c
 | 0, _, acc, h, c, hc => h c hc
 | k + 1, u, acc, h, c, hc => by
  unfold digK at hc
  split at hc
  ·rename_i hu
   rcases List.mem_cons.1 hc with rfl | hc
   ·have := dig_nat u hu; unfold isDig; omega
   ·exact h c hc
  ·refine digK_dig k _ _ (fun d hd => ?_) c hc
   rcases List.mem_cons.1 hd with rfl | hd
   ·have := dig_nat (u % 10) (Nat.mod_lt _ (by omega)); unfold isDig; omega
   ·exact h d hd
theorem itoaK_dig {x : Int} (h : 0 ≤ x) : ∀ c ∈ itoaK x, isDig c := by
 unfold itoaK
 rw [if_neg (by omega)]
 exact digK_dig 20 _ [] (fun _ h => by cases h)
theorem atoi_itoa {x : Int} (h0 : 0 ≤ x) (h1 : x ≤ 9223372036854775807) : Lib.atoiAll (itoaK x) = .ok x := by
 have hp : Lib.parseUint10 0 (itoaK x) = .ok x.toNat := by
  unfold itoaK
  rw [if_neg (by omega)]
  exact parse_dig 19 x.toNat (by omega) (by omega)
 have hd := itoaK_dig h0
 have hne : itoaK x ≠ [] := by
  unfold itoaK
  rw [if_neg (by omega)]
  unfold digK
  split
  ·simp
  ·rw [digK_app]; simp
 generalize itoaK x = l at hp hd hne
 match l, hp, hd, hne with
 | [], _, _, hne => exact absurd rfl hne
 | c :: r, hp, hd, _ =>
  have hc := hd c (by simp)
  unfold isDig at hc
  unfold Lib.atoiAll
  simp only
  rw [if_neg (by omega)]
  unfold Lib.parseMag
  rw [if_neg (by simp), hp]
  simp only
  rw [if_neg (by omega), if_neg (by omega), if_neg (by omega)]
  congr 1; omega
theorem index_no (b : UInt8) : ∀ (s : List UInt8), b ∉ s → Lib.index s [b] = -1
 | [], _ => rfl
 | x :: s, h => by
  have ih := index_no b s (fun q => h (by simp [q]))
  have hx : ¬ b = x := fun e => h (by simp [e])
  unfold Lib.index
  rw [if_neg (by simp [List.isPrefixOf, hx]), ih]; rfl
theorem index_at (b : UInt8) (r : List UInt8) : ∀ (p : List UInt8), b ∉ p → Lib.index (p ++ b :: r) [b] = p.length
 | [], _ => by simp [Lib.index, List.isPrefixOf]
 | x :: p, h => by
  have ih := index_at b r p (fun q => h (by simp [q]))
  have hx : ¬ b = x := fun e => h (by simp [e])
  rw [List.cons_append]
  unfold Lib.index
  rw [if_neg (by simp [List.isPrefixOf, hx]), ih, if_neg (by rw [beq_iff_eq]; omega)]
  simp
theorem splitK_join (b : UInt8) : ∀ (ps : List (List UInt8)) (k : Nat), ps ≠ [] → (∀ p ∈ ps, b ∉ p) → ps.length ≤ k + 1 → Lib.splitK [b] 0 k (joinL [b] ps) = ps
 | [], _, h, _, _ => absurd rfl h
 | [p], k, _, h, _ => by
  have e := index_no b p (h p (by simp))
  cases k with
  | zero => rfl
  | succ k =>
   show Lib.splitK [b] 0 (k + 1) p = [p]
   unfold Lib.splitK; rw [if_pos (beq_iff_eq.2 e)]
 | p :: q :: r, 0, _, _, hk => by simp at hk
 | p :: q :: r, k + 1, _, h, hk => by
  have e := index_at b (joinL [b] (q :: r)) p (h p (by simp))
  have ej : joinL [b] (p :: q :: r) = p ++ b :: joinL [b] (q :: r) := by simp [joinL]
  rw [ej]
  simp only [Lib.splitK]
  rw [e, if_neg (by rw [beq_iff_eq]; omega)]
  have ih := splitK_join b (q :: r) k (by simp) (fun z hz => h z (by simp at hz ⊢; exact .inr hz)) (by simp at hk ⊢; omega)
  have e1 : ((p.length : Int)).toNat = p.length := by omega
  rw [e1]
  have e2 : (p ++ b :: joinL [b] (q :: r)).drop (p.length + [b].length) = joinL [b] (q :: r) := by
   have : p ++ b :: joinL [b] (q :: r) = (p ++ [b]) ++ joinL [b] (q :: r) := by simp
   rw [this, List.drop_left' (by simp)]
  rw [e2, ih, Nat.add_zero, List.take_left' rfl]
theorem countFrom_join (b : UInt8) : ∀ (ps : List (List UInt8)) (fuel : Nat), ps ≠ [] → (∀ p ∈ ps, b ∉ p) → ps.length ≤ fuel + 1 → Lib.countFrom [b] fuel (joinL [b] ps) = ps.length - 1
 | [], _, h, _, _ => absurd rfl h
 | [p], k, _, h, _ => by
  have e := index_no b p (h p (by simp))
  cases k with
  | zero => rfl
  | succ k =>
   show Lib.countFrom [b] (k + 1) p = 0
   unfold Lib.countFrom; rw [if_pos (beq_iff_eq.2 e)]
 | p :: q :: r, 0, _, _, hk => by simp at hk
 | p :: q :: r, k + 1, _, h, hk => by
  have e := index_at b (joinL [b] (q :: r)) p (h p (by simp))
  have ej : joinL [b] (p :: q :: r) = p ++ b :: joinL [b] (q :: r) := by simp [joinL]
  rw [ej]
  simp only [Lib.countFrom]
  rw [e, if_neg (by rw [beq_iff_eq]; omega)]
  have ih := countFrom_join b (q :: r) k (by simp) (fun z hz => h z (by simp at hz ⊢; exact .inr hz)) (by simp at hk ⊢; omega)
  have e1 : ((p.length : Int)).toNat = p.length := by omega
  rw [e1]
  have e2 : (p ++ b :: joinL [b] (q :: r)).drop (p.length + [b].length) = joinL [b] (q :: r) := by
   have : p ++ b :: joinL [b] (q :: r) = (p ++ [b]) ++ joinL [b] (q :: r) := by simp
   rw [this, List.drop_left' (by simp)]
  rw [e2, ih]
  simp; omega
theorem joinL_ge (b : UInt8) : ∀ (ps : List (List UInt8)), ps.length ≤ (joinL [b] ps).length + 1
 | [] => by simp
 | [p] => by simp
 | p :: q :: r => by
  have := joinL_ge b (q :: r)
  simp only [joinL, List.length_append, List.length_cons, List.length_nil] at this ⊢
  omega
theorem splitB_join (b : UInt8) (ps : List (List UInt8)) (h1 : ps ≠ []) (h2 : ∀ p ∈ ps, b ∉ p) :
  (Lib.splitB ⟨#[b]⟩ 0 (Lib.countB ⟨(joinL [b] ps).toArray⟩ ⟨#[b]⟩) ⟨(joinL [b] ps).toArray⟩).map (·.data.toList) = ps := by
 have hge := joinL_ge b ps
 have hc : Lib.countB ⟨(joinL [b] ps).toArray⟩ ⟨#[b]⟩ = ps.length - 1 := by
  show Lib.count (joinL [b] ps) [b] = _
  unfold Lib.count
  exact countFrom_join b ps _ h1 h2 (by omega)
 rw [Lib.splitB_data, hc]
 exact splitK_join b ps _ h1 h2 (by omega)
end Go.Proofs.Tryz

/- Plain laws: the pieces of a text, joined again, are the text. -/
namespace Go.Proofs.Tryz
open Go.Ps
theorem index_hit (b : UInt8) : ∀ (s : List UInt8) (i : Nat), Lib.index s [b] = i → s = s.take i ++ b :: s.drop (i + 1)
 | [], i, h => by simp [Lib.index] at h
 | x :: s, i, h => by
  unfold Lib.index at h
  split at h
  ·rename_i hp
   have hx : b = x := by simpa [List.isPrefixOf] using hp
   have : i = 0 := by omega
   subst this; subst hx; simp
  ·split at h
   ·omega
   ·obtain ⟨j, rfl⟩ : ∃ j, i = j + 1 := ⟨i - 1, by have := Lib.index_ge s [b]; rename_i h1; rw [beq_iff_eq] at h1; omega⟩
    have := index_hit b s j (by omega)
    simp only [List.take_succ_cons, List.drop_succ_cons, List.cons_append]
    rw [← this]
theorem join_splitK (b : UInt8) : ∀ (k : Nat) (s : List UInt8), joinL [b] (Lib.splitK [b] 0 k s) = s ∧ Lib.splitK [b] 0 k s ≠ []
 | 0, s => by simp [Lib.splitK, joinL]
 | k + 1, s => by
  unfold Lib.splitK
  split
  ·simp [joinL]
  ·rename_i hne
   obtain ⟨ih, hn⟩ := join_splitK b k (s.drop ((Lib.index s [b]).toNat + [b].length))
   refine ⟨?_, by simp⟩
   have hge := Lib.index_ge s [b]
   have hh := index_hit b s (Lib.index s [b]).toNat (by rw [beq_iff_eq] at hne; omega)
   rw [Nat.add_zero]
   generalize Lib.splitK [b] 0 k (s.drop ((Lib.index s [b]).toNat + [b].length)) = l at ih hn
   match l, ih, hn with
   | [], _, hn => exact absurd rfl hn
   | q :: r, ih, _ =>
    show s.take (Lib.index s [b]).toNat ++ [b] ++ joinL [b] (q :: r) = s
    rw [ih]
    simp only [List.length_cons, List.length_nil, Nat.zero_add]
    have e : ∀ x y : List UInt8, x ++ [b] ++ y = x ++ b :: y := by simp
    rw [e, ← hh]
def sumL : List (List UInt8) → Nat
 | [] => 0
 | p :: r => p.length + 1 + sumL r
theorem joinL_sum (b : UInt8) : ∀ (ps : List (List UInt8)), ps ≠ [] → (joinL [b] ps).length + 1 = sumL ps
 | [], h => absurd rfl h
 | [p], _ => by simp [joinL, sumL]
 | p :: q :: r, _ => by
  have := joinL_sum b (q :: r) (by simp)
  simp only [joinL, sumL, List.length_append, List.length_cons, List.length_nil] at this ⊢
  omega
theorem sumL_mem : ∀ (ps : List (List UInt8)) (p : List UInt8), p ∈ ps → p.length + 1 ≤ sumL ps
 | q :: r, p, h => by
  rcases List.mem_cons.1 h with rfl | h
  ·simp only [sumL]; omega
  ·have := sumL_mem r p h; simp only [sumL]; omega
end Go.Proofs.Tryz

/- balance.read: its contract. -/
namespace Go.Proofs.Tryz
noncomputable section
open Go.Ps
set_option maxRecDepth 100000
section
variable (s : List UInt8)
def rP (j : Nat) : List UInt8 := (spl s [32]).getD j []
def rQ : List (List UInt8) := spl (rP s 6) [44]
def rq (j : Nat) : List UInt8 := (rQ s).getD j []
def rHd : Bool := decide ((spl s [32]).length = 7) && (decide (rP s 0 = [108, 105, 110, 101]) && (pOk (rP s 1) && allR (fun i => (spl s [32]).getD (2 + i) []) 3 0))
def rAl : Nat → Nat → Bool
 | 0, _ => true
 | q + 1, i => pOk (rq s i) && rAl q (i + 1)
def rOk : Bool := rHd s && (if rP s 6 = [45] then true else rAl s (rQ s).length 0)
def rNd : List UInt8 := if rP s 5 = [45] then [] else rP s 5
def rK : Nat := if rP s 6 = [45] then 0 else (rQ s).length
def rL : Ln := if rOk s then ⟨pS (rP s 1), aV (rP s 2), rK s, fun i => pS (rq s i), aV (rP s 3), aV (rP s 4), rNd s⟩ else ⟨⟨0, 0, fun _ => 0⟩, 0, 0, fun _ => ⟨0, 0, fun _ => 0⟩, 0, 0, []⟩
def rC (i : Nat) : List T := (List.range i).flatMap fun j => [T.int .i64 (pS (rq s j)).entry, T.slf false (pS (rq s j)).n fun k => T.int .i64 ((pS (rq s j)).at_ k)]
theorem rC_succ (i : Nat) : rC s (i + 1) = rC s i ++ [T.int .i64 (pS (rq s i)).entry, T.slf false (pS (rq s i)).n fun k => T.int .i64 ((pS (rq s i)).at_ k)] := by
 unfold rC; rw [List.range_succ, List.flatMap_append]; simp
theorem rC_len : ∀ i, (rC s i).length = i * 2
 | 0 => rfl
 | i + 1 => by rw [rC_succ, List.length_append, rC_len i]; simp; omega
theorem rC_pl (i : Nat) : ∀ c ∈ rC s i, pl1 c = true := by
 intro c hc
 unfold rC at hc
 obtain ⟨j, _, hj⟩ := List.mem_flatMap.1 hc
 simp only [List.mem_cons, List.not_mem_nil, or_false] at hj
 rcases hj with rfl | rfl <;> rfl
def rX (fv : T) : List T := [T.int .i64 (pS (rP s 1)).entry, T.slf false (pS (rP s 1)).n (fun i => T.int .i64 ((pS (rP s 1)).at_ i)), T.int .i64 (aV (rP s 2)), fv, T.int .i64 (aV (rP s 3)), T.int .i64 (aV (rP s 4)), T.str (rNd s)]
def zL : List T := [T.int .i64 0, T.nils, T.int .i64 0, T.nils, T.int .i64 0, T.int .i64 0, T.str []]
structure RI (i : Nat) (H : Hp) : Prop where
 h0 : H.get 0 = some ⟨42, 0, zL⟩
 nx : 2 ≤ H.next
 h1 : ∃ fv, H.get 1 = some ⟨42, 0, rX s fv⟩ ∧ ((i = 0 ∧ fv = .nils) ∨ (0 < i ∧ ∃ L, fv = .osl L 2 0 i ∧ L ≠ 0 ∧ L ≠ 1 ∧ L < H.next ∧ H.get L = some ⟨39, 2, rC s i⟩))
def dn (Hd : Hp) (b : Bool) : Option T := if (obIn Hd 0 7 && true) = true then frzT 20 Hd (T.tup [T.agg (cellsV Hd 0 0 7), T.bool b]) else none
theorem dn_eq {Hd : Hp} {b : Bool} {a0 a1 a2 a3 a4 a5 a6 f3 : T} (h : Hd.get 0 = some ⟨42, 0, [a0, a1, a2, a3, a4, a5, a6]⟩) (h0 : pl1 a0 = true) (h1 : pl1 a1 = true) (h2 : pl1 a2 = true) (h4 : pl1 a4 = true) (h5 : pl1 a5 = true) (h6 : pl1 a6 = true)
  (h3 : frzT 18 Hd a3 = some f3) : dn Hd b = some (T.tup [T.agg [a0, a1, a2, f3, a4, a5, a6], T.bool b]) := by
 unfold dn
 rw [obIn_get h (by simp)]
 have e : cellsV Hd 0 0 7 = [a0, a1, a2, a3, a4, a5, a6] := by
  unfold cellsV; rw [obv_get h]; rfl
 rw [e]
 simp only [Bool.and_true, if_true]
 have g0 : frzT 18 Hd a0 = some a0 := pl1_frz h0
 have g1 : frzT 18 Hd a1 = some a1 := pl1_frz h1
 have g2 : frzT 18 Hd a2 = some a2 := pl1_frz h2
 have g4 : frzT 18 Hd a4 = some a4 := pl1_frz h4
 have g5 : frzT 18 Hd a5 = some a5 := pl1_frz h5
 have g6 : frzT 18 Hd a6 = some a6 := pl1_frz h6
 have ea : frzT 19 Hd (T.agg [a0, a1, a2, a3, a4, a5, a6]) = some (T.agg [a0, a1, a2, f3, a4, a5, a6]) := by
  show (match mapO (frzT 18 Hd) [a0, a1, a2, a3, a4, a5, a6] with | some ds => some (T.agg ds) | none => none) = _
  simp only [mapO, g0, g1, g2, h3, g4, g5, g6]
 show (match mapO (frzT 19 Hd) [T.agg [a0, a1, a2, a3, a4, a5, a6], T.bool b] with | some ds => some (T.tup ds) | none => none) = _
 simp only [mapO, ea]
 rfl
theorem spl_join (t : List UInt8) (b : UInt8) : joinL [b] (spl t [b]) = t ∧ spl t [b] ≠ [] := by
 have h := join_splitK b (Lib.countB ⟨t.toArray⟩ ⟨#[b]⟩) t
 have e : spl t [b] = Lib.splitK [b] 0 (Lib.countB ⟨t.toArray⟩ ⟨#[b]⟩) t := by
  unfold spl
  exact Lib.splitB_data ⟨#[b]⟩ 0 (Lib.countB ⟨t.toArray⟩ ⟨#[b]⟩) ⟨t.toArray⟩
 rw [e]; exact h
theorem spl_len (t : List UInt8) (b : UInt8) : (spl t [b]).length ≤ t.length + 1 := by
 have h := spl_join t b
 have := joinL_ge b (spl t [b])
 rw [h.1] at this
 exact this
theorem spl_piece (t : List UInt8) (b : UInt8) (j : Nat) : ((spl t [b]).getD j []).length ≤ t.length := by
 have h := spl_join t b
 have hs := joinL_sum b _ h.2
 rw [h.1] at hs
 rw [List.getD_eq_getElem?_getD]
 cases hj : (spl t [b])[j]? with
 | none => simp
 | some p =>
  have := sumL_mem _ p (List.mem_of_getElem? hj)
  show p.length ≤ t.length
  omega
end
theorem frz_osl {n : Nat} {H : Hp} {L sz i len : Nat} {o : Ob} {cs : List T} (h : H.get L = some o) (hc : sz ≠ 0 ∧ o.sz = sz ∧ (i + len) * sz ≤ o.cells.length) (hm : mapO (frzT n H) ((o.cells.drop (i * sz)).take (len * sz)) = some cs) (hs : sz ≠ 1) : frzT (n + 1) H (.osl L sz i len) = some (.sl false (chunk sz len cs)) := by
 simp only [frzT, h, if_pos hc, hm, if_neg hs]
theorem raw1 {s : List UInt8} {i : Nat} {b : Bool} (h : (pE (rq s i) != 0) = b) : (pE ((spl ((spl s [32]).getD 6 []) [44]).getD i []) != 0) = b := h
theorem raw2 {s : List UInt8} {i : Nat} {b : Bool} (h : decide ((rq s i).length < 4294967281) = b) : decide (((spl ((spl s [32]).getD 6 []) [44]).getD i []).length < 4294967281) = b := h
theorem raw3 {s : List UInt8} {i : Int} {b : Bool} (h : decide (i < ((rQ s).length : Int)) = b) : decide (i < ((spl ((spl s [32]).getD 6 []) [44]).length : Int)) = b := h
section
variable (m : Int) (te : TypeId) (s : List UInt8) (hs : s.length ≤ 1000000)
include hs
theorem pE_iff (x : List UInt8) : (pE x != 0) = !pOk x := by
 unfold pE
 cases pOk x <;> rfl
theorem rd_bad (i : Nat) (hi : i < (rQ s).length) (H : Hp) (hI : RI s i H) (hp : pOk (rq s i) = false) :
  (M29z m te s).step (.l0 (rQ s).length i H) = some (.inr (.tup [.agg zL, .bool false])) := by
 have b1 : decide ((i : Int) < ((rQ s).length : Int)) = true := decide_eq_true (by omega)
 have b0 : decide ((0 : Int) ≤ i) = true := decide_eq_true (by omega)
 have bp : (pE (rq s i) != 0) = true := by rw [pE_iff s hs, hp]; rfl
 have b3 : decide ((rq s i).length < 4294967281) = true := decide_eq_true (by have := spl_piece (rP s 6) 44 i; have := spl_piece s 32 6; show ((spl (rP s 6) [44]).getD i []).length < _; have e : rP s 6 = (spl s [32]).getD 6 [] := rfl; rw [← e] at this; omega)
 have ho := obIn_get (k := 7) hI.h0 (by simp [zL])
 have hd : (H.put 0 { obv H 0 with cells := zL ++ List.drop (0 + 7) (obv H 0).cells }).get 0 = some ⟨42, 0, zL⟩ := by
  rw [get_put_same _ (by rw [hI.h0]; rfl), obv_get hI.h0]; rfl
 have hdn := dn_eq (b := false) (f3 := .nils) hd rfl rfl rfl rfl rfl rfl rfl
 show step29z_0 m te s _ _ _ = _
 rw [T29z_0]
 ·unfold V29z_0 q29z_0_1 q29z_0_4
  simp only [Int.toNat_natCast]
  refine congrArg some ?_
  refine tree_eq (fun _ => ?_) (fun e => by rw [b1] at e; cases e)
  refine tree_eq (fun _ => ?_) (fun e => by change (pE (rq s i) != 0) = false at e; rw [bp] at e; cases e)
  show (Sum.inr ((dn (H.put 0 { obv H 0 with cells := zL ++ List.drop (0 + 7) (obv H 0).cells }) false).getD undefT) : S29z ⊕ T) = _
  rw [hdn]; rfl
 ·unfold K29z_0 q29z_0_1 q29z_0_4
  simp only [Int.toNat_natCast]
  refine tree_eq (fun _ => ?_) (fun e => by rw [b1] at e; cases e)
  refine tree_eq (fun _ => ?_) (fun e => by change (pE (rq s i) != 0) = false at e; rw [bp] at e; cases e)
  show (allT (g29z_0_1 m te s _ _ H) && (dn (H.put 0 { obv H 0 with cells := zL ++ List.drop (0 + 7) (obv H 0).cells }) false).isSome) = true
  rw [hdn]
  simp only [g29z_0_1, Int.toNat_natCast, allT, ho, raw1 bp, raw2 b3, raw3 b1, b1, b0, Bool.and_true, Option.isSome_some, k29z_0_0]
theorem rd_fin (H : Hp) (hI : RI s (rQ s).length H) (hn : 0 < (rQ s).length) :
  ∃ f3, (M29z m te s).step (.l0 (rQ s).length ((rQ s).length : Nat) H) = some (.inr (.tup [.agg (rX s f3), .bool true])) ∧ ∀ g v, Rd g v f3 → Rd g v (.slf false (rQ s).length fun i => spT (pS (rq s i))) := by
 have b1 : decide (((rQ s).length : Int) < ((rQ s).length : Int)) = false := decide_eq_false (by omega)
 obtain ⟨fv, h1, ⟨h2, _⟩ | ⟨_, L, rfl, l0, l1, l2, hL⟩⟩ := hI.h1
 ·omega
 have ho := obIn_get (k := 7) hI.h0 (by simp [zL])
 have ho1 := obIn_get (k := 7) h1 (by simp [rX])
 have e1 := obv_get h1
 have hd : (H.put 0 { obv H 0 with cells := rX s (.osl L 2 0 (rQ s).length) ++ List.drop (0 + 7) (obv H 0).cells }).get 0 = some ⟨42, 0, rX s (.osl L 2 0 (rQ s).length)⟩ := by
  rw [get_put_same _ (by rw [hI.h0]; rfl), obv_get hI.h0]
  show some (Ob.mk 42 0 (rX s (.osl L 2 0 (rQ s).length) ++ [])) = _
  rw [List.append_nil]
 have hdL : (H.put 0 { obv H 0 with cells := rX s (.osl L 2 0 (rQ s).length) ++ List.drop (0 + 7) (obv H 0).cells }).get L = some ⟨39, 2, rC s (rQ s).length⟩ := by
  rw [get_put_ne _ (by rw [hI.h0]; rfl) l0]; exact hL
 have hlen := rC_len s (rQ s).length
 have h3 : frzT 18 (H.put 0 { obv H 0 with cells := rX s (.osl L 2 0 (rQ s).length) ++ List.drop (0 + 7) (obv H 0).cells }) (.osl L 2 0 (rQ s).length) = some (.sl false (chunk 2 (rQ s).length (rC s (rQ s).length))) := by
  have et : ((rC s (rQ s).length).drop (0 * 2)).take ((rQ s).length * 2) = rC s (rQ s).length := by
   rw [Nat.zero_mul, List.drop_zero, List.take_of_length_le (by omega)]
  exact frz_osl (n := 17) hdL ⟨by omega, rfl, by show (0 + (rQ s).length) * 2 ≤ (rC s (rQ s).length).length; omega⟩ (by show mapO _ (((rC s (rQ s).length).drop (0 * 2)).take ((rQ s).length * 2)) = _; rw [et]; exact pl1_map (n := 16) (rC_pl s (rQ s).length)) (by omega)
 have hdn := dn_eq (b := true) hd rfl rfl rfl rfl rfl rfl h3
 refine ⟨.sl false (chunk 2 (rQ s).length (rC s (rQ s).length)), ?_, fun g v hv => ?_⟩
 ·have hc : [(obv H 1).cells.getD 0 undefT, (obv H 1).cells.getD 1 undefT, (obv H 1).cells.getD 2 undefT, (obv H 1).cells.getD 3 undefT, (obv H 1).cells.getD 4 undefT, (obv H 1).cells.getD 5 undefT, (obv H 1).cells.getD 6 undefT] = rX s (.osl L 2 0 (rQ s).length) := by rw [e1]; rfl
  show step29z_0 m te s _ _ _ = _
  rw [T29z_0]
  ·unfold V29z_0 q29z_0_1 q29z_0_4
   simp only [Int.toNat_natCast]
   refine congrArg some ?_
   refine tree_eq (fun e => by rw [b1] at e; cases e) (fun _ => ?_)
   show (Sum.inr ((dn (H.put 0 { obv H 0 with cells := [(obv H 1).cells.getD 0 undefT, (obv H 1).cells.getD 1 undefT, (obv H 1).cells.getD 2 undefT, (obv H 1).cells.getD 3 undefT, (obv H 1).cells.getD 4 undefT, (obv H 1).cells.getD 5 undefT, (obv H 1).cells.getD 6 undefT] ++ List.drop (0 + 7) (obv H 0).cells }) true).getD undefT) : S29z ⊕ T) = _
   rw [hc, hdn]; rfl
  ·unfold K29z_0 q29z_0_1 q29z_0_4
   simp only [Int.toNat_natCast]
   refine tree_eq (fun e => by rw [b1] at e; cases e) (fun _ => ?_)
   show (allT (g29z_0_4 m te s _ _ H) && (dn (H.put 0 { obv H 0 with cells := [(obv H 1).cells.getD 0 undefT, (obv H 1).cells.getD 1 undefT, (obv H 1).cells.getD 2 undefT, (obv H 1).cells.getD 3 undefT, (obv H 1).cells.getD 4 undefT, (obv H 1).cells.getD 5 undefT, (obv H 1).cells.getD 6 undefT] ++ List.drop (0 + 7) (obv H 0).cells }) true).isSome) = true
   simp only [g29z_0_4]
   rw [hc, hdn]
   simp only [allT, ho, ho1, b1, Bool.not_false, Bool.and_true, Option.isSome_some]
   rfl
 ·obtain ⟨c1, c2, c3⟩ := chunk_flat 2 (rQ s).length (rC s (rQ s).length) hlen
  have hat : ∀ i, i < (rQ s).length → (chunk 2 (rQ s).length (rC s (rQ s).length))[i]? = some (spT (pS (rq s i))) := by
   have key : ∀ (q k : Nat), q + k = (rQ s).length → ∀ i, i < q → (chunk 2 q ((rC s (rQ s).length).drop (k * 2)))[i]? = some (spT (pS (rq s (k + i)))) := by
    intro q
    induction q with
    | zero => intro k _ i hi; omega
    | succ q ih =>
     intro k hk i hi
     have hsplit : (rC s (rQ s).length).drop (k * 2) = [T.int .i64 (pS (rq s k)).entry, T.slf false (pS (rq s k)).n fun j => T.int .i64 ((pS (rq s k)).at_ j)] ++ (rC s (rQ s).length).drop ((k + 1) * 2) := by
      have hr : ∀ n j, j ≤ n → rC s n = rC s j ++ ((List.range (n - j)).flatMap fun d => [T.int .i64 (pS (rq s (j + d))).entry, T.slf false (pS (rq s (j + d))).n fun k => T.int .i64 ((pS (rq s (j + d))).at_ k)]) := by
       intro n j hj
       unfold rC
       obtain ⟨d, rfl⟩ : ∃ d, n = j + d := ⟨n - j, by omega⟩
       rw [List.range_add, List.flatMap_append, List.flatMap_map, Nat.add_sub_cancel_left]
      have e1 := hr (rQ s).length k (by omega)
      have e2 := hr (rQ s).length (k + 1) (by omega)
      have l1 := rC_len s k
      have l2 := rC_len s (k + 1)
      have d1 : (rC s (rQ s).length).drop ((k + 1) * 2) = ((List.range ((rQ s).length - (k + 1))).flatMap fun d => [T.int .i64 (pS (rq s (k + 1 + d))).entry, T.slf false (pS (rq s (k + 1 + d))).n fun k_1 => T.int .i64 ((pS (rq s (k + 1 + d))).at_ k_1)]) := by
       rw [e2, List.drop_left' l2]
      rw [d1]
      rw [e2, rC_succ, List.append_assoc, List.drop_left' l1]
     rw [hsplit]
     show ((T.agg ((_ ++ _ : List T).take 2)) :: chunk 2 q ((_ ++ _ : List T).drop 2))[i]? = _
     cases i with
     | zero => rfl
     | succ i =>
      rw [List.getElem?_cons_succ, List.drop_left' (by rfl), ih (k + 1) (by omega) i (by omega)]
      rw [show k + 1 + i = k + (i + 1) by omega]
   intro i hi
   have := key (rQ s).length 0 (by omega) i hi
   simpa using this
  refine rd_slf2 hv (fun x hx c hc => ?_) c3 hat
  have hm : c ∈ (chunk 2 (rQ s).length (rC s (rQ s).length)).flatMap T.cells := List.mem_flatMap.2 ⟨x, hx, hc⟩
  rw [c1] at hm
  exact rC_pl s _ c hm
omit hs in
theorem RI.next {i : Nat} {H Hx : Hp} (hI : RI s i H) {cs : List T} (hn : Hx.next = H.next) (h0 : Hx.get 0 = H.get 0) (h1 : Hx.get 1 = H.get 1) (hc : cs = rC s (i + 1)) :
  obIn (Hx.new ⟨39, 2, cs⟩) 1 4 = true ∧ RI s (i + 1) ((Hx.new ⟨39, 2, cs⟩).put 1 { obv (Hx.new ⟨39, 2, cs⟩) 1 with cells := spliceT (obv (Hx.new ⟨39, 2, cs⟩) 1).cells 3 [T.osl H.next 2 0 (i + 1)] }) := by
 obtain ⟨fv, g1, _⟩ := hI.h1
 have nx := hI.nx
 have e1 : (Hx.new ⟨39, 2, cs⟩).get 1 = some ⟨42, 0, rX s fv⟩ := by rw [get_new_ne _ (by omega), h1, g1]
 have e0 : (Hx.new ⟨39, 2, cs⟩).get 0 = some ⟨42, 0, zL⟩ := by rw [get_new_ne _ (by omega), h0, hI.h0]
 have eL : (Hx.new ⟨39, 2, cs⟩).get H.next = some ⟨39, 2, cs⟩ := by rw [← hn]; exact Go.Ps.get_new _ _
 have hs1 : ((Hx.new ⟨39, 2, cs⟩).get 1).isSome = true := by rw [e1]; rfl
 have eo := obv_get e1
 refine ⟨obIn_get e1 (by simp [rX]), ⟨?_, ?_, ⟨.osl H.next 2 0 (i + 1), ?_, .inr ⟨by omega, H.next, rfl, by omega, by omega, ?_, ?_⟩⟩⟩⟩
 ·rw [get_put_ne _ hs1 (by omega)]; exact e0
 ·show 2 ≤ Hx.next + 1; omega
 ·rw [get_put_same _ hs1, eo]; rfl
 ·show H.next < Hx.next + 1; omega
 ·rw [get_put_ne _ hs1 (by omega), eL, hc]
theorem rd_next (i : Nat) (hi : i < (rQ s).length) (H : Hp) (hI : RI s i H) (hp : pOk (rq s i) = true) :
  ∃ H', (M29z m te s).step (.l0 (rQ s).length i H) = some (.inl (.l0 (rQ s).length (i + 1 : Nat) H')) ∧ RI s (i + 1) H' := by
 have hlen := spl_len (rP s 6) 44
 have hp6 := spl_piece s 32 6
 have hq6 := spl_piece (rP s 6) 44 i
 have e6 : rP s 6 = (spl s [32]).getD 6 [] := rfl
 have eQ : rQ s = spl (rP s 6) [44] := rfl
 have b1 : decide ((i : Int) < ((rQ s).length : Int)) = true := decide_eq_true (by omega)
 have b0 : decide ((0 : Int) ≤ i) = true := decide_eq_true (by omega)
 have bp : (pE (rq s i) != 0) = false := by rw [pE_iff s hs, hp]; rfl
 have b3 : decide ((rq s i).length < 4294967281) = true := decide_eq_true (by show ((spl (rP s 6) [44]).getD i []).length < _; rw [← e6] at hp6; omega)
 have hw := wsucc i (by rw [eQ] at hi; rw [← e6] at hp6; omega)
 obtain ⟨fv, h1, ⟨rfl, rfl⟩ | ⟨hpos, L, rfl, l0, l1, l2, hL⟩⟩ := hI.h1
 ·have eo := obv_get h1
  have en : (obv H 1).cells.getD 3 undefT = .nils := by rw [eo]; rfl
  have ho := obIn_get (k := 4) h1 (by simp [rX])
  obtain ⟨k1, k2⟩ := hI.next s (Hx := H) (cs := [T.int .i64 (pS (rq s 0)).entry, T.slf false (pS (rq s 0)).n fun k => T.int .i64 ((pS (rq s 0)).at_ k)]) rfl rfl rfl rfl
  refine ⟨_, ?_, k2⟩
  show step29z_0 m te s _ _ _ = _
  rw [T29z_0]
  ·unfold V29z_0 q29z_0_1 q29z_0_4
   simp only [Int.toNat_natCast]
   refine congrArg some ?_
   refine tree_eq (fun _ => ?_) (fun e => by rw [b1] at e; cases e)
   refine tree_eq (fun e => by rw [raw1 bp] at e; cases e) (fun _ => ?_)
   refine tree_eq (fun _ => ?_) (fun e => by rw [en] at e; cases e)
   rw [hw]
   rfl
  ·unfold K29z_0 q29z_0_1 q29z_0_4
   simp only [Int.toNat_natCast]
   refine tree_eq (fun _ => ?_) (fun e => by rw [b1] at e; cases e)
   refine tree_eq (fun e => by rw [raw1 bp] at e; cases e) (fun _ => ?_)
   refine tree_eq (fun _ => ?_) (fun e => by rw [en] at e; cases e)
   have k1' : obIn (H.new { elem := 39, sz := 2, cells := [T.int IntKind.i64 (pS ((spl ((spl s [32]).getD 6 []) [44]).getD 0 [])).entry, T.slf false (pS ((spl ((spl s [32]).getD 6 []) [44]).getD 0 [])).n fun i => T.int IntKind.i64 ((pS ((spl ((spl s [32]).getD 6 []) [44]).getD 0 [])).at_ i)] }) 1 4 = true := k1
   simp only [g29z_0_2, Int.toNat_natCast, allT, k1', en, isNils, ho, raw1 bp, raw2 b3, raw3 b1, b1, b0, Bool.not_false, Bool.and_true, k29z_0_1, k29z_0_0]
 ·have eo := obv_get h1
  have en : (obv H 1).cells.getD 3 undefT = .osl L 2 0 i := by rw [eo]; rfl
  have eL := obv_get hL
  have ho := obIn_get (k := 4) h1 (by simp [rX])
  have ha : obApp H L 39 2 i = true := by
   unfold obApp
   rw [hL]
   simp only [and_self, if_true]
   exact decide_eq_true (rC_len s i)
  have hr : roomT (i + 1) 32 = true := by
   unfold roomT
   rw [decide_eq_true (show (i + 1) * 32 ≤ 70368744177664 by rw [eQ] at hi; rw [← e6] at hp6; omega), decide_eq_true (show i + 1 ≤ 70368744177664 by rw [eQ] at hi; rw [← e6] at hp6; omega)]
   rfl
  obtain ⟨k1, k2⟩ := hI.next s (Hx := H.drop L) (cs := (obv H L).cells ++ [T.int .i64 (pS (rq s i)).entry, T.slf false (pS (rq s i)).n fun k => T.int .i64 ((pS (rq s i)).at_ k)]) rfl (get_drop_ne (fun e => l0 e.symm)) (get_drop_ne (fun e => l1 e.symm)) (by rw [eL, rC_succ])
  refine ⟨_, ?_, k2⟩
  show step29z_0 m te s _ _ _ = _
  rw [T29z_0]
  ·unfold V29z_0 q29z_0_1 q29z_0_4
   simp only [Int.toNat_natCast]
   refine congrArg some ?_
   refine tree_eq (fun _ => ?_) (fun e => by rw [b1] at e; cases e)
   refine tree_eq (fun e => by rw [raw1 bp] at e; cases e) (fun _ => ?_)
   refine tree_eq (fun e => by rw [en] at e; cases e) (fun _ => ?_)
   rw [hw]
   simp only [en]
   rfl
  ·unfold K29z_0 q29z_0_1 q29z_0_4
   simp only [Int.toNat_natCast]
   refine tree_eq (fun _ => ?_) (fun e => by rw [b1] at e; cases e)
   refine tree_eq (fun e => by rw [raw1 bp] at e; cases e) (fun _ => ?_)
   refine tree_eq (fun e => by rw [en] at e; cases e) (fun _ => ?_)
   have k1' : obIn ((H.drop L).new { elem := 39, sz := 2, cells := (obv H L).cells ++ [T.int IntKind.i64 (pS ((spl ((spl s [32]).getD 6 []) [44]).getD i [])).entry, T.slf false (pS ((spl ((spl s [32]).getD 6 []) [44]).getD i [])).n fun j => T.int IntKind.i64 ((pS ((spl ((spl s [32]).getD 6 []) [44]).getD i [])).at_ j)] }) 1 4 = true := k1
   have hos : isOslS 2 (.osl L 2 0 i) = true := rfl
   simp only [g29z_0_3, Int.toNat_natCast, allT, en, oslL, oslN, k1', ha, hr, hos, isNils, ho, raw1 bp, raw2 b3, raw3 b1, b1, b0, Bool.not_false, Bool.and_true, k29z_0_1, k29z_0_0]
theorem rd_run : ∀ (q i : Nat), q + i = (rQ s).length → ∀ H, RI s i H → ∃ r, Runs (M29z m te s) (.l0 (rQ s).length (i : Nat) H) r ∧
  ((rAl s q i = false ∧ r = .tup [.agg zL, .bool false]) ∨ (rAl s q i = true ∧ ∃ f3, r = .tup [.agg (rX s f3), .bool true] ∧ ∀ g v, Rd g v f3 → Rd g v (.slf false (rQ s).length fun i => spT (pS (rq s i))))) := by
 intro q
 induction q with
 | zero =>
  intro i hi H hI
  have e : i = (rQ s).length := by omega
  subst e
  have hn : 0 < (rQ s).length := List.length_pos_iff.2 (spl_join (rP s 6) 44).2
  obtain ⟨f3, h1, h2⟩ := rd_fin m te s hs H hI hn
  exact ⟨_, Runs.done h1, .inr ⟨rfl, f3, rfl, h2⟩⟩
 | succ q ih =>
  intro i hi H hI
  cases hp : pOk (rq s i) with
  | false => exact ⟨_, Runs.done (rd_bad m te s hs i (by omega) H hI hp), .inl ⟨by simp [rAl, hp], rfl⟩⟩
  | true =>
   obtain ⟨H', h1, h2⟩ := rd_next m te s hs i (by omega) H hI hp
   obtain ⟨r, h3, h4⟩ := ih (i + 1) (by omega) H' h2
   refine ⟨r, Runs.next h1 h3, ?_⟩
   simp only [rAl, hp, Bool.true_and]
   exact h4
end
end
end Go.Proofs.Tryz

/- balance.read: its contract, from the start. -/
namespace Go.Proofs.Tryz
open Go.Ps
set_option maxRecDepth 100000
section
variable (m : Int) (te : TypeId) (s : List UInt8) (hs : s.length ≤ 1000000)
include hs
theorem rd_K : K29z_s m te s = true := by
 have f1 : decide (s.length < 4294967281) = true := decide_eq_true (by omega)
 have f2 : pb (([32] : List UInt8) ≠ []) = true := pb_iff.2 (by simp)
 have f3 : pb (([44] : List UInt8) ≠ []) = true := pb_iff.2 (by simp)
 have f4 : ∀ j, decide (((spl s [32]).getD j []).length < 4294967281) = true := fun j => decide_eq_true (by have := spl_piece s 32 j; omega)
 have f5 : pb (∀ (i : Nat), i < 3 → ((spl s [32]).getD (2 + i) []).length ≤ 281474976710656) = true := pb_iff.2 (fun i _ => by have := spl_piece s 32 (2 + i); omega)
 unfold K29z_s
 refine tree_eq (fun e1 => ?_) (fun e1 => ?_)
 ·simp only [g29z_s_1, allT, f1, f2, e1, Bool.and_true, k29z_s_0]
 have h7 : ((spl s [32]).length : Int) = 7 := by simpa using e1
 have e1' : (((7 : Int)) != 7) = false := rfl
 have d0 : decide ((0 : Int) < 7) = true := rfl
 have d1 : decide ((1 : Int) < 7) = true := rfl
 have d5 : decide ((5 : Int) < 7) = true := rfl
 have d6 : decide ((6 : Int) < 7) = true := rfl
 have d55 : decide ((5 : Int) ≤ 7) = true := rfl
 refine tree_eq (fun e2 => ?_) (fun e2 => ?_)
 ·simp only [g29z_s_2, allT, f1, f2, h7, e1', d0, e2, Bool.and_true, Bool.not_false, Bool.true_and, k29z_s_1, k29z_s_0]
 refine tree_eq (fun e3 => ?_) (fun e3 => ?_)
 ·simp only [g29z_s_3, allT, f1, f2, f4, f5, isV_self, h7, e1', d0, d1, d55, e2, e3, Bool.and_true, Bool.not_false, Bool.true_and, k29z_s_2, k29z_s_1, k29z_s_0]
 refine tree_eq (fun e4 => ?_) (fun e4 => ?_)
 ·simp only [g29z_s_4, allT, f1, f2, f4, f5, isV_self, h7, e1', d0, d1, d55, e2, e3, e4, Bool.and_true, Bool.not_false, Bool.true_and, k29z_s_3, k29z_s_2, k29z_s_1, k29z_s_0]
 have e4' : allR (fun i => (spl s [32]).getD (2 + i) []) 3 0 = true := by simpa using e4
 have hN : nN (fun i => (spl s [32]).getD (2 + i) []) 3 = 3 := by unfold nN; rw [e4']; rfl
 have n0 : decide ((0 : Int) < ((3 : Nat) : Int)) = true := rfl
 have n1 : decide ((1 : Int) < ((3 : Nat) : Int)) = true := rfl
 have n2 : decide ((2 : Int) < ((3 : Nat) : Int)) = true := rfl
 refine tree_eq (fun e5 => ?_) (fun e5 => ?_) <;> refine tree_eq (fun e6 => ?_) (fun e6 => ?_)
 all_goals simp only [g29z_s_5, g29z_s_6, g29z_s_7, g29z_s_8, allT, f1, f2, f3, f4, f5, isV_self, h7, e1', d0, d1, d5, d6, d55, hN, n0, n1, n2, e2, e3, e4, e5, e6, Bool.and_true, Bool.not_false, Bool.true_and, k29z_s_5, k29z_s_4, k29z_s_3, k29z_s_2, k29z_s_1, k29z_s_0, k29z_s_6]
omit hs in
theorem rd_V : (rHd s = false ∧ V29z_s m te s = .inr (.tup [.agg zL, .bool false])) ∨ (rHd s = true ∧ rP s 6 = [45] ∧ V29z_s m te s = .inr (.tup [.agg (rX s .nils), .bool true])) ∨
  (rHd s = true ∧ rP s 6 ≠ [45] ∧ ∃ H, V29z_s m te s = .inl (.l0 (rQ s).length (0 : Nat) H) ∧ RI s 0 H) := by
 have hpE : ∀ x, (pE x != 0) = !pOk x := fun x => by unfold pE; cases pOk x <;> rfl
 by_cases h7 : (spl s [32]).length = 7
 case neg =>
  refine .inl ⟨by unfold rHd; rw [decide_eq_false h7]; rfl, ?_⟩
  unfold V29z_s
  rw [if_pos (by simp only [bne_iff_ne, ne_eq]; omega)]; rfl
 have c1 : ¬ (((spl s [32]).length : Int) != 7) = true := by simp only [bne_iff_ne, ne_eq, Decidable.not_not]; omega
 by_cases h0 : rP s 0 = [108, 105, 110, 101]
 case neg =>
  refine .inl ⟨by unfold rHd; rw [decide_eq_false h0]; simp, ?_⟩
  unfold V29z_s
  have c2 : (!(spl s [32]).getD 0 [] == [108, 105, 110, 101]) = true := by
   have : ((spl s [32]).getD 0 [] == [108, 105, 110, 101]) = false := by rw [beq_eq_false_iff_ne]; exact h0
   rw [this]; rfl
  rw [if_neg c1, if_pos c2]; rfl
 have c2 : ¬ (!(spl s [32]).getD 0 [] == [108, 105, 110, 101]) = true := by
  have : ((spl s [32]).getD 0 [] == [108, 105, 110, 101]) = true := by rw [beq_iff_eq]; exact h0
  rw [this]; decide
 cases hp : pOk (rP s 1) with
 | false =>
  refine .inl ⟨by unfold rHd; rw [hp]; simp, ?_⟩
  unfold V29z_s
  have c3 : (pE ((spl s [32]).getD 1 []) != 0) = true := by rw [hpE]; show (!pOk (rP s 1)) = true; rw [hp]; rfl
  rw [if_neg c1, if_neg c2, if_pos c3]; rfl
 | true =>
  have c3 : ¬ (pE ((spl s [32]).getD 1 []) != 0) = true := by rw [hpE]; show ¬ (!pOk (rP s 1)) = true; rw [hp]; decide
  cases ha : allR (fun i => (spl s [32]).getD (2 + i) []) 3 0 with
  | false =>
   refine .inl ⟨by unfold rHd; rw [ha]; simp, ?_⟩
   unfold V29z_s
   rw [if_neg c1, if_neg c2, if_neg c3, if_pos (by rw [ha]; rfl)]; rfl
  | true =>
   have c4 : ¬ (!allR (fun i => (spl s [32]).getD (2 + i) []) 3 0) = true := by rw [ha]; decide
   have hH : rHd s = true := by unfold rHd; rw [decide_eq_true h7, decide_eq_true h0, hp, ha]; rfl
   have hnd5 : ∀ b, (!(spl s [32]).getD 5 [] == [45]) = b → rNd s = (if b = true then (spl s [32]).getD 5 [] else []) := by
    intro b hb
    unfold rNd
    show (if (spl s [32]).getD 5 [] = [45] then [] else (spl s [32]).getD 5 []) = _
    by_cases e : (spl s [32]).getD 5 [] = [45]
    ·rw [if_pos e]
     have : ((spl s [32]).getD 5 [] == [45]) = true := by rw [beq_iff_eq]; exact e
     rw [this] at hb; subst hb; rfl
    ·rw [if_neg e]
     have : ((spl s [32]).getD 5 [] == [45]) = false := by rw [beq_eq_false_iff_ne]; exact e
     rw [this] at hb; subst hb; rfl
   by_cases h6 : rP s 6 = [45]
   ·have c6 : ((spl s [32]).getD 6 [] == [45]) = true := by rw [beq_iff_eq]; exact h6
    refine .inr (.inl ⟨hH, h6, ?_⟩)
    unfold V29z_s rX
    rw [if_neg c1, if_neg c2, if_neg c3, if_neg c4]
    cases h5 : (!(spl s [32]).getD 5 [] == [45]) with
    | true => rw [if_pos rfl, if_pos c6, hnd5 _ h5]; rfl
    | false => rw [if_neg (by decide), if_pos c6, hnd5 _ h5]; rfl
   ·have c6 : ¬ ((spl s [32]).getD 6 [] == [45]) = true := by rw [beq_iff_eq]; exact h6
    refine .inr (.inr ⟨hH, h6, ?_⟩)
    unfold V29z_s
    rw [if_neg c1, if_neg c2, if_neg c3, if_neg c4]
    cases h5 : (!(spl s [32]).getD 5 [] == [45]) with
    | true =>
     rw [if_pos rfl, if_neg c6]
     refine ⟨_, rfl, ⟨rfl, Nat.le_refl 2, ⟨.nils, ?_, .inl ⟨rfl, rfl⟩⟩⟩⟩
     unfold rX; rw [hnd5 _ h5]; rfl
    | false =>
     rw [if_neg (by decide), if_neg c6]
     refine ⟨_, rfl, ⟨rfl, Nat.le_refl 2, ⟨.nils, ?_, .inl ⟨rfl, rfl⟩⟩⟩⟩
     unfold rX; rw [hnd5 _ h5]; rfl
end
theorem rd_ln {g : G} {v : Value} {a b c d d' e f h x b' : T} (hb : ∀ u, Rd g u b → Rd g u b') (hd : ∀ u, Rd g u d → Rd g u d') (hr : Rd g v (.tup [.agg [a, b, c, d, e, f, h], x])) : Rd g v (.tup [.agg [a, b', c, d', e, f, h], x]) := by
 refine rd_tup1 (fun u hu => ?_) hr
 cases hu with
 | agg _ vs h1 h2 =>
  refine .agg _ vs (by simpa using h1) (fun j w y hw hy => ?_)
  match j with
  | 0 => exact h2 0 w y hw hy
  | 1 => simp at hy; subst hy; exact hb w (h2 1 w b hw rfl)
  | 2 => exact h2 2 w y hw hy
  | 3 => simp at hy; subst hy; exact hd w (h2 3 w d hw rfl)
  | 4 => exact h2 4 w y hw hy
  | 5 => exact h2 5 w y hw hy
  | 6 => exact h2 6 w y hw hy
  | n + 7 => simp at hy
theorem read_ok {m : Int} {te : TypeId} (s : List UInt8) (hs : s.length ≤ 1000000) : PureFn prog (gl1 m te) 29 [.str s] (.tup [lnT (rL s), .bool (rOk s)]) := by
 have hK := rd_K m te s hs
 have bad : rOk s = false → PureFn prog (gl1 m te) 29 [.str s] (.tup [.agg zL, .bool false]) → PureFn prog (gl1 m te) 29 [.str s] (.tup [lnT (rL s), .bool (rOk s)]) := by
  intro h0 hp
  refine hp.mono fun g v hv => ?_
  unfold rL
  rw [h0]
  exact rd_ln (fun u hu => rd_nslf _ _ hu) (fun u hu => rd_nslf _ _ hu) hv
 have good : ∀ f3, rOk s = true → (∀ g v, Rd g v f3 → Rd g v (.slf false (rK s) fun i => spT (pS (rq s i)))) → PureFn prog (gl1 m te) 29 [.str s] (.tup [.agg (rX s f3), .bool true]) → PureFn prog (gl1 m te) 29 [.str s] (.tup [lnT (rL s), .bool (rOk s)]) := by
  intro f3 h0 hf hp
  refine hp.mono fun g v hv => ?_
  unfold rL
  rw [h0]
  exact rd_ln (fun u hu => hu) (fun u hu => hf g u hu) hv
 rcases rd_V m te s with ⟨h1, h2⟩ | ⟨h1, h6, h2⟩ | ⟨h1, h6, H, h2, hI⟩
 ·exact bad (by unfold rOk; rw [h1]; rfl) (c29z m te s 0 hK (by rw [h2]; rfl))
 ·refine good .nils (by unfold rOk; rw [h1, if_pos h6]; rfl) (fun g v hv => ?_) (c29z m te s 0 hK (by rw [h2]; rfl))
  unfold rK
  rw [if_pos h6]
  exact rd_nslf _ _ hv
 ·obtain ⟨r, ⟨n, hn⟩, hr⟩ := rd_run m te s hs (rQ s).length 0 (by omega) H hI
  have hp := c29z m te s n hK (by rw [h2]; exact hn)
  rcases hr with ⟨ha, rfl⟩ | ⟨ha, f3, rfl, hf⟩
  ·exact bad (by unfold rOk; rw [h1, if_neg h6, ha]; rfl) hp
  ·refine good f3 (by unfold rOk; rw [h1, if_neg h6, ha]; rfl) (fun g v hv => ?_) hp
   unfold rK
   rw [if_neg h6]
   exact hf g v hv
end Go.Proofs.Tryz

/- The contracts that Decode calls: read, and Encode over a certificate that is still being built. -/
namespace Go.Proofs.Tryz
noncomputable section
open Go.Ps
def s29z : List T → Option (T × List Bool)
 | [.str s] => some (.tup [lnT (rL s), .bool (rOk s)], [decide (s.length ≤ 1000000)])
 | _ => none
def zLn : Ln := ⟨⟨0, 0, fun _ => 0⟩, 0, 0, fun _ => ⟨0, 0, fun _ => 0⟩, 0, 0, []⟩
def dcOf (H : Hp) (a b c d e f fv : T) : Ct := ⟨intv a, intv b, intv c, intv d, intv e, intv f, oslN fv, fun i => if i < oslN fv then lnv (.agg (cellsV H (oslL fv) (i * 7) 7)) else zLn⟩
def LendC (H : Hp) (t : T) (c : Ct) : Prop := ∀ g v, St g H → Rd g v t → Rd (g.frz H g) v (ctT c)
def encP (c : Ct) : Prop := small c ∧ (∀ i, i < c.n → (c.line i).node.length ≤ 1000000) ∧ ∀ z ∈ [c.entries, c.accepted, c.delivered, c.waiting, c.letters, c.discarded], -9223372036854775808 ≤ z ∧ z ≤ 9223372036854775807
def encT (c : Ct) : List UInt8 := if CheckE c = 0 then enc c else []
def s7z (H : Hp) : List T → Option (T × List Bool)
 | [.agg [a, b, c, d, e, f, fv]] => some (.tup [.str (encT (dcOf H a b c d e f fv)), .int .i64 (CheckE (dcOf H a b c d e f fv))], [pb (LendC H (.agg [a, b, c, d, e, f, fv]) (dcOf H a b c d e f fv)), pb (encP (dcOf H a b c d e f fv))])
 | _ => none
section
variable {m : Int} {te : TypeId}
theorem s29z_ok (ts : List T) (r : T) (cs : List Bool) (h : s29z ts = some (r, cs)) (hc : allT cs = true) : PureFn prog (gl1 m te) 29 ts r := by
 unfold s29z at h
 split at h
 ·cases h
  simp only [allT, Bool.and_true, decide_eq_true_eq] at hc
  exact read_ok _ hc
 ·cases h
theorem enc_pure {c : Ct} (h : encP c) : PureFn prog (gl1 m te) 7 [ctT c] (.tup [.str (encT c), .int .i64 (CheckE c)]) := by
 have := pure1 (m := m) (te := te) (encode_ok c h.1 h.2.1 h.2.2)
 unfold encT
 by_cases e : CheckE c = 0
 ·rw [if_pos e] at this ⊢; rw [e]; exact this
 ·rw [if_neg e] at this ⊢; exact this
theorem s7z_ok (H : Hp) (ts : List T) (r : T) (cs : List Bool) (h : s7z H ts = some (r, cs)) (hc : allT cs = true) : PeFn prog (gl1 m te) H 7 ts r := by
 unfold s7z at h
 split at h
 ·cases h
  simp only [allT, Bool.and_true, Bool.and_eq_true, pb_iff] at hc
  exact lend_pure (gl1Frz m te) (enc_pure hc.2) rfl hc.1
 ·cases h
end
def D61 (m : Int) (te : TypeId) : Ed := ⟨gl1 m te, pdAddH 7 s7z (pdAdd 29 s29z (D60 m te).pd)⟩
def F9 : Fc := ⟨fun d => d == 2 || d == 1008 || d == 78 || d == 85 || d == 97, fun _ _ _ => none⟩
theorem cx61 (m : Int) (te : TypeId) : Cx prog (D61 m te) F9 := ⟨follows, pdAddH_ok (pdAdd_ok (d60ok m te) s29z_ok) s7z_ok, eeNone_ok⟩
end
end Go.Proofs.Tryz
