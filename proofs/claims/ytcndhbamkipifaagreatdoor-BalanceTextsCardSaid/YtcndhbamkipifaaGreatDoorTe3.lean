/- Texts merged: Wb, K43, Ce, Es, E, Ec, Gs, G, Gc, Ks, Kc, K22, Kd, Ns, N11, Ms, M17, Mh, Mc, Md, Me, Os, O8. -/
import Derived.Test.YtcndhbamkipifaaGreatDoorTe2
import Derived.Test.YtcndhbamkipifaaGreatDoorTe1
set_option linter.unusedSimpArgs false
set_option linter.unusedVariables false
set_option linter.unusedSectionVars false
/- A line of the text, written into the builder: Encode$1. -/
namespace Go.Proofs.Tryz
noncomputable section
open Go.Ps
set_option maxRecDepth 100000
theorem u8s_inj : ∀ (a b : List UInt8), u8s a = u8s b → a = b
 | [], [], _ => rfl
 | [], y :: b, h => by simp [u8s] at h
 | x :: a, [], h => by simp [u8s] at h
 | x :: a, y :: b, h => by
  simp only [u8s, List.map_cons, List.cons.injEq, T.int.injEq] at h
  have e : x = y := UInt8.toNat_inj.1 (by have := h.1.2; omega)
  rw [e, u8s_inj a b h.2]
theorem Bd_inj {H : Hp} {l : Nat} {A B : List UInt8} (h : Bd H l A) (k : Bd H l B) : A = B := by
 rcases h.2 with ⟨rfl, h1⟩ | ⟨_, L, _, h1, h2⟩
 ·rcases k.2 with ⟨rfl, k1⟩ | ⟨_, M, _, k1, k2⟩
  ·rfl
  ·rw [h1] at k1; simp at k1
 ·rcases k.2 with ⟨rfl, k1⟩ | ⟨_, M, _, k1, k2⟩
  ·rw [h1] at k1; simp at k1
  ·rw [h1] at k1
   simp at k1
   obtain ⟨rfl, _⟩ := k1
   rw [h2] at k2
   simp at k2
   exact u8s_inj _ _ k2
def Wr (H : Hp) (l : Nat) (s : List UInt8) (H' : Hp) : Prop := EeFn prog gl 17 [.ptr l 0, .str s] H (.tup [.int .i64 s.length, .nili]) H' ∧ ∀ B, Bd H l B → Bd H' l (B ++ s)
def wr (H : Hp) (l : Nat) (s : List UInt8) : Hp := @dite _ (∃ H', Wr H l s H') (Classical.propDecidable _) (fun h => Classical.choose h) (fun _ => H)
theorem wr_ok {H : Hp} {l : Nat} {B s : List UInt8} (h : Bd H l B) (hr : B.length + s.length ≤ 1000000000) (hs : s ≠ []) : Wr H l s (wr H l s) := by
 have hx : ∃ H', Wr H l s H' := by
  cases s with
  | nil => exact absurd rfl hs
  | cons x xs =>
   obtain ⟨H', h1, h2⟩ := wr_ex h x xs hr
   exact ⟨H', h1, fun B' hB' => by rw [Bd_inj hB' h]; exact h2⟩
 unfold wr
 rw [dif_pos hx]
 exact Classical.choose_spec hx
def e17 : List T → Hp → Option (T × Hp × List Bool)
 | [.ptr l 0, .str s], H => some (.tup [.int .i64 s.length, .nili], wr H l s, [pb (∃ B, Bd H l B ∧ B.length + s.length ≤ 1000000000), pb (s ≠ [])])
 | _, _ => none
theorem e17_ok (ts : List T) (H : Hp) (r : T) (H' : Hp) (cs : List Bool) (h : e17 ts H = some (r, H', cs)) (hc : allT cs = true) : EeFn prog gl 17 ts H r H' := by
 unfold e17 at h
 split at h
 ·cases h
  simp only [allT, Bool.and_true, Bool.and_eq_true, pb_iff] at hc
  obtain ⟨⟨B, h1, h2⟩, h3⟩ := hc
  exact (wr_ok h1 h2 h3).1
 ·cases h
def F15z : Fc := ⟨fun _ => false, edAdd 17 e17 (fun _ _ _ => none)⟩
theorem cx15z : Cx prog D30 F15z := ⟨follows, cx30.hE, edAdd_ok (own := fun _ => false) eeNone_ok e17_ok _⟩
def r0 (H : Hp) (c : List T) : Hp := H.new ⟨9, 1, c⟩
def r1 (G : Hp) (L : Nat) (c : List T) : Hp := (G.drop L).new ⟨9, 1, (obv G L).cells ++ c⟩
def Rs (G : Hp) (N l : Nat) (B : List UInt8) (ss : List (List UInt8)) : Prop := Bd G l B ∧ G.next = N + 1 ∧ G.get N = some ⟨9, 1, strs ss⟩
theorem Bd_new {H : Hp} {l : Nat} {B : List UInt8} (h : Bd H l B) (o : Ob) : Bd (H.new o) l B := by
 obtain ⟨hw, h⟩ := h
 refine ⟨wf_new hw o, ?_⟩
 rcases h with ⟨rfl, h1⟩ | ⟨hB, L, hL, h1, h2⟩
 ·have := hw _ _ h1
  exact .inl ⟨rfl, by rw [get_new, if_neg (by omega), h1]⟩
 ·have a := hw _ _ h1
  have b := hw _ _ h2
  exact .inr ⟨hB, L, hL, by rw [get_new, if_neg (by omega), h1], by rw [get_new, if_neg (by omega), h2]⟩
theorem Bd_drop {H : Hp} {l : Nat} {B : List UInt8} (h : Bd H l B) {N : Nat} {ss : List T} (hN : H.get N = some ⟨9, 1, ss⟩) : Bd (H.drop N) l B := by
 obtain ⟨hw, h⟩ := h
 refine ⟨wf_drop hw N, ?_⟩
 rcases h with ⟨rfl, h1⟩ | ⟨hB, L, hL, h1, h2⟩
 ·have hne : l ≠ N := fun e => by subst e; rw [h1] at hN; simp at hN
  exact .inl ⟨rfl, by rw [get_drop, if_neg hne, h1]⟩
 ·have hne : l ≠ N := fun e => by subst e; rw [h1] at hN; simp at hN
  have hne2 : L ≠ N := fun e => by subst e; rw [h2] at hN; simp at hN
  exact .inr ⟨hB, L, hL, by rw [get_drop, if_neg hne, h1], by rw [get_drop, if_neg hne2, h2]⟩
theorem rs0 {H : Hp} {l : Nat} {B : List UInt8} (h : Bd H l B) (ss : List (List UInt8)) : Rs (r0 H (strs ss)) H.next l B ss :=
 ⟨Bd_new h _, rfl, by unfold r0; rw [get_new, if_pos rfl]⟩
theorem rs1 {G : Hp} {N l : Nat} {B : List UInt8} {ss : List (List UInt8)} (h : Rs G N l B ss) (ts : List (List UInt8)) : Rs (r1 G N (strs ts)) (N + 1) l B (ss ++ ts) := by
 obtain ⟨h1, h2, h3⟩ := h
 refine ⟨Bd_new (Bd_drop h1 h3) _, ?_, ?_⟩
 ·show G.next + 1 = _; rw [h2]
 ·unfold r1
  rw [get_new, if_pos (by show N + 1 = G.next; rw [h2]), obv_eq h3]
  simp [strs]
theorem rs_app {G : Hp} {N l : Nat} {B : List UInt8} {ss : List (List UInt8)} (h : Rs G N l B ss) {k : Nat} (hk : ss.length = k) : obApp G N 9 1 k = true := by
 unfold obApp
 rw [h.2.2]
 simp [strs, hk]
theorem rs_row {G : Hp} {N l : Nat} {B : List UInt8} {ss : List (List UInt8)} (h : Rs G N l B ss) {k : Nat} (hk : ss.length = k) : rowS G N k := ⟨ss, h.2.2, hk⟩
theorem rs_strv {G : Hp} {N l : Nat} {B : List UInt8} {ss : List (List UInt8)} (h : Rs G N l B ss) : strv (obv G N).cells = ss := by rw [obv_eq h.2.2]; exact strv_strs ss
def qa0 (H : Hp) (w : List UInt8) (a b c d e f : Int) : Hp := r0 H [.str w, .str (itoaK a)]
def qa1 (H : Hp) (w : List UInt8) (a b c d e f : Int) : Hp := r1 (qa0 H w a b c d e f) (H.next + 0) [.str (itoaK b)]
def qa2 (H : Hp) (w : List UInt8) (a b c d e f : Int) : Hp := r1 (qa1 H w a b c d e f) (H.next + 1) [.str (itoaK c)]
def qa3 (H : Hp) (w : List UInt8) (a b c d e f : Int) : Hp := r1 (qa2 H w a b c d e f) (H.next + 2) [.str (itoaK d)]
def qa4 (H : Hp) (w : List UInt8) (a b c d e f : Int) : Hp := r1 (qa3 H w a b c d e f) (H.next + 3) [.str (itoaK e)]
def qa5 (H : Hp) (w : List UInt8) (a b c d e f : Int) : Hp := r1 (qa4 H w a b c d e f) (H.next + 4) [.str (itoaK f)]
def qb0 (H : Hp) (w : List UInt8) (a b c : Int) (p q r : List UInt8) : Hp := r0 H [.str w, .str p]
def qb1 (H : Hp) (w : List UInt8) (a b c : Int) (p q r : List UInt8) : Hp := r1 (qb0 H w a b c p q r) (H.next + 0) [.str (itoaK a)]
def qb2 (H : Hp) (w : List UInt8) (a b c : Int) (p q r : List UInt8) : Hp := r1 (qb1 H w a b c p q r) (H.next + 1) [.str (itoaK b)]
def qb3 (H : Hp) (w : List UInt8) (a b c : Int) (p q r : List UInt8) : Hp := r1 (qb2 H w a b c p q r) (H.next + 2) [.str (itoaK c)]
def qb4 (H : Hp) (w : List UInt8) (a b c : Int) (p q r : List UInt8) : Hp := r1 (qb3 H w a b c p q r) (H.next + 3) [.str q, .str r]
theorem w15a (l : Nat) (w : List UInt8) (a b c d e f : Int) (H : Hp) : outU prog f15 (evalCodeU prog D30 F15z 10 (bodyOf f15) ([.str w, .sl true [.int .i64 a, .int .i64 b, .int .i64 c, .int .i64 d, .int .i64 e, .int .i64 f], .slf false 0 (fun _ => .str []), .ptr l 0] ++ List.replicate 37 undefT) H [true, true, true, true, true, true, false] [])
  = some (.tup [], wr (qa5 H w a b c d e f) l (joinL [32] (strv (obv (qa5 H w a b c d e f) (H.next + 5)).cells) ++ [10]),
   [pb (∃ B, Bd (qa5 H w a b c d e f) l B ∧ B.length + (joinL [32] (strv (obv (qa5 H w a b c d e f) (H.next + 5)).cells) ++ [10]).length ≤ 1000000000), pb (joinL [32] (strv (obv (qa5 H w a b c d e f) (H.next + 5)).cells) ++ [10] ≠ []), decide ((joinL [32] (strv (obv (qa5 H w a b c d e f) (H.next + 5)).cells)).length + 1 ≤ maxStr), pb (rowS (qa5 H w a b c d e f) (H.next + 5) 7), decide ((joinL [32] (strv (obv (qa5 H w a b c d e f) (H.next + 5)).cells)).length ≤ 140737488355328), true, true, true, true, true, true, true, true, true, true, obApp (qa4 H w a b c d e f) (H.next + 4) 9 1 6, true, decide (-9223372036854775808 ≤ f), decide (f ≤ 9223372036854775807), true, true, true, true, true, true, obApp (qa3 H w a b c d e f) (H.next + 3) 9 1 5, true, decide (-9223372036854775808 ≤ e), decide (e ≤ 9223372036854775807), true, true, true, true, true, true, obApp (qa2 H w a b c d e f) (H.next + 2) 9 1 4, true, decide (-9223372036854775808 ≤ d), decide (d ≤ 9223372036854775807), true, true, true, true, true, true, obApp (qa1 H w a b c d e f) (H.next + 1) 9 1 3, true, decide (-9223372036854775808 ≤ c), decide (c ≤ 9223372036854775807), true, true, true, true, true, true, obApp (qa0 H w a b c d e f) (H.next + 0) 9 1 2, true, decide (-9223372036854775808 ≤ b), decide (b ≤ 9223372036854775807), true, true, true, true, true, true, true, true, decide (-9223372036854775808 ≤ a), decide (a ≤ 9223372036854775807), true, true, true, true, true, true, true, true, true, true]) := by kernel_rfl
theorem w15b (l : Nat) (w : List UInt8) (a b c : Int) (p q r : List UInt8) (H : Hp) : outU prog f15 (evalCodeU prog D30 F15z 10 (bodyOf f15) ([.str w, .sl true [.int .i64 a, .int .i64 b, .int .i64 c], .sl true [.str p, .str q, .str r], .ptr l 0] ++ List.replicate 37 undefT) H [true, true, true, false] [])
  = some (.tup [], wr (qb4 H w a b c p q r) l (joinL [32] (strv (obv (qb4 H w a b c p q r) (H.next + 4)).cells) ++ [10]),
   [pb (∃ B, Bd (qb4 H w a b c p q r) l B ∧ B.length + (joinL [32] (strv (obv (qb4 H w a b c p q r) (H.next + 4)).cells) ++ [10]).length ≤ 1000000000), pb (joinL [32] (strv (obv (qb4 H w a b c p q r) (H.next + 4)).cells) ++ [10] ≠ []), decide ((joinL [32] (strv (obv (qb4 H w a b c p q r) (H.next + 4)).cells)).length + 1 ≤ maxStr), pb (rowS (qb4 H w a b c p q r) (H.next + 4) 7), decide ((joinL [32] (strv (obv (qb4 H w a b c p q r) (H.next + 4)).cells)).length ≤ 140737488355328), true, true, true, obApp (qb3 H w a b c p q r) (H.next + 3) 9 1 5, true, true, true, true, true, true, true, true, obApp (qb2 H w a b c p q r) (H.next + 2) 9 1 4, true, decide (-9223372036854775808 ≤ c), decide (c ≤ 9223372036854775807), true, true, true, true, true, true, obApp (qb1 H w a b c p q r) (H.next + 1) 9 1 3, true, decide (-9223372036854775808 ≤ b), decide (b ≤ 9223372036854775807), true, true, true, true, true, true, obApp (qb0 H w a b c p q r) (H.next + 0) 9 1 2, true, decide (-9223372036854775808 ≤ a), decide (a ≤ 9223372036854775807), true, true, true, true, true, true, true, true, true, true, true, true]) := by kernel_rfl
theorem lineA_ex {H : Hp} {l : Nat} {B : List UInt8} (h : Bd H l B) (w : List UInt8) (a b c d e f : Int) (hr : ∀ z ∈ [a, b, c, d, e, f], -9223372036854775808 ≤ z ∧ z ≤ 9223372036854775807) (hw : w.length ≤ 100) (hB : B.length ≤ 900000000) :
  ∃ H', EeFn prog gl 15 [.str w, .sl true [.int .i64 a, .int .i64 b, .int .i64 c, .int .i64 d, .int .i64 e, .int .i64 f], .nils, .ptr l 0] H (.tup []) H' ∧ Bd H' l (B ++ (joinL [32] [w, itoaK a, itoaK b, itoaK c, itoaK d, itoaK e, itoaK f] ++ [10])) := by
 have s0 : Rs (qa0 H w a b c d e f) H.next l B [w, itoaK a] := rs0 h [w, itoaK a]
 have s1 : Rs (qa1 H w a b c d e f) (H.next + 1) l B ([w, itoaK a, itoaK b]) := rs1 s0 [itoaK b]
 have s2 : Rs (qa2 H w a b c d e f) (H.next + 2) l B ([w, itoaK a, itoaK b, itoaK c]) := rs1 s1 [itoaK c]
 have s3 : Rs (qa3 H w a b c d e f) (H.next + 3) l B ([w, itoaK a, itoaK b, itoaK c, itoaK d]) := rs1 s2 [itoaK d]
 have s4 : Rs (qa4 H w a b c d e f) (H.next + 4) l B ([w, itoaK a, itoaK b, itoaK c, itoaK d, itoaK e]) := rs1 s3 [itoaK e]
 have s5 : Rs (qa5 H w a b c d e f) (H.next + 5) l B ([w, itoaK a, itoaK b, itoaK c, itoaK d, itoaK e, itoaK f]) := rs1 s4 [itoaK f]
 have hl := joinL_len [32] 100 [w, itoaK a, itoaK b, itoaK c, itoaK d, itoaK e, itoaK f] (fun x hx => by
  simp only [List.mem_cons, List.not_mem_nil, or_false] at hx
  rcases hx with rfl | rfl | rfl | rfl | rfl | rfl | rfl
  ·exact hw
  all_goals (have := itoaK_len; first | exact Nat.le_trans (itoaK_len _) (by decide)))
 simp only [List.length_cons, List.length_nil] at hl
 have e5 := rs_strv s5
 have hb : B.length + (joinL [32] [w, itoaK a, itoaK b, itoaK c, itoaK d, itoaK e, itoaK f] ++ [10]).length ≤ 1000000000 := by simp; omega
 have hne : joinL [32] [w, itoaK a, itoaK b, itoaK c, itoaK d, itoaK e, itoaK f] ++ [10] ≠ [] := by simp
 have hfn : okFn prog 15 = true ∧ fnOk prog 15 = true := ⟨by kernel_rfl, by kernel_rfl⟩
 have hE := ee_of (c := bodyOf f15) cx15z hfn.1 hfn.2 func15 (by kernel_rfl) (by kernel_rfl) (w15a l w a b c d e f H) (by
  have c1 : pb (∃ B, Bd (qa5 H w a b c d e f) l B ∧ B.length + (joinL [32] [w, itoaK a, itoaK b, itoaK c, itoaK d, itoaK e, itoaK f] ++ [10]).length ≤ 1000000000) = true := pb_iff.2 ⟨B, s5.1, hb⟩
  have c2 := pb_iff.2 hne
  have c3 : decide ((joinL [32] [w, itoaK a, itoaK b, itoaK c, itoaK d, itoaK e, itoaK f]).length + 1 ≤ maxStr) = true := decide_eq_true (by unfold maxStr; omega)
  have c4 := pb_iff.2 (rs_row s5 (k := 7) rfl)
  have c5 : decide ((joinL [32] [w, itoaK a, itoaK b, itoaK c, itoaK d, itoaK e, itoaK f]).length ≤ 140737488355328) = true := decide_eq_true (by omega)
  have d0 := rs_app s0 (k := 2) rfl
  have d1 := rs_app s1 (k := 3) rfl
  have d2 := rs_app s2 (k := 4) rfl
  have d3 := rs_app s3 (k := 5) rfl
  have d4 := rs_app s4 (k := 6) rfl
  have la := decide_eq_true (hr a (by simp)).1
  have ua := decide_eq_true (hr a (by simp)).2
  have lb := decide_eq_true (hr b (by simp)).1
  have ub := decide_eq_true (hr b (by simp)).2
  have lc := decide_eq_true (hr c (by simp)).1
  have uc := decide_eq_true (hr c (by simp)).2
  have ld := decide_eq_true (hr d (by simp)).1
  have ud := decide_eq_true (hr d (by simp)).2
  have le := decide_eq_true (hr e (by simp)).1
  have ue := decide_eq_true (hr e (by simp)).2
  have lf := decide_eq_true (hr f (by simp)).1
  have uf := decide_eq_true (hr f (by simp)).2
  simp only [Nat.add_zero, e5, allT, c1, c2, c3, c4, c5, d0, d1, d2, d3, d4, la, ua, lb, ub, lc, uc, ld, ud, le, ue, lf, uf, Bool.and_true])
 rw [e5] at hE
 refine ⟨_, ⟨hE.1, fun g vs hg hs hgl hv => hE.2 g vs hg hs hgl ?_⟩, ?_⟩
 ·refine ⟨hv.1, fun j v t hj ht => ?_⟩
  by_cases e2 : j = 2
  ·subst e2
   simp at ht
   subst ht
   exact rd_nslf _ _ (hv.2 2 v .nils hj rfl)
  ·refine hv.2 j v t hj ?_
   match j, e2 with
   | 0, _ => exact ht
   | 1, _ => exact ht
   | 3, _ => exact ht
   | n + 4, _ => simp at ht
 ·exact (wr_ok s5.1 hb hne).2 B s5.1
theorem lineB_ex {H : Hp} {l : Nat} {B : List UInt8} (h : Bd H l B) (w : List UInt8) (a b c : Int) (p q r : List UInt8) (hr : ∀ z ∈ [a, b, c], -9223372036854775808 ≤ z ∧ z ≤ 9223372036854775807) (hw : w.length ≤ 10000000 ∧ p.length ≤ 10000000 ∧ q.length ≤ 10000000 ∧ r.length ≤ 10000000) (hB : B.length ≤ 900000000) :
  ∃ H', EeFn prog gl 15 [.str w, .sl true [.int .i64 a, .int .i64 b, .int .i64 c], .sl true [.str p, .str q, .str r], .ptr l 0] H (.tup []) H' ∧ Bd H' l (B ++ (joinL [32] [w, p, itoaK a, itoaK b, itoaK c, q, r] ++ [10])) := by
 have s0 : Rs (qb0 H w a b c p q r) H.next l B [w, p] := rs0 h [w, p]
 have s1 : Rs (qb1 H w a b c p q r) (H.next + 1) l B [w, p, itoaK a] := rs1 s0 [itoaK a]
 have s2 : Rs (qb2 H w a b c p q r) (H.next + 2) l B [w, p, itoaK a, itoaK b] := rs1 s1 [itoaK b]
 have s3 : Rs (qb3 H w a b c p q r) (H.next + 3) l B [w, p, itoaK a, itoaK b, itoaK c] := rs1 s2 [itoaK c]
 have s4 : Rs (qb4 H w a b c p q r) (H.next + 4) l B [w, p, itoaK a, itoaK b, itoaK c, q, r] := rs1 s3 [q, r]
 have hl := joinL_len [32] 10000000 [w, p, itoaK a, itoaK b, itoaK c, q, r] (fun x hx => by
  simp only [List.mem_cons, List.not_mem_nil, or_false] at hx
  rcases hx with rfl | rfl | rfl | rfl | rfl | rfl | rfl
  ·exact hw.1
  ·exact hw.2.1
  ·exact Nat.le_trans (itoaK_len _) (by decide)
  ·exact Nat.le_trans (itoaK_len _) (by decide)
  ·exact Nat.le_trans (itoaK_len _) (by decide)
  ·exact hw.2.2.1
  ·exact hw.2.2.2)
 simp only [List.length_cons, List.length_nil] at hl
 have e4 := rs_strv s4
 have hb : B.length + (joinL [32] [w, p, itoaK a, itoaK b, itoaK c, q, r] ++ [10]).length ≤ 1000000000 := by simp; omega
 have hne : joinL [32] [w, p, itoaK a, itoaK b, itoaK c, q, r] ++ [10] ≠ [] := by simp
 have hfn : okFn prog 15 = true ∧ fnOk prog 15 = true := ⟨by kernel_rfl, by kernel_rfl⟩
 have hE := ee_of (c := bodyOf f15) cx15z hfn.1 hfn.2 func15 (by kernel_rfl) (by kernel_rfl) (w15b l w a b c p q r H) (by
  have c1 : pb (∃ B, Bd (qb4 H w a b c p q r) l B ∧ B.length + (joinL [32] [w, p, itoaK a, itoaK b, itoaK c, q, r] ++ [10]).length ≤ 1000000000) = true := pb_iff.2 ⟨B, s4.1, hb⟩
  have c2 := pb_iff.2 hne
  have c3 : decide ((joinL [32] [w, p, itoaK a, itoaK b, itoaK c, q, r]).length + 1 ≤ maxStr) = true := decide_eq_true (by unfold maxStr; omega)
  have c4 := pb_iff.2 (rs_row s4 (k := 7) rfl)
  have c5 : decide ((joinL [32] [w, p, itoaK a, itoaK b, itoaK c, q, r]).length ≤ 140737488355328) = true := decide_eq_true (by omega)
  have d0 := rs_app s0 (k := 2) rfl
  have d1 := rs_app s1 (k := 3) rfl
  have d2 := rs_app s2 (k := 4) rfl
  have d3 := rs_app s3 (k := 5) rfl
  have la := decide_eq_true (hr a (by simp)).1
  have ua := decide_eq_true (hr a (by simp)).2
  have lb := decide_eq_true (hr b (by simp)).1
  have ub := decide_eq_true (hr b (by simp)).2
  have lc := decide_eq_true (hr c (by simp)).1
  have uc := decide_eq_true (hr c (by simp)).2
  simp only [Nat.add_zero, e4, allT, c1, c2, c3, c4, c5, d0, d1, d2, d3, la, ua, lb, ub, lc, uc, Bool.and_true])
 rw [e4] at hE
 exact ⟨_, hE, (wr_ok s4.1 hb hne).2 B s4.1⟩
end
end Go.Proofs.Tryz

/- children of the law as a machine, by program (gen2). -/
namespace Go.Proofs.Tryz
noncomputable section
open Go.Ps
set_option maxRecDepth 100000
/-! ### 43 -/
inductive S43 where
 | l0n (x6 : Int)
 | l0o (L N : Nat) (x6 : Int) (H : Hp)
 | l1n (x6 x7 : Int)
 | l1o (L N : Nat) (x6 x7 : Int) (H : Hp)
def g43_s_1 (m : Nat) (f : Nat → Ln) (s : Sp) : List Bool := []
theorem w43_s_1 (m : Nat) (f : Nat → Ln) (s : Sp) : outK prog f46 20 [0, 3, 5, 6] (runK prog D9 F0 2000 (.code (bodyOf f46)) [] 0 ([lsT m f, spT s] ++ List.replicate 37 undefT) ⟨0, []⟩ [] [])
  = some (OutT.loop 0 (loopAt f46 0).1 (loopAt f46 0).2, g43_s_1 m f s, ⟨0, []⟩, [T.slf false m fun i => lnT (f i), (spT s).ref 0, T.nils, T.int .i64 0], 39) := by kernel_rfl
def g43_0n_1 (m : Nat) (f : Nat → Ln) (s : Sp) (x6 : Int) : List Bool := [decide (x6 < (↑m : Int))]
def r43_0n (m : Nat) (f : Nat → Ln) (s : Sp) (x6 : Int) (fr : List T) (ds : List Bool) : RD Out := runK prog D9 F0 2000 (.code (loopAt f46 0).1) (.lp :: (loopAt f46 0).2) 0 (frK [0, 3, 5, 6] [T.slf false m fun i => lnT (f i), (spT s).ref 0, T.nils, T.int .i64 x6] fr 39) ⟨0, []⟩ ds []
theorem w43_0n_1 (m : Nat) (f : Nat → Ln) (s : Sp) (x6 : Int) (fr : List T) : outK prog f46 20 [0, 3, 5, 6, 7] (r43_0n m f s x6 fr [true])
  = some (OutT.loop 0 (loopAt f46 1).1 (loopAt f46 1).2, g43_0n_1 m f s x6, ⟨0, []⟩, [T.slf false m fun i => lnT (f i), (spT s).ref 0, T.nils, T.int .i64 x6, T.int .i64 0], 39) := by kernel_rfl
def g43_0n_2 (m : Nat) (f : Nat → Ln) (s : Sp) (x6 : Int) : List Bool := [!decide (x6 < (↑m : Int))]
theorem w43_0n_2 (m : Nat) (f : Nat → Ln) (s : Sp) (x6 : Int) (fr : List T) : outK prog f46 20 [] (r43_0n m f s x6 fr [false])
  = some (OutT.done (some T.nils), g43_0n_2 m f s x6, ⟨0, []⟩, [], 0) := by kernel_rfl
def k43_1n_0 (m : Nat) (f : Nat → Ln) (s : Sp) (x6 x7 : Int) : List Bool := [decide (0 ≤ x6), decide (x6 < (↑m : Int)), true]
def k43_1n_1 (m : Nat) (f : Nat → Ln) (s : Sp) (x6 x7 : Int) : List Bool := let y0 := decide (x7 < (↑(f x6.toNat).k : Int)); (isV (spT ((f x6.toNat).from_ x7.toNat)) (spT ((f x6.toNat).from_ x7.toNat))) :: (isV (spT s) (spT s)) :: (decide (((f x6.toNat).from_ x7.toNat).n ≤ 281474976710656)) :: (decide (0 ≤ x7)) :: y0 :: true :: (decide (0 ≤ x6)) :: (decide (x6 < (↑m : Int))) :: true :: y0 :: k43_1n_0 m f s x6 x7
def g43_1n_1 (m : Nat) (f : Nat → Ln) (s : Sp) (x6 x7 : Int) : List Bool := true :: true :: true :: (eqS ((f x6.toNat).from_ x7.toNat) s) :: k43_1n_1 m f s x6 x7
def r43_1n (m : Nat) (f : Nat → Ln) (s : Sp) (x6 x7 : Int) (fr : List T) (ds : List Bool) : RD Out := runK prog D9 F0 2000 (.code (loopAt f46 1).1) (.lp :: (loopAt f46 1).2) 0 (frK [0, 3, 5, 6, 7] [T.slf false m fun i => lnT (f i), (spT s).ref 0, T.nils, T.int .i64 x6, T.int .i64 x7] fr 39) ⟨0, []⟩ ds []
theorem w43_1n_1 (m : Nat) (f : Nat → Ln) (s : Sp) (x6 x7 : Int) (fr : List T) : outK prog f46 20 [0, 3, 5, 6, 7] (r43_1n m f s x6 x7 fr [true, true])
  = some (OutT.again 0, g43_1n_1 m f s x6 x7, { next := 1, objs := [(0, { elem := 3, sz := 1, cells := [T.int .i64 x6] })] }, [T.slf false m fun i => lnT (f i), (spT s).ref 0, T.osl 0 1 0 1, T.int .i64 x6, T.int .i64 (IntKind.i64.wrap (x7 + 1))], 39) := by kernel_rfl
def g43_1n_2 (m : Nat) (f : Nat → Ln) (s : Sp) (x6 x7 : Int) : List Bool := (!eqS ((f x6.toNat).from_ x7.toNat) s) :: k43_1n_1 m f s x6 x7
theorem w43_1n_2 (m : Nat) (f : Nat → Ln) (s : Sp) (x6 x7 : Int) (fr : List T) : outK prog f46 20 [0, 3, 5, 6, 7] (r43_1n m f s x6 x7 fr [true, false])
  = some (OutT.again 0, g43_1n_2 m f s x6 x7, ⟨0, []⟩, [T.slf false m fun i => lnT (f i), (spT s).ref 0, T.nils, T.int .i64 x6, T.int .i64 (IntKind.i64.wrap (x7 + 1))], 39) := by kernel_rfl
def g43_1n_3 (m : Nat) (f : Nat → Ln) (s : Sp) (x6 x7 : Int) : List Bool := (!decide (x7 < (↑(f x6.toNat).k : Int))) :: k43_1n_0 m f s x6 x7
theorem w43_1n_3 (m : Nat) (f : Nat → Ln) (s : Sp) (x6 x7 : Int) (fr : List T) : outK prog f46 20 [0, 3, 5, 6] (r43_1n m f s x6 x7 fr [false])
  = some (OutT.again 1, g43_1n_3 m f s x6 x7, ⟨0, []⟩, [T.slf false m fun i => lnT (f i), (spT s).ref 0, T.nils, T.int .i64 (IntKind.i64.wrap (x6 + 1))], 39) := by kernel_rfl
def k43_1o_0 (m : Nat) (f : Nat → Ln) (s : Sp) (L N : Nat) (x6 x7 : Int) (H : Hp) : List Bool := [decide (0 ≤ x6), decide (x6 < (↑m : Int)), true]
def k43_1o_1 (m : Nat) (f : Nat → Ln) (s : Sp) (L N : Nat) (x6 x7 : Int) (H : Hp) : List Bool := let y0 := decide (x7 < (↑(f x6.toNat).k : Int)); (isV (spT ((f x6.toNat).from_ x7.toNat)) (spT ((f x6.toNat).from_ x7.toNat))) :: (isV (spT s) (spT s)) :: (decide (((f x6.toNat).from_ x7.toNat).n ≤ 281474976710656)) :: (decide (0 ≤ x7)) :: y0 :: true :: (decide (0 ≤ x6)) :: (decide (x6 < (↑m : Int))) :: true :: y0 :: k43_1o_0 m f s L N x6 x7 H
def g43_1o_1 (m : Nat) (f : Nat → Ln) (s : Sp) (L N : Nat) (x6 x7 : Int) (H : Hp) : List Bool := true :: true :: (obApp H L 3 1 N) :: (roomT (N + 1) 8) :: (eqS ((f x6.toNat).from_ x7.toNat) s) :: k43_1o_1 m f s L N x6 x7 H
def r43_1o (m : Nat) (f : Nat → Ln) (s : Sp) (L N : Nat) (x6 x7 : Int) (H : Hp) (fr : List T) (ds : List Bool) : RD Out := runK prog D9 F0 2000 (.code (loopAt f46 1).1) (.lp :: (loopAt f46 1).2) 0 (frK [0, 3, 5, 6, 7] [T.slf false m fun i => lnT (f i), (spT s).ref 0, T.osl L 1 0 N, T.int .i64 x6, T.int .i64 x7] fr 39) H ds []
theorem w43_1o_1 (m : Nat) (f : Nat → Ln) (s : Sp) (L N : Nat) (x6 x7 : Int) (H : Hp) (fr : List T) : outK prog f46 20 [0, 3, 5, 6, 7] (r43_1o m f s L N x6 x7 H fr [true, true])
  = some (OutT.again 0, g43_1o_1 m f s L N x6 x7 H, { next := H.next + 1, objs := (H.next, { elem := 3, sz := 1, cells := (obv H L).cells ++ [T.int .i64 x6] }) :: dropOb H.objs L }, [T.slf false m fun i => lnT (f i), (spT s).ref 0, T.osl H.next 1 0 (N + 1), T.int .i64 x6, T.int .i64 (IntKind.i64.wrap (x7 + 1))], 39) := by kernel_rfl
def g43_1o_2 (m : Nat) (f : Nat → Ln) (s : Sp) (L N : Nat) (x6 x7 : Int) (H : Hp) : List Bool := (!eqS ((f x6.toNat).from_ x7.toNat) s) :: k43_1o_1 m f s L N x6 x7 H
theorem w43_1o_2 (m : Nat) (f : Nat → Ln) (s : Sp) (L N : Nat) (x6 x7 : Int) (H : Hp) (fr : List T) : outK prog f46 20 [0, 3, 5, 6, 7] (r43_1o m f s L N x6 x7 H fr [true, false])
  = some (OutT.again 0, g43_1o_2 m f s L N x6 x7 H, H, [T.slf false m fun i => lnT (f i), (spT s).ref 0, T.osl L 1 0 N, T.int .i64 x6, T.int .i64 (IntKind.i64.wrap (x7 + 1))], 39) := by kernel_rfl
def g43_1o_3 (m : Nat) (f : Nat → Ln) (s : Sp) (L N : Nat) (x6 x7 : Int) (H : Hp) : List Bool := (!decide (x7 < (↑(f x6.toNat).k : Int))) :: k43_1o_0 m f s L N x6 x7 H
theorem w43_1o_3 (m : Nat) (f : Nat → Ln) (s : Sp) (L N : Nat) (x6 x7 : Int) (H : Hp) (fr : List T) : outK prog f46 20 [0, 3, 5, 6] (r43_1o m f s L N x6 x7 H fr [false])
  = some (OutT.again 1, g43_1o_3 m f s L N x6 x7 H, H, [T.slf false m fun i => lnT (f i), (spT s).ref 0, T.osl L 1 0 N, T.int .i64 (IntKind.i64.wrap (x6 + 1))], 39) := by kernel_rfl
def g43_0o_1 (m : Nat) (f : Nat → Ln) (s : Sp) (L N : Nat) (x6 : Int) (H : Hp) : List Bool := [decide (x6 < (↑m : Int))]
def r43_0o (m : Nat) (f : Nat → Ln) (s : Sp) (L N : Nat) (x6 : Int) (H : Hp) (fr : List T) (ds : List Bool) : RD Out := runK prog D9 F0 2000 (.code (loopAt f46 0).1) (.lp :: (loopAt f46 0).2) 0 (frK [0, 3, 5, 6] [T.slf false m fun i => lnT (f i), (spT s).ref 0, T.osl L 1 0 N, T.int .i64 x6] fr 39) H ds []
theorem w43_0o_1 (m : Nat) (f : Nat → Ln) (s : Sp) (L N : Nat) (x6 : Int) (H : Hp) (fr : List T) : outK prog f46 20 [0, 3, 5, 6, 7] (r43_0o m f s L N x6 H fr [true])
  = some (OutT.loop 0 (loopAt f46 1).1 (loopAt f46 1).2, g43_0o_1 m f s L N x6 H, H, [T.slf false m fun i => lnT (f i), (spT s).ref 0, T.osl L 1 0 N, T.int .i64 x6, T.int .i64 0], 39) := by kernel_rfl
def g43_0o_2 (m : Nat) (f : Nat → Ln) (s : Sp) (L N : Nat) (x6 : Int) (H : Hp) : List Bool := [!decide (x6 < (↑m : Int))]
theorem w43_0o_2 (m : Nat) (f : Nat → Ln) (s : Sp) (L N : Nat) (x6 : Int) (H : Hp) (fr : List T) : outK prog f46 20 [] (r43_0o m f s L N x6 H fr [false])
  = some (OutT.done (frzT 20 H (T.osl L 1 0 N)), g43_0o_2 m f s L N x6 H, ⟨0, []⟩, [], 0) := by kernel_rfl
def step43_0n (m : Nat) (f : Nat → Ln) (s : Sp) (x6 : Int) : Option (S43 ⊕ T) :=
 (if decide (x6 < (↑m : Int)) then (if allT (g43_0n_1 m f s x6) then some (.inl (.l1n x6 0)) else none) else (if allT (g43_0n_2 m f s x6) then some (.inr (T.nils)) else none))
def V43_0n (m : Nat) (f : Nat → Ln) (s : Sp) (x6 : Int) : S43 ⊕ T :=
 (if decide (x6 < (↑m : Int)) then (.inl (.l1n x6 0)) else (.inr (T.nils)))
def K43_0n (m : Nat) (f : Nat → Ln) (s : Sp) (x6 : Int) : Bool :=
 (if decide (x6 < (↑m : Int)) then (allT (g43_0n_1 m f s x6)) else (allT (g43_0n_2 m f s x6)))
theorem T43_0n (m : Nat) (f : Nat → Ln) (s : Sp) (x6 : Int) (hk : K43_0n m f s x6 = true) : step43_0n m f s x6 = some (V43_0n m f s x6) :=
 (tree_if tree_leaf tree_leaf) hk
def step43_0o (m : Nat) (f : Nat → Ln) (s : Sp) (L N : Nat) (x6 : Int) (H : Hp) : Option (S43 ⊕ T) :=
 (if decide (x6 < (↑m : Int)) then (if allT (g43_0o_1 m f s L N x6 H) then some (.inl (.l1o L N x6 0 H)) else none) else (if allT (g43_0o_2 m f s L N x6 H) then ((frzT 20 H (T.osl L 1 0 N))).map .inr else none))
def V43_0o (m : Nat) (f : Nat → Ln) (s : Sp) (L N : Nat) (x6 : Int) (H : Hp) : S43 ⊕ T :=
 (if decide (x6 < (↑m : Int)) then (.inl (.l1o L N x6 0 H)) else (.inr (((frzT 20 H (T.osl L 1 0 N))).getD undefT)))
def K43_0o (m : Nat) (f : Nat → Ln) (s : Sp) (L N : Nat) (x6 : Int) (H : Hp) : Bool :=
 (if decide (x6 < (↑m : Int)) then (allT (g43_0o_1 m f s L N x6 H)) else (allT (g43_0o_2 m f s L N x6 H) && ((frzT 20 H (T.osl L 1 0 N))).isSome))
theorem T43_0o (m : Nat) (f : Nat → Ln) (s : Sp) (L N : Nat) (x6 : Int) (H : Hp) (hk : K43_0o m f s L N x6 H = true) : step43_0o m f s L N x6 H = some (V43_0o m f s L N x6 H) :=
 (tree_if tree_leaf tree_leafO) hk
def step43_1n (m : Nat) (f : Nat → Ln) (s : Sp) (x6 x7 : Int) : Option (S43 ⊕ T) :=
 (if decide (x7 < (↑(f x6.toNat).k : Int)) then (if eqS ((f x6.toNat).from_ x7.toNat) s then (if allT (g43_1n_1 m f s x6 x7) then some (.inl (.l1o 0 1 x6 (IntKind.i64.wrap (x7 + 1)) ({ next := 1, objs := [(0, { elem := 3, sz := 1, cells := [T.int .i64 x6] })] }))) else none) else (if allT (g43_1n_2 m f s x6 x7) then some (.inl (.l1n x6 (IntKind.i64.wrap (x7 + 1)))) else none)) else (if allT (g43_1n_3 m f s x6 x7) then some (.inl (.l0n (IntKind.i64.wrap (x6 + 1)))) else none))
def V43_1n (m : Nat) (f : Nat → Ln) (s : Sp) (x6 x7 : Int) : S43 ⊕ T :=
 (if decide (x7 < (↑(f x6.toNat).k : Int)) then (if eqS ((f x6.toNat).from_ x7.toNat) s then (.inl (.l1o 0 1 x6 (IntKind.i64.wrap (x7 + 1)) ({ next := 1, objs := [(0, { elem := 3, sz := 1, cells := [T.int .i64 x6] })] }))) else (.inl (.l1n x6 (IntKind.i64.wrap (x7 + 1))))) else (.inl (.l0n (IntKind.i64.wrap (x6 + 1)))))
def K43_1n (m : Nat) (f : Nat → Ln) (s : Sp) (x6 x7 : Int) : Bool :=
 (if decide (x7 < (↑(f x6.toNat).k : Int)) then (if eqS ((f x6.toNat).from_ x7.toNat) s then (allT (g43_1n_1 m f s x6 x7)) else (allT (g43_1n_2 m f s x6 x7))) else (allT (g43_1n_3 m f s x6 x7)))
theorem T43_1n (m : Nat) (f : Nat → Ln) (s : Sp) (x6 x7 : Int) (hk : K43_1n m f s x6 x7 = true) : step43_1n m f s x6 x7 = some (V43_1n m f s x6 x7) :=
 (tree_if (tree_if tree_leaf tree_leaf) tree_leaf) hk
def step43_1o (m : Nat) (f : Nat → Ln) (s : Sp) (L N : Nat) (x6 x7 : Int) (H : Hp) : Option (S43 ⊕ T) :=
 (if decide (x7 < (↑(f x6.toNat).k : Int)) then (if eqS ((f x6.toNat).from_ x7.toNat) s then (if allT (g43_1o_1 m f s L N x6 x7 H) then some (.inl (.l1o H.next (N + 1) x6 (IntKind.i64.wrap (x7 + 1)) ({ next := H.next + 1, objs := (H.next, { elem := 3, sz := 1, cells := (obv H L).cells ++ [T.int .i64 x6] }) :: dropOb H.objs L }))) else none) else (if allT (g43_1o_2 m f s L N x6 x7 H) then some (.inl (.l1o L N x6 (IntKind.i64.wrap (x7 + 1)) H)) else none)) else (if allT (g43_1o_3 m f s L N x6 x7 H) then some (.inl (.l0o L N (IntKind.i64.wrap (x6 + 1)) H)) else none))
def V43_1o (m : Nat) (f : Nat → Ln) (s : Sp) (L N : Nat) (x6 x7 : Int) (H : Hp) : S43 ⊕ T :=
 (if decide (x7 < (↑(f x6.toNat).k : Int)) then (if eqS ((f x6.toNat).from_ x7.toNat) s then (.inl (.l1o H.next (N + 1) x6 (IntKind.i64.wrap (x7 + 1)) ({ next := H.next + 1, objs := (H.next, { elem := 3, sz := 1, cells := (obv H L).cells ++ [T.int .i64 x6] }) :: dropOb H.objs L }))) else (.inl (.l1o L N x6 (IntKind.i64.wrap (x7 + 1)) H))) else (.inl (.l0o L N (IntKind.i64.wrap (x6 + 1)) H)))
def K43_1o (m : Nat) (f : Nat → Ln) (s : Sp) (L N : Nat) (x6 x7 : Int) (H : Hp) : Bool :=
 (if decide (x7 < (↑(f x6.toNat).k : Int)) then (if eqS ((f x6.toNat).from_ x7.toNat) s then (allT (g43_1o_1 m f s L N x6 x7 H)) else (allT (g43_1o_2 m f s L N x6 x7 H))) else (allT (g43_1o_3 m f s L N x6 x7 H)))
theorem T43_1o (m : Nat) (f : Nat → Ln) (s : Sp) (L N : Nat) (x6 x7 : Int) (H : Hp) (hk : K43_1o m f s L N x6 x7 H = true) : step43_1o m f s L N x6 x7 H = some (V43_1o m f s L N x6 x7 H) :=
 (tree_if (tree_if tree_leaf tree_leaf) tree_leaf) hk
def o43 (m : Nat) (f : Nat → Ln) (s : Sp) : Option (S43 ⊕ T) :=
 (if allT (g43_s_1 m f s) then some (.inl (.l0n 0)) else none)
def V43_s (m : Nat) (f : Nat → Ln) (s : Sp) : S43 ⊕ T :=
 (.inl (.l0n 0))
def K43_s (m : Nat) (f : Nat → Ln) (s : Sp) : Bool :=
 (allT (g43_s_1 m f s))
theorem T43_s (m : Nat) (f : Nat → Ln) (s : Sp) (hk : K43_s m f s = true) : o43 m f s = some (V43_s m f s) :=
 tree_leaf hk
def step43 (m : Nat) (f : Nat → Ln) (s : Sp) : S43 → Option (S43 ⊕ T)
 | .l0n x6 => step43_0n m f s x6
 | .l0o L N x6 H => step43_0o m f s L N x6 H
 | .l1n x6 x7 => step43_1n m f s x6 x7
 | .l1o L N x6 x7 H => step43_1o m f s L N x6 x7 H
def M43 (m : Nat) (f : Nat → Ln) (s : Sp) : Mch S43 where
 lp := fun σ => match σ with
  | .l0n .. => 0
  | .l0o .. => 0
  | .l1n .. => 1
  | .l1o .. => 1
 keep := fun ι => match ι with
  | 0 => [0, 3, 5, 6]
  | 1 => [0, 3, 5, 6, 7]
  | _ => []
 par := fun ι => match ι with
  | 0 => []
  | 1 => [0]
  | _ => []
 vs := fun σ => match σ with
  | .l0n x6 => [T.slf false m fun i => lnT (f i), (spT s).ref 0, T.nils, T.int .i64 x6]
  | .l0o L N x6 H => [T.slf false m fun i => lnT (f i), (spT s).ref 0, T.osl L 1 0 N, T.int .i64 x6]
  | .l1n x6 x7 => [T.slf false m fun i => lnT (f i), (spT s).ref 0, T.nils, T.int .i64 x6, T.int .i64 x7]
  | .l1o L N x6 x7 H => [T.slf false m fun i => lnT (f i), (spT s).ref 0, T.osl L 1 0 N, T.int .i64 x6, T.int .i64 x7]
 hp := fun σ => match σ with
  | .l0n _ => ⟨0, []⟩
  | .l0o _ _ _ H => H
  | .l1n _ _ => ⟨0, []⟩
  | .l1o _ _ _ _ H => H
 len := 39
 step := step43 m f s
theorem ways43 (m : Nat) (f : Nat → Ln) (s : Sp) : (M43 m f s).Ways prog D9 F0 f46 20 := by
 intro σ o fr h
 cases σ with
 | l0n x6 =>
  change step43_0n m f s x6 = some o at h
  exact (ways_if (ways_leaf fun hk => .inr ⟨2000, _, _, _, w43_0n_1 m f s x6 fr, hk, rfl⟩) (ways_leaf fun hk => ⟨2000, _, _, _, _, _, _, w43_0n_2 m f s x6 fr, hk⟩)) o h
 | l0o L N x6 H =>
  change step43_0o m f s L N x6 H = some o at h
  exact (ways_if (ways_leaf fun hk => .inr ⟨2000, _, _, _, w43_0o_1 m f s L N x6 H fr, hk, rfl⟩) (ways_leafO fun hk r hr => ⟨2000, _, _, _, _, _, _, (by have := w43_0o_2 m f s L N x6 H fr; rw [hr] at this; exact this), hk⟩)) o h
 | l1n x6 x7 =>
  change step43_1n m f s x6 x7 = some o at h
  exact (ways_if (ways_if (ways_leaf fun hk => .inl ⟨2000, _, _, _, w43_1n_1 m f s x6 x7 fr, hk, rfl⟩) (ways_leaf fun hk => .inl ⟨2000, _, _, _, w43_1n_2 m f s x6 x7 fr, hk, rfl⟩)) (ways_leaf fun hk => .inl ⟨2000, _, _, _, w43_1n_3 m f s x6 x7 fr, hk, rfl⟩)) o h
 | l1o L N x6 x7 H =>
  change step43_1o m f s L N x6 x7 H = some o at h
  exact (ways_if (ways_if (ways_leaf fun hk => .inl ⟨2000, _, _, _, w43_1o_1 m f s L N x6 x7 H fr, hk, rfl⟩) (ways_leaf fun hk => .inl ⟨2000, _, _, _, w43_1o_2 m f s L N x6 x7 H fr, hk, rfl⟩)) (ways_leaf fun hk => .inl ⟨2000, _, _, _, w43_1o_3 m f s L N x6 x7 H fr, hk, rfl⟩)) o h
theorem oks43 (m : Nat) (f : Nat → Ln) (s : Sp) : ∀ σ, Ps.codeOk (loopAt f46 ((M43 m f s).lp σ)).1 = true ∧ ksOk (.lp :: (loopAt f46 ((M43 m f s).lp σ)).2) = true := oks_of 2 (by kernel_rfl) (by intro σ; cases σ <;> exact Nat.le_of_ble_eq_true rfl)
theorem run43 (m : Nat) (f : Nat → Ln) (s : Sp) {n : Nat} {o : S43 ⊕ T} {r : T} (h : o43 m f s = some o) (hr : (M43 m f s).fin n o = some r) : PureFn prog gl 46 [lsT m f, spT s] r := by
 refine pure_mach (M := (M43 m f s)) (fn := f46) (k := 20) (d := 8) (c := bodyOf f46) cx9 glFrz (by kernel_rfl) func46 (by kernel_rfl) rfl (by kernel_rfl) (by kernel_rfl) (L := 37) (by kernel_rfl) (ways43 m f s) (oks43 m f s) ?_ hr
 exact (ways_leaf fun hk => .inr ⟨2000, _, _, _, w43_s_1 m f s, hk, rfl⟩) o h
theorem c43 (m : Nat) (f : Nat → Ln) (s : Sp) (n : Nat) {r : T} (hk : K43_s m f s = true) (hr : (M43 m f s).fin n (V43_s m f s) = some r) : PureFn prog gl 46 [lsT m f, spT s] r := run43 m f s (T43_s m f s hk) hr
end
end Go.Proofs.Tryz

/- The third rule of the law; the fifth rule, both sides. -/
namespace Go.Proofs.Tryz
open Go.Ps
set_option maxRecDepth 100000
section third
variable (c : Ct) (hs : small c) (i : Nat) (hi : i < c.n)
include hs hi
theorem st21_0 (k : Nat) (hk : k < (c.line i).k) : (M21 c i).step (.l0 k) = some (if ordBad (c.line i) k then .inr (.int .i64 24) else .inl (.l0 (k + 1 : Nat))) := by
 show step21_0 c i k = _
 have h1 := hs.1
 obtain ⟨h2, h3, h4⟩ := hs.2 i hi
 have h5 := h4 k hk
 have b1 : decide (((c.line i).from_ k).n ≤ 281474976710656) = true := decide_eq_true (by omega)
 have b2 : decide ((k : Int) < (c.line i).k) = true := decide_eq_true (by omega)
 have b3 : decide ((0 : Int) ≤ k) = true := decide_eq_true (by omega)
 rw [T21_0 c i k ?_]
 ·congr 1
  unfold V21_0
  rw [wsucc k (by omega)]
  by_cases h0 : 0 < k
  ·rw [wpred k h0 (by omega)]
   simp only [Int.toNat_natCast]
   repeat' (refine tree_eq (fun _ => ?_) (fun _ => ?_))
   all_goals (unfold ordBad; grind)
  ·have : k = 0 := by omega
   subst this
   repeat' (refine tree_eq (fun _ => ?_) (fun _ => ?_))
   all_goals (unfold ordBad; grind)
 ·unfold K21_0
  by_cases h0 : 0 < k
  ·have h6 := h4 (k - 1) (by omega)
   have b4 : decide (((c.line i).from_ (k - 1)).n ≤ 281474976710656) = true := decide_eq_true (by omega)
   have b5 : decide (((k - 1 : Nat) : Int) < (c.line i).k) = true := decide_eq_true (by omega)
   have b6 : decide ((0 : Int) ≤ ((k - 1 : Nat) : Int)) = true := decide_eq_true (by omega)
   have b7 := wpred k h0 (by omega)
   repeat' (refine tree_eq (fun _ => ?_) (fun _ => ?_))
   all_goals (simp only [g21_0_1, g21_0_2, g21_0_3, g21_0_4, g21_0_5, g21_0_6, b7, Int.toNat_natCast, k21_0_1, k21_0_0, k21_0_2, k21_0_3] at *; first | (simp only [*, allT, isV_self, Bool.not_false, Bool.not_true, Bool.and_true]; done) | simp_all)
  ·have : k = 0 := by omega
   subst this
   repeat' (refine tree_eq (fun _ => ?_) (fun _ => ?_))
   all_goals (simp only [g21_0_1, g21_0_2, g21_0_3, g21_0_4, g21_0_5, g21_0_6, Int.toNat_natCast, k21_0_1, k21_0_0, k21_0_2, k21_0_3] at *; simp_all [allT])
theorem st21_0e : (M21 c i).step (.l0 ((c.line i).k : Nat)) = some (.inl (.l1 (0 : Nat))) := by
 show step21_0 c i (c.line i).k = _
 rw [T21_0 c i (c.line i).k (by unfold K21_0; rw [if_neg (by simp)]; simp [g21_0_1, g21_0_2, g21_0_3, g21_0_4, g21_0_5, g21_0_6, allT, k21_0_1, k21_0_0, k21_0_2, k21_0_3])]
 unfold V21_0
 rw [if_neg (by simp)]
 rfl
theorem st21_1 (k : Nat) (hk : k < (c.line i).k) : (M21 c i).step (.l1 k) = some (if !fl c ((c.line i).from_ k) then .inr (.int .i64 8) else .inl (.l1 (k + 1 : Nat))) := by
 show step21_1 c i k = _
 have h1 := hs.1
 have hm := small_modest hs
 obtain ⟨h2, h3, h4⟩ := hs.2 i hi
 have b2 : decide ((k : Int) < (c.line i).k) = true := decide_eq_true (by omega)
 have b3 : decide ((0 : Int) ≤ k) = true := decide_eq_true (by omega)
 rw [T21_1 c i k ?_]
 ·congr 1
  unfold V21_1 fl
  simp only [Int.toNat_natCast, Bool.not_not]
  rw [wsucc k (by omega), b2]
  simp only [reduceIte]
 ·unfold K21_1
  simp only [Int.toNat_natCast]
  rw [if_pos b2]
  refine tree_eq (fun e => ?_) (fun e => ?_)
  all_goals (simp only [g21_1_1, g21_1_2, g21_1_3, g21_1_4, g21_1_5, g21_1_6, Int.toNat_natCast, k21_1_0, k21_1_2, k21_1_1, k21_1_3] at *; simp only [e, allT, lsT, isV_self, hm, b2, b3, Bool.not_false, Bool.not_true, Bool.and_true])
theorem st21_1e : (M21 c i).step (.l1 ((c.line i).k : Nat)) = some (.inr (.int .i64 (if (c.line i).k = 0 ∧ (arr (c.line i).st = false ∨ (c.line i).mass ≠ 1048576) then 38 else 0))) := by
 show step21_1 c i (c.line i).k = _
 rw [T21_1 c i (c.line i).k ?_]
 ·congr 1
  unfold V21_1
  simp only [Int.toNat_natCast]
  rw [if_neg (by simp)]
  repeat' (refine tree_eq (fun _ => ?_) (fun _ => ?_))
  all_goals grind
 ·unfold K21_1
  simp only [Int.toNat_natCast]
  rw [if_neg (by simp)]
  repeat' (refine tree_eq (fun _ => ?_) (fun _ => ?_))
  all_goals (simp only [g21_1_1, g21_1_2, g21_1_3, g21_1_4, g21_1_5, g21_1_6, Int.toNat_natCast, k21_1_0, k21_1_2, k21_1_1, k21_1_3] at *; simp_all [allT])
theorem third_ok : PureFn prog gl 23 [ctT c, .int .i64 i] (.int .i64 (te (fl c) c i)) := by
 have h2 : ∀ (m k : Nat), m + k = (c.line i).k → Runs (M21 c i) (.l1 k) (.int .i64 (if exR (fun k => !fl c ((c.line i).from_ k)) m k then 8 else if (c.line i).k = 0 ∧ (arr (c.line i).st = false ∨ (c.line i).mass ≠ 1048576) then 38 else 0)) := by
  intro m
  induction m with
  | zero =>
   intro k hk
   have : k = (c.line i).k := by omega
   subst this
   exact .done (st21_1e c hs i hi)
  | succ m ih =>
   intro k hk
   have hst := st21_1 c hs i hi k (by omega)
   unfold exR
   cases h : fl c ((c.line i).from_ k)
   ·rw [h] at hst; exact .done hst
   ·rw [h] at hst; exact .next hst (ih (k + 1) (by omega))
 have h1 : ∀ (m k : Nat), m + k = (c.line i).k → Runs (M21 c i) (.l0 k) (.int .i64 (if exR (ordBad (c.line i)) m k then 24 else if exR (fun k => !fl c ((c.line i).from_ k)) (c.line i).k 0 then 8 else if (c.line i).k = 0 ∧ (arr (c.line i).st = false ∨ (c.line i).mass ≠ 1048576) then 38 else 0)) := by
  intro m
  induction m with
  | zero =>
   intro k hk
   have : k = (c.line i).k := by omega
   subst this
   simp only [exR, Bool.false_eq_true, if_false]
   exact .next (st21_0e c hs i hi) (h2 (c.line i).k 0 (by omega))
  | succ m ih =>
   intro k hk
   have hst := st21_0 c hs i hi k (by omega)
   simp only [exR.eq_2 (ordBad (c.line i))]
   cases h : ordBad (c.line i) k
   ·rw [h] at hst; exact .next hst (ih (k + 1) (by omega))
   ·rw [h] at hst; exact .done hst
 obtain ⟨n, hn⟩ := h1 (c.line i).k 0 (by omega)
 exact c21 c i n (by simp only [K21_s, g21_s_1, allT, decide_eq_true (show (0 : Int) ≤ i by omega), decide_eq_true (show (i : Int) < c.n by omega), Bool.and_true]) (by unfold V21_s; exact hn)
end third
/-! ### the fifth rule -/
def mg (q : Nat → Ln) : Nat → Nat → Int → Int → Int × Int
 | 0, _, a, s => (a, s)
 | m + 1, k, a, s => mg q m (k + 1) (if (q k).fate == 2 then IntKind.i64.wrap (a + 1) else a) (IntKind.i64.wrap (s + (q k).mass))
def mgE (x : Ln) (p : Int × Int) : Int := if p.1 > 0 ∧ p.1 < x.k then 10 else if p.1 > 0 ∧ p.2 ≠ x.mass then 38 else 0
def me (at_ : Sp → Nat) (c : Ct) (i : Nat) : Int := mgE (c.line i) (mg (fun k => c.line (at_ ((c.line i).from_ k))) (c.line i).k 0 0 0)
def ap (c : Ct) (s : Sp) : Nat := bs c.n (fun i => cmpS (c.line i).st s)
def al (c : Ct) (s : Sp) : Nat := (idx c.n (fun i => eqS (c.line i).st s)).toNat
def linked (at_ : Sp → Nat) (c : Ct) : Prop := ∀ i, i < c.n → ∀ k, k < (c.line i).k → at_ ((c.line i).from_ k) < c.n
section merges
variable (c : Ct) (hs : small c) (hl : linked (ap c) c) (i : Nat) (hi : i < c.n)
include hs hl hi
theorem st18_0 : (M18 c).step (.l0 c.n i) = some (.inl (.l1 0 0 c.n i (c.line i).k (0 : Nat))) := by
 show step18_0 c c.n i = _
 have a1 : decide ((i : Int) < c.n) = true := decide_eq_true (by omega)
 rw [T18_0 c c.n i (by unfold K18_0; simp only [g18_0_1, g18_0_2, allT, a1, decide_eq_true (show (0 : Int) ≤ i by omega), reduceIte, Bool.and_true])]
 unfold V18_0
 rw [a1]
 rfl
theorem st18_1 (a s : Int) (k : Nat) (hk : k < (c.line i).k) : (M18 c).step (.l1 a s c.n i (c.line i).k k) = some (.inl (.l1 (if (c.line (ap c ((c.line i).from_ k))).fate == 2 then IntKind.i64.wrap (a + 1) else a) (IntKind.i64.wrap (s + (c.line (ap c ((c.line i).from_ k))).mass)) c.n i (c.line i).k (k + 1 : Nat))) := by
 show step18_1 c a s c.n i (c.line i).k k = _
 have h1 := hs.1
 have hm := small_modest hs
 have hb := hl i hi k hk
 obtain ⟨h2, h3, h4⟩ := hs.2 i hi
 have b2 : decide ((k : Int) < (c.line i).k) = true := decide_eq_true (by omega)
 have b3 : decide ((0 : Int) ≤ k) = true := decide_eq_true (by omega)
 unfold ap at hb ⊢
 have b4 : decide (((bs c.n fun i_1 => cmpS (c.line i_1).st ((c.line i).from_ k) : Nat) : Int) < c.n) = true := decide_eq_true (by omega)
 have b5 : decide ((0 : Int) ≤ ((bs c.n fun i_1 => cmpS (c.line i_1).st ((c.line i).from_ k) : Nat) : Int)) = true := decide_eq_true (by omega)
 rw [T18_1 c a s c.n i (c.line i).k k ?_]
 ·congr 1
  unfold V18_1
  simp only [Int.toNat_natCast]
  rw [wsucc k (by omega), if_pos b2]
  refine tree_eq (fun e => ?_) (fun e => ?_)
  ·rw [if_pos e]
  ·rw [e]; rfl
 ·unfold K18_1
  simp only [Int.toNat_natCast]
  rw [if_pos b2]
  refine tree_eq (fun e => ?_) (fun e => ?_)
  all_goals (simp only [g18_1_1, g18_1_2, g18_1_3, g18_1_4, g18_1_5, g18_1_6, Int.toNat_natCast, k18_1_0, k18_1_1, k18_1_2] at *; simp only [e, allT, lsT, isV_self, hm, b2, b3, b4, b5, Bool.not_false, Bool.not_true, Bool.and_true])
theorem st18_1e (a s : Int) : (M18 c).step (.l1 a s c.n i (c.line i).k ((c.line i).k : Nat)) = some (if mgE (c.line i) (a, s) ≠ 0 then .inr (.int .i64 (mgE (c.line i) (a, s))) else .inl (.l0 c.n (i + 1 : Nat))) := by
 show step18_1 c a s c.n i (c.line i).k (c.line i).k = _
 have h1 := hs.1
 rw [T18_1 c a s c.n i (c.line i).k (c.line i).k ?_]
 ·congr 1
  unfold V18_1
  simp only [Int.toNat_natCast]
  rw [wsucc i (by omega), if_neg (by simp)]
  repeat' (refine tree_eq (fun _ => ?_) (fun _ => ?_))
  all_goals (unfold mgE; grind)
 ·unfold K18_1
  simp only [Int.toNat_natCast]
  rw [if_neg (by simp)]
  repeat' (refine tree_eq (fun _ => ?_) (fun _ => ?_))
  all_goals (simp only [g18_1_1, g18_1_2, g18_1_3, g18_1_4, g18_1_5, g18_1_6, Int.toNat_natCast, k18_1_0, k18_1_1, k18_1_2] at *; simp_all [allT])
theorem ln18 (r : T) (hr : Runs (M18 c) (.l0 c.n (i + 1 : Nat)) r) : Runs (M18 c) (.l0 c.n i) (if me (ap c) c i ≠ 0 then .int .i64 (me (ap c) c i) else r) := by
 have h1 : ∀ (m k : Nat) (a s : Int), m + k = (c.line i).k → Runs (M18 c) (.l1 a s c.n i (c.line i).k k) (if mgE (c.line i) (mg (fun k => c.line (ap c ((c.line i).from_ k))) m k a s) ≠ 0 then .int .i64 (mgE (c.line i) (mg (fun k => c.line (ap c ((c.line i).from_ k))) m k a s)) else r) := by
  intro m
  induction m with
  | zero =>
   intro k a s hk
   have : k = (c.line i).k := by omega
   subst this
   have hst := st18_1e c hs hl i hi a s
   show Runs _ _ (if mgE (c.line i) (a, s) ≠ 0 then .int .i64 (mgE (c.line i) (a, s)) else r)
   by_cases h : mgE (c.line i) (a, s) = 0
   ·rw [if_neg (by simp [h])] at hst ⊢; exact .next hst hr
   ·rw [if_pos h] at hst ⊢; exact .done hst
  | succ m ih =>
   intro k a s hk
   exact .next (st18_1 c hs hl i hi a s k (by omega)) (ih (k + 1) _ _ (by omega))
 exact .next (st18_0 c hs hl i hi) (h1 (c.line i).k 0 0 0 (by omega))
end merges
theorem run18_eq (c : Ct) (hs : small c) (hl : linked (ap c) c) : ∀ (k i : Nat), k + i = c.n → Runs (M18 c) (.l0 c.n i) (.int .i64 (fst (me (ap c) c) k i)) := by
 intro k
 induction k with
 | zero =>
  intro i hi
  have : i = c.n := by omega
  subst this
  refine .done ?_
  show step18_0 c c.n c.n = _
  rw [T18_0 c c.n c.n (by unfold K18_0; rw [if_neg (by simp)]; simp [g18_0_1, g18_0_2, allT])]
  unfold V18_0
  rw [if_neg (by simp)]
  rfl
 | succ k ih =>
  intro i hi
  have := ln18 c hs hl i (by omega) _ (ih (i + 1) (by omega))
  unfold fst
  by_cases h : me (ap c) c i = 0
  ·rw [if_neg (by simp [h])] at this ⊢; exact this
  ·rw [if_pos h] at this ⊢; exact this
def merE (c : Ct) : Int := fst (me (ap c) c) c.n 0
theorem merges_ok (c : Ct) (hs : small c) (hl : linked (ap c) c) : PureFn prog gl 36 [ctT c] (.int .i64 (merE c)) := by
 obtain ⟨n, hn⟩ := run18_eq c hs hl c.n 0 (by omega)
 exact c18 c n (by simp [K18_s, g18_s_1, allT]) (by unfold V18_s; exact hn)
section fifth
variable (c : Ct) (hs : small c) (hl : linked (al c) c) (hl0 : ∀ i, i < c.n → ∀ k, k < (c.line i).k → fl c ((c.line i).from_ k) = true) (i : Nat) (hi : i < c.n)
include hs hl hl0 hi
theorem st23_0 (a s : Int) (k : Nat) (hk : k < (c.line i).k) : (M23 c i).step (.l0 a s k) = some (.inl (.l0 (if (c.line (al c ((c.line i).from_ k))).fate == 2 then IntKind.i64.wrap (a + 1) else a) (IntKind.i64.wrap (s + (c.line (al c ((c.line i).from_ k))).mass)) (k + 1 : Nat))) := by
 show step23_0 c i a s k = _
 have h1 := hs.1
 have hm := small_modest hs
 have hb := hl i hi k hk
 have hb0 := hl0 i hi k hk
 obtain ⟨h2, h3, h4⟩ := hs.2 i hi
 have b2 : decide ((k : Int) < (c.line i).k) = true := decide_eq_true (by omega)
 have b3 : decide ((0 : Int) ≤ k) = true := decide_eq_true (by omega)
 unfold fl at hb0
 unfold al at hb ⊢
 simp only [Bool.not_eq_true', decide_eq_false_iff_not] at hb0
 have b4 : decide ((idx c.n fun i_1 => eqS (c.line i_1).st ((c.line i).from_ k)) < (c.n : Int)) = true := decide_eq_true (by omega)
 have b5 : decide ((0 : Int) ≤ (idx c.n fun i_1 => eqS (c.line i_1).st ((c.line i).from_ k))) = true := decide_eq_true (by omega)
 have b6 : decide ((0 : Int) ≤ i) = true := decide_eq_true (by omega)
 have b7 : decide ((i : Int) < c.n) = true := decide_eq_true (by omega)
 rw [T23_0 c i a s k ?_]
 ·congr 1
  unfold V23_0
  simp only [Int.toNat_natCast]
  rw [wsucc k (by omega), if_pos b2]
  refine tree_eq (fun e => ?_) (fun e => ?_)
  ·rw [if_pos e]
  ·rw [e]; rfl
 ·unfold K23_0
  simp only [Int.toNat_natCast]
  rw [if_pos b2]
  refine tree_eq (fun e => ?_) (fun e => ?_)
  all_goals (simp only [g23_0_1, g23_0_2, g23_0_3, g23_0_4, g23_0_5, g23_0_6, Int.toNat_natCast, k23_0_0, k23_0_2, k23_0_1, k23_0_3] at *; simp only [e, allT, lsT, isV_self, hm, b2, b3, b4, b5, b6, b7, Bool.not_false, Bool.not_true, Bool.and_true])
theorem st23_0e (a s : Int) : (M23 c i).step (.l0 a s ((c.line i).k : Nat)) = some (.inr (.int .i64 (mgE (c.line i) (a, s)))) := by
 show step23_0 c i a s (c.line i).k = _
 rw [T23_0 c i a s (c.line i).k ?_]
 ·congr 1
  unfold V23_0
  simp only [Int.toNat_natCast]
  rw [if_neg (by simp)]
  repeat' (refine tree_eq (fun _ => ?_) (fun _ => ?_))
  all_goals (unfold mgE; grind)
 ·unfold K23_0
  simp only [Int.toNat_natCast]
  rw [if_neg (by simp)]
  repeat' (refine tree_eq (fun _ => ?_) (fun _ => ?_))
  all_goals (simp only [g23_0_1, g23_0_2, g23_0_3, g23_0_4, g23_0_5, g23_0_6, Int.toNat_natCast, k23_0_0, k23_0_2, k23_0_1, k23_0_3] at *; simp_all [allT])
theorem fifth_ok : PureFn prog gl 25 [ctT c, .int .i64 i] (.int .i64 (me (al c) c i)) := by
 have h1 : ∀ (m k : Nat) (a s : Int), m + k = (c.line i).k → Runs (M23 c i) (.l0 a s k) (.int .i64 (mgE (c.line i) (mg (fun k => c.line (al c ((c.line i).from_ k))) m k a s))) := by
  intro m
  induction m with
  | zero =>
   intro k a s hk
   have : k = (c.line i).k := by omega
   subst this
   exact .done (st23_0e c hs hl hl0 i hi a s)
  | succ m ih =>
   intro k a s hk
   exact .next (st23_0 c hs hl hl0 i hi a s k (by omega)) (ih (k + 1) _ _ (by omega))
 obtain ⟨n, hn⟩ := h1 (c.line i).k 0 0 0 (by omega)
 exact c23 c i n (by simp only [K23_s, g23_s_1, allT, decide_eq_true (show (0 : Int) ≤ i by omega), decide_eq_true (show (i : Int) < c.n by omega), Bool.and_true]) (by unfold V23_s; exact hn)
end fifth
end Go.Proofs.Tryz

/- The sums: what they compute; the contracts by level (those of single lines are proved here). -/
namespace Go.Proofs.Tryz
noncomputable section
open Go.Ps
def prd (g : Nat) (x : Ln) : Bool := if g = 82 then x.fate == 3 else if g = 53 then x.fate == 0 else if g = 83 then (x.fate == 4 && x.closed == 0) else x.closed == 6
def F58 (s : Int) (x : Ln) : Int := if (x.k : Int) == 0 then IntKind.i64.wrap (s + 1048576) else s
def F57 (g : Nat) (s : Int) (x : Ln) : Int := if prd g x then IntKind.i64.wrap (s + x.mass) else s
def sumR (F : Int → Ln → Int) (line : Nat → Ln) : Nat → Nat → Int → Int
 | 0, _, s => s
 | m + 1, i, s => sumR F line m (i + 1) (F s (line i))
def s58 : List T → Option (T × List Bool)
 | [.int .i64 s, t] => some (.int .i64 (F58 s (lnv t)), [isV t (lnT (lnv t))])
 | _ => none
def s59 : List T → Option (T × List Bool)
 | [t] => some (.bool (prd 82 (lnv t)), [isV t (lnT (lnv t))])
 | _ => none
def s60 : List T → Option (T × List Bool)
 | [t] => some (.bool (prd 83 (lnv t)), [isV t (lnT (lnv t))])
 | _ => none
def s61 : List T → Option (T × List Bool)
 | [t] => some (.bool (prd 84 (lnv t)), [isV t (lnT (lnv t))])
 | _ => none
def s57 : List T → Option (T × List Bool)
 | [.int .i64 s, t, .ref (.fn (.func g) [] []) 0] => some (.int .i64 (F57 g s (lnv t)), [isV t (lnT (lnv t)), decide (g ∈ [82, 53, 83, 84])])
 | _ => none
def s56 : List T → Option (T × List Bool)
 | [t, .int .i64 s, .fn (.func 81) [] []] => some (.int .i64 (sumR F58 (lsv t) (slN t) 0 s), [isV t (lsT (slN t) (lsv t)), decide (slN t ≤ 281474976710656)])
 | [t, .int .i64 s, .fn (.func 80) [] [.ref (.fn (.func g) [] []) 0]] => some (.int .i64 (sumR (F57 g) (lsv t) (slN t) 0 s), [isV t (lsT (slN t) (lsv t)), decide (slN t ≤ 281474976710656), decide (g ∈ [82, 53, 83, 84])])
 | _ => none
def s55 : List T → Option (T × List Bool)
 | [.fn (.func g) [] [], .ref c 0] => some (.int .i64 (sumR (F57 g) (ctv c).line (ctv c).n 0 0), [isV c (ctT (ctv c)), decide ((ctv c).n ≤ 281474976710656), decide (g ∈ [82, 53, 83, 84])])
 | _ => none
theorem s58_ok (ts : List T) (r : T) (cs : List Bool) (h : s58 ts = some (r, cs)) (k : allT cs = true) : PureFn prog gl 81 ts r := by
 unfold s58 at h; split at h
 ·rename_i s t
  cases h
  simp only [allT, Bool.and_true, isV_iff] at k
  rw [k]
  clear k
  refine c58 s (lnv t) 0 ?_ ?_
  ·unfold K58_s
   refine tree_eq (fun e => ?_) (fun e => ?_)
   all_goals simp_all [g58_s_1, g58_s_2, allT]
  ·unfold V58_s F58
   rw [lnv_lnT]
   cases e : (((lnv t).k : Int) == 0) <;> rfl
 ·cases h
theorem s59_ok (ts : List T) (r : T) (cs : List Bool) (h : s59 ts = some (r, cs)) (k : allT cs = true) : PureFn prog gl 82 ts r := by
 unfold s59 at h; split at h
 ·rename_i t
  cases h
  simp only [allT, Bool.and_true, isV_iff] at k
  rw [k]
  exact c59 (lnv t) 0 rfl rfl
 ·cases h
theorem s60_ok (ts : List T) (r : T) (cs : List Bool) (h : s60 ts = some (r, cs)) (k : allT cs = true) : PureFn prog gl 83 ts r := by
 unfold s60 at h; split at h
 ·rename_i t
  cases h
  simp only [allT, Bool.and_true, isV_iff] at k
  rw [k]
  clear k
  refine c60 (lnv t) 0 ?_ ?_
  ·unfold K60_s
   refine tree_eq (fun e => ?_) (fun e => ?_)
   all_goals simp_all [g60_s_1, g60_s_2, allT]
  ·unfold V60_s
   rw [lnv_lnT]
   simp only [prd]
   cases e : ((lnv t).fate == 4) <;> simp
 ·cases h
theorem s61_ok (ts : List T) (r : T) (cs : List Bool) (h : s61 ts = some (r, cs)) (k : allT cs = true) : PureFn prog gl 84 ts r := by
 unfold s61 at h; split at h
 ·rename_i t
  cases h
  simp only [allT, Bool.and_true, isV_iff] at k
  rw [k]
  exact c61 (lnv t) 0 rfl rfl
 ·cases h
def D10 : Ed := ⟨gl, pdAdd 81 s58 (pdAdd 82 s59 (pdAdd 83 s60 (pdAdd 84 s61 D9.pd)))⟩
theorem cx10 : Cx prog D10 F0 := ⟨follows, pdAdd_ok (pdAdd_ok (pdAdd_ok (pdAdd_ok cx9.hE s61_ok) s60_ok) s59_ok) s58_ok, F0ok⟩
def D11 : Ed := ⟨gl, pdAdd 80 s57 D10.pd⟩
def D12 : Ed := ⟨gl, pdAdd 79 s56 D11.pd⟩
def D13 : Ed := ⟨gl, pdLend 20 78 s55 D12.pd⟩
def F40 : Fc := ⟨fun d => d == 1 || d == 2, fun _ _ _ => none⟩
end
end Go.Proofs.Tryz

/- The sums as machines, by program (gen2). -/
namespace Go.Proofs.Tryz
noncomputable section
open Go.Ps
set_option maxRecDepth 100000
/-! ### 57 -/
def g57a_s_1 (s : Int) (x : Ln) : List Bool := [prd 82 x, isV (lnT x) (lnT x)]
def g57a_s_2 (s : Int) (x : Ln) : List Bool := [!prd 82 x, isV (lnT x) (lnT x)]
def V57a_s (s : Int) (x : Ln) : Empty ⊕ T :=
 (if prd 82 x then (.inr (T.int .i64 (IntKind.i64.wrap (s + x.mass)))) else (.inr (T.int .i64 s)))
def K57a_s (s : Int) (x : Ln) : Bool :=
 (if prd 82 x then (allT (g57a_s_1 s x)) else (allT (g57a_s_2 s x)))
def r57a_s (s : Int) (x : Ln) (ds : List Bool) : RD Out := runK prog D10 F0 2000 (.code (bodyOf f80)) [] 0 ([.int .i64 s, lnT x, .ref (.fn (.func 82) [] []) 0] ++ List.replicate 11 undefT) ⟨0, []⟩ ds []
theorem w57a_s_1 (s : Int) (x : Ln) : outK prog f80 20 [] (r57a_s s x [true]) = wdn (T.int .i64 (IntKind.i64.wrap (s + x.mass))) (g57a_s_1 s x) := by kernel_rfl
theorem w57a_s_2 (s : Int) (x : Ln) : outK prog f80 20 [] (r57a_s s x [false]) = wdn (T.int .i64 s) (g57a_s_2 s x) := by kernel_rfl
theorem c57a (s : Int) (x : Ln) (cx : Cx prog D10 F0) (n : Nat) {r : T} (hk : K57a_s s x = true) (hr : noM.fin n (V57a_s s x) = some r) : PureFn prog gl 80 [.int .i64 s, lnT x, .ref (.fn (.func 82) [] []) 0] r :=
 pure_mach (M := noM) (fn := f80) (k := 20) (d := 8) (c := bodyOf f80) cx glFrz (by kernel_rfl) func80 (by kernel_rfl) rfl (by kernel_rfl) (by kernel_rfl) (L := 11) (by kernel_rfl) noM_ways (fun σ => σ.elim) ((wk_if (kD (w57a_s_1 s x)) (kD (w57a_s_2 s x))) hk _ rfl) hr
/-! ### 57 -/
def g57b_s_1 (s : Int) (x : Ln) : List Bool := [x.fate == 0, isV (lnT x) (lnT x)]
def g57b_s_2 (s : Int) (x : Ln) : List Bool := [!x.fate == 0, isV (lnT x) (lnT x)]
def V57b_s (s : Int) (x : Ln) : Empty ⊕ T :=
 (if x.fate == 0 then (.inr (T.int .i64 (IntKind.i64.wrap (s + x.mass)))) else (.inr (T.int .i64 s)))
def K57b_s (s : Int) (x : Ln) : Bool :=
 (if x.fate == 0 then (allT (g57b_s_1 s x)) else (allT (g57b_s_2 s x)))
def r57b_s (s : Int) (x : Ln) (ds : List Bool) : RD Out := runK prog D10 F0 2000 (.code (bodyOf f80)) [] 0 ([.int .i64 s, lnT x, .ref (.fn (.func 53) [] []) 0] ++ List.replicate 11 undefT) ⟨0, []⟩ ds []
theorem w57b_s_1 (s : Int) (x : Ln) : outK prog f80 20 [] (r57b_s s x [true]) = wdn (T.int .i64 (IntKind.i64.wrap (s + x.mass))) (g57b_s_1 s x) := by kernel_rfl
theorem w57b_s_2 (s : Int) (x : Ln) : outK prog f80 20 [] (r57b_s s x [false]) = wdn (T.int .i64 s) (g57b_s_2 s x) := by kernel_rfl
theorem c57b (s : Int) (x : Ln) (cx : Cx prog D10 F0) (n : Nat) {r : T} (hk : K57b_s s x = true) (hr : noM.fin n (V57b_s s x) = some r) : PureFn prog gl 80 [.int .i64 s, lnT x, .ref (.fn (.func 53) [] []) 0] r :=
 pure_mach (M := noM) (fn := f80) (k := 20) (d := 8) (c := bodyOf f80) cx glFrz (by kernel_rfl) func80 (by kernel_rfl) rfl (by kernel_rfl) (by kernel_rfl) (L := 11) (by kernel_rfl) noM_ways (fun σ => σ.elim) ((wk_if (kD (w57b_s_1 s x)) (kD (w57b_s_2 s x))) hk _ rfl) hr
/-! ### 57 -/
def g57c_s_1 (s : Int) (x : Ln) : List Bool := [prd 83 x, isV (lnT x) (lnT x)]
def g57c_s_2 (s : Int) (x : Ln) : List Bool := [!prd 83 x, isV (lnT x) (lnT x)]
def V57c_s (s : Int) (x : Ln) : Empty ⊕ T :=
 (if prd 83 x then (.inr (T.int .i64 (IntKind.i64.wrap (s + x.mass)))) else (.inr (T.int .i64 s)))
def K57c_s (s : Int) (x : Ln) : Bool :=
 (if prd 83 x then (allT (g57c_s_1 s x)) else (allT (g57c_s_2 s x)))
def r57c_s (s : Int) (x : Ln) (ds : List Bool) : RD Out := runK prog D10 F0 2000 (.code (bodyOf f80)) [] 0 ([.int .i64 s, lnT x, .ref (.fn (.func 83) [] []) 0] ++ List.replicate 11 undefT) ⟨0, []⟩ ds []
theorem w57c_s_1 (s : Int) (x : Ln) : outK prog f80 20 [] (r57c_s s x [true]) = wdn (T.int .i64 (IntKind.i64.wrap (s + x.mass))) (g57c_s_1 s x) := by kernel_rfl
theorem w57c_s_2 (s : Int) (x : Ln) : outK prog f80 20 [] (r57c_s s x [false]) = wdn (T.int .i64 s) (g57c_s_2 s x) := by kernel_rfl
theorem c57c (s : Int) (x : Ln) (cx : Cx prog D10 F0) (n : Nat) {r : T} (hk : K57c_s s x = true) (hr : noM.fin n (V57c_s s x) = some r) : PureFn prog gl 80 [.int .i64 s, lnT x, .ref (.fn (.func 83) [] []) 0] r :=
 pure_mach (M := noM) (fn := f80) (k := 20) (d := 8) (c := bodyOf f80) cx glFrz (by kernel_rfl) func80 (by kernel_rfl) rfl (by kernel_rfl) (by kernel_rfl) (L := 11) (by kernel_rfl) noM_ways (fun σ => σ.elim) ((wk_if (kD (w57c_s_1 s x)) (kD (w57c_s_2 s x))) hk _ rfl) hr
/-! ### 57 -/
def g57d_s_1 (s : Int) (x : Ln) : List Bool := [prd 84 x, isV (lnT x) (lnT x)]
def g57d_s_2 (s : Int) (x : Ln) : List Bool := [!prd 84 x, isV (lnT x) (lnT x)]
def V57d_s (s : Int) (x : Ln) : Empty ⊕ T :=
 (if prd 84 x then (.inr (T.int .i64 (IntKind.i64.wrap (s + x.mass)))) else (.inr (T.int .i64 s)))
def K57d_s (s : Int) (x : Ln) : Bool :=
 (if prd 84 x then (allT (g57d_s_1 s x)) else (allT (g57d_s_2 s x)))
def r57d_s (s : Int) (x : Ln) (ds : List Bool) : RD Out := runK prog D10 F0 2000 (.code (bodyOf f80)) [] 0 ([.int .i64 s, lnT x, .ref (.fn (.func 84) [] []) 0] ++ List.replicate 11 undefT) ⟨0, []⟩ ds []
theorem w57d_s_1 (s : Int) (x : Ln) : outK prog f80 20 [] (r57d_s s x [true]) = wdn (T.int .i64 (IntKind.i64.wrap (s + x.mass))) (g57d_s_1 s x) := by kernel_rfl
theorem w57d_s_2 (s : Int) (x : Ln) : outK prog f80 20 [] (r57d_s s x [false]) = wdn (T.int .i64 s) (g57d_s_2 s x) := by kernel_rfl
theorem c57d (s : Int) (x : Ln) (cx : Cx prog D10 F0) (n : Nat) {r : T} (hk : K57d_s s x = true) (hr : noM.fin n (V57d_s s x) = some r) : PureFn prog gl 80 [.int .i64 s, lnT x, .ref (.fn (.func 84) [] []) 0] r :=
 pure_mach (M := noM) (fn := f80) (k := 20) (d := 8) (c := bodyOf f80) cx glFrz (by kernel_rfl) func80 (by kernel_rfl) rfl (by kernel_rfl) (by kernel_rfl) (L := 11) (by kernel_rfl) noM_ways (fun σ => σ.elim) ((wk_if (kD (w57d_s_1 s x)) (kD (w57d_s_2 s x))) hk _ rfl) hr
/-! ### 56 -/
inductive S56a where
 | l0 (x1 x10 x11 : Int)
def g56a_s_1 (m : Nat) (f : Nat → Ln) (s : Int) : List Bool := []
def g56a_0_1 (m : Nat) (f : Nat → Ln) (s x1 x10 x11 : Int) : List Bool := [isV (lnT (f x11.toNat)) (lnT (f x11.toNat)), true, true, decide (0 ≤ x11), decide (x11 < (↑m : Int)), true, decide (x11 < x10)]
def g56a_0_2 (m : Nat) (f : Nat → Ln) (s x1 x10 x11 : Int) : List Bool := [!decide (x11 < x10)]
def V56a_0 (m : Nat) (f : Nat → Ln) (s x1 x10 x11 : Int) : S56a ⊕ T :=
 (if decide (x11 < x10) then (.inl (.l0 (F58 x1 (f x11.toNat)) x10 (IntKind.i64.wrap (x11 + 1)))) else (.inr (T.int .i64 x1)))
def K56a_0 (m : Nat) (f : Nat → Ln) (s x1 x10 x11 : Int) : Bool :=
 (if decide (x11 < x10) then (allT (g56a_0_1 m f s x1 x10 x11)) else (allT (g56a_0_2 m f s x1 x10 x11)))
def step56a_0 (m : Nat) (f : Nat → Ln) (s x1 x10 x11 : Int) : Option (S56a ⊕ T) := if K56a_0 m f s x1 x10 x11 then some (V56a_0 m f s x1 x10 x11) else none
theorem T56a_0 (m : Nat) (f : Nat → Ln) (s x1 x10 x11 : Int) (hk : K56a_0 m f s x1 x10 x11 = true) : step56a_0 m f s x1 x10 x11 = some (V56a_0 m f s x1 x10 x11) := if_pos hk
def V56a_s (m : Nat) (f : Nat → Ln) (s : Int) : S56a ⊕ T :=
 (.inl (.l0 s (↑m : Int) 0))
def K56a_s (m : Nat) (f : Nat → Ln) (s : Int) : Bool :=
 (allT (g56a_s_1 m f s))
def step56a (m : Nat) (f : Nat → Ln) (s : Int) : S56a → Option (S56a ⊕ T)
 | .l0 x1 x10 x11 => step56a_0 m f s x1 x10 x11
def M56a (m : Nat) (f : Nat → Ln) (s : Int) : Mch S56a where
 lp := fun σ => match σ with
  | .l0 .. => 0
 keep := fun ι => match ι with
  | 0 => [1, 2, 9, 10, 11]
  | _ => []
 par := fun ι => match ι with
  | 0 => []
  | _ => []
 vs := fun σ => match σ with
  | .l0 x1 x10 x11 => [T.int .i64 x1, T.fn (Fn.func 81) [] [], T.slf false m fun i => lnT (f i), T.int .i64 x10, T.int .i64 x11]
 hp := fun _ => ⟨0, []⟩
 len := 21
 step := step56a m f s
def r56a_0 (m : Nat) (f : Nat → Ln) (s x1 x10 x11 : Int) (fr : List T) (ds : List Bool) : RD Out := (M56a m f s).rk prog D11 F0 f79 (.l0 x1 x10 x11) fr ds
theorem w56a_0_1 (m : Nat) (f : Nat → Ln) (s x1 x10 x11 : Int) (fr : List T) : (M56a m f s).wa prog f79 (r56a_0 m f s x1 x10 x11 fr [true]) 0 (g56a_0_1 m f s x1 x10 x11) (.l0 (F58 x1 (f x11.toNat)) x10 (IntKind.i64.wrap (x11 + 1))) := by unfold Mch.wa; kernel_rfl
theorem w56a_0_2 (m : Nat) (f : Nat → Ln) (s x1 x10 x11 : Int) (fr : List T) : outK prog f79 20 [] (r56a_0 m f s x1 x10 x11 fr [false]) = wdn (T.int .i64 x1) (g56a_0_2 m f s x1 x10 x11) := by kernel_rfl
theorem w56a_s_1 (m : Nat) (f : Nat → Ln) (s : Int) : (M56a m f s).wl prog f79 (runK prog D11 F0 2000 (.code (bodyOf f79)) [] 0 ([lsT m f, .int .i64 s, .fn (.func 81) [] []] ++ List.replicate 18 undefT) ⟨0, []⟩ [] []) 0 (g56a_s_1 m f s) (.l0 s (↑m : Int) 0) := by unfold Mch.wl; kernel_rfl
theorem ways56a (m : Nat) (f : Nat → Ln) (s : Int) : (M56a m f s).Ways prog D11 F0 f79 20 := by
 intro σ o fr h
 cases σ with
 | l0 x1 x10 x11 =>
  obtain ⟨hk, ho⟩ := kv_some (K := K56a_0 m f s x1 x10 x11) (V := V56a_0 m f s x1 x10 x11) h
  exact (wk_if (kA (w56a_0_1 m f s x1 x10 x11 fr) rfl) (kD (w56a_0_2 m f s x1 x10 x11 fr))) hk o ho
theorem oks56a (m : Nat) (f : Nat → Ln) (s : Int) : ∀ σ, Ps.codeOk (loopAt f79 ((M56a m f s).lp σ)).1 = true ∧ ksOk (.lp :: (loopAt f79 ((M56a m f s).lp σ)).2) = true := oks_of 1 (by kernel_rfl) (by intro σ; cases σ <;> exact Nat.le_of_ble_eq_true rfl)
theorem c56a (m : Nat) (f : Nat → Ln) (s : Int) (cx : Cx prog D11 F0) (n : Nat) {r : T} (hk : K56a_s m f s = true) (hr : (M56a m f s).fin n (V56a_s m f s) = some r) : PureFn prog gl 79 [lsT m f, .int .i64 s, .fn (.func 81) [] []] r :=
 pure_mach (M := (M56a m f s)) (fn := f79) (k := 20) (d := 8) (c := bodyOf f79) cx glFrz (by kernel_rfl) func79 (by kernel_rfl) rfl (by kernel_rfl) (by kernel_rfl) (L := 18) (by kernel_rfl) (ways56a m f s) (oks56a m f s) ((kL (w56a_s_1 m f s) rfl) hk _ rfl) hr
/-! ### 56 -/
inductive S56b where
 | l0 (x1 x10 x11 : Int)
def g56b_s_1 (m : Nat) (f : Nat → Ln) (s : Int) (g : Nat) : List Bool := []
def g56b_0_1 (m : Nat) (f : Nat → Ln) (s : Int) (g : Nat) (x1 x10 x11 : Int) : List Bool := [isV (lnT (f x11.toNat)) (lnT (f x11.toNat)), decide (g ∈ [82, 53, 83, 84]), true, true, decide (0 ≤ x11), decide (x11 < (↑m : Int)), true, decide (x11 < x10)]
def g56b_0_2 (m : Nat) (f : Nat → Ln) (s : Int) (g : Nat) (x1 x10 x11 : Int) : List Bool := [!decide (x11 < x10)]
def V56b_0 (m : Nat) (f : Nat → Ln) (s : Int) (g : Nat) (x1 x10 x11 : Int) : S56b ⊕ T :=
 (if decide (x11 < x10) then (.inl (.l0 (F57 g x1 (f x11.toNat)) x10 (IntKind.i64.wrap (x11 + 1)))) else (.inr (T.int .i64 x1)))
def K56b_0 (m : Nat) (f : Nat → Ln) (s : Int) (g : Nat) (x1 x10 x11 : Int) : Bool :=
 (if decide (x11 < x10) then (allT (g56b_0_1 m f s g x1 x10 x11)) else (allT (g56b_0_2 m f s g x1 x10 x11)))
def step56b_0 (m : Nat) (f : Nat → Ln) (s : Int) (g : Nat) (x1 x10 x11 : Int) : Option (S56b ⊕ T) := if K56b_0 m f s g x1 x10 x11 then some (V56b_0 m f s g x1 x10 x11) else none
theorem T56b_0 (m : Nat) (f : Nat → Ln) (s : Int) (g : Nat) (x1 x10 x11 : Int) (hk : K56b_0 m f s g x1 x10 x11 = true) : step56b_0 m f s g x1 x10 x11 = some (V56b_0 m f s g x1 x10 x11) := if_pos hk
def V56b_s (m : Nat) (f : Nat → Ln) (s : Int) (g : Nat) : S56b ⊕ T :=
 (.inl (.l0 s (↑m : Int) 0))
def K56b_s (m : Nat) (f : Nat → Ln) (s : Int) (g : Nat) : Bool :=
 (allT (g56b_s_1 m f s g))
def step56b (m : Nat) (f : Nat → Ln) (s : Int) (g : Nat) : S56b → Option (S56b ⊕ T)
 | .l0 x1 x10 x11 => step56b_0 m f s g x1 x10 x11
def M56b (m : Nat) (f : Nat → Ln) (s : Int) (g : Nat) : Mch S56b where
 lp := fun σ => match σ with
  | .l0 .. => 0
 keep := fun ι => match ι with
  | 0 => [1, 2, 9, 10, 11]
  | _ => []
 par := fun ι => match ι with
  | 0 => []
  | _ => []
 vs := fun σ => match σ with
  | .l0 x1 x10 x11 => [T.int .i64 x1, T.fn (Fn.func 80) [] [(T.fn (Fn.func g) [] []).ref 0], T.slf false m fun i => lnT (f i), T.int .i64 x10, T.int .i64 x11]
 hp := fun _ => ⟨0, []⟩
 len := 21
 step := step56b m f s g
def r56b_0 (m : Nat) (f : Nat → Ln) (s : Int) (g : Nat) (x1 x10 x11 : Int) (fr : List T) (ds : List Bool) : RD Out := (M56b m f s g).rk prog D11 F0 f79 (.l0 x1 x10 x11) fr ds
theorem w56b_0_1 (m : Nat) (f : Nat → Ln) (s : Int) (g : Nat) (x1 x10 x11 : Int) (fr : List T) : (M56b m f s g).wa prog f79 (r56b_0 m f s g x1 x10 x11 fr [true]) 0 (g56b_0_1 m f s g x1 x10 x11) (.l0 (F57 g x1 (f x11.toNat)) x10 (IntKind.i64.wrap (x11 + 1))) := by unfold Mch.wa; kernel_rfl
theorem w56b_0_2 (m : Nat) (f : Nat → Ln) (s : Int) (g : Nat) (x1 x10 x11 : Int) (fr : List T) : outK prog f79 20 [] (r56b_0 m f s g x1 x10 x11 fr [false]) = wdn (T.int .i64 x1) (g56b_0_2 m f s g x1 x10 x11) := by kernel_rfl
theorem w56b_s_1 (m : Nat) (f : Nat → Ln) (s : Int) (g : Nat) : (M56b m f s g).wl prog f79 (runK prog D11 F0 2000 (.code (bodyOf f79)) [] 0 ([lsT m f, .int .i64 s, .fn (.func 80) [] [.ref (.fn (.func g) [] []) 0]] ++ List.replicate 18 undefT) ⟨0, []⟩ [] []) 0 (g56b_s_1 m f s g) (.l0 s (↑m : Int) 0) := by unfold Mch.wl; kernel_rfl
theorem ways56b (m : Nat) (f : Nat → Ln) (s : Int) (g : Nat) : (M56b m f s g).Ways prog D11 F0 f79 20 := by
 intro σ o fr h
 cases σ with
 | l0 x1 x10 x11 =>
  obtain ⟨hk, ho⟩ := kv_some (K := K56b_0 m f s g x1 x10 x11) (V := V56b_0 m f s g x1 x10 x11) h
  exact (wk_if (kA (w56b_0_1 m f s g x1 x10 x11 fr) rfl) (kD (w56b_0_2 m f s g x1 x10 x11 fr))) hk o ho
theorem oks56b (m : Nat) (f : Nat → Ln) (s : Int) (g : Nat) : ∀ σ, Ps.codeOk (loopAt f79 ((M56b m f s g).lp σ)).1 = true ∧ ksOk (.lp :: (loopAt f79 ((M56b m f s g).lp σ)).2) = true := oks_of 1 (by kernel_rfl) (by intro σ; cases σ <;> exact Nat.le_of_ble_eq_true rfl)
theorem c56b (m : Nat) (f : Nat → Ln) (s : Int) (g : Nat) (cx : Cx prog D11 F0) (n : Nat) {r : T} (hk : K56b_s m f s g = true) (hr : (M56b m f s g).fin n (V56b_s m f s g) = some r) : PureFn prog gl 79 [lsT m f, .int .i64 s, .fn (.func 80) [] [.ref (.fn (.func g) [] []) 0]] r :=
 pure_mach (M := (M56b m f s g)) (fn := f79) (k := 20) (d := 8) (c := bodyOf f79) cx glFrz (by kernel_rfl) func79 (by kernel_rfl) rfl (by kernel_rfl) (by kernel_rfl) (L := 18) (by kernel_rfl) (ways56b m f s g) (oks56b m f s g) ((kL (w56b_s_1 m f s g) rfl) hk _ rfl) hr
/-! ### 55 -/
def g55_s_1 (g : Nat) (c : Ct) : List Bool := [isV (T.slf false c.n fun i => lnT (c.line i)) (lsT c.n c.line), decide (c.n ≤ 281474976710656), decide (g ∈ [82, 53, 83, 84])]
def V55_s (g : Nat) (c : Ct) : Empty ⊕ T :=
 (.inr (T.int .i64 (sumR (F57 g) c.line c.n 0 0)))
def K55_s (g : Nat) (c : Ct) : Bool :=
 (allT (g55_s_1 g c))
theorem w55_s_1 (g : Nat) (c : Ct) : outK prog f78 20 [] (runK prog D12 F0 2000 (.code (bodyOf f78)) [] 0 ([.fn (.func g) [] [], .ref (ctT c) 0] ++ List.replicate 6 undefT) ⟨0, []⟩ [] []) = wdn (T.int .i64 (sumR (F57 g) c.line c.n 0 0)) (g55_s_1 g c) := by kernel_rfl
theorem c55 (g : Nat) (c : Ct) (cx : Cx prog D12 F0) (n : Nat) {r : T} (hk : K55_s g c = true) (hr : noM.fin n (V55_s g c) = some r) : PureFn prog gl 78 [.fn (.func g) [] [], .ref (ctT c) 0] r :=
 pure_mach (M := noM) (fn := f78) (k := 20) (d := 8) (c := bodyOf f78) cx glFrz (by kernel_rfl) func78 (by kernel_rfl) rfl (by kernel_rfl) (by kernel_rfl) (L := 6) (by kernel_rfl) noM_ways (fun σ => σ.elim) ((kD (w55_s_1 g c)) hk _ rfl) hr
/-! ### 40 -/
def g40_s_1 (c : Ct) : List Bool := let y0 := decide (c.n ≤ 281474976710656); [true, true, true, true, true, true, isV (T.agg [T.int .i64 c.entries, T.int .i64 (sumR F58 c.line c.n 0 0), T.int .i64 (sumR (F57 82) c.line c.n 0 0), T.int .i64 (sumR (F57 53) c.line c.n 0 0), T.int .i64 (sumR (F57 83) c.line c.n 0 0), T.int .i64 c.discarded, T.slf false c.n fun i => lnT (c.line i)]) (ctT { entries := c.entries, accepted := sumR F58 c.line c.n 0 0, delivered := sumR (F57 82) c.line c.n 0 0, waiting := sumR (F57 53) c.line c.n 0 0, letters := sumR (F57 83) c.line c.n 0 0, discarded := c.discarded, n := c.n, line := c.line }), y0, true, true, true, true, isV (T.agg [T.int .i64 c.entries, T.int .i64 (sumR F58 c.line c.n 0 0), T.int .i64 (sumR (F57 82) c.line c.n 0 0), T.int .i64 (sumR (F57 53) c.line c.n 0 0), T.int .i64 c.letters, T.int .i64 c.discarded, T.slf false c.n fun i => lnT (c.line i)]) (ctT { entries := c.entries, accepted := sumR F58 c.line c.n 0 0, delivered := sumR (F57 82) c.line c.n 0 0, waiting := sumR (F57 53) c.line c.n 0 0, letters := c.letters, discarded := c.discarded, n := c.n, line := c.line }), y0, true, true, true, true, isV (T.agg [T.int .i64 c.entries, T.int .i64 (sumR F58 c.line c.n 0 0), T.int .i64 (sumR (F57 82) c.line c.n 0 0), T.int .i64 c.waiting, T.int .i64 c.letters, T.int .i64 c.discarded, T.slf false c.n fun i => lnT (c.line i)]) (ctT { entries := c.entries, accepted := sumR F58 c.line c.n 0 0, delivered := sumR (F57 82) c.line c.n 0 0, waiting := c.waiting, letters := c.letters, discarded := c.discarded, n := c.n, line := c.line }), y0, true, true, true, true, isV (T.agg [T.int .i64 c.entries, T.int .i64 (sumR F58 c.line c.n 0 0), T.int .i64 c.delivered, T.int .i64 c.waiting, T.int .i64 c.letters, T.int .i64 c.discarded, T.slf false c.n fun i => lnT (c.line i)]) (ctT { entries := c.entries, accepted := sumR F58 c.line c.n 0 0, delivered := c.delivered, waiting := c.waiting, letters := c.letters, discarded := c.discarded, n := c.n, line := c.line }), y0, true, true, true, true, isV (T.slf false c.n fun i => lnT (c.line i)) (lsT c.n c.line), y0]
def V40_s (c : Ct) : Empty ⊕ T :=
 (.inr (T.agg [T.int .i64 c.entries, T.int .i64 (sumR F58 c.line c.n 0 0), T.int .i64 (sumR (F57 82) c.line c.n 0 0), T.int .i64 (sumR (F57 53) c.line c.n 0 0), T.int .i64 (sumR (F57 83) c.line c.n 0 0), T.int .i64 (sumR (F57 84) c.line c.n 0 0), T.slf false c.n fun i => lnT (c.line i)]))
def K40_s (c : Ct) : Bool :=
 (allT (g40_s_1 c))
theorem w40_s_1 (c : Ct) : outK prog f58 20 [] (runK prog D13 F40 2000 (.code (bodyOf f58)) [] 0 ([ctT c] ++ List.replicate 21 undefT) ⟨0, []⟩ [] []) = wdn (T.agg [T.int .i64 c.entries, T.int .i64 (sumR F58 c.line c.n 0 0), T.int .i64 (sumR (F57 82) c.line c.n 0 0), T.int .i64 (sumR (F57 53) c.line c.n 0 0), T.int .i64 (sumR (F57 83) c.line c.n 0 0), T.int .i64 (sumR (F57 84) c.line c.n 0 0), T.slf false c.n fun i => lnT (c.line i)]) (g40_s_1 c) := by kernel_rfl
theorem c40 (c : Ct) (cx : Cx prog D13 F40) (n : Nat) {r : T} (hk : K40_s c = true) (hr : noM.fin n (V40_s c) = some r) : PureFn prog gl 58 [ctT c] r :=
 pure_mach (M := noM) (fn := f58) (k := 20) (d := 8) (c := bodyOf f58) cx glFrz (by kernel_rfl) func58 (by kernel_rfl) rfl (by kernel_rfl) (by kernel_rfl) (L := 21) (by kernel_rfl) noM_ways (fun σ => σ.elim) ((kD (w40_s_1 c)) hk _ rfl) hr
end
end Go.Proofs.Tryz

/- The sums: proved. -/
namespace Go.Proofs.Tryz
open Go.Ps
set_option maxRecDepth 100000
theorem s57_ok (ts : List T) (r : T) (cs : List Bool) (h : s57 ts = some (r, cs)) (k : allT cs = true) : PureFn prog gl 80 ts r := by
 unfold s57 at h; split at h
 ·rename_i s t g
  cases h
  simp only [allT, Bool.and_true, Bool.and_eq_true, isV_iff, decide_eq_true_eq] at k
  rw [k.1, lnv_lnT]
  have hg := k.2
  clear k
  simp only [List.mem_cons, List.not_mem_nil, or_false] at hg
  unfold F57
  rcases hg with rfl | rfl | rfl | rfl
  ·refine c57a s (lnv t) cx10 0 ?_ ?_
   ·unfold K57a_s; refine tree_eq (fun e => ?_) (fun e => ?_) <;> simp [g57a_s_1, g57a_s_2, allT, e]
   ·unfold V57a_s; cases prd 82 (lnv t) <;> rfl
  ·refine c57b s (lnv t) cx10 0 ?_ ?_
   ·unfold K57b_s; refine tree_eq (fun e => ?_) (fun e => ?_) <;> simp [g57b_s_1, g57b_s_2, allT] <;> simpa using e
   ·unfold V57b_s
    show _ = some (T.int .i64 (if (lnv t).fate == 0 then _ else _))
    cases (lnv t).fate == 0 <;> rfl
  ·refine c57c s (lnv t) cx10 0 ?_ ?_
   ·unfold K57c_s; refine tree_eq (fun e => ?_) (fun e => ?_) <;> simp [g57c_s_1, g57c_s_2, allT, e]
   ·unfold V57c_s; cases prd 83 (lnv t) <;> rfl
  ·refine c57d s (lnv t) cx10 0 ?_ ?_
   ·unfold K57d_s; refine tree_eq (fun e => ?_) (fun e => ?_) <;> simp [g57d_s_1, g57d_s_2, allT, e]
   ·unfold V57d_s; cases prd 84 (lnv t) <;> rfl
 ·cases h
theorem cx11 : Cx prog D11 F0 := ⟨follows, pdAdd_ok cx10.hE s57_ok, F0ok⟩
theorem run56a_eq (m : Nat) (f : Nat → Ln) (s0 : Int) (hm : m ≤ 281474976710656) : ∀ (k i : Nat) (s : Int), k + i = m → Runs (M56a m f s0) (.l0 s m i) (.int .i64 (sumR F58 f k i s)) := by
 intro k
 induction k with
 | zero =>
  intro i s hi
  have : i = m := by omega
  subst this
  refine .done ?_
  show step56a_0 i f s0 s i i = _
  rw [T56a_0 i f s0 s i i (by unfold K56a_0; rw [if_neg (by simp)]; simp [g56a_0_2, allT])]
  unfold V56a_0
  rw [if_neg (by simp)]
  rfl
 | succ k ih =>
  intro i s hi
  refine .next ?_ (ih (i + 1) (F58 s (f i)) (by omega))
  show step56a_0 m f s0 s m i = _
  have b1 : decide ((i : Int) < m) = true := decide_eq_true (by omega)
  have b2 : decide ((0 : Int) ≤ i) = true := decide_eq_true (by omega)
  rw [T56a_0 m f s0 s m i (by unfold K56a_0; rw [if_pos b1]; simp only [g56a_0_1, allT, isV_self, b1, b2, Bool.and_true])]
  unfold V56a_0
  rw [if_pos b1, wsucc i (by omega), Int.toNat_natCast]
theorem run56b_eq (m : Nat) (f : Nat → Ln) (s0 : Int) (g : Nat) (hm : m ≤ 281474976710656) (hg : g ∈ [82, 53, 83, 84]) : ∀ (k i : Nat) (s : Int), k + i = m → Runs (M56b m f s0 g) (.l0 s m i) (.int .i64 (sumR (F57 g) f k i s)) := by
 intro k
 induction k with
 | zero =>
  intro i s hi
  have : i = m := by omega
  subst this
  refine .done ?_
  show step56b_0 i f s0 g s i i = _
  rw [T56b_0 i f s0 g s i i (by unfold K56b_0; rw [if_neg (by simp)]; simp [g56b_0_2, allT])]
  unfold V56b_0
  rw [if_neg (by simp)]
  rfl
 | succ k ih =>
  intro i s hi
  refine .next ?_ (ih (i + 1) (F57 g s (f i)) (by omega))
  show step56b_0 m f s0 g s m i = _
  have b1 : decide ((i : Int) < m) = true := decide_eq_true (by omega)
  have b2 : decide ((0 : Int) ≤ i) = true := decide_eq_true (by omega)
  rw [T56b_0 m f s0 g s m i (by unfold K56b_0; rw [if_pos b1]; simp only [g56b_0_1, allT, isV_self, b1, b2, decide_eq_true hg, Bool.and_true])]
  unfold V56b_0
  rw [if_pos b1, wsucc i (by omega), Int.toNat_natCast]
theorem s56_ok (ts : List T) (r : T) (cs : List Bool) (h : s56 ts = some (r, cs)) (k : allT cs = true) : PureFn prog gl 79 ts r := by
 unfold s56 at h; split at h
 ·rename_i t s
  cases h
  simp only [allT, Bool.and_true, Bool.and_eq_true, isV_iff, decide_eq_true_eq] at k
  obtain ⟨n, hn⟩ := run56a_eq (slN t) (lsv t) s k.2 (slN t) 0 s rfl
  rw [k.1]
  exact c56a (slN t) (lsv t) s cx11 n (by unfold K56a_s; simp [g56a_s_1, allT]) (by unfold V56a_s; exact hn)
 ·rename_i t s g
  cases h
  simp only [allT, Bool.and_true, Bool.and_eq_true, isV_iff, decide_eq_true_eq] at k
  obtain ⟨n, hn⟩ := run56b_eq (slN t) (lsv t) s g k.2.1 k.2.2 (slN t) 0 s rfl
  rw [k.1]
  exact c56b (slN t) (lsv t) s g cx11 n (by unfold K56b_s; simp [g56b_s_1, allT]) (by unfold V56b_s; exact hn)
 ·cases h
theorem cx12 : Cx prog D12 F0 := ⟨follows, pdAdd_ok cx11.hE s56_ok, F0ok⟩
theorem s55_ok (ts : List T) (r : T) (cs : List Bool) (h : s55 ts = some (r, cs)) (k : allT cs = true) : PureFn prog gl 78 ts r := by
 unfold s55 at h; split at h
 ·rename_i g c
  cases h
  simp only [allT, Bool.and_true, Bool.and_eq_true, isV_iff, decide_eq_true_eq] at k
  rw [k.1]
  exact c55 g (ctv c) cx12 0 (by unfold K55_s; simp only [g55_s_1, allT, lsT, isV_self, decide_eq_true k.2.1, decide_eq_true k.2.2, Bool.and_true]) rfl
 ·cases h
theorem F40ok : EeOk prog gl F40.ee := eeNone_ok
theorem cx13 : Cx prog D13 F40 := ⟨follows, pdLend_ok glFrz cx12.hE s55_ok, F40ok⟩
def sums (c : Ct) : Ct := { c with accepted := sumR F58 c.line c.n 0 0, delivered := sumR (F57 82) c.line c.n 0 0, waiting := sumR (F57 53) c.line c.n 0 0, letters := sumR (F57 83) c.line c.n 0 0, discarded := sumR (F57 84) c.line c.n 0 0 }
theorem sums_ok (c : Ct) (hn : c.n ≤ 281474976710656) : PureFn prog gl 58 [ctT c] (ctT (sums c)) := by
 refine c40 c cx13 0 ?_ rfl
 unfold K40_s
 simp [g40_s_1, allT, lsT, ctT, hn]
end Go.Proofs.Tryz

/- The contract of the sums. -/
namespace Go.Proofs.Tryz
open Go.Ps
noncomputable def s40 : List T → Option (T × List Bool)
 | [t] => some (ctT (sums (ctv t)), [isV t (ctT (ctv t)), decide ((ctv t).n ≤ 281474976710656)])
 | _ => none
theorem s40_ok (ts : List T) (r : T) (cs : List Bool) (h : s40 ts = some (r, cs)) (k : allT cs = true) : PureFn prog gl 58 ts r := by
 unfold s40 at h; split at h
 ·rename_i t
  cases h
  simp only [allT, Bool.and_true, Bool.and_eq_true, isV_iff, decide_eq_true_eq] at k
  rw [k.1]; exact sums_ok _ k.2
 ·cases h
noncomputable def D14 : Ed := ⟨gl, pdAdd 58 s40 D12.pd⟩
theorem cx14 : Cx prog D14 F0 := ⟨follows, pdAdd_ok cx12.hE s40_ok, F0ok⟩
theorem cx14b : Cx prog D14 F40 := ⟨follows, pdAdd_ok cx12.hE s40_ok, F40ok⟩
end Go.Proofs.Tryz

/- totals, both, and small as machines, by program (gen2). -/
namespace Go.Proofs.Tryz
noncomputable section
open Go.Ps
set_option maxRecDepth 100000
/-! ### 19 -/
def k19_s_0 (c : Ct) : List Bool := [true, true, isV (ctT c) (ctT c), decide (c.n ≤ 281474976710656)]
def k19_s_1 (c : Ct) : List Bool := let y0 := c.accepted != sumR F58 c.line c.n 0 0; (!y0) :: (!y0) :: (!y0) :: (!y0) :: (!y0) :: (!y0) :: k19_s_0 c
def k19_s_2 (c : Ct) : List Bool := let y0 := c.delivered != sumR (F57 82) c.line c.n 0 0; (!y0) :: (!y0) :: (!y0) :: (!y0) :: (!y0) :: (!y0) :: k19_s_1 c
def k19_s_3 (c : Ct) : List Bool := let y0 := c.waiting != sumR (F57 53) c.line c.n 0 0; (!y0) :: (!y0) :: (!y0) :: (!y0) :: (!y0) :: (!y0) :: k19_s_2 c
def k19_s_4 (c : Ct) : List Bool := let y0 := c.letters != sumR (F57 83) c.line c.n 0 0; (!y0) :: (!y0) :: (!y0) :: (!y0) :: (!y0) :: (!y0) :: k19_s_3 c
def g19_s_1 (c : Ct) : List Bool := let y0 := c.accepted != sumR F58 c.line c.n 0 0; true :: true :: true :: true :: true :: true :: true :: true :: true :: true :: true :: true :: true :: true :: true :: true :: true :: true :: true :: y0 :: y0 :: y0 :: y0 :: y0 :: y0 :: k19_s_0 c
def g19_s_2 (c : Ct) : List Bool := let y0 := c.delivered != sumR (F57 82) c.line c.n 0 0; true :: true :: true :: true :: true :: true :: true :: true :: true :: true :: true :: true :: true :: y0 :: y0 :: y0 :: y0 :: y0 :: y0 :: k19_s_1 c
def g19_s_3 (c : Ct) : List Bool := let y0 := c.waiting != sumR (F57 53) c.line c.n 0 0; true :: true :: true :: true :: true :: true :: true :: y0 :: y0 :: y0 :: y0 :: y0 :: y0 :: k19_s_2 c
def g19_s_4 (c : Ct) : List Bool := let y0 := c.letters != sumR (F57 83) c.line c.n 0 0; true :: y0 :: y0 :: y0 :: y0 :: y0 :: y0 :: k19_s_3 c
def g19_s_5 (c : Ct) : List Bool := (c.discarded != sumR (F57 84) c.line c.n 0 0) :: k19_s_4 c
def g19_s_6 (c : Ct) : List Bool := (!c.discarded != sumR (F57 84) c.line c.n 0 0) :: k19_s_4 c
def V19_s (c : Ct) : Empty ⊕ T :=
 (if c.accepted != sumR F58 c.line c.n 0 0 then (.inr (T.int .i64 38)) else (if c.delivered != sumR (F57 82) c.line c.n 0 0 then (.inr (T.int .i64 38)) else (if c.waiting != sumR (F57 53) c.line c.n 0 0 then (.inr (T.int .i64 38)) else (if c.letters != sumR (F57 83) c.line c.n 0 0 then (.inr (T.int .i64 38)) else (if c.discarded != sumR (F57 84) c.line c.n 0 0 then (.inr (T.int .i64 38)) else (.inr (T.int .i64 0)))))))
def K19_s (c : Ct) : Bool :=
 (if c.accepted != sumR F58 c.line c.n 0 0 then (allT (g19_s_1 c)) else (if c.delivered != sumR (F57 82) c.line c.n 0 0 then (allT (g19_s_2 c)) else (if c.waiting != sumR (F57 53) c.line c.n 0 0 then (allT (g19_s_3 c)) else (if c.letters != sumR (F57 83) c.line c.n 0 0 then (allT (g19_s_4 c)) else (if c.discarded != sumR (F57 84) c.line c.n 0 0 then (allT (g19_s_5 c)) else (allT (g19_s_6 c)))))))
def r19_s (c : Ct) (ds : List Bool) : RD Out := runK prog D14 F0 2000 (.code (bodyOf f37)) [] 0 ([ctT c] ++ List.replicate 38 undefT) ⟨0, []⟩ ds []
theorem w19_s_1 (c : Ct) : outK prog f37 20 [] (r19_s c (bt 25 33554431)) = wdn (T.int .i64 38) (g19_s_1 c) := by kernel_rfl
theorem w19_s_2 (c : Ct) : outK prog f37 20 [] (r19_s c (bt 25 33554368)) = wdn (T.int .i64 38) (g19_s_2 c) := by kernel_rfl
theorem w19_s_3 (c : Ct) : outK prog f37 20 [] (r19_s c (bt 25 33550336)) = wdn (T.int .i64 38) (g19_s_3 c) := by kernel_rfl
theorem w19_s_4 (c : Ct) : outK prog f37 20 [] (r19_s c (bt 25 33292288)) = wdn (T.int .i64 38) (g19_s_4 c) := by kernel_rfl
theorem w19_s_5 (c : Ct) : outK prog f37 20 [] (r19_s c (bt 25 16777216)) = wdn (T.int .i64 38) (g19_s_5 c) := by kernel_rfl
theorem w19_s_6 (c : Ct) : outK prog f37 20 [] (r19_s c (bt 25 0)) = wdn (T.int .i64 0) (g19_s_6 c) := by kernel_rfl
theorem c19 (c : Ct) (n : Nat) {r : T} (hk : K19_s c = true) (hr : noM.fin n (V19_s c) = some r) : PureFn prog gl 37 [ctT c] r :=
 pure_mach (M := noM) (fn := f37) (k := 20) (d := 8) (c := bodyOf f37) cx14 glFrz (by kernel_rfl) func37 (by kernel_rfl) rfl (by kernel_rfl) (by kernel_rfl) (L := 38) (by kernel_rfl) noM_ways (fun σ => σ.elim) ((wk_if (kD (w19_s_1 c)) (wk_if (kD (w19_s_2 c)) (wk_if (kD (w19_s_3 c)) (wk_if (kD (w19_s_4 c)) (wk_if (kD (w19_s_5 c)) (kD (w19_s_6 c))))))) hk _ rfl) hr
/-! ### 24 -/
inductive S24 where
 | l0 (x3 vd vw vl vx : Int)
def g24_s_1 (c : Ct) : List Bool := [true, true, true, true, true, true, true, true, true, true, true, true]
def k24_0_0 (c : Ct) (x3 vd vw vl vx : Int) : List Bool := let y0 := decide (x3 < (↑c.n : Int)); [true, true, decide (0 ≤ x3), y0, true, y0]
def k24_0_1 (c : Ct) (x3 vd vw vl vx : Int) : List Bool := (!(c.line x3.toNat).fate == 0) :: (!(c.line x3.toNat).closed == 6) :: k24_0_0 c x3 vd vw vl vx
def k24_0_2 (c : Ct) (x3 vd vw vl vx : Int) : List Bool := let y0 := (c.line x3.toNat).fate == 4; y0 :: y0 :: y0 :: y0 :: (!(c.line x3.toNat).fate == 3) :: k24_0_1 c x3 vd vw vl vx
def g24_0_1 (c : Ct) (x3 vd vw vl vx : Int) : List Bool := true :: true :: true :: ((c.line x3.toNat).closed == 6) :: k24_0_0 c x3 vd vw vl vx
def g24_0_2 (c : Ct) (x3 vd vw vl vx : Int) : List Bool := true :: true :: true :: ((c.line x3.toNat).fate == 0) :: (!(c.line x3.toNat).closed == 6) :: k24_0_0 c x3 vd vw vl vx
def g24_0_3 (c : Ct) (x3 vd vw vl vx : Int) : List Bool := true :: true :: true :: ((c.line x3.toNat).fate == 3) :: k24_0_1 c x3 vd vw vl vx
def g24_0_4 (c : Ct) (x3 vd vw vl vx : Int) : List Bool := true :: true :: true :: ((c.line x3.toNat).closed == 0) :: k24_0_2 c x3 vd vw vl vx
def g24_0_5 (c : Ct) (x3 vd vw vl vx : Int) : List Bool := (!(c.line x3.toNat).closed == 0) :: k24_0_2 c x3 vd vw vl vx
def g24_0_6 (c : Ct) (x3 vd vw vl vx : Int) : List Bool := let y0 := (c.line x3.toNat).fate == 4; true :: (!y0) :: (!y0) :: (!y0) :: (!y0) :: (!(c.line x3.toNat).fate == 3) :: k24_0_1 c x3 vd vw vl vx
def g24_0_7 (c : Ct) (x3 vd vw vl vx : Int) : List Bool := [true, true, true, !decide (x3 < (↑c.n : Int))]
def V24_0 (c : Ct) (x3 vd vw vl vx : Int) : S24 ⊕ T :=
 (if decide (x3 < (↑c.n : Int)) then (if (c.line x3.toNat).closed == 6 then (.inl (.l0 (IntKind.i64.wrap (x3 + 1)) vd vw vl (IntKind.i64.wrap (vx + (c.line x3.toNat).mass)))) else (if (c.line x3.toNat).fate == 0 then (.inl (.l0 (IntKind.i64.wrap (x3 + 1)) vd (IntKind.i64.wrap (vw + (c.line x3.toNat).mass)) vl vx)) else (if (c.line x3.toNat).fate == 3 then (.inl (.l0 (IntKind.i64.wrap (x3 + 1)) (IntKind.i64.wrap (vd + (c.line x3.toNat).mass)) vw vl vx)) else (if (c.line x3.toNat).fate == 4 then (if (c.line x3.toNat).closed == 0 then (.inl (.l0 (IntKind.i64.wrap (x3 + 1)) vd vw (IntKind.i64.wrap (vl + (c.line x3.toNat).mass)) vx)) else (.inl (.l0 (IntKind.i64.wrap (x3 + 1)) vd vw vl vx))) else (.inl (.l0 (IntKind.i64.wrap (x3 + 1)) vd vw vl vx)))))) else (.inr (T.agg [T.int .i64 c.entries, T.int .i64 c.accepted, T.int .i64 vd, T.int .i64 vw, T.int .i64 vl, T.int .i64 vx, T.slf false c.n fun i => lnT (c.line i)])))
def K24_0 (c : Ct) (x3 vd vw vl vx : Int) : Bool :=
 (if decide (x3 < (↑c.n : Int)) then (if (c.line x3.toNat).closed == 6 then (allT (g24_0_1 c x3 vd vw vl vx)) else (if (c.line x3.toNat).fate == 0 then (allT (g24_0_2 c x3 vd vw vl vx)) else (if (c.line x3.toNat).fate == 3 then (allT (g24_0_3 c x3 vd vw vl vx)) else (if (c.line x3.toNat).fate == 4 then (if (c.line x3.toNat).closed == 0 then (allT (g24_0_4 c x3 vd vw vl vx)) else (allT (g24_0_5 c x3 vd vw vl vx))) else (allT (g24_0_6 c x3 vd vw vl vx)))))) else (allT (g24_0_7 c x3 vd vw vl vx)))
def step24_0 (c : Ct) (x3 vd vw vl vx : Int) : Option (S24 ⊕ T) := if K24_0 c x3 vd vw vl vx then some (V24_0 c x3 vd vw vl vx) else none
theorem T24_0 (c : Ct) (x3 vd vw vl vx : Int) (hk : K24_0 c x3 vd vw vl vx = true) : step24_0 c x3 vd vw vl vx = some (V24_0 c x3 vd vw vl vx) := if_pos hk
def V24_s (c : Ct) : S24 ⊕ T :=
 (.inl (.l0 0 0 0 0 0))
def K24_s (c : Ct) : Bool :=
 (allT (g24_s_1 c))
def step24 (c : Ct) : S24 → Option (S24 ⊕ T)
 | .l0 x3 vd vw vl vx => step24_0 c x3 vd vw vl vx
def M24 (c : Ct) : Mch S24 where
 lp := fun σ => match σ with
  | .l0 .. => 0
 keep := fun ι => match ι with
  | 0 => [1, 2, 3]
  | _ => []
 par := fun ι => match ι with
  | 0 => []
  | _ => []
 vs := fun σ => match σ with
  | .l0 x3 vd vw vl vx => [T.ptr 0 0, T.ptr 1 0, T.int .i64 x3]
 hp := fun σ => match σ with
  | .l0 _ vd vw vl vx => { next := 2, objs := [(1, { elem := 24, sz := 0, cells := [T.int .i64 0, T.int .i64 0, T.int .i64 0, T.int .i64 0, T.int .i64 0, T.int .i64 0, T.nils] }), (0, { elem := 24, sz := 0, cells := [T.int .i64 c.entries, T.int .i64 c.accepted, T.int .i64 vd, T.int .i64 vw, T.int .i64 vl, T.int .i64 vx, T.slf false c.n fun i => lnT (c.line i)] })] }
 len := 67
 step := step24 c
def r24_0 (c : Ct) (x3 vd vw vl vx : Int) (fr : List T) (ds : List Bool) : RD Out := (M24 c).rk prog D14 F40 f26 (.l0 x3 vd vw vl vx) fr ds
theorem w24_0_1 (c : Ct) (x3 vd vw vl vx : Int) (fr : List T) : (M24 c).wa prog f26 (r24_0 c x3 vd vw vl vx fr [true, true]) 0 (g24_0_1 c x3 vd vw vl vx) (.l0 (IntKind.i64.wrap (x3 + 1)) vd vw vl (IntKind.i64.wrap (vx + (c.line x3.toNat).mass))) := by unfold Mch.wa; kernel_rfl
theorem w24_0_2 (c : Ct) (x3 vd vw vl vx : Int) (fr : List T) : (M24 c).wa prog f26 (r24_0 c x3 vd vw vl vx fr [true, false, true]) 0 (g24_0_2 c x3 vd vw vl vx) (.l0 (IntKind.i64.wrap (x3 + 1)) vd (IntKind.i64.wrap (vw + (c.line x3.toNat).mass)) vl vx) := by unfold Mch.wa; kernel_rfl
theorem w24_0_3 (c : Ct) (x3 vd vw vl vx : Int) (fr : List T) : (M24 c).wa prog f26 (r24_0 c x3 vd vw vl vx fr (bt 4 9)) 0 (g24_0_3 c x3 vd vw vl vx) (.l0 (IntKind.i64.wrap (x3 + 1)) (IntKind.i64.wrap (vd + (c.line x3.toNat).mass)) vw vl vx) := by unfold Mch.wa; kernel_rfl
theorem w24_0_4 (c : Ct) (x3 vd vw vl vx : Int) (fr : List T) : (M24 c).wa prog f26 (r24_0 c x3 vd vw vl vx fr (bt 9 497)) 0 (g24_0_4 c x3 vd vw vl vx) (.l0 (IntKind.i64.wrap (x3 + 1)) vd vw (IntKind.i64.wrap (vl + (c.line x3.toNat).mass)) vx) := by unfold Mch.wa; kernel_rfl
theorem w24_0_5 (c : Ct) (x3 vd vw vl vx : Int) (fr : List T) : (M24 c).wa prog f26 (r24_0 c x3 vd vw vl vx fr (bt 9 241)) 0 (g24_0_5 c x3 vd vw vl vx) (.l0 (IntKind.i64.wrap (x3 + 1)) vd vw vl vx) := by unfold Mch.wa; kernel_rfl
theorem w24_0_6 (c : Ct) (x3 vd vw vl vx : Int) (fr : List T) : (M24 c).wa prog f26 (r24_0 c x3 vd vw vl vx fr (bt 9 1)) 0 (g24_0_6 c x3 vd vw vl vx) (.l0 (IntKind.i64.wrap (x3 + 1)) vd vw vl vx) := by unfold Mch.wa; kernel_rfl
theorem w24_0_7 (c : Ct) (x3 vd vw vl vx : Int) (fr : List T) : outK prog f26 20 [] (r24_0 c x3 vd vw vl vx fr [false]) = wdn (T.agg [T.int .i64 c.entries, T.int .i64 c.accepted, T.int .i64 vd, T.int .i64 vw, T.int .i64 vl, T.int .i64 vx, T.slf false c.n fun i => lnT (c.line i)]) (g24_0_7 c x3 vd vw vl vx) := by kernel_rfl
theorem w24_s_1 (c : Ct) : (M24 c).wl prog f26 (runK prog D14 F40 2000 (.code (bodyOf f26)) [] 0 ([ctT c] ++ List.replicate 66 undefT) ⟨0, []⟩ [] []) 0 (g24_s_1 c) (.l0 0 0 0 0 0) := by unfold Mch.wl; kernel_rfl
theorem ways24 (c : Ct) : (M24 c).Ways prog D14 F40 f26 20 := by
 intro σ o fr h
 cases σ with
 | l0 x3 vd vw vl vx =>
  obtain ⟨hk, ho⟩ := kv_some (K := K24_0 c x3 vd vw vl vx) (V := V24_0 c x3 vd vw vl vx) h
  exact (wk_if (wk_if (kA (w24_0_1 c x3 vd vw vl vx fr) rfl) (wk_if (kA (w24_0_2 c x3 vd vw vl vx fr) rfl) (wk_if (kA (w24_0_3 c x3 vd vw vl vx fr) rfl) (wk_if (wk_if (kA (w24_0_4 c x3 vd vw vl vx fr) rfl) (kA (w24_0_5 c x3 vd vw vl vx fr) rfl)) (kA (w24_0_6 c x3 vd vw vl vx fr) rfl))))) (kD (w24_0_7 c x3 vd vw vl vx fr))) hk o ho
theorem oks24 (c : Ct) : ∀ σ, Ps.codeOk (loopAt f26 ((M24 c).lp σ)).1 = true ∧ ksOk (.lp :: (loopAt f26 ((M24 c).lp σ)).2) = true := oks_of 1 (by kernel_rfl) (by intro σ; cases σ <;> exact Nat.le_of_ble_eq_true rfl)
theorem c24 (c : Ct) (n : Nat) {r : T} (hk : K24_s c = true) (hr : (M24 c).fin n (V24_s c) = some r) : PureFn prog gl 26 [ctT c] r :=
 pure_mach (M := (M24 c)) (fn := f26) (k := 20) (d := 8) (c := bodyOf f26) cx14b glFrz (by kernel_rfl) func26 (by kernel_rfl) rfl (by kernel_rfl) (by kernel_rfl) (L := 66) (by kernel_rfl) (ways24 c) (oks24 c) ((kL (w24_s_1 c) rfl) hk _ rfl) hr
/-! ### 7 -/
inductive S7n where
 | l0 (x3 : Int)
 | l1 (x3 x5 : Int)
def g7n_s_1 (c : Ct) : List Bool := [decide ((↑c.n : Int) > 30)]
def g7n_s_2 (c : Ct) : List Bool := [!decide ((↑c.n : Int) > 30)]
def k7n_0_0 (c : Ct) (x3 : Int) : List Bool := let y0 := decide (x3 < (↑c.n : Int)); [true, true, decide (0 ≤ x3), y0, true, y0]
def k7n_0_1 (c : Ct) (x3 : Int) : List Bool := let y0 := decide ((↑(c.line x3.toNat).k : Int) > 10); (!y0) :: (!y0) :: (!y0) :: (!y0) :: (!y0) :: (!y0) :: k7n_0_0 c x3
def k7n_0_2 (c : Ct) (x3 : Int) : List Bool := let y0 := decide ((↑(c.line x3.toNat).st.n : Int) > 20); (!y0) :: (!y0) :: (!y0) :: (!y0) :: (!y0) :: k7n_0_1 c x3
def g7n_0_1 (c : Ct) (x3 : Int) : List Bool := let y0 := decide ((↑(c.line x3.toNat).k : Int) > 10); true :: true :: true :: true :: true :: true :: y0 :: y0 :: y0 :: y0 :: y0 :: y0 :: k7n_0_0 c x3
def g7n_0_2 (c : Ct) (x3 : Int) : List Bool := let y0 := decide ((↑(c.line x3.toNat).st.n : Int) > 20); true :: y0 :: y0 :: y0 :: y0 :: y0 :: k7n_0_1 c x3
def g7n_0_3 (c : Ct) (x3 : Int) : List Bool := (decide ((↑(c.line x3.toNat).node.length : Int) > 100)) :: k7n_0_2 c x3
def g7n_0_4 (c : Ct) (x3 : Int) : List Bool := (!decide ((↑(c.line x3.toNat).node.length : Int) > 100)) :: k7n_0_2 c x3
def g7n_0_5 (c : Ct) (x3 : Int) : List Bool := [!decide (x3 < (↑c.n : Int))]
def k7n_1_0 (c : Ct) (x3 x5 : Int) : List Bool := let y0 := decide (x5 < (↑(c.line x3.toNat).k : Int)); [decide (0 ≤ x5), y0, true, y0]
def g7n_1_1 (c : Ct) (x3 x5 : Int) : List Bool := (decide ((↑((c.line x3.toNat).from_ x5.toNat).n : Int) > 20)) :: k7n_1_0 c x3 x5
def g7n_1_2 (c : Ct) (x3 x5 : Int) : List Bool := (!decide ((↑((c.line x3.toNat).from_ x5.toNat).n : Int) > 20)) :: k7n_1_0 c x3 x5
def g7n_1_3 (c : Ct) (x3 x5 : Int) : List Bool := [!decide (x5 < (↑(c.line x3.toNat).k : Int))]
def V7n_0 (c : Ct) (x3 : Int) : S7n ⊕ T :=
 (if decide (x3 < (↑c.n : Int)) then (if decide ((↑(c.line x3.toNat).k : Int) > 10) then (.inr (T.bool false)) else (if decide ((↑(c.line x3.toNat).st.n : Int) > 20) then (.inr (T.bool false)) else (if decide ((↑(c.line x3.toNat).node.length : Int) > 100) then (.inr (T.bool false)) else (.inl (.l1 x3 0))))) else (.inr (T.bool true)))
def K7n_0 (c : Ct) (x3 : Int) : Bool :=
 (if decide (x3 < (↑c.n : Int)) then (if decide ((↑(c.line x3.toNat).k : Int) > 10) then (allT (g7n_0_1 c x3)) else (if decide ((↑(c.line x3.toNat).st.n : Int) > 20) then (allT (g7n_0_2 c x3)) else (if decide ((↑(c.line x3.toNat).node.length : Int) > 100) then (allT (g7n_0_3 c x3)) else (allT (g7n_0_4 c x3))))) else (allT (g7n_0_5 c x3)))
def step7n_0 (c : Ct) (x3 : Int) : Option (S7n ⊕ T) := if K7n_0 c x3 then some (V7n_0 c x3) else none
theorem T7n_0 (c : Ct) (x3 : Int) (hk : K7n_0 c x3 = true) : step7n_0 c x3 = some (V7n_0 c x3) := if_pos hk
def V7n_1 (c : Ct) (x3 x5 : Int) : S7n ⊕ T :=
 (if decide (x5 < (↑(c.line x3.toNat).k : Int)) then (if decide ((↑((c.line x3.toNat).from_ x5.toNat).n : Int) > 20) then (.inr (T.bool false)) else (.inl (.l1 x3 (IntKind.i64.wrap (x5 + 1))))) else (.inl (.l0 (IntKind.i64.wrap (x3 + 1)))))
def K7n_1 (c : Ct) (x3 x5 : Int) : Bool :=
 (if decide (x5 < (↑(c.line x3.toNat).k : Int)) then (if decide ((↑((c.line x3.toNat).from_ x5.toNat).n : Int) > 20) then (allT (g7n_1_1 c x3 x5)) else (allT (g7n_1_2 c x3 x5))) else (allT (g7n_1_3 c x3 x5)))
def step7n_1 (c : Ct) (x3 x5 : Int) : Option (S7n ⊕ T) := if K7n_1 c x3 x5 then some (V7n_1 c x3 x5) else none
theorem T7n_1 (c : Ct) (x3 x5 : Int) (hk : K7n_1 c x3 x5 = true) : step7n_1 c x3 x5 = some (V7n_1 c x3 x5) := if_pos hk
def V7n_s (c : Ct) : S7n ⊕ T :=
 (if decide ((↑c.n : Int) > 30) then (.inr (T.bool false)) else (.inl (.l0 0)))
def K7n_s (c : Ct) : Bool :=
 (if decide ((↑c.n : Int) > 30) then (allT (g7n_s_1 c)) else (allT (g7n_s_2 c)))
def step7n (c : Ct) : S7n → Option (S7n ⊕ T)
 | .l0 x3 => step7n_0 c x3
 | .l1 x3 x5 => step7n_1 c x3 x5
def M7n (c : Ct) : Mch S7n where
 lp := fun σ => match σ with
  | .l0 .. => 0
  | .l1 .. => 1
 keep := fun ι => match ι with
  | 0 => [1, 3]
  | 1 => [1, 3, 4, 5]
  | _ => []
 par := fun ι => match ι with
  | 0 => []
  | 1 => [0]
  | _ => []
 vs := fun σ => match σ with
  | .l0 x3 => [(ctT c).ref 0, T.int .i64 x3]
  | .l1 x3 x5 => [(ctT c).ref 0, T.int .i64 x3, (lnT (c.line x3.toNat)).ref 0, T.int .i64 x5]
 hp := fun _ => ⟨0, []⟩
 len := 54
 step := step7n c
def r7n_0 (c : Ct) (x3 : Int) (fr : List T) (ds : List Bool) : RD Out := (M7n c).rk prog D9 F0 f6 (.l0 x3) fr ds
theorem w7n_0_1 (c : Ct) (x3 : Int) (fr : List T) : outK prog f6 20 [] (r7n_0 c x3 fr (bt 13 8191)) = wdn (T.bool false) (g7n_0_1 c x3) := by kernel_rfl
theorem w7n_0_2 (c : Ct) (x3 : Int) (fr : List T) : outK prog f6 20 [] (r7n_0 c x3 fr (bt 13 8065)) = wdn (T.bool false) (g7n_0_2 c x3) := by kernel_rfl
theorem w7n_0_3 (c : Ct) (x3 : Int) (fr : List T) : outK prog f6 20 [] (r7n_0 c x3 fr (bt 13 4097)) = wdn (T.bool false) (g7n_0_3 c x3) := by kernel_rfl
theorem w7n_0_4 (c : Ct) (x3 : Int) (fr : List T) : (M7n c).wl prog f6 (r7n_0 c x3 fr (bt 13 1)) 0 (g7n_0_4 c x3) (.l1 x3 0) := by unfold Mch.wl; kernel_rfl
theorem w7n_0_5 (c : Ct) (x3 : Int) (fr : List T) : outK prog f6 20 [] (r7n_0 c x3 fr [false]) = wdn (T.bool true) (g7n_0_5 c x3) := by kernel_rfl
def r7n_1 (c : Ct) (x3 x5 : Int) (fr : List T) (ds : List Bool) : RD Out := (M7n c).rk prog D9 F0 f6 (.l1 x3 x5) fr ds
theorem w7n_1_1 (c : Ct) (x3 x5 : Int) (fr : List T) : outK prog f6 20 [] (r7n_1 c x3 x5 fr [true, true]) = wdn (T.bool false) (g7n_1_1 c x3 x5) := by kernel_rfl
theorem w7n_1_2 (c : Ct) (x3 x5 : Int) (fr : List T) : (M7n c).wa prog f6 (r7n_1 c x3 x5 fr [true, false]) 0 (g7n_1_2 c x3 x5) (.l1 x3 (IntKind.i64.wrap (x5 + 1))) := by unfold Mch.wa; kernel_rfl
theorem w7n_1_3 (c : Ct) (x3 x5 : Int) (fr : List T) : (M7n c).wa prog f6 (r7n_1 c x3 x5 fr [false]) 1 (g7n_1_3 c x3 x5) (.l0 (IntKind.i64.wrap (x3 + 1))) := by unfold Mch.wa; kernel_rfl
def r7n_s (c : Ct) (ds : List Bool) : RD Out := runK prog D9 F0 2000 (.code (bodyOf f6)) [] 0 ([ctT c] ++ List.replicate 53 undefT) ⟨0, []⟩ ds []
theorem w7n_s_1 (c : Ct) : outK prog f6 20 [] (r7n_s c [true]) = wdn (T.bool false) (g7n_s_1 c) := by kernel_rfl
theorem w7n_s_2 (c : Ct) : (M7n c).wl prog f6 (r7n_s c [false]) 0 (g7n_s_2 c) (.l0 0) := by unfold Mch.wl; kernel_rfl
theorem ways7n (c : Ct) : (M7n c).Ways prog D9 F0 f6 20 := by
 intro σ o fr h
 cases σ with
 | l0 x3 =>
  obtain ⟨hk, ho⟩ := kv_some (K := K7n_0 c x3) (V := V7n_0 c x3) h
  exact (wk_if (wk_if (kD (w7n_0_1 c x3 fr)) (wk_if (kD (w7n_0_2 c x3 fr)) (wk_if (kD (w7n_0_3 c x3 fr)) (kL (w7n_0_4 c x3 fr) rfl)))) (kD (w7n_0_5 c x3 fr))) hk o ho
 | l1 x3 x5 =>
  obtain ⟨hk, ho⟩ := kv_some (K := K7n_1 c x3 x5) (V := V7n_1 c x3 x5) h
  exact (wk_if (wk_if (kD (w7n_1_1 c x3 x5 fr)) (kA (w7n_1_2 c x3 x5 fr) rfl)) (kA (w7n_1_3 c x3 x5 fr) rfl)) hk o ho
theorem oks7n (c : Ct) : ∀ σ, Ps.codeOk (loopAt f6 ((M7n c).lp σ)).1 = true ∧ ksOk (.lp :: (loopAt f6 ((M7n c).lp σ)).2) = true := oks_of 2 (by kernel_rfl) (by intro σ; cases σ <;> exact Nat.le_of_ble_eq_true rfl)
theorem c7n (c : Ct) (n : Nat) {r : T} (hk : K7n_s c = true) (hr : (M7n c).fin n (V7n_s c) = some r) : PureFn prog gl 6 [ctT c] r :=
 pure_mach (M := (M7n c)) (fn := f6) (k := 20) (d := 8) (c := bodyOf f6) cx9 glFrz (by kernel_rfl) func6 (by kernel_rfl) rfl (by kernel_rfl) (by kernel_rfl) (L := 53) (by kernel_rfl) (ways7n c) (oks7n c) ((wk_if (kD (w7n_s_1 c)) (kL (w7n_s_2 c) rfl)) hk _ rfl) hr
end
end Go.Proofs.Tryz

/- The sixth rule, both sides; the first rule; the law's guard. -/
namespace Go.Proofs.Tryz
open Go.Ps
set_option maxRecDepth 100000
/-! ### totals of the program -/
def totE (c : Ct) : Int := if c.accepted ≠ sumR F58 c.line c.n 0 0 ∨ c.delivered ≠ sumR (F57 82) c.line c.n 0 0 ∨ c.waiting ≠ sumR (F57 53) c.line c.n 0 0 ∨ c.letters ≠ sumR (F57 83) c.line c.n 0 0 ∨ c.discarded ≠ sumR (F57 84) c.line c.n 0 0 then 38 else 0
theorem totals_ok (c : Ct) (hn : c.n ≤ 281474976710656) : PureFn prog gl 37 [ctT c] (.int .i64 (totE c)) := by
 have a1 : decide (c.n ≤ 281474976710656) = true := decide_eq_true hn
 refine c19 c 0 ?_ ?_
 ·unfold K19_s
  repeat' (refine tree_eq (fun _ => ?_) (fun _ => ?_))
  all_goals (simp only [g19_s_1, g19_s_2, g19_s_3, g19_s_4, g19_s_5, g19_s_6, k19_s_0, k19_s_1, k19_s_2, k19_s_3, k19_s_4] at *; simp only [*, allT, isV_self, decide_true, Bool.not_false, Bool.not_true, Bool.and_true])
 ·have hv : V19_s c = .inr (.int .i64 (totE c)) := by
   unfold V19_s
   repeat' (refine tree_eq (fun _ => ?_) (fun _ => ?_))
   all_goals (unfold totE; grind)
  rw [hv]; rfl
/-! ### size -/
def sizE (c : Ct) : Int := if c.entries < 0 ∨ c.entries > 1048576 then 2 else if c.n > 65536 then 9 else 0
theorem size_ok (c : Ct) : PureFn prog gl 32 [ctT c] (.int .i64 (sizE c)) := by
 have hv : V14_s c = .inr (.int .i64 (sizE c)) := by
  unfold V14_s
  repeat' (refine tree_eq (fun _ => ?_) (fun _ => ?_))
  all_goals (unfold sizE; grind)
 refine c14 c 0 ?_ (by rw [hv]; rfl)
 unfold K14_s
 repeat' (refine tree_eq (fun _ => ?_) (fun _ => ?_))
 all_goals (simp only [g14_s_1, g14_s_2, g14_s_3, g14_s_4, k14_s_0] at *; simp_all [allT])
/-! ### totals of the law -/
def ltR (line : Nat → Ln) : Nat → Nat → Int → Int → Int → Int → Int × Int × Int × Int
 | 0, _, d, w, l, x => (d, w, l, x)
 | m + 1, i, d, w, l, x =>
  if (line i).closed == 6 then ltR line m (i + 1) d w l (IntKind.i64.wrap (x + (line i).mass))
  else if (line i).fate == 0 then ltR line m (i + 1) d (IntKind.i64.wrap (w + (line i).mass)) l x
  else if (line i).fate == 3 then ltR line m (i + 1) (IntKind.i64.wrap (d + (line i).mass)) w l x
  else if (line i).fate == 4 && (line i).closed == 0 then ltR line m (i + 1) d w (IntKind.i64.wrap (l + (line i).mass)) x
  else ltR line m (i + 1) d w l x
def ltC (c : Ct) (q : Int × Int × Int × Int) : Ct := { c with delivered := q.1, waiting := q.2.1, letters := q.2.2.1, discarded := q.2.2.2 }
theorem run24_eq (c : Ct) (hn : c.n ≤ 281474976710656) : ∀ (k i : Nat) (d w l x : Int), k + i = c.n → Runs (M24 c) (.l0 i d w l x) (ctT (ltC c (ltR c.line k i d w l x))) := by
 intro k
 induction k with
 | zero =>
  intro i d w l x hi
  have : i = c.n := by omega
  subst this
  refine .done ?_
  show step24_0 c c.n d w l x = _
  rw [T24_0 c c.n d w l x (by unfold K24_0; rw [if_neg (by simp)]; simp [g24_0_1, g24_0_2, g24_0_3, g24_0_4, g24_0_5, g24_0_6, g24_0_7, allT, k24_0_0, k24_0_1, k24_0_2])]
  unfold V24_0
  rw [if_neg (by simp)]
  rfl
 | succ k ih =>
  intro i d w l x hi
  have b1 : decide ((i : Int) < c.n) = true := decide_eq_true (by omega)
  have b2 : decide ((0 : Int) ≤ i) = true := decide_eq_true (by omega)
  have hst : (M24 c).step (.l0 i d w l x) = some (V24_0 c i d w l x) := by
   show step24_0 c i d w l x = _
   refine T24_0 c i d w l x ?_
   unfold K24_0
   repeat' (refine tree_eq (fun _ => ?_) (fun _ => ?_))
   all_goals (simp only [g24_0_1, g24_0_2, g24_0_3, g24_0_4, g24_0_5, g24_0_6, g24_0_7, Int.toNat_natCast, k24_0_0, k24_0_1, k24_0_2] at *; first | (simp only [*, allT, isV_self, Bool.not_false, Bool.not_true, Bool.and_true]; done) | simp_all)
  unfold V24_0 at hst
  rw [if_pos b1, wsucc i (by omega)] at hst
  simp only [Int.toNat_natCast] at hst
  unfold ltR
  cases e1 : ((c.line i).closed == 6) with
  | true => rw [e1] at hst; exact .next hst (ih (i + 1) _ _ _ _ (by omega))
  | false =>
   rw [e1] at hst
   cases e2 : ((c.line i).fate == 0) with
   | true => rw [e2] at hst; exact .next hst (ih (i + 1) _ _ _ _ (by omega))
   | false =>
    rw [e2] at hst
    cases e3 : ((c.line i).fate == 3) with
    | true => rw [e3] at hst; exact .next hst (ih (i + 1) _ _ _ _ (by omega))
    | false =>
     rw [e3] at hst
     cases e4 : ((c.line i).fate == 4) with
     | false => rw [e4] at hst; exact .next hst (ih (i + 1) _ _ _ _ (by omega))
     | true =>
      rw [e4] at hst
      cases e5 : ((c.line i).closed == 0) with
      | true => rw [e5] at hst; exact .next hst (ih (i + 1) _ _ _ _ (by omega))
      | false => rw [e5] at hst; exact .next hst (ih (i + 1) _ _ _ _ (by omega))
def ltot (c : Ct) : Ct := ltC c (ltR c.line c.n 0 0 0 0 0)
theorem ltotals_ok (c : Ct) (hn : c.n ≤ 281474976710656) : PureFn prog gl 26 [ctT c] (ctT (ltot c)) := by
 obtain ⟨n, h⟩ := run24_eq c hn c.n 0 0 0 0 0 (by omega)
 exact c24 c n (by unfold K24_s; simp [g24_s_1, allT]) (by unfold V24_s; exact h)
/-! ### small -/
def smallT (c : Ct) : Prop := c.n ≤ 30 ∧ ∀ j, j < c.n → (c.line j).k ≤ 10 ∧ (c.line j).st.n ≤ 20 ∧ (∀ k, k < (c.line j).k → ((c.line j).from_ k).n ≤ 20) ∧ (c.line j).node.length ≤ 100
theorem small_of {c : Ct} (h : smallT c) : small c :=
 ⟨by have := h.1; omega, fun i hi => ⟨by have := (h.2 i hi).1; omega, by have := (h.2 i hi).2.1; omega, fun k hk => by have := (h.2 i hi).2.2.1 k hk; omega⟩⟩
theorem small_ex (c : Ct) : ∃ b, (b = true → smallT c) ∧ PureFn prog gl 6 [ctT c] (.bool b) := by
 by_cases h0 : (c.n : Int) > 30
 ·refine ⟨false, fun h => by (cases h), c7n c 0 ?_ ?_⟩
  ·unfold K7n_s; rw [if_pos (decide_eq_true h0)]; simp [g7n_s_1, allT]; omega
  ·unfold V7n_s; rw [if_pos (decide_eq_true h0)]; rfl
 ·have hn : c.n ≤ 30 := by omega
  have e0 : decide ((c.n : Int) > 30) = false := decide_eq_false h0
  suffices hrun : ∀ (k i : Nat), k + i = c.n → (∀ j, j < i → (c.line j).k ≤ 10 ∧ (c.line j).st.n ≤ 20 ∧ (∀ k, k < (c.line j).k → ((c.line j).from_ k).n ≤ 20) ∧ (c.line j).node.length ≤ 100) → ∃ b, (b = true → smallT c) ∧ Runs (M7n c) (.l0 i) (.bool b) by
   obtain ⟨b, hb, n, h⟩ := hrun c.n 0 (by omega) (fun j hj => by omega)
   refine ⟨b, hb, c7n c n ?_ ?_⟩
   ·unfold K7n_s; rw [e0]; simp [g7n_s_2, allT]; omega
   ·unfold V7n_s; rw [e0]; exact h
  intro k
  induction k with
  | zero =>
   intro i hi hp
   have : i = c.n := by omega
   subst this
   refine ⟨true, fun _ => ⟨hn, hp⟩, .done ?_⟩
   show step7n_0 c c.n = _
   rw [T7n_0 c c.n (by unfold K7n_0; rw [if_neg (by simp)]; simp [g7n_0_1, g7n_0_2, g7n_0_3, g7n_0_4, g7n_0_5, allT, k7n_0_0, k7n_0_1, k7n_0_2])]
   unfold V7n_0
   rw [if_neg (by simp)]
  | succ k ih =>
   intro i hi hp
   have b1 : decide ((i : Int) < c.n) = true := decide_eq_true (by omega)
   have b2 : decide ((0 : Int) ≤ i) = true := decide_eq_true (by omega)
   have hst : (M7n c).step (.l0 i) = some (V7n_0 c i) := by
    show step7n_0 c i = _
    refine T7n_0 c i ?_
    unfold K7n_0
    repeat' (refine tree_eq (fun _ => ?_) (fun _ => ?_))
    all_goals (simp only [g7n_0_1, g7n_0_2, g7n_0_3, g7n_0_4, g7n_0_5, Int.toNat_natCast, k7n_0_0, k7n_0_1, k7n_0_2] at *; first | (simp only [*, allT, isV_self, Bool.not_false, Bool.not_true, Bool.and_true]; done) | simp_all)
   unfold V7n_0 at hst
   rw [if_pos b1] at hst
   simp only [Int.toNat_natCast] at hst
   cases e1 : decide (((c.line i).k : Int) > 10) with
   | true => rw [e1] at hst; exact ⟨false, fun h => by (cases h), .done hst⟩
   | false =>
    rw [e1] at hst
    cases e2 : decide (((c.line i).st.n : Int) > 20) with
    | true => rw [e2] at hst; exact ⟨false, fun h => by (cases h), .done hst⟩
    | false =>
     rw [e2] at hst
     cases e3 : decide (((c.line i).node.length : Int) > 100) with
     | true => simp only [e3] at hst; exact ⟨false, fun h => by (cases h), .done hst⟩
     | false =>
      simp only [e3] at hst
      simp only [decide_eq_false_iff_not] at e1 e2 e3
      have inner : ∀ (m q : Nat), m + q = (c.line i).k → (∀ j, j < q → ((c.line i).from_ j).n ≤ 20) → ∃ b, (b = true → smallT c) ∧ Runs (M7n c) (.l1 i q) (.bool b) := by
       intro m
       induction m with
       | zero =>
        intro q hq hp2
        have : q = (c.line i).k := by omega
        subst this
        obtain ⟨b, hb, hr⟩ := ih (i + 1) (by omega) (fun j hj => by
         by_cases hji : j = i
         ·subst hji; exact ⟨by omega, by omega, hp2, by omega⟩
         ·exact hp j (by omega))
        refine ⟨b, hb, .next ?_ hr⟩
        show step7n_1 c i (c.line i).k = _
        rw [T7n_1 c i (c.line i).k (by unfold K7n_1; simp only [Int.toNat_natCast]; rw [if_neg (by simp)]; simp [g7n_1_1, g7n_1_2, g7n_1_3, allT, k7n_1_0])]
        unfold V7n_1
        simp only [Int.toNat_natCast]
        rw [if_neg (by simp), wsucc i (by omega)]
       | succ m ih2 =>
        intro q hq hp2
        have d1 : decide ((q : Int) < (c.line i).k) = true := decide_eq_true (by omega)
        have d2 : decide ((0 : Int) ≤ q) = true := decide_eq_true (by omega)
        have hs2 : (M7n c).step (.l1 i q) = some (V7n_1 c i q) := by
         show step7n_1 c i q = _
         refine T7n_1 c i q ?_
         unfold K7n_1
         simp only [Int.toNat_natCast]
         repeat' (refine tree_eq (fun _ => ?_) (fun _ => ?_))
         all_goals (simp only [g7n_1_1, g7n_1_2, g7n_1_3, Int.toNat_natCast, k7n_1_0] at *; first | (simp only [*, allT, isV_self, Bool.not_false, Bool.not_true, Bool.and_true]; done) | simp_all)
        unfold V7n_1 at hs2
        simp only [Int.toNat_natCast] at hs2
        rw [if_pos d1, wsucc q (by omega)] at hs2
        cases e4 : decide ((((c.line i).from_ q).n : Int) > 20) with
        | true => simp only [e4] at hs2; exact ⟨false, fun h => by (cases h), .done hs2⟩
        | false =>
         simp only [e4] at hs2
         simp only [decide_eq_false_iff_not] at e4
         obtain ⟨b, hb, hr⟩ := ih2 (q + 1) (by omega) (fun j hj => by
          by_cases hjq : j = q
          ·subst hjq; omega
          ·exact hp2 j (by omega))
         exact ⟨b, hb, .next hs2 hr⟩
      obtain ⟨b, hb, hr⟩ := inner (c.line i).k 0 (by omega) (fun j hj => by omega)
      exact ⟨b, hb, .next hst hr⟩
end Go.Proofs.Tryz

/- The children of a line, as the law lists them; the contract. -/
namespace Go.Proofs.Tryz
open Go.Ps
def kidR (f : Nat → Ln) (s : Sp) (i : Nat) : Nat → Nat → List Int → List Int
 | 0, _, xs => xs
 | q + 1, k, xs => kidR f s i q (k + 1) (if eqS ((f i).from_ k) s then xs ++ [(i : Int)] else xs)
def kidO (f : Nat → Ln) (s : Sp) : Nat → Nat → List Int → List Int
 | 0, _, xs => xs
 | q + 1, i, xs => kidO f s q (i + 1) (kidR f s i (f i).k 0 xs)
def kids (m : Nat) (f : Nat → Ln) (s : Sp) : List Int := kidO f s m 0 []
def smallL (m : Nat) (f : Nat → Ln) : Prop := m ≤ 100 ∧ ∀ i, i < m → (f i).k ≤ 300 ∧ (f i).st.n ≤ 1001 ∧ ∀ k, k < (f i).k → ((f i).from_ k).n ≤ 1001
noncomputable def smallLB (m : Nat) (f : Nat → Ln) : Bool := @decide (smallL m f) (Classical.propDecidable _)
theorem smallLB_iff {m : Nat} {f : Nat → Ln} : smallLB m f = true ↔ smallL m f := by unfold smallLB; simp
noncomputable def s43 : List T → Option (T × List Bool)
 | [t, u] => some (.slf false (kids (slN t) (lsv t) (spv u)).length (fun j => .int .i64 ((kids (slN t) (lsv t) (spv u)).getD j 0)), [isV t (lsT (slN t) (lsv t)), isV u (spT (spv u)), smallLB (slN t) (lsv t)])
 | _ => none
noncomputable def D15 : Ed := ⟨gl, pdAdd 46 s43 D14.pd⟩
end Go.Proofs.Tryz

/- children of the law: proved. -/
namespace Go.Proofs.Tryz
open Go.Ps
set_option maxRecDepth 100000
def ints (xs : List Int) : List T := xs.map (T.int .i64)
def At0 (xs : List Int) (i : Nat) (σ : S43) : Prop := (xs = [] ∧ σ = .l0n i) ∨ (xs ≠ [] ∧ ∃ L H, σ = .l0o L xs.length i H ∧ H.get L = some ⟨3, 1, ints xs⟩)
def At1 (xs : List Int) (i k : Nat) (σ : S43) : Prop := (xs = [] ∧ σ = .l1n i k) ∨ (xs ≠ [] ∧ ∃ L H, σ = .l1o L xs.length i k H ∧ H.get L = some ⟨3, 1, ints xs⟩)
def kidT (xs : List Int) : T := if xs = [] then .nils else .sl false (ints xs)
section
variable (m : Nat) (f : Nat → Ln) (s : Sp) (hs : smallL m f)
include hs
theorem st43_1 (i : Nat) (hi : i < m) (k : Nat) (hk : k < (f i).k) (xs : List Int) (hx : xs.length ≤ 40000) (σ : S43) (h : At1 xs i k σ) :
  ∃ σ', (M43 m f s).step σ = some (.inl σ') ∧ At1 (if eqS ((f i).from_ k) s then xs ++ [(i : Int)] else xs) i (k + 1) σ' := by
 have h1 := hs.1
 obtain ⟨h2, h3, h4⟩ := hs.2 i hi
 have h5 := h4 k hk
 have b1 : decide (((f i).from_ k).n ≤ 281474976710656) = true := decide_eq_true (by omega)
 have b2 : decide ((k : Int) < (f i).k) = true := decide_eq_true (by omega)
 have b3 : decide ((0 : Int) ≤ k) = true := decide_eq_true (by omega)
 have b4 : decide ((i : Int) < m) = true := decide_eq_true (by omega)
 have b5 : decide ((0 : Int) ≤ i) = true := decide_eq_true (by omega)
 have b6 := wsucc k (by omega)
 rcases h with ⟨rfl, rfl⟩ | ⟨hne, L, H, rfl, hH⟩
 ·have hst : (M43 m f s).step (.l1n i k) = some (V43_1n m f s i k) := by
   show step43_1n m f s i k = _
   refine T43_1n m f s i k ?_
   unfold K43_1n
   simp only [Int.toNat_natCast]
   rw [if_pos b2]
   refine tree_eq (fun e => ?_) (fun e => ?_)
   all_goals (simp only [g43_1n_1, g43_1n_2, Int.toNat_natCast, k43_1n_1, k43_1n_0] at *; simp only [e, allT, isV_self, b1, b2, b3, b4, b5, Bool.not_false, Bool.and_true])
  unfold V43_1n at hst
  simp only [Int.toNat_natCast] at hst
  rw [if_pos b2, b6] at hst
  cases e : eqS ((f i).from_ k) s with
  | true => simp only [e, reduceIte, Bool.false_eq_true] at hst; exact ⟨_, hst, .inr ⟨by simp, 0, _, rfl, rfl⟩⟩
  | false => simp only [e, reduceIte, Bool.false_eq_true] at hst; exact ⟨_, hst, .inl ⟨rfl, rfl⟩⟩
 ·have hst : (M43 m f s).step (.l1o L xs.length i k H) = some (V43_1o m f s L xs.length i k H) := by
   show step43_1o m f s L xs.length i k H = _
   refine T43_1o m f s L xs.length i k H ?_
   have b7 : obApp H L 3 1 xs.length = true := by
    unfold obApp
    rw [hH]
    simp [ints]
   have b8 : roomT (xs.length + 1) 8 = true := by
    unfold roomT
    rw [decide_eq_true (by omega), decide_eq_true (by omega)]
    rfl
   unfold K43_1o
   simp only [Int.toNat_natCast]
   rw [if_pos b2]
   refine tree_eq (fun e => ?_) (fun e => ?_)
   all_goals (simp only [g43_1o_1, g43_1o_2, Int.toNat_natCast, k43_1o_1, k43_1o_0] at *; simp only [e, allT, isV_self, b1, b2, b3, b4, b5, b7, b8, Bool.not_false, Bool.and_true])
  unfold V43_1o at hst
  simp only [Int.toNat_natCast] at hst
  rw [if_pos b2, b6] at hst
  cases e : eqS ((f i).from_ k) s with
  | true =>
   simp only [e, reduceIte] at hst
   refine ⟨_, hst, .inr ⟨by simp, H.next, _, by simp; rfl, ?_⟩⟩
   have : (obv H L).cells = ints xs := by unfold obv; rw [hH]
   simp [Hp.get, findOb, this, ints]
  | false => simp only [e, reduceIte, Bool.false_eq_true] at hst; exact ⟨_, hst, .inr ⟨by simpa using hne, L, H, rfl, hH⟩⟩
theorem st43_1e (i : Nat) (hi : i < m) (xs : List Int) (σ : S43) (h : At1 xs i (f i).k σ) : ∃ σ', (M43 m f s).step σ = some (.inl σ') ∧ At0 xs (i + 1) σ' := by
 have h1 := hs.1
 have b4 : decide ((i : Int) < m) = true := decide_eq_true (by omega)
 have b5 : decide ((0 : Int) ≤ i) = true := decide_eq_true (by omega)
 have b6 := wsucc i (by omega)
 rcases h with ⟨rfl, rfl⟩ | ⟨hne, L, H, rfl, hH⟩
 ·refine ⟨.l0n (i + 1 : Nat), ?_, .inl ⟨rfl, rfl⟩⟩
  show step43_1n m f s i (f i).k = _
  rw [T43_1n m f s i (f i).k (by unfold K43_1n; simp only [Int.toNat_natCast]; rw [if_neg (by simp)]; simp [g43_1n_3, allT, k43_1n_0]; omega)]
  unfold V43_1n
  simp only [Int.toNat_natCast]
  rw [if_neg (by simp), b6]
 ·refine ⟨.l0o L xs.length (i + 1 : Nat) H, ?_, .inr ⟨hne, L, H, rfl, hH⟩⟩
  show step43_1o m f s L xs.length i (f i).k H = _
  rw [T43_1o m f s L xs.length i (f i).k H (by unfold K43_1o; simp only [Int.toNat_natCast]; rw [if_neg (by simp)]; simp [g43_1o_3, allT, k43_1o_0]; omega)]
  unfold V43_1o
  simp only [Int.toNat_natCast]
  rw [if_neg (by simp), b6]
theorem st43_0 (i : Nat) (hi : i < m) (xs : List Int) (σ : S43) (h : At0 xs i σ) : ∃ σ', (M43 m f s).step σ = some (.inl σ') ∧ At1 xs i 0 σ' := by
 have b4 : decide ((i : Int) < m) = true := decide_eq_true (by omega)
 rcases h with ⟨rfl, rfl⟩ | ⟨hne, L, H, rfl, hH⟩
 ·refine ⟨.l1n i (0 : Nat), ?_, .inl ⟨rfl, rfl⟩⟩
  show step43_0n m f s i = _
  rw [T43_0n m f s i (by unfold K43_0n; rw [if_pos b4]; simp only [g43_0n_1, allT, b4, Bool.and_true])]
  unfold V43_0n
  rw [if_pos b4]; rfl
 ·refine ⟨.l1o L xs.length i (0 : Nat) H, ?_, .inr ⟨hne, L, H, rfl, hH⟩⟩
  show step43_0o m f s L xs.length i H = _
  rw [T43_0o m f s L xs.length i H (by unfold K43_0o; rw [if_pos b4]; simp only [g43_0o_1, allT, b4, Bool.and_true])]
  unfold V43_0o
  rw [if_pos b4]; rfl
theorem st43_0e (xs : List Int) (σ : S43) (h : At0 xs m σ) : (M43 m f s).step σ = some (.inr (kidT xs)) := by
 rcases h with ⟨rfl, rfl⟩ | ⟨hne, L, H, rfl, hH⟩
 ·show step43_0n m f s m = _
  rw [T43_0n m f s m (by unfold K43_0n; rw [if_neg (by simp)]; simp [g43_0n_2, allT])]
  unfold V43_0n
  rw [if_neg (by simp)]; rfl
 ·have hz : frzT 20 H (.osl L 1 0 xs.length) = some (.sl false (ints xs)) := frz_row (d := 18) hH rfl (by simp [ints]) (by simp [ints, scal1])
  show step43_0o m f s L xs.length m H = _
  rw [T43_0o m f s L xs.length m H (by unfold K43_0o; rw [if_neg (by simp), hz]; simp [g43_0o_2, allT])]
  unfold V43_0o
  rw [if_neg (by simp), hz]
  unfold kidT
  rw [if_neg hne]
  rfl
theorem run43_eq (r : T) : ∀ (q i : Nat) (xs : List Int) (σ : S43), q + i = m → xs.length ≤ 300 * i → At0 xs i σ → r = kidT (kidO f s q i xs) → Runs (M43 m f s) σ r := by
 intro q
 induction q with
 | zero =>
  intro i xs σ h1 _ h2 h3
  have : i = m := by omega
  subst this
  subst h3
  exact .done (st43_0e _ f s hs xs σ h2)
 | succ q ih =>
  intro i xs σ h1 hx h2 h3
  have hm := hs.1
  have h10 := (hs.2 i (by omega)).1
  have inner : ∀ (p k : Nat) (xs : List Int) (σ : S43), p + k = (f i).k → xs.length ≤ 300 * i + k → At1 xs i k σ → r = kidT (kidO f s q (i + 1) (kidR f s i p k xs)) → Runs (M43 m f s) σ r := by
   intro p
   induction p with
   | zero =>
    intro k xs σ h1' hx' h2' h3'
    have : k = (f i).k := by omega
    subst this
    obtain ⟨σ', a, b⟩ := st43_1e m f s hs i (by omega) xs σ h2'
    exact .next a (ih (i + 1) xs σ' (by omega) (by omega) b h3')
   | succ p ihp =>
    intro k xs σ h1' hx' h2' h3'
    obtain ⟨σ', a, b⟩ := st43_1 m f s hs i (by omega) k (by omega) xs (by omega) σ h2'
    refine .next a (ihp (k + 1) _ σ' (by omega) ?_ b h3')
    split
    ·simp; omega
    ·omega
  obtain ⟨σ', a, b⟩ := st43_0 m f s hs i (by omega) xs σ h2
  exact .next a (inner (f i).k 0 xs σ' (by omega) (by omega) b h3)
theorem kids_ok : PureFn prog gl 46 [lsT m f, spT s] (.slf false (kids m f s).length (fun j => .int .i64 ((kids m f s).getD j 0))) := by
 obtain ⟨n, hn⟩ := run43_eq m f s hs (kidT (kids m f s)) m 0 [] (.l0n (0 : Nat)) (by omega) (by simp) (.inl ⟨rfl, rfl⟩) rfl
 refine PureFn.mono (c43 m f s n (by unfold K43_s; simp [g43_s_1, allT]) (by unfold V43_s; exact hn)) fun g v hv => ?_
 unfold kidT at hv
 by_cases h : kids m f s = []
 ·rw [if_pos h] at hv
  rw [h]
  exact rd_nslf _ _ hv
 ·rw [if_neg h] at hv
  refine rd_slf hv ?_ (by simp [ints]) (fun j hj => ?_)
  ·intro x hx
   obtain ⟨z, _, rfl⟩ := List.mem_map.1 hx
   rfl
  ·unfold ints
   rw [List.getElem?_map, List.getElem?_eq_getElem hj, List.getD_eq_getElem?_getD, List.getElem?_eq_getElem hj]
   rfl
end
theorem s43_ok (ts : List T) (r : T) (cs : List Bool) (h : s43 ts = some (r, cs)) (k : allT cs = true) : PureFn prog gl 46 ts r := by
 unfold s43 at h; split at h
 ·rename_i t u
  cases h
  simp only [allT, Bool.and_true, Bool.and_eq_true, isV_iff, smallLB_iff] at k
  rw [k.1, k.2.1]
  exact kids_ok _ _ _ k.2.2
 ·cases h
theorem cx15 : Cx prog D15 F0 := ⟨follows, pdAdd_ok cx14.hE s43_ok, F0ok⟩
end Go.Proofs.Tryz

/- fourth of the law as a machine, by program (gen2). -/
namespace Go.Proofs.Tryz
noncomputable section
open Go.Ps
set_option maxRecDepth 100000
/-! ### 22 -/
inductive S22 where
 | l0 (x7 : Int)
 | l1 (x9 : Int)
def k22_s_0 (c : Ct) (i : Int) : List Bool := [isV (T.slf false c.n fun i => lnT (c.line i)) (lsT c.n c.line), isV (spT (c.line i.toNat).st) (spT (c.line i.toNat).st), smallLB c.n c.line, true, true, decide (0 ≤ i), decide (i < (↑c.n : Int)), true]
def k22_s_1 (c : Ct) (i : Int) : List Bool := ((c.line i.toNat).fate == 2) :: (!(c.line i.toNat).fate == 1) :: k22_s_0 c i
def k22_s_2 (c : Ct) (i : Int) : List Bool := (!(c.line i.toNat).fate == 2) :: (!(c.line i.toNat).fate == 1) :: k22_s_0 c i
def k22_s_3 (c : Ct) (i : Int) : List Bool := let y0 := (↑(kids c.n c.line (c.line i.toNat).st).length : Int) != 1; (!y0) :: (!y0) :: (!y0) :: (!y0) :: (!y0) :: (decide (0 ≤ (kids c.n c.line (c.line i.toNat).st).getD 0 0)) :: (decide ((kids c.n c.line (c.line i.toNat).st).getD 0 0 < (↑c.n : Int))) :: true :: (!y0) :: (!y0) :: true :: (decide (0 < (↑(kids c.n c.line (c.line i.toNat).st).length : Int))) :: true :: (!y0) :: (!y0) :: (!y0) :: (!y0) :: ((c.line i.toNat).closed == 5) :: k22_s_2 c i
def k22_s_4 (c : Ct) (i : Int) : List Bool := let y0 := (↑(c.line ((kids c.n c.line (c.line i.toNat).st).getD 0 0).toNat).k : Int) != 1; (!y0) :: (!y0) :: (isV (spT (c.line ((kids c.n c.line (c.line i.toNat).st).getD 0 0).toNat).st) (spT (c.line ((kids c.n c.line (c.line i.toNat).st).getD 0 0).toNat).st)) :: (!y0) :: (!y0) :: (!y0) :: (decide (0 ≤ (kids c.n c.line (c.line i.toNat).st).getD 0 0)) :: (decide ((kids c.n c.line (c.line i.toNat).st).getD 0 0 < (↑c.n : Int))) :: true :: (!y0) :: (!y0) :: true :: (decide (0 < (↑(kids c.n c.line (c.line i.toNat).st).length : Int))) :: true :: (!y0) :: (!y0) :: (!y0) :: (!y0) :: k22_s_3 c i
def k22_s_5 (c : Ct) (i : Int) : List Bool := (decide (0 ≤ (kids c.n c.line (c.line i.toNat).st).getD 0 0)) :: (decide ((kids c.n c.line (c.line i.toNat).st).getD 0 0 < (↑c.n : Int))) :: true :: true :: (decide (0 < (↑(kids c.n c.line (c.line i.toNat).st).length : Int))) :: true :: (!!arr (c.line ((kids c.n c.line (c.line i.toNat).st).getD 0 0).toNat).st) :: k22_s_4 c i
def g22_s_1 (c : Ct) (i : Int) : List Bool := ((↑(kids c.n c.line (c.line i.toNat).st).length : Int) == 0) :: ((c.line i.toNat).fate == 1) :: k22_s_0 c i
def g22_s_2 (c : Ct) (i : Int) : List Bool := (!(↑(kids c.n c.line (c.line i.toNat).st).length : Int) == 0) :: ((c.line i.toNat).fate == 1) :: k22_s_0 c i
def g22_s_3 (c : Ct) (i : Int) : List Bool := ((↑(kids c.n c.line (c.line i.toNat).st).length : Int) != 1) :: k22_s_1 c i
def g22_s_4 (c : Ct) (i : Int) : List Bool := (!(↑(kids c.n c.line (c.line i.toNat).st).length : Int) != 1) :: k22_s_1 c i
def g22_s_5 (c : Ct) (i : Int) : List Bool := let y0 := (↑(kids c.n c.line (c.line i.toNat).st).length : Int) != 1; true :: true :: true :: true :: true :: true :: true :: true :: true :: true :: true :: true :: y0 :: y0 :: y0 :: y0 :: y0 :: y0 :: y0 :: y0 :: y0 :: y0 :: y0 :: ((c.line i.toNat).closed == 5) :: k22_s_2 c i
def g22_s_6 (c : Ct) (i : Int) : List Bool := let y0 := (↑(c.line ((kids c.n c.line (c.line i.toNat).st).getD 0 0).toNat).k : Int) != 1; true :: y0 :: y0 :: y0 :: y0 :: y0 :: y0 :: y0 :: y0 :: y0 :: y0 :: y0 :: k22_s_3 c i
def g22_s_7 (c : Ct) (i : Int) : List Bool := (!arr (c.line ((kids c.n c.line (c.line i.toNat).st).getD 0 0).toNat).st) :: k22_s_4 c i
def g22_s_8 (c : Ct) (i : Int) : List Bool := ((c.line ((kids c.n c.line (c.line i.toNat).st).getD 0 0).toNat).mass != (c.line i.toNat).mass) :: k22_s_5 c i
def g22_s_9 (c : Ct) (i : Int) : List Bool := (!(c.line ((kids c.n c.line (c.line i.toNat).st).getD 0 0).toNat).mass != (c.line i.toNat).mass) :: k22_s_5 c i
def g22_s_10 (c : Ct) (i : Int) : List Bool := (decide ((↑(kids c.n c.line (c.line i.toNat).st).length : Int) > 0)) :: (!(c.line i.toNat).closed == 5) :: k22_s_2 c i
def g22_s_11 (c : Ct) (i : Int) : List Bool := (!decide ((↑(kids c.n c.line (c.line i.toNat).st).length : Int) > 0)) :: (!(c.line i.toNat).closed == 5) :: k22_s_2 c i
def k22_0_0 (c : Ct) (i x7 : Int) : List Bool := let y0 := decide (x7 < (↑(kids c.n c.line (c.line i.toNat).st).length : Int)); [decide (0 ≤ (kids c.n c.line (c.line i.toNat).st).getD x7.toNat 0), decide ((kids c.n c.line (c.line i.toNat).st).getD x7.toNat 0 < (↑c.n : Int)), true, decide (0 ≤ x7), y0, true, y0]
def g22_0_1 (c : Ct) (i x7 : Int) : List Bool := ((↑(c.line ((kids c.n c.line (c.line i.toNat).st).getD x7.toNat 0).toNat).k : Int) != 1) :: k22_0_0 c i x7
def g22_0_2 (c : Ct) (i x7 : Int) : List Bool := (!(↑(c.line ((kids c.n c.line (c.line i.toNat).st).getD x7.toNat 0).toNat).k : Int) != 1) :: k22_0_0 c i x7
def g22_0_3 (c : Ct) (i x7 : Int) : List Bool := [!decide (x7 < (↑(kids c.n c.line (c.line i.toNat).st).length : Int))]
def k22_1_0 (c : Ct) (i x9 : Int) : List Bool := let y0 := decide (0 ≤ x9); let y1 := decide (x9 < (↑(kids c.n c.line (c.line i.toNat).st).length : Int)); [y0, decide (x9 < (↑(shN (c.line i.toNat).mass (↑(kids c.n c.line (c.line i.toNat).st).length : Int)) : Int)), true, decide (0 ≤ (kids c.n c.line (c.line i.toNat).st).getD x9.toNat 0), decide ((kids c.n c.line (c.line i.toNat).st).getD x9.toNat 0 < (↑c.n : Int)), true, y0, y1, true, y1]
def g22_1_1 (c : Ct) (i x9 : Int) : List Bool := ((c.line ((kids c.n c.line (c.line i.toNat).st).getD x9.toNat 0).toNat).mass != shI (c.line i.toNat).mass (↑(kids c.n c.line (c.line i.toNat).st).length : Int) x9.toNat) :: k22_1_0 c i x9
def g22_1_2 (c : Ct) (i x9 : Int) : List Bool := (!(c.line ((kids c.n c.line (c.line i.toNat).st).getD x9.toNat 0).toNat).mass != shI (c.line i.toNat).mass (↑(kids c.n c.line (c.line i.toNat).st).length : Int) x9.toNat) :: k22_1_0 c i x9
def g22_1_3 (c : Ct) (i x9 : Int) : List Bool := [!decide (x9 < (↑(kids c.n c.line (c.line i.toNat).st).length : Int))]
def V22_0 (c : Ct) (i x7 : Int) : S22 ⊕ T :=
 (if decide (x7 < (↑(kids c.n c.line (c.line i.toNat).st).length : Int)) then (if (↑(c.line ((kids c.n c.line (c.line i.toNat).st).getD x7.toNat 0).toNat).k : Int) != 1 then (.inr (T.int .i64 10)) else (.inl (.l0 (IntKind.i64.wrap (x7 + 1))))) else (.inl (.l1 0)))
def K22_0 (c : Ct) (i x7 : Int) : Bool :=
 (if decide (x7 < (↑(kids c.n c.line (c.line i.toNat).st).length : Int)) then (if (↑(c.line ((kids c.n c.line (c.line i.toNat).st).getD x7.toNat 0).toNat).k : Int) != 1 then (allT (g22_0_1 c i x7)) else (allT (g22_0_2 c i x7))) else (allT (g22_0_3 c i x7)))
def step22_0 (c : Ct) (i x7 : Int) : Option (S22 ⊕ T) := if K22_0 c i x7 then some (V22_0 c i x7) else none
theorem T22_0 (c : Ct) (i x7 : Int) (hk : K22_0 c i x7 = true) : step22_0 c i x7 = some (V22_0 c i x7) := if_pos hk
def V22_1 (c : Ct) (i x9 : Int) : S22 ⊕ T :=
 (if decide (x9 < (↑(kids c.n c.line (c.line i.toNat).st).length : Int)) then (if (c.line ((kids c.n c.line (c.line i.toNat).st).getD x9.toNat 0).toNat).mass != shI (c.line i.toNat).mass (↑(kids c.n c.line (c.line i.toNat).st).length : Int) x9.toNat then (.inr (T.int .i64 38)) else (.inl (.l1 (IntKind.i64.wrap (x9 + 1))))) else (.inr (T.int .i64 0)))
def K22_1 (c : Ct) (i x9 : Int) : Bool :=
 (if decide (x9 < (↑(kids c.n c.line (c.line i.toNat).st).length : Int)) then (if (c.line ((kids c.n c.line (c.line i.toNat).st).getD x9.toNat 0).toNat).mass != shI (c.line i.toNat).mass (↑(kids c.n c.line (c.line i.toNat).st).length : Int) x9.toNat then (allT (g22_1_1 c i x9)) else (allT (g22_1_2 c i x9))) else (allT (g22_1_3 c i x9)))
def step22_1 (c : Ct) (i x9 : Int) : Option (S22 ⊕ T) := if K22_1 c i x9 then some (V22_1 c i x9) else none
theorem T22_1 (c : Ct) (i x9 : Int) (hk : K22_1 c i x9 = true) : step22_1 c i x9 = some (V22_1 c i x9) := if_pos hk
def V22_s (c : Ct) (i : Int) : S22 ⊕ T :=
 (if (c.line i.toNat).fate == 1 then (if (↑(kids c.n c.line (c.line i.toNat).st).length : Int) == 0 then (.inr (T.int .i64 10)) else (.inl (.l0 0))) else (if (c.line i.toNat).fate == 2 then (if (↑(kids c.n c.line (c.line i.toNat).st).length : Int) != 1 then (.inr (T.int .i64 10)) else (.inr (T.int .i64 0))) else (if (c.line i.toNat).closed == 5 then (if (↑(kids c.n c.line (c.line i.toNat).st).length : Int) != 1 then (.inr (T.int .i64 10)) else (if (↑(c.line ((kids c.n c.line (c.line i.toNat).st).getD 0 0).toNat).k : Int) != 1 then (.inr (T.int .i64 10)) else (if !arr (c.line ((kids c.n c.line (c.line i.toNat).st).getD 0 0).toNat).st then (.inr (T.int .i64 10)) else (if (c.line ((kids c.n c.line (c.line i.toNat).st).getD 0 0).toNat).mass != (c.line i.toNat).mass then (.inr (T.int .i64 38)) else (.inr (T.int .i64 0)))))) else (if decide ((↑(kids c.n c.line (c.line i.toNat).st).length : Int) > 0) then (.inr (T.int .i64 10)) else (.inr (T.int .i64 0))))))
def K22_s (c : Ct) (i : Int) : Bool :=
 (if (c.line i.toNat).fate == 1 then (if (↑(kids c.n c.line (c.line i.toNat).st).length : Int) == 0 then (allT (g22_s_1 c i)) else (allT (g22_s_2 c i))) else (if (c.line i.toNat).fate == 2 then (if (↑(kids c.n c.line (c.line i.toNat).st).length : Int) != 1 then (allT (g22_s_3 c i)) else (allT (g22_s_4 c i))) else (if (c.line i.toNat).closed == 5 then (if (↑(kids c.n c.line (c.line i.toNat).st).length : Int) != 1 then (allT (g22_s_5 c i)) else (if (↑(c.line ((kids c.n c.line (c.line i.toNat).st).getD 0 0).toNat).k : Int) != 1 then (allT (g22_s_6 c i)) else (if !arr (c.line ((kids c.n c.line (c.line i.toNat).st).getD 0 0).toNat).st then (allT (g22_s_7 c i)) else (if (c.line ((kids c.n c.line (c.line i.toNat).st).getD 0 0).toNat).mass != (c.line i.toNat).mass then (allT (g22_s_8 c i)) else (allT (g22_s_9 c i)))))) else (if decide ((↑(kids c.n c.line (c.line i.toNat).st).length : Int) > 0) then (allT (g22_s_10 c i)) else (allT (g22_s_11 c i))))))
def step22 (c : Ct) (i : Int) : S22 → Option (S22 ⊕ T)
 | .l0 x7 => step22_0 c i x7
 | .l1 x9 => step22_1 c i x9
def M22 (c : Ct) (i : Int) : Mch S22 where
 lp := fun σ => match σ with
  | .l0 .. => 0
  | .l1 .. => 1
 keep := fun ι => match ι with
  | 0 => [2, 5, 6, 7]
  | 1 => [2, 6, 8, 9]
  | _ => []
 par := fun ι => match ι with
  | 0 => []
  | 1 => []
  | _ => []
 vs := fun σ => match σ with
  | .l0 x7 => [(ctT c).ref 0, (lnT (c.line i.toNat)).ref 0, T.slf false (kids c.n c.line (c.line i.toNat).st).length fun j => T.int .i64 ((kids c.n c.line (c.line i.toNat).st).getD j 0), T.int .i64 x7]
  | .l1 x9 => [(ctT c).ref 0, T.slf false (kids c.n c.line (c.line i.toNat).st).length fun j => T.int .i64 ((kids c.n c.line (c.line i.toNat).st).getD j 0), T.slf false (shN (c.line i.toNat).mass (↑(kids c.n c.line (c.line i.toNat).st).length : Int)) fun i_1 => T.int .i64 (shI (c.line i.toNat).mass (↑(kids c.n c.line (c.line i.toNat).st).length : Int) i_1), T.int .i64 x9]
 hp := fun _ => ⟨0, []⟩
 len := 122
 step := step22 c i
def r22_0 (c : Ct) (i x7 : Int) (fr : List T) (ds : List Bool) : RD Out := (M22 c i).rk prog D15 F0 f24 (.l0 x7) fr ds
theorem w22_0_1 (c : Ct) (i x7 : Int) (fr : List T) : outK prog f24 20 [] (r22_0 c i x7 fr [true, true]) = wdn (T.int .i64 10) (g22_0_1 c i x7) := by kernel_rfl
theorem w22_0_2 (c : Ct) (i x7 : Int) (fr : List T) : (M22 c i).wa prog f24 (r22_0 c i x7 fr [true, false]) 0 (g22_0_2 c i x7) (.l0 (IntKind.i64.wrap (x7 + 1))) := by unfold Mch.wa; kernel_rfl
theorem w22_0_3 (c : Ct) (i x7 : Int) (fr : List T) : (M22 c i).wl prog f24 (r22_0 c i x7 fr [false]) 1 (g22_0_3 c i x7) (.l1 0) := by unfold Mch.wl; kernel_rfl
def r22_1 (c : Ct) (i x9 : Int) (fr : List T) (ds : List Bool) : RD Out := (M22 c i).rk prog D15 F0 f24 (.l1 x9) fr ds
theorem w22_1_1 (c : Ct) (i x9 : Int) (fr : List T) : outK prog f24 20 [] (r22_1 c i x9 fr [true, true]) = wdn (T.int .i64 38) (g22_1_1 c i x9) := by kernel_rfl
theorem w22_1_2 (c : Ct) (i x9 : Int) (fr : List T) : (M22 c i).wa prog f24 (r22_1 c i x9 fr [true, false]) 0 (g22_1_2 c i x9) (.l1 (IntKind.i64.wrap (x9 + 1))) := by unfold Mch.wa; kernel_rfl
theorem w22_1_3 (c : Ct) (i x9 : Int) (fr : List T) : outK prog f24 20 [] (r22_1 c i x9 fr [false]) = wdn (T.int .i64 0) (g22_1_3 c i x9) := by kernel_rfl
def r22_s (c : Ct) (i : Int) (ds : List Bool) : RD Out := runK prog D15 F0 2000 (.code (bodyOf f24)) [] 0 ([ctT c, .int .i64 i] ++ List.replicate 120 undefT) ⟨0, []⟩ ds []
theorem w22_s_1 (c : Ct) (i : Int) : outK prog f24 20 [] (r22_s c i [true, true]) = wdn (T.int .i64 10) (g22_s_1 c i) := by kernel_rfl
theorem w22_s_2 (c : Ct) (i : Int) : (M22 c i).wl prog f24 (r22_s c i [true, false]) 0 (g22_s_2 c i) (.l0 0) := by unfold Mch.wl; kernel_rfl
theorem w22_s_3 (c : Ct) (i : Int) : outK prog f24 20 [] (r22_s c i [false, true, true]) = wdn (T.int .i64 10) (g22_s_3 c i) := by kernel_rfl
theorem w22_s_4 (c : Ct) (i : Int) : outK prog f24 20 [] (r22_s c i [false, true, false]) = wdn (T.int .i64 0) (g22_s_4 c i) := by kernel_rfl
theorem w22_s_5 (c : Ct) (i : Int) : outK prog f24 20 [] (r22_s c i (bt 26 67108860)) = wdn (T.int .i64 10) (g22_s_5 c i) := by kernel_rfl
theorem w22_s_6 (c : Ct) (i : Int) : outK prog f24 20 [] (r22_s c i (bt 26 67092484)) = wdn (T.int .i64 10) (g22_s_6 c i) := by kernel_rfl
theorem w22_s_7 (c : Ct) (i : Int) : outK prog f24 20 [] (r22_s c i (bt 26 33554436)) = wdn (T.int .i64 10) (g22_s_7 c i) := by kernel_rfl
theorem w22_s_8 (c : Ct) (i : Int) : outK prog f24 20 [] (r22_s c i (bt 27 67108868)) = wdn (T.int .i64 38) (g22_s_8 c i) := by kernel_rfl
theorem w22_s_9 (c : Ct) (i : Int) : outK prog f24 20 [] (r22_s c i (bt 27 4)) = wdn (T.int .i64 0) (g22_s_9 c i) := by kernel_rfl
theorem w22_s_10 (c : Ct) (i : Int) : outK prog f24 20 [] (r22_s c i (bt 4 8)) = wdn (T.int .i64 10) (g22_s_10 c i) := by kernel_rfl
theorem w22_s_11 (c : Ct) (i : Int) : outK prog f24 20 [] (r22_s c i (bt 4 0)) = wdn (T.int .i64 0) (g22_s_11 c i) := by kernel_rfl
theorem ways22 (c : Ct) (i : Int) : (M22 c i).Ways prog D15 F0 f24 20 := by
 intro σ o fr h
 cases σ with
 | l0 x7 =>
  obtain ⟨hk, ho⟩ := kv_some (K := K22_0 c i x7) (V := V22_0 c i x7) h
  exact (wk_if (wk_if (kD (w22_0_1 c i x7 fr)) (kA (w22_0_2 c i x7 fr) rfl)) (kL (w22_0_3 c i x7 fr) rfl)) hk o ho
 | l1 x9 =>
  obtain ⟨hk, ho⟩ := kv_some (K := K22_1 c i x9) (V := V22_1 c i x9) h
  exact (wk_if (wk_if (kD (w22_1_1 c i x9 fr)) (kA (w22_1_2 c i x9 fr) rfl)) (kD (w22_1_3 c i x9 fr))) hk o ho
theorem oks22 (c : Ct) (i : Int) : ∀ σ, Ps.codeOk (loopAt f24 ((M22 c i).lp σ)).1 = true ∧ ksOk (.lp :: (loopAt f24 ((M22 c i).lp σ)).2) = true := oks_of 2 (by kernel_rfl) (by intro σ; cases σ <;> exact Nat.le_of_ble_eq_true rfl)
theorem c22 (c : Ct) (i : Int) (n : Nat) {r : T} (hk : K22_s c i = true) (hr : (M22 c i).fin n (V22_s c i) = some r) : PureFn prog gl 24 [ctT c, .int .i64 i] r :=
 pure_mach (M := (M22 c i)) (fn := f24) (k := 20) (d := 8) (c := bodyOf f24) cx15 glFrz (by kernel_rfl) func24 (by kernel_rfl) rfl (by kernel_rfl) (by kernel_rfl) (L := 120) (by kernel_rfl) (ways22 c i) (oks22 c i) ((wk_if (wk_if (kD (w22_s_1 c i)) (kL (w22_s_2 c i) rfl)) (wk_if (wk_if (kD (w22_s_3 c i)) (kD (w22_s_4 c i))) (wk_if (wk_if (kD (w22_s_5 c i)) (wk_if (kD (w22_s_6 c i)) (wk_if (kD (w22_s_7 c i)) (wk_if (kD (w22_s_8 c i)) (kD (w22_s_9 c i)))))) (wk_if (kD (w22_s_10 c i)) (kD (w22_s_11 c i)))))) hk _ rfl) hr
end
end Go.Proofs.Tryz

/- The fourth rule of the law: proved. -/
namespace Go.Proofs.Tryz
open Go.Ps
set_option maxRecDepth 100000
theorem kidR_mem (f : Nat → Ln) (s : Sp) (i : Nat) (B : Int) (hB : (i : Int) < B) : ∀ (q k : Nat) (xs : List Int), (∀ z ∈ xs, 0 ≤ z ∧ z < B) → ∀ z ∈ kidR f s i q k xs, 0 ≤ z ∧ z < B
 | 0, _, xs, h => h
 | q + 1, k, xs, h => by
  unfold kidR
  refine kidR_mem f s i B hB q (k + 1) _ ?_
  intro z hz
  split at hz
  ·rcases List.mem_append.1 hz with hz | hz
   ·exact h z hz
   ·simp at hz; omega
  ·exact h z hz
theorem kidO_mem (f : Nat → Ln) (s : Sp) (B : Int) : ∀ (q i : Nat) (xs : List Int), ((q + i : Nat) : Int) ≤ B → (∀ z ∈ xs, 0 ≤ z ∧ z < B) → ∀ z ∈ kidO f s q i xs, 0 ≤ z ∧ z < B
 | 0, _, xs, _, h => h
 | q + 1, i, xs, hb, h => by
  unfold kidO
  exact kidO_mem f s B q (i + 1) _ (by omega) (kidR_mem f s i B (by omega) _ _ _ h)
theorem kids_mem (m : Nat) (f : Nat → Ln) (s : Sp) (z : Int) (h : z ∈ kids m f s) : 0 ≤ z ∧ z < m :=
 kidO_mem f s m m 0 [] (by omega) (by simp) z h
theorem kids_getD (m : Nat) (f : Nat → Ln) (s : Sp) (j : Nat) (h : j < (kids m f s).length) : 0 ≤ (kids m f s).getD j 0 ∧ (kids m f s).getD j 0 < m := by
 rw [List.getD_eq_getElem?_getD, List.getElem?_eq_getElem h]
 exact kids_mem m f s _ (List.getElem_mem h)
theorem kidR_len (f : Nat → Ln) (s : Sp) (i : Nat) : ∀ (q k : Nat) (xs : List Int), (kidR f s i q k xs).length ≤ xs.length + q
 | 0, _, xs => by simp [kidR]
 | q + 1, k, xs => by
  unfold kidR
  have := kidR_len f s i q (k + 1) (if eqS ((f i).from_ k) s then xs ++ [(i : Int)] else xs)
  split at this
  ·rename_i h; rw [if_pos h]; simp at this; omega
  ·rename_i h; rw [if_neg h]; omega
theorem kidO_len (f : Nat → Ln) (s : Sp) (m : Nat) (hs : smallL m f) : ∀ (q i : Nat) (xs : List Int), q + i = m → (kidO f s q i xs).length ≤ xs.length + 300 * q
 | 0, _, xs, _ => by simp [kidO]
 | q + 1, i, xs, h => by
  unfold kidO
  have h1 := kidO_len f s m hs q (i + 1) (kidR f s i (f i).k 0 xs) (by omega)
  have h2 := kidR_len f s i (f i).k 0 xs
  have h3 := (hs.2 i (by omega)).1
  omega
theorem kids_len (f : Nat → Ln) (s : Sp) (m : Nat) (hs : smallL m f) : (kids m f s).length ≤ 30000 := by
 have := kidO_len f s m hs m 0 [] (by omega)
 have := hs.1
 unfold kids
 simp at *
 omega
theorem fin_if {S : Type} {M : Mch S} {n : Nat} {a : Bool} {x y : S ⊕ T} {r : Option T} (h : a = true → M.fin n x = r) (h' : a = false → M.fin n y = r) : M.fin n (if a = true then x else y) = r := by
 cases a
 ·exact h' rfl
 ·exact h rfl
def fo (ks : List Int) (c : Ct) (x : Ln) : Int :=
 if x.fate = 1 then (if ks.length = 0 then 10 else if exR (fun j => ((c.line (ks.getD j 0).toNat).k : Int) != 1) ks.length 0 then 10 else if exR (fun j => (c.line (ks.getD j 0).toNat).mass != shI x.mass ks.length j) ks.length 0 then 38 else 0)
 else if x.fate = 2 then (if ks.length ≠ 1 then 10 else 0)
 else if x.closed = 5 then (if ks.length ≠ 1 ∨ (c.line (ks.getD 0 0).toNat).k ≠ 1 ∨ arr (c.line (ks.getD 0 0).toNat).st = false then 10 else if (c.line (ks.getD 0 0).toNat).mass ≠ x.mass then 38 else 0)
 else if ks.length > 0 then 10 else 0
section
variable (c : Ct) (hs : small c) (i : Nat) (hi : i < c.n)
include hs hi
abbrev kl (c : Ct) (i : Nat) : List Int := kids c.n c.line (c.line i).st
theorem st22_0 (k : Nat) (hk : k < (kl c i).length) : (M22 c i).step (.l0 k) = some (if ((c.line ((kl c i).getD k 0).toNat).k : Int) != 1 then .inr (.int .i64 10) else .inl (.l0 (k + 1 : Nat))) := by
 show step22_0 c i k = _
 have hlen := kids_len c.line (c.line i).st c.n hs
 obtain ⟨h1, h2⟩ := kids_getD c.n c.line (c.line i).st k hk
 have b2 : decide ((k : Int) < ((kl c i).length : Nat)) = true := decide_eq_true (by omega)
 have b3 : decide ((0 : Int) ≤ k) = true := decide_eq_true (by omega)
 have b4 := decide_eq_true h1
 have b5 := decide_eq_true h2
 have b6 := wsucc k (by unfold kl at hk; omega)
 rw [T22_0 c i k ?_]
 ·congr 1
  unfold V22_0
  simp only [Int.toNat_natCast]
  rw [if_pos b2, b6]
 ·unfold K22_0
  simp only [Int.toNat_natCast]
  rw [if_pos b2]
  refine tree_eq (fun e => ?_) (fun e => ?_)
  all_goals (simp only [g22_0_1, g22_0_2, g22_0_3, Int.toNat_natCast, k22_0_0] at *; simp only [e, allT, isV_self, b2, b3, b4, b5, Bool.not_false, Bool.and_true])
theorem st22_0e : (M22 c i).step (.l0 ((kl c i).length : Nat)) = some (.inl (.l1 (0 : Nat))) := by
 show step22_0 c i (kl c i).length = _
 rw [T22_0 c i (kl c i).length (by unfold K22_0; simp only [Int.toNat_natCast]; rw [if_neg (by simp)]; simp [g22_0_1, g22_0_2, g22_0_3, allT, k22_0_0])]
 unfold V22_0
 simp only [Int.toNat_natCast]
 rw [if_neg (by simp)]
 rfl
theorem st22_1 (hm : 0 ≤ (c.line i).mass) (k : Nat) (hk : k < (kl c i).length) : (M22 c i).step (.l1 k) = some (if (c.line ((kl c i).getD k 0).toNat).mass != shI (c.line i).mass (kl c i).length k then .inr (.int .i64 38) else .inl (.l1 (k + 1 : Nat))) := by
 show step22_1 c i k = _
 have hlen := kids_len c.line (c.line i).st c.n hs
 obtain ⟨h1, h2⟩ := kids_getD c.n c.line (c.line i).st k hk
 have b2 : decide ((k : Int) < ((kl c i).length : Nat)) = true := decide_eq_true (by omega)
 have b3 : decide ((0 : Int) ≤ k) = true := decide_eq_true (by omega)
 have b4 := decide_eq_true h1
 have b5 := decide_eq_true h2
 have b6 := wsucc k (by unfold kl at hk; omega)
 have hsh : shN (c.line i).mass (kl c i).length = (kl c i).length := by
  unfold shN
  rw [if_neg (by unfold kl at *; omega)]
  omega
 have b7 : decide ((k : Int) < (shN (c.line i).mass (kl c i).length : Nat)) = true := decide_eq_true (by rw [hsh]; omega)
 rw [T22_1 c i k ?_]
 ·congr 1
  unfold V22_1
  simp only [Int.toNat_natCast]
  rw [if_pos b2, b6]
 ·unfold K22_1
  simp only [Int.toNat_natCast]
  rw [if_pos b2]
  refine tree_eq (fun e => ?_) (fun e => ?_)
  all_goals (simp only [g22_1_1, g22_1_2, g22_1_3, Int.toNat_natCast, k22_1_0] at *; simp only [e, allT, isV_self, b2, b3, b4, b5, b7, Bool.not_false, Bool.and_true])
theorem st22_1e : (M22 c i).step (.l1 ((kl c i).length : Nat)) = some (.inr (.int .i64 0)) := by
 show step22_1 c i (kl c i).length = _
 rw [T22_1 c i (kl c i).length (by unfold K22_1; simp only [Int.toNat_natCast]; rw [if_neg (by simp)]; simp [g22_1_1, g22_1_2, g22_1_3, allT, k22_1_0])]
 unfold V22_1
 simp only [Int.toNat_natCast]
 rw [if_neg (by simp)]
theorem K22_ok : K22_s c i = true := by
 have hlen := kids_len c.line (c.line i).st c.n hs
 have hsl : smallLB c.n c.line = true := smallLB_iff.2 hs
 have b3 : decide ((0 : Int) ≤ i) = true := decide_eq_true (by omega)
 have b4 : decide ((i : Int) < c.n) = true := decide_eq_true (by omega)
 by_cases h1 : (kl c i).length = 1
 ·obtain ⟨q1, q2⟩ := kids_getD c.n c.line (c.line i).st 0 (by unfold kl at h1; omega)
  have b5 := decide_eq_true q1
  have b6 := decide_eq_true q2
  have b7 : decide ((0 : Int) < ((kl c i).length : Nat)) = true := decide_eq_true (by omega)
  unfold K22_s
  repeat' (refine tree_eq (fun _ => ?_) (fun _ => ?_))
  all_goals (simp only [g22_s_1, g22_s_2, g22_s_3, g22_s_4, g22_s_5, g22_s_6, g22_s_7, g22_s_8, g22_s_9, g22_s_10, g22_s_11, Int.toNat_natCast, k22_s_0, k22_s_1, k22_s_2, k22_s_3, k22_s_4, k22_s_5] at *; first | (simp only [*, allT, lsT, isV_self, decide_true, Bool.not_false, Bool.not_true, Bool.and_true]; done) | simp_all [allT, lsT])
 ·have h1' : ((((kl c i).length : Nat) : Int) != 1) = true := by simp; omega
  unfold K22_s
  repeat' (refine tree_eq (fun _ => ?_) (fun _ => ?_))
  all_goals (simp only [g22_s_1, g22_s_2, g22_s_3, g22_s_4, g22_s_5, g22_s_6, g22_s_7, g22_s_8, g22_s_9, g22_s_10, g22_s_11, Int.toNat_natCast, k22_s_0, k22_s_1, k22_s_2, k22_s_3, k22_s_4, k22_s_5] at *; first | (simp only [*, allT, lsT, isV_self, decide_true, Bool.not_false, Bool.not_true, Bool.and_true]; done) | simp_all [allT, lsT])
theorem fourth_ok (hm : 0 ≤ (c.line i).mass) : PureFn prog gl 24 [ctT c, .int .i64 i] (.int .i64 (fo (kl c i) c (c.line i))) := by
 have h2 : ∀ (q k : Nat), q + k = (kl c i).length → Runs (M22 c i) (.l1 k) (.int .i64 (if exR (fun j => (c.line ((kl c i).getD j 0).toNat).mass != shI (c.line i).mass (kl c i).length j) q k then 38 else 0)) := by
  intro q
  induction q with
  | zero =>
   intro k hk
   have : k = (kl c i).length := by omega
   subst this
   exact .done (st22_1e c hs i hi)
  | succ q ih =>
   intro k hk
   have hst := st22_1 c hs i hi hm k (by omega)
   rw [exR.eq_2]
   cases h : ((c.line ((kl c i).getD k 0).toNat).mass != shI (c.line i).mass (kl c i).length k)
   ·rw [h] at hst; exact .next hst (ih (k + 1) (by omega))
   ·rw [h] at hst; exact .done hst
 have h1 : ∀ (q k : Nat), q + k = (kl c i).length → Runs (M22 c i) (.l0 k) (.int .i64 (if exR (fun j => ((c.line ((kl c i).getD j 0).toNat).k : Int) != 1) q k then 10 else if exR (fun j => (c.line ((kl c i).getD j 0).toNat).mass != shI (c.line i).mass (kl c i).length j) (kl c i).length 0 then 38 else 0)) := by
  intro q
  induction q with
  | zero =>
   intro k hk
   have : k = (kl c i).length := by omega
   subst this
   exact .next (st22_0e c hs i hi) (h2 (kl c i).length 0 (by omega))
  | succ q ih =>
   intro k hk
   have hst := st22_0 c hs i hi k (by omega)
   rw [exR.eq_2]
   cases h : (((c.line ((kl c i).getD k 0).toNat).k : Int) != 1)
   ·rw [h] at hst; exact .next hst (ih (k + 1) (by omega))
   ·rw [h] at hst; exact .done hst
 obtain ⟨n, hn⟩ := h1 (kl c i).length 0 (by omega)
 refine c22 c i n (K22_ok c hs i hi) ?_
 unfold V22_s
 simp only [Int.toNat_natCast]
 refine fin_if (fun e1 => ?_) (fun e1 => ?_)
 ·have e1' : (c.line i).fate = 1 := by simpa using e1
  refine fin_if (fun e2 => ?_) (fun e2 => ?_)
  ·have : (kl c i).length = 0 := by simpa using e2
   simp only [reduceIte, Mch.fin_inr, fo, e1', this]
  ·have : ¬ (kl c i).length = 0 := by simpa using e2
   have hfo : fo (kl c i) c (c.line i) = (if exR (fun j => ((c.line ((kl c i).getD j 0).toNat).k : Int) != 1) (kl c i).length 0 then 10 else if exR (fun j => (c.line ((kl c i).getD j 0).toNat).mass != shI (c.line i).mass (kl c i).length j) (kl c i).length 0 then 38 else 0) := by
    unfold fo
    rw [if_pos e1', if_neg this]
   rw [hfo]
   exact hn
 ·have e1' : ¬ (c.line i).fate = 1 := by simpa using e1
  repeat' (refine fin_if (fun _ => ?_) (fun _ => ?_))
  all_goals (simp only [Mch.fin_inr, Option.some.injEq, T.int.injEq, true_and]; unfold fo kl; grind)
end
end Go.Proofs.Tryz

/- The contracts of the law's rules. -/
namespace Go.Proofs.Tryz
noncomputable section
open Go.Ps
def pB (p : Prop) : Bool := @decide p (Classical.propDecidable _)
theorem pB_iff {p : Prop} : pB p = true ↔ p := by unfold pB; simp
def allFl (c : Ct) : Prop := ∀ i, i < c.n → ∀ k, k < (c.line i).k → fl c ((c.line i).from_ k) = true
theorem allFl_linked {c : Ct} (h : allFl c) : linked (al c) c := by
 intro i hi k hk
 have h1 := h i hi k hk
 unfold fl at h1
 unfold al
 simp only [Bool.not_eq_true', decide_eq_false_iff_not] at h1
 rcases idx_found c.n (fun j => eqS (c.line j).st ((c.line i).from_ k)) with ⟨e, _⟩ | ⟨j, hj, _, _, e⟩
 ·rw [e] at h1; omega
 ·rw [e]; simpa using hj
def s20 : List T → Option (T × List Bool)
 | [t, .int .i64 i] => some (.int .i64 (fe (ctv t) i.toNat), [isV t (ctT (ctv t)), pB (small (ctv t)), decide (0 ≤ i), decide (i < (ctv t).n)])
 | _ => none
def s21 : List T → Option (T × List Bool)
 | [t, .int .i64 i] => some (.int .i64 (te (fl (ctv t)) (ctv t) i.toNat), [isV t (ctT (ctv t)), pB (small (ctv t)), decide (0 ≤ i), decide (i < (ctv t).n)])
 | _ => none
def s22 : List T → Option (T × List Bool)
 | [t, .int .i64 i] => some (.int .i64 (fo (kl (ctv t) i.toNat) (ctv t) ((ctv t).line i.toNat)), [isV t (ctT (ctv t)), pB (small (ctv t)), decide (0 ≤ i), decide (i < (ctv t).n), decide (0 ≤ ((ctv t).line i.toNat).mass)])
 | _ => none
def s23 : List T → Option (T × List Bool)
 | [t, .int .i64 i] => some (.int .i64 (me (al (ctv t)) (ctv t) i.toNat), [isV t (ctT (ctv t)), pB (small (ctv t)), decide (0 ≤ i), decide (i < (ctv t).n), pB (allFl (ctv t))])
 | _ => none
def s24 : List T → Option (T × List Bool)
 | [t] => some (ctT (ltot (ctv t)), [isV t (ctT (ctv t)), decide ((ctv t).n ≤ 281474976710656)])
 | _ => none
theorem cast_toNat {i : Int} (h : 0 ≤ i) : ((i.toNat : Nat) : Int) = i := by omega
theorem s20_ok (ts : List T) (r : T) (cs : List Bool) (h : s20 ts = some (r, cs)) (k : allT cs = true) : PureFn prog gl 22 ts r := by
 unfold s20 at h; split at h
 ·rename_i t i
  cases h
  simp only [allT, Bool.and_true, Bool.and_eq_true, isV_iff, pB_iff, decide_eq_true_eq] at k
  have := second_ok (ctv t) i.toNat (by omega) k.2.1
  rw [cast_toNat k.2.2.1] at this
  rw [k.1]; exact this
 ·cases h
theorem s21_ok (ts : List T) (r : T) (cs : List Bool) (h : s21 ts = some (r, cs)) (k : allT cs = true) : PureFn prog gl 23 ts r := by
 unfold s21 at h; split at h
 ·rename_i t i
  cases h
  simp only [allT, Bool.and_true, Bool.and_eq_true, isV_iff, pB_iff, decide_eq_true_eq] at k
  have := third_ok (ctv t) k.2.1 i.toNat (by omega)
  rw [cast_toNat k.2.2.1] at this
  rw [k.1]; exact this
 ·cases h
theorem s22_ok (ts : List T) (r : T) (cs : List Bool) (h : s22 ts = some (r, cs)) (k : allT cs = true) : PureFn prog gl 24 ts r := by
 unfold s22 at h; split at h
 ·rename_i t i
  cases h
  simp only [allT, Bool.and_true, Bool.and_eq_true, isV_iff, pB_iff, decide_eq_true_eq] at k
  have := fourth_ok (ctv t) k.2.1 i.toNat (by omega) k.2.2.2.2
  rw [cast_toNat k.2.2.1] at this
  rw [k.1]; exact this
 ·cases h
theorem s23_ok (ts : List T) (r : T) (cs : List Bool) (h : s23 ts = some (r, cs)) (k : allT cs = true) : PureFn prog gl 25 ts r := by
 unfold s23 at h; split at h
 ·rename_i t i
  cases h
  simp only [allT, Bool.and_true, Bool.and_eq_true, isV_iff, pB_iff, decide_eq_true_eq] at k
  have := fifth_ok (ctv t) k.2.1 (allFl_linked k.2.2.2.2) k.2.2.2.2 i.toNat (by omega)
  rw [cast_toNat k.2.2.1] at this
  rw [k.1]; exact this
 ·cases h
theorem s24_ok (ts : List T) (r : T) (cs : List Bool) (h : s24 ts = some (r, cs)) (k : allT cs = true) : PureFn prog gl 26 ts r := by
 unfold s24 at h; split at h
 ·rename_i t
  cases h
  simp only [allT, Bool.and_true, Bool.and_eq_true, isV_iff, decide_eq_true_eq] at k
  rw [k.1]; exact ltotals_ok _ k.2
 ·cases h
def D16 : Ed := ⟨gl, pdAdd 22 s20 (pdAdd 23 s21 (pdAdd 24 s22 (pdAdd 25 s23 (pdAdd 26 s24 D15.pd))))⟩
theorem cx16 : Cx prog D16 F0 := ⟨follows, pdAdd_ok (pdAdd_ok (pdAdd_ok (pdAdd_ok (pdAdd_ok cx15.hE s24_ok) s23_ok) s22_ok) s21_ok) s20_ok, F0ok⟩
end
end Go.Proofs.Tryz

/- check of the law as a machine, by program (gen2). -/
namespace Go.Proofs.Tryz
noncomputable section
open Go.Ps
set_option maxRecDepth 100000
/-! ### 11 -/
inductive S11 where
 | l0 (x3 : Int)
 | l1 (x3 x4 : Int)
 | l2 (x6 x7 : Int)
def k11_s_0 (c : Ct) : List Bool := let y0 := decide (c.entries < 0); [!y0, !y0, !y0, !y0]
def g11_s_1 (c : Ct) : List Bool := let y0 := decide (c.entries < 0); [true, y0, y0, y0, y0]
def g11_s_2 (c : Ct) : List Bool := (decide (c.entries > 1048576)) :: k11_s_0 c
def g11_s_3 (c : Ct) : List Bool := (decide ((↑c.n : Int) > 65536)) :: (!decide (c.entries > 1048576)) :: k11_s_0 c
def g11_s_4 (c : Ct) : List Bool := (!decide ((↑c.n : Int) > 65536)) :: (!decide (c.entries > 1048576)) :: k11_s_0 c
def g11_0_1 (c : Ct) (x3 : Int) : List Bool := [decide (x3 ≤ 5)]
def g11_0_2 (c : Ct) (x3 : Int) : List Bool := [!decide (x3 ≤ 5)]
def k11_1_0 (c : Ct) (x3 x4 : Int) : List Bool := let y0 := decide (x4 < (↑c.n : Int)); [isV (ctT c) (ctT c), pB (small c), decide (0 ≤ x4), y0, x3 == 2, y0]
def k11_1_1 (c : Ct) (x3 x4 : Int) : List Bool := let y0 := decide (x4 < (↑c.n : Int)); [isV (ctT c) (ctT c), pB (small c), decide (0 ≤ x4), y0, x3 == 3, !x3 == 2, y0]
def k11_1_2 (c : Ct) (x3 x4 : Int) : List Bool := [!x3 == 3, !x3 == 2, decide (x4 < (↑c.n : Int))]
def k11_1_3 (c : Ct) (x3 x4 : Int) : List Bool := (isV (ctT c) (ctT c)) :: (pB (small c)) :: (decide (0 ≤ x4)) :: (decide (x4 < (↑c.n : Int))) :: (decide (0 ≤ (c.line x4.toNat).mass)) :: (x3 == 4) :: k11_1_2 c x3 x4
def k11_1_4 (c : Ct) (x3 x4 : Int) : List Bool := (isV (ctT c) (ctT c)) :: (pB (small c)) :: (decide (0 ≤ x4)) :: (decide (x4 < (↑c.n : Int))) :: (pB (allFl c)) :: (!x3 == 4) :: k11_1_2 c x3 x4
def g11_1_1 (c : Ct) (x3 x4 : Int) : List Bool := (fe c x4.toNat != 0) :: k11_1_0 c x3 x4
def g11_1_2 (c : Ct) (x3 x4 : Int) : List Bool := (!fe c x4.toNat != 0) :: k11_1_0 c x3 x4
def g11_1_3 (c : Ct) (x3 x4 : Int) : List Bool := (te (fl c) c x4.toNat != 0) :: k11_1_1 c x3 x4
def g11_1_4 (c : Ct) (x3 x4 : Int) : List Bool := (!te (fl c) c x4.toNat != 0) :: k11_1_1 c x3 x4
def g11_1_5 (c : Ct) (x3 x4 : Int) : List Bool := (fo (kl c x4.toNat) c (c.line x4.toNat) != 0) :: k11_1_3 c x3 x4
def g11_1_6 (c : Ct) (x3 x4 : Int) : List Bool := (!fo (kl c x4.toNat) c (c.line x4.toNat) != 0) :: k11_1_3 c x3 x4
def g11_1_7 (c : Ct) (x3 x4 : Int) : List Bool := (me (al c) c x4.toNat != 0) :: k11_1_4 c x3 x4
def g11_1_8 (c : Ct) (x3 x4 : Int) : List Bool := (!me (al c) c x4.toNat != 0) :: k11_1_4 c x3 x4
def g11_1_9 (c : Ct) (x3 x4 : Int) : List Bool := [!decide (x4 < (↑c.n : Int))]
def k11_2_0 (c : Ct) (x6 x7 : Int) : List Bool := let y0 := decide (x7 < (↑c.n : Int)); [decide (0 ≤ x7), y0, true, y0]
def k11_2_1 (c : Ct) (x6 x7 : Int) : List Bool := [true, true, isV (ctT c) (ctT c), decide (c.n ≤ 281474976710656), !decide (x7 < (↑c.n : Int))]
def k11_2_2 (c : Ct) (x6 x7 : Int) : List Bool := let y0 := c.accepted != x6; (!y0) :: (!y0) :: (!y0) :: (!y0) :: (!y0) :: (!y0) :: k11_2_1 c x6 x7
def k11_2_3 (c : Ct) (x6 x7 : Int) : List Bool := let y0 := c.delivered != (ltR c.line c.n 0 0 0 0 0).fst; (!y0) :: (!y0) :: (!y0) :: (!y0) :: (!y0) :: (!y0) :: k11_2_2 c x6 x7
def k11_2_4 (c : Ct) (x6 x7 : Int) : List Bool := let y0 := c.waiting != (ltR c.line c.n 0 0 0 0 0).snd.fst; (!y0) :: (!y0) :: (!y0) :: (!y0) :: (!y0) :: (!y0) :: k11_2_3 c x6 x7
def k11_2_5 (c : Ct) (x6 x7 : Int) : List Bool := let y0 := c.letters != (ltR c.line c.n 0 0 0 0 0).snd.snd.fst; (!y0) :: (!y0) :: (!y0) :: (!y0) :: (!y0) :: (!y0) :: k11_2_4 c x6 x7
def g11_2_1 (c : Ct) (x6 x7 : Int) : List Bool := ((↑(c.line x7.toNat).k : Int) == 0) :: k11_2_0 c x6 x7
def g11_2_2 (c : Ct) (x6 x7 : Int) : List Bool := (!(↑(c.line x7.toNat).k : Int) == 0) :: k11_2_0 c x6 x7
def g11_2_3 (c : Ct) (x6 x7 : Int) : List Bool := let y0 := c.accepted != x6; true :: true :: true :: true :: true :: true :: true :: true :: true :: true :: true :: true :: true :: true :: true :: true :: true :: true :: true :: y0 :: y0 :: y0 :: y0 :: y0 :: y0 :: k11_2_1 c x6 x7
def g11_2_4 (c : Ct) (x6 x7 : Int) : List Bool := let y0 := c.delivered != (ltR c.line c.n 0 0 0 0 0).fst; true :: true :: true :: true :: true :: true :: true :: true :: true :: true :: true :: true :: true :: y0 :: y0 :: y0 :: y0 :: y0 :: y0 :: k11_2_2 c x6 x7
def g11_2_5 (c : Ct) (x6 x7 : Int) : List Bool := let y0 := c.waiting != (ltR c.line c.n 0 0 0 0 0).snd.fst; true :: true :: true :: true :: true :: true :: true :: y0 :: y0 :: y0 :: y0 :: y0 :: y0 :: k11_2_3 c x6 x7
def g11_2_6 (c : Ct) (x6 x7 : Int) : List Bool := let y0 := c.letters != (ltR c.line c.n 0 0 0 0 0).snd.snd.fst; true :: y0 :: y0 :: y0 :: y0 :: y0 :: y0 :: k11_2_4 c x6 x7
def g11_2_7 (c : Ct) (x6 x7 : Int) : List Bool := (c.discarded != (ltR c.line c.n 0 0 0 0 0).snd.snd.snd) :: k11_2_5 c x6 x7
def g11_2_8 (c : Ct) (x6 x7 : Int) : List Bool := (!c.discarded != (ltR c.line c.n 0 0 0 0 0).snd.snd.snd) :: k11_2_5 c x6 x7
def V11_0 (c : Ct) (x3 : Int) : S11 ⊕ T :=
 (if decide (x3 ≤ 5) then (.inl (.l1 x3 0)) else (.inl (.l2 0 0)))
def K11_0 (c : Ct) (x3 : Int) : Bool :=
 (if decide (x3 ≤ 5) then (allT (g11_0_1 c x3)) else (allT (g11_0_2 c x3)))
def step11_0 (c : Ct) (x3 : Int) : Option (S11 ⊕ T) := if K11_0 c x3 then some (V11_0 c x3) else none
theorem T11_0 (c : Ct) (x3 : Int) (hk : K11_0 c x3 = true) : step11_0 c x3 = some (V11_0 c x3) := if_pos hk
def V11_1 (c : Ct) (x3 x4 : Int) : S11 ⊕ T :=
 (if decide (x4 < (↑c.n : Int)) then (if x3 == 2 then (if fe c x4.toNat != 0 then (.inr (T.int .i64 (fe c x4.toNat))) else (.inl (.l1 x3 (IntKind.i64.wrap (x4 + 1))))) else (if x3 == 3 then (if te (fl c) c x4.toNat != 0 then (.inr (T.int .i64 (te (fl c) c x4.toNat))) else (.inl (.l1 x3 (IntKind.i64.wrap (x4 + 1))))) else (if x3 == 4 then (if fo (kl c x4.toNat) c (c.line x4.toNat) != 0 then (.inr (T.int .i64 (fo (kl c x4.toNat) c (c.line x4.toNat)))) else (.inl (.l1 x3 (IntKind.i64.wrap (x4 + 1))))) else (if me (al c) c x4.toNat != 0 then (.inr (T.int .i64 (me (al c) c x4.toNat))) else (.inl (.l1 x3 (IntKind.i64.wrap (x4 + 1)))))))) else (.inl (.l0 (IntKind.i64.wrap (x3 + 1)))))
def K11_1 (c : Ct) (x3 x4 : Int) : Bool :=
 (if decide (x4 < (↑c.n : Int)) then (if x3 == 2 then (if fe c x4.toNat != 0 then (allT (g11_1_1 c x3 x4)) else (allT (g11_1_2 c x3 x4))) else (if x3 == 3 then (if te (fl c) c x4.toNat != 0 then (allT (g11_1_3 c x3 x4)) else (allT (g11_1_4 c x3 x4))) else (if x3 == 4 then (if fo (kl c x4.toNat) c (c.line x4.toNat) != 0 then (allT (g11_1_5 c x3 x4)) else (allT (g11_1_6 c x3 x4))) else (if me (al c) c x4.toNat != 0 then (allT (g11_1_7 c x3 x4)) else (allT (g11_1_8 c x3 x4)))))) else (allT (g11_1_9 c x3 x4)))
def step11_1 (c : Ct) (x3 x4 : Int) : Option (S11 ⊕ T) := if K11_1 c x3 x4 then some (V11_1 c x3 x4) else none
theorem T11_1 (c : Ct) (x3 x4 : Int) (hk : K11_1 c x3 x4 = true) : step11_1 c x3 x4 = some (V11_1 c x3 x4) := if_pos hk
def V11_2 (c : Ct) (x6 x7 : Int) : S11 ⊕ T :=
 (if decide (x7 < (↑c.n : Int)) then (if (↑(c.line x7.toNat).k : Int) == 0 then (.inl (.l2 (IntKind.i64.wrap (x6 + 1048576)) (IntKind.i64.wrap (x7 + 1)))) else (.inl (.l2 x6 (IntKind.i64.wrap (x7 + 1))))) else (if c.accepted != x6 then (.inr (T.int .i64 38)) else (if c.delivered != (ltR c.line c.n 0 0 0 0 0).fst then (.inr (T.int .i64 38)) else (if c.waiting != (ltR c.line c.n 0 0 0 0 0).snd.fst then (.inr (T.int .i64 38)) else (if c.letters != (ltR c.line c.n 0 0 0 0 0).snd.snd.fst then (.inr (T.int .i64 38)) else (if c.discarded != (ltR c.line c.n 0 0 0 0 0).snd.snd.snd then (.inr (T.int .i64 38)) else (.inr (T.int .i64 0))))))))
def K11_2 (c : Ct) (x6 x7 : Int) : Bool :=
 (if decide (x7 < (↑c.n : Int)) then (if (↑(c.line x7.toNat).k : Int) == 0 then (allT (g11_2_1 c x6 x7)) else (allT (g11_2_2 c x6 x7))) else (if c.accepted != x6 then (allT (g11_2_3 c x6 x7)) else (if c.delivered != (ltR c.line c.n 0 0 0 0 0).fst then (allT (g11_2_4 c x6 x7)) else (if c.waiting != (ltR c.line c.n 0 0 0 0 0).snd.fst then (allT (g11_2_5 c x6 x7)) else (if c.letters != (ltR c.line c.n 0 0 0 0 0).snd.snd.fst then (allT (g11_2_6 c x6 x7)) else (if c.discarded != (ltR c.line c.n 0 0 0 0 0).snd.snd.snd then (allT (g11_2_7 c x6 x7)) else (allT (g11_2_8 c x6 x7))))))))
def step11_2 (c : Ct) (x6 x7 : Int) : Option (S11 ⊕ T) := if K11_2 c x6 x7 then some (V11_2 c x6 x7) else none
theorem T11_2 (c : Ct) (x6 x7 : Int) (hk : K11_2 c x6 x7 = true) : step11_2 c x6 x7 = some (V11_2 c x6 x7) := if_pos hk
def V11_s (c : Ct) : S11 ⊕ T :=
 (if decide (c.entries < 0) then (.inr (T.int .i64 2)) else (if decide (c.entries > 1048576) then (.inr (T.int .i64 2)) else (if decide ((↑c.n : Int) > 65536) then (.inr (T.int .i64 9)) else (.inl (.l0 2)))))
def K11_s (c : Ct) : Bool :=
 (if decide (c.entries < 0) then (allT (g11_s_1 c)) else (if decide (c.entries > 1048576) then (allT (g11_s_2 c)) else (if decide ((↑c.n : Int) > 65536) then (allT (g11_s_3 c)) else (allT (g11_s_4 c)))))
def step11 (c : Ct) : S11 → Option (S11 ⊕ T)
 | .l0 x3 => step11_0 c x3
 | .l1 x3 x4 => step11_1 c x3 x4
 | .l2 x6 x7 => step11_2 c x6 x7
def M11 (c : Ct) : Mch S11 where
 lp := fun σ => match σ with
  | .l0 .. => 0
  | .l1 .. => 1
  | .l2 .. => 2
 keep := fun ι => match ι with
  | 0 => [1, 3]
  | 1 => [1, 3, 4]
  | 2 => [1, 6, 7]
  | _ => []
 par := fun ι => match ι with
  | 0 => []
  | 1 => [0]
  | 2 => []
  | _ => []
 vs := fun σ => match σ with
  | .l0 x3 => [(ctT c).ref 0, T.int .i64 x3]
  | .l1 x3 x4 => [(ctT c).ref 0, T.int .i64 x3, T.int .i64 x4]
  | .l2 x6 x7 => [(ctT c).ref 0, T.int .i64 x6, T.int .i64 x7]
 hp := fun _ => ⟨0, []⟩
 len := 105
 step := step11 c
def r11_0 (c : Ct) (x3 : Int) (fr : List T) (ds : List Bool) : RD Out := (M11 c).rk prog D16 F0 f8 (.l0 x3) fr ds
theorem w11_0_1 (c : Ct) (x3 : Int) (fr : List T) : (M11 c).wl prog f8 (r11_0 c x3 fr [true]) 0 (g11_0_1 c x3) (.l1 x3 0) := by unfold Mch.wl; kernel_rfl
theorem w11_0_2 (c : Ct) (x3 : Int) (fr : List T) : (M11 c).wl prog f8 (r11_0 c x3 fr [false]) 1 (g11_0_2 c x3) (.l2 0 0) := by unfold Mch.wl; kernel_rfl
def r11_1 (c : Ct) (x3 x4 : Int) (fr : List T) (ds : List Bool) : RD Out := (M11 c).rk prog D16 F0 f8 (.l1 x3 x4) fr ds
theorem w11_1_1 (c : Ct) (x3 x4 : Int) (fr : List T) : outK prog f8 20 [] (r11_1 c x3 x4 fr [true, true, true]) = wdn (T.int .i64 (fe c x4.toNat)) (g11_1_1 c x3 x4) := by kernel_rfl
theorem w11_1_2 (c : Ct) (x3 x4 : Int) (fr : List T) : (M11 c).wa prog f8 (r11_1 c x3 x4 fr [true, true, false]) 0 (g11_1_2 c x3 x4) (.l1 x3 (IntKind.i64.wrap (x4 + 1))) := by unfold Mch.wa; kernel_rfl
theorem w11_1_3 (c : Ct) (x3 x4 : Int) (fr : List T) : outK prog f8 20 [] (r11_1 c x3 x4 fr (bt 4 13)) = wdn (T.int .i64 (te (fl c) c x4.toNat)) (g11_1_3 c x3 x4) := by kernel_rfl
theorem w11_1_4 (c : Ct) (x3 x4 : Int) (fr : List T) : (M11 c).wa prog f8 (r11_1 c x3 x4 fr (bt 4 5)) 0 (g11_1_4 c x3 x4) (.l1 x3 (IntKind.i64.wrap (x4 + 1))) := by unfold Mch.wa; kernel_rfl
theorem w11_1_5 (c : Ct) (x3 x4 : Int) (fr : List T) : outK prog f8 20 [] (r11_1 c x3 x4 fr (bt 5 25)) = wdn (T.int .i64 (fo (kl c x4.toNat) c (c.line x4.toNat))) (g11_1_5 c x3 x4) := by kernel_rfl
theorem w11_1_6 (c : Ct) (x3 x4 : Int) (fr : List T) : (M11 c).wa prog f8 (r11_1 c x3 x4 fr (bt 5 9)) 0 (g11_1_6 c x3 x4) (.l1 x3 (IntKind.i64.wrap (x4 + 1))) := by unfold Mch.wa; kernel_rfl
theorem w11_1_7 (c : Ct) (x3 x4 : Int) (fr : List T) : outK prog f8 20 [] (r11_1 c x3 x4 fr (bt 5 17)) = wdn (T.int .i64 (me (al c) c x4.toNat)) (g11_1_7 c x3 x4) := by kernel_rfl
theorem w11_1_8 (c : Ct) (x3 x4 : Int) (fr : List T) : (M11 c).wa prog f8 (r11_1 c x3 x4 fr (bt 5 1)) 0 (g11_1_8 c x3 x4) (.l1 x3 (IntKind.i64.wrap (x4 + 1))) := by unfold Mch.wa; kernel_rfl
theorem w11_1_9 (c : Ct) (x3 x4 : Int) (fr : List T) : (M11 c).wa prog f8 (r11_1 c x3 x4 fr [false]) 1 (g11_1_9 c x3 x4) (.l0 (IntKind.i64.wrap (x3 + 1))) := by unfold Mch.wa; kernel_rfl
def r11_2 (c : Ct) (x6 x7 : Int) (fr : List T) (ds : List Bool) : RD Out := (M11 c).rk prog D16 F0 f8 (.l2 x6 x7) fr ds
theorem w11_2_1 (c : Ct) (x6 x7 : Int) (fr : List T) : (M11 c).wa prog f8 (r11_2 c x6 x7 fr [true, true]) 0 (g11_2_1 c x6 x7) (.l2 (IntKind.i64.wrap (x6 + 1048576)) (IntKind.i64.wrap (x7 + 1))) := by unfold Mch.wa; kernel_rfl
theorem w11_2_2 (c : Ct) (x6 x7 : Int) (fr : List T) : (M11 c).wa prog f8 (r11_2 c x6 x7 fr [true, false]) 0 (g11_2_2 c x6 x7) (.l2 x6 (IntKind.i64.wrap (x7 + 1))) := by unfold Mch.wa; kernel_rfl
theorem w11_2_3 (c : Ct) (x6 x7 : Int) (fr : List T) : outK prog f8 20 [] (r11_2 c x6 x7 fr (bt 26 67108862)) = wdn (T.int .i64 38) (g11_2_3 c x6 x7) := by kernel_rfl
theorem w11_2_4 (c : Ct) (x6 x7 : Int) (fr : List T) : outK prog f8 20 [] (r11_2 c x6 x7 fr (bt 26 67108736)) = wdn (T.int .i64 38) (g11_2_4 c x6 x7) := by kernel_rfl
theorem w11_2_5 (c : Ct) (x6 x7 : Int) (fr : List T) : outK prog f8 20 [] (r11_2 c x6 x7 fr (bt 26 67100672)) = wdn (T.int .i64 38) (g11_2_5 c x6 x7) := by kernel_rfl
theorem w11_2_6 (c : Ct) (x6 x7 : Int) (fr : List T) : outK prog f8 20 [] (r11_2 c x6 x7 fr (bt 26 66584576)) = wdn (T.int .i64 38) (g11_2_6 c x6 x7) := by kernel_rfl
theorem w11_2_7 (c : Ct) (x6 x7 : Int) (fr : List T) : outK prog f8 20 [] (r11_2 c x6 x7 fr (bt 26 33554432)) = wdn (T.int .i64 38) (g11_2_7 c x6 x7) := by kernel_rfl
theorem w11_2_8 (c : Ct) (x6 x7 : Int) (fr : List T) : outK prog f8 20 [] (r11_2 c x6 x7 fr (bt 26 0)) = wdn (T.int .i64 0) (g11_2_8 c x6 x7) := by kernel_rfl
def r11_s (c : Ct) (ds : List Bool) : RD Out := runK prog D16 F0 2000 (.code (bodyOf f8)) [] 0 ([ctT c] ++ List.replicate 104 undefT) ⟨0, []⟩ ds []
theorem w11_s_1 (c : Ct) : outK prog f8 20 [] (r11_s c (bt 5 31)) = wdn (T.int .i64 2) (g11_s_1 c) := by kernel_rfl
theorem w11_s_2 (c : Ct) : outK prog f8 20 [] (r11_s c (bt 5 16)) = wdn (T.int .i64 2) (g11_s_2 c) := by kernel_rfl
theorem w11_s_3 (c : Ct) : outK prog f8 20 [] (r11_s c (bt 6 32)) = wdn (T.int .i64 9) (g11_s_3 c) := by kernel_rfl
theorem w11_s_4 (c : Ct) : (M11 c).wl prog f8 (r11_s c (bt 6 0)) 0 (g11_s_4 c) (.l0 2) := by unfold Mch.wl; kernel_rfl
theorem ways11 (c : Ct) : (M11 c).Ways prog D16 F0 f8 20 := by
 intro σ o fr h
 cases σ with
 | l0 x3 =>
  obtain ⟨hk, ho⟩ := kv_some (K := K11_0 c x3) (V := V11_0 c x3) h
  exact (wk_if (kL (w11_0_1 c x3 fr) rfl) (kL (w11_0_2 c x3 fr) rfl)) hk o ho
 | l1 x3 x4 =>
  obtain ⟨hk, ho⟩ := kv_some (K := K11_1 c x3 x4) (V := V11_1 c x3 x4) h
  exact (wk_if (wk_if (wk_if (kD (w11_1_1 c x3 x4 fr)) (kA (w11_1_2 c x3 x4 fr) rfl)) (wk_if (wk_if (kD (w11_1_3 c x3 x4 fr)) (kA (w11_1_4 c x3 x4 fr) rfl)) (wk_if (wk_if (kD (w11_1_5 c x3 x4 fr)) (kA (w11_1_6 c x3 x4 fr) rfl)) (wk_if (kD (w11_1_7 c x3 x4 fr)) (kA (w11_1_8 c x3 x4 fr) rfl))))) (kA (w11_1_9 c x3 x4 fr) rfl)) hk o ho
 | l2 x6 x7 =>
  obtain ⟨hk, ho⟩ := kv_some (K := K11_2 c x6 x7) (V := V11_2 c x6 x7) h
  exact (wk_if (wk_if (kA (w11_2_1 c x6 x7 fr) rfl) (kA (w11_2_2 c x6 x7 fr) rfl)) (wk_if (kD (w11_2_3 c x6 x7 fr)) (wk_if (kD (w11_2_4 c x6 x7 fr)) (wk_if (kD (w11_2_5 c x6 x7 fr)) (wk_if (kD (w11_2_6 c x6 x7 fr)) (wk_if (kD (w11_2_7 c x6 x7 fr)) (kD (w11_2_8 c x6 x7 fr)))))))) hk o ho
theorem oks11 (c : Ct) : ∀ σ, Ps.codeOk (loopAt f8 ((M11 c).lp σ)).1 = true ∧ ksOk (.lp :: (loopAt f8 ((M11 c).lp σ)).2) = true := oks_of 3 (by kernel_rfl) (by intro σ; cases σ <;> exact Nat.le_of_ble_eq_true rfl)
theorem c11 (c : Ct) (n : Nat) {r : T} (hk : K11_s c = true) (hr : (M11 c).fin n (V11_s c) = some r) : PureFn prog gl 8 [ctT c] r :=
 pure_mach (M := (M11 c)) (fn := f8) (k := 20) (d := 8) (c := bodyOf f8) cx16 glFrz (by kernel_rfl) func8 (by kernel_rfl) rfl (by kernel_rfl) (by kernel_rfl) (L := 104) (by kernel_rfl) (ways11 c) (oks11 c) ((wk_if (kD (w11_s_1 c)) (wk_if (kD (w11_s_2 c)) (wk_if (kD (w11_s_3 c)) (kL (w11_s_4 c) rfl)))) hk _ rfl) hr
end
end Go.Proofs.Tryz

/- The rows of children, as the program keeps them; the frame for the function. -/
namespace Go.Proofs.Tryz
open Go.Ps
def F17 : Fc := ⟨fun d => d == 47, fun _ _ _ => none⟩
theorem cx17 : Cx prog D15 F17 := ⟨follows, cx15.hE, eeNone_ok⟩
def rowT (H : Hp) : T → List Int
 | .osl l _ _ _ => (match H.get l with | some o => o.cells.map intv | none => [])
 | _ => []
def rowsOf (H : Hp) (k : Nat) : List Int := rowT H ((obv H 0).cells.getD k undefT)
def rowsOk (n : Nat) (H : Hp) : Prop := ∃ C, H.get 0 = some ⟨37, 1, C⟩ ∧ C.length = n ∧ ∀ t ∈ C, t = .nils ∨ ∃ l xs, t = .osl l 1 0 (xs : List Int).length ∧ H.get l = some ⟨3, 1, ints xs⟩
def frzR (H : Hp) (t : T) : T := match t with
 | .osl .. => .sl false (ints (rowT H t))
 | t => t
theorem rowT_osl {H : Hp} {l : Nat} {xs : List Int} (h : H.get l = some ⟨3, 1, ints xs⟩) (n : Nat) : rowT H (.osl l 1 0 n) = xs := by
 simp only [rowT, h, ints, List.map_map]
 have : (intv ∘ T.int .i64) = id := rfl
 rw [this, List.map_id]
theorem frzR_map {H : Hp} : ∀ (C : List T), (∀ t ∈ C, t = .nils ∨ ∃ l xs, t = .osl l 1 0 (xs : List Int).length ∧ H.get l = some ⟨3, 1, ints xs⟩) → mapO (frzT 19 H) C = some (C.map (frzR H))
 | [], _ => rfl
 | t :: C, h => by
  have e : frzT 19 H t = some (frzR H t) := by
   rcases h t (by simp) with rfl | ⟨l, xs, rfl, hl⟩
   ·rfl
   ·rw [frz_row (d := 17) hl rfl (by simp [ints]) (by simp [ints, scal1])]
    simp only [frzR, rowT_osl hl]
  simp only [mapO, e, frzR_map C (fun t ht => h t (by simp [ht])), List.map_cons]
theorem rdI_ints {g : G} {v : Value} {xs : List Int} (h : Rd g v (.sl false (ints xs))) : RdI g v (.slf false xs.length (fun j => .int .i64 (xs.getD j 0))) := by
 have hl : (ints xs).length = xs.length := by simp [ints]
 generalize hy : ints xs = ys at h hl
 cases h with
 | sl _ _ sz b o cap vs h1 h2 h3 h4 h5 h6 h7 h8 =>
  have hat : ∀ i, i < xs.length → ys[i]? = some (T.int .i64 (xs.getD i 0)) := fun i hi => by
   rw [← hy]
   unfold ints
   rw [List.getElem?_map, List.getElem?_eq_getElem hi, List.getD_eq_getElem?_getD, List.getElem?_eq_getElem hi]
   rfl
  rw [hl] at h3 h5 h6 ⊢
  refine .slf false xs.length _ sz b o cap vs (fun q => h1 (fun e => q (by rw [← hl, e]; rfl))) (fun i hi => h2 _ (List.mem_of_getElem? (hat i hi))) h3 h4 h5 h6 h7 (fun i j u c hi hj hu hc => ?_)
  have hr := h8 _ u c hu (rows_at h2 (hat i hi) j c hc)
  simp only [T.cells] at hc
  cases j with
  | zero => simp at hc; subst hc; exact rdI_scal rfl hr
  | succ j => simp at hc
theorem rows_frz {n : Nat} {H : Hp} (hb : pB (rowsOk n H) = true) : ∃ t0, frzT 20 H (.osl 0 1 0 n) = some t0 ∧ ∀ g v, Rd g v t0 → Rd g v (.slf false n fun k => .slf false (rowsOf H k).length fun j => .int .i64 ((rowsOf H k).getD j 0)) := by
 obtain ⟨C, h0, hn, hC⟩ := pB_iff.1 hb
 have hna : ((C.map (frzR H)).all fun c => !c.isAgg) = true := by
  rw [List.all_eq_true]
  intro x hx
  obtain ⟨t, ht, rfl⟩ := List.mem_map.1 hx
  rcases hC t ht with rfl | ⟨l, xs, rfl, hl⟩ <;> rfl
 refine ⟨.sl false (C.map (frzR H)), ?_, fun g v hv => ?_⟩
 ·show (match H.get 0 with
   | some o => if 1 ≠ 0 ∧ o.sz = 1 ∧ (0 + n) * 1 ≤ o.cells.length then
     match mapO (frzT 19 H) ((o.cells.drop (0 * 1)).take (n * 1)) with
     | some cs => if 1 = 1 then (if (cs.all fun c => !c.isAgg) then some (T.sl false cs) else none) else some (T.sl false (chunk 1 n cs))
     | none => none
    else none
   | none => none) = _
  rw [h0]
  simp only
  have e : (C.drop (0 * 1)).take (n * 1) = C := by simp [← hn]
  rw [if_pos ⟨by decide, trivial, by omega⟩, e, frzR_map C hC]
  simp only [if_true, hna]
 ·have hl : (C.map (frzR H)).length = n := by simp [hn]
  have hat : ∀ i, i < n → ∃ t, C[i]? = some t ∧ (C.map (frzR H))[i]? = some (frzR H t) ∧ rowsOf H i = rowT H t ∧ t ∈ C := fun i hi => by
   have hi' : i < C.length := by omega
   refine ⟨C[i], List.getElem?_eq_getElem hi', by rw [List.getElem?_map, List.getElem?_eq_getElem hi']; rfl, ?_, List.getElem_mem hi'⟩
   unfold rowsOf obv
   rw [h0]
   simp only
   rw [List.getD_eq_getElem?_getD, List.getElem?_eq_getElem hi']
   rfl
  generalize hy : C.map (frzR H) = ys at hv hl hat
  cases hv with
  | sl _ _ sz b o cap vs h1 h2 h3 h4 h5 h6 h7 h8 =>
   have hsz : ∀ i, i < n → sz = 1 := fun i hi => by
    obtain ⟨t, _, e2, _, e4⟩ := hat i hi
    rw [← h2 _ (List.mem_of_getElem? e2)]
    rcases hC t e4 with rfl | ⟨l, xs, rfl, hl⟩ <;> rfl
   rw [hl] at h3 h5 h6 ⊢
   refine .slf false n _ sz b o cap vs (fun q => h1 (fun e => q (by rw [← hl, e]; rfl))) (fun i hi => by rw [hsz i hi]; rfl) h3 h4 h5 h6 h7 (fun i j u c hi hj hu hc => ?_)
   obtain ⟨t, e1, e2, e3, e4⟩ := hat i hi
   simp only [T.cells] at hc
   cases j with
   | succ j => simp at hc
   | zero =>
    simp at hc
    subst hc
    have hcell : (frzR H t).cells = [frzR H t] := by rcases hC t e4 with rfl | ⟨l, xs, rfl, hl⟩ <;> rfl
    have hr := h8 _ u (frzR H t) hu (rows_at h2 e2 0 _ (by rw [hcell]; rfl))
    rw [e3]
    rcases hC t e4 with rfl | ⟨l, xs, rfl, hlx⟩
    ·simp only [frzR] at hr
     cases hr
     exact .slfn _ _ _
    ·simp only [frzR, rowT_osl hlx] at hr
     rw [rowT_osl hlx]
     exact rdI_ints hr
end Go.Proofs.Tryz

/- children of the program as a machine, by program (gen2). -/
namespace Go.Proofs.Tryz
noncomputable section
open Go.Ps
set_option maxRecDepth 100000
/-! ### 17 -/
inductive S17 where
 | l0 (x22 x23 : Int) (H : Hp)
 | l1 (x4 x22 x23 x30 x31 : Int) (H : Hp)
 | l2 (x56 x57 : Int) (rows : Nat → List Int) (NX : Nat)
 | l3f (x10 x56 x57 x138 x139 : Int) (rows : Nat → List Int) (NX : Nat)
 | l3n0_0 (x10 x56 x57 : Int) (rows : Nat → List Int) (NX : Nat)
 | l3s1_0 (x10 x56 x57 : Int) (rows : Nat → List Int) (NX : Nat)
 | l3s1_1 (x10 x56 x57 : Int) (rows : Nat → List Int) (NX : Nat)
def g17_s_1 (c : Ct) : List Bool := [true, decide ((↑c.n : Int) = (↑c.n : Int)), decide (c.n * 24 ≤ 70368744177664), decide ((↑c.n : Int) ≤ 70368744177664)]
theorem w17_s_1 (c : Ct) : outK prog f35 20 [1, 3, 21, 22, 23] (runK prog D15 F17 2000 (.code (bodyOf f35)) [] 0 ([ctT c] ++ List.replicate 159 undefT) ⟨0, []⟩ [] [])
  = some (OutT.loop 0 (loopAt f35 0).1 (loopAt f35 0).2, g17_s_1 c, { next := 1, objs := [(0, { elem := 37, sz := 1, cells := List.flatMap T.cells (List.replicate c.n T.nils) })] }, [(ctT c).ref 0, T.osl 0 1 0 c.n, T.slf false c.n fun i => lnT (c.line i), T.int .i64 (↑c.n : Int), T.int .i64 0], 160) := by kernel_rfl
def g17_0_1 (c : Ct) (x22 x23 : Int) (H : Hp) : List Bool := [true, true, decide (0 ≤ x23), decide (x23 < (↑c.n : Int)), true, decide (x23 < x22)]
def r17_0 (c : Ct) (x22 x23 : Int) (H : Hp) (fr : List T) (ds : List Bool) : RD Out := runK prog D15 F17 2000 (.code (loopAt f35 0).1) (.lp :: (loopAt f35 0).2) 0 (frK [1, 3, 21, 22, 23] [(ctT c).ref 0, T.osl 0 1 0 c.n, T.slf false c.n fun i => lnT (c.line i), T.int .i64 x22, T.int .i64 x23] fr 160) H ds []
theorem w17_0_1 (c : Ct) (x22 x23 : Int) (H : Hp) (fr : List T) : outK prog f35 20 [1, 3, 4, 21, 22, 23, 29, 30, 31] (r17_0 c x22 x23 H fr [true])
  = some (OutT.loop 0 (loopAt f35 1).1 (loopAt f35 1).2, g17_0_1 c x22 x23 H, H, [(ctT c).ref 0, T.osl 0 1 0 c.n, T.int .i64 x23, T.slf false c.n fun i => lnT (c.line i), T.int .i64 x22, T.int .i64 x23, T.slf false (c.line x23.toNat).k fun i => spT ((c.line x23.toNat).from_ i), T.int .i64 (↑(c.line x23.toNat).k : Int), T.int .i64 0], 160) := by kernel_rfl
def g17_0_2 (c : Ct) (x22 x23 : Int) (H : Hp) : List Bool := [!decide (x23 < x22)]
theorem w17_0_2 (c : Ct) (x22 x23 : Int) (H : Hp) (fr : List T) : outK prog f35 20 [1, 3, 55, 56, 57] (r17_0 c x22 x23 H fr [false])
  = some (OutT.loop 1 (loopAt f35 2).1 (loopAt f35 2).2, g17_0_2 c x22 x23 H, H, [(ctT c).ref 0, T.osl 0 1 0 c.n, T.slf false c.n fun i => lnT (c.line i), T.int .i64 (↑c.n : Int), T.int .i64 0], 160) := by kernel_rfl
def k17_1_0 (c : Ct) (x4 x22 x23 x30 x31 : Int) (H : Hp) : List Bool := [obIn H 0 ((0 + bs c.n fun i => cmpS (c.line i).st ((c.line x23.toNat).from_ x31.toNat)) * 1 + 1), true, true, decide ((↑(bs c.n fun i => cmpS (c.line i).st ((c.line x23.toNat).from_ x31.toNat)) : Int) < (↑c.n : Int)), isV (T.slf false c.n fun i => lnT (c.line i)) (lsT c.n c.line), isV (spT ((c.line x23.toNat).from_ x31.toNat)) (spT ((c.line x23.toNat).from_ x31.toNat)), modestB c.n c.line, true, true, decide (0 ≤ x31), decide (x31 < (↑(c.line x23.toNat).k : Int)), true, decide (x31 < x30)]
def g17_1_1 (c : Ct) (x4 x22 x23 x30 x31 : Int) (H : Hp) : List Bool := true :: (obIn (H.new { elem := 3, sz := 1, cells := [T.int .i64 x4] }) 0 ((0 + bs c.n fun i => cmpS (c.line i).st ((c.line x23.toNat).from_ x31.toNat)) * 1 + 1)) :: true :: true :: (decide ((↑(bs c.n fun i => cmpS (c.line i).st ((c.line x23.toNat).from_ x31.toNat)) : Int) < (↑c.n : Int))) :: true :: true :: true :: (isNils ((obv H 0).cells.getD ((0 + bs c.n fun i => cmpS (c.line i).st ((c.line x23.toNat).from_ x31.toNat)) * 1) undefT)) :: k17_1_0 c x4 x22 x23 x30 x31 H
def r17_1 (c : Ct) (x4 x22 x23 x30 x31 : Int) (H : Hp) (fr : List T) (ds : List Bool) : RD Out := runK prog D15 F17 2000 (.code (loopAt f35 1).1) (.lp :: (loopAt f35 1).2) 0 (frK [1, 3, 4, 21, 22, 23, 29, 30, 31] [(ctT c).ref 0, T.osl 0 1 0 c.n, T.int .i64 x4, T.slf false c.n fun i => lnT (c.line i), T.int .i64 x22, T.int .i64 x23, T.slf false (c.line x23.toNat).k fun i => spT ((c.line x23.toNat).from_ i), T.int .i64 x30, T.int .i64 x31] fr 160) H ds []
theorem w17_1_1 (c : Ct) (x4 x22 x23 x30 x31 : Int) (H : Hp) (fr : List T) : outK prog f35 20 [1, 3, 4, 21, 22, 23, 29, 30, 31] (r17_1 c x4 x22 x23 x30 x31 H fr [true, true])
  = some (OutT.again 0, g17_1_1 c x4 x22 x23 x30 x31 H, { next := H.next + 1, objs := setOb ((H.next, { elem := 3, sz := 1, cells := [T.int .i64 x4] }) :: H.objs) 0 (have __src := obv (H.new { elem := 3, sz := 1, cells := [T.int .i64 x4] }) 0; { elem := __src.elem, sz := __src.sz, cells := spliceT (obv (H.new { elem := 3, sz := 1, cells := [T.int .i64 x4] }) 0).cells ((0 + bs c.n fun i => cmpS (c.line i).st ((c.line x23.toNat).from_ x31.toNat)) * 1) [T.osl H.next 1 0 1] }) }, [(ctT c).ref 0, T.osl 0 1 0 c.n, T.int .i64 x4, T.slf false c.n fun i => lnT (c.line i), T.int .i64 x22, T.int .i64 x23, T.slf false (c.line x23.toNat).k fun i => spT ((c.line x23.toNat).from_ i), T.int .i64 x30, T.int .i64 (IntKind.i64.wrap (x31 + 1))], 160) := by kernel_rfl
def g17_1_2 (c : Ct) (x4 x22 x23 x30 x31 : Int) (H : Hp) : List Bool := true :: (obIn ((H.drop (oslL ((obv H 0).cells.getD ((0 + bs c.n fun i => cmpS (c.line i).st ((c.line x23.toNat).from_ x31.toNat)) * 1) undefT))).new { elem := 3, sz := 1, cells := (obv H (oslL ((obv H 0).cells.getD ((0 + bs c.n fun i => cmpS (c.line i).st ((c.line x23.toNat).from_ x31.toNat)) * 1) undefT))).cells ++ [T.int .i64 x4] }) 0 ((0 + bs c.n fun i => cmpS (c.line i).st ((c.line x23.toNat).from_ x31.toNat)) * 1 + 1)) :: true :: true :: (decide ((↑(bs c.n fun i => cmpS (c.line i).st ((c.line x23.toNat).from_ x31.toNat)) : Int) < (↑c.n : Int))) :: true :: true :: (obApp H (oslL ((obv H 0).cells.getD ((0 + bs c.n fun i => cmpS (c.line i).st ((c.line x23.toNat).from_ x31.toNat)) * 1) undefT)) 3 1 (oslN ((obv H 0).cells.getD ((0 + bs c.n fun i => cmpS (c.line i).st ((c.line x23.toNat).from_ x31.toNat)) * 1) undefT))) :: (roomT (oslN ((obv H 0).cells.getD ((0 + bs c.n fun i => cmpS (c.line i).st ((c.line x23.toNat).from_ x31.toNat)) * 1) undefT) + 1) 8) :: (isOsl1 ((obv H 0).cells.getD ((0 + bs c.n fun i => cmpS (c.line i).st ((c.line x23.toNat).from_ x31.toNat)) * 1) undefT)) :: k17_1_0 c x4 x22 x23 x30 x31 H
theorem w17_1_2 (c : Ct) (x4 x22 x23 x30 x31 : Int) (H : Hp) (fr : List T) : outK prog f35 20 [1, 3, 4, 21, 22, 23, 29, 30, 31] (r17_1 c x4 x22 x23 x30 x31 H fr [true, false])
  = some (OutT.again 0, g17_1_2 c x4 x22 x23 x30 x31 H, { next := H.next + 1, objs := setOb ((H.next, { elem := 3, sz := 1, cells := (obv H (oslL ((obv H 0).cells.getD ((0 + bs c.n fun i => cmpS (c.line i).st ((c.line x23.toNat).from_ x31.toNat)) * 1) undefT))).cells ++ [T.int .i64 x4] }) :: dropOb H.objs (oslL ((obv H 0).cells.getD ((0 + bs c.n fun i => cmpS (c.line i).st ((c.line x23.toNat).from_ x31.toNat)) * 1) undefT))) 0 (have __src := obv ((H.drop (oslL ((obv H 0).cells.getD ((0 + bs c.n fun i => cmpS (c.line i).st ((c.line x23.toNat).from_ x31.toNat)) * 1) undefT))).new { elem := 3, sz := 1, cells := (obv H (oslL ((obv H 0).cells.getD ((0 + bs c.n fun i => cmpS (c.line i).st ((c.line x23.toNat).from_ x31.toNat)) * 1) undefT))).cells ++ [T.int .i64 x4] }) 0; { elem := __src.elem, sz := __src.sz, cells := spliceT (obv ((H.drop (oslL ((obv H 0).cells.getD ((0 + bs c.n fun i => cmpS (c.line i).st ((c.line x23.toNat).from_ x31.toNat)) * 1) undefT))).new { elem := 3, sz := 1, cells := (obv H (oslL ((obv H 0).cells.getD ((0 + bs c.n fun i => cmpS (c.line i).st ((c.line x23.toNat).from_ x31.toNat)) * 1) undefT))).cells ++ [T.int .i64 x4] }) 0).cells ((0 + bs c.n fun i => cmpS (c.line i).st ((c.line x23.toNat).from_ x31.toNat)) * 1) [T.osl H.next 1 0 (oslN ((obv H 0).cells.getD ((0 + bs c.n fun i => cmpS (c.line i).st ((c.line x23.toNat).from_ x31.toNat)) * 1) undefT) + 1)] }) }, [(ctT c).ref 0, T.osl 0 1 0 c.n, T.int .i64 x4, T.slf false c.n fun i => lnT (c.line i), T.int .i64 x22, T.int .i64 x23, T.slf false (c.line x23.toNat).k fun i => spT ((c.line x23.toNat).from_ i), T.int .i64 x30, T.int .i64 (IntKind.i64.wrap (x31 + 1))], 160) := by kernel_rfl
def g17_1_3 (c : Ct) (x4 x22 x23 x30 x31 : Int) (H : Hp) : List Bool := [!decide (x31 < x30)]
theorem w17_1_3 (c : Ct) (x4 x22 x23 x30 x31 : Int) (H : Hp) (fr : List T) : outK prog f35 20 [1, 3, 21, 22, 23] (r17_1 c x4 x22 x23 x30 x31 H fr [false])
  = some (OutT.again 1, g17_1_3 c x4 x22 x23 x30 x31 H, H, [(ctT c).ref 0, T.osl 0 1 0 c.n, T.slf false c.n fun i => lnT (c.line i), T.int .i64 x22, T.int .i64 (IntKind.i64.wrap (x23 + 1))], 160) := by kernel_rfl
def k17_2_0 (c : Ct) (x56 x57 : Int) (rows : Nat → List Int) (NX : Nat) : List Bool := let y0 := decide (0 ≤ x57); let y1 := decide (x57 < (↑c.n : Int)); [isV (T.slf false (rows x57.toNat).length fun j => T.int .i64 ((rows x57.toNat).getD j 0)) (isT (rows x57.toNat).length fun i => (rows x57.toNat).getD i 0), isV (ctT c) (ctT c), decide ((rows x57.toNat).length ≤ 281474976710656), decide (∀ (i : Nat), i < (rows x57.toNat).length → 0 ≤ (rows x57.toNat).getD i 0 ∧ (rows x57.toNat).getD i 0 < (↑c.n : Int)), y0, y1, true, true, true, y0, y1, true, decide (x57 < x56)]
def k17_2_1 (c : Ct) (x56 x57 : Int) (rows : Nat → List Int) (NX : Nat) : List Bool := (decide (0 ≤ x57)) :: (decide (x57 < (↑c.n : Int))) :: true :: ((c.line x57.toNat).fate == 1) :: k17_2_0 c x56 x57 rows NX
def k17_2_2 (c : Ct) (x56 x57 : Int) (rows : Nat → List Int) (NX : Nat) : List Bool := let y0 := (↑(rows x57.toNat).length : Int) == 0; (!y0) :: (!y0) :: k17_2_1 c x56 x57 rows NX
def k17_2_3 (c : Ct) (x56 x57 : Int) (rows : Nat → List Int) (NX : Nat) : List Bool := (decide (0 ≤ x57)) :: (decide (x57 < (↑c.n : Int))) :: true :: ((c.line x57.toNat).closed == 5) :: (!(c.line x57.toNat).fate == 1) :: k17_2_0 c x56 x57 rows NX
def k17_2_4 (c : Ct) (x56 x57 : Int) (rows : Nat → List Int) (NX : Nat) : List Bool := let y0 := (↑(rows x57.toNat).length : Int) != 1; (!y0) :: (!y0) :: k17_2_3 c x56 x57 rows NX
def k17_2_5 (c : Ct) (x56 x57 : Int) (rows : Nat → List Int) (NX : Nat) : List Bool := let y0 := any (rows x57.toNat).length fun i => (↑(c.line ((rows x57.toNat).getD i 0).toNat).k : Int) != 1; (!y0) :: (!y0) :: (isV (spT (c.line ((rows x57.toNat).getD 0 0).toNat).st) (spT (c.line ((rows x57.toNat).getD 0 0).toNat).st)) :: (!y0) :: (!y0) :: (!y0) :: (decide (0 ≤ (rows x57.toNat).getD 0 0)) :: (decide ((rows x57.toNat).getD 0 0 < (↑c.n : Int))) :: true :: (!y0) :: (!y0) :: true :: (decide (0 < (↑(rows x57.toNat).length : Int))) :: true :: (!y0) :: (!y0) :: (decide (0 ≤ x57)) :: (decide (x57 < (↑c.n : Int))) :: true :: (!y0) :: (!y0) :: (!y0) :: (!y0) :: (!y0) :: k17_2_4 c x56 x57 rows NX
def k17_2_6 (c : Ct) (x56 x57 : Int) (rows : Nat → List Int) (NX : Nat) : List Bool := (!(c.line x57.toNat).closed == 5) :: (!(c.line x57.toNat).fate == 1) :: k17_2_0 c x56 x57 rows NX
def k17_2_7 (c : Ct) (x56 x57 : Int) (rows : Nat → List Int) (NX : Nat) : List Bool := (decide (0 ≤ x57)) :: (decide (x57 < (↑c.n : Int))) :: true :: ((c.line x57.toNat).fate == 2) :: k17_2_6 c x56 x57 rows NX
def k17_2_8 (c : Ct) (x56 x57 : Int) (rows : Nat → List Int) (NX : Nat) : List Bool := (decide (0 ≤ x57)) :: (decide (x57 < (↑c.n : Int))) :: true :: (!(c.line x57.toNat).fate == 2) :: k17_2_6 c x56 x57 rows NX
def g17_2_1 (c : Ct) (x56 x57 : Int) (rows : Nat → List Int) (NX : Nat) : List Bool := let y0 := (↑(rows x57.toNat).length : Int) == 0; true :: y0 :: y0 :: k17_2_1 c x56 x57 rows NX
def r17_2 (c : Ct) (x56 x57 : Int) (rows : Nat → List Int) (NX : Nat) (fr : List T) (ds : List Bool) : RD Out := runK prog D15 F17 2000 (.code (loopAt f35 2).1) (.lp :: (loopAt f35 2).2) 0 (frK [1, 3, 55, 56, 57] [(ctT c).ref 0, T.slf false c.n fun k => T.slf false (rows k).length fun j => T.int .i64 ((rows k).getD j 0), T.slf false c.n fun i => lnT (c.line i), T.int .i64 x56, T.int .i64 x57] fr 160) { next := NX, objs := [] } ds []
theorem w17_2_1 (c : Ct) (x56 x57 : Int) (rows : Nat → List Int) (NX : Nat) (fr : List T) : outK prog f35 20 [] (r17_2 c x56 x57 rows NX fr (bt 5 31))
  = some (OutT.done (some (T.int .i64 10)), g17_2_1 c x56 x57 rows NX, ⟨0, []⟩, [], 0) := by kernel_rfl
def g17_2_2 (c : Ct) (x56 x57 : Int) (rows : Nat → List Int) (NX : Nat) : List Bool := (any (rows x57.toNat).length fun i => (↑(c.line ((rows x57.toNat).getD i 0).toNat).k : Int) != 1) :: k17_2_2 c x56 x57 rows NX
theorem w17_2_2 (c : Ct) (x56 x57 : Int) (rows : Nat → List Int) (NX : Nat) (fr : List T) : outK prog f35 20 [] (r17_2 c x56 x57 rows NX fr (bt 5 19))
  = some (OutT.done (some (T.int .i64 10)), g17_2_2 c x56 x57 rows NX, ⟨0, []⟩, [], 0) := by kernel_rfl
def g17_2_3 (c : Ct) (x56 x57 : Int) (rows : Nat → List Int) (NX : Nat) : List Bool := (decide (0 ≤ x57)) :: (decide (x57 < (↑c.n : Int))) :: true :: (!any (rows x57.toNat).length fun i => (↑(c.line ((rows x57.toNat).getD i 0).toNat).k : Int) != 1) :: k17_2_2 c x56 x57 rows NX
theorem w17_2_3 (c : Ct) (x56 x57 : Int) (rows : Nat → List Int) (NX : Nat) (fr : List T) : outK prog f35 20 [1, 3, 10, 55, 56, 57, 137, 138, 139] (r17_2 c x56 x57 rows NX fr (bt 5 3))
  = some (OutT.loop 0 (loopAt f35 3).1 (loopAt f35 3).2, g17_2_3 c x56 x57 rows NX, { next := NX, objs := [] }, [(ctT c).ref 0, T.slf false c.n fun k => T.slf false (rows k).length fun j => T.int .i64 ((rows k).getD j 0), T.int .i64 x57, T.slf false c.n fun i => lnT (c.line i), T.int .i64 x56, T.int .i64 x57, T.slf false (shN (c.line x57.toNat).mass (↑(rows x57.toNat).length : Int)) fun i => T.int .i64 (shI (c.line x57.toNat).mass (↑(rows x57.toNat).length : Int) i), T.int .i64 (↑(shN (c.line x57.toNat).mass (↑(rows x57.toNat).length : Int)) : Int), T.int .i64 0], 160) := by kernel_rfl
def g17_2_4 (c : Ct) (x56 x57 : Int) (rows : Nat → List Int) (NX : Nat) : List Bool := let y0 := (↑(rows x57.toNat).length : Int) != 1; true :: true :: true :: true :: true :: true :: true :: true :: true :: true :: true :: true :: true :: true :: true :: y0 :: y0 :: k17_2_3 c x56 x57 rows NX
theorem w17_2_4 (c : Ct) (x56 x57 : Int) (rows : Nat → List Int) (NX : Nat) (fr : List T) : outK prog f35 20 [] (r17_2 c x56 x57 rows NX fr (bt 20 1048573))
  = some (OutT.done (some (T.int .i64 10)), g17_2_4 c x56 x57 rows NX, ⟨0, []⟩, [], 0) := by kernel_rfl
def g17_2_5 (c : Ct) (x56 x57 : Int) (rows : Nat → List Int) (NX : Nat) : List Bool := let y0 := any (rows x57.toNat).length fun i => (↑(c.line ((rows x57.toNat).getD i 0).toNat).k : Int) != 1; true :: y0 :: y0 :: y0 :: y0 :: y0 :: y0 :: y0 :: y0 :: y0 :: y0 :: y0 :: y0 :: y0 :: y0 :: k17_2_4 c x56 x57 rows NX
theorem w17_2_5 (c : Ct) (x56 x57 : Int) (rows : Nat → List Int) (NX : Nat) (fr : List T) : outK prog f35 20 [] (r17_2 c x56 x57 rows NX fr (bt 20 1048549))
  = some (OutT.done (some (T.int .i64 10)), g17_2_5 c x56 x57 rows NX, ⟨0, []⟩, [], 0) := by kernel_rfl
def g17_2_6 (c : Ct) (x56 x57 : Int) (rows : Nat → List Int) (NX : Nat) : List Bool := (!arr (c.line ((rows x57.toNat).getD 0 0).toNat).st) :: k17_2_5 c x56 x57 rows NX
theorem w17_2_6 (c : Ct) (x56 x57 : Int) (rows : Nat → List Int) (NX : Nat) (fr : List T) : outK prog f35 20 [] (r17_2 c x56 x57 rows NX fr (bt 20 524293))
  = some (OutT.done (some (T.int .i64 10)), g17_2_6 c x56 x57 rows NX, ⟨0, []⟩, [], 0) := by kernel_rfl
def g17_2_7 (c : Ct) (x56 x57 : Int) (rows : Nat → List Int) (NX : Nat) : List Bool := (!!arr (c.line ((rows x57.toNat).getD 0 0).toNat).st) :: k17_2_5 c x56 x57 rows NX
theorem w17_2_7 (c : Ct) (x56 x57 : Int) (rows : Nat → List Int) (NX : Nat) (fr : List T) : outK prog f35 20 [1, 3, 10, 55, 56, 57, 137, 138, 139] (r17_2 c x56 x57 rows NX fr (bt 20 5))
  = some (OutT.loop 0 (loopAt f35 3).1 (loopAt f35 3).2, g17_2_7 c x56 x57 rows NX, { next := NX, objs := [] }, [(ctT c).ref 0, T.slf false c.n fun k => T.slf false (rows k).length fun j => T.int .i64 ((rows k).getD j 0), T.int .i64 x57, T.slf false c.n fun i => lnT (c.line i), T.int .i64 x56, T.int .i64 x57, T.sl true [T.int .i64 (c.line x57.toNat).mass], T.int .i64 (↑1 : Int), T.int .i64 0], 160) := by kernel_rfl
def g17_2_8 (c : Ct) (x56 x57 : Int) (rows : Nat → List Int) (NX : Nat) : List Bool := ((↑(rows x57.toNat).length : Int) != 1) :: k17_2_7 c x56 x57 rows NX
theorem w17_2_8 (c : Ct) (x56 x57 : Int) (rows : Nat → List Int) (NX : Nat) (fr : List T) : outK prog f35 20 [] (r17_2 c x56 x57 rows NX fr (bt 5 25))
  = some (OutT.done (some (T.int .i64 10)), g17_2_8 c x56 x57 rows NX, ⟨0, []⟩, [], 0) := by kernel_rfl
def g17_2_9 (c : Ct) (x56 x57 : Int) (rows : Nat → List Int) (NX : Nat) : List Bool := (!(↑(rows x57.toNat).length : Int) != 1) :: k17_2_7 c x56 x57 rows NX
theorem w17_2_9 (c : Ct) (x56 x57 : Int) (rows : Nat → List Int) (NX : Nat) (fr : List T) : outK prog f35 20 [1, 3, 10, 55, 56, 57, 137, 138, 139] (r17_2 c x56 x57 rows NX fr (bt 5 9))
  = some (OutT.loop 0 (loopAt f35 3).1 (loopAt f35 3).2, g17_2_9 c x56 x57 rows NX, { next := NX, objs := [] }, [(ctT c).ref 0, T.slf false c.n fun k => T.slf false (rows k).length fun j => T.int .i64 ((rows k).getD j 0), T.int .i64 x57, T.slf false c.n fun i => lnT (c.line i), T.int .i64 x56, T.int .i64 x57, T.nils, T.int .i64 0, T.int .i64 0], 160) := by kernel_rfl
def g17_2_10 (c : Ct) (x56 x57 : Int) (rows : Nat → List Int) (NX : Nat) : List Bool := (decide ((↑(rows x57.toNat).length : Int) > 0)) :: k17_2_8 c x56 x57 rows NX
theorem w17_2_10 (c : Ct) (x56 x57 : Int) (rows : Nat → List Int) (NX : Nat) (fr : List T) : outK prog f35 20 [] (r17_2 c x56 x57 rows NX fr (bt 5 17))
  = some (OutT.done (some (T.int .i64 10)), g17_2_10 c x56 x57 rows NX, ⟨0, []⟩, [], 0) := by kernel_rfl
def g17_2_11 (c : Ct) (x56 x57 : Int) (rows : Nat → List Int) (NX : Nat) : List Bool := (!decide ((↑(rows x57.toNat).length : Int) > 0)) :: k17_2_8 c x56 x57 rows NX
theorem w17_2_11 (c : Ct) (x56 x57 : Int) (rows : Nat → List Int) (NX : Nat) (fr : List T) : outK prog f35 20 [1, 3, 10, 55, 56, 57, 137, 138, 139] (r17_2 c x56 x57 rows NX fr (bt 5 1))
  = some (OutT.loop 0 (loopAt f35 3).1 (loopAt f35 3).2, g17_2_11 c x56 x57 rows NX, { next := NX, objs := [] }, [(ctT c).ref 0, T.slf false c.n fun k => T.slf false (rows k).length fun j => T.int .i64 ((rows k).getD j 0), T.int .i64 x57, T.slf false c.n fun i => lnT (c.line i), T.int .i64 x56, T.int .i64 x57, T.nils, T.int .i64 0, T.int .i64 0], 160) := by kernel_rfl
def g17_2_12 (c : Ct) (x56 x57 : Int) (rows : Nat → List Int) (NX : Nat) : List Bool := [!decide (x57 < x56)]
theorem w17_2_12 (c : Ct) (x56 x57 : Int) (rows : Nat → List Int) (NX : Nat) (fr : List T) : outK prog f35 20 [] (r17_2 c x56 x57 rows NX fr [false])
  = some (OutT.done (some (T.int .i64 0)), g17_2_12 c x56 x57 rows NX, ⟨0, []⟩, [], 0) := by kernel_rfl
def k17_3f_0 (c : Ct) (x10 x56 x57 x138 x139 : Int) (rows : Nat → List Int) (NX : Nat) : List Bool := let y0 := decide (0 ≤ x139); [decide (0 ≤ (rows x10.toNat).getD x139.toNat 0), decide ((rows x10.toNat).getD x139.toNat 0 < (↑c.n : Int)), true, y0, decide (x139 < (↑(rows x10.toNat).length : Int)), true, decide (0 ≤ x10), decide (x10 < (↑c.n : Int)), true, y0, decide (x139 < (↑(shN (c.line x57.toNat).mass (↑(rows x57.toNat).length : Int)) : Int)), true, decide (x139 < x138)]
def g17_3f_1 (c : Ct) (x10 x56 x57 x138 x139 : Int) (rows : Nat → List Int) (NX : Nat) : List Bool := ((c.line ((rows x10.toNat).getD x139.toNat 0).toNat).mass != shI (c.line x57.toNat).mass (↑(rows x57.toNat).length : Int) x139.toNat) :: k17_3f_0 c x10 x56 x57 x138 x139 rows NX
def r17_3f (c : Ct) (x10 x56 x57 x138 x139 : Int) (rows : Nat → List Int) (NX : Nat) (fr : List T) (ds : List Bool) : RD Out := runK prog D15 F17 2000 (.code (loopAt f35 3).1) (.lp :: (loopAt f35 3).2) 0 (frK [1, 3, 10, 55, 56, 57, 137, 138, 139] [(ctT c).ref 0, T.slf false c.n fun k => T.slf false (rows k).length fun j => T.int .i64 ((rows k).getD j 0), T.int .i64 x10, T.slf false c.n fun i => lnT (c.line i), T.int .i64 x56, T.int .i64 x57, T.slf false (shN (c.line x57.toNat).mass (↑(rows x57.toNat).length : Int)) fun i => T.int .i64 (shI (c.line x57.toNat).mass (↑(rows x57.toNat).length : Int) i), T.int .i64 x138, T.int .i64 x139] fr 160) { next := NX, objs := [] } ds []
theorem w17_3f_1 (c : Ct) (x10 x56 x57 x138 x139 : Int) (rows : Nat → List Int) (NX : Nat) (fr : List T) : outK prog f35 20 [] (r17_3f c x10 x56 x57 x138 x139 rows NX fr [true, true])
  = some (OutT.done (some (T.int .i64 38)), g17_3f_1 c x10 x56 x57 x138 x139 rows NX, ⟨0, []⟩, [], 0) := by kernel_rfl
def g17_3f_2 (c : Ct) (x10 x56 x57 x138 x139 : Int) (rows : Nat → List Int) (NX : Nat) : List Bool := (!(c.line ((rows x10.toNat).getD x139.toNat 0).toNat).mass != shI (c.line x57.toNat).mass (↑(rows x57.toNat).length : Int) x139.toNat) :: k17_3f_0 c x10 x56 x57 x138 x139 rows NX
theorem w17_3f_2 (c : Ct) (x10 x56 x57 x138 x139 : Int) (rows : Nat → List Int) (NX : Nat) (fr : List T) : outK prog f35 20 [1, 3, 10, 55, 56, 57, 137, 138, 139] (r17_3f c x10 x56 x57 x138 x139 rows NX fr [true, false])
  = some (OutT.again 0, g17_3f_2 c x10 x56 x57 x138 x139 rows NX, { next := NX, objs := [] }, [(ctT c).ref 0, T.slf false c.n fun k => T.slf false (rows k).length fun j => T.int .i64 ((rows k).getD j 0), T.int .i64 x10, T.slf false c.n fun i => lnT (c.line i), T.int .i64 x56, T.int .i64 x57, T.slf false (shN (c.line x57.toNat).mass (↑(rows x57.toNat).length : Int)) fun i => T.int .i64 (shI (c.line x57.toNat).mass (↑(rows x57.toNat).length : Int) i), T.int .i64 x138, T.int .i64 (IntKind.i64.wrap (x139 + 1))], 160) := by kernel_rfl
def g17_3f_3 (c : Ct) (x10 x56 x57 x138 x139 : Int) (rows : Nat → List Int) (NX : Nat) : List Bool := [!decide (x139 < x138)]
theorem w17_3f_3 (c : Ct) (x10 x56 x57 x138 x139 : Int) (rows : Nat → List Int) (NX : Nat) (fr : List T) : outK prog f35 20 [1, 3, 55, 56, 57] (r17_3f c x10 x56 x57 x138 x139 rows NX fr [false])
  = some (OutT.again 1, g17_3f_3 c x10 x56 x57 x138 x139 rows NX, { next := NX, objs := [] }, [(ctT c).ref 0, T.slf false c.n fun k => T.slf false (rows k).length fun j => T.int .i64 ((rows k).getD j 0), T.slf false c.n fun i => lnT (c.line i), T.int .i64 x56, T.int .i64 (IntKind.i64.wrap (x57 + 1))], 160) := by kernel_rfl
def k17_3s1_0_0 (c : Ct) (x10 x56 x57 : Int) (rows : Nat → List Int) (NX : Nat) : List Bool := [decide (0 ≤ (rows x10.toNat).getD 0 0), decide ((rows x10.toNat).getD 0 0 < (↑c.n : Int)), true, true, decide (0 < (↑(rows x10.toNat).length : Int)), true, decide (0 ≤ x10), decide (x10 < (↑c.n : Int)), true, true, true, true, true]
def g17_3s1_0_1 (c : Ct) (x10 x56 x57 : Int) (rows : Nat → List Int) (NX : Nat) : List Bool := ((c.line ((rows x10.toNat).getD 0 0).toNat).mass != (c.line x57.toNat).mass) :: k17_3s1_0_0 c x10 x56 x57 rows NX
def r17_3s1_0 (c : Ct) (x10 x56 x57 : Int) (rows : Nat → List Int) (NX : Nat) (fr : List T) (ds : List Bool) : RD Out := runK prog D15 F17 2000 (.code (loopAt f35 3).1) (.lp :: (loopAt f35 3).2) 0 (frK [1, 3, 10, 55, 56, 57, 137, 138, 139] [(ctT c).ref 0, T.slf false c.n fun k => T.slf false (rows k).length fun j => T.int .i64 ((rows k).getD j 0), T.int .i64 x10, T.slf false c.n fun i => lnT (c.line i), T.int .i64 x56, T.int .i64 x57, T.sl true [T.int .i64 (c.line x57.toNat).mass], T.int .i64 1, T.int .i64 0] fr 160) { next := NX, objs := [] } ds []
theorem w17_3s1_0_1 (c : Ct) (x10 x56 x57 : Int) (rows : Nat → List Int) (NX : Nat) (fr : List T) : outK prog f35 20 [] (r17_3s1_0 c x10 x56 x57 rows NX fr [true, true])
  = some (OutT.done (some (T.int .i64 38)), g17_3s1_0_1 c x10 x56 x57 rows NX, ⟨0, []⟩, [], 0) := by kernel_rfl
def g17_3s1_0_2 (c : Ct) (x10 x56 x57 : Int) (rows : Nat → List Int) (NX : Nat) : List Bool := (!(c.line ((rows x10.toNat).getD 0 0).toNat).mass != (c.line x57.toNat).mass) :: k17_3s1_0_0 c x10 x56 x57 rows NX
theorem w17_3s1_0_2 (c : Ct) (x10 x56 x57 : Int) (rows : Nat → List Int) (NX : Nat) (fr : List T) : outK prog f35 20 [1, 3, 10, 55, 56, 57, 137, 138, 139] (r17_3s1_0 c x10 x56 x57 rows NX fr [true, false])
  = some (OutT.again 0, g17_3s1_0_2 c x10 x56 x57 rows NX, { next := NX, objs := [] }, [(ctT c).ref 0, T.slf false c.n fun k => T.slf false (rows k).length fun j => T.int .i64 ((rows k).getD j 0), T.int .i64 x10, T.slf false c.n fun i => lnT (c.line i), T.int .i64 x56, T.int .i64 x57, T.sl true [T.int .i64 (c.line x57.toNat).mass], T.int .i64 1, T.int .i64 (IntKind.i64.wrap (0 + 1))], 160) := by kernel_rfl
def g17_3n0_0_1 (c : Ct) (x10 x56 x57 : Int) (rows : Nat → List Int) (NX : Nat) : List Bool := [true]
theorem w17_3n0_0_1 (c : Ct) (x10 x56 x57 : Int) (rows : Nat → List Int) (NX : Nat) (fr : List T) : outK prog f35 20 [1, 3, 55, 56, 57] (runK prog D15 F17 2000 (.code (loopAt f35 3).1) (.lp :: (loopAt f35 3).2) 0 (frK [1, 3, 10, 55, 56, 57, 137, 138, 139] [(ctT c).ref 0, T.slf false c.n fun k => T.slf false (rows k).length fun j => T.int .i64 ((rows k).getD j 0), T.int .i64 x10, T.slf false c.n fun i => lnT (c.line i), T.int .i64 x56, T.int .i64 x57, T.nils, T.int .i64 0, T.int .i64 0] fr 160) { next := NX, objs := [] } [false] [])
  = some (OutT.again 1, g17_3n0_0_1 c x10 x56 x57 rows NX, { next := NX, objs := [] }, [(ctT c).ref 0, T.slf false c.n fun k => T.slf false (rows k).length fun j => T.int .i64 ((rows k).getD j 0), T.slf false c.n fun i => lnT (c.line i), T.int .i64 x56, T.int .i64 (IntKind.i64.wrap (x57 + 1))], 160) := by kernel_rfl
def g17_3s1_1_1 (c : Ct) (x10 x56 x57 : Int) (rows : Nat → List Int) (NX : Nat) : List Bool := [true]
theorem w17_3s1_1_1 (c : Ct) (x10 x56 x57 : Int) (rows : Nat → List Int) (NX : Nat) (fr : List T) : outK prog f35 20 [1, 3, 55, 56, 57] (runK prog D15 F17 2000 (.code (loopAt f35 3).1) (.lp :: (loopAt f35 3).2) 0 (frK [1, 3, 10, 55, 56, 57, 137, 138, 139] [(ctT c).ref 0, T.slf false c.n fun k => T.slf false (rows k).length fun j => T.int .i64 ((rows k).getD j 0), T.int .i64 x10, T.slf false c.n fun i => lnT (c.line i), T.int .i64 x56, T.int .i64 x57, T.sl true [T.int .i64 (c.line x57.toNat).mass], T.int .i64 1, T.int .i64 1] fr 160) { next := NX, objs := [] } [false] [])
  = some (OutT.again 1, g17_3s1_1_1 c x10 x56 x57 rows NX, { next := NX, objs := [] }, [(ctT c).ref 0, T.slf false c.n fun k => T.slf false (rows k).length fun j => T.int .i64 ((rows k).getD j 0), T.slf false c.n fun i => lnT (c.line i), T.int .i64 x56, T.int .i64 (IntKind.i64.wrap (x57 + 1))], 160) := by kernel_rfl
def step17_0 (c : Ct) (x22 x23 : Int) (H : Hp) : Option (S17 ⊕ T) :=
 (if decide (x23 < x22) then (if allT (g17_0_1 c x22 x23 H) then some (.inl (.l1 x23 x22 x23 (↑(c.line x23.toNat).k : Int) 0 H)) else none) else (if (allT (g17_0_2 c x22 x23 H) && pB (rowsOk c.n H)) then some (.inl (.l2 (↑c.n : Int) 0 (rowsOf H) H.next)) else none))
def V17_0 (c : Ct) (x22 x23 : Int) (H : Hp) : S17 ⊕ T :=
 (if decide (x23 < x22) then (.inl (.l1 x23 x22 x23 (↑(c.line x23.toNat).k : Int) 0 H)) else (.inl (.l2 (↑c.n : Int) 0 (rowsOf H) H.next)))
def K17_0 (c : Ct) (x22 x23 : Int) (H : Hp) : Bool :=
 (if decide (x23 < x22) then (allT (g17_0_1 c x22 x23 H)) else (allT (g17_0_2 c x22 x23 H) && pB (rowsOk c.n H)))
theorem T17_0 (c : Ct) (x22 x23 : Int) (H : Hp) (hk : K17_0 c x22 x23 H = true) : step17_0 c x22 x23 H = some (V17_0 c x22 x23 H) :=
 (tree_if tree_leaf tree_leaf) hk
def step17_1 (c : Ct) (x4 x22 x23 x30 x31 : Int) (H : Hp) : Option (S17 ⊕ T) :=
 (if decide (x31 < x30) then (if isNils ((obv H 0).cells.getD ((0 + bs c.n fun i => cmpS (c.line i).st ((c.line x23.toNat).from_ x31.toNat)) * 1) undefT) then (if allT (g17_1_1 c x4 x22 x23 x30 x31 H) then some (.inl (.l1 x4 x22 x23 x30 (IntKind.i64.wrap (x31 + 1)) ({ next := H.next + 1, objs := setOb ((H.next, { elem := 3, sz := 1, cells := [T.int .i64 x4] }) :: H.objs) 0 (have __src := obv (H.new { elem := 3, sz := 1, cells := [T.int .i64 x4] }) 0; { elem := __src.elem, sz := __src.sz, cells := spliceT (obv (H.new { elem := 3, sz := 1, cells := [T.int .i64 x4] }) 0).cells ((0 + bs c.n fun i => cmpS (c.line i).st ((c.line x23.toNat).from_ x31.toNat)) * 1) [T.osl H.next 1 0 1] }) }))) else none) else (if allT (g17_1_2 c x4 x22 x23 x30 x31 H) then some (.inl (.l1 x4 x22 x23 x30 (IntKind.i64.wrap (x31 + 1)) ({ next := H.next + 1, objs := setOb ((H.next, { elem := 3, sz := 1, cells := (obv H (oslL ((obv H 0).cells.getD ((0 + bs c.n fun i => cmpS (c.line i).st ((c.line x23.toNat).from_ x31.toNat)) * 1) undefT))).cells ++ [T.int .i64 x4] }) :: dropOb H.objs (oslL ((obv H 0).cells.getD ((0 + bs c.n fun i => cmpS (c.line i).st ((c.line x23.toNat).from_ x31.toNat)) * 1) undefT))) 0 (have __src := obv ((H.drop (oslL ((obv H 0).cells.getD ((0 + bs c.n fun i => cmpS (c.line i).st ((c.line x23.toNat).from_ x31.toNat)) * 1) undefT))).new { elem := 3, sz := 1, cells := (obv H (oslL ((obv H 0).cells.getD ((0 + bs c.n fun i => cmpS (c.line i).st ((c.line x23.toNat).from_ x31.toNat)) * 1) undefT))).cells ++ [T.int .i64 x4] }) 0; { elem := __src.elem, sz := __src.sz, cells := spliceT (obv ((H.drop (oslL ((obv H 0).cells.getD ((0 + bs c.n fun i => cmpS (c.line i).st ((c.line x23.toNat).from_ x31.toNat)) * 1) undefT))).new { elem := 3, sz := 1, cells := (obv H (oslL ((obv H 0).cells.getD ((0 + bs c.n fun i => cmpS (c.line i).st ((c.line x23.toNat).from_ x31.toNat)) * 1) undefT))).cells ++ [T.int .i64 x4] }) 0).cells ((0 + bs c.n fun i => cmpS (c.line i).st ((c.line x23.toNat).from_ x31.toNat)) * 1) [T.osl H.next 1 0 (oslN ((obv H 0).cells.getD ((0 + bs c.n fun i => cmpS (c.line i).st ((c.line x23.toNat).from_ x31.toNat)) * 1) undefT) + 1)] }) }))) else none)) else (if allT (g17_1_3 c x4 x22 x23 x30 x31 H) then some (.inl (.l0 x22 (IntKind.i64.wrap (x23 + 1)) H)) else none))
def V17_1 (c : Ct) (x4 x22 x23 x30 x31 : Int) (H : Hp) : S17 ⊕ T :=
 (if decide (x31 < x30) then (if isNils ((obv H 0).cells.getD ((0 + bs c.n fun i => cmpS (c.line i).st ((c.line x23.toNat).from_ x31.toNat)) * 1) undefT) then (.inl (.l1 x4 x22 x23 x30 (IntKind.i64.wrap (x31 + 1)) ({ next := H.next + 1, objs := setOb ((H.next, { elem := 3, sz := 1, cells := [T.int .i64 x4] }) :: H.objs) 0 (have __src := obv (H.new { elem := 3, sz := 1, cells := [T.int .i64 x4] }) 0; { elem := __src.elem, sz := __src.sz, cells := spliceT (obv (H.new { elem := 3, sz := 1, cells := [T.int .i64 x4] }) 0).cells ((0 + bs c.n fun i => cmpS (c.line i).st ((c.line x23.toNat).from_ x31.toNat)) * 1) [T.osl H.next 1 0 1] }) }))) else (.inl (.l1 x4 x22 x23 x30 (IntKind.i64.wrap (x31 + 1)) ({ next := H.next + 1, objs := setOb ((H.next, { elem := 3, sz := 1, cells := (obv H (oslL ((obv H 0).cells.getD ((0 + bs c.n fun i => cmpS (c.line i).st ((c.line x23.toNat).from_ x31.toNat)) * 1) undefT))).cells ++ [T.int .i64 x4] }) :: dropOb H.objs (oslL ((obv H 0).cells.getD ((0 + bs c.n fun i => cmpS (c.line i).st ((c.line x23.toNat).from_ x31.toNat)) * 1) undefT))) 0 (have __src := obv ((H.drop (oslL ((obv H 0).cells.getD ((0 + bs c.n fun i => cmpS (c.line i).st ((c.line x23.toNat).from_ x31.toNat)) * 1) undefT))).new { elem := 3, sz := 1, cells := (obv H (oslL ((obv H 0).cells.getD ((0 + bs c.n fun i => cmpS (c.line i).st ((c.line x23.toNat).from_ x31.toNat)) * 1) undefT))).cells ++ [T.int .i64 x4] }) 0; { elem := __src.elem, sz := __src.sz, cells := spliceT (obv ((H.drop (oslL ((obv H 0).cells.getD ((0 + bs c.n fun i => cmpS (c.line i).st ((c.line x23.toNat).from_ x31.toNat)) * 1) undefT))).new { elem := 3, sz := 1, cells := (obv H (oslL ((obv H 0).cells.getD ((0 + bs c.n fun i => cmpS (c.line i).st ((c.line x23.toNat).from_ x31.toNat)) * 1) undefT))).cells ++ [T.int .i64 x4] }) 0).cells ((0 + bs c.n fun i => cmpS (c.line i).st ((c.line x23.toNat).from_ x31.toNat)) * 1) [T.osl H.next 1 0 (oslN ((obv H 0).cells.getD ((0 + bs c.n fun i => cmpS (c.line i).st ((c.line x23.toNat).from_ x31.toNat)) * 1) undefT) + 1)] }) })))) else (.inl (.l0 x22 (IntKind.i64.wrap (x23 + 1)) H)))
def K17_1 (c : Ct) (x4 x22 x23 x30 x31 : Int) (H : Hp) : Bool :=
 (if decide (x31 < x30) then (if isNils ((obv H 0).cells.getD ((0 + bs c.n fun i => cmpS (c.line i).st ((c.line x23.toNat).from_ x31.toNat)) * 1) undefT) then (allT (g17_1_1 c x4 x22 x23 x30 x31 H)) else (allT (g17_1_2 c x4 x22 x23 x30 x31 H))) else (allT (g17_1_3 c x4 x22 x23 x30 x31 H)))
theorem T17_1 (c : Ct) (x4 x22 x23 x30 x31 : Int) (H : Hp) (hk : K17_1 c x4 x22 x23 x30 x31 H = true) : step17_1 c x4 x22 x23 x30 x31 H = some (V17_1 c x4 x22 x23 x30 x31 H) :=
 (tree_if (tree_if tree_leaf tree_leaf) tree_leaf) hk
def step17_2 (c : Ct) (x56 x57 : Int) (rows : Nat → List Int) (NX : Nat) : Option (S17 ⊕ T) :=
 (if decide (x57 < x56) then (if (c.line x57.toNat).fate == 1 then (if (↑(rows x57.toNat).length : Int) == 0 then (if allT (g17_2_1 c x56 x57 rows NX) then some (.inr (T.int .i64 10)) else none) else (if any (rows x57.toNat).length fun i => (↑(c.line ((rows x57.toNat).getD i 0).toNat).k : Int) != 1 then (if allT (g17_2_2 c x56 x57 rows NX) then some (.inr (T.int .i64 10)) else none) else (if allT (g17_2_3 c x56 x57 rows NX) then some (.inl (.l3f x57 x56 x57 (↑(shN (c.line x57.toNat).mass (↑(rows x57.toNat).length : Int)) : Int) 0 rows NX)) else none))) else (if (c.line x57.toNat).closed == 5 then (if (↑(rows x57.toNat).length : Int) != 1 then (if allT (g17_2_4 c x56 x57 rows NX) then some (.inr (T.int .i64 10)) else none) else (if any (rows x57.toNat).length fun i => (↑(c.line ((rows x57.toNat).getD i 0).toNat).k : Int) != 1 then (if allT (g17_2_5 c x56 x57 rows NX) then some (.inr (T.int .i64 10)) else none) else (if !arr (c.line ((rows x57.toNat).getD 0 0).toNat).st then (if allT (g17_2_6 c x56 x57 rows NX) then some (.inr (T.int .i64 10)) else none) else (if allT (g17_2_7 c x56 x57 rows NX) then some (.inl (.l3s1_0 x57 x56 x57 rows NX)) else none)))) else (if (c.line x57.toNat).fate == 2 then (if (↑(rows x57.toNat).length : Int) != 1 then (if allT (g17_2_8 c x56 x57 rows NX) then some (.inr (T.int .i64 10)) else none) else (if allT (g17_2_9 c x56 x57 rows NX) then some (.inl (.l3n0_0 x57 x56 x57 rows NX)) else none)) else (if decide ((↑(rows x57.toNat).length : Int) > 0) then (if allT (g17_2_10 c x56 x57 rows NX) then some (.inr (T.int .i64 10)) else none) else (if allT (g17_2_11 c x56 x57 rows NX) then some (.inl (.l3n0_0 x57 x56 x57 rows NX)) else none))))) else (if allT (g17_2_12 c x56 x57 rows NX) then some (.inr (T.int .i64 0)) else none))
def V17_2 (c : Ct) (x56 x57 : Int) (rows : Nat → List Int) (NX : Nat) : S17 ⊕ T :=
 (if decide (x57 < x56) then (if (c.line x57.toNat).fate == 1 then (if (↑(rows x57.toNat).length : Int) == 0 then (.inr (T.int .i64 10)) else (if any (rows x57.toNat).length fun i => (↑(c.line ((rows x57.toNat).getD i 0).toNat).k : Int) != 1 then (.inr (T.int .i64 10)) else (.inl (.l3f x57 x56 x57 (↑(shN (c.line x57.toNat).mass (↑(rows x57.toNat).length : Int)) : Int) 0 rows NX)))) else (if (c.line x57.toNat).closed == 5 then (if (↑(rows x57.toNat).length : Int) != 1 then (.inr (T.int .i64 10)) else (if any (rows x57.toNat).length fun i => (↑(c.line ((rows x57.toNat).getD i 0).toNat).k : Int) != 1 then (.inr (T.int .i64 10)) else (if !arr (c.line ((rows x57.toNat).getD 0 0).toNat).st then (.inr (T.int .i64 10)) else (.inl (.l3s1_0 x57 x56 x57 rows NX))))) else (if (c.line x57.toNat).fate == 2 then (if (↑(rows x57.toNat).length : Int) != 1 then (.inr (T.int .i64 10)) else (.inl (.l3n0_0 x57 x56 x57 rows NX))) else (if decide ((↑(rows x57.toNat).length : Int) > 0) then (.inr (T.int .i64 10)) else (.inl (.l3n0_0 x57 x56 x57 rows NX)))))) else (.inr (T.int .i64 0)))
def K17_2 (c : Ct) (x56 x57 : Int) (rows : Nat → List Int) (NX : Nat) : Bool :=
 (if decide (x57 < x56) then (if (c.line x57.toNat).fate == 1 then (if (↑(rows x57.toNat).length : Int) == 0 then (allT (g17_2_1 c x56 x57 rows NX)) else (if any (rows x57.toNat).length fun i => (↑(c.line ((rows x57.toNat).getD i 0).toNat).k : Int) != 1 then (allT (g17_2_2 c x56 x57 rows NX)) else (allT (g17_2_3 c x56 x57 rows NX)))) else (if (c.line x57.toNat).closed == 5 then (if (↑(rows x57.toNat).length : Int) != 1 then (allT (g17_2_4 c x56 x57 rows NX)) else (if any (rows x57.toNat).length fun i => (↑(c.line ((rows x57.toNat).getD i 0).toNat).k : Int) != 1 then (allT (g17_2_5 c x56 x57 rows NX)) else (if !arr (c.line ((rows x57.toNat).getD 0 0).toNat).st then (allT (g17_2_6 c x56 x57 rows NX)) else (allT (g17_2_7 c x56 x57 rows NX))))) else (if (c.line x57.toNat).fate == 2 then (if (↑(rows x57.toNat).length : Int) != 1 then (allT (g17_2_8 c x56 x57 rows NX)) else (allT (g17_2_9 c x56 x57 rows NX))) else (if decide ((↑(rows x57.toNat).length : Int) > 0) then (allT (g17_2_10 c x56 x57 rows NX)) else (allT (g17_2_11 c x56 x57 rows NX)))))) else (allT (g17_2_12 c x56 x57 rows NX)))
theorem T17_2 (c : Ct) (x56 x57 : Int) (rows : Nat → List Int) (NX : Nat) (hk : K17_2 c x56 x57 rows NX = true) : step17_2 c x56 x57 rows NX = some (V17_2 c x56 x57 rows NX) :=
 (tree_if (tree_if (tree_if tree_leaf (tree_if tree_leaf tree_leaf)) (tree_if (tree_if tree_leaf (tree_if tree_leaf (tree_if tree_leaf tree_leaf))) (tree_if (tree_if tree_leaf tree_leaf) (tree_if tree_leaf tree_leaf)))) tree_leaf) hk
def step17_3f (c : Ct) (x10 x56 x57 x138 x139 : Int) (rows : Nat → List Int) (NX : Nat) : Option (S17 ⊕ T) :=
 (if decide (x139 < x138) then (if (c.line ((rows x10.toNat).getD x139.toNat 0).toNat).mass != shI (c.line x57.toNat).mass (↑(rows x57.toNat).length : Int) x139.toNat then (if allT (g17_3f_1 c x10 x56 x57 x138 x139 rows NX) then some (.inr (T.int .i64 38)) else none) else (if allT (g17_3f_2 c x10 x56 x57 x138 x139 rows NX) then some (.inl (.l3f x10 x56 x57 x138 (IntKind.i64.wrap (x139 + 1)) rows NX)) else none)) else (if allT (g17_3f_3 c x10 x56 x57 x138 x139 rows NX) then some (.inl (.l2 x56 (IntKind.i64.wrap (x57 + 1)) rows NX)) else none))
def V17_3f (c : Ct) (x10 x56 x57 x138 x139 : Int) (rows : Nat → List Int) (NX : Nat) : S17 ⊕ T :=
 (if decide (x139 < x138) then (if (c.line ((rows x10.toNat).getD x139.toNat 0).toNat).mass != shI (c.line x57.toNat).mass (↑(rows x57.toNat).length : Int) x139.toNat then (.inr (T.int .i64 38)) else (.inl (.l3f x10 x56 x57 x138 (IntKind.i64.wrap (x139 + 1)) rows NX))) else (.inl (.l2 x56 (IntKind.i64.wrap (x57 + 1)) rows NX)))
def K17_3f (c : Ct) (x10 x56 x57 x138 x139 : Int) (rows : Nat → List Int) (NX : Nat) : Bool :=
 (if decide (x139 < x138) then (if (c.line ((rows x10.toNat).getD x139.toNat 0).toNat).mass != shI (c.line x57.toNat).mass (↑(rows x57.toNat).length : Int) x139.toNat then (allT (g17_3f_1 c x10 x56 x57 x138 x139 rows NX)) else (allT (g17_3f_2 c x10 x56 x57 x138 x139 rows NX))) else (allT (g17_3f_3 c x10 x56 x57 x138 x139 rows NX)))
theorem T17_3f (c : Ct) (x10 x56 x57 x138 x139 : Int) (rows : Nat → List Int) (NX : Nat) (hk : K17_3f c x10 x56 x57 x138 x139 rows NX = true) : step17_3f c x10 x56 x57 x138 x139 rows NX = some (V17_3f c x10 x56 x57 x138 x139 rows NX) :=
 (tree_if (tree_if tree_leaf tree_leaf) tree_leaf) hk
def step17_3n0_0 (c : Ct) (x10 x56 x57 : Int) (rows : Nat → List Int) (NX : Nat) : Option (S17 ⊕ T) :=
 (if allT (g17_3n0_0_1 c x10 x56 x57 rows NX) then some (.inl (.l2 x56 (IntKind.i64.wrap (x57 + 1)) rows NX)) else none)
def V17_3n0_0 (c : Ct) (x10 x56 x57 : Int) (rows : Nat → List Int) (NX : Nat) : S17 ⊕ T :=
 (.inl (.l2 x56 (IntKind.i64.wrap (x57 + 1)) rows NX))
def K17_3n0_0 (c : Ct) (x10 x56 x57 : Int) (rows : Nat → List Int) (NX : Nat) : Bool :=
 (allT (g17_3n0_0_1 c x10 x56 x57 rows NX))
theorem T17_3n0_0 (c : Ct) (x10 x56 x57 : Int) (rows : Nat → List Int) (NX : Nat) (hk : K17_3n0_0 c x10 x56 x57 rows NX = true) : step17_3n0_0 c x10 x56 x57 rows NX = some (V17_3n0_0 c x10 x56 x57 rows NX) :=
 tree_leaf hk
def step17_3s1_0 (c : Ct) (x10 x56 x57 : Int) (rows : Nat → List Int) (NX : Nat) : Option (S17 ⊕ T) :=
 (if (c.line ((rows x10.toNat).getD 0 0).toNat).mass != (c.line x57.toNat).mass then (if allT (g17_3s1_0_1 c x10 x56 x57 rows NX) then some (.inr (T.int .i64 38)) else none) else (if allT (g17_3s1_0_2 c x10 x56 x57 rows NX) then some (.inl (.l3s1_1 x10 x56 x57 rows NX)) else none))
def V17_3s1_0 (c : Ct) (x10 x56 x57 : Int) (rows : Nat → List Int) (NX : Nat) : S17 ⊕ T :=
 (if (c.line ((rows x10.toNat).getD 0 0).toNat).mass != (c.line x57.toNat).mass then (.inr (T.int .i64 38)) else (.inl (.l3s1_1 x10 x56 x57 rows NX)))
def K17_3s1_0 (c : Ct) (x10 x56 x57 : Int) (rows : Nat → List Int) (NX : Nat) : Bool :=
 (if (c.line ((rows x10.toNat).getD 0 0).toNat).mass != (c.line x57.toNat).mass then (allT (g17_3s1_0_1 c x10 x56 x57 rows NX)) else (allT (g17_3s1_0_2 c x10 x56 x57 rows NX)))
theorem T17_3s1_0 (c : Ct) (x10 x56 x57 : Int) (rows : Nat → List Int) (NX : Nat) (hk : K17_3s1_0 c x10 x56 x57 rows NX = true) : step17_3s1_0 c x10 x56 x57 rows NX = some (V17_3s1_0 c x10 x56 x57 rows NX) :=
 (tree_if tree_leaf tree_leaf) hk
def step17_3s1_1 (c : Ct) (x10 x56 x57 : Int) (rows : Nat → List Int) (NX : Nat) : Option (S17 ⊕ T) :=
 (if allT (g17_3s1_1_1 c x10 x56 x57 rows NX) then some (.inl (.l2 x56 (IntKind.i64.wrap (x57 + 1)) rows NX)) else none)
def V17_3s1_1 (c : Ct) (x10 x56 x57 : Int) (rows : Nat → List Int) (NX : Nat) : S17 ⊕ T :=
 (.inl (.l2 x56 (IntKind.i64.wrap (x57 + 1)) rows NX))
def K17_3s1_1 (c : Ct) (x10 x56 x57 : Int) (rows : Nat → List Int) (NX : Nat) : Bool :=
 (allT (g17_3s1_1_1 c x10 x56 x57 rows NX))
theorem T17_3s1_1 (c : Ct) (x10 x56 x57 : Int) (rows : Nat → List Int) (NX : Nat) (hk : K17_3s1_1 c x10 x56 x57 rows NX = true) : step17_3s1_1 c x10 x56 x57 rows NX = some (V17_3s1_1 c x10 x56 x57 rows NX) :=
 tree_leaf hk
def o17 (c : Ct) : Option (S17 ⊕ T) :=
 (if allT (g17_s_1 c) then some (.inl (.l0 (↑c.n : Int) 0 ({ next := 1, objs := [(0, { elem := 37, sz := 1, cells := List.flatMap T.cells (List.replicate c.n T.nils) })] }))) else none)
def V17_s (c : Ct) : S17 ⊕ T :=
 (.inl (.l0 (↑c.n : Int) 0 ({ next := 1, objs := [(0, { elem := 37, sz := 1, cells := List.flatMap T.cells (List.replicate c.n T.nils) })] })))
def K17_s (c : Ct) : Bool :=
 (allT (g17_s_1 c))
theorem T17_s (c : Ct) (hk : K17_s c = true) : o17 c = some (V17_s c) :=
 tree_leaf hk
def step17 (c : Ct) : S17 → Option (S17 ⊕ T)
 | .l0 x22 x23 H => step17_0 c x22 x23 H
 | .l1 x4 x22 x23 x30 x31 H => step17_1 c x4 x22 x23 x30 x31 H
 | .l2 x56 x57 rows NX => step17_2 c x56 x57 rows NX
 | .l3f x10 x56 x57 x138 x139 rows NX => step17_3f c x10 x56 x57 x138 x139 rows NX
 | .l3n0_0 x10 x56 x57 rows NX => step17_3n0_0 c x10 x56 x57 rows NX
 | .l3s1_0 x10 x56 x57 rows NX => step17_3s1_0 c x10 x56 x57 rows NX
 | .l3s1_1 x10 x56 x57 rows NX => step17_3s1_1 c x10 x56 x57 rows NX
def M17 (c : Ct) : Mch S17 where
 lp := fun σ => match σ with
  | .l0 .. => 0
  | .l1 .. => 1
  | .l2 .. => 2
  | .l3f .. => 3
  | .l3n0_0 .. => 3
  | .l3s1_0 .. => 3
  | .l3s1_1 .. => 3
 keep := fun ι => match ι with
  | 0 => [1, 3, 21, 22, 23]
  | 1 => [1, 3, 4, 21, 22, 23, 29, 30, 31]
  | 2 => [1, 3, 55, 56, 57]
  | 3 => [1, 3, 10, 55, 56, 57, 137, 138, 139]
  | _ => []
 par := fun ι => match ι with
  | 0 => []
  | 1 => [0]
  | 2 => []
  | 3 => [2]
  | _ => []
 vs := fun σ => match σ with
  | .l0 x22 x23 H => [(ctT c).ref 0, T.osl 0 1 0 c.n, T.slf false c.n fun i => lnT (c.line i), T.int .i64 x22, T.int .i64 x23]
  | .l1 x4 x22 x23 x30 x31 H => [(ctT c).ref 0, T.osl 0 1 0 c.n, T.int .i64 x4, T.slf false c.n fun i => lnT (c.line i), T.int .i64 x22, T.int .i64 x23, T.slf false (c.line x23.toNat).k fun i => spT ((c.line x23.toNat).from_ i), T.int .i64 x30, T.int .i64 x31]
  | .l2 x56 x57 rows NX => [(ctT c).ref 0, T.slf false c.n fun k => T.slf false (rows k).length fun j => T.int .i64 ((rows k).getD j 0), T.slf false c.n fun i => lnT (c.line i), T.int .i64 x56, T.int .i64 x57]
  | .l3f x10 x56 x57 x138 x139 rows NX => [(ctT c).ref 0, T.slf false c.n fun k => T.slf false (rows k).length fun j => T.int .i64 ((rows k).getD j 0), T.int .i64 x10, T.slf false c.n fun i => lnT (c.line i), T.int .i64 x56, T.int .i64 x57, T.slf false (shN (c.line x57.toNat).mass (↑(rows x57.toNat).length : Int)) fun i => T.int .i64 (shI (c.line x57.toNat).mass (↑(rows x57.toNat).length : Int) i), T.int .i64 x138, T.int .i64 x139]
  | .l3n0_0 x10 x56 x57 rows NX => [(ctT c).ref 0, T.slf false c.n fun k => T.slf false (rows k).length fun j => T.int .i64 ((rows k).getD j 0), T.int .i64 x10, T.slf false c.n fun i => lnT (c.line i), T.int .i64 x56, T.int .i64 x57, T.nils, T.int .i64 0, T.int .i64 0]
  | .l3s1_0 x10 x56 x57 rows NX => [(ctT c).ref 0, T.slf false c.n fun k => T.slf false (rows k).length fun j => T.int .i64 ((rows k).getD j 0), T.int .i64 x10, T.slf false c.n fun i => lnT (c.line i), T.int .i64 x56, T.int .i64 x57, T.sl true [T.int .i64 (c.line x57.toNat).mass], T.int .i64 1, T.int .i64 0]
  | .l3s1_1 x10 x56 x57 rows NX => [(ctT c).ref 0, T.slf false c.n fun k => T.slf false (rows k).length fun j => T.int .i64 ((rows k).getD j 0), T.int .i64 x10, T.slf false c.n fun i => lnT (c.line i), T.int .i64 x56, T.int .i64 x57, T.sl true [T.int .i64 (c.line x57.toNat).mass], T.int .i64 1, T.int .i64 1]
 hp := fun σ => match σ with
  | .l0 _ _ H => H
  | .l1 _ _ _ _ _ H => H
  | .l2 _ _ _ NX => { next := NX, objs := [] }
  | .l3f _ _ _ _ _ _ NX => { next := NX, objs := [] }
  | .l3n0_0 _ _ _ _ NX => { next := NX, objs := [] }
  | .l3s1_0 _ _ _ _ NX => { next := NX, objs := [] }
  | .l3s1_1 _ _ _ _ NX => { next := NX, objs := [] }
 len := 160
 step := step17 c
theorem ways17 (c : Ct) : (M17 c).WaysF prog D15 F17 f35 20 := by
 intro σ o fr h
 cases σ with
 | l0 x22 x23 H =>
  change step17_0 c x22 x23 H = some o at h
  exact (ways_if (ways_leaf fun hk => .inl (.inr ⟨2000, _, _, _, w17_0_1 c x22 x23 H fr, hk, rfl⟩)) (ways_leaf fun hk => by
   rw [Bool.and_eq_true] at hk
   obtain ⟨t0, z1, z2⟩ := rows_frz hk.2
   exact .inr ⟨_, rfl, 2000, _, _, _, _, _, 1, 3, 20, t0, _, w17_0_2 c x22 x23 H fr, hk.1, rfl, z1, z2, rfl, (show 3 < 160 by decide), (show (List.Nodup [1, 3, 55, 56, 57]) by decide), rfl, rfl⟩)) o h
 | l1 x4 x22 x23 x30 x31 H =>
  change step17_1 c x4 x22 x23 x30 x31 H = some o at h
  exact (ways_if (ways_if (ways_leaf fun hk => .inl (.inl ⟨2000, _, _, _, w17_1_1 c x4 x22 x23 x30 x31 H fr, hk, rfl⟩)) (ways_leaf fun hk => .inl (.inl ⟨2000, _, _, _, w17_1_2 c x4 x22 x23 x30 x31 H fr, hk, rfl⟩))) (ways_leaf fun hk => .inl (.inl ⟨2000, _, _, _, w17_1_3 c x4 x22 x23 x30 x31 H fr, hk, rfl⟩))) o h
 | l2 x56 x57 rows NX =>
  change step17_2 c x56 x57 rows NX = some o at h
  exact (ways_if (ways_if (ways_if (ways_leaf fun hk => .inl (⟨2000, _, _, _, _, _, _, w17_2_1 c x56 x57 rows NX fr, hk⟩)) (ways_if (ways_leaf fun hk => .inl (⟨2000, _, _, _, _, _, _, w17_2_2 c x56 x57 rows NX fr, hk⟩)) (ways_leaf fun hk => .inl (.inr ⟨2000, _, _, _, w17_2_3 c x56 x57 rows NX fr, hk, rfl⟩)))) (ways_if (ways_if (ways_leaf fun hk => .inl (⟨2000, _, _, _, _, _, _, w17_2_4 c x56 x57 rows NX fr, hk⟩)) (ways_if (ways_leaf fun hk => .inl (⟨2000, _, _, _, _, _, _, w17_2_5 c x56 x57 rows NX fr, hk⟩)) (ways_if (ways_leaf fun hk => .inl (⟨2000, _, _, _, _, _, _, w17_2_6 c x56 x57 rows NX fr, hk⟩)) (ways_leaf fun hk => .inl (.inr ⟨2000, _, _, _, w17_2_7 c x56 x57 rows NX fr, hk, rfl⟩))))) (ways_if (ways_if (ways_leaf fun hk => .inl (⟨2000, _, _, _, _, _, _, w17_2_8 c x56 x57 rows NX fr, hk⟩)) (ways_leaf fun hk => .inl (.inr ⟨2000, _, _, _, w17_2_9 c x56 x57 rows NX fr, hk, rfl⟩))) (ways_if (ways_leaf fun hk => .inl (⟨2000, _, _, _, _, _, _, w17_2_10 c x56 x57 rows NX fr, hk⟩)) (ways_leaf fun hk => .inl (.inr ⟨2000, _, _, _, w17_2_11 c x56 x57 rows NX fr, hk, rfl⟩)))))) (ways_leaf fun hk => .inl (⟨2000, _, _, _, _, _, _, w17_2_12 c x56 x57 rows NX fr, hk⟩))) o h
 | l3f x10 x56 x57 x138 x139 rows NX =>
  change step17_3f c x10 x56 x57 x138 x139 rows NX = some o at h
  exact (ways_if (ways_if (ways_leaf fun hk => .inl (⟨2000, _, _, _, _, _, _, w17_3f_1 c x10 x56 x57 x138 x139 rows NX fr, hk⟩)) (ways_leaf fun hk => .inl (.inl ⟨2000, _, _, _, w17_3f_2 c x10 x56 x57 x138 x139 rows NX fr, hk, rfl⟩))) (ways_leaf fun hk => .inl (.inl ⟨2000, _, _, _, w17_3f_3 c x10 x56 x57 x138 x139 rows NX fr, hk, rfl⟩))) o h
 | l3n0_0 x10 x56 x57 rows NX =>
  change step17_3n0_0 c x10 x56 x57 rows NX = some o at h
  exact (ways_leaf fun hk => .inl (.inl ⟨2000, _, _, _, w17_3n0_0_1 c x10 x56 x57 rows NX fr, hk, rfl⟩)) o h
 | l3s1_0 x10 x56 x57 rows NX =>
  change step17_3s1_0 c x10 x56 x57 rows NX = some o at h
  exact (ways_if (ways_leaf fun hk => .inl (⟨2000, _, _, _, _, _, _, w17_3s1_0_1 c x10 x56 x57 rows NX fr, hk⟩)) (ways_leaf fun hk => .inl (.inl ⟨2000, _, _, _, w17_3s1_0_2 c x10 x56 x57 rows NX fr, hk, rfl⟩))) o h
 | l3s1_1 x10 x56 x57 rows NX =>
  change step17_3s1_1 c x10 x56 x57 rows NX = some o at h
  exact (ways_leaf fun hk => .inl (.inl ⟨2000, _, _, _, w17_3s1_1_1 c x10 x56 x57 rows NX fr, hk, rfl⟩)) o h
theorem oks17 (c : Ct) : ∀ σ, Ps.codeOk (loopAt f35 ((M17 c).lp σ)).1 = true ∧ ksOk (.lp :: (loopAt f35 ((M17 c).lp σ)).2) = true := oks_of 4 (by kernel_rfl) (by intro σ; cases σ <;> exact Nat.le_of_ble_eq_true rfl)
theorem run17 (c : Ct) {n : Nat} {o : S17 ⊕ T} {r : T} (h : o17 c = some o) (hr : (M17 c).fin n o = some r) : PureFn prog gl 35 [ctT c] r := by
 refine pure_machF (M := (M17 c)) (fn := f35) (k := 20) (d := 8) (c := bodyOf f35) cx17 glFrz (by kernel_rfl) func35 (by kernel_rfl) rfl (by kernel_rfl) (by kernel_rfl) (L := 159) (by kernel_rfl) (ways17 c) (oks17 c) ?_ hr
 exact (ways_leaf fun hk => .inr ⟨2000, _, _, _, w17_s_1 c, hk, rfl⟩) o h
theorem c17 (c : Ct) (n : Nat) {r : T} (hk : K17_s c = true) (hr : (M17 c).fin n (V17_s c) = some r) : PureFn prog gl 35 [ctT c] r := run17 c (T17_s c hk) hr
end
end Go.Proofs.Tryz

/- Rows of rows in the heap: how they grow. -/
namespace Go.Proofs.Tryz
open Go.Ps
structure Rw (n : Nat) (H : Hp) (R : Nat → List Int) (C : List T) (id : Nat → Nat) : Prop where
 top : H.get 0 = some ⟨37, 1, C⟩
 len : C.length = n
 pos : 0 < H.next
 nil : ∀ k, k < n → R k = [] → C.getD k undefT = .nils
 row : ∀ k, k < n → R k ≠ [] → C.getD k undefT = .osl (id k) 1 0 (R k).length ∧ H.get (id k) = some ⟨3, 1, ints (R k)⟩ ∧ 0 < id k ∧ id k < H.next
 sep : ∀ k k', k < n → k' < n → R k ≠ [] → R k' ≠ [] → id k = id k' → k = k'
theorem getD_splice (C : List T) (a k : Nat) (t : T) (ha : a < C.length) : (spliceT C a [t]).getD k undefT = if k = a then t else C.getD k undefT := by
 have e : spliceT C a [t] = C.set a t := by
  unfold spliceT
  rw [List.set_eq_take_append_cons_drop, if_pos ha]
  simp
 rw [e, List.getD_eq_getElem?_getD, List.getD_eq_getElem?_getD, List.getElem?_set]
 by_cases h : a = k
 ·subst h; simp [ha]
 ·rw [if_neg h, if_neg (fun q => h q.symm)]
theorem len_splice (C : List T) (a : Nat) (t : T) (ha : a < C.length) : (spliceT C a [t]).length = C.length := by
 unfold spliceT; simp; omega
theorem Rw.pushN {n : Nat} {H : Hp} {R : Nat → List Int} {C : List T} {id : Nat → Nat} (h : Rw n H R C id) {a : Nat} (ha : a < n) (hr : R a = []) (x : Int) (o : Ob) (ho : o = ⟨37, 1, spliceT C a [.osl H.next 1 0 1]⟩) :
  Rw n ((H.new ⟨3, 1, [.int .i64 x]⟩).put 0 o) (fun k => if k = a then R k ++ [x] else R k) (spliceT C a [.osl H.next 1 0 1]) (fun k => if k = a then H.next else id k) := by
 subst ho
 have hne := h.pos
 have hsome : ((H.new ⟨3, 1, [.int .i64 x]⟩).get 0).isSome = true := by rw [findOb_new, if_neg (by omega), h.top]; rfl
 have hget : ∀ m, ((H.new ⟨3, 1, [.int .i64 x]⟩).put 0 ⟨37, 1, spliceT C a [.osl H.next 1 0 1]⟩).get m = if m = 0 then some ⟨37, 1, spliceT C a [.osl H.next 1 0 1]⟩ else if H.next = m then some ⟨3, 1, [.int .i64 x]⟩ else H.get m := fun m => by
  rw [get_put _ _ _ _ hsome, findOb_new]
 have hlen : a < C.length := by rw [h.len]; exact ha
 refine ⟨by rw [hget, if_pos rfl], by rw [len_splice _ _ _ hlen, h.len], by show 0 < H.next + 1; omega, fun k hk hk0 => ?_, fun k hk hk0 => ?_, fun k k' hk hk' q1 q2 e => ?_⟩
 ·rw [getD_splice _ _ _ _ hlen]
  by_cases e : k = a
  ·rw [if_pos e] at hk0; simp at hk0
  ·rw [if_neg e] at hk0 ⊢; exact h.nil k hk hk0
 ·rw [getD_splice _ _ _ _ hlen, hget]
  by_cases e : k = a
  ·simp only [e, if_true, hr, List.nil_append]
   exact ⟨rfl, by rw [if_neg (by omega)]; rfl, by omega, by show H.next < H.next + 1; omega⟩
  ·simp only [e, if_false] at hk0 ⊢
   obtain ⟨r1, r2, r3, r4⟩ := h.row k hk hk0
   exact ⟨r1, by rw [if_neg (by omega), if_neg (by omega)]; exact r2, r3, by show id k < H.next + 1; omega⟩
 ·by_cases e1 : k = a
  ·by_cases e2 : k' = a
   ·omega
   ·simp only [e1, e2, if_true, if_false] at e q2
    have := (h.row k' hk' q2).2.2.2
    omega
  ·by_cases e2 : k' = a
   ·simp only [e1, e2, if_true, if_false] at e q1
    have := (h.row k hk q1).2.2.2
    omega
   ·simp only [e1, e2, if_false] at e q1 q2
    exact h.sep k k' hk hk' q1 q2 e
theorem Rw.pushO {n : Nat} {H : Hp} {R : Nat → List Int} {C : List T} {id : Nat → Nat} (h : Rw n H R C id) {a : Nat} (ha : a < n) (hr : R a ≠ []) (x : Int) (o : Ob) (ho : o = ⟨37, 1, spliceT C a [.osl H.next 1 0 ((R a).length + 1)]⟩) :
  Rw n (((H.drop (id a)).new ⟨3, 1, ints (R a) ++ [.int .i64 x]⟩).put 0 o) (fun k => if k = a then R k ++ [x] else R k) (spliceT C a [.osl H.next 1 0 ((R a).length + 1)]) (fun k => if k = a then H.next else id k) := by
 subst ho
 have hne := h.pos
 obtain ⟨p1, p2, p3, p4⟩ := h.row a ha hr
 have hnext : (H.drop (id a)).next = H.next := rfl
 have hsome : (((H.drop (id a)).new ⟨3, 1, ints (R a) ++ [.int .i64 x]⟩).get 0).isSome = true := by rw [findOb_new, hnext, if_neg (by omega), get_drop, if_neg (by omega), h.top]; rfl
 have hget : ∀ m, (((H.drop (id a)).new ⟨3, 1, ints (R a) ++ [.int .i64 x]⟩).put 0 ⟨37, 1, spliceT C a [.osl H.next 1 0 ((R a).length + 1)]⟩).get m = if m = 0 then some ⟨37, 1, spliceT C a [.osl H.next 1 0 ((R a).length + 1)]⟩ else if H.next = m then some ⟨3, 1, ints (R a) ++ [.int .i64 x]⟩ else if m = id a then none else H.get m := fun m => by
  rw [get_put _ _ _ _ hsome, findOb_new, hnext, get_drop]
 have hlen : a < C.length := by rw [h.len]; exact ha
 refine ⟨by rw [hget, if_pos rfl], by rw [len_splice _ _ _ hlen, h.len], by show 0 < H.next + 1; omega, fun k hk hk0 => ?_, fun k hk hk0 => ?_, fun k k' hk hk' q1 q2 e => ?_⟩
 ·rw [getD_splice _ _ _ _ hlen]
  by_cases e : k = a
  ·rw [if_pos e] at hk0; simp at hk0
  ·rw [if_neg e] at hk0 ⊢; exact h.nil k hk hk0
 ·rw [getD_splice _ _ _ _ hlen, hget]
  by_cases e : k = a
  ·simp only [e, if_true]
   exact ⟨by simp, by rw [if_neg (by omega)]; simp [ints], by omega, by show H.next < H.next + 1; omega⟩
  ·simp only [e, if_false] at hk0 ⊢
   obtain ⟨r1, r2, r3, r4⟩ := h.row k hk hk0
   have hd : id k ≠ id a := fun q => e (h.sep k a hk ha hk0 hr q)
   exact ⟨r1, by rw [if_neg (by omega), if_neg (by omega), if_neg hd]; exact r2, r3, by show id k < H.next + 1; omega⟩
 ·by_cases e1 : k = a
  ·by_cases e2 : k' = a
   ·omega
   ·simp only [e1, e2, if_true, if_false] at e q2
    have := (h.row k' hk' q2).2.2.2
    omega
  ·by_cases e2 : k' = a
   ·simp only [e1, e2, if_true, if_false] at e q1
    have := (h.row k hk q1).2.2.2
    omega
   ·simp only [e1, e2, if_false] at e q1 q2
    exact h.sep k k' hk hk' q1 q2 e
theorem Rw.ok {n : Nat} {H : Hp} {R : Nat → List Int} {C : List T} {id : Nat → Nat} (h : Rw n H R C id) : rowsOk n H ∧ ∀ k, k < n → rowsOf H k = R k := by
 refine ⟨⟨C, h.top, h.len, fun t ht => ?_⟩, fun k hk => ?_⟩
 ·obtain ⟨k, hk, e⟩ := List.getElem_of_mem ht
  have hk' : k < n := by rw [← h.len]; exact hk
  have e2 : C.getD k undefT = t := by rw [List.getD_eq_getElem?_getD, List.getElem?_eq_getElem hk, e]; rfl
  by_cases hr : R k = []
  ·exact .inl (by rw [← e2]; exact h.nil k hk' hr)
  ·obtain ⟨r1, r2, _⟩ := h.row k hk' hr
   exact .inr ⟨id k, R k, by rw [← e2]; exact r1, r2⟩
 ·have ho : (obv H 0).cells = C := by unfold obv; rw [h.top]
  unfold rowsOf
  rw [ho]
  by_cases hr : R k = []
  ·rw [h.nil k hk hr, hr]; rfl
  ·obtain ⟨r1, r2, _⟩ := h.row k hk hr
   rw [r1, rowT_osl r2]
theorem Rw.start (n : Nat) : Rw n ⟨1, [(0, ⟨37, 1, List.flatMap T.cells (List.replicate n T.nils)⟩)]⟩ (fun _ => []) (List.replicate n T.nils) (fun _ => 0) := by
 have e : List.flatMap T.cells (List.replicate n T.nils) = List.replicate n T.nils := (flat_single _ (by simp [T.isAgg])).1
 refine ⟨by rw [e]; rfl, by simp, by show 0 < 1; omega, fun k hk _ => ?_, fun k _ q => absurd rfl q, fun k _ _ _ q => absurd rfl q⟩
 rw [List.getD_eq_getElem?_getD, List.getElem?_replicate, if_pos hk]
 rfl
end Go.Proofs.Tryz

/- children of the program, first half: the rows. -/
namespace Go.Proofs.Tryz
open Go.Ps
set_option maxRecDepth 100000
def push (R : Nat → List Int) (a : Nat) (x : Int) : Nat → List Int := fun z => if z = a then R z ++ [x] else R z
def rwR (c : Ct) (i : Nat) : Nat → Nat → (Nat → List Int) → (Nat → List Int)
 | 0, _, R => R
 | q + 1, k, R => rwR c i q (k + 1) (push R (ap c ((c.line i).from_ k)) i)
def rwO (c : Ct) : Nat → Nat → (Nat → List Int) → (Nat → List Int)
 | 0, _, R => R
 | q + 1, i, R => rwO c q (i + 1) (rwR c i (c.line i).k 0 R)
def rowsP (c : Ct) : Nat → List Int := rwO c c.n 0 (fun _ => [])
section
variable (c : Ct) (hs : small c) (hl : linked (ap c) c)
include hs hl
theorem st17_1 (i : Nat) (hi : i < c.n) (k : Nat) (hk : k < (c.line i).k) (H : Hp) (R : Nat → List Int) (hR : ∀ z, (R z).length ≤ 40000) (C : List T) (id : Nat → Nat) (hw : Rw c.n H R C id) :
  ∃ H' C' id', (M17 c).step (.l1 i c.n i (c.line i).k k H) = some (.inl (.l1 i c.n i (c.line i).k (k + 1 : Nat) H')) ∧ Rw c.n H' (push R (ap c ((c.line i).from_ k)) i) C' id' := by
 have h1 := hs.1
 have hm := small_modest hs
 obtain ⟨h2, h3, h4⟩ := hs.2 i hi
 have hb := hl i hi k hk
 have b2 : decide ((k : Int) < (c.line i).k) = true := decide_eq_true (by omega)
 have b3 : decide ((0 : Int) ≤ k) = true := decide_eq_true (by omega)
 have b4 : decide ((i : Int) < c.n) = true := decide_eq_true (by omega)
 have b5 : decide ((0 : Int) ≤ i) = true := decide_eq_true (by omega)
 have b6 := wsucc k (by omega)
 have hC : (obv H 0).cells = C := by unfold obv; rw [hw.top]
 have hlen := hw.len
 have hin : obIn H 0 (ap c ((c.line i).from_ k) + 1) = true := by
  unfold obIn; rw [hw.top]; exact decide_eq_true (by simp only; omega)
 have key : K17_1 c i c.n i (c.line i).k k H = true → (M17 c).step (.l1 i c.n i (c.line i).k k H) = some (V17_1 c i c.n i (c.line i).k k H) := fun q => T17_1 c i c.n i (c.line i).k k H q
 unfold V17_1 K17_1 at key
 simp only [Int.toNat_natCast, Nat.zero_add, Nat.mul_one] at key
 rw [if_pos b2, if_pos b2, b6] at key
 unfold ap at hb hin ⊢
 have e0 : g17_1_1 c i c.n i (c.line i).k k H = [true, obIn (H.new { elem := 3, sz := 1, cells := [T.int IntKind.i64 i] }) 0 ((bs c.n fun j => cmpS (c.line j).st ((c.line i).from_ k)) + 1), true, true, decide (((bs c.n fun j => cmpS (c.line j).st ((c.line i).from_ k) : Nat) : Int) < c.n), true, true, true, isNils ((obv H 0).cells.getD (bs c.n fun j => cmpS (c.line j).st ((c.line i).from_ k)) undefT), obIn H 0 ((bs c.n fun j => cmpS (c.line j).st ((c.line i).from_ k)) + 1), true, true, decide (((bs c.n fun j => cmpS (c.line j).st ((c.line i).from_ k) : Nat) : Int) < c.n), true, true, true, true, true, true, true, true, true] := by
  unfold g17_1_1 k17_1_0
  simp only [Int.toNat_natCast, Nat.zero_add, Nat.mul_one, isV_self, lsT, hm, b2, b3]
 have b7 : decide (((bs c.n fun j => cmpS (c.line j).st ((c.line i).from_ k) : Nat) : Int) < c.n) = true := decide_eq_true (by omega)
 rw [hC] at key
 by_cases hr : R (bs c.n fun j => cmpS (c.line j).st ((c.line i).from_ k)) = []
 ·have hc0 := hw.nil _ hb hr
  have hin2 : obIn (H.new { elem := 3, sz := 1, cells := [T.int IntKind.i64 i] }) 0 ((bs c.n fun j => cmpS (c.line j).st ((c.line i).from_ k)) + 1) = true := by
   unfold obIn
   rw [findOb_new, if_neg (by have := hw.pos; omega), hw.top]
   exact decide_eq_true (by simp only; omega)
  rw [hc0] at key
  simp only [isNils, if_true] at key
  have hst := key (by rw [e0, hC, hc0]; simp only [allT, isNils, hin, hin2, b7, Bool.and_true])
  have hob : obv (H.new { elem := 3, sz := 1, cells := [T.int IntKind.i64 i] }) 0 = ⟨37, 1, C⟩ := by
   unfold obv; rw [findOb_new, if_neg (by have := hw.pos; omega), hw.top]
  rw [hob] at hst
  exact ⟨_, _, _, hst, Rw.pushN hw hb hr i _ rfl⟩
 ·obtain ⟨r1, r2, r3, r4⟩ := hw.row _ hb hr
  have hrl := hR (bs c.n fun j => cmpS (c.line j).st ((c.line i).from_ k))
  rw [r1] at key
  simp only [isNils, Bool.false_eq_true, if_false, oslL, oslN] at key
  have ho : (obv H (id (bs c.n fun j => cmpS (c.line j).st ((c.line i).from_ k)))).cells = ints (R (bs c.n fun j => cmpS (c.line j).st ((c.line i).from_ k))) := by unfold obv; rw [r2]
  have hg0 : ∀ o : Ob, ((H.drop (id (bs c.n fun j => cmpS (c.line j).st ((c.line i).from_ k)))).new o).get 0 = some ⟨37, 1, C⟩ := fun o => by
   rw [findOb_new, if_neg (by have := hw.pos; show ¬ H.next = 0; omega), get_drop, if_neg (by omega), hw.top]
  have hst := key (by
   unfold g17_1_2 k17_1_0
   simp only [Int.toNat_natCast, Nat.zero_add, Nat.mul_one, hC, r1, oslL, oslN]
   have c1 : ∀ o : Ob, obIn ((H.drop (id (bs c.n fun j => cmpS (c.line j).st ((c.line i).from_ k)))).new o) 0 ((bs c.n fun j => cmpS (c.line j).st ((c.line i).from_ k)) + 1) = true := fun o => by
    unfold obIn; rw [hg0]; exact decide_eq_true (by simp only; omega)
   have c2 : obApp H (id (bs c.n fun j => cmpS (c.line j).st ((c.line i).from_ k))) 3 1 (R (bs c.n fun j => cmpS (c.line j).st ((c.line i).from_ k))).length = true := by
    unfold obApp; rw [r2]; simp [ints]
   have c3 : roomT ((R (bs c.n fun j => cmpS (c.line j).st ((c.line i).from_ k))).length + 1) 8 = true := by
    unfold roomT; rw [decide_eq_true (by omega), decide_eq_true (by omega)]; rfl
   simp only [allT, isOsl1, isV_self, lsT, hm, hin, c1, c2, c3, b2, b3, b7, Bool.and_true])
  have hob : ∀ o : Ob, obv ((H.drop (id (bs c.n fun j => cmpS (c.line j).st ((c.line i).from_ k)))).new o) 0 = ⟨37, 1, C⟩ := fun o => by
   unfold obv; rw [hg0]
  rw [hob, ho] at hst
  exact ⟨_, _, _, hst, Rw.pushO hw hb hr i _ rfl⟩
end
end Go.Proofs.Tryz

/- children of the program: proved. -/
namespace Go.Proofs.Tryz
open Go.Ps
set_option maxRecDepth 100000
def fq (ks : List Int) (c : Ct) (x : Ln) : Int :=
 if x.fate = 1 then (if ks.length = 0 then 10 else if any ks.length (fun j => ((c.line (ks.getD j 0).toNat).k : Int) != 1) then 10 else if exR (fun j => (c.line (ks.getD j 0).toNat).mass != shI x.mass ks.length j) (shN x.mass ks.length) 0 then 38 else 0)
 else if x.closed = 5 then (if ks.length ≠ 1 then 10 else if any ks.length (fun j => ((c.line (ks.getD j 0).toNat).k : Int) != 1) then 10 else if arr (c.line (ks.getD 0 0).toNat).st = false then 10 else if (c.line (ks.getD 0 0).toNat).mass ≠ x.mass then 38 else 0)
 else if x.fate = 2 then (if ks.length ≠ 1 then 10 else 0)
 else if ks.length > 0 then 10 else 0
section
variable (c : Ct) (hs : small c) (rows : Nat → List Int) (NX i : Nat) (hi : i < c.n) (hr : ∀ z ∈ rows i, 0 ≤ z ∧ z < c.n) (hlen : (rows i).length ≤ 40000)
include hs hi hr hlen
theorem rg (j : Nat) (hj : j < (rows i).length) : 0 ≤ (rows i).getD j 0 ∧ (rows i).getD j 0 < c.n := by
 rw [List.getD_eq_getElem?_getD, List.getElem?_eq_getElem hj]
 exact hr _ (List.getElem_mem hj)
theorem K17_2_ok : K17_2 c c.n i rows NX = true := by
 have h1 := hs.1
 have b4 : decide ((i : Int) < c.n) = true := decide_eq_true (by omega)
 have b5 : decide ((0 : Int) ≤ i) = true := decide_eq_true (by omega)
 have b6 : decide ((rows i).length ≤ 281474976710656) = true := decide_eq_true (by omega)
 have b7 : decide (∀ j, j < (rows i).length → 0 ≤ (rows i).getD j 0 ∧ (rows i).getD j 0 < (c.n : Int)) = true := decide_eq_true (fun j hj => rg c hs rows i hi hr hlen j hj)
 unfold K17_2
 by_cases hl1 : (rows i).length = 1
 ·obtain ⟨q1, q2⟩ := rg c hs rows i hi hr hlen 0 (by omega)
  have b8 := decide_eq_true q1
  have b9 := decide_eq_true q2
  have b10 : decide ((0 : Int) < (rows i).length) = true := decide_eq_true (by omega)
  repeat' (refine tree_eq (fun _ => ?_) (fun _ => ?_))
  all_goals (simp only [g17_2_1, g17_2_2, g17_2_3, g17_2_4, g17_2_5, g17_2_6, g17_2_7, g17_2_8, g17_2_9, g17_2_10, g17_2_11, g17_2_12, Int.toNat_natCast, k17_2_1, k17_2_0, k17_2_2, k17_2_3, k17_2_4, k17_2_5, k17_2_7, k17_2_6, k17_2_8] at *; first | (simp only [*, allT, isT, isV_self, decide_true, Bool.not_false, Bool.not_true, Bool.and_true]; done) | simp_all [allT, isT])
 ·have hl2 : (((rows i).length : Int) != 1) = true := by simp; omega
  repeat' (refine tree_eq (fun _ => ?_) (fun _ => ?_))
  all_goals (simp only [g17_2_1, g17_2_2, g17_2_3, g17_2_4, g17_2_5, g17_2_6, g17_2_7, g17_2_8, g17_2_9, g17_2_10, g17_2_11, g17_2_12, Int.toNat_natCast, k17_2_1, k17_2_0, k17_2_2, k17_2_3, k17_2_4, k17_2_5, k17_2_7, k17_2_6, k17_2_8] at *; first | (simp only [*, allT, isT, isV_self, decide_true, Bool.not_false, Bool.not_true, Bool.and_true]; done) | simp_all [allT, isT])
theorem back17 (σ : S17) (hσ : σ = .l3n0_0 i c.n i rows NX ∨ σ = .l3s1_1 i c.n i rows NX) : (M17 c).step σ = some (.inl (.l2 c.n (i + 1 : Nat) rows NX)) := by
 have h1 := hs.1
 rcases hσ with rfl | rfl
 ·show step17_3n0_0 c i c.n i rows NX = _
  rw [T17_3n0_0 c i c.n i rows NX (by unfold K17_3n0_0; simp [g17_3n0_0_1, allT])]
  unfold V17_3n0_0
  rw [wsucc i (by omega)]
 ·show step17_3s1_1 c i c.n i rows NX = _
  rw [T17_3s1_1 c i c.n i rows NX (by unfold K17_3s1_1; simp [g17_3s1_1_1, allT])]
  unfold V17_3s1_1
  first | done | rw [wsucc i (by omega)]
theorem st17_3s (h1l : (rows i).length = 1) : (M17 c).step (.l3s1_0 i c.n i rows NX) = some (if (c.line ((rows i).getD 0 0).toNat).mass != (c.line i).mass then .inr (.int .i64 38) else .inl (.l3s1_1 i c.n i rows NX)) := by
 have h1 := hs.1
 obtain ⟨q1, q2⟩ := rg c hs rows i hi hr hlen 0 (by omega)
 have b4 : decide ((i : Int) < c.n) = true := decide_eq_true (by omega)
 have b5 : decide ((0 : Int) ≤ i) = true := decide_eq_true (by omega)
 have b8 := decide_eq_true q1
 have b9 := decide_eq_true q2
 have b10 : decide ((0 : Int) < (rows i).length) = true := decide_eq_true (by omega)
 show step17_3s1_0 c i c.n i rows NX = _
 rw [T17_3s1_0 c i c.n i rows NX ?_]
 ·rfl
 ·unfold K17_3s1_0
  refine tree_eq (fun e => ?_) (fun e => ?_)
  all_goals (simp only [g17_3s1_0_1, g17_3s1_0_2, Int.toNat_natCast, k17_3s1_0_0] at *; simp only [e, allT, isV_self, b4, b5, b8, b9, b10, decide_true, Bool.not_false, Bool.and_true])
theorem st17_3f (k : Nat) (hk : k < shN (c.line i).mass (rows i).length) : (M17 c).step (.l3f i c.n i (shN (c.line i).mass (rows i).length : Nat) k rows NX) = some (if (c.line ((rows i).getD k 0).toNat).mass != shI (c.line i).mass (rows i).length k then .inr (.int .i64 38) else .inl (.l3f i c.n i (shN (c.line i).mass (rows i).length : Nat) (k + 1 : Nat) rows NX)) := by
 have h1 := hs.1
 have hk2 : k < (rows i).length := by
  unfold shN at hk
  split at hk <;> omega
 obtain ⟨q1, q2⟩ := rg c hs rows i hi hr hlen k hk2
 have b1 : decide ((k : Int) < (shN (c.line i).mass (rows i).length : Nat)) = true := decide_eq_true (by omega)
 have b2 : decide ((k : Int) < (rows i).length) = true := decide_eq_true (by omega)
 have b3 : decide ((0 : Int) ≤ k) = true := decide_eq_true (by omega)
 have b4 : decide ((i : Int) < c.n) = true := decide_eq_true (by omega)
 have b5 : decide ((0 : Int) ≤ i) = true := decide_eq_true (by omega)
 have b8 := decide_eq_true q1
 have b9 := decide_eq_true q2
 show step17_3f c i c.n i (shN (c.line i).mass (rows i).length : Nat) k rows NX = _
 rw [T17_3f c i c.n i (shN (c.line i).mass (rows i).length : Nat) k rows NX ?_]
 ·congr 1
  unfold V17_3f
  simp only [Int.toNat_natCast]
  rw [if_pos b1, wsucc k (by omega)]
 ·unfold K17_3f
  simp only [Int.toNat_natCast]
  rw [if_pos b1]
  refine tree_eq (fun e => ?_) (fun e => ?_)
  all_goals (simp only [g17_3f_1, g17_3f_2, Int.toNat_natCast, k17_3f_0] at *; simp only [e, allT, isV_self, b1, b2, b3, b4, b5, b8, b9, decide_true, Bool.not_false, Bool.and_true])
theorem st17_3fe : (M17 c).step (.l3f i c.n i (shN (c.line i).mass (rows i).length : Nat) (shN (c.line i).mass (rows i).length : Nat) rows NX) = some (.inl (.l2 c.n (i + 1 : Nat) rows NX)) := by
 have h1 := hs.1
 show step17_3f c i c.n i (shN (c.line i).mass (rows i).length : Nat) (shN (c.line i).mass (rows i).length : Nat) rows NX = _
 rw [T17_3f c i c.n i (shN (c.line i).mass (rows i).length : Nat) (shN (c.line i).mass (rows i).length : Nat) rows NX (by unfold K17_3f; simp only [Int.toNat_natCast]; rw [if_neg (by simp)]; simp [g17_3f_3, allT])]
 unfold V17_3f
 simp only [Int.toNat_natCast]
 rw [if_neg (by simp), wsucc i (by omega)]
theorem ln17 (r : T) (hn : Runs (M17 c) (.l2 c.n (i + 1 : Nat) rows NX) r) : Runs (M17 c) (.l2 c.n i rows NX) (if fq (rows i) c (c.line i) ≠ 0 then .int .i64 (fq (rows i) c (c.line i)) else r) := by
 have b4 : decide ((i : Int) < c.n) = true := decide_eq_true (by omega)
 have hst : (M17 c).step (.l2 c.n i rows NX) = some (V17_2 c c.n i rows NX) := T17_2 c c.n i rows NX (K17_2_ok c hs rows NX i hi hr hlen)
 unfold V17_2 at hst
 simp only [Int.toNat_natCast] at hst
 rw [if_pos b4] at hst
 have hf : ∀ (q k : Nat), q + k = shN (c.line i).mass (rows i).length → Runs (M17 c) (.l3f i c.n i (shN (c.line i).mass (rows i).length : Nat) k rows NX) (if exR (fun j => (c.line ((rows i).getD j 0).toNat).mass != shI (c.line i).mass (rows i).length j) q k then .int .i64 38 else r) := by
  intro q
  induction q with
  | zero =>
   intro k hk
   have : k = shN (c.line i).mass (rows i).length := by omega
   subst this
   exact .next (st17_3fe c hs rows NX i hi hr hlen) hn
  | succ q ih =>
   intro k hk
   have hs3 := st17_3f c hs rows NX i hi hr hlen k (by omega)
   rw [exR.eq_2]
   cases h : ((c.line ((rows i).getD k 0).toNat).mass != shI (c.line i).mass (rows i).length k)
   ·rw [h] at hs3; exact .next hs3 (ih (k + 1) (by omega))
   ·rw [h] at hs3; exact .done hs3
 have fin : ∀ (X : Int), fq (rows i) c (c.line i) = X → Runs (M17 c) (.l2 c.n i rows NX) (if X ≠ 0 then .int .i64 X else r) → Runs (M17 c) (.l2 c.n i rows NX) (if fq (rows i) c (c.line i) ≠ 0 then .int .i64 (fq (rows i) c (c.line i)) else r) := by
  rintro X rfl h; exact h
 by_cases e1 : (c.line i).fate = 1
 ·have e1' : ((c.line i).fate == 1) = true := by simp [e1]
  simp only [e1', if_true] at hst
  by_cases e2 : (rows i).length = 0
  ·have e2' : (((rows i).length : Int) == 0) = true := by simp [e2]
   simp only [e2', if_true] at hst
   exact fin 10 (by unfold fq; rw [if_pos e1, if_pos e2]) (.done hst)
  ·have e2' : (((rows i).length : Int) == 0) = false := by rw [beq_eq_false_iff_ne]; omega
   simp only [e2', Bool.false_eq_true, if_false] at hst
   by_cases e3 : any (rows i).length (fun j => ((c.line ((rows i).getD j 0).toNat).k : Int) != 1) = true
   ·simp only [e3, if_true] at hst
    exact fin 10 (by unfold fq; rw [if_pos e1, if_neg e2, if_pos e3]) (.done hst)
   ·simp only [e3, if_false] at hst
    have := Runs.next hst (hf (shN (c.line i).mass (rows i).length) 0 (by omega))
    by_cases e4 : exR (fun j => (c.line ((rows i).getD j 0).toNat).mass != shI (c.line i).mass (rows i).length j) (shN (c.line i).mass (rows i).length) 0 = true
    ·rw [if_pos e4] at this
     exact fin 38 (by unfold fq; rw [if_pos e1, if_neg e2, if_neg e3, if_pos e4]) this
    ·rw [if_neg e4] at this
     exact fin 0 (by unfold fq; rw [if_pos e1, if_neg e2, if_neg e3, if_neg e4]) this
 ·have e1' : ((c.line i).fate == 1) = false := by simp [e1]
  simp only [e1', Bool.false_eq_true, if_false] at hst
  by_cases e2 : (c.line i).closed = 5
  ·have e2' : ((c.line i).closed == 5) = true := by simp [e2]
   simp only [e2', if_true] at hst
   by_cases e3 : (rows i).length = 1
   ·have e3' : (((rows i).length : Int) != 1) = false := by simp [e3]
    simp only [e3', Bool.false_eq_true, if_false] at hst
    by_cases e4 : any (rows i).length (fun j => ((c.line ((rows i).getD j 0).toNat).k : Int) != 1) = true
    ·simp only [e4, if_true] at hst
     exact fin 10 (by unfold fq; rw [if_neg e1, if_pos e2, if_neg (by simp [e3]), if_pos e4]) (.done hst)
    ·simp only [e4, if_false] at hst
     by_cases e5 : arr (c.line ((rows i).getD 0 0).toNat).st = false
     ·simp only [e5, Bool.not_false, if_true] at hst
      exact fin 10 (by unfold fq; rw [if_neg e1, if_pos e2, if_neg (by simp [e3]), if_neg e4, if_pos e5]) (.done hst)
     ·have e5' : arr (c.line ((rows i).getD 0 0).toNat).st = true := by simpa using e5
      simp only [e5', Bool.not_true, Bool.false_eq_true, if_false] at hst
      have hs3 := st17_3s c hs rows NX i hi hr hlen e3
      by_cases e6 : (c.line ((rows i).getD 0 0).toNat).mass = (c.line i).mass
      ·have e6' : ((c.line ((rows i).getD 0 0).toNat).mass != (c.line i).mass) = false := bne_eq_false_iff_eq.2 e6
       rw [e6'] at hs3
       exact fin 0 (by unfold fq; rw [if_neg e1, if_pos e2, if_neg (by simp [e3]), if_neg e4, if_neg e5, if_neg (fun q => q e6)]) (.next hst (.next hs3 (.next (back17 c hs rows NX i hi hr hlen _ (.inr rfl)) hn)))
      ·have e6' : ((c.line ((rows i).getD 0 0).toNat).mass != (c.line i).mass) = true := bne_iff_ne.2 e6
       rw [e6'] at hs3
       exact fin 38 (by unfold fq; rw [if_neg e1, if_pos e2, if_neg (by simp [e3]), if_neg e4, if_neg e5, if_pos e6]) (.next hst (.done hs3))
   ·have e3' : (((rows i).length : Int) != 1) = true := by simp; omega
    simp only [e3', if_true] at hst
    exact fin 10 (by unfold fq; rw [if_neg e1, if_pos e2, if_pos e3]) (.done hst)
  ·have e2' : ((c.line i).closed == 5) = false := by simp [e2]
   simp only [e2', Bool.false_eq_true, if_false] at hst
   by_cases e3 : (c.line i).fate = 2
   ·have e3' : ((c.line i).fate == 2) = true := by simp [e3]
    simp only [e3', if_true] at hst
    by_cases e4 : (rows i).length = 1
    ·have e4' : (((rows i).length : Int) != 1) = false := by simp [e4]
     simp only [e4', Bool.false_eq_true, if_false] at hst
     exact fin 0 (by unfold fq; rw [if_neg e1, if_neg e2, if_pos e3, if_neg (by simp [e4])]) (.next hst (.next (back17 c hs rows NX i hi hr hlen _ (.inl rfl)) hn))
    ·have e4' : (((rows i).length : Int) != 1) = true := by simp; omega
     simp only [e4', if_true] at hst
     exact fin 10 (by unfold fq; rw [if_neg e1, if_neg e2, if_pos e3, if_pos e4]) (.done hst)
   ·have e3' : ((c.line i).fate == 2) = false := by simp [e3]
    simp only [e3', Bool.false_eq_true, if_false] at hst
    by_cases e4 : (rows i).length > 0
    ·have e4' : decide (((rows i).length : Int) > 0) = true := decide_eq_true (by omega)
     simp only [e4', if_true] at hst
     exact fin 10 (by unfold fq; rw [if_neg e1, if_neg e2, if_neg e3, if_pos e4]) (.done hst)
    ·have e4' : decide (((rows i).length : Int) > 0) = false := decide_eq_false (by omega)
     simp only [e4', Bool.false_eq_true, if_false] at hst
     exact fin 0 (by unfold fq; rw [if_neg e1, if_neg e2, if_neg e3, if_neg e4]) (.next hst (.next (back17 c hs rows NX i hi hr hlen _ (.inl rfl)) hn))
end
end Go.Proofs.Tryz

/- children of the program: the contract. -/
namespace Go.Proofs.Tryz
open Go.Ps
set_option maxRecDepth 100000
def Rin (n L : Nat) (R : Nat → List Int) : Prop := ∀ z, (R z).length ≤ L ∧ ∀ x ∈ R z, 0 ≤ x ∧ x < n
theorem Rin.push {n L : Nat} {R : Nat → List Int} (h : Rin n L R) (a i : Nat) (hi : i < n) : Rin n (L + 1) (Tryz.push R a i) := by
 intro z
 unfold Tryz.push
 by_cases e : z = a
 ·rw [if_pos e]
  refine ⟨by simp; exact (h z).1, fun x hx => ?_⟩
  rcases List.mem_append.1 hx with q | q
  ·exact (h z).2 x q
  ·simp at q; omega
 ·rw [if_neg e]
  exact ⟨by have := (h z).1; omega, (h z).2⟩
theorem Rin.mono {n L L' : Nat} {R : Nat → List Int} (h : Rin n L R) (hL : L ≤ L') : Rin n L' R := fun z => ⟨Nat.le_trans (h z).1 hL, (h z).2⟩
def chE (R : Nat → List Int) (c : Ct) : Int := fst (fun i => fq (R i) c (c.line i)) c.n 0
theorem fst_congr {e e' : Nat → Int} : ∀ (q i : Nat), (∀ j, i ≤ j → j < i + q → e j = e' j) → fst e q i = fst e' q i
 | 0, _, _ => rfl
 | q + 1, i, h => by
  unfold fst
  rw [h i (by omega) (by omega), fst_congr q (i + 1) (fun j h1 h2 => h j (by omega) (by omega))]
section
variable (c : Ct) (hs : small c) (hl : linked (ap c) c)
include hs
theorem run17_2 (rows : Nat → List Int) (NX : Nat) (hr : ∀ i, i < c.n → (∀ z ∈ rows i, 0 ≤ z ∧ z < c.n) ∧ (rows i).length ≤ 40000) : ∀ (q i : Nat), q + i = c.n → Runs (M17 c) (.l2 c.n i rows NX) (.int .i64 (fst (fun i => fq (rows i) c (c.line i)) q i)) := by
 intro q
 induction q with
 | zero =>
  intro i hi
  have : i = c.n := by omega
  subst this
  refine .done ?_
  show step17_2 c c.n c.n rows NX = _
  rw [T17_2 c c.n c.n rows NX (by unfold K17_2; rw [if_neg (by simp)]; simp [g17_2_12, allT])]
  unfold V17_2
  rw [if_neg (by simp)]
  rfl
 | succ q ih =>
  intro i hi
  have h := hr i (by omega)
  have := ln17 c hs rows NX i (by omega) h.1 h.2 _ (ih (i + 1) (by omega))
  unfold fst
  by_cases e : fq (rows i) c (c.line i) = 0
  ·rw [if_neg (by simp [e])] at this ⊢; exact this
  ·rw [if_pos e] at this ⊢; exact this
include hl
theorem run17_0 (r : T) : ∀ (q i : Nat) (H : Hp) (R : Nat → List Int) (C : List T) (id : Nat → Nat), q + i = c.n → Rw c.n H R C id → Rin c.n (300 * i) R → r = .int .i64 (chE (rwO c q i R) c) → Runs (M17 c) (.l0 c.n i H) r := by
 have hn := hs.1
 intro q
 induction q with
 | zero =>
  intro i H R C id hi hw hR hr
  have : i = c.n := by omega
  subst this
  obtain ⟨w1, w2⟩ := hw.ok
  refine .next (s' := .l2 c.n (0 : Nat) (rowsOf H) H.next) ?_ ?_
  ·show step17_0 c c.n c.n H = _
   rw [T17_0 c c.n c.n H (by unfold K17_0; rw [if_neg (by simp), pB_iff.2 w1]; simp [g17_0_2, allT])]
   unfold V17_0
   rw [if_neg (by simp)]
   rfl
  ·have := run17_2 c hs (rowsOf H) H.next (fun i hi => by rw [w2 i hi]; exact ⟨(hR i).2, by have := (hR i).1; omega⟩) c.n 0 (by omega)
   rw [hr]
   have e : chE (rwO c 0 c.n R) c = fst (fun i => fq (rowsOf H i) c (c.line i)) c.n 0 := by
    unfold chE
    refine fst_congr c.n 0 (fun j _ hj => ?_)
    rw [w2 j (by omega)]
    rfl
   rw [e]
   exact this
 | succ q ih =>
  intro i H R C id hi hw hR hr
  obtain ⟨k10, _, _⟩ := hs.2 i (by omega)
  have inner : ∀ (p k : Nat) (H : Hp) (R : Nat → List Int) (C : List T) (id : Nat → Nat), p + k = (c.line i).k → Rw c.n H R C id → Rin c.n (300 * i + k) R → r = .int .i64 (chE (rwO c q (i + 1) (rwR c i p k R)) c) → Runs (M17 c) (.l1 i c.n i (c.line i).k k H) r := by
   intro p
   induction p with
   | zero =>
    intro k H R C id hk hw hR hr
    have : k = (c.line i).k := by omega
    subst this
    refine .next (s' := .l0 c.n (i + 1 : Nat) H) ?_ (ih (i + 1) H R C id (by omega) hw (hR.mono (by omega)) hr)
    show step17_1 c i c.n i (c.line i).k (c.line i).k H = _
    rw [T17_1 c i c.n i (c.line i).k (c.line i).k H (by unfold K17_1; rw [if_neg (by simp)]; simp [g17_1_3, allT])]
    unfold V17_1
    rw [if_neg (by simp), wsucc i (by omega)]
   | succ p ihp =>
    intro k H R C id hk hw hR hr
    obtain ⟨H', C', id', a, b⟩ := st17_1 c hs hl i (by omega) k (by omega) H R (fun z => by have := (hR z).1; omega) C id hw
    exact .next a (ihp (k + 1) H' _ C' id' (by omega) b (hR.push _ i (by omega)) hr)
  refine .next (s' := .l1 i c.n i (c.line i).k (0 : Nat) H) ?_ (inner (c.line i).k 0 H R C id (by omega) hw (hR.mono (by omega)) hr)
  show step17_0 c c.n i H = _
  have b1 : decide ((i : Int) < c.n) = true := decide_eq_true (by omega)
  have b2 : decide ((0 : Int) ≤ i) = true := decide_eq_true (by omega)
  rw [T17_0 c c.n i H (by unfold K17_0; rw [if_pos b1]; simp only [g17_0_1, allT, b1, b2, Bool.and_true])]
  unfold V17_0
  rw [if_pos b1]
  rfl
theorem children_ok : PureFn prog gl 35 [ctT c] (.int .i64 (chE (rowsP c) c)) := by
 have hn := hs.1
 obtain ⟨n, h⟩ := run17_0 c hs hl _ c.n 0 _ _ _ _ (by omega) (Rw.start c.n) (fun z => ⟨by simp, by simp⟩) rfl
 refine c17 c n ?_ ?_
 ·unfold K17_s
  simp only [g17_s_1, allT, decide_true, decide_eq_true (show c.n * 24 ≤ 70368744177664 by omega), decide_eq_true (show (c.n : Int) ≤ 70368744177664 by omega), Bool.and_true]
 ·unfold V17_s
  exact h
end
end Go.Proofs.Tryz

/- The contracts of the program's rules. -/
namespace Go.Proofs.Tryz
noncomputable section
open Go.Ps
def s14 : List T → Option (T × List Bool)
 | [t] => some (.int .i64 (sizE (ctv t)), [isV t (ctT (ctv t))])
 | _ => none
def s15 : List T → Option (T × List Bool)
 | [t] => some (.int .i64 (formE (ctv t)), [isV t (ctT (ctv t)), pB (small (ctv t))])
 | _ => none
def s16 : List T → Option (T × List Bool)
 | [t] => some (.int .i64 (parE (ctv t)), [isV t (ctT (ctv t)), pB (small (ctv t))])
 | _ => none
def s17 : List T → Option (T × List Bool)
 | [t] => some (.int .i64 (chE (rowsP (ctv t)) (ctv t)), [isV t (ctT (ctv t)), pB (small (ctv t)), pB (linked (ap (ctv t)) (ctv t))])
 | _ => none
def s18 : List T → Option (T × List Bool)
 | [t] => some (.int .i64 (merE (ctv t)), [isV t (ctT (ctv t)), pB (small (ctv t)), pB (linked (ap (ctv t)) (ctv t))])
 | _ => none
def s19 : List T → Option (T × List Bool)
 | [t] => some (.int .i64 (totE (ctv t)), [isV t (ctT (ctv t)), decide ((ctv t).n ≤ 281474976710656)])
 | _ => none
theorem s14_ok (ts : List T) (r : T) (cs : List Bool) (h : s14 ts = some (r, cs)) (k : allT cs = true) : PureFn prog gl 32 ts r := by
 unfold s14 at h; split at h
 ·rename_i t
  cases h
  simp only [allT, Bool.and_true, Bool.and_eq_true, isV_iff, pB_iff, decide_eq_true_eq] at k
  rw [k]; exact size_ok _
 ·cases h
theorem s15_ok (ts : List T) (r : T) (cs : List Bool) (h : s15 ts = some (r, cs)) (k : allT cs = true) : PureFn prog gl 33 ts r := by
 unfold s15 at h; split at h
 ·rename_i t
  cases h
  simp only [allT, Bool.and_true, Bool.and_eq_true, isV_iff, pB_iff, decide_eq_true_eq] at k
  rw [k.1]; exact form_ok _ k.2
 ·cases h
theorem s16_ok (ts : List T) (r : T) (cs : List Bool) (h : s16 ts = some (r, cs)) (k : allT cs = true) : PureFn prog gl 34 ts r := by
 unfold s16 at h; split at h
 ·rename_i t
  cases h
  simp only [allT, Bool.and_true, Bool.and_eq_true, isV_iff, pB_iff, decide_eq_true_eq] at k
  rw [k.1]; exact parents_ok _ k.2
 ·cases h
theorem s17_ok (ts : List T) (r : T) (cs : List Bool) (h : s17 ts = some (r, cs)) (k : allT cs = true) : PureFn prog gl 35 ts r := by
 unfold s17 at h; split at h
 ·rename_i t
  cases h
  simp only [allT, Bool.and_true, Bool.and_eq_true, isV_iff, pB_iff, decide_eq_true_eq] at k
  rw [k.1]; exact children_ok _ k.2.1 k.2.2
 ·cases h
theorem s18_ok (ts : List T) (r : T) (cs : List Bool) (h : s18 ts = some (r, cs)) (k : allT cs = true) : PureFn prog gl 36 ts r := by
 unfold s18 at h; split at h
 ·rename_i t
  cases h
  simp only [allT, Bool.and_true, Bool.and_eq_true, isV_iff, pB_iff, decide_eq_true_eq] at k
  rw [k.1]; exact merges_ok _ k.2.1 k.2.2
 ·cases h
theorem s19_ok (ts : List T) (r : T) (cs : List Bool) (h : s19 ts = some (r, cs)) (k : allT cs = true) : PureFn prog gl 37 ts r := by
 unfold s19 at h; split at h
 ·rename_i t
  cases h
  simp only [allT, Bool.and_true, Bool.and_eq_true, isV_iff, pB_iff, decide_eq_true_eq] at k
  rw [k.1]; exact totals_ok _ k.2
 ·cases h
def D18 : Ed := ⟨gl, (pdAdd 32 s14 (pdAdd 33 s15 (pdAdd 34 s16 (pdAdd 35 s17 (pdAdd 36 s18 (pdAdd 37 s19 D16.pd))))))⟩
theorem cx18 : Cx prog D18 F0 := ⟨follows, (pdAdd_ok (pdAdd_ok (pdAdd_ok (pdAdd_ok (pdAdd_ok (pdAdd_ok cx16.hE s19_ok) s18_ok) s17_ok) s16_ok) s15_ok) s14_ok), F0ok⟩
end
end Go.Proofs.Tryz

/- Check as a machine, by program (gen2). -/
namespace Go.Proofs.Tryz
noncomputable section
open Go.Ps
set_option maxRecDepth 100000
/-! ### 8 -/
inductive S8 where
 | l0u0
 | l0u1
 | l0u2
 | l0u3
 | l0u4
 | l0u5
 | l0u6
def g8_s_1 (c : Ct) : List Bool := []
def g8_0u0_1 (c : Ct) : List Bool := [sizE c != 0, isV (ctT c) (ctT c), true, true, true]
def g8_0u0_2 (c : Ct) : List Bool := [!sizE c != 0, isV (ctT c) (ctT c), true, true, true]
def k8_0u1_0 (c : Ct) : List Bool := [isV (ctT c) (ctT c), pB (small c), true, true, true]
def g8_0u1_1 (c : Ct) : List Bool := (formE c != 0) :: k8_0u1_0 c
def g8_0u1_2 (c : Ct) : List Bool := (!formE c != 0) :: k8_0u1_0 c
def k8_0u2_0 (c : Ct) : List Bool := [isV (ctT c) (ctT c), pB (small c), true, true, true]
def g8_0u2_1 (c : Ct) : List Bool := (parE c != 0) :: k8_0u2_0 c
def g8_0u2_2 (c : Ct) : List Bool := (!parE c != 0) :: k8_0u2_0 c
def k8_0u3_0 (c : Ct) : List Bool := [isV (ctT c) (ctT c), pB (small c), pB (linked (ap c) c), true, true, true]
def g8_0u3_1 (c : Ct) : List Bool := (chE (rowsP c) c != 0) :: k8_0u3_0 c
def g8_0u3_2 (c : Ct) : List Bool := (!chE (rowsP c) c != 0) :: k8_0u3_0 c
def k8_0u4_0 (c : Ct) : List Bool := [isV (ctT c) (ctT c), pB (small c), pB (linked (ap c) c), true, true, true]
def g8_0u4_1 (c : Ct) : List Bool := (merE c != 0) :: k8_0u4_0 c
def g8_0u4_2 (c : Ct) : List Bool := (!merE c != 0) :: k8_0u4_0 c
def k8_0u5_0 (c : Ct) : List Bool := [isV (ctT c) (ctT c), decide (c.n ≤ 281474976710656), true, true, true]
def g8_0u5_1 (c : Ct) : List Bool := (totE c != 0) :: k8_0u5_0 c
def g8_0u5_2 (c : Ct) : List Bool := (!totE c != 0) :: k8_0u5_0 c
def g8_0u6_1 (c : Ct) : List Bool := [true]
def V8_0u0 (c : Ct) : S8 ⊕ T :=
 (if sizE c != 0 then (.inr (T.int .i64 (sizE c))) else (.inl (.l0u1)))
def K8_0u0 (c : Ct) : Bool :=
 (if sizE c != 0 then (allT (g8_0u0_1 c)) else (allT (g8_0u0_2 c)))
def step8_0u0 (c : Ct) : Option (S8 ⊕ T) := if K8_0u0 c then some (V8_0u0 c) else none
theorem T8_0u0 (c : Ct) (hk : K8_0u0 c = true) : step8_0u0 c = some (V8_0u0 c) := if_pos hk
def V8_0u1 (c : Ct) : S8 ⊕ T :=
 (if formE c != 0 then (.inr (T.int .i64 (formE c))) else (.inl (.l0u2)))
def K8_0u1 (c : Ct) : Bool :=
 (if formE c != 0 then (allT (g8_0u1_1 c)) else (allT (g8_0u1_2 c)))
def step8_0u1 (c : Ct) : Option (S8 ⊕ T) := if K8_0u1 c then some (V8_0u1 c) else none
theorem T8_0u1 (c : Ct) (hk : K8_0u1 c = true) : step8_0u1 c = some (V8_0u1 c) := if_pos hk
def V8_0u2 (c : Ct) : S8 ⊕ T :=
 (if parE c != 0 then (.inr (T.int .i64 (parE c))) else (.inl (.l0u3)))
def K8_0u2 (c : Ct) : Bool :=
 (if parE c != 0 then (allT (g8_0u2_1 c)) else (allT (g8_0u2_2 c)))
def step8_0u2 (c : Ct) : Option (S8 ⊕ T) := if K8_0u2 c then some (V8_0u2 c) else none
theorem T8_0u2 (c : Ct) (hk : K8_0u2 c = true) : step8_0u2 c = some (V8_0u2 c) := if_pos hk
def V8_0u3 (c : Ct) : S8 ⊕ T :=
 (if chE (rowsP c) c != 0 then (.inr (T.int .i64 (chE (rowsP c) c))) else (.inl (.l0u4)))
def K8_0u3 (c : Ct) : Bool :=
 (if chE (rowsP c) c != 0 then (allT (g8_0u3_1 c)) else (allT (g8_0u3_2 c)))
def step8_0u3 (c : Ct) : Option (S8 ⊕ T) := if K8_0u3 c then some (V8_0u3 c) else none
theorem T8_0u3 (c : Ct) (hk : K8_0u3 c = true) : step8_0u3 c = some (V8_0u3 c) := if_pos hk
def V8_0u4 (c : Ct) : S8 ⊕ T :=
 (if merE c != 0 then (.inr (T.int .i64 (merE c))) else (.inl (.l0u5)))
def K8_0u4 (c : Ct) : Bool :=
 (if merE c != 0 then (allT (g8_0u4_1 c)) else (allT (g8_0u4_2 c)))
def step8_0u4 (c : Ct) : Option (S8 ⊕ T) := if K8_0u4 c then some (V8_0u4 c) else none
theorem T8_0u4 (c : Ct) (hk : K8_0u4 c = true) : step8_0u4 c = some (V8_0u4 c) := if_pos hk
def V8_0u5 (c : Ct) : S8 ⊕ T :=
 (if totE c != 0 then (.inr (T.int .i64 (totE c))) else (.inl (.l0u6)))
def K8_0u5 (c : Ct) : Bool :=
 (if totE c != 0 then (allT (g8_0u5_1 c)) else (allT (g8_0u5_2 c)))
def step8_0u5 (c : Ct) : Option (S8 ⊕ T) := if K8_0u5 c then some (V8_0u5 c) else none
theorem T8_0u5 (c : Ct) (hk : K8_0u5 c = true) : step8_0u5 c = some (V8_0u5 c) := if_pos hk
def V8_0u6 (c : Ct) : S8 ⊕ T :=
 (.inr (T.int .i64 0))
def K8_0u6 (c : Ct) : Bool :=
 (allT (g8_0u6_1 c))
def step8_0u6 (c : Ct) : Option (S8 ⊕ T) := if K8_0u6 c then some (V8_0u6 c) else none
theorem T8_0u6 (c : Ct) (hk : K8_0u6 c = true) : step8_0u6 c = some (V8_0u6 c) := if_pos hk
def V8_s (c : Ct) : S8 ⊕ T :=
 (.inl (.l0u0))
def K8_s (c : Ct) : Bool :=
 (allT (g8_s_1 c))
def step8 (c : Ct) : S8 → Option (S8 ⊕ T)
 | .l0u0 => step8_0u0 c
 | .l0u1 => step8_0u1 c
 | .l0u2 => step8_0u2 c
 | .l0u3 => step8_0u3 c
 | .l0u4 => step8_0u4 c
 | .l0u5 => step8_0u5 c
 | .l0u6 => step8_0u6 c
def M8 (c : Ct) : Mch S8 where
 lp := fun σ => match σ with
  | .l0u0 => 0
  | .l0u1 => 0
  | .l0u2 => 0
  | .l0u3 => 0
  | .l0u4 => 0
  | .l0u5 => 0
  | .l0u6 => 0
 keep := fun ι => match ι with
  | 0 => [1, 6, 7]
  | _ => []
 par := fun ι => match ι with
  | 0 => []
  | _ => []
 vs := fun σ => match σ with
  | .l0u0 => [(ctT c).ref 0, T.agg [T.fn (Fn.func 32) [] [], T.fn (Fn.func 33) [] [], T.fn (Fn.func 34) [] [], T.fn (Fn.func 35) [] [], T.fn (Fn.func 36) [] [], T.fn (Fn.func 37) [] []], T.int .i64 0]
  | .l0u1 => [(ctT c).ref 0, T.agg [T.fn (Fn.func 32) [] [], T.fn (Fn.func 33) [] [], T.fn (Fn.func 34) [] [], T.fn (Fn.func 35) [] [], T.fn (Fn.func 36) [] [], T.fn (Fn.func 37) [] []], T.int .i64 1]
  | .l0u2 => [(ctT c).ref 0, T.agg [T.fn (Fn.func 32) [] [], T.fn (Fn.func 33) [] [], T.fn (Fn.func 34) [] [], T.fn (Fn.func 35) [] [], T.fn (Fn.func 36) [] [], T.fn (Fn.func 37) [] []], T.int .i64 2]
  | .l0u3 => [(ctT c).ref 0, T.agg [T.fn (Fn.func 32) [] [], T.fn (Fn.func 33) [] [], T.fn (Fn.func 34) [] [], T.fn (Fn.func 35) [] [], T.fn (Fn.func 36) [] [], T.fn (Fn.func 37) [] []], T.int .i64 3]
  | .l0u4 => [(ctT c).ref 0, T.agg [T.fn (Fn.func 32) [] [], T.fn (Fn.func 33) [] [], T.fn (Fn.func 34) [] [], T.fn (Fn.func 35) [] [], T.fn (Fn.func 36) [] [], T.fn (Fn.func 37) [] []], T.int .i64 4]
  | .l0u5 => [(ctT c).ref 0, T.agg [T.fn (Fn.func 32) [] [], T.fn (Fn.func 33) [] [], T.fn (Fn.func 34) [] [], T.fn (Fn.func 35) [] [], T.fn (Fn.func 36) [] [], T.fn (Fn.func 37) [] []], T.int .i64 5]
  | .l0u6 => [(ctT c).ref 0, T.agg [T.fn (Fn.func 32) [] [], T.fn (Fn.func 33) [] [], T.fn (Fn.func 34) [] [], T.fn (Fn.func 35) [] [], T.fn (Fn.func 36) [] [], T.fn (Fn.func 37) [] []], T.int .i64 6]
 hp := fun _ => ⟨0, []⟩
 len := 17
 step := step8 c
def r8_0u0 (c : Ct)  (fr : List T) (ds : List Bool) : RD Out := (M8 c).rk prog D18 F0 f12 (.l0u0) fr ds
theorem w8_0u0_1 (c : Ct)  (fr : List T) : outK prog f12 20 [] (r8_0u0 c fr [true, true]) = wdn (T.int .i64 (sizE c)) (g8_0u0_1 c) := by kernel_rfl
theorem w8_0u0_2 (c : Ct)  (fr : List T) : (M8 c).wa prog f12 (r8_0u0 c fr [true, false]) 0 (g8_0u0_2 c) (.l0u1) := by unfold Mch.wa; kernel_rfl
def r8_0u1 (c : Ct)  (fr : List T) (ds : List Bool) : RD Out := (M8 c).rk prog D18 F0 f12 (.l0u1) fr ds
theorem w8_0u1_1 (c : Ct)  (fr : List T) : outK prog f12 20 [] (r8_0u1 c fr [true, true]) = wdn (T.int .i64 (formE c)) (g8_0u1_1 c) := by kernel_rfl
theorem w8_0u1_2 (c : Ct)  (fr : List T) : (M8 c).wa prog f12 (r8_0u1 c fr [true, false]) 0 (g8_0u1_2 c) (.l0u2) := by unfold Mch.wa; kernel_rfl
def r8_0u2 (c : Ct)  (fr : List T) (ds : List Bool) : RD Out := (M8 c).rk prog D18 F0 f12 (.l0u2) fr ds
theorem w8_0u2_1 (c : Ct)  (fr : List T) : outK prog f12 20 [] (r8_0u2 c fr [true, true]) = wdn (T.int .i64 (parE c)) (g8_0u2_1 c) := by kernel_rfl
theorem w8_0u2_2 (c : Ct)  (fr : List T) : (M8 c).wa prog f12 (r8_0u2 c fr [true, false]) 0 (g8_0u2_2 c) (.l0u3) := by unfold Mch.wa; kernel_rfl
def r8_0u3 (c : Ct)  (fr : List T) (ds : List Bool) : RD Out := (M8 c).rk prog D18 F0 f12 (.l0u3) fr ds
theorem w8_0u3_1 (c : Ct)  (fr : List T) : outK prog f12 20 [] (r8_0u3 c fr [true, true]) = wdn (T.int .i64 (chE (rowsP c) c)) (g8_0u3_1 c) := by kernel_rfl
theorem w8_0u3_2 (c : Ct)  (fr : List T) : (M8 c).wa prog f12 (r8_0u3 c fr [true, false]) 0 (g8_0u3_2 c) (.l0u4) := by unfold Mch.wa; kernel_rfl
def r8_0u4 (c : Ct)  (fr : List T) (ds : List Bool) : RD Out := (M8 c).rk prog D18 F0 f12 (.l0u4) fr ds
theorem w8_0u4_1 (c : Ct)  (fr : List T) : outK prog f12 20 [] (r8_0u4 c fr [true, true]) = wdn (T.int .i64 (merE c)) (g8_0u4_1 c) := by kernel_rfl
theorem w8_0u4_2 (c : Ct)  (fr : List T) : (M8 c).wa prog f12 (r8_0u4 c fr [true, false]) 0 (g8_0u4_2 c) (.l0u5) := by unfold Mch.wa; kernel_rfl
def r8_0u5 (c : Ct)  (fr : List T) (ds : List Bool) : RD Out := (M8 c).rk prog D18 F0 f12 (.l0u5) fr ds
theorem w8_0u5_1 (c : Ct)  (fr : List T) : outK prog f12 20 [] (r8_0u5 c fr [true, true]) = wdn (T.int .i64 (totE c)) (g8_0u5_1 c) := by kernel_rfl
theorem w8_0u5_2 (c : Ct)  (fr : List T) : (M8 c).wa prog f12 (r8_0u5 c fr [true, false]) 0 (g8_0u5_2 c) (.l0u6) := by unfold Mch.wa; kernel_rfl
theorem w8_0u6_1 (c : Ct)  (fr : List T) : outK prog f12 20 [] ((M8 c).rk prog D18 F0 f12 (.l0u6) fr [false]) = wdn (T.int .i64 0) (g8_0u6_1 c) := by kernel_rfl
theorem w8_s_1 (c : Ct) : (M8 c).wl prog f12 (runK prog D18 F0 2000 (.code (bodyOf f12)) [] 0 ([ctT c] ++ List.replicate 16 undefT) ⟨0, []⟩ [] []) 0 (g8_s_1 c) (.l0u0) := by unfold Mch.wl; kernel_rfl
theorem ways8 (c : Ct) : (M8 c).Ways prog D18 F0 f12 20 := by
 intro σ o fr h
 cases σ with
 | l0u0  =>
  obtain ⟨hk, ho⟩ := kv_some (K := K8_0u0 c) (V := V8_0u0 c) h
  exact (wk_if (kD (w8_0u0_1 c fr)) (kA (w8_0u0_2 c fr) rfl)) hk o ho
 | l0u1  =>
  obtain ⟨hk, ho⟩ := kv_some (K := K8_0u1 c) (V := V8_0u1 c) h
  exact (wk_if (kD (w8_0u1_1 c fr)) (kA (w8_0u1_2 c fr) rfl)) hk o ho
 | l0u2  =>
  obtain ⟨hk, ho⟩ := kv_some (K := K8_0u2 c) (V := V8_0u2 c) h
  exact (wk_if (kD (w8_0u2_1 c fr)) (kA (w8_0u2_2 c fr) rfl)) hk o ho
 | l0u3  =>
  obtain ⟨hk, ho⟩ := kv_some (K := K8_0u3 c) (V := V8_0u3 c) h
  exact (wk_if (kD (w8_0u3_1 c fr)) (kA (w8_0u3_2 c fr) rfl)) hk o ho
 | l0u4  =>
  obtain ⟨hk, ho⟩ := kv_some (K := K8_0u4 c) (V := V8_0u4 c) h
  exact (wk_if (kD (w8_0u4_1 c fr)) (kA (w8_0u4_2 c fr) rfl)) hk o ho
 | l0u5  =>
  obtain ⟨hk, ho⟩ := kv_some (K := K8_0u5 c) (V := V8_0u5 c) h
  exact (wk_if (kD (w8_0u5_1 c fr)) (kA (w8_0u5_2 c fr) rfl)) hk o ho
 | l0u6  =>
  obtain ⟨hk, ho⟩ := kv_some (K := K8_0u6 c) (V := V8_0u6 c) h
  exact (kD (w8_0u6_1 c fr)) hk o ho
theorem oks8 (c : Ct) : ∀ σ, Ps.codeOk (loopAt f12 ((M8 c).lp σ)).1 = true ∧ ksOk (.lp :: (loopAt f12 ((M8 c).lp σ)).2) = true := oks_of 1 (by kernel_rfl) (by intro σ; cases σ <;> exact Nat.le_of_ble_eq_true rfl)
theorem c8 (c : Ct) (n : Nat) {r : T} (hk : K8_s c = true) (hr : (M8 c).fin n (V8_s c) = some r) : PureFn prog gl 12 [ctT c] r :=
 pure_mach (M := (M8 c)) (fn := f12) (k := 20) (d := 8) (c := bodyOf f12) cx18 glFrz (by kernel_rfl) func12 (by kernel_rfl) rfl (by kernel_rfl) (by kernel_rfl) (L := 16) (by kernel_rfl) (ways8 c) (oks8 c) ((kL (w8_s_1 c) rfl) hk _ rfl) hr
end
end Go.Proofs.Tryz
