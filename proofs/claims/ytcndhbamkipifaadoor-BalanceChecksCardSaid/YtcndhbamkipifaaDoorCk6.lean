/- The certificate that comes in is a tree; what the row's list gives. -/
import Derived.Test.YtcndhbamkipifaaDoorCards
import Derived.Test.YtcndhbamkipifaaDoorTie
import Derived.Test.YtcndhbamkipifaaDoorCk1
import Derived.Test.YtcndhbamkipifaaDoorCk5
import Derived.WalkKit
import Derived.ProofKit
import Derived.OpenShut
import Derived.Deep.DeepHandedRow
import Derived.Lib.LaidTab
import Derived.Stop.LaidErr
import Derived.LaidMore
namespace Go.Ps
instance : Inhabited Sp := ⟨⟨0, 0, fun _ => 0⟩⟩
instance : Inhabited Ln := ⟨⟨default, 0, 0, fun _ => default, 0, 0, []⟩⟩
def Sp.ok (s : Sp) : Prop := IntKind.i64.has s.entry ∧ s.n ≤ maxLen ∧ ∀ i, i < s.n → IntKind.i64.has (s.at_ i)
def Ln.ok (x : Ln) : Prop := x.st.ok ∧ IntKind.i64.has x.mass ∧ (x.k ≤ maxLen ∧ ∀ i, i < x.k → (x.from_ i).ok) ∧ IntKind.i64.has x.fate ∧ IntKind.i64.has x.closed ∧ x.node.length ≤ maxLen
def Ct.ok (c : Ct) : Prop := IntKind.i64.has c.entries ∧ IntKind.i64.has c.accepted ∧ IntKind.i64.has c.delivered ∧ IntKind.i64.has c.waiting ∧ IntKind.i64.has c.letters ∧ IntKind.i64.has c.discarded ∧ c.n ≤ maxLen ∧ ∀ i, i < c.n → (c.line i).ok
end Go.Ps
namespace Go.Proofs.YtcndhbamkipifaaDoor
open Go.ChangeShapes Go.WideShapes Go.ChangeAt Go.RowKit Go.Ps

theorem ownN : ownKnob Tryd.prog.godebug = none := by kernel_rfl

section
variable {H : Type} {enc : TypeId × Value → H} {W : World}
theorem opInt : Opens enc Tryd.prog W 3 (fun n : Int => [T.int .i64 n]) (fun n => IntKind.i64.has n) := Opens.int Tryd.underlying3
theorem opStr : Opens enc Tryd.prog W 9 (fun s : List UInt8 => [T.str s]) (fun s => s.length ≤ maxLen) := Opens.str (by kernel_rfl)
theorem opInts : Opens enc Tryd.prog W 29 (fun x : Nat × (Nat → Int) => [T.slf false x.1 (fun i => T.int .i64 (x.2 i))]) (fun x => x.1 ≤ maxLen ∧ ∀ i, i < x.1 → IntKind.i64.has (x.2 i)) :=
  Opens.slice (sz := 1) (fun n => T.int .i64 n) (by kernel_rfl) (by kernel_rfl) (by decide) (fun _ => rfl) (fun _ => rfl) opInt
theorem opSp : Opens enc Tryd.prog W 36 (fun s : Sp => (spT s).cells) Sp.ok := by
  intro n cs y h
  obtain ⟨a, ha, oa⟩ := opInt.field h (i := 0) (o := 0) (s := 1) (by kernel_rfl)
  obtain ⟨p, hp, op⟩ := opInts.field h (i := 1) (o := 1) (s := 1) (by kernel_rfl)
  have hl : cs.length = 2 := (st_field h (i := 0) (u := 3) (o := 0) (s := 1) (by kernel_rfl)).1.trans (by kernel_rfl)
  exact ⟨⟨a, p.1, p.2⟩, by have := ha.cut (hp.cut (RdIL.end_ hl)); rw [List.drop_zero] at this; exact this, oa, op⟩
theorem opSps : Opens enc Tryd.prog W 37 (fun x : Nat × (Nat → Sp) => [T.slf false x.1 (fun i => spT (x.2 i))]) (fun x => x.1 ≤ maxLen ∧ ∀ i, i < x.1 → (x.2 i).ok) :=
  Opens.slice (sz := 2) spT (by kernel_rfl) (by kernel_rfl) (by decide) (fun _ => rfl) (fun _ => rfl) opSp
theorem opLn : Opens enc Tryd.prog W 39 (fun x : Ln => (lnT x).cells) Ln.ok := by
  intro n cs y h
  obtain ⟨a0, h0, o0⟩ := opSp.field h (i := 0) (o := 0) (s := 2) (by kernel_rfl)
  obtain ⟨a1, h1, o1⟩ := opInt.field h (i := 1) (o := 2) (s := 1) (by kernel_rfl)
  obtain ⟨a2, h2, o2⟩ := opSps.field h (i := 2) (o := 3) (s := 1) (by kernel_rfl)
  obtain ⟨a3, h3, o3⟩ := opInt.field h (i := 3) (o := 4) (s := 1) (by kernel_rfl)
  obtain ⟨a4, h4, o4⟩ := opInt.field h (i := 4) (o := 5) (s := 1) (by kernel_rfl)
  obtain ⟨a5, h5, o5⟩ := opStr.field h (i := 5) (o := 6) (s := 1) (by kernel_rfl)
  have hl : cs.length = 7 := (st_field h (i := 1) (u := 3) (o := 2) (s := 1) (by kernel_rfl)).1.trans (by kernel_rfl)
  exact ⟨⟨a0, a1, a2.1, a2.2, a3, a4, a5⟩, by have := h0.cut (h1.cut (h2.cut (h3.cut (h4.cut (h5.cut (RdIL.end_ hl)))))); rw [List.drop_zero] at this; exact this, o0, o1, o2, o3, o4, o5⟩
theorem opLns : Opens enc Tryd.prog W 22 (fun x : Nat × (Nat → Ln) => [T.slf false x.1 (fun i => lnT (x.2 i))]) (fun x => x.1 ≤ maxLen ∧ ∀ i, i < x.1 → (x.2 i).ok) :=
  Opens.slice (sz := 7) lnT (by kernel_rfl) (by kernel_rfl) (by decide) (fun _ => rfl) (fun _ => rfl) opLn
theorem opCt : Opens enc Tryd.prog W 24 (fun c : Ct => (ctT c).cells) Ct.ok := by
  intro n cs y h
  obtain ⟨a0, h0, o0⟩ := opInt.field h (i := 0) (o := 0) (s := 1) (by kernel_rfl)
  obtain ⟨a1, h1, o1⟩ := opInt.field h (i := 1) (o := 1) (s := 1) (by kernel_rfl)
  obtain ⟨a2, h2, o2⟩ := opInt.field h (i := 2) (o := 2) (s := 1) (by kernel_rfl)
  obtain ⟨a3, h3, o3⟩ := opInt.field h (i := 3) (o := 3) (s := 1) (by kernel_rfl)
  obtain ⟨a4, h4, o4⟩ := opInt.field h (i := 4) (o := 4) (s := 1) (by kernel_rfl)
  obtain ⟨a5, h5, o5⟩ := opInt.field h (i := 5) (o := 5) (s := 1) (by kernel_rfl)
  obtain ⟨a6, h6, o6⟩ := opLns.field h (i := 6) (o := 6) (s := 1) (by kernel_rfl)
  have hl : cs.length = 7 := (st_field h (i := 1) (u := 3) (o := 1) (s := 1) (by kernel_rfl)).1.trans (by kernel_rfl)
  exact ⟨⟨a0, a1, a2, a3, a4, a5, a6.1, a6.2⟩, by have := h0.cut (h1.cut (h2.cut (h3.cut (h4.cut (h5.cut (h6.cut (RdIL.end_ hl))))))); rw [List.drop_zero] at this; exact this, o0, o1, o2, o3, o4, o5, o6⟩

/-- The certificate. -/
theorem openCt {base : Nat} {v : Value} {d : DataW H} {p : List MemPlace} (hval : Value.okWide Tryd.prog W .any base 24 v) (h : DataW.Trod enc Tryd.prog W 0 (fun _ => true) true 24 v d p) : ∃ c : Ct, Rd (G.start W) v (ctT c) ∧ c.ok := by
  obtain ⟨n, h⟩ := h
  obtain ⟨c, hc, ok⟩ := opCt n _ _ h
  have hst : ∃ fs, Tryd.prog.underlying 24 = some (.struct fs) := by
    have hu : (match Tryd.prog.underlying 24 with | some (.struct _) => true | _ => false) = true := by kernel_rfl
    split at hu
    · rename_i fs e; exact ⟨fs, e⟩
    · cases hu
  obtain ⟨fs, hst⟩ := hst
  obtain ⟨cs, rfl, e⟩ := rd_struct hst hval
  rw [e] at hc
  exact ⟨c, rd_agg hc, ok⟩
end

/-- The table of powers of ten. -/
theorem glOkN {l : List (String × DataW Unit)} {W : World} (h : laidMet Tryd.prog (l ++ [("internal/strconv.uint64pow10", Lib.tabData .u64 Lib.pow10Tab)]) W) (hl : l.length = 2) : GlOk Tryd.gl (G.start W) := by
  match l, hl with
  | [a, b], _ =>
    have h2 : laidMet Tryd.prog [("internal/strconv.uint64pow10", Lib.tabData .u64 Lib.pow10Tab)] W := h.tail.tail
    have h3 := Lib.tabIs_of_head (g := 0) (t := 95) (e := 87) (n := 20) (by kernel_rfl) (by kernel_rfl) (by kernel_rfl) (by kernel_rfl) (by kernel_rfl) (by kernel_rfl) h2
    intro k t ht
    unfold Tryd.gl at ht
    split at ht
    · rename_i e
      subst e
      cases ht
      exact gl_of_tab (by kernel_rfl) h3
    · cases ht

theorem below_of {g g' : G} (h : PStep g g') : Below g.w.heap.size g.w g'.w := ⟨h.os, h.tape, h.output, h.size, h.block⟩
end Go.Proofs.YtcndhbamkipifaaDoor
