/- The relation between values in a world and trees, and its stability. -/
import Derived.Test.YtcndhbamkipifaaDoorPsA
import Derived.Below
import Derived.Laws.Entries
import Derived.Laws.Rows
namespace Go.Ps

/-- A world, the blocks that are written no more, the objects of the abstract heap: which there are, the block of each, the capacity of each row. -/
structure G where
  w : World
  S : Nat → Prop
  al : Nat → Prop
  loc : Nat → Nat
  cp : Nat → Nat

/-- Plain data that is written no more, whatever objects there are. -/
inductive RdI (g : G) : Value → T → Prop
  | int (k : IntKind) (n : Int) : RdI g (.int k n) (.int k n)
  | bool (b : Bool) : RdI g (.bool b) (.bool b)
  | str (s : ByteArray) : RdI g (.string s) (.str s.data.toList)
  | nilp : RdI g (.pointer none) .nilp
  | nils : RdI g (.slice none 0 0) .nils
  | nilf : RdI g .nilFunc .nilf
  | nili : RdI g .nilIface .nili
  | nilm : RdI g (.map none) .nilm
  | slfn (full : Bool) (f : Nat → T) : RdI g (.slice none 0 0) (.slf full 0 f)
  | slf (full : Bool) (n : Nat) (f : Nat → T) (sz b o cap : Nat) (vs : List Value) : (n ≠ 0 → g.S b) → (∀ i, i < n → (f i).cells.length = sz) → n ≤ cap → cap ≤ maxLen → (full = true → cap = n) →
      vs.length = n * sz → (∀ (j : Nat) (v : Value), vs[j]? = some v → g.w.cell? ⟨b, o + j, none⟩ = some v) →
      (∀ (i j : Nat) (v : Value) (c : T), i < n → j < sz → vs[i * sz + j]? = some v → (f i).cells[j]? = some c → RdI g v c) → RdI g (.slice (some ⟨b, o, none⟩) n cap) (.slf full n f)
  | agg (cs : List T) (vs : List Value) : vs.length = cs.length → (∀ (j : Nat) (v : Value) (c : T), vs[j]? = some v → cs[j]? = some c → RdI g v c) → RdI g (.agg vs.toArray) (.agg cs)

inductive Rd (g : G) : Value → T → Prop
  | int (k : IntKind) (n : Int) : Rd g (.int k n) (.int k n)
  | bool (b : Bool) : Rd g (.bool b) (.bool b)
  | str (s : ByteArray) : Rd g (.string s) (.str s.data.toList)
  | nilp : Rd g (.pointer none) .nilp
  | ptr (l off : Nat) : g.al l → Rd g (.pointer (some ⟨g.loc l, off, none⟩)) (.ptr l off)
  | ref (x : T) (off b o : Nat) (vs : List Value) : g.S b → vs.length = x.cells.length → (∀ (j : Nat) (v : Value), vs[j]? = some v → g.w.cell? ⟨b, o + j, none⟩ = some v) →
      (∀ (j : Nat) (v : Value) (c : T), vs[j]? = some v → x.cells[j]? = some c → Rd g v c) → Rd g (.pointer (some ⟨b, o + off, none⟩)) (.ref x off)
  | nils : Rd g (.slice none 0 0) .nils
  | slfn (full : Bool) (f : Nat → T) : Rd g (.slice none 0 0) (.slf full 0 f)
  | sl (full : Bool) (xs : List T) (sz b o cap : Nat) (vs : List Value) : (xs ≠ [] → g.S b) → (∀ x ∈ xs, x.cells.length = sz) → xs.length ≤ cap → cap ≤ maxLen → (full = true → cap = xs.length) →
      vs.length = xs.length * sz → (∀ (j : Nat) (v : Value), vs[j]? = some v → g.w.cell? ⟨b, o + j, none⟩ = some v) →
      (∀ (j : Nat) (v : Value) (c : T), vs[j]? = some v → (xs.flatMap T.cells)[j]? = some c → Rd g v c) → Rd g (.slice (some ⟨b, o, none⟩) xs.length cap) (.sl full xs)
  | slf (full : Bool) (n : Nat) (f : Nat → T) (sz b o cap : Nat) (vs : List Value) : (n ≠ 0 → g.S b) → (∀ i, i < n → (f i).cells.length = sz) → n ≤ cap → cap ≤ maxLen → (full = true → cap = n) →
      vs.length = n * sz → (∀ (j : Nat) (v : Value), vs[j]? = some v → g.w.cell? ⟨b, o + j, none⟩ = some v) →
      (∀ (i j : Nat) (v : Value) (c : T), i < n → j < sz → vs[i * sz + j]? = some v → (f i).cells[j]? = some c → RdI g v c) → Rd g (.slice (some ⟨b, o, none⟩) n cap) (.slf full n f)
  | osl (l sz i len b o cap : Nat) : g.al l → len ≤ cap → i + cap ≤ g.cp l → (0 < len ∨ i = 0 → b = g.loc l ∧ o = i * sz) → (i = 0 → cap = g.cp l) → Rd g (.slice (some ⟨b, o, none⟩) len cap) (.osl l sz i len)
  | nilf : Rd g .nilFunc .nilf
  | fn (f : Fn) (first captured : List T) (vs us : List Value) : vs.length = first.length → (∀ (j : Nat) (v : Value) (c : T), vs[j]? = some v → first[j]? = some c → Rd g v c) →
      us.length = captured.length → (∀ (j : Nat) (v : Value) (c : T), us[j]? = some v → captured[j]? = some c → Rd g v c) → Rd g (.func f vs.toArray us.toArray) (.fn f first captured)
  | nili : Rd g .nilIface .nili
  | iface (t : TypeId) (v : Value) (x : T) : Rd g v x → Rd g (.iface t v) (.iface t x)
  | nilm : Rd g (.map none) .nilm
  | agg (cs : List T) (vs : List Value) : vs.length = cs.length → (∀ (j : Nat) (v : Value) (c : T), vs[j]? = some v → cs[j]? = some c → Rd g v c) → Rd g (.agg vs.toArray) (.agg cs)
  | tup (cs : List T) (vs : List Value) : vs.length = cs.length → (∀ (j : Nat) (v : Value) (c : T), vs[j]? = some v → cs[j]? = some c → Rd g v c) → Rd g (.tuple vs.toArray) (.tup cs)

/-- Lists of values and trees, cell by cell. -/
def RdL (g : G) (vs : List Value) (ts : List T) : Prop := vs.length = ts.length ∧ ∀ (j : Nat) (v : Value) (c : T), vs[j]? = some v → ts[j]? = some c → Rd g v c

section RdL
variable {g : G}
theorem RdL.nil : RdL g [] [] := ⟨rfl, fun j v c h => by simp at h⟩
theorem RdL.cons {v : Value} {t : T} {vs : List Value} {ts : List T} (h : Rd g v t) (hs : RdL g vs ts) : RdL g (v :: vs) (t :: ts) := by
  refine ⟨by simp [hs.1], fun j u c hu hc => ?_⟩
  cases j with
  | zero => simp at hu hc; subst hu; subst hc; exact h
  | succ j => simp at hu hc; exact hs.2 j u c hu hc
theorem RdL.inv_cons {v : Value} {t : T} {vs : List Value} {ts : List T} (h : RdL g (v :: vs) (t :: ts)) : Rd g v t ∧ RdL g vs ts :=
  ⟨h.2 0 v t rfl rfl, by simpa using h.1, fun j u c hu hc => h.2 (j + 1) u c (by simpa using hu) (by simpa using hc)⟩
theorem RdL.append {vs us : List Value} {ts ss : List T} (h : RdL g vs ts) (k : RdL g us ss) : RdL g (vs ++ us) (ts ++ ss) := by
  refine ⟨by simp [h.1, k.1], fun j u c hu hc => ?_⟩
  rw [List.getElem?_append] at hu hc
  by_cases hj : j < vs.length
  · rw [if_pos hj] at hu
    rw [if_pos (h.1 ▸ hj)] at hc
    exact h.2 j u c hu hc
  · rw [if_neg hj] at hu
    rw [if_neg (h.1 ▸ hj), ← h.1] at hc
    exact k.2 _ u c hu hc
theorem RdL.take {vs : List Value} {ts : List T} (h : RdL g vs ts) (n : Nat) : RdL g (vs.take n) (ts.take n) := by
  refine ⟨by simp [h.1], fun j u c hu hc => ?_⟩
  rw [List.getElem?_take] at hu hc
  split at hu
  · rename_i hj; rw [if_pos hj] at hc; exact h.2 j u c hu hc
  · cases hu
theorem RdL.drop {vs : List Value} {ts : List T} (h : RdL g vs ts) (n : Nat) : RdL g (vs.drop n) (ts.drop n) := by
  refine ⟨by simp [h.1], fun j u c hu hc => ?_⟩
  rw [List.getElem?_drop] at hu hc
  exact h.2 _ u c hu hc
theorem RdL.at_ {vs : List Value} {ts : List T} (h : RdL g vs ts) {j : Nat} {t : T} (ht : ts[j]? = some t) : ∃ v, vs[j]? = some v ∧ Rd g v t := by
  have hj : j < ts.length := (List.getElem?_eq_some_iff.1 ht).1
  have hv : vs[j]? = some (vs[j]'(by rw [h.1]; exact hj)) := List.getElem?_eq_getElem _
  exact ⟨_, hv, h.2 j _ t hv ht⟩
theorem RdL.set {vs : List Value} {ts : List T} (h : RdL g vs ts) (i : Nat) {v : Value} {t : T} (hv : Rd g v t) : RdL g (vs.set i v) (ts.set i t) := by
  refine ⟨by simp [h.1], fun j u c hu hc => ?_⟩
  rw [List.getElem?_set] at hu hc
  by_cases hij : i = j
  · rw [if_pos hij] at hu hc
    split at hu
    · split at hc
      · simp at hu hc; subst hu; subst hc; exact hv
      · cases hc
    · cases hu
  · rw [if_neg hij] at hu hc
    exact h.2 j u c hu hc
theorem RdL.replicate {v : Value} {t : T} (n : Nat) (h : Rd g v t) : RdL g (List.replicate n v) (List.replicate n t) := by
  induction n with
  | zero => exact RdL.nil
  | succ n ih => exact RdL.cons h ih
end RdL

/-- A step that changes no block that there was. -/
structure PStep (g g' : G) : Prop where
  os : g'.w.os = g.w.os
  tape : g'.w.tape = g.w.tape
  output : g'.w.output = g.w.output
  size : g.w.heap.size ≤ g'.w.heap.size
  block : ∀ b, b < g.w.heap.size → g'.w.heap[b]? = g.w.heap[b]?
  sub : ∀ b, g.S b → g'.S b
  fresh : ∀ b, g'.S b → g.S b ∨ g.w.heap.size ≤ b
  al : g'.al = g.al
  loc : g'.loc = g.loc
  cp : g'.cp = g.cp

theorem PStep.refl (g : G) : PStep g g := ⟨rfl, rfl, rfl, Nat.le_refl _, fun _ _ => rfl, fun _ h => h, fun _ h => .inl h, rfl, rfl, rfl⟩
theorem PStep.trans {a b c : G} (h : PStep a b) (k : PStep b c) : PStep a c :=
  ⟨k.os.trans h.os, k.tape.trans h.tape, k.output.trans h.output, Nat.le_trans h.size k.size, fun i hi => (k.block i (Nat.lt_of_lt_of_le hi h.size)).trans (h.block i hi),
   fun i hi => k.sub i (h.sub i hi), fun i hi => (k.fresh i hi).elim (h.fresh i) (fun q => .inr (Nat.le_trans h.size q)), k.al.trans h.al, k.loc.trans h.loc, k.cp.trans h.cp⟩

theorem lt_of_cell {w : World} {a : Addr} {v : Value} (h : w.cell? a = some v) : a.block < w.heap.size := by
  unfold World.cell? at h
  split at h
  · rename_i hb; exact (Array.getElem?_eq_some_iff.1 hb).1
  · cases h

theorem PStep.cell {g g' : G} (h : PStep g g') {a : Addr} {v : Value} (hc : g.w.cell? a = some v) : g'.w.cell? a = some v :=
  (World.cell?_of_block (w := g.w) (h.block _ (lt_of_cell hc))).trans hc

/-- Plain data stays where its blocks stay. -/
theorem RdI.keep {g g' : G} (hS : ∀ b, g.S b → g'.S b) (hc : ∀ b o v, g.S b → g.w.cell? ⟨b, o, none⟩ = some v → g'.w.cell? ⟨b, o, none⟩ = some v) {v : Value} {t : T} (hr : RdI g v t) : RdI g' v t := by
  induction hr with
  | int k n => exact .int k n
  | bool b => exact .bool b
  | str s => exact .str s
  | nilp => exact .nilp
  | nils => exact .nils
  | slfn full f => exact .slfn full f
  | nilf => exact .nilf
  | nili => exact .nili
  | nilm => exact .nilm
  | slf full n f sz b o cap vs h1 h2 h3 h4 h5 h6 h7 _ ih =>
    refine .slf full n f sz b o cap vs (fun q => hS b (h1 q)) h2 h3 h4 h5 h6 (fun j v hv => ?_) ih
    have hn : n ≠ 0 := by
      rintro rfl
      simp at h6
      subst h6
      simp at hv
    exact hc b _ v (h1 hn) (h7 j v hv)
  | agg cs vs h1 _ ih => exact .agg cs vs h1 ih

theorem RdI.rd {g : G} {v : Value} {t : T} (h : RdI g v t) : Rd g v t := by
  induction h with
  | int k n => exact .int k n
  | bool b => exact .bool b
  | str s => exact .str s
  | nilp => exact .nilp
  | nils => exact .nils
  | slfn full f => exact .slfn full f
  | nilf => exact .nilf
  | nili => exact .nili
  | nilm => exact .nilm
  | slf full n f sz b o cap vs h1 h2 h3 h4 h5 h6 h7 h8 _ => exact .slf full n f sz b o cap vs h1 h2 h3 h4 h5 h6 h7 h8
  | agg cs vs h1 _ ih => exact .agg cs vs h1 ih

theorem RdI.pstep {g g' : G} (h : PStep g g') {v : Value} {t : T} (hr : RdI g v t) : RdI g' v t := hr.keep h.sub (fun _ _ _ _ hc => h.cell hc)

/-- A slice whose elements are given by a function, kept. -/
theorem Rd.slf_keep {g g' : G} (hS : ∀ b, g.S b → g'.S b) (hc : ∀ b o v, g.S b → g.w.cell? ⟨b, o, none⟩ = some v → g'.w.cell? ⟨b, o, none⟩ = some v) {full : Bool} {n : Nat} {f : Nat → T} {sz b o cap : Nat} {vs : List Value} (h1 : n ≠ 0 → g.S b) (h2 : ∀ i, i < n → (f i).cells.length = sz) (h3 : n ≤ cap) (h4 : cap ≤ maxLen) (h5 : full = true → cap = n)
    (h6 : vs.length = n * sz) (h7 : ∀ (j : Nat) (v : Value), vs[j]? = some v → g.w.cell? ⟨b, o + j, none⟩ = some v)
    (h8 : ∀ (i j : Nat) (v : Value) (c : T), i < n → j < sz → vs[i * sz + j]? = some v → (f i).cells[j]? = some c → RdI g v c) : Rd g' (.slice (some ⟨b, o, none⟩) n cap) (.slf full n f) :=
  ((RdI.slf full n f sz b o cap vs h1 h2 h3 h4 h5 h6 h7 h8).keep hS hc).rd

theorem Rd.pstep {g g' : G} (h : PStep g g') {v : Value} {t : T} (hr : Rd g v t) : Rd g' v t := by
  induction hr with
  | int k n => exact .int k n
  | bool b => exact .bool b
  | str s => exact .str s
  | nilp => exact .nilp
  | ptr l off hl => rw [← h.loc]; exact .ptr l off (h.al ▸ hl)
  | ref x off b o vs hS hlen hc _ ih => exact .ref x off b o vs (h.sub b hS) hlen (fun j v hv => h.cell (hc j v hv)) ih
  | nils => exact .nils
  | slfn full f => exact .slfn full f
  | sl full xs sz b o cap vs hS hsz h1 h2 h3 hlen hc _ ih => exact .sl full xs sz b o cap vs (fun hx => h.sub b (hS hx)) hsz h1 h2 h3 hlen (fun j v hv => h.cell (hc j v hv)) ih
  | slf full n f sz b o cap vs h1 h2 h3 h4 h5 h6 h7 h8 => exact Rd.slf_keep h.sub (fun _ _ _ _ hc => h.cell hc) h1 h2 h3 h4 h5 h6 h7 h8
  | osl l sz i len b o cap hl h1 h2 h3 h4 => exact .osl l sz i len b o cap (h.al ▸ hl) h1 (h.cp ▸ h2) (fun q => h.loc ▸ h3 q) (fun q => h.cp ▸ h4 q)
  | nilf => exact .nilf
  | fn f first captured vs us h1 _ h2 _ ih1 ih2 => exact .fn f first captured vs us h1 ih1 h2 ih2
  | nili => exact .nili
  | iface t v x _ ih => exact .iface t v x ih
  | nilm => exact .nilm
  | agg cs vs h1 _ ih => exact .agg cs vs h1 ih
  | tup cs vs h1 _ ih => exact .tup cs vs h1 ih

theorem RdL.pstep {g g' : G} (h : PStep g g') {vs : List Value} {ts : List T} (hr : RdL g vs ts) : RdL g' vs ts := ⟨hr.1, fun j v c hv hc => (hr.2 j v c hv hc).pstep h⟩

/-- The blocks written no more lie in memory. -/
def Gok (g : G) : Prop := ∀ b, g.S b → b < g.w.heap.size

/-- The abstract heap's objects lie in memory, each in a block of its own. -/
structure St (g : G) (H : Hp) : Prop where
  own : ∀ l o, H.get l = some o → g.al l ∧ ¬ g.S (g.loc l) ∧ ∃ cs : Array Value, g.w.heap[g.loc l]? = some (.cells cs o.elem (0, 0)) ∧ o.cells.length ≤ cs.size ∧
    (o.sz = 0 → cs.size = o.cells.length) ∧ (o.sz ≠ 0 → cs.size = g.cp l * o.sz ∧ g.cp l ≤ maxLen) ∧ RdL g (cs.toList.take o.cells.length) o.cells
  sep : ∀ l l' o o', H.get l = some o → H.get l' = some o' → g.loc l = g.loc l' → l = l'
  new : ∀ l, H.next ≤ l → ¬ g.al l

theorem St.pstep {g g' : G} {H : Hp} (h : PStep g g') (hs : St g H) : St g' H := by
  refine ⟨fun l o ho => ?_, fun l l' o o' h1 h2 e => hs.sep l l' o o' h1 h2 (by rw [h.loc] at e; exact e), fun l hl => by rw [h.al]; exact hs.new l hl⟩
  obtain ⟨ha, hS, cs, hb, h1, h2, h3, h4⟩ := hs.own l o ho
  have hlt : g.loc l < g.w.heap.size := (Array.getElem?_eq_some_iff.1 hb).1
  refine ⟨h.al ▸ ha, ?_, cs, ?_, h1, h2, ?_, h4.pstep h⟩
  · rw [h.loc]
    exact fun q => (h.fresh _ q).elim hS (fun q' => by omega)
  · rw [h.loc, h.block _ hlt]; exact hb
  · rw [h.cp]; exact h3

theorem St.empty (g : G) (h : ∀ l, ¬ g.al l) : St g Hp.empty :=
  ⟨fun l o ho => by simp [Hp.empty, Hp.get, findOb] at ho, fun l l' o o' ho => by simp [Hp.empty, Hp.get, findOb] at ho, fun l _ => h l⟩

theorem rd_ofCell (g : G) {v : Value} {t : T} (h : ofCell v = some t) : Rd g v t := by
  unfold ofCell at h
  split at h <;> first | cases h | skip
  · exact .int _ _
  · exact .bool _
  · exact .str _
  · exact .nilp
  · exact .nils
  · exact .nilf
  · exact .nili
  · exact .nilm

theorem rd_ofCells (g : G) : ∀ {vs : List Value} {ts : List T}, ofCells vs = some ts → RdL g vs ts
  | [], ts, h => by simp [ofCells] at h; subst h; exact RdL.nil
  | v :: vs, ts, h => by
    simp only [ofCells] at h
    split at h
    · rename_i t ht
      split at h
      · rename_i ts' hts; cases h; exact RdL.cons (rd_ofCell g ht) (rd_ofCells g hts)
      · cases h
    · cases h

theorem rd_ofVal (g : G) {v : Value} {t : T} (h : ofVal v = some t) : Rd g v t := by
  unfold ofVal at h
  split at h
  · rename_i cs
    split at h
    · rename_i ts hts
      cases h
      have := rd_ofCells g hts
      exact Rd.agg ts cs.toList this.1 this.2
    · cases h
  · rename_i vs
    split at h
    · rename_i hv
      cases h
      have e : vs = ([] : List Value).toArray := by cases vs; simp at hv; simp [hv]
      rw [e]
      exact Rd.tup [] [] rfl (fun j v c h => by simp at h)
    · cases h
  · exact rd_ofCell g h

/-! ### What a tree tells of its value -/
section inv
variable {g : G} {v : Value}
theorem Rd.inv_int {k : IntKind} {n : Int} (h : Rd g v (.int k n)) : v = .int k n := by cases h; rfl
theorem Rd.inv_bool {b : Bool} (h : Rd g v (.bool b)) : v = .bool b := by cases h; rfl
theorem Rd.inv_str {s : List UInt8} (h : Rd g v (.str s)) : ∃ b : ByteArray, v = .string b ∧ b.data.toList = s := by cases h; exact ⟨_, rfl, rfl⟩
theorem Rd.inv_agg {cs : List T} (h : Rd g v (.agg cs)) : ∃ vs : List Value, v = .agg vs.toArray ∧ RdL g vs cs := by cases h with | agg _ vs h1 h2 => exact ⟨vs, rfl, h1, h2⟩
theorem Rd.inv_tup {cs : List T} (h : Rd g v (.tup cs)) : ∃ vs : List Value, v = .tuple vs.toArray ∧ RdL g vs cs := by cases h with | tup _ vs h1 h2 => exact ⟨vs, rfl, h1, h2⟩
theorem Rd.inv_fn {f : Fn} {a c : List T} (h : Rd g v (.fn f a c)) : ∃ vs us : List Value, v = .func f vs.toArray us.toArray ∧ RdL g vs a ∧ RdL g us c := by
  cases h with | fn _ _ _ vs us h1 h2 h3 h4 => exact ⟨vs, us, rfl, ⟨h1, h2⟩, ⟨h3, h4⟩⟩
theorem Rd.mk_agg {cs : List T} {vs : List Value} (h : RdL g vs cs) : Rd g (.agg vs.toArray) (.agg cs) := .agg cs vs h.1 h.2
theorem Rd.mk_tup {cs : List T} {vs : List Value} (h : RdL g vs cs) : Rd g (.tuple vs.toArray) (.tup cs) := .tup cs vs h.1 h.2
theorem Rd.mk_fn {f : Fn} {a c : List T} {vs us : List Value} (h : RdL g vs a) (k : RdL g us c) : Rd g (.func f vs.toArray us.toArray) (.fn f a c) := .fn f a c vs us h.1 h.2 k.1 k.2
theorem Rd.undef : Rd g Go.undef undefT := .tup [] [] rfl (fun j v c h => by simp at h)

/-- The cells of a value, one by one. -/
theorem Rd.cells {t : T} (h : Rd g v t) : RdL g v.cells.toList t.cells := by
  cases h with
  | agg cs vs h1 h2 => exact ⟨by simpa [Value.cells, T.cells] using h1, by simpa [Value.cells, T.cells] using h2⟩
  | tup cs vs h1 h2 => exact RdL.cons (.tup cs vs h1 h2) RdL.nil
  | int k n => exact RdL.cons (.int k n) RdL.nil
  | bool b => exact RdL.cons (.bool b) RdL.nil
  | str s => exact RdL.cons (.str s) RdL.nil
  | nilp => exact RdL.cons .nilp RdL.nil
  | ptr l off hl => exact RdL.cons (.ptr l off hl) RdL.nil
  | ref x off b o vs h1 h2 h3 h4 => exact RdL.cons (.ref x off b o vs h1 h2 h3 h4) RdL.nil
  | nils => exact RdL.cons .nils RdL.nil
  | slfn full f => exact RdL.cons (.slfn full f) RdL.nil
  | sl full xs sz b o cap vs h1 h2 h3 h4 h5 h6 h7 h8 => exact RdL.cons (.sl full xs sz b o cap vs h1 h2 h3 h4 h5 h6 h7 h8) RdL.nil
  | slf full n f sz b o cap vs h1 h2 h3 h4 h5 h6 h7 h8 => exact RdL.cons (.slf full n f sz b o cap vs h1 h2 h3 h4 h5 h6 h7 h8) RdL.nil
  | osl l sz i len b o cap h1 h2 h3 h4 h5 => exact RdL.cons (.osl l sz i len b o cap h1 h2 h3 h4 h5) RdL.nil
  | nilf => exact RdL.cons .nilf RdL.nil
  | fn f a c vs us h1 h2 h3 h4 => exact RdL.cons (.fn f a c vs us h1 h2 h3 h4) RdL.nil
  | nili => exact RdL.cons .nili RdL.nil
  | iface t v x hx => exact RdL.cons (.iface t v x hx) RdL.nil
  | nilm => exact RdL.cons .nilm RdL.nil

theorem Rd.isAgg {t : T} (h : Rd g v t) : (∃ cs, v = .agg cs) ↔ t.isAgg = true := by
  cases h <;> simp [T.isAgg]

theorem Rd.oneCell {t : T} (h : Rd g v t) (ho : t.one = true) : v.oneCell' = true := by
  cases h <;> simp_all [T.one, Value.oneCell']
end inv
end Go.Ps
