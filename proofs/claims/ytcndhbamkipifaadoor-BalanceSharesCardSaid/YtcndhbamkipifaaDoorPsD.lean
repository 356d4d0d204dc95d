/- Operations on plain values, addresses and slices. -/
import Derived.Test.YtcndhbamkipifaaDoorPsC
namespace Go.Ps

theorem bytes_toList (s : ByteArray) : s.toList = s.data.toList := by
  have loop : ∀ (n i : Nat) (r : List UInt8), s.size - i = n → ByteArray.toList.loop s i r = r.reverse ++ s.data.toList.drop i := by
    intro n
    induction n with
    | zero =>
      intro i r h
      rw [ByteArray.toList.loop, if_neg (by omega)]
      have : s.data.toList.length ≤ i := by have := ByteArray.size_data (a := s); simp; omega
      rw [List.drop_of_length_le this]; simp
    | succ n ih =>
      intro i r h
      have hi : i < s.size := by omega
      rw [ByteArray.toList.loop, if_pos hi, ih (i + 1) _ (by omega)]
      have hl : i < s.data.toList.length := by have := ByteArray.size_data (a := s); simp; omega
      rw [List.drop_eq_getElem_cons hl]
      have hl' : i < s.data.size := by simpa using hl
      have e : s.get! i = s.data.toList[i] := by
        show s.data[i]! = s.data.toList[i]
        rw [Array.getElem_toList, getElem!_pos s.data i hl']
      simp [e]
  have h := loop (s.size - 0) 0 [] rfl
  simp only [List.reverse_nil, List.nil_append, List.drop_zero] at h
  exact h

theorem eq_bytes (a b : ByteArray) : (a.toList == b.toList) = (a.data.toList == b.data.toList) := by rw [bytes_toList, bytes_toList]

theorem append_bytes (a b : ByteArray) : (a ++ b).data.toList = a.data.toList ++ b.data.toList := by
  rw [ByteArray.data_append, Array.toList_append]

section
variable {P : Program} {g : G}

theorem intBin_ok {op : BinOp} {k : IntKind} {a b : Int} {r : T} (h : intBin op k a b = some r) (t : TypeId) : ∃ q, (binOp op t (.int k a) (.int k b)).run P g.w = .ok q g.w ∧ Rd g q r := by
  cases op
  case quo =>
    simp only [intBin] at h
    split at h
    · cases h
    · rename_i hb; cases h; exact ⟨.int k (k.wrap (a.tdiv b)), by simp [binOp_quo, Op.intDiv, hb], .int _ _⟩
  case rem =>
    simp only [intBin] at h
    split at h
    · cases h
    · rename_i hb; cases h; exact ⟨.int k (a.tmod b), by simp [binOp_rem, Op.intDiv, hb], .int _ _⟩
  case add => cases h; exact ⟨_, by rw [binOp_add]; rfl, .int _ _⟩
  case sub => cases h; exact ⟨_, by rw [binOp_sub]; rfl, .int _ _⟩
  case mul => cases h; exact ⟨_, by rw [binOp_mul]; rfl, .int _ _⟩
  case and => cases h; exact ⟨_, by rw [binOp_and]; rfl, .int _ _⟩
  case or => cases h; exact ⟨_, by rw [binOp_or]; rfl, .int _ _⟩
  case xor => cases h; exact ⟨_, by rw [binOp_xor]; rfl, .int _ _⟩
  case andNot => cases h; exact ⟨_, by rw [binOp_andNot]; rfl, .int _ _⟩
  case eql => cases h; exact ⟨_, by rw [binOp_eql]; rfl, .bool _⟩
  case neq => cases h; exact ⟨_, by rw [binOp_neq]; rfl, .bool _⟩
  case lss => cases h; exact ⟨_, by rw [binOp_lss]; rfl, .bool _⟩
  case leq => cases h; exact ⟨_, by rw [binOp_leq]; rfl, .bool _⟩
  case gtr => cases h; exact ⟨_, by rw [binOp_gtr]; rfl, .bool _⟩
  case geq => cases h; exact ⟨_, by rw [binOp_geq]; rfl, .bool _⟩
  case shl => cases h
  case shr => cases h

theorem shiftBin_ok {op : BinOp} {k k' : IntKind} {a b : Int} {r : T} (h : shiftBin op k a b = some r) (t : TypeId) : ∃ q, (binOp op t (.int k a) (.int k' b)).run P g.w = .ok q g.w ∧ Rd g q r := by
  cases op
  case shl =>
    simp only [shiftBin] at h
    split at h
    · cases h
    · rename_i hb; cases h; exact ⟨_, by rw [binOp_shl]; simp only [Op.shift, if_neg hb]; rfl, .int _ _⟩
  case shr =>
    simp only [shiftBin] at h
    split at h
    · cases h
    · rename_i hb; cases h; exact ⟨_, by rw [binOp_shr]; simp only [Op.shift, if_neg hb]; rfl, .int _ _⟩
  all_goals cases h

theorem strBin_ok {op : BinOp} {a b : ByteArray} {r : T} (h : strBin op a.data.toList b.data.toList = some r) (t : TypeId) : ∃ q, (binOp op t (.string a) (.string b)).run P g.w = .ok q g.w ∧ Rd g q r := by
  cases op <;> simp only [strBin] at h <;> try cases h
  case add =>
    split at h
    · rename_i hl
      cases h
      have e1 : a.data.toList.length = a.size := by simp [ByteArray.size_data]
      have e2 : b.data.toList.length = b.size := by simp [ByteArray.size_data]
      rw [e1, e2] at hl
      have hlt : ¬ (((a.size + b.size : Nat) : Int) > IntKind.i64.max) := by simp [maxStr] at hl ⊢; omega
      refine ⟨.string (a ++ b), by simp only [binOp, Op.stringOp, if_neg hlt]; rfl, ?_⟩
      rw [← append_bytes]
      exact .str _
    · cases h
  all_goals
    refine ⟨_, by simp only [binOp, Op.stringOp]; rfl, ?_⟩
    simp only [bytes_toList]
    exact .bool _

theorem eqT_ok {t : TypeId} {x y : T} {r : Bool} (h : eqT P t x y = some r) {u v : Value} (hu : Rd g u x) (hv : Rd g v y) : (Op.equal t u v).run P g.w = .ok r g.w := by
  have key : ∀ d : Nat, (Op.equalIn (d + 1) t u v).run P g.w = .ok r g.w := by
    intro d
    unfold eqT at h
    split at h <;> try cases h
    all_goals
      rename_i hd
      cases hu
      cases hv
      simp [Op.equalIn, run_underlying hd]
  have := key 9999
  simpa only [Op.equal, Op.maxDepth] using this

theorem eqGuard_ok {op : BinOp} {t : TypeId} {x y : T} {r : Bool} (h : eqT P t x y = some r) {u v : Value} (hu : Rd g u x) (X Y : Operand) : eqGuard op t X Y u v = pure () := by
  unfold eqT at h
  split at h <;> try cases h
  all_goals
    cases hu
    first
      | exact eqGuard_at_bool ..
      | exact eqGuard_at_slice ..
      | exact eqGuard_at_pointer ..
      | exact eqGuard_at_func ..
      | exact eqGuard_at_nilFunc ..

theorem bin_ok {op : BinOp} {t : TypeId} {x y r : T} (h : binT P op t x y = some r) {u v : Value} (hu : Rd g u x) (hv : Rd g v y) (X Y : Operand) :
    ∃ q, (do eqGuard op t X Y u v; binOp op t u v).run P g.w = .ok q g.w ∧ Rd g q r := by
  unfold binT at h
  split at h
  · cases hu; cases hv
    obtain ⟨q, h1, h2⟩ := shiftBin_ok (P := P) (g := g) h t
    exact ⟨q, by simp only [eqGuard_at_int, Sem.run_bind, Sem.run_pure, Result.andThen_ok]; exact h1, h2⟩
  · cases hu; cases hv
    obtain ⟨q, h1, h2⟩ := shiftBin_ok (P := P) (g := g) h t
    exact ⟨q, by simp only [eqGuard_at_int, Sem.run_bind, Sem.run_pure, Result.andThen_ok]; exact h1, h2⟩
  · split at h
    · rename_i hk; subst hk
      cases hu; cases hv
      obtain ⟨q, h1, h2⟩ := intBin_ok (P := P) (g := g) h t
      exact ⟨q, by simp only [eqGuard_at_int, Sem.run_bind, Sem.run_pure, Result.andThen_ok]; exact h1, h2⟩
    · cases h
  · obtain ⟨a, rfl, rfl⟩ := hu.inv_str
    obtain ⟨b, rfl, rfl⟩ := hv.inv_str
    obtain ⟨q, h1, h2⟩ := strBin_ok (P := P) (g := g) h t
    exact ⟨q, by simp only [eqGuard_at_string, Sem.run_bind, Sem.run_pure, Result.andThen_ok]; exact h1, h2⟩
  · simp only [Option.map_eq_some_iff] at h
    obtain ⟨b, hb, rfl⟩ := h
    have h1 := eqT_ok hb hu hv
    have h2 := eqGuard_ok (op := .eql) (v := v) hb hu X Y
    refine ⟨.bool b, ?_, .bool _⟩
    rw [h2]
    unfold eqT at hb
    split at hb <;> try cases hb
    all_goals
      cases hu
      cases hv
      simp only [binOp, Sem.run_bind, Sem.run_pure, Result.andThen_ok, h1]
  · simp only [Option.map_eq_some_iff] at h
    obtain ⟨b, hb, rfl⟩ := h
    have h1 := eqT_ok hb hu hv
    have h2 := eqGuard_ok (op := .neq) (v := v) hb hu X Y
    refine ⟨.bool (!b), ?_, .bool _⟩
    rw [h2]
    unfold eqT at hb
    split at hb <;> try cases hb
    all_goals
      cases hu
      cases hv
      simp only [binOp, Sem.run_bind, Sem.run_pure, Result.andThen_ok, h1]
  · cases h

theorem un_ok {op : UnOp} {x r : T} (h : unT op x = some r) {u : Value} (hu : Rd g u x) : ∃ q, (Op.unary op u).run P g.w = .ok q g.w ∧ Rd g q r := by
  unfold unT at h
  split at h <;> try cases h
  · cases hu; exact ⟨_, by simp [Op.unary, Op.intArith], .int _ _⟩
  · cases hu; exact ⟨_, by simp [Op.unary], .bool _⟩

theorem conv_ok {s d : TypeId} {x r : T} (h : convT P s d x = some r) {u : Value} (hu : Rd g u x) : ∃ q, (convert s d u).run P g.w = .ok q g.w ∧ Rd g q r := by
  unfold convT at h
  split at h <;> try cases h
  · rename_i h1 h2
    cases hu
    exact ⟨_, by simp [convert, run_underlying h1, run_underlying h2, Conv.intToInt], .int _ _⟩
  · rename_i h1 h2
    obtain ⟨a, rfl, rfl⟩ := hu.inv_str
    exact ⟨_, by simp [convert, run_underlying h1, run_underlying h2], .str _⟩

theorem add_ok {x r : T} {n : Nat} (h : addT x n = some r) {u : Value} (hu : Rd g u x) : ∃ b o, u = .pointer (some ⟨b, o, none⟩) ∧ Rd g (.pointer (some ⟨b, o + n, none⟩)) r := by
  unfold addT at h
  split at h <;> try cases h
  · cases hu with
    | ref _ _ b o vs h1 h2 h3 h4 => exact ⟨b, _, rfl, by rw [Nat.add_assoc]; exact .ref _ _ b o vs h1 h2 h3 h4⟩
  · cases hu with
    | ptr _ _ hl => exact ⟨_, _, rfl, .ptr _ _ hl⟩

theorem fieldAddr_ok {s : TypeId} {x r : T} {f : Nat} (h : fieldAddrT P s x f = some r) {u : Value} (hu : Rd g u x) : ∃ q, (Instr.fieldAt s u f).run P g.w = .ok q g.w ∧ Rd g q r := by
  unfold fieldAddrT fieldT szT at h
  split at h
  · rename_i fd hfd
    split at hfd
    · rename_i fs hd
      split at h
      · rename_i n hn
        split at h
        · cases h
        · rename_i hn0
          simp only [Option.map_eq_some_iff] at hn
          obtain ⟨i, hi, rfl⟩ := hn
          obtain ⟨b, o, rfl, hr⟩ := add_ok h hu
          exact ⟨_, by simp [Instr.fieldAt, run_underlying hd, hfd, Instr.sureAddr, fieldPlace, sizeOf, typeInfo, hi, hn0, Addr.add_lit], hr⟩
      · cases h
    · cases hfd
  · cases h

theorem rows_at {xs : List T} {sz : Nat} (hsz : ∀ x ∈ xs, x.cells.length = sz) : ∀ {i : Nat} {y : T}, xs[i]? = some y → ∀ j c, y.cells[j]? = some c → (xs.flatMap T.cells)[i * sz + j]? = some c := by
  induction xs with
  | nil => intro i y h; simp at h
  | cons x xs ih =>
    intro i y h j c hc
    have hx := hsz x (by simp)
    cases i with
    | zero =>
      simp at h; subst h
      have hj : j < x.cells.length := (List.getElem?_eq_some_iff.1 hc).1
      simp only [List.flatMap_cons, Nat.zero_mul, Nat.zero_add]
      rw [List.getElem?_append_left hj]; exact hc
    | succ i =>
      simp at h
      have := ih (fun x hx => hsz x (by simp [hx])) h j c hc
      simp only [List.flatMap_cons]
      rw [List.getElem?_append_right (by rw [hx, Nat.succ_mul]; omega), hx]
      rw [show (i + 1) * sz + j - sz = i * sz + j by rw [Nat.succ_mul]; omega]
      exact this

theorem flat_length {xs : List T} {sz : Nat} (hsz : ∀ x ∈ xs, x.cells.length = sz) : (xs.flatMap T.cells).length = xs.length * sz := by
  induction xs with
  | nil => simp
  | cons x xs ih =>
    simp only [List.flatMap_cons, List.length_append, List.length_cons, ih (fun y hy => hsz y (by simp [hy])), hsz x (by simp), Nat.succ_mul]
    omega

theorem indexAddr_ok {t : TypeId} {x i r : T} (h : indexAddrT P t x i = some r) {u v : Value} (hu : Rd g u x) (hv : Rd g v i) : ∃ q, (Instr.indexAt t u v).run P g.w = .ok q g.w ∧ Rd g q r := by
  unfold indexAddrT szT at h
  split at h
  · rename_i k n
    cases hv
    split at h
    · rename_i e full xs hd
      split at h
      · rename_i h0
        split at h
        · rename_i y hy
          split at h
          · rename_i s hs
            split at h
            · rename_i hys
              cases h
              simp only [Option.map_eq_some_iff] at hs
              obtain ⟨i, hi, rfl⟩ := hs
              cases hu with
              | sl _ _ sz b o cap vs h1 h2 h3 h4 h5 h6 h7 h8 =>
                have hlt : n.toNat < xs.length := (List.getElem?_eq_some_iff.1 hy).1
                have hsz := h2 y (List.mem_of_getElem? hy)
                have e1 : i.size = sz := by omega
                have hmul : n.toNat * sz + sz ≤ xs.length * sz := by rw [← Nat.succ_mul]; exact Nat.mul_le_mul_right _ hlt
                refine ⟨.pointer (some ⟨b, o + n.toNat * sz, none⟩), ?_, ?_⟩
                · simp [Instr.indexAt, asIntOf, run_underlying hd, sizeOf, typeInfo, hi, e1, Addr.add_lit, h0]
                  omega
                · rw [show (⟨b, o + n.toNat * sz, none⟩ : Addr) = ⟨b, (o + n.toNat * sz) + 0, none⟩ from rfl]
                  refine .ref y 0 b (o + n.toNat * sz) ((vs.drop (n.toNat * sz)).take sz) (h1 (by intro e; simp [e] at hlt)) ?_ ?_ ?_
                  · simp [h6]; omega
                  · intro j w hw
                    rw [List.getElem?_take] at hw
                    split at hw
                    · rw [List.getElem?_drop] at hw
                      rw [Nat.add_assoc]; exact h7 _ w hw
                    · cases hw
                  · intro j w c hw hc
                    rw [List.getElem?_take] at hw
                    split at hw
                    · rw [List.getElem?_drop] at hw
                      exact h8 _ w c hw (rows_at h2 hy j c hc)
                    · cases hw
            · cases h
          · cases h
        · cases h
      · cases h
    · rename_i e full len f hd
      split at h
      · rename_i h0
        split at h
        · rename_i s hs
          split at h
          · rename_i hys
            cases h
            simp only [Option.map_eq_some_iff] at hs
            obtain ⟨i, hi, rfl⟩ := hs
            cases hu with
            | slfn _ _ => exact absurd h0.2 (by simp; omega)
            | slf _ _ _ sz b o cap vs h1 h2 h3 h4 h5 h6 h7 h8 =>
              have hlt : n.toNat < len := by omega
              have hsz := h2 n.toNat hlt
              have e1 : i.size = sz := by omega
              have hmul : n.toNat * sz + sz ≤ len * sz := by rw [← Nat.succ_mul]; exact Nat.mul_le_mul_right _ hlt
              refine ⟨.pointer (some ⟨b, o + n.toNat * sz, none⟩), ?_, ?_⟩
              · simp [Instr.indexAt, asIntOf, run_underlying hd, sizeOf, typeInfo, hi, e1, Addr.add_lit, h0]
              · rw [show (⟨b, o + n.toNat * sz, none⟩ : Addr) = ⟨b, (o + n.toNat * sz) + 0, none⟩ from rfl]
                refine .ref (f n.toNat) 0 b (o + n.toNat * sz) ((vs.drop (n.toNat * sz)).take sz) (h1 (by omega)) ?_ ?_ ?_
                · simp [h6]; omega
                · intro j w hw
                  rw [List.getElem?_take] at hw
                  split at hw
                  · rw [List.getElem?_drop] at hw
                    rw [Nat.add_assoc]; exact h7 _ w hw
                  · cases hw
                · intro j w c hw hc
                  rw [List.getElem?_take] at hw
                  split at hw
                  · rename_i hj
                    rw [List.getElem?_drop] at hw
                    exact (h8 n.toNat j w c hlt hj hw hc).rd
                  · cases hw
          · cases h
        · cases h
      · cases h
    · rename_i e l sz j len hd
      split at h
      · rename_i h0
        split at h
        · rename_i s hs
          split at h
          · rename_i hys
            cases h
            simp only [Option.map_eq_some_iff] at hs
            obtain ⟨i, hi, rfl⟩ := hs
            cases hu with
            | osl _ _ _ _ b o cap h1 h2 h3 h4 h5 =>
              obtain ⟨rfl, rfl⟩ := h4 (.inl (by omega))
              refine ⟨.pointer (some ⟨g.loc l, (j + n.toNat) * sz, none⟩), ?_, .ptr _ _ h1⟩
              simp [Instr.indexAt, asIntOf, run_underlying hd, sizeOf, typeInfo, hi, Addr.add_lit, h0, hys, Nat.add_mul]
          · cases h
        · cases h
      · cases h
    · rename_i len e hd
      split at h
      · rename_i h0
        split at h
        · rename_i s hs
          simp only [Option.map_eq_some_iff] at hs
          obtain ⟨i, hi, rfl⟩ := hs
          obtain ⟨b, o, rfl, hr⟩ := add_ok h hu
          refine ⟨_, ?_, hr⟩
          simp [Instr.indexAt, asIntOf, run_underlying hd, Instr.sureAddr, sizeOf, typeInfo, hi, Addr.add_lit, h0]
        · cases h
      · cases h
    · cases h
  · cases h

theorem index_ok {t : TypeId} {x i r : T} (h : indexT P t x i = some r) {u v : Value} (hu : Rd g u x) (hv : Rd g v i) : ∃ q, (Instr.index t u v).run P g.w = .ok q g.w ∧ Rd g q r := by
  unfold indexT szT at h
  split at h
  · rename_i k n
    cases hv
    split at h
    · rename_i len e cs hd
      split at h
      · rename_i h0
        split at h
        · rename_i s hs
          simp only [Option.map_eq_some_iff] at hs
          obtain ⟨i, hi, rfl⟩ := hs
          obtain ⟨vs, rfl, hv⟩ := hu.inv_agg
          obtain ⟨q, h1, h2⟩ := part_ok (P := P) h hv
          exact ⟨q, by simp [Instr.index, asIntOf, run_underlying hd, sizeOf, typeInfo, hi, h0, h1], h2⟩
        · cases h
      · cases h
    · rename_i s hd
      obtain ⟨a, rfl, rfl⟩ := hu.inv_str
      split at h
      · rename_i h0
        simp only [Option.map_eq_some_iff] at h
        obtain ⟨b, hb, rfl⟩ := h
        refine ⟨_, ?_, .int _ _⟩
        have hb' : a[n.toNat]? = some b := by
          have hlt : n.toNat < a.data.toList.length := (List.getElem?_eq_some_iff.1 hb).1
          have hlt' : n.toNat < a.size := by simpa [ByteArray.size_data] using hlt
          have e := (List.getElem?_eq_some_iff.1 hb).2
          rw [getElem?_pos a n.toNat hlt']
          congr 1
        simp [Instr.index, asIntOf, run_underlying hd, h0, hb']
      · cases h
    · cases h
  · cases h

theorem len_ok {t : TypeId} {x r : T} (h : lenT P t x = some r) {u : Value} (hu : Rd g u x) (tys : Array TypeId) (ht : tys[0]? = some t) (ty : TypeId) :
    ∃ q, (Builtin.len_ tys ty #[u]).run P g.w = .ok q g.w ∧ Rd g q r := by
  unfold lenT at h
  split at h <;> try cases h
  all_goals rename_i hd
  · obtain ⟨a, rfl, rfl⟩ := hu.inv_str
    refine ⟨.int .i64 a.size, by simp [Builtin.len_, ht, run_underlying hd, goInt], ?_⟩
    have e : a.data.toList.length = a.size := by simp [ByteArray.size_data]
    rw [e]
    exact .int _ _
  · cases hu; exact ⟨_, by simp [Builtin.len_, ht, run_underlying hd, goInt], .int _ _⟩
  · cases hu; exact ⟨_, by simp [Builtin.len_, ht, run_underlying hd, goInt], .int _ _⟩
  · cases hu with
    | slfn _ _ => exact ⟨_, by simp [Builtin.len_, ht, run_underlying hd, goInt], .int _ _⟩
    | slf _ _ _ sz b o cap vs h1 h2 h3 h4 h5 h6 h7 h8 => exact ⟨_, by simp [Builtin.len_, ht, run_underlying hd, goInt], .int _ _⟩
  · cases hu; exact ⟨_, by simp [Builtin.len_, ht, run_underlying hd, goInt], .int _ _⟩
  · exact ⟨_, by simp [Builtin.len_, ht, run_underlying hd, goInt], .int _ _⟩
  · cases hu; exact ⟨_, by simp [Builtin.len_, ht, run_underlying hd, goInt], .int _ _⟩

theorem foldT_min_ok : ∀ {ts : List T} {x r : T}, foldT minT x ts = some r → ∀ {u : Value} {us : List Value}, Rd g u x → RdL g us ts → ∃ q, (us.foldlM Builtin.min2 u).run P g.w = .ok q g.w ∧ Rd g q r
  | [], x, r, h, u, us, hu, hus => by
    simp [foldT] at h; subst h
    have : us = [] := List.eq_nil_of_length_eq_zero hus.1
    subst this
    exact ⟨u, by simp, hu⟩
  | y :: ts, x, r, h, u, [], hu, hus => by simp [RdL] at hus
  | y :: ts, x, r, h, u, v :: us, hu, hus => by
    obtain ⟨hv, hus'⟩ := hus.inv_cons
    clear hus
    simp only [foldT] at h
    split at h
    · rename_i z hz
      unfold minT at hz
      split at hz <;> cases hz
      cases hu; cases hv
      obtain ⟨q, h1, h2⟩ := foldT_min_ok h (.int _ _) hus'
      exact ⟨q, by simp [Builtin.min2, h1], h2⟩
    · cases h
theorem foldT_max_ok : ∀ {ts : List T} {x r : T}, foldT maxT x ts = some r → ∀ {u : Value} {us : List Value}, Rd g u x → RdL g us ts → ∃ q, (us.foldlM Builtin.max2 u).run P g.w = .ok q g.w ∧ Rd g q r
  | [], x, r, h, u, us, hu, hus => by
    simp [foldT] at h; subst h
    have : us = [] := List.eq_nil_of_length_eq_zero hus.1
    subst this
    exact ⟨u, by simp, hu⟩
  | y :: ts, x, r, h, u, [], hu, hus => by simp [RdL] at hus
  | y :: ts, x, r, h, u, v :: us, hu, hus => by
    obtain ⟨hv, hus'⟩ := hus.inv_cons
    clear hus
    simp only [foldT] at h
    split at h
    · rename_i z hz
      unfold maxT at hz
      split at hz <;> cases hz
      cases hu; cases hv
      obtain ⟨q, h1, h2⟩ := foldT_max_ok h (.int _ _) hus'
      exact ⟨q, by simp [Builtin.max2, h1], h2⟩
    · cases h
end
end Go.Ps
