/- The evaluation along one way is an evaluation. -/
import Derived.Test.YtcndhbamkipifaaDoorPsN
namespace Go.Ps

theorem allT_append {a b : List Bool} : allT (a ++ b) = (allT a && allT b) := by
  induction a with
  | nil => simp [allT]
  | cons x a ih => simp [allT, ih, Bool.and_assoc]

section
variable {P : Program} {D : Ed} {F : Fc}

theorem indexAddrD_ok {t : TypeId} {x i v : T} {c : List Bool} (h : indexAddrD P t x i = some (v, c)) (hc : allT c = true) : indexAddrT P t x i = some v := by
  unfold indexAddrD at h
  unfold indexAddrT
  split at h
  · rename_i k n
    split at h
    · rename_i e full xs hd
      split at h
      · rename_i s hs
        simp only [Option.some.injEq, Prod.mk.injEq] at h
        obtain ⟨rfl, rfl⟩ := h
        simp only [allT, Bool.and_true, Bool.and_eq_true, decide_eq_true_eq] at hc
        obtain ⟨h1, h2, h3⟩ := hc
        have hlt : n.toNat < xs.length := by omega
        have e : xs.getD n.toNat undefT = xs[n.toNat] := by simp [hlt]
        rw [e] at h3 ⊢
        simp [hd, h1, hlt, hs, h3]
      · cases h
    · rename_i e full len f hd
      split at h
      · rename_i s hs
        simp only [Option.some.injEq, Prod.mk.injEq] at h
        obtain ⟨rfl, rfl⟩ := h
        simp only [allT, Bool.and_true, Bool.and_eq_true, decide_eq_true_eq] at hc
        obtain ⟨h1, h2, h3⟩ := hc
        simp [hd, h1, h2, hs, h3]
      · cases h
    · rename_i e l sz j len hd
      split at h
      · rename_i s hs
        split at h
        · rename_i hsz
          simp only [Option.some.injEq, Prod.mk.injEq] at h
          obtain ⟨rfl, rfl⟩ := h
          simp only [allT, Bool.and_true, Bool.and_eq_true, decide_eq_true_eq] at hc
          simp [hd, hc.1, hc.2, hs, hsz]
        · cases h
      · cases h
    · rename_i len e hd
      split at h
      · rename_i s hs
        split at h
        · rename_i y hy
          simp only [Option.some.injEq, Prod.mk.injEq] at h
          obtain ⟨rfl, rfl⟩ := h
          simp only [allT, Bool.and_true, Bool.and_eq_true, decide_eq_true_eq] at hc
          simp [hd, hc.1, hc.2, hs, hy]
        · cases h
      · cases h
    · cases h
  · cases h

theorem indexD_ok {t : TypeId} {x i v : T} {c : List Bool} (h : indexD P t x i = some (v, c)) (hc : allT c = true) : indexT P t x i = some v := by
  unfold indexD at h
  unfold indexT
  split at h
  · rename_i k n
    split at h
    · rename_i len e cs hd
      split at h
      · rename_i s hs
        split at h
        · rename_i y hy
          simp only [Option.some.injEq, Prod.mk.injEq] at h
          obtain ⟨rfl, rfl⟩ := h
          simp only [allT, Bool.and_true, Bool.and_eq_true, decide_eq_true_eq] at hc
          simp [hd, hc.1, hc.2, hs, hy]
        · cases h
      · cases h
    · rename_i s hd
      simp only [Option.some.injEq, Prod.mk.injEq] at h
      obtain ⟨rfl, rfl⟩ := h
      simp only [allT, Bool.and_true, Bool.and_eq_true, decide_eq_true_eq] at hc
      have hlt : n.toNat < s.length := by omega
      simp [hd, hc.1, hlt]
    · cases h
  · cases h

theorem boundD_ok {x : Option T} {dflt top r : Nat} {c : List Bool} (h : boundD x dflt top = some (r, c)) (hc : allT c = true) : boundT x dflt top = some r := by
  unfold boundD at h
  unfold boundT
  split at h
  · simp only [Option.some.injEq, Prod.mk.injEq] at h; simp [h.1]
  · simp only [Option.some.injEq, Prod.mk.injEq] at h
    obtain ⟨rfl, rfl⟩ := h
    simp only [allT, Bool.and_true, Bool.and_eq_true, decide_eq_true_eq] at hc
    simp [hc.1, hc.2]
  · cases h

theorem sliceD_ok {t : TypeId} {x v : T} {lo hi : Option T} {c : List Bool} (h : sliceD P t x lo hi = some (v, c)) (hc : allT c = true) : sliceT P t x lo hi = some v := by
  unfold sliceD at h
  unfold sliceT
  split at h
  · rename_i s hd
    split at h
    · rename_i hh c1 eh
      split at h
      · rename_i l c2 el
        simp only [Option.some.injEq, Prod.mk.injEq] at h
        obtain ⟨rfl, rfl⟩ := h
        rw [allT_append, Bool.and_eq_true] at hc
        simp [hd, boundD_ok eh hc.1, boundD_ok el hc.2]
      · cases h
    · cases h
  · rename_i e full xs hd
    split at h
    · rename_i hh c1 eh
      split at h
      · rename_i l c2 el
        split at h
        · rename_i s hs
          simp only [Option.some.injEq, Prod.mk.injEq] at h
          obtain ⟨rfl, rfl⟩ := h
          rw [allT_append, allT_append, Bool.and_eq_true, Bool.and_eq_true] at hc
          obtain ⟨⟨h1, h2⟩, h3⟩ := hc
          simp only [allT, Bool.and_true] at h3
          simp [hd, boundD_ok eh h1, boundD_ok el h2, hs, h3]
        · cases h
      · cases h
    · cases h
  · rename_i e full n f hd
    split at h
    · rename_i hh c1 eh
      split at h
      · rename_i l c2 el
        split at h
        · rename_i s hs
          simp only [Option.some.injEq, Prod.mk.injEq] at h
          obtain ⟨rfl, rfl⟩ := h
          rw [allT_append, allT_append, Bool.and_eq_true, Bool.and_eq_true] at hc
          obtain ⟨⟨h1, h2⟩, h3⟩ := hc
          simp only [allT, Bool.and_true, decide_eq_true_eq] at h3
          simp [hd, boundD_ok eh h1, boundD_ok el h2, hs, h3]
        · cases h
      · cases h
    · cases h
  · cases h

theorem tag0_ok {q : Option T} {v : T} {c : List Bool} (h : tag0 q = some (v, c)) : q = some v := by
  cases q with
  | none => cases h
  | some r => simp only [tag0, Option.some.injEq, Prod.mk.injEq] at h; rw [h.1]

theorem tagH_ok {q : Option (T × Hp)} {v : T} {H : Hp} {c : List Bool} (h : tagH q = some (v, H, c)) : q = some (v, H) := by
  cases q with
  | none => cases h
  | some r => simp only [tagH, Option.some.injEq, Prod.mk.injEq] at h; rw [← h.1, ← h.2.1]

theorem binD_ok {op : BinOp} {t : TypeId} {x y v : T} {c : List Bool} (h : binD P op t x y = some (v, c)) (hc : allT c = true) : binT P op t x y = some v := by
  unfold binD at h
  split at h
  · split at h
    · rename_i hk
      simp only [Option.some.injEq, Prod.mk.injEq] at h
      obtain ⟨rfl, rfl⟩ := h
      simp only [allT, Bool.and_true, bne_iff_ne] at hc
      simp [binT, intBin, hk, hc]
    · cases h
  · split at h
    · rename_i hk
      simp only [Option.some.injEq, Prod.mk.injEq] at h
      obtain ⟨rfl, rfl⟩ := h
      simp only [allT, Bool.and_true, bne_iff_ne] at hc
      simp [binT, intBin, hk, hc]
    · cases h
  · simp only [Option.some.injEq, Prod.mk.injEq] at h
    obtain ⟨rfl, rfl⟩ := h
    simp only [allT, Bool.and_true, decide_eq_true_eq] at hc
    simp [binT, strBin, hc]
  · exact tag0_ok h

theorem loadD_ok {H : Hp} {t : TypeId} {p v : T} {c : List Bool} (h : loadD P H t p = some (v, c)) (hc : allT c = true) : loadT P H t p = some v := by
  unfold loadD at h
  split at h
  · rename_i l off
    split at h
    · rename_i o ho
      split at h
      · exact tag0_ok h
      · split at h
        · rename_i k hk
          simp only [Option.some.injEq, Prod.mk.injEq] at h
          obtain ⟨rfl, rfl⟩ := h
          simp only [allT, Bool.and_eq_true, Bool.and_true, decide_eq_true_eq] at hc
          obtain ⟨h1, h2, h3⟩ := hc
          simp only [loadT, cellsAt, ho, partT, h3]
          rw [List.getD_eq_getElem?_getD, List.getElem?_eq_getElem h2] at h1 ⊢
          simp only [Option.getD_some] at h1 ⊢
          generalize o.cells[off] = y at h1
          cases y <;> simp only [isInt, Bool.false_eq_true, decide_eq_true_eq] at h1
          subst h1
          rfl
        · exact tag0_ok h
    · cases h
  · exact tag0_ok h

theorem pe_of {H : Hp} {f : FuncId} {ts : List T} {r : T} {c : List Bool} (h : D.pd H f ts = some (r, c)) (hc : allT c = true) : D.env.pe H f ts = some r := by
  simp [Ed.env, h, hc]

theorem evalPD_ok {own : Bool} {H : Hp} {fr : List T} {o : Oper} {v : T} {c : List Bool} (h : evalPD P D own H fr o = some (v, c)) (hc : allT c = true) : evalP P D.env own H fr o = some v := by
  obtain ⟨dst, op, type, pos, after, guard⟩ := o
  cases op <;> simp only [evalPD] at h
  case indexAddr t x i =>
    simp only [evalP]
    split at h
    · rename_i p q hp hq; simp only [Ed.env]; rw [hp, hq]; exact indexAddrD_ok h hc
    · cases h
  case index t x i =>
    simp only [evalP]
    split at h
    · rename_i p q hp hq; simp only [Ed.env]; rw [hp, hq]; exact indexD_ok h hc
    · cases h
  case binOp op t x y t' =>
    simp only [evalP]
    split at h
    · rename_i p q hp hq; simp only [Ed.env]; rw [hp, hq]; exact binD_ok h hc
    · cases h
  case load t a =>
    simp only [evalP]
    split at h
    · rename_i p hp; simp only [Ed.env]; rw [hp]; exact loadD_ok h hc
    · cases h
  case slice t x lo hi mx =>
    simp only [evalP]
    cases mx with
    | some m => cases h
    | none =>
      simp only at h ⊢
      split at h
      · rename_i p hp
        simp only [Ed.env]
        rw [hp]
        simp only
        split at h
        · rename_i l hh hl hhi
          rw [hl, hhi]
          exact sliceD_ok h hc
        · cases h
      · cases h
  case call cl =>
    simp only [evalP]
    obtain ⟨callee, args, tys⟩ := cl
    cases callee with
    | value f =>
      simp only at h
      simp only [evalC]
      split at h
      · rename_i k first cap hf
        split at h
        · rename_i as has
          simp only [Ed.env] at *
          rw [hf]
          simp only
          rw [has]
          simp only [h, hc, if_true]
        · cases h
      · cases h
    | invoke r m => cases h
    | builtin b => exact tag0_ok h
  all_goals exact tag0_ok h

theorem evalPD_none {own : Bool} {H : Hp} {fr : List T} {o : Oper} (h : evalPD P D own H fr o = none) (hk : effKind own o = true) : evalP P D.env own H fr o = none := by
  obtain ⟨dst, op, type, pos, after, guard⟩ := o
  cases op <;> simp only [effKind, Bool.false_eq_true] at hk <;> simp only [evalP]
  case box => simp [hk]
  case buildSlice => simp [hk]
  case call cl =>
    obtain ⟨callee, args, tys⟩ := cl
    cases callee with
    | value f =>
      simp only [evalPD] at h
      simp only [evalC, Ed.env] at *
      split at h
      · rename_i k first cap hf
        rw [hf]
        simp only
        split at h
        · rename_i as has
          rw [has]
          simp only [h]
        · rename_i has; rw [has]
      · rename_i hne
        split
        · rename_i k first cap hf; exact absurd hf (hne k first cap)
        · rfl
    | invoke r m => cases hk
    | builtin b =>
      cases b <;> simp at hk
      simp [evalC]

theorem appendD_ok {H H' : Hp} {t tx : TypeId} {s x v : T} {c : List Bool} (h : appendD P H t tx s x = some (v, H', c)) (hc : allT c = true) : appendT P H t tx s x = some (v, H') := by
  unfold appendD at h
  unfold appendT
  split at h
  · rename_i e hd
    split at h
    · rename_i i new m hi hsrc hm
      split at h
      · cases h
      · rename_i hn
        simp only [not_or] at hn
        obtain ⟨n1, n2, n3⟩ := hn
        rw [hd]
        simp only
        rw [hi, hsrc, hm]
        simp only
        have hcond : new.length = m * i.size ∧ allOne new = true → ¬ (i.size = 0 ∨ new.length ≠ m * i.size ∨ allOne new = false ∨ (i.zero.map fun z => z.cells.size) ≠ some i.size ∨ srcOk P tx i.size x = false) := by
          rintro ⟨q1, q2⟩ (q | q | q | q | q)
          · exact n1 q
          · exact q q1
          · rw [q2] at q; cases q
          · exact n2 q
          · exact n3 q
        split at h
        · split at h
          · rename_i hm0
            simp only [Option.some.injEq, Prod.mk.injEq] at h
            obtain ⟨rfl, rfl, rfl⟩ := h
            simp only [allT, Bool.and_true, Bool.and_eq_true, decide_eq_true_eq] at hc
            rw [if_neg (hcond hc)]
            simp only
            rw [if_pos hm0]
          · rename_i hm0
            simp only [Option.some.injEq, Prod.mk.injEq] at h
            obtain ⟨rfl, rfl, rfl⟩ := h
            simp only [allT, Bool.and_true, Bool.and_eq_true, decide_eq_true_eq] at hc
            rw [if_neg (hcond ⟨hc.1, hc.2.1⟩)]
            simp only
            rw [if_neg hm0, if_pos hc.2.2]
        · split at h
          · rename_i hm0
            simp only [Option.some.injEq, Prod.mk.injEq] at h
            obtain ⟨rfl, rfl, rfl⟩ := h
            simp only [allT, Bool.and_true, Bool.and_eq_true, decide_eq_true_eq] at hc
            rw [if_neg (hcond hc)]
            simp only
            rw [if_pos hm0]
          · rename_i hm0
            simp only [Option.some.injEq, Prod.mk.injEq] at h
            obtain ⟨rfl, rfl, rfl⟩ := h
            simp only [allT, Bool.and_true, Bool.and_eq_true, decide_eq_true_eq] at hc
            rw [if_neg (hcond ⟨hc.1, hc.2.1⟩)]
            simp only
            rw [if_neg hm0, if_pos (by rw [hc.2.2.1, hc.2.2.2]; rfl)]
        · split at h
          · rename_i hm0
            simp only [Option.some.injEq, Prod.mk.injEq] at h
            obtain ⟨rfl, rfl, rfl⟩ := h
            simp only [allT, Bool.and_true, Bool.and_eq_true, decide_eq_true_eq] at hc
            rw [if_neg (hcond hc)]
            simp only
            rw [if_pos hm0]
          · rename_i hm0
            split at h
            · rename_i o ho
              split at h
              · rename_i hcc
                simp only [Option.some.injEq, Prod.mk.injEq] at h
                obtain ⟨rfl, rfl, rfl⟩ := h
                simp only [allT, Bool.and_true, Bool.and_eq_true, decide_eq_true_eq] at hc
                rw [if_neg (hcond ⟨hc.1, hc.2.1⟩)]
                simp only
                rw [if_neg hm0, ho]
                simp only
                rw [if_pos ⟨hcc.1, hcc.2.1, hcc.2.2, hc.2.2.1, hc.2.2.2⟩]
              · cases h
            · cases h
        · cases h
    · cases h
  · cases h

theorem makeSliceD_ok {H H' : Hp} {t : TypeId} {l k v : T} {c : List Bool} (h : makeSliceD P H t l k = some (v, H', c)) (hc : allT c = true) : makeSliceT P H t l k = some (v, H') := by
  unfold makeSliceD at h
  unfold makeSliceT
  split at h
  · rename_i e n m hd
    split at h
    · rename_i sz bytes z hs hb hz
      split at h
      · rename_i hcc
        simp only [Option.some.injEq, Prod.mk.injEq] at h
        obtain ⟨rfl, rfl, rfl⟩ := h
        simp only [allT, Bool.and_true, Bool.and_eq_true, decide_eq_true_eq] at hc
        rw [hd]
        simp only
        rw [hs, hb, hz]
        simp only
        rw [if_pos ⟨hcc.1, hcc.2, hc.1, hc.2.1, hc.2.2.1, hc.2.2.2⟩]
      · cases h
    · cases h
  · cases h

theorem storeD_ok {H H' : Hp} {t : TypeId} {p x : T} {c : List Bool} (h : storeD P H t p x = some (H', c)) (hc : allT c = true) : storeT P H t p x = some H' := by
  unfold storeD at h
  unfold storeT
  split at h
  · split at h
    · rename_i o n ho hn
      simp only [Option.some.injEq, Prod.mk.injEq] at h
      obtain ⟨rfl, rfl⟩ := h
      simp only [allT, Bool.and_true, Bool.and_eq_true, decide_eq_true_eq] at hc
      simp only
      rw [ho, hn]
      simp only
      rw [if_pos ⟨hc.1, hc.2.1, hc.2.2⟩]
    · cases h
  · cases h

theorem effD_ok {H H' : Hp} {fr : List T} {o : Oper} {v : T} {c : List Bool} (h : effD P D F H fr o = some (v, H', c)) (hc : allT c = true) : effT P D.env F H fr o = some (v, H') := by
  obtain ⟨dst, op, type, pos, after, guard⟩ := o
  cases op <;> simp only [effD] at h
  case store t p x =>
    simp only [effT]
    split at h
    · rename_i q y hq hy
      simp only [Ed.env]
      rw [hq, hy]
      simp only
      split at h
      · rename_i H1 c1 hs
        simp only [Option.some.injEq, Prod.mk.injEq] at h
        obtain ⟨rfl, rfl, rfl⟩ := h
        rw [storeD_ok hs hc]
      · cases h
    · cases h
  case makeSlice t l k =>
    simp only [effT]
    split at h
    · rename_i q y hq hy
      simp only [Ed.env]
      rw [hq, hy]
      exact makeSliceD_ok h hc
    · cases h
  case call cl =>
    obtain ⟨callee, args, tys⟩ := cl
    simp only at h
    split at h
    · simp only [effT]
      split at h
      · rename_i s x t0 t1 hargs htys
        split at h
        · rename_i p q hp hq
          rw [hargs, htys]
          simp only [Ed.env]
          rw [hp, hq]
          exact appendD_ok h hc
        · cases h
      · cases h
    · have h' := tagH_ok h
      simp only [effT] at h' ⊢
      exact h'
  all_goals exact tagH_ok h

theorem guardD_ok {ops : Array Oper} {fr : List T} {o : Oper} {ds log ds' log' : List Bool} {b : Bool} (h : guardD ops fr o ds log = .ok b ds' log') (hl : allT log' = true) : wantedT ops fr o = b ∧ allT log = true := by
  unfold guardD at h
  unfold wantedT yieldedT
  split at h
  · rename_i hg
    rw [hg]
    cases h
    exact ⟨rfl, hl⟩
  · rename_i j want hg
    rw [hg]
    simp only
    split at h
    · rename_i t ht
      rw [ht]
      simp only
      split at h
      · cases h
      · rename_i d ds1
        cases h
        simp only [allT, Bool.and_eq_true] at hl
        refine ⟨?_, hl.2⟩
        have h1 := hl.1
        cases d <;> cases t <;> simp at h1 ⊢
    · rename_i hne
      cases h
      refine ⟨?_, hl⟩
      split
      · rename_i t ht; exact absurd ht (hne t)
      · rfl


theorem pureD_ok {own : Bool} {H : Hp} {fr : List T} {o : Oper} {ds log ds' log' : List Bool} {q : Option T} (h : pureD P D own H fr o ds log = .ok q ds' log') (hl : allT log' = true) : evalP P D.env own H fr o = q ∧ allT log = true := by
  unfold pureD at h
  split at h
  · rename_i c a b ho
    split at h
    · rename_i t ht
      split at h
      · cases h
      · rename_i d ds1
        split at h
        · rename_i v hv
          cases h
          simp only [allT, Bool.and_eq_true] at hl
          refine ⟨?_, hl.2⟩
          simp only [evalP, ho, Ed.env]
          rw [ht]
          simp only
          have h1 := hl.1
          cases d with
          | true => simp only [if_true] at h1 hv; rw [h1]; simpa using hv
          | false =>
            simp only [Bool.false_eq_true, if_false, Bool.not_eq_true'] at h1 hv
            rw [h1]; simpa using hv
        · cases h
    · cases h
  · split at h
    · rename_i v c hv
      cases h
      rw [allT_append, Bool.and_eq_true] at hl
      exact ⟨evalPD_ok hv hl.1, hl.2⟩
    · rename_i hv
      split at h
      · rename_i hk
        cases h
        exact ⟨evalPD_none hv hk, hl⟩
      · cases h

theorem pureD_none {own : Bool} {H : Hp} {fr : List T} {o : Oper} {ds log ds' log' : List Bool} (h : pureD P D own H fr o ds log = .ok none ds' log') : evalP P D.env own H fr o = none := by
  unfold pureD at h
  split at h
  · split at h
    · split at h
      · cases h
      · split at h <;> cases h
    · cases h
  · split at h
    · cases h
    · rename_i hv
      split at h
      · rename_i hk; exact evalPD_none hv hk
      · cases h
end
end Go.Ps
