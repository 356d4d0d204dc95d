/- A builder of the call's own: contracts that change objects. -/
import Derived.Test.YtcndhbamkipifaaDoorPsT
namespace Go.Ps
open Go.Shelf Go.RowKit Go.Sort Go.Proofs

section
variable {P : Program} {ρ : Ren} {gl : Nat → Option T}

theorem setCell_row (w : World) (b o : Nat) (v : Value) (cs : Array Value) (e : TypeId) (fz : Nat × Nat) (h : w.heap[b]? = some (.cells cs e fz)) : w.setCell ⟨b, o, none⟩ v = w.setRow b (cs.setIfInBounds o v) := by
  simp only [World.setCell, World.setRow]
  congr 1
  apply Array.ext_getElem?
  intro i
  rw [Array.getElem?_modify, Array.getElem?_modify]
  split
  · rename_i e; subst e; rw [h]; simp
  · rfl

theorem ptr_inv {g : G} {v : Value} {l off : Nat} (h : Rd g v (.ptr l off)) : v = .pointer (some ⟨g.loc l, off, none⟩) ∧ g.al l := by
  generalize ht : T.ptr l off = t at h
  cases h <;> cases ht
  exact ⟨rfl, by assumption⟩

/-- The contract of one call that changes objects. -/
def EeFn (P : Program) (gl : Nat → Option T) (f : FuncId) (ts : List T) (H : Hp) (r : T) (H' : Hp) : Prop :=
  okFn P f = true ∧ ∀ (g : G) (vs : List Value), Gok g → St g H → GlOk gl g → RdL g vs ts →
    Calls P f vs.toArray g.w fun e w' => ∃ v g', e = .returned v ∧ g'.w = w' ∧ SStep H g H' g' ∧ Gok g' ∧ St g' H' ∧ Rd g' v r

theorem copy_ee (L : Lays.n240 P ρ) (X : Builder.X72 P ρ) (hok : okFn P (ρ.f 240) = true) {ts : List T} {H H' : Hp} {r : T} (h : copyX (ρ.t 72) ts H = some (r, H')) : EeFn P gl (ρ.f 240) ts H r H' := by
  · refine ⟨hok, fun g vs hg hs hgl hv => ?_⟩
    unfold copyX at h
    split at h
    · rename_i l
      match vs, hv with
      | [v], hv =>
        obtain ⟨rfl, hal⟩ := ptr_inv (hv.inv_cons).1
        split at h
        · rename_i ob hob
          obtain ⟨elem, sz, cells⟩ := ob
          obtain ⟨_, hS, cs, hb, q1, q2, q3, q4⟩ := hs.own l _ hob
          simp only at h hb q1 q2 q3 q4
          split at h
          · rename_i x
            split at h
            · rename_i hc
              obtain ⟨rfl, rfl⟩ := hc
              cases h
              have hsz : cs.size = 2 := q2 rfl
              have hl : cs.toList.length = 2 := by simpa using hsz
              match hcs : cs.toList, hl with
              | [c0, c1], _ =>
                have e0 : cs = #[c0, c1] := by rw [← Array.toArray_toList (xs := cs), hcs]
                subst e0
                have hc0 := q4.2 0 c0 .nilp (by simp) rfl
                have hc1 := q4.2 1 c1 x (by simp) rfl
                cases hc0
                refine (Any.Builder_copyCheck_fresh L X (g.loc l) g.w (by simp [World.cell?, hb]) (by simp [World.shape?, hb]) (by simp [World.frozen?, hb])).mono fun e w' ⟨he, hw⟩ => ?_
                have hset := setCell_row g.w (g.loc l) 0 (.pointer (some ⟨g.loc l, 0, none⟩)) _ _ _ hb
                rw [hset] at hw
                subst hw
                refine ⟨_, g.setRow (g.loc l) (#[Value.pointer none, c1].setIfInBounds 0 (.pointer (some ⟨g.loc l, 0, none⟩))), he, rfl, set_step hob _ _, ?_, ?_, Rd.mk_tup RdL.nil⟩
                · intro b hb'
                  have := hg b hb'
                  simpa [G.setRow, World.setRow] using this
                · refine set_st (o := { elem := ρ.t 72, sz := 0, cells := [.nilp, x] }) hs hob hb (by simp) (by simp) ?_
                  exact RdL.cons (.ptr l 0 hal) (RdL.cons hc1 RdL.nil)
            · cases h
          · rename_i l' x
            split at h
            · rename_i hc
              obtain ⟨rfl, rfl, rfl⟩ := hc
              cases h
              have hsz : cs.size = 2 := q2 rfl
              have hl : cs.toList.length = 2 := by simpa using hsz
              match hcs : cs.toList, hl with
              | [c0, c1], _ =>
                have e0 : cs = #[c0, c1] := by rw [← Array.toArray_toList (xs := cs), hcs]
                subst e0
                have hc0 := (ptr_inv (q4.2 0 c0 _ (by simp) rfl)).1
                subst hc0
                refine (Any.Builder_copyCheck_used L X (g.loc l') g.w (by simp [World.cell?, hb])).mono fun e w' ⟨he, hw⟩ => ?_
                subst hw
                exact ⟨_, g, he, rfl, SStep.refl _ _, hg, hs, Rd.mk_tup RdL.nil⟩
            · cases h
          · cases h
        · cases h
      | [], hv => simp [RdL] at hv
      | _ :: _ :: _, hv => simp [RdL] at hv
    · cases h

theorem bytesX_spec {g : G} : ∀ {cs : List T} {bs : List UInt8}, bytesX cs = some bs → cs.length = bs.length ∧ ∀ (j : Nat) (c : T) (v : Value), cs[j]? = some c → Rd g v c → ∃ x, bs[j]? = some x ∧ v = .int .u8 x.toNat
  | [], bs, h => by simp [bytesX] at h; subst h; simp
  | c :: r, bs, h => by
    unfold bytesX at h
    split at h
    · rename_i e; cases e
    · rename_i n r' e
      cases e
      split at h
      · rename_i l hl
        split at h
        · rename_i hn
          cases h
          obtain ⟨h1, h2⟩ := bytesX_spec (g := g) hl
          refine ⟨by simp [h1], fun j c v hc hr => ?_⟩
          cases j with
          | zero =>
            simp at hc; subst hc
            refine ⟨UInt8.ofNat n.toNat, by simp, ?_⟩
            cases hr
            have : (UInt8.ofNat n.toNat).toNat = n.toNat := by
              rw [UInt8.toNat_ofNat']; omega
            rw [this]; congr 1; omega
          | succ j => simp at hc; obtain ⟨x, e1, e2⟩ := h2 j c v hc hr; exact ⟨x, by simpa using e1, e2⟩
        · cases h
      · cases h
    · cases h

/-- A builder's row is read as a string: the row is written no more. -/
theorem str_row (L : Lays.n169 P ρ) (X : Builder.Extra P ρ) (b gg cap : Nat) (p : Value) (cur : Array Value) (l : List UInt8) (w : World) (h0 : l ≠ [])
    (hbk : w.heap[b]? = some (.cells #[p, .slice (some ⟨gg, 0, none⟩) l.length cap] (ρ.t 72) (0, 0))) (hg : w.heap[gg]? = some (.cells cur (ρ.t 5) (0, 0))) (hnc : l.length ≤ cap) (hcm : cap ≤ maxLen) (hcs : cur.size = cap)
    (hcells : ∀ (j : Nat) (x : UInt8), l[j]? = some x → w.cell? ⟨gg, j, none⟩ = some (.int .u8 x.toNat)) :
    Calls P (ρ.f 169) #[.pointer (some ⟨b, 0, none⟩)] w fun e w' => e = .returned (.string ⟨l.toArray⟩) ∧ w' = w.drew.freeze ⟨gg, 0, none⟩ l.length := by
  have hl0 : l.length ≠ 0 := by simpa using h0
  have c1 : w.drew.cell? ⟨b, 1, none⟩ = some (.slice (some ⟨gg, 0, none⟩) l.length cap) := by
    have : w.drew.heap[b]? = some (.cells #[p, .slice (some ⟨gg, 0, none⟩) l.length cap] (ρ.t 72) (0, 0)) := hbk
    rw [Lib.cell_of_heap this]; rfl
  have hSD : (Builtin.unsafeSliceData_ #[(ρ.t 37)] (ρ.t 127) #[.slice (some ⟨gg, 0, none⟩) l.length cap]).run P w.drew = .ok (.pointer (some ⟨gg, 0, none⟩)) w.drew :=
    Lib.run_unsafeSliceData_row _ _ _ _ _ _ (by omega)
  have hUS : (Builtin.unsafeString_ #[(ρ.t 127), (ρ.t 3)] (ρ.t 9) #[.pointer (some ⟨gg, 0, none⟩), .int .i64 l.length]).run P w.drew = .ok (.string ⟨l.toArray⟩) (w.drew.freeze ⟨gg, 0, none⟩ l.length) :=
    Lib.run_unsafeString_row w.drew (ρ.t 127) (ρ.t 3) (ρ.t 9) (ρ.t 5) L.t127 X.cellsByte gg cur.size (by have hg' : w.drew.heap[gg]? = some (.cells cur (ρ.t 5) (0, 0)) := hg; simp [World.shape?, hg']) l h0 (by omega) (by unfold maxLen at hcm; omega) (fun j x hx => by
      have := hcells j x hx
      by_cases hj : j = 0
      · subst hj; simpa [Addr.add] using this
      · simpa [Addr.add, hj] using this)
  have mixed := L.mixed
  have t72 := L.t72; have a72 := L.a72; have z72 := L.z72; have v72 := L.v72; have u72 := run_underlying L.t72
  have t70 := L.t70; have a70 := L.a70; have z70 := L.z70; have v70 := L.v70; have u70 := run_underlying L.t70
  have t37 := L.t37; have a37 := L.a37; have z37 := L.z37; have v37 := L.v37; have u37 := run_underlying L.t37
  have t127 := L.t127; have a127 := L.a127; have z127 := L.z127; have v127 := L.v127; have u127 := run_underlying L.t127
  have t3 := L.t3; have a3 := L.a3; have z3 := L.z3; have v3 := L.v3; have u3 := run_underlying L.t3
  have t9 := L.t9; have a9 := L.a9; have z9 := L.z9; have v9 := L.v9; have u9 := run_underlying L.t9
  have t5 := X.t5; have a5 := X.a5; have z5 := X.z5; have v5 := X.v5; have u5 := run_underlying X.t5
  go_enter L.f169, Body.n169_ntmps ρ
  go_wp2
  go_region_o
  all_goals (go_wp2; go_ret; exact ⟨rfl, rfl⟩)

theorem freeze_rest (w : World) (gg n : Nat) : (w.drew.freeze ⟨gg, 0, none⟩ n).os = w.os ∧ (w.drew.freeze ⟨gg, 0, none⟩ n).tape = w.tape ∧ (w.drew.freeze ⟨gg, 0, none⟩ n).output = w.output ∧ (w.drew.freeze ⟨gg, 0, none⟩ n).heap.size = w.heap.size := by
  simp only [World.freeze]
  split
  · exact ⟨rfl, rfl, rfl, rfl⟩
  · refine ⟨rfl, rfl, rfl, ?_⟩
    show (w.heap.modify gg _).size = _
    rw [Array.size_modify]

theorem freeze_other (w : World) (gg n k : Nat) (h : k ≠ gg) : (w.drew.freeze ⟨gg, 0, none⟩ n).heap[k]? = w.heap[k]? := by
  simp only [World.freeze, World.drew]
  split
  · rfl
  · show (w.heap.modify gg _)[k]? = _
    rw [Array.getElem?_modify, if_neg (fun e => h e.symm)]

theorem osl_inv {g : G} {v : Value} {l sz i len : Nat} (h : Rd g v (.osl l sz i len)) : ∃ b o cap, v = .slice (some ⟨b, o, none⟩) len cap ∧ g.al l ∧ len ≤ cap ∧ i + cap ≤ g.cp l ∧ (0 < len ∨ i = 0 → b = g.loc l ∧ o = i * sz) ∧ (i = 0 → cap = g.cp l) := by
  generalize ht : T.osl l sz i len = t at h
  cases h <;> cases ht
  rename_i b o cap _ _ _ _ _
  exact ⟨b, o, cap, rfl, by assumption, by assumption, by assumption, by assumption, by assumption⟩

theorem str_ee (L : Lays.n169 P ρ) (X : Builder.Extra P ρ) (hok : okFn P (ρ.f 169) = true) {ts : List T} {H H' : Hp} {r : T} (h : strX (ρ.t 72) (ρ.t 5) ts H = some (r, H')) : EeFn P gl (ρ.f 169) ts H r H' := by
  refine ⟨hok, fun g vs hg hs hgl hv => ?_⟩
  unfold strX at h
  split at h
  · rename_i l
    match vs, hv with
    | [v], hv =>
      obtain ⟨rfl, hal⟩ := ptr_inv (hv.inv_cons).1
      split at h
      · rename_i ob hob
        split at h
        · rename_i hc
          obtain ⟨elem, sz, cells⟩ := ob
          obtain ⟨rfl, rfl⟩ := hc
          obtain ⟨_, hS, cs, hb, q1, q2, q3, q4⟩ := hs.own l _ hob
          simp only at h hb q1 q2 q3 q4
          split at h
          · rename_i x
            cases h
            have hsz : cs.size = 2 := q2 (by simp)
            have hl : cs.toList.length = 2 := by simpa using hsz
            match hcs : cs.toList, hl with
            | [c0, c1], _ =>
              have e0 : cs = #[c0, c1] := by rw [← Array.toArray_toList (xs := cs), hcs]
              subst e0
              have hc1 := q4.2 1 c1 .nils (by simp) rfl
              cases hc1
              refine (Any.Builder_String_nil L X g.w.heap.size (g.loc l) c0 g.w hb).mono fun e w' ⟨he, hw⟩ => ?_
              exact ⟨_, { g with w := w' }, he, rfl, (pstep_below hw).toS, gok_below hg hw.size, hs.pstep (pstep_below hw), by simpa using Rd.str (g := { g with w := w' }) ⟨#[]⟩⟩
          · rename_i x l2 len
            split at h
            · rename_i o2 ho2
              split at h
              · rename_i hc2
                split at h
                · rename_i bs hbs
                  cases h
                  obtain ⟨elem2, sz2, cells2⟩ := o2
                  obtain ⟨rfl, rfl, rfl, hne⟩ := hc2
                  obtain ⟨al2, hS2, cs2, hb2, p1, p2, p3, p4⟩ := hs.own l2 _ ho2
                  simp only at hb2 p1 p2 p3 p4 hbs hne
                  have hsz : cs.size = 2 := q2 (by simp)
                  have hl : cs.toList.length = 2 := by simpa using hsz
                  match hcs : cs.toList, hl with
                  | [c0, c1], _ =>
                    have e0 : cs = #[c0, c1] := by rw [← Array.toArray_toList (xs := cs), hcs]
                    subst e0
                    have hc1 := q4.2 1 c1 _ (by simp) rfl
                    obtain ⟨hlen, hby⟩ := bytesX_spec (g := g) hbs
                    obtain ⟨p31, p32⟩ := p3 (by simp)
                    obtain ⟨b2, o2, cap2, rfl, z1, z2, z3, z4, z5⟩ := osl_inv hc1
                    obtain ⟨rfl, rfl⟩ := z4 (.inr rfl)
                    have z5' := z5 rfl
                    subst z5'
                    rw [hlen] at hb
                    have hcells : ∀ (j : Nat) (x : UInt8), bs[j]? = some x → g.w.cell? ⟨g.loc l2, j, none⟩ = some (.int .u8 x.toNat) := by
                      intro j x hx
                      have hj : j < bs.length := (List.getElem?_eq_some_iff.1 hx).1
                      have hj2 : j < cs2.size := by omega
                      have hc2 : cs2.toList[j]? = some cs2[j] := by simp [hj2]
                      have hv2 : (cs2.toList.take cells2.length)[j]? = some cs2[j] := by rw [List.getElem?_take, if_pos (by omega)]; exact hc2
                      obtain ⟨c, hc⟩ : ∃ c, cells2[j]? = some c := ⟨_, List.getElem?_eq_getElem (by omega)⟩
                      obtain ⟨y, hy, hvy⟩ := hby j c _ hc (p4.2 j _ c hv2 hc)
                      rw [hx] at hy
                      cases hy
                      rw [Lib.cell_of_heap hb2]
                      simp [hj2, hvy]
                    refine (str_row L X (g.loc l) (g.loc l2) (g.cp l2) c0 cs2 bs g.w (fun e => hne (by rw [hlen, e]; rfl)) (by simpa using hb) hb2 (by rw [← hlen]; simpa using z2) p32 (by simpa using p31) hcells).mono fun e w' ⟨he, hw⟩ => ?_
                    subst hw
                    have hfr := freeze_rest g.w (g.loc l2) bs.length
                    have hst : SStep H g (H.drop l2) { g with w := g.w.drew.freeze ⟨g.loc l2, 0, none⟩ bs.length } := by
                      refine ⟨hfr.1, hfr.2.1, hfr.2.2.1, Nat.le_of_eq hfr.2.2.2.symm, fun k hk hn => freeze_other _ _ _ _ (fun e => hn l2 _ ho2 e.symm), fun _ q => q, fun _ q => .inl q, fun _ q => q, fun _ _ => rfl, fun _ _ => rfl, fun m q hq => ?_⟩
                      rw [get_drop] at hq
                      split at hq
                      · cases hq
                      · exact .inl ⟨m, q, hq, rfl⟩
                    refine ⟨_, { g with w := g.w.drew.freeze ⟨g.loc l2, 0, none⟩ bs.length }, he, rfl, hst, ?_, ?_, ?_⟩
                    · intro k hk
                      have := hg k hk
                      show k < (g.w.drew.freeze ⟨g.loc l2, 0, none⟩ bs.length).heap.size
                      rw [hfr.2.2.2]; exact this
                    · refine ⟨fun m q hq => ?_, fun m m' q q' h1 h2 e => ?_, fun m hm => hs.new m hm⟩
                      · rw [get_drop] at hq
                        split at hq
                        · cases hq
                        · rename_i hm
                          obtain ⟨ha, hSS, c0', hb', r1, r2, r3, r4⟩ := hs.own m q hq
                          refine ⟨ha, hSS, c0', ?_, r1, r2, r3, r4.sstep hs hst⟩
                          show (g.w.drew.freeze ⟨g.loc l2, 0, none⟩ bs.length).heap[g.loc m]? = _
                          rw [freeze_other _ _ _ _ (fun e => hm (hs.sep m l2 q _ hq ho2 e))]; exact hb'
                      · rw [get_drop] at h1 h2
                        split at h1
                        · cases h1
                        · split at h2
                          · cases h2
                          · exact hs.sep m m' q q' h1 h2 e
                    · have := Rd.str (g := { g with w := g.w.drew.freeze ⟨g.loc l2, 0, none⟩ bs.length }) ⟨bs.toArray⟩
                      simpa using this
                · cases h
              · cases h
            · cases h
          · cases h
        · cases h
      · cases h
    | [], hv => simp [RdL] at hv
    | _ :: _ :: _, hv => simp [RdL] at hv
  · cases h
/-- A table among the package's variables. -/
theorem tab_of {g : G} {k : Nat} {ik : IntKind} {zs : List Int} (h : GlAt g k (.ref (.agg (zs.map (T.int ik))) 0)) : ∃ e fz, g.w.heap[k]? = some (.cells (zs.map fun z => Value.int ik z).toArray e fz) := by
  obtain ⟨h1, _, cs, e, fz, h3, h4⟩ := h
  refine ⟨e, fz, ?_⟩
  rw [h3]
  congr 2
  apply Array.ext_getElem?
  intro j
  simp only [T.refLen, T.cells, List.length_map] at h4
  generalize ha : (Value.pointer (some ⟨k, 0, none⟩)) = v at h1
  generalize ht : (T.ref (.agg (zs.map (T.int ik))) 0) = t at h1
  cases h1 <;> cases ht
  rename_i b o vs hS hc hl hr
  simp only [Value.pointer.injEq, Option.some.injEq, Addr.mk.injEq] at ha
  obtain ⟨rfl, ho, _⟩ := ha
  have ho0 : o = 0 := by omega
  subst ho0
  simp only [T.cells, List.length_map] at hl hr
  by_cases hj : j < zs.length
  · have hvj : vs[j]? = some (vs[j]'(by omega)) := List.getElem?_eq_getElem _
    have hcell := hc j _ hvj
    rw [Nat.zero_add, Lib.cell_of_heap h3] at hcell
    have hz : (zs.map (T.int ik))[j]? = some (T.int ik zs[j]) := by simp [hj]
    have hrd := hr j _ (T.int ik zs[j]) hvj hz
    have hint : vs[j]'(by omega) = Value.int ik zs[j] := by
      generalize vs[j]'(by omega) = u at hrd
      cases hrd; rfl
    rw [hint] at hcell
    simp only [List.getElem?_toArray, List.getElem?_map, List.getElem?_eq_getElem hj, Option.map_some]
    simpa using hcell
  · rw [Array.getElem?_eq_none (by omega), Array.getElem?_eq_none (by simp; omega)]
end
end Go.Ps
