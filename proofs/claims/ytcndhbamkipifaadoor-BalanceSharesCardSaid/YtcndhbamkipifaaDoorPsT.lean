/- Contracts of the library's functions on the road, over trees. -/
import Derived.Test.YtcndhbamkipifaaDoorPsS
import Derived.Shelf.Strings.OnBuilder
import Derived.Shelf.LaysM
import Derived.Shelf.Strconv.Itoa3
namespace Go.Ps
open Go.Shelf Go.RowKit Go.Sort Go.Proofs

theorem pstep_below {g : G} {w' : World} (h : Below g.w.heap.size g.w w') : PStep g { g with w := w' } := ⟨h.os, h.tape, h.output, h.size, h.block, fun _ q => q, fun _ q => .inl q, rfl, rfl, rfl⟩

theorem gok_below {g : G} {w' : World} (hg : Gok g) (h : g.w.heap.size ≤ w'.heap.size) : Gok { g with w := w' } := fun b hb => Nat.lt_of_lt_of_le (hg b hb) h

theorem below_grow (w : World) (k : Nat) (os : Array Obj) : Below w.heap.size w (grow (w.drewN k) os) := by
  have h : (w.drewN k).heap = w.heap ∧ (w.drewN k).os = w.os ∧ (w.drewN k).tape = w.tape ∧ (w.drewN k).output = w.output := by
    refine ⟨?_, ?_, ?_, ?_⟩ <;> simp [World.drewN]
  refine ⟨h.2.1, h.2.2.1, h.2.2.2, by simp [grow], fun b hb => ?_⟩
  simp only [grow, h.1]
  rw [Array.getElem?_append_left hb]

theorem digK_eq : ∀ (k u : Nat) (acc : List UInt8), u < 10 ^ k → 0 < k → digK k u acc = Lib.decDigits u ++ acc
  | 0, _, _, _, h => absurd h (by decide)
  | k + 1, u, acc, hu, _ => by
    rw [digK, Lib.decDigits]
    by_cases h : u < 10
    · simp [h]
    · rw [if_neg h, dif_neg h]
      have hk : 0 < k := by
        rcases Nat.eq_zero_or_pos k with rfl | q
        · simp at hu; omega
        · exact q
      rw [digK_eq k (u / 10) _ (by rw [Nat.pow_succ] at hu; omega) hk]
      simp

theorem itoaK_eq (n : Int) (h0 : -9223372036854775808 ≤ n) (h1 : n ≤ 9223372036854775807) : itoaK n = Lib.itoa n := by
  unfold itoaK Lib.itoa
  have e : (10 : Nat) ^ 20 = 100000000000000000000 := by decide
  split
  · rw [digK_eq 20 _ _ (by rw [e]; omega) (by decide)]; simp
  · rw [digK_eq 20 _ _ (by rw [e]; omega) (by decide)]; simp

section
variable {P : Program} {ρ : Ren} {gl : Nat → Option T}

theorem str_inv {g : G} {v : Value} {s : List UInt8} (h : Rd g v (.str s)) : v = .string ⟨s.toArray⟩ := by
  generalize ht : T.str s = t at h
  cases h <;> cases ht
  simp

theorem itoa_pc (hok : okFn P (ρ.f 171) = true)
    (hc : ∀ (g : G), GlOk gl g → ∀ (n : Int), -9223372036854775808 ≤ n → n ≤ 9223372036854775807 → Calls P (ρ.f 171) #[.int .i64 n] g.w fun e w' => e = .returned (.string ⟨(Lib.itoa n).toArray⟩) ∧ ∃ k os, w' = grow (g.w.drewN k) os)
    (ts : List T) (r : T) (h : itoaX ts = some r) : PureFn P gl (ρ.f 171) ts r := by
  refine ⟨hok, fun g vs hg _ hgl hv => ?_⟩
  unfold itoaX at h
  split at h
  · rename_i n
    split at h
    · rename_i hb
      cases h
      match vs, hv with
      | [v], hv =>
        have h1 := (hv.inv_cons).1
        cases h1
        refine (hc g hgl n hb.1 hb.2).mono fun e w' ⟨he, k, os, hw⟩ => ?_
        subst hw
        refine ⟨_, { g with w := grow (g.w.drewN k) os }, he, rfl, pstep_below (below_grow _ _ _), gok_below hg (below_grow _ _ _).size, ?_⟩
        rw [itoaK_eq n hb.1 hb.2]
        have := Rd.str (g := { g with w := grow (g.w.drewN k) os }) ⟨(Lib.itoa n).toArray⟩
        simpa using this
      | [], hv => simp [RdL] at hv
      | _ :: _ :: _, hv => simp [RdL] at hv
    · cases h
  · cases h

theorem strsX_spec : ∀ {xs : List T} {l : List (List UInt8)}, strsX xs = some l → xs = l.map T.str
  | [], l, h => by simp [strsX] at h; subst h; rfl
  | x :: r, l, h => by
    cases x <;> simp only [strsX] at h <;> try cases h
    rename_i s
    split at h
    · rename_i l' hl'; cases h; simp [strsX_spec hl']
    · cases h

theorem joinL_eq (sep : List UInt8) : ∀ (l : List (List UInt8)), joinL sep l = Lib.join l sep
  | [] => rfl
  | [x] => by simp [joinL, Lib.join_one]
  | x :: y :: r => by
    rw [joinL, joinL_eq sep (y :: r)]
    simp [Lib.join, List.intercalate]

theorem flat_strs : ∀ (l : List (List UInt8)), (l.map T.str).flatMap T.cells = l.map T.str
  | [] => rfl
  | x :: r => by simp [List.flatMap_cons, T.cells, flat_strs r]

theorem join_pc (L : Lays.n156 P ρ) (X : Builder.Extra P ρ) (hok : okFn P (ρ.f 156) = true) (ts : List T) (r : T) (h : joinX ts = some r) : PureFn P gl (ρ.f 156) ts r := by
  refine ⟨hok, fun g vs hg _ hgl hv => ?_⟩
  unfold joinX at h
  split at h
  · rename_i sep
    cases h
    match vs, hv with
    | [v, u], hv =>
      have h1 := (hv.inv_cons).1
      have h2 := str_inv ((hv.inv_cons).2.inv_cons).1
      cases h1
      subst h2
      refine (Any.strings_Join_none L X none 0 _ g.w).mono fun e w' ⟨he, hw⟩ => ?_
      subst hw
      exact ⟨_, g, he, rfl, PStep.refl g, hg, by simpa using Rd.str (g := g) ⟨#[]⟩⟩
    | [], hv => simp [RdL] at hv
    | [_], hv => simp [RdL] at hv
    | _ :: _ :: _ :: _, hv => simp [RdL] at hv
  · rename_i full xs sep
    split at h
    · rename_i l hl
      split at h
      · rename_i hb
        cases h
        have hxs := strsX_spec hl
        match vs, hv with
        | [v, u], hv =>
          have h1 := (hv.inv_cons).1
          have h2 := str_inv ((hv.inv_cons).2.inv_cons).1
          subst h2
          cases h1 with
          | sl _ _ sz b o cap ws q1 q2 q3 q4 q5 q6 q7 q8 =>
            subst hxs
            have key : ∀ (j : Nat) (x : ByteArray), (l.map fun s => (⟨s.toArray⟩ : ByteArray))[j]? = some x → g.w.cell? ⟨b, o + j, none⟩ = some (.string x) := by
              intro j x hx
              rw [List.getElem?_map, Option.map_eq_some_iff] at hx
              obtain ⟨s, hs, rfl⟩ := hx
              have hne : l.map T.str ≠ [] := by
                intro e
                have : l = [] := by simpa using e
                subst this; simp at hs
              have hsz : sz = 1 := by
                cases l with
                | nil => simp at hs
                | cons a r => have := q2 (.str a) (by simp); simpa [T.cells] using this.symm
              subst hsz
              have hj : j < ws.length := by
                rw [q6]
                have := (List.getElem?_eq_some_iff.1 hs).1
                simpa using this
              have hwj : ws[j]? = some ws[j] := List.getElem?_eq_getElem hj
              have hr := q8 j _ (.str s) hwj (by rw [flat_strs, List.getElem?_map, hs]; rfl)
              have := str_inv hr
              rw [q7 j _ hwj, this]
            have hmap : (l.map fun s => (⟨s.toArray⟩ : ByteArray)).map (·.data.toList) = l := by
              rw [List.map_map]
              have : ((fun x : ByteArray => x.data.toList) ∘ fun s : List UInt8 => (⟨s.toArray⟩ : ByteArray)) = id := by funext s; simp
              rw [this]; simp
            have hlen : (Lib.join ((l.map fun s => (⟨s.toArray⟩ : ByteArray)).map (·.data.toList)) (⟨sep.toArray⟩ : ByteArray).data.toList).length ≤ 140737488355328 := by
              rw [hmap]
              have := hb.1
              rw [joinL_eq] at this
              simpa using this
            have fin : ∀ (w' : World), Below g.w.heap.size g.w w' → ∀ e, e = Ending.returned (.string ⟨(Lib.join ((l.map fun s => (⟨s.toArray⟩ : ByteArray)).map (·.data.toList)) (⟨sep.toArray⟩ : ByteArray).data.toList).toArray⟩) →
                ∃ v g', e = .returned v ∧ g'.w = w' ∧ PStep g g' ∧ Gok g' ∧ Rd g' v (.str (joinL sep l)) := by
              intro w' hw e he
              refine ⟨_, { g with w := w' }, he, rfl, pstep_below hw, gok_below hg hw.size, ?_⟩
              rw [hmap, joinL_eq]
              have := Rd.str (g := { g with w := w' }) ⟨(Lib.join l sep).toArray⟩
              simpa using this
            cases hl0 : l with
            | nil =>
              subst hl0
              refine (Any.strings_Join_none L X (some ⟨b, o, none⟩) cap ⟨sep.toArray⟩ g.w).mono fun e w' ⟨he, hw⟩ => ?_
              exact fin w' (hw ▸ Below.refl _ _) e (by rw [he]; rfl)
            | cons a r =>
              have hbk : b < g.w.heap.size := lt_of_cell (key 0 ⟨a.toArray⟩ (by rw [hl0]; rfl))
              rw [← hl0]
              have hcall := Any.strings_Join L X b o cap (l.map fun s => (⟨s.toArray⟩ : ByteArray)) ⟨sep.toArray⟩ g.w key hbk (by simpa using hb.2) (by simpa using q3) hlen
              have e1 : (l.map fun s => (⟨s.toArray⟩ : ByteArray)).length = (l.map T.str).length := by simp
              rw [e1] at hcall
              exact hcall.mono fun e w' ⟨he, hw⟩ => fin w' hw e he
        | [], hv => simp [RdL] at hv
        | [_], hv => simp [RdL] at hv
        | _ :: _ :: _ :: _, hv => simp [RdL] at hv
      · cases h
    · cases h
  · cases h
end
end Go.Ps
