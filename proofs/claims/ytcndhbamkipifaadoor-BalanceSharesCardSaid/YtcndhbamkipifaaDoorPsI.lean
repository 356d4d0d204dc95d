/- make, append, and every operation that changes objects. -/
import Derived.Test.YtcndhbamkipifaaDoorPsH
namespace Go.Ps

section
variable {P : Program} {g : G} {H : Hp}

theorem make_ok (hs : St g H) (hg : Gok g) {t : TypeId} {l c r : T} {H' : Hp} (h : makeSliceT P H t l c = some (r, H')) {u v : Value} (hu : Rd g u l) (hv : Rd g v c) :
    ∃ q g', (Instr.makeSlice t u v).run P g.w = .ok q g'.w ∧ SStep H g H' g' ∧ St g' H' ∧ Gok g' ∧ Rd g' q r := by
  unfold makeSliceT at h
  split at h
  · rename_i e n m hd
    cases hu; cases hv
    split at h
    · rename_i sz bytes z hsz hby hz
      split at h
      · rename_i hc
        cases h
        obtain ⟨h0, hzl, hn0, rfl, hb, hn⟩ := hc
        simp only [szT, Option.map_eq_some_iff] at hsz hby
        obtain ⟨i, hi, rfl⟩ := hsz
        obtain ⟨i', hi', rfl⟩ := hby
        rw [hi] at hi'
        cases hi'
        have hzz := hz
        unfold zeroT at hz
        rw [hi] at hz
        simp only at hz
        split at hz
        · rename_i zv hzv
          have hrz := rd_ofVal g hz
          have hbi : (i.bytes : Int) * n ≤ 281474976710656 := by
            have e : (i.bytes : Int) * n = ((n.toNat * i.bytes : Nat) : Int) := by
              rw [Int.natCast_mul, Int.toNat_of_nonneg hn0, Int.mul_comm]
            rw [e]; omega
          have hr := run_make (P := P) g.w t e i zv hd hi hzv .i64 .i64 n n hn0 (Int.le_refl _) hbi (by omega)
          have hcells : RdL g (madeCells zv.cells (n.toNat * i.size)).toList ((List.replicate n.toNat z).flatMap T.cells) := zeros_ok hrz hzl h0
          have hall : ∀ x ∈ List.replicate n.toNat z, x.cells.length = i.size := fun x hx => by rw [(List.mem_replicate.1 hx).2]; exact hzl
          have hfl : ((List.replicate n.toNat z).flatMap T.cells).length = n.toNat * i.size := by rw [flat_length hall]; simp
          have hms : (madeCells zv.cells (n.toNat * i.size)).size = n.toNat * i.size := size_madeCells _ _
          refine ⟨_, g.own H.next (.cells (madeCells zv.cells (n.toNat * i.size)) e) n.toNat, hr, own_step hs _ _ _, ?_, own_ok hg _ _ _, ?_⟩
          · refine own_st (o := { elem := e, sz := i.size, cells := (List.replicate n.toNat z).flatMap T.cells }) hs hg (by simp only [hfl, hms]; omega) (fun q => by simp only at q; omega) (fun _ => ⟨hms, by simp only [maxLen]; omega⟩) ?_
            simp only [hfl]
            rw [List.take_of_length_le (by simp [hms])]
            exact hcells
          · refine .osl H.next i.size 0 n.toNat g.w.heap.size 0 n.toNat (.inr rfl) (Nat.le_refl _) (by simp [G.own]) (fun _ => by simp [G.own]) (fun _ => by simp [G.own])
        · cases hz
      · cases h
    · cases h
  · cases h

/-- The source of an append. -/
theorem src_ok (hs : St g H) {x : T} {new : List T} {m sz : Nat} (h1 : srcCells H x = some new) (h2 : lenOfT x = some m) (h3 : new.length = m * sz) (h4 : allOne new = true) {tx : TypeId} (h5 : srcOk P tx sz x = true)
    {v : Value} (hv : Rd g v x) (h0 : 0 < sz) : ∃ news, Src P sz tx v m news g.w ∧ RdL g news new := by
  unfold srcOk at h5
  split at h5
  · rename_i e hd
    simp only [srcCells, lenOfT] at h1 h2
    cases h1; cases h2
    cases hv
    exact ⟨[], Src.ofNil g.w hd 0, RdL.nil⟩
  · rename_i e full xs hd
    simp only [srcCells, lenOfT] at h1 h2
    cases h1; cases h2
    cases hv with
    | sl _ _ sz' b o cap vs q1 q2 q3 q4 q5 q6 q7 q8 =>
      have hl : vs.length = xs.length * sz := by rw [← h3, flat_length q2]; exact q6
      have hrd : RdL g vs (xs.flatMap T.cells) := ⟨by rw [h3]; exact hl, q8⟩
      exact ⟨vs, Src.ofSlice g.w hd ⟨b, o, none⟩ xs.length cap vs hl (fun j u hu => by rw [Addr.add_lit]; exact q7 j u hu) (one_of hrd h4), hrd⟩
  · rename_i e full n f hd
    simp only [srcCells, lenOfT] at h1 h2
    cases h1; cases h2
    cases hv with
    | slfn _ _ => exact ⟨[], Src.ofNil g.w hd 0, RdL.nil⟩
    | slf _ _ _ sz' b o cap vs q1 q2 q3 q4 q5 q6 q7 q8 =>
      have hmap : ((List.range m).flatMap fun i => (f i).cells) = ((List.range m).map f).flatMap T.cells := by rw [List.flatMap_map]
      have hall : ∀ x ∈ (List.range m).map f, x.cells.length = sz' := fun x hx => by
        obtain ⟨i, hi, rfl⟩ := List.mem_map.1 hx
        exact q2 i (by simpa using hi)
      rw [hmap] at h3 h4 ⊢
      have hl : vs.length = m * sz := by
        rw [← h3, flat_length hall]; simpa using q6
      have hrd : RdL g vs (((List.range m).map f).flatMap T.cells) := by
        refine ⟨by rw [h3]; exact hl, fun j u c hu hc => ?_⟩
        have hjl : j < vs.length := (List.getElem?_eq_some_iff.1 hu).1
        rcases Nat.eq_zero_or_pos sz' with hz | hz
        · rw [q6, hz] at hjl; omega
        · have hjn : j < m * sz' := by omega
          have hi : j / sz' < m := (Nat.div_lt_iff_lt_mul hz).2 hjn
          have hr : j % sz' < sz' := Nat.mod_lt _ hz
          have hj : j / sz' * sz' + j % sz' = j := by rw [Nat.mul_comm]; exact Nat.div_add_mod j sz'
          have hfi := q2 _ hi
          have hcj : (f (j / sz')).cells[j % sz']? = some ((f (j / sz')).cells[j % sz']'(by omega)) := List.getElem?_eq_getElem _
          have hx : ((List.range m).map f)[j / sz']? = some (f (j / sz')) := by simp [hi]
          have h1 := rows_at hall hx (j % sz') _ hcj
          rw [hj, hc] at h1
          cases h1
          exact (q8 _ _ u _ hi hr (by rw [hj]; exact hu) hcj).rd
      exact ⟨vs, Src.ofSlice g.w hd ⟨b, o, none⟩ m cap vs hl (fun j u hu => by rw [Addr.add_lit]; exact q7 j u hu) (one_of hrd h4), hrd⟩
  · rename_i e l sz' i len hd
    simp only [srcCells, lenOfT] at h1 h2
    cases h2
    simp only [beq_iff_eq] at h5
    subst h5
    split at h1
    · rename_i o ho
      split at h1
      · rename_i hle
        cases h1
        obtain ⟨ha, hS, cs, hb, q1, q2, q3, q4⟩ := hs.own l o ho
        cases hv with
        | osl _ _ _ _ b' o' cap p1 p2 p3 p4 p5 =>
          by_cases hm : m = 0
          · subst hm
            have hn : ((o.cells.drop (i * sz')).take (0 * sz')) = [] := by simp
            rw [hn]
            exact ⟨[], Src.ofSlice g.w hd ⟨b', o', none⟩ 0 cap [] (by simp) (by simp) (by simp), RdL.nil⟩
          · obtain ⟨rfl, rfl⟩ := p4 (.inl (by omega))
            have hmul : (i + m) * sz' = i * sz' + m * sz' := Nat.add_mul _ _ _
            have hrd : RdL g (((cs.toList.take o.cells.length).drop (i * sz')).take (m * sz')) ((o.cells.drop (i * sz')).take (m * sz')) := (q4.drop _).take _
            refine ⟨_, Src.ofSlice g.w hd ⟨g.loc l, i * sz', none⟩ m cap _ (by rw [hrd.1]; exact h3) (fun j u hu => ?_) (one_of hrd h4), hrd⟩
            rw [Addr.add_lit]
            rw [List.getElem?_take] at hu
            split at hu
            · rw [List.getElem?_drop, List.getElem?_take] at hu
              split at hu
              · simp [World.cell?, hb] at hu ⊢; exact hu
              · cases hu
            · cases hu
      · cases h1
    · cases h1
  · rename_i s hd
    simp only [srcCells, lenOfT] at h1 h2
    cases h1; cases h2
    simp only [beq_iff_eq] at h5
    subst h5
    obtain ⟨a, rfl, rfl⟩ := hv.inv_str
    refine ⟨byteCells a, ?_, ?_⟩
    · have e : a.data.toList.length = a.size := by simp [ByteArray.size_data]
      rw [e]; exact Src.ofString g.w hd a
    · refine ⟨by simp [byteCells], fun j u c hu hc => ?_⟩
      simp only [byteCells, List.getElem?_map, Option.map_eq_some_iff] at hu hc
      obtain ⟨x, hx, rfl⟩ := hu
      obtain ⟨y, hy, rfl⟩ := hc
      rw [hx] at hy; cases hy
      exact .int _ _
  · cases h5

/-- A new row behind an append: the world drawn and grown. -/
theorem grow_ok (hs : St g H) (hg : Gok g) {H0 : Hp} (hH0 : H0.next = H.next) (hsub : ∀ l o, H0.get l = some o → H.get l = some o) {e : TypeId} {sz need cap : Nat} {cells : List T} {vs : List Value} {rest : Array Value} (hv : RdL g vs cells) (hlen : cells.length = need * sz)
    (hrest : rest.size = (cap - need) * sz) (hcap : need ≤ cap) (hmax : cap ≤ maxLen) (hsz : sz ≠ 0) :
    ∃ g', g'.w = g.w.drew.alloc (.cells (vs.toArray ++ rest) e) ∧ SStep H g (H0.new { elem := e, sz := sz, cells := cells }) g' ∧ St g' (H0.new { elem := e, sz := sz, cells := cells }) ∧ Gok g' ∧
      Rd g' (.slice (some ⟨g.w.heap.size, 0, none⟩) need cap) (.osl H0.next sz 0 need) := by
  have hs0 : St g H0 := ⟨fun l o ho => hs.own l o (hsub l o ho), fun l l' o o' h1 h2 => hs.sep l l' o o' (hsub l o h1) (hsub l' o' h2), fun l hl => hs.new l (hH0 ▸ hl)⟩
  let gd : G := { g with w := g.w.drew }
  have hp : PStep g gd := ⟨rfl, rfl, rfl, Nat.le_refl _, fun _ _ => rfl, fun _ h => h, fun _ h => .inl h, rfl, rfl, rfl⟩
  have hsd := hs0.pstep hp
  have hgd : Gok gd := hg
  have hdown : SStep H g H0 gd := ⟨rfl, rfl, rfl, Nat.le_refl _, fun _ _ _ => rfl, fun _ h => h, fun _ h => .inl h, fun _ h => h, fun _ _ => rfl, fun _ _ => rfl, fun l o ho => .inl ⟨l, o, hsub l o ho, rfl⟩⟩
  have hvl : vs.length = need * sz := by rw [hv.1]; exact hlen
  have hmul : cap * sz = need * sz + (cap - need) * sz := by rw [← Nat.add_mul]; congr 1; omega
  refine ⟨gd.own H0.next (.cells (vs.toArray ++ rest) e) cap, rfl, hdown.trans (own_step hsd _ _ _), ?_, own_ok hgd _ _ _, ?_⟩
  · refine own_st (o := { elem := e, sz := sz, cells := cells }) hsd hgd (by simp; omega) (fun q => absurd q hsz) (fun _ => ⟨by simp [hvl, hrest]; omega, hmax⟩) ?_
    have : (vs.toArray ++ rest).toList.take cells.length = vs := by
      rw [Array.toList_append, hlen, ← hvl]; simp
    simp only at this ⊢
    rw [this]
    exact hv.pstep hp
  · refine .osl H0.next sz 0 need g.w.heap.size 0 cap (.inr rfl) hcap (by simp [G.own]) (fun _ => ⟨by simp only [G.own, if_true]; rfl, by simp⟩) (fun _ => by simp [G.own])

theorem zeroCells_size (z : Array Value) (n : Nat) : (Builtin.zeroCells z n).size = n * z.size := by simp [Builtin.zeroCells]

theorem append_ok (hs : St g H) (hg : Gok g) {t tx ty : TypeId} {s x r : T} {H' : Hp} (h : appendT P H t tx s x = some (r, H')) {u v : Value} (hu : Rd g u s) (hv : Rd g v x) :
    ∃ q g', (Builtin.append_ #[t, tx] ty #[u, v]).run P g.w = .ok q g'.w ∧ SStep H g H' g' ∧ St g' H' ∧ Gok g' ∧ Rd g' q r := by
  unfold appendT at h
  split at h
  · rename_i e hd
    split at h
    · rename_i i new m hi hsrc hm
      split at h
      · cases h
      · rename_i hc
        simp only [not_or] at hc
        obtain ⟨h0, h1, h2, h3, h4⟩ := hc
        have h0' : 0 < i.size := Nat.pos_of_ne_zero h0
        have h1' : new.length = m * i.size := by omega
        have h2' : allOne new = true := by simpa using h2
        have h4' : srcOk P tx i.size x = true := by simpa using h4
        have hz : ∃ z, i.zero = some z ∧ z.cells.size = i.size := by
          cases hz : i.zero with
          | none => simp [hz] at h3
          | some z => exact ⟨z, rfl, by simpa [hz] using h3⟩
        obtain ⟨z, hz, hzs⟩ := hz
        obtain ⟨news, hsr, hnew⟩ := src_ok (P := P) hs hsrc hm h1' h2' h4' hv h0'
        have hnl : news.length = m * i.size := hsr.newsLen
        have room : ∀ {n b : Nat}, roomT n b = true → n * b ≤ 70368744177664 ∧ n ≤ 70368744177664 := fun q => by simpa [roomT] using q
        split at h
        · cases hu
          split at h
          · rename_i hm0
            cases h
            subst hm0
            refine ⟨.slice none 0 0, g, ?_, .refl _ _, hs, hg, .nils⟩
            rcases hsr.kind with ⟨e', hk⟩ | hk <;> simp [Builtin.append_, run_underlying hd, run_underlying hk, sizeOf, typeInfo, hi, hsr.len, hsr.cells]
          · rename_i hm0
            split at h
            · rename_i hr
              cases h
              obtain ⟨r1, r2⟩ := room hr
              have hrun := run_append_grow_src (P := P) g.w t tx ty e i z hd hi hz none 0 0 [] (by simp [Builtin.firstCells]) v m news hsr (by omega) (by omega) (growslice_fits (by omega) (by rw [Nat.zero_add]; omega))
              have hge := grownCap_ge g.w (0 + m) 0 e
              have hmx := grownCap_le_maxLen g.w (0 + m) 0 e (by simp only [maxLen]; omega)
              simp only [Nat.zero_add, List.nil_append] at hrun hge hmx
              obtain ⟨g', e1, e2, e3, e4, e5⟩ := grow_ok (e := e) hs hg (H0 := H) rfl (fun _ _ q => q) hnew h1' (rest := Builtin.zeroCells z.cells (grownCap g.w m 0 e - m)) (by rw [zeroCells_size, hzs]) hge hmx h0
              exact ⟨_, g', by rw [hrun, e1], e2, e3, e4, e5⟩
            · cases h
        · rename_i xs
          cases hu with
          | sl _ _ sz' b o cap vs q1 q2 q3 q4 q5 q6 q7 q8 =>
            have hcap := q5 rfl
            subst hcap
            split at h
            · rename_i hm0
              cases h
              subst hm0
              have hn0 : news = [] := List.eq_nil_of_length_eq_zero (by omega)
              subst hn0
              refine ⟨_, g, ?_, .refl _ _, hs, hg, .sl true xs sz' b o xs.length vs q1 q2 q3 q4 q5 q6 q7 q8⟩
              rcases hsr.kind with ⟨e', hk⟩ | hk <;> simp [Builtin.append_, run_underlying hd, run_underlying hk, sizeOf, typeInfo, hi, hsr.len, hsr.cells, storeCells]
            · rename_i hm0
              split at h
              · rename_i hr
                cases h
                simp only [Bool.and_eq_true] at hr
                obtain ⟨r1, r2⟩ := room hr.1
                have hszz : xs = [] ∨ sz' = i.size := by
                  cases xs with
                  | nil => exact .inl rfl
                  | cons y ys => right; have h5 := hr.2; simp only [headOk, beq_iff_eq] at h5; rw [← h5]; exact (q2 y (by simp)).symm
                have hvl : vs.length = xs.length * i.size := by
                  rcases hszz with rfl | rfl
                  · simpa using q6
                  · exact q6
                have hxl : (xs.flatMap T.cells).length = xs.length * i.size := by
                  rcases hszz with rfl | rfl
                  · simp
                  · exact flat_length q2
                have hold : (Builtin.firstCells i.size xs.length (.slice (some ⟨b, o, none⟩) xs.length xs.length)).run P g.w.drew = .ok vs.toArray g.w.drew :=
                  run_firstCells_some (P := P) g.w.drew i.size xs.length ⟨b, o, none⟩ xs.length xs.length vs hvl (fun j u hu => by rw [Addr.add_lit]; exact q7 j u hu)
                have hrun := run_append_grow_src (P := P) g.w t tx ty e i z hd hi hz (some ⟨b, o, none⟩) xs.length xs.length vs hold v m news hsr (by omega) (by omega) (growslice_fits (by omega) (by omega))
                have hge := grownCap_ge g.w (xs.length + m) xs.length e
                have hmx := grownCap_le_maxLen g.w (xs.length + m) xs.length e (by simp only [maxLen]; omega)
                have hvs : RdL g vs (xs.flatMap T.cells) := ⟨by rw [hxl]; exact hvl, q8⟩
                obtain ⟨g', e1, e2, e3, e4, e5⟩ := grow_ok (e := e) hs hg (H0 := H) rfl (fun _ _ q => q) (hvs.append hnew) (need := xs.length + m) (by rw [List.length_append, hxl, h1', Nat.add_mul]) (rest := Builtin.zeroCells z.cells (grownCap g.w (xs.length + m) xs.length e - (xs.length + m))) (by rw [zeroCells_size, hzs]) hge hmx h0
                exact ⟨_, g', by rw [hrun, e1], e2, e3, e4, e5⟩
              · cases h
        · rename_i l sz' len
          cases hu with
          | osl _ _ _ _ b o cap p1 p2 p3 p4 p5 =>
            obtain ⟨rfl, rfl⟩ := p4 (.inr rfl)
            have hcp := p5 rfl
            subst hcp
            simp only [Nat.zero_mul] at *
            split at h
            · rename_i hm0
              cases h
              subst hm0
              have hn0 : news = [] := List.eq_nil_of_length_eq_zero (by omega)
              subst hn0
              refine ⟨.slice (some ⟨g.loc l, 0, none⟩) len (g.cp l), g, ?_, .refl _ _, hs, hg, .osl l sz' 0 len (g.loc l) 0 (g.cp l) p1 p2 (by omega) (fun _ => ⟨rfl, by simp⟩) (fun _ => rfl)⟩
              rcases hsr.kind with ⟨e', hk⟩ | hk <;> simp [Builtin.append_, run_underlying hd, run_underlying hk, sizeOf, typeInfo, hi, hsr.len, hsr.cells, storeCells, p2]
            · rename_i hm0
              split at h
              · rename_i ob hob
                split at h
                · rename_i hcc
                  cases h
                  obtain ⟨c1, c2, c3, c4, c5⟩ := hcc
                  obtain ⟨r1, r2⟩ := room c5
                  subst c3
                  obtain ⟨ha, hS, cs, hb, o1, o2, o3, o4⟩ := hs.own l ob hob
                  obtain ⟨o3, o5⟩ := o3 (by omega)
                  rw [c2] at o3
                  have hdrop : ∀ l' o', (H.drop l).get l' = some o' → H.get l' = some o' := fun l' o' q => by
                    rw [get_drop] at q
                    split at q
                    · cases q
                    · exact q
                  have hnl' : ∀ l' o', (H.drop l).get l' = some o' → l' ≠ l := fun l' o' q e => by
                    rw [get_drop, if_pos e] at q; cases q
                  by_cases hroom : len + m ≤ g.cp l
                  · have hle : len * i.size + m * i.size ≤ cs.size := by rw [o3, ← Nat.add_mul]; exact Nat.mul_le_mul_right _ hroom
                    have hone := hsr.one
                    have hstc := run_storeCells_at (P := P) (g.loc l) (len * i.size) ob.elem news 0 cs g.w hb (by omega) hone
                    simp only [Nat.add_zero] at hstc
                    let cs' := (cs.toList.take (len * i.size) ++ news ++ cs.toList.drop (len * i.size + news.length)).toArray
                    have hcs' : cs'.size = cs.size := by simp [cs']; omega
                    let g' : G := { w := g.w.setRow (g.loc l) cs', S := g.S, al := fun k => g.al k ∨ k = H.next, loc := fun k => if k = H.next then g.loc l else g.loc k, cp := fun k => if k = H.next then g.cp l else g.cp k }
                    have hn := hs.new H.next (Nat.le_refl _)
                    have hne : ∀ k, g.al k → k ≠ H.next := fun k hk q => hn (q ▸ hk)
                    have hstep : SStep H g ((H.drop l).new { elem := ob.elem, sz := i.size, cells := ob.cells ++ new }) g' := by
                      refine ⟨rfl, rfl, rfl, by simp [g', World.setRow], fun k _ hk => setRow_other _ _ _ _ (fun q => hk l ob hob q.symm), fun _ q => q, fun _ q => .inl q, fun k hk => .inl hk, fun k hk => by simp [g', hne k hk], fun k hk => by simp [g', hne k hk], fun k o' ho' => ?_⟩
                      rw [findOb_new] at ho'
                      split at ho'
                      · rename_i q; exact .inl ⟨l, ob, hob, by simp only [Hp.drop] at q; simp [g', q]⟩
                      · rename_i q
                        have := hdrop k o' ho'
                        simp only [Hp.drop] at q
                        exact .inl ⟨k, o', this, by simp [g', Ne.symm q]⟩
                    refine ⟨.slice (some ⟨g.loc l, 0, none⟩) (len + m) (g.cp l), g', ?_, hstep, ?_, fun k hk => by simpa [g', World.setRow] using hg k hk, ?_⟩
                    · rcases hsr.kind with ⟨e', hk⟩ | hk <;> simp [Builtin.append_, run_underlying hd, run_underlying hk, sizeOf, typeInfo, hi, hsr.len, hsr.cells, hroom, Addr.add_lit, hstc, g', cs']
                    · have hrow : RdL g (cs'.toList.take (ob.cells ++ new).length) (ob.cells ++ new) := by
                        have e1 : (ob.cells ++ new).length = len * i.size + m * i.size := by rw [List.length_append, c4, h1']
                        have e2 : cs'.toList.take (ob.cells ++ new).length = cs.toList.take (len * i.size) ++ news := by
                          simp only [cs']
                          have e3 : (cs.toList.take (len * i.size) ++ news).length = len * i.size + m * i.size := by simp; omega
                          rw [e1, ← e3, List.take_left]
                        rw [e2]
                        rw [c4] at o4
                        exact o4.append hnew
                      refine ⟨fun k o' ho' => ?_, fun k k' o1' o2' hk1 hk2 q => ?_, fun k hk => ?_⟩
                      · rw [findOb_new] at ho'
                        split at ho'
                        · rename_i q
                          cases ho'
                          simp only [Hp.drop] at q
                          subst q
                          refine ⟨.inr rfl, by simpa [g'] using hS, cs', ?_, ?_, fun q => by simp only at q; omega, fun _ => ⟨by simp [g', hcs', o3], by simpa [g'] using o5⟩, hrow.sstep hs hstep⟩
                          · simp only [g', if_true]; exact setRow_heap _ _ _ _ _ _ hb
                          · rw [hcs']; simp only [List.length_append, c4, h1']; omega
                        · rename_i q
                          simp only [Hp.drop] at q
                          have hk := hdrop k o' ho'
                          obtain ⟨ha', hS', cs'', hb', p1', p2', p3', p4'⟩ := hs.own k o' hk
                          have hloc : g'.loc k = g.loc k := hstep.loc k ha'
                          have hcp' : g'.cp k = g.cp k := hstep.cp k ha'
                          have hnb : g.loc k ≠ g.loc l := fun q' => hnl' k o' ho' (hs.sep k l o' ob hk hob q')
                          refine ⟨.inl ha', by rw [hloc]; exact hS', cs'', ?_, p1', p2', by rw [hcp']; exact p3', p4'.sstep hs hstep⟩
                          rw [hloc]
                          show (g.w.setRow (g.loc l) cs').heap[g.loc k]? = _
                          rw [setRow_other _ _ _ _ hnb]; exact hb'
                      · rw [findOb_new] at hk1 hk2
                        have hnx : (H.drop l).next = H.next := rfl
                        rw [hnx] at hk1 hk2
                        have hex : ∀ k o', ¬ H.next = k → (H.drop l).get k = some o' → H.get k = some o' ∧ k ≠ l ∧ g'.loc k = g.loc k := fun k o' q ho' => by
                          have := hdrop k o' ho'
                          exact ⟨this, hnl' k o' ho', by simp [g', Ne.symm q]⟩
                        split at hk1
                        · rename_i q1
                          split at hk2
                          · rename_i q2; rw [← q1, ← q2]
                          · rename_i q2
                            obtain ⟨a1, a2, a3⟩ := hex k' o2' q2 hk2
                            rw [a3] at q
                            simp only [g', if_pos q1.symm] at q
                            exact absurd (hs.sep k' l o2' ob a1 hob q.symm) a2
                        · rename_i q1
                          obtain ⟨a1, a2, a3⟩ := hex k o1' q1 hk1
                          split at hk2
                          · rename_i q2
                            rw [a3] at q
                            simp only [g', if_pos q2.symm] at q
                            exact absurd (hs.sep k l o1' ob a1 hob q) a2
                          · rename_i q2
                            obtain ⟨b1, b2, b3⟩ := hex k' o2' q2 hk2
                            rw [a3, b3] at q
                            exact hs.sep k k' o1' o2' a1 b1 q
                      · simp only [Hp.new, Hp.drop] at hk
                        rintro (q | q)
                        · exact hs.new k (by omega) q
                        · omega
                    · refine .osl H.next i.size 0 (len + m) (g.loc l) 0 (g.cp l) (.inr rfl) hroom (by simp [g']) (fun _ => by simp [g']) (fun _ => by simp [g'])
                  · have hold : (Builtin.firstCells i.size len (.slice (some ⟨g.loc l, 0, none⟩) len (g.cp l))).run P g.w.drew = .ok (cs.toList.take ob.cells.length).toArray g.w.drew :=
                      run_firstCells_some (P := P) g.w.drew i.size len ⟨g.loc l, 0, none⟩ len (g.cp l) _ (by rw [o4.1]; exact c4) (fun j u hu => by
                        rw [Addr.add_lit, Nat.zero_add]
                        rw [List.getElem?_take] at hu
                        split at hu
                        · have hb' : g.w.drew.heap[g.loc l]? = some (.cells cs ob.elem (0, 0)) := hb
                          simp [World.cell?, hb'] at hu ⊢; exact hu
                        · cases hu)
                    have hrun := run_append_grow_src (P := P) g.w t tx ty ob.elem i z hd hi hz (some ⟨g.loc l, 0, none⟩) len (g.cp l) _ hold v m news hsr (by omega) (by omega) (growslice_fits (by omega) (by omega))
                    have hge := grownCap_ge g.w (len + m) (g.cp l) ob.elem
                    have hmx := grownCap_le_maxLen g.w (len + m) (g.cp l) ob.elem (by simp only [maxLen]; omega)
                    obtain ⟨g', e1, e2, e3, e4, e5⟩ := grow_ok (e := ob.elem) hs hg (H0 := H.drop l) rfl hdrop (o4.append hnew) (need := len + m) (by rw [List.length_append, c4, h1', Nat.add_mul]) (rest := Builtin.zeroCells z.cells (grownCap g.w (len + m) (g.cp l) ob.elem - (len + m))) (by rw [zeroCells_size, hzs]) hge hmx h0
                    exact ⟨_, g', by rw [hrun, e1], e2, e3, e4, e5⟩
                · cases h
              · cases h
        · cases h
    · cases h
  · cases h

/-- The contracts of an environment that change objects hold. -/
def EeOk (P : Program) (gl : Nat → Option T) (ee : FuncId → List T → Hp → Option (T × Hp)) : Prop :=
  ∀ f ts H r H', ee f ts H = some (r, H') → okFn P f = true ∧ ∀ (g : G) (vs : List Value), Gok g → St g H → GlOk gl g → RdL g vs ts →
    Calls P f vs.toArray g.w fun e w' => ∃ v g', e = .returned v ∧ g'.w = w' ∧ SStep H g H' g' ∧ Gok g' ∧ St g' H' ∧ Rd g' v r

/-- The operation yields a value that reads as t, and leaves the heap H'. -/
def EOk (P : Program) (o : Oper) (a : Act) (g : G) (H : Hp) (t : T) (H' : Hp) : Prop :=
  ∀ (K : Act → World → Prop) (Q : Exit → Act → World → Prop), (∀ v g', SStep H g H' g' → Gok g' → St g' H' → Rd g' v t → K (a.put o.dst v) g'.w) → o.wp P a g.w K Q

theorem eok_val {o : Oper} {a : Act} {t : T} {v : Value} {H' : Hp} {g' : G} (hr : (execOp a.eval o).run P g.w = .ok (.value v) g'.w) (h1 : SStep H g H' g') (h2 : St g' H') (h3 : Gok g') (h : Rd g' v t) : EOk P o a g H t H' := by
  intro K Q hK
  unfold Oper.wp
  rw [hr]
  exact hK v g' h1 h3 h2 h

theorem eok_skip {o : Oper} {a : Act} {H' : Hp} {g' : G} (hr : (execOp a.eval o).run P g.w = .ok .skip g'.w) (h1 : SStep H g H' g') (h2 : St g' H') (h3 : Gok g') : EOk P o a g H undefT H' := by
  intro K Q hK
  unfold Oper.wp
  rw [hr]
  exact hK undef g' h1 h3 h2 Rd.undef

theorem effT_ok {E : Env} {F : Fc} (hF : EeOk P E.gl F.ee) (hgl : GlOk E.gl g) (hs : St g H) (hg : Gok g) {fr : List T} {a : Act} {o : Oper} {t : T} {H' : Hp}
    (h : effT P E F H fr o = some (t, H')) (hop : ∀ x ∈ o.op.operands, ∀ t, evalT E.gl fr x = some t → Rd g (a.eval x) t) : EOk P o a g H t H' := by
  obtain ⟨dst, op, type, pos, after, guard⟩ := o
  cases op <;> simp only [effT] at h <;> simp only [Op.operands] at hop <;> try (cases h; done)
  case alloc e =>
    split at h
    · rename_i z hz
      cases h
      obtain ⟨v, hv, hr⟩ := zero_ok (g := g) hz
      have hc := hr.cells
      have hlen : v.cells.size = z.cells.length := by rw [← hc.1]; simp
      refine eok_val (g' := g.own H.next (.cells v.cells e) 0) (v := .pointer (some ⟨g.w.heap.size, 0, none⟩)) ?_ (own_step hs _ _ _) ?_ (own_ok hg _ _ _) (own_rd _ _ _)
      · simp only [execOp, Instr.alloc, Sem.run_bind, hv, Result.andThen_ok, newVar, newRow, run_newObj, Sem.run_pure]; rfl
      · refine own_st (o := { elem := e, sz := 0, cells := z.cells }) hs hg (by simp only; omega) (fun _ => hlen) (fun q => absurd rfl q) ?_
        simp only
        rw [List.take_of_length_le (by rw [hc.1]; exact Nat.le_refl _)]
        exact hc
    · cases h
  case box e x =>
    split at h
    · rename_i y hy
      cases h
      have hr := hop x (by simp) y hy
      have hc := hr.cells
      have hlen : (a.eval x).cells.size = y.cells.length := by rw [← hc.1]; simp
      refine eok_val (g' := g.own H.next (.cells (a.eval x).cells e) 0) (v := .pointer (some ⟨g.w.heap.size, 0, none⟩)) ?_ (own_step hs _ _ _) ?_ (own_ok hg _ _ _) (own_rd _ _ _)
      · simp only [execOp, Instr.box, Sem.run_bind, Result.andThen_ok, newVar, newRow, run_newObj, Sem.run_pure]; rfl
      · refine own_st (o := { elem := e, sz := 0, cells := y.cells }) hs hg (by simp only; omega) (fun _ => hlen) (fun q => absurd rfl q) ?_
        simp only
        rw [List.take_of_length_le (by rw [hc.1]; exact Nat.le_refl _)]
        exact hc
    · cases h
  case buildSlice ty len parts =>
    split at h
    · rename_i l hl
      split at h
      · rename_i e f xs hd hb
        split at h
        · rename_i s hsz
          cases h
          have hp := pairs_ok (g := g) (a := a) hl (fun p hp t ht => hop p.2 (by simp; exact ⟨p.1, by simpa using hp⟩) t ht)
          obtain ⟨ca, e', h1, _, xs', s', hr, hd', hs', h0, hsm, hfl, hrd⟩ := buildSlice_ok hb hp
          cases hr
          rw [hd] at hd'
          cases hd'
          rw [hsz] at hs'
          cases hs'
          have hca : ca.size = len * s := by rw [← hfl, ← hrd.1]; simp
          have e1 : (parts.map fun x => (x.1, a.eval x.2)) = (parts.toList.map fun p => (p.1, a.eval p.2)).toArray := by cases parts; simp
          have hle : len ≤ len * s := Nat.le_mul_of_pos_right _ h0
          refine eok_val (g' := g.own H.next (.cells ca e) len) (v := .slice (some ⟨g.w.heap.size, 0, none⟩) len len) ?_ (own_step hs _ _ _) ?_ (own_ok hg _ _ _) ?_
          · simp only [execOp, Sem.run_bind, e1, h1, Result.andThen_ok, Sem.run_pure]; rfl
          · refine own_st (o := { elem := e, sz := s, cells := xs.flatMap T.cells }) hs hg (by simp only [hfl, hca]; omega) (fun q => by simp only at q; omega) (fun _ => ⟨hca, by simp only [maxLen]; omega⟩) ?_
            simp only [hfl]
            rw [List.take_of_length_le (by simp [hca])]
            exact hrd
          · exact .osl H.next s 0 len g.w.heap.size 0 len (.inr rfl) (Nat.le_refl _) (by simp [G.own]) (fun _ => by simp [G.own]) (fun _ => by simp [G.own])
        · cases h
      · cases h
    · cases h
  case store e p x =>
    split at h
    · rename_i q y hq hy
      split at h
      · rename_i H1 hH1
        cases h
        obtain ⟨g', h1, h2, h3, h4⟩ := store_ok (P := P) hs hH1 (hop p (by simp) q hq) (hop x (by simp) y hy)
        exact eok_skip (g' := g') (by simp only [execOp, Sem.run_bind, h1, Result.andThen_ok, Sem.run_pure]) h2 h3 (h4 hg)
      · cases h
    · cases h
  case makeSlice e l c =>
    split at h
    · rename_i n m hn hm
      obtain ⟨q, g', h1, h2, h3, h4, h5⟩ := make_ok (P := P) hs hg h (hop l (by simp) n hn) (hop c (by simp) m hm)
      exact eok_val (g' := g') (v := q) (by simp only [execOp, Sem.run_bind, h1, Result.andThen_ok, Sem.run_pure]) h2 h3 h4 h5
    · cases h
  case call c =>
    obtain ⟨callee, args, tys⟩ := c
    simp only [Call.operands] at hop
    simp only at h
    split at h
    · rename_i f
      split at h
      · rename_i k first cap hf
        split at h
        · rename_i as has
          obtain ⟨vs, us, hv, hr1, hr2⟩ := (hop f (by simp) _ hf).inv_fn
          have h3 := evalAll_ok (g := g) (a := a) has (fun x hx => hop x (by simp at hx; simp [hx]))
          obtain ⟨hk, hc⟩ := hF k _ H t H' h
          have hcall := hc g _ hg hs hgl ((hr1.append h3).append hr2)
          intro K Q hK
          have hrun : (execOp a.eval { dst, op := .call ⟨.value f, args, tys⟩, type, pos, after, guard }).run P g.w = .ok (.enter k (vs ++ args.toList.map a.eval ++ us).toArray) g.w := by
            simp only [execOp, resolve, hv, Deferred.ofValue, Sem.run_bind, Sem.run_pure, Result.andThen_ok, invoke, array_map_toList]
            rw [okFn_call hk]
            simp
          unfold Oper.wp
          rw [hrun]
          exact hcall.mono fun e w' ⟨v, g', he, hw, hst, hok, hst', hrd⟩ => by
            subst he; subst hw
            exact hK v g' hst hok hst' hrd
        · cases h
      · cases h
    · split at h
      · rename_i s x t0 t1 hargs htys
        split at h
        · rename_i p q hp hq
          have e1 : args = #[s, x] := by cases args; simp at hargs; simp [hargs]
          have e2 : tys = #[t0, t1] := by cases tys; simp at htys; simp [htys]
          subst e1; subst e2
          obtain ⟨u, g', h1, h2, h3, h4, h5⟩ := append_ok (P := P) (ty := type) hs hg h (hop s (by simp) p hp) (hop x (by simp) q hq)
          exact eok_val (g' := g') (v := u) (by simp [execOp, resolve, invoke, builtin, h1]) h2 h3 h4 h5
        · cases h
      · cases h
    · cases h
end
end Go.Ps
