/- Steps, regions and code along one way. -/
import Derived.Test.YtcndhbamkipifaaDoorPsO
namespace Go.Ps

section
variable {P : Program} {D : Ed} {F : Fc}

theorem plainD_ok {ops : Array Oper} {s s' : Fx} {o : Oper} {ds log ds' log' : List Bool} (hp : plainD P D F ops s o ds log = .ok s' ds' log') (hl : allT log' = true) : plainE P D.env F ops s o = some s' ∧ allT log = true := by
  unfold plainD at hp
  unfold plainE
  split at hp
  · rename_i ds1 log1 hg
    split at hp
    · rename_i v ds2 log2 hv
      cases hp
      obtain ⟨h1, h2⟩ := pureD_ok hv hl
      obtain ⟨hw, hlog⟩ := guardD_ok hg h2
      rw [if_pos hw, h1]
      exact ⟨rfl, hlog⟩
    · cases hp
    · cases hp
    · rename_i ds2 log2 hv
      split at hp
      · rename_i d t hal
        rw [hal]
        simp only
        split at hp
        · cases hp
        · rename_i hpn
          split at hp
          · rename_i n z hn hz
            split at hp
            · rename_i hcc
              cases hp
              obtain ⟨h1, h2⟩ := pureD_ok hv hl
              obtain ⟨hw, hlog⟩ := guardD_ok hg h2
              rw [if_pos hw, h1]
              simp only
              rw [if_neg hpn, hn, hz]
              simp only
              rw [if_pos hcc]
              exact ⟨rfl, hlog⟩
            · cases hp
          · cases hp
      · rename_i hal
        rw [hal]
        simp only
        split at hp
        · rename_i v H1 c hef
          cases hp
          rw [allT_append, Bool.and_eq_true] at hl
          obtain ⟨h1, h2⟩ := pureD_ok hv hl.2
          obtain ⟨hw, hlog⟩ := guardD_ok hg h2
          rw [if_pos hw, h1, effD_ok hef hl.1]
          exact ⟨rfl, hlog⟩
        · cases hp
  · rename_i ds1 log1 hg
    cases hp
    obtain ⟨hw, hlog⟩ := guardD_ok hg hl
    rw [if_neg (by simp [hw])]
    exact ⟨rfl, hlog⟩
  · cases hp
  · cases hp

theorem stepD_ok {ops : Array Oper} {s s' : Fx} {o : Oper} {ds log ds' log' : List Bool} (h : stepD P D F ops s o ds log = .ok s' ds' log') (hl : allT log' = true) : stepE P D.env F ops s o = some s' ∧ allT log = true := by
  unfold stepD at h
  unfold stepE
  split at h
  · rename_i hpn
    rw [hpn]
    exact plainD_ok h hl
  · rename_i d t hpn
    rw [hpn]
    simp only
    split at h
    · rename_i t' d' x ho hd hgd
      rw [ho, hd, hgd]
      simp only
      split at h
      · rename_i e
        rw [if_pos e]
        split at h
        · rename_i hc
          rw [if_pos hc]
          split at h
          · rename_i y n hy hn
            cases h
            simp only [allT, Bool.and_eq_true, decide_eq_true_eq] at hl
            simp only [Ed.env]
            rw [hy, hn]
            simp only
            rw [if_pos ⟨hl.1, hl.2.1⟩]
            exact ⟨rfl, hl.2.2⟩
          · cases h
        · cases h
      · rename_i e
        rw [if_neg e]
        split at h
        · cases h
        · rename_i ht
          rw [if_neg ht]
          exact plainD_ok h hl
    · rename_i q
      split at h
      · cases h
      · rename_i ht
        have hp := plainD_ok h hl
        split
        · rename_i t' d' x ho hd hgd
          exact (q t' d' x ho hd hgd).elim
        · rw [if_neg ht]; exact hp

theorem seqD_ok {ops : Array Oper} : ∀ {l : List Oper} {s s' : Fx} {ds log ds' log' : List Bool}, evalSeqD P D F ops l s ds log = .ok s' ds' log' → allT log' = true → evalSeq P D.env F ops l s = some s' ∧ allT log = true
  | [], s, s', ds, log, ds', log', h, hl => by
    simp only [evalSeqD] at h
    cases h
    exact ⟨rfl, hl⟩
  | o :: l, s, s', ds, log, ds', log', h, hl => by
    simp only [evalSeqD] at h
    split at h
    · rename_i s1 ds1 log1 hs
      obtain ⟨h1, h2⟩ := seqD_ok h hl
      obtain ⟨h3, h4⟩ := stepD_ok hs h2
      exact ⟨by simp only [evalSeq, h3, h1], h4⟩
    · cases h
    · cases h

theorem drawD_ok {ops : Array Oper} : ∀ {l : List Oper} {m : Nat} {s s' : Fx} {ds log ds' log' : List Bool}, evalDrawD P D F ops l m s ds log = .ok s' ds' log' → allT log' = true → evalDraw P D.env F ops l m s = some s' ∧ allT log = true
  | [], m, s, s', ds, log, ds', log', h, hl => by
    simp only [evalDrawD] at h
    split at h
    · rename_i hp; cases h; exact ⟨by simp only [evalDraw, hp], hl⟩
    · cases h
  | o :: l, m, s, s', ds, log, ds', log', h, hl => by
    simp only [evalDrawD] at h
    simp only [evalDraw]
    split at h
    · rename_i hhit
      rw [if_pos hhit]
      split at h
      · rename_i hc
        rw [if_pos hc]
        exact seqD_ok h hl
      · cases h
    · rename_i hhit
      rw [if_neg hhit]
      split at h
      · cases h
      · rename_i hdst
        rw [if_neg hdst]
        split at h
        · rename_i ds1 log1 hg
          split at h
          · rename_i v ds2 log2 hv
            obtain ⟨h1, h2⟩ := drawD_ok h hl
            obtain ⟨h3, h4⟩ := pureD_ok hv h2
            obtain ⟨hw, hlog⟩ := guardD_ok hg h4
            rw [if_pos hw, h3]
            exact ⟨h1, hlog⟩
          · cases h
          · cases h
          · rename_i ds2 log2 hv
            split at h
            · rename_i d t hal
              rw [hal]
              simp only
              split at h
              · cases h
              · rename_i hpn
                split at h
                · rename_i n z hn hz
                  split at h
                  · rename_i hcc
                    obtain ⟨h1, h2⟩ := drawD_ok h hl
                    obtain ⟨h3, h4⟩ := pureD_ok hv h2
                    obtain ⟨hw, hlog⟩ := guardD_ok hg h4
                    rw [if_pos hw, h3]
                    simp only
                    rw [if_neg hpn, hn, hz]
                    simp only
                    rw [if_pos hcc]
                    exact ⟨h1, hlog⟩
                  · cases h
                · cases h
            · rename_i hal
              rw [hal]
              simp only
              split at h
              · rename_i hc
                rw [Bool.and_eq_true] at hc
                obtain ⟨h1, h2⟩ := seqD_ok h hl
                refine ⟨?_, h2⟩
                have hgn : o.guard = none := by simpa using hc.1
                have hw : wantedT ops s.fr o = true := by simp [wantedT, hgn]
                have hnone : evalP P D.env (ownD F o) s.H s.fr o = none := by
                  have hg' : guardD ops s.fr o ds log = .ok true ds log := by simp [guardD, hgn]
                  rw [hg'] at hg
                  cases hg
                  exact pureD_none hv
                rw [if_pos hw, hnone, if_pos hc.2]; exact h1
              · cases h
        · rename_i ds1 log1 hg
          obtain ⟨h1, h2⟩ := drawD_ok h hl
          obtain ⟨hw, hlog⟩ := guardD_ok hg h2
          rw [if_neg (by simp [hw])]
          exact ⟨h1, hlog⟩
        · cases h
        · cases h

theorem codeD_ok (n : Nat) : ∀ {c : Code} {fr fr' : List T} {H H' : Hp} {x : X} {ds log ds' log' : List Bool}, evalCodeD P D F c fr H ds log = .ok (x, fr', H') ds' log' → allT log' = true → evalCode P D.env F n c fr H = some (x, fr', H') ∧ allT log = true := by
  intro c
  induction c with
  | skip => intro fr fr' H H' x ds log ds' log' h hl; simp only [evalCodeD] at h; cases h; exact ⟨rfl, hl⟩
  | label l => intro fr fr' H H' x ds log ds' log' h hl; simp only [evalCodeD] at h; cases h; exact ⟨rfl, hl⟩
  | exit id => intro fr fr' H H' x ds log ds' log' h hl; simp only [evalCodeD] at h; cases h; exact ⟨rfl, hl⟩
  | ret => intro fr fr' H H' x ds log ds' log' h hl; simp only [evalCodeD] at h; cases h; exact ⟨rfl, hl⟩
  | region id ops draw =>
    intro fr fr' H H' x ds log ds' log' h hl
    simp only [evalCodeD] at h
    simp only [evalCode]
    split at h
    · rename_i f1 h1 ds1 log1 hr
      cases h
      cases draw with
      | false =>
        simp only [Bool.false_eq_true, if_false] at hr ⊢
        obtain ⟨a, b⟩ := seqD_ok hr hl
        rw [a]; exact ⟨rfl, b⟩
      | true =>
        simp only [if_true] at hr ⊢
        obtain ⟨a, b⟩ := drawD_ok hr hl
        rw [a]; exact ⟨rfl, b⟩
    · cases h
    · cases h
    · cases h
  | seq c1 c2 ih1 ih2 =>
    intro fr fr' H H' x ds log ds' log' h hl
    simp only [evalCodeD] at h
    simp only [evalCode]
    split at h
    · rename_i f1 h1 ds1 log1 hr
      obtain ⟨a, b⟩ := ih2 h hl
      obtain ⟨a1, b1⟩ := ih1 hr b
      rw [a1]; exact ⟨a, b1⟩
    · rename_i hr
      obtain ⟨a1, b1⟩ := ih1 h hl
      rw [a1]
      cases x with
      | normal => exact absurd h (hr _ _ _ _)
      | exit id => exact ⟨rfl, b1⟩
      | ret => exact ⟨rfl, b1⟩
  | cond o c1 c2 ih1 ih2 =>
    intro fr fr' H H' x ds log ds' log' h hl
    simp only [evalCodeD] at h
    simp only [evalCode, Ed.env]
    split at h
    · rename_i t ht
      rw [ht]
      simp only
      split at h
      · cases h
      · rename_i d ds1
        split at h
        · obtain ⟨a, b⟩ := ih1 h hl
          simp only [allT, Bool.and_eq_true] at b
          rw [if_pos b.1]; exact ⟨a, b.2⟩
        · obtain ⟨a, b⟩ := ih2 h hl
          simp only [allT, Bool.and_eq_true, Bool.not_eq_true'] at b
          rw [if_neg (by simp [b.1])]; exact ⟨a, b.2⟩
    · cases h
  | block id c ih =>
    intro fr fr' H H' x ds log ds' log' h hl
    simp only [evalCodeD] at h
    simp only [evalCode]
    split at h
    · rename_i id' f1 h1 ds1 log1 hr
      split at h
      · rename_i e
        cases h
        obtain ⟨a, b⟩ := ih hr hl
        rw [a]; simp only; rw [if_pos e]; exact ⟨rfl, b⟩
      · rename_i e
        cases h
        obtain ⟨a, b⟩ := ih hr hl
        rw [a]; simp only; rw [if_neg e]; exact ⟨rfl, b⟩
    · rename_i hr
      obtain ⟨a, b⟩ := ih h hl
      rw [a]
      cases x with
      | normal => exact ⟨rfl, b⟩
      | exit id' => exact absurd h (hr _ _ _ _ _)
      | ret => exact ⟨rfl, b⟩
  | scope c ih =>
    intro fr fr' H H' x ds log ds' log' h hl
    simp only [evalCodeD] at h
    simp only [evalCode]
    exact ih h hl
  | _ => intro fr fr' H H' x ds log ds' log' h; simp [evalCodeD] at h
end
end Go.Ps
