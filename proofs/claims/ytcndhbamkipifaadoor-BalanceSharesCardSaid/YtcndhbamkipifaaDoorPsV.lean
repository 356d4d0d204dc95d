/- From cut to cut: the evaluator stops at a loop, at the end of a loop's round, or at the end. -/
import Derived.Test.YtcndhbamkipifaaDoorPsU
namespace Go.Ps

inductive Ki where
  | seq (d : Code)
  | blk (id : Nat)
  | lp

inductive Out where
  | again (j : Nat) (fr : List T) (H : Hp)
  | done (x : X) (fr : List T) (H : Hp)
  | loop (j : Nat) (c : Code) (ks : List Ki) (fr : List T) (H : Hp)

inductive Md where
  | code (c : Code)
  | out (x : X)

def runK (P : Program) (E : Ed) (F : Fc) : Nat → Md → List Ki → Nat → List T → Hp → List Bool → List Bool → RD Out
  | 0, _, _, _, _, _, _, _ => .fail 40
  | _ + 1, .out x, [], _, fr, H, ds, log => .ok (.done x fr H) ds log
  | n + 1, .out .normal, .seq d :: ks, j, fr, H, ds, log => runK P E F n (.code d) ks j fr H ds log
  | n + 1, .out .normal, .blk _ :: ks, j, fr, H, ds, log => runK P E F n (.out .normal) ks j fr H ds log
  | _ + 1, .out .normal, .lp :: _, j, fr, H, ds, log => .ok (.again j fr H) ds log
  | n + 1, .out (.exit id), .seq _ :: ks, j, fr, H, ds, log => runK P E F n (.out (.exit id)) ks j fr H ds log
  | n + 1, .out (.exit id), .blk id' :: ks, j, fr, H, ds, log => if id = id' then runK P E F n (.out .normal) ks j fr H ds log else runK P E F n (.out (.exit id)) ks j fr H ds log
  | n + 1, .out (.exit id), .lp :: ks, j, fr, H, ds, log => runK P E F n (.out (.exit id)) ks (j + 1) fr H ds log
  | n + 1, .out .ret, .lp :: ks, j, fr, H, ds, log => runK P E F n (.out .ret) ks (j + 1) fr H ds log
  | n + 1, .out .ret, .seq _ :: ks, j, fr, H, ds, log => runK P E F n (.out .ret) ks j fr H ds log
  | n + 1, .out .ret, .blk _ :: ks, j, fr, H, ds, log => runK P E F n (.out .ret) ks j fr H ds log
  | n + 1, .code c, ks, j, fr, H, ds, log => match c with
    | .seq a b => runK P E F n (.code a) (.seq b :: ks) j fr H ds log
    | .block id c => runK P E F n (.code c) (.blk id :: ks) j fr H ds log
    | .scope c => runK P E F n (.code c) ks j fr H ds log
    | .loop c => .ok (.loop j c ks fr H) ds log
    | .cond o a b => match evalT E.gl fr o with
      | some (.bool t) => match ds with
        | [] => .need t log
        | d :: ds' => if d then runK P E F n (.code a) ks j fr H ds' (t :: log) else runK P E F n (.code b) ks j fr H ds' ((!t) :: log)
      | _ => .fail 41
    | c => match evalCodeD P E F c fr H ds log with
      | .ok (x, fr', H') ds' log' => runK P E F n (.out x) ks j fr' H' ds' log'
      | .need t l => .need t l
      | .fail m => .fail m

/-- All loops of a body, each with what stands behind it. -/
def loopsOf : Code → List Ki → List (Code × List Ki)
  | .seq a b, ks => loopsOf a (.seq b :: ks) ++ loopsOf b ks
  | .block id c, ks => loopsOf c (.blk id :: ks)
  | .scope c, ks => loopsOf c ks
  | .cond _ a b, ks => loopsOf a ks ++ loopsOf b ks
  | .loop c, ks => (c, ks) :: loopsOf c (.lp :: ks)
  | _, _ => []

def postK (P : Program) (E : Env) (Q : X → List T → Hp → Prop) : List Ki → List (List T → Hp → Prop) → X → List T → Hp → Prop
  | [], _ => Q
  | .seq d :: ks, As => exitThen (fun fr H => Good P E d fr H (postK P E Q ks As)) (postK P E Q ks As)
  | .blk id :: ks, As => exitBlock id (postK P E Q ks As)
  | .lp :: ks, A :: As => exitThen A (postK P E Q ks As)
  | .lp :: ks, [] => exitThen (fun _ _ => False) (postK P E Q ks [])

def mdOk : Md → Bool
  | .code c => codeOk c
  | .out _ => true

def ksOk : List Ki → Bool
  | [] => true
  | .seq d :: ks => codeOk d && ksOk ks
  | _ :: ks => ksOk ks

def OutOk (P : Program) (E : Env) (Q : X → List T → Hp → Prop) (As : List (List T → Hp → Prop)) : Out → Prop
  | .again j fr H => ∃ A, As[j]? = some A ∧ A fr H
  | .done x fr H => Q x fr H
  | .loop j c ks fr H => Good P E (.loop c) fr H (postK P E Q ks (As.drop j))

def mdGood (P : Program) (E : Env) (fr : List T) (H : Hp) (R : X → List T → Hp → Prop) : Md → Prop
  | .code c => Good P E c fr H R
  | .out x => R x fr H

section
variable {P : Program} {D : Ed} {F : Fc} {Q : X → List T → Hp → Prop} {As : List (List T → Hp → Prop)}

theorem post_lp (ks : List Ki) (j : Nat) : postK P D.env Q (.lp :: ks) (As.drop j) = exitThen (fun fr H => ∃ A, As[j]? = some A ∧ A fr H) (postK P D.env Q ks (As.drop (j + 1))) := by
  by_cases h : j < As.length
  · rw [List.drop_eq_getElem_cons h]
    simp only [postK]
    have e : (fun fr H => ∃ A, As[j]? = some A ∧ A fr H) = As[j] := by
      funext fr H
      rw [List.getElem?_eq_getElem h]
      simp
    rw [e]
  · rw [List.drop_of_length_le (by omega), List.drop_of_length_le (by omega)]
    simp only [postK]
    congr 1
    funext fr H
    rw [List.getElem?_eq_none (by omega)]
    simp

theorem good_leaf (hm : P.follows .mixedOrders = true) (hE : PeOk P D.gl D.env.pe) (hF : EeOk P D.gl F.ee) {c : Code} (hok : codeOk c = true) {fr fr' : List T} {H H' : Hp} {x : X} {ds log ds' log' : List Bool}
    (h : evalCodeD P D F c fr H ds log = .ok (x, fr', H') ds' log') (hl : allT log' = true) {R : X → List T → Hp → Prop} (hR : R x fr' H') : Good P D.env c fr H R := by
  intro g0 g H0 a hc K hK
  exact code_ok hm hE hF 0 c fr H x fr' H' hok (codeD_ok 0 h hl).1 g0 g H0 a hc K (fun a' g' hc' => hK x fr' H' a' g' hR hc')

theorem runK_ok (hm : P.follows .mixedOrders = true) (hE : PeOk P D.gl D.env.pe) (hF : EeOk P D.gl F.ee) : ∀ (n : Nat) (m : Md) (ks : List Ki) (j : Nat) (fr : List T) (H : Hp) (ds log : List Bool) (o : Out) (ds' log' : List Bool),
    runK P D F n m ks j fr H ds log = .ok o ds' log' → allT log' = true → mdOk m = true → ksOk ks = true → allT log = true ∧ (OutOk P D.env Q As o → mdGood P D.env fr H (postK P D.env Q ks (As.drop j)) m) := by
  intro n
  induction n with
  | zero => intro m ks j fr H ds log o ds' log' h; simp [runK] at h
  | succ n ih =>
    intro m ks j fr H ds log o ds' log' h hl hmo hko
    cases m with
    | out x =>
      cases ks with
      | nil => simp only [runK] at h; cases h; exact ⟨hl, fun q => q⟩
      | cons k ks =>
        cases x with
        | normal => cases k with
          | seq d =>
            simp only [runK] at h
            simp only [ksOk, Bool.and_eq_true] at hko
            obtain ⟨a, b⟩ := ih _ _ _ _ _ _ _ _ _ _ h hl hko.1 hko.2
            exact ⟨a, fun q => b q⟩
          | blk id =>
            simp only [runK] at h
            obtain ⟨a, b⟩ := ih _ _ _ _ _ _ _ _ _ _ h hl rfl hko
            exact ⟨a, fun q => b q⟩
          | lp =>
            simp only [runK] at h; cases h
            refine ⟨hl, fun q => ?_⟩
            simp only [mdGood, post_lp]
            exact q
        | exit id => cases k with
          | seq d =>
            simp only [runK] at h
            simp only [ksOk, Bool.and_eq_true] at hko
            obtain ⟨a, b⟩ := ih _ _ _ _ _ _ _ _ _ _ h hl rfl hko.2
            exact ⟨a, fun q => b q⟩
          | blk id' =>
            simp only [runK] at h
            split at h
            · rename_i e
              obtain ⟨a, b⟩ := ih _ _ _ _ _ _ _ _ _ _ h hl rfl hko
              refine ⟨a, fun q => ?_⟩
              simp only [mdGood, postK, exitBlock, if_pos e]; exact b q
            · rename_i e
              obtain ⟨a, b⟩ := ih _ _ _ _ _ _ _ _ _ _ h hl rfl hko
              refine ⟨a, fun q => ?_⟩
              simp only [mdGood, postK, exitBlock, if_neg e]; exact b q
          | lp =>
            simp only [runK] at h
            obtain ⟨a, b⟩ := ih _ _ _ _ _ _ _ _ _ _ h hl rfl hko
            refine ⟨a, fun q => ?_⟩
            simp only [mdGood, post_lp]; exact b q
        | ret => cases k with
          | seq d =>
            simp only [runK] at h
            simp only [ksOk, Bool.and_eq_true] at hko
            obtain ⟨a, b⟩ := ih _ _ _ _ _ _ _ _ _ _ h hl rfl hko.2
            exact ⟨a, fun q => b q⟩
          | blk id' =>
            simp only [runK] at h
            obtain ⟨a, b⟩ := ih _ _ _ _ _ _ _ _ _ _ h hl rfl hko
            exact ⟨a, fun q => b q⟩
          | lp =>
            simp only [runK] at h
            obtain ⟨a, b⟩ := ih _ _ _ _ _ _ _ _ _ _ h hl rfl hko
            refine ⟨a, fun q => ?_⟩
            simp only [mdGood, post_lp]; exact b q
    | code c =>
      simp only [mdOk] at hmo
      have leaf : ∀ {c : Code}, codeOk c = true → (match evalCodeD P D F c fr H ds log with
          | .ok (x, fr', H') ds' log' => runK P D F n (.out x) ks j fr' H' ds' log'
          | .need t l => .need t l
          | .fail m => .fail m) = RD.ok o ds' log' → allT log = true ∧ (OutOk P D.env Q As o → Good P D.env c fr H (postK P D.env Q ks (As.drop j))) := by
        intro c hc h
        split at h
        · rename_i x fr1 H1 ds1 log1 hr
          obtain ⟨a, b⟩ := ih _ _ _ _ _ _ _ _ _ _ h hl rfl hko
          exact ⟨(codeD_ok 0 hr a).2, fun q => good_leaf hm hE hF hc hr a (b q)⟩
        · cases h
        · cases h
      cases c with
      | seq a b =>
        simp only [runK] at h
        simp only [codeOk, Bool.and_eq_true] at hmo
        obtain ⟨p, q⟩ := ih _ _ _ _ _ _ _ _ _ _ h hl (by exact hmo.1) (by simp only [ksOk, Bool.and_eq_true]; exact ⟨hmo.2, hko⟩)
        exact ⟨p, fun r => good_seq (q r)⟩
      | block id c =>
        simp only [runK] at h
        obtain ⟨p, q⟩ := ih _ _ _ _ _ _ _ _ _ _ h hl (by exact hmo) (by exact hko)
        exact ⟨p, fun r => good_block (q r)⟩
      | scope c =>
        simp only [runK] at h
        obtain ⟨p, q⟩ := ih _ _ _ _ _ _ _ _ _ _ h hl (by exact hmo) hko
        exact ⟨p, fun r => good_scope (q r)⟩
      | loop c =>
        simp only [runK] at h
        cases h
        exact ⟨hl, fun q => q⟩
      | cond t a b =>
        simp only [runK] at h
        simp only [codeOk, Bool.and_eq_true] at hmo
        split at h
        · rename_i t' ht
          split at h
          · cases h
          · rename_i d ds1
            split at h
            · obtain ⟨p, q⟩ := ih _ _ _ _ _ _ _ _ _ _ h hl (by exact hmo.1) hko
              simp only [allT, Bool.and_eq_true] at p
              exact ⟨p.2, fun r => good_cond (E := D.env) ht (fun _ => q r) (fun e => by rw [p.1] at e; cases e)⟩
            · obtain ⟨p, q⟩ := ih _ _ _ _ _ _ _ _ _ _ h hl (by exact hmo.2) hko
              simp only [allT, Bool.and_eq_true, Bool.not_eq_true'] at p
              exact ⟨p.2, fun r => good_cond (E := D.env) ht (fun e => by rw [p.1] at e; cases e) (fun _ => q r)⟩
        · cases h
      | skip => simp only [runK] at h; exact leaf hmo h
      | label l => simp only [runK] at h; exact leaf hmo h
      | region id ops draw => simp only [runK] at h; exact leaf hmo h
      | exit id => simp only [runK] at h; exact leaf hmo h
      | ret => simp only [runK] at h; exact leaf hmo h
      | _ => simp only [runK] at h; exact leaf hmo h
end
end Go.Ps
