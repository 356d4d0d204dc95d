/- The ways, in the form in which they are used. -/
import Derived.Test.YtcndhbamkipifaaDoorPsW
namespace Go.Ps

/-- What stands under a walk: the program's rule of orders, the contracts of pure callees, and of object-changing ones. -/
structure Cx (P : Program) (D : Ed) (F : Fc) : Prop where
  hm : P.follows .mixedOrders = true
  hE : PeOk P D.gl D.env.pe
  hF : EeOk P D.gl F.ee

section
variable {P : Program} {D : Ed} {F : Fc} {As : List (List T → Hp → Prop)} {fn : Func} {k : Nat} {res : T} {keep : List Nat} {N : Nat} {c : Code} {ks : List Ki} {fr : List T} {H H' : Hp} {ds log : List Bool} {vs : List T} {len : Nat}

theorem Cx.done {r : Option T} (x : Cx P D F) (hc : codeOk c = true) (hk : ksOk ks = true)
    (h : outK P fn k keep (runK P D F N (.code c) ks 0 fr H ds []) = some (.done r, log, H', vs, len)) (hr : r = some res) (hl : allT log = true) : Good P D.env c fr H (postK P D.env (Ends P fn k res) ks As) :=
  way_done (m := .code c) x.hm x.hE x.hF hc hk h hr hl

theorem Cx.again (x : Cx P D F) (hc : codeOk c = true) (hk : ksOk ks = true) {Q : X → List T → Hp → Prop} {j : Nat}
    (h : outK P fn k keep (runK P D F N (.code c) ks 0 fr H ds []) = some (.again j, log, H', vs, len)) (hl : allT log = true) {A : List T → Hp → Prop} (hA : As[j]? = some A) (hq : ∀ fr', keep.map (getT fr') = vs → fr'.length = len → A fr' H') :
    Good P D.env c fr H (postK P D.env Q ks As) :=
  way_again (m := .code c) x.hm x.hE x.hF hc hk h hl hA hq

theorem Cx.loop (x : Cx P D F) (hc : codeOk c = true) (hk : ksOk ks = true) {Q : X → List T → Hp → Prop} {j : Nat} {c' : Code} {ks' : List Ki}
    (h : outK P fn k keep (runK P D F N (.code c) ks 0 fr H ds []) = some (.loop j c' ks', log, H', vs, len)) (hl : allT log = true) (hq : ∀ fr', keep.map (getT fr') = vs → fr'.length = len → Good P D.env (.loop c') fr' H' (postK P D.env Q ks' (As.drop j))) :
    Good P D.env c fr H (postK P D.env Q ks As) :=
  way_loop (m := .code c) x.hm x.hE x.hF hc hk h hl hq
end

theorem rdI_scal {g : G} {v : Value} {c : T} (hs : scal1 c = true) (h : Rd g v c) : RdI g v c := by
  cases h with
  | int k n => exact .int k n
  | bool b => exact .bool b
  | str s => exact .str s
  | nilp => exact .nilp
  | nils => exact .nils
  | nilf => exact .nilf
  | nili => exact .nili
  | nilm => exact .nilm
  | _ => simp [scal1] at hs

theorem scal1_cells {c : T} (hs : scal1 c = true) : c.cells = [c] := by cases c <;> simp [scal1] at hs <;> rfl

/-- A slice of plain values, its elements given by a function. -/
theorem rd_slf {g : G} {v : Value} {full : Bool} {xs : List T} {n : Nat} {f : Nat → T} (h : Rd g v (.sl full xs)) (hs : ∀ x ∈ xs, scal1 x = true) (hn : xs.length = n) (hf : ∀ i, i < n → xs[i]? = some (f i)) : Rd g v (.slf full n f) := by
  subst hn
  cases h with
  | sl _ _ sz b o cap vs h1 h2 h3 h4 h5 h6 h7 h8 =>
    refine .slf full xs.length f sz b o cap vs (fun q => h1 (fun e => q (by simp [e]))) (fun i hi => h2 _ (List.mem_of_getElem? (hf i hi))) h3 h4 h5 h6 h7 (fun i j u c hi hj hu hc => ?_)
    have hm := List.mem_of_getElem? (hf i hi)
    have hr := h8 _ u c hu (rows_at h2 (hf i hi) j c hc)
    rw [scal1_cells (hs _ hm)] at hc
    cases j with
    | zero => simp at hc; subst hc; exact rdI_scal (hs _ hm) hr
    | succ j => simp at hc

theorem rd_nslf {g : G} {v : Value} (full : Bool) (f : Nat → T) (h : Rd g v .nils) : Rd g v (.slf full 0 f) := by
  cases h; exact .slfn full f

theorem PureFn.mono {P : Program} {gl : Nat → Option T} {f : FuncId} {ts : List T} {r r' : T} (h : PureFn P gl f ts r) (k : ∀ g v, Rd g v r → Rd g v r') : PureFn P gl f ts r' :=
  ⟨h.1, fun g vs hg hN hgl hv => (h.2 g vs hg hN hgl hv).mono fun _ _ ⟨v, g', e1, e2, e3, e4, e5⟩ => ⟨v, g', e1, e2, e3, e4, k _ _ e5⟩⟩
end Go.Ps
