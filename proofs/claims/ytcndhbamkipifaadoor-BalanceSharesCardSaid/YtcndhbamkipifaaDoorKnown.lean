/- The example of the chapter: known() is true: a closed run. -/
import Derived.Test.YtcndhbamkipifaaDoorPsU
import Derived.Test.YtcndhbamkipifaaDoorShelf
import Derived.KernelRfl
namespace Go.Proofs
open Go.Ps

/-- The one package variable that the road reads. -/
def Tryd.gl : Nat → Option T := fun n => if n = 0 then some (.ref (.agg (Lib.pow10Tab.map (T.int .u64))) 0) else none

def Tryd.efK (f : FuncId) : Bool := [12, 25, 27].contains f
def Tryd.puK (f : FuncId) : Bool := [8, 9, 13, 14, 15, 16, 17, 18, 19, 29, 30, 32, 33, 34, 35, 36, 37, 38, 39, 40, 47, 48, 49, 50, 51, 52, 53, 54, 55, 56, 57, 58, 59, 60, 61, 62, 66].contains f
def Tryd.ownK (f : FuncId) (d : Tmp) : Bool := if f = 6 then d == 4 else if f = 12 then d == 0 || d == 22 else if f = 13 then d == 5 else if f = 40 then d == 1 || d == 2 else false
def Tryd.peK (f : FuncId) (ts : List T) : Option T := if f = 26 then itoaX ts else if f = 28 then joinX ts else none
def Tryd.eeK (f : FuncId) (ts : List T) (H : Hp) : Option (T × Hp) := if f = 45 then copyX 46 ts H else if f = 31 then strX 46 5 ts H else none
def Tryd.XK : Xt := Xt.mk Tryd.gl Tryd.peK Tryd.eeK Tryd.ownK Tryd.puK Tryd.efK 100 60

theorem Tryd.follows : Tryd.prog.follows .mixedOrders = true := by kernel_rfl

theorem Tryd.fnsK : ([6, 8, 9, 12, 13, 14, 15, 16, 17, 18, 19, 25, 27, 29, 30, 32, 33, 34, 35, 36, 37, 38, 39, 40, 47, 48, 49, 50, 51, 52, 53, 54, 55, 56, 57, 58, 59, 60, 61, 62, 66].all fun f => okFn Tryd.prog f && fnOk Tryd.prog f) = true := by kernel_rfl

theorem Tryd.glFrz : GlFrz Tryd.gl := by
  intro k t h
  unfold Tryd.gl at h
  split at h
  · cases h; exact ⟨5, by kernel_rfl⟩
  · cases h

theorem Tryd.tab {g : G} (hg : GlOk Tryd.gl g) (n : Int) (h0 : -9223372036854775808 ≤ n) (h1 : n ≤ 9223372036854775807) : Calls Tryd.prog 26 #[.int .i64 n] g.w fun e w' => e = .returned (.string ⟨(Lib.itoa n).toArray⟩) ∧ ∃ k os, w' = Sort.grow (g.w.drewN k) os := by
  refine Any.strconv_Itoa Tryd.laysM171 n h0 h1 g.w ?_
  obtain ⟨e, fz, h⟩ := tab_of (hg 0 _ rfl)
  unfold Lib.TabIs World.var?
  rw [show Tryd.prog.globalNamed _ = some 0 by kernel_rfl]
  simp only [Option.bind_some, h]

theorem Tryd.pcK : PcOk Tryd.prog Tryd.gl Tryd.peK := by
  intro f ts r h
  unfold Tryd.peK at h
  have key : PureFn Tryd.prog Tryd.gl f ts r := by
    split at h
    · rename_i e; subst e
      exact itoa_pc (ρ := Tryd.laysM171_ren) (by kernel_rfl) (fun g hg n h0 h1 => Tryd.tab hg n h0 h1) ts r h
    · split at h
      · rename_i e; subst e
        exact join_pc Tryd.lays156 Tryd.Builder_Extra_156 (by kernel_rfl) ts r h
      · cases h
  exact ⟨key.1, fun g vs hg hal => key.2 g vs hg ⟨0, fun l _ => hal l⟩⟩

theorem Tryd.eoK : EeOk Tryd.prog Tryd.gl Tryd.eeK := by
  intro f ts H r H' h
  unfold Tryd.eeK at h
  split at h
  · rename_i e; subst e
    exact copy_ee (ρ := Tryd.lays156_ren) { Tryd.lays156 with } Tryd.Builder_Extra_156.toX72 (by kernel_rfl) h
  · split at h
    · rename_i e; subst e
      exact str_ee (ρ := Tryd.lays156_ren) { Tryd.lays156 with } Tryd.Builder_Extra_156 (by kernel_rfl) h
    · cases h

theorem Tryd.okK (f : FuncId) (h : f ∈ [6, 8, 9, 12, 13, 14, 15, 16, 17, 18, 19, 25, 27, 29, 30, 32, 33, 34, 35, 36, 37, 38, 39, 40, 47, 48, 49, 50, 51, 52, 53, 54, 55, 56, 57, 58, 59, 60, 61, 62, 66]) : okFn Tryd.prog f = true ∧ fnOk Tryd.prog f = true := by
  have := List.all_eq_true.1 Tryd.fnsK f h
  simpa using this

theorem Tryd.knownRuns (d : Nat) : PcOk Tryd.prog Tryd.gl (runP Tryd.prog Tryd.XK d).1 ∧ EeOk Tryd.prog Tryd.gl (runP Tryd.prog Tryd.XK d).2 := by
  refine runP_ok (X := Tryd.XK) Tryd.follows (fun f h => Tryd.okK f ?_) (fun f h => Tryd.okK f ?_) Tryd.glFrz Tryd.pcK Tryd.eoK d
  · have : f ∈ [8, 9, 13, 14, 15, 16, 17, 18, 19, 29, 30, 32, 33, 34, 35, 36, 37, 38, 39, 40, 47, 48, 49, 50, 51, 52, 53, 54, 55, 56, 57, 58, 59, 60, 61, 62, 66] := List.contains_iff_mem.1 h
    exact List.contains_iff_mem.1 (List.all_eq_true.1 (show (List.all _ fun f => List.contains [6, 8, 9, 12, 13, 14, 15, 16, 17, 18, 19, 25, 27, 29, 30, 32, 33, 34, 35, 36, 37, 38, 39, 40, 47, 48, 49, 50, 51, 52, 53, 54, 55, 56, 57, 58, 59, 60, 61, 62, 66] f) = true by kernel_rfl) f this)
  · have : f ∈ [12, 25, 27] := List.contains_iff_mem.1 h
    exact List.contains_iff_mem.1 (List.all_eq_true.1 (show (List.all _ fun f => List.contains [6, 8, 9, 12, 13, 14, 15, 16, 17, 18, 19, 25, 27, 29, 30, 32, 33, 34, 35, 36, 37, 38, 39, 40, 47, 48, 49, 50, 51, 52, 53, 54, 55, 56, 57, 58, 59, 60, 61, 62, 66] f) = true by kernel_rfl) f this)

theorem Tryd.known_run : pureT Tryd.prog ⟨Tryd.gl, lend 60 (runP Tryd.prog Tryd.XK 11).1⟩ ⟨Tryd.ownK 6, (runP Tryd.prog Tryd.XK 11).2⟩ 100 60 6 [] = some (.bool true) := by kernel_rfl

/-- known() returns true, whatever there is. -/
theorem Tryd.known_ok : PureFn Tryd.prog Tryd.gl 6 [] (.bool true) := by
  have hk := Tryd.okK 6 (by decide)
  refine ⟨hk.1, fun g vs hg hN hgl hv => ?_⟩
  have hl : vs = [] := List.eq_nil_of_length_eq_zero (by simpa using hv.1)
  subst hl
  have hb : GlOk Tryd.gl g.bare := by
    obtain ⟨N, hN⟩ := hN
    have hs : St g ⟨N, []⟩ := ⟨fun l o ho => by simp [Hp.get, findOb] at ho, fun l l' o o' ho => by simp [Hp.get, findOb] at ho, hN⟩
    have := GlOk.frz (g0 := g.bare) Tryd.glFrz hs hgl
    rw [frz_nil] at this
    exact this
  refine (pureT_ok (E := ⟨Tryd.gl, lend 60 (runP Tryd.prog Tryd.XK 11).1⟩) (F := ⟨Tryd.ownK 6, (runP Tryd.prog Tryd.XK 11).2⟩) Tryd.follows (lend_ok Tryd.glFrz (Tryd.knownRuns 11).1) (Tryd.knownRuns 11).2 hk.2 Tryd.known_run g.bare [] hg (fun _ q => q) hb RdL.nil).mono fun e w' ⟨v, g', e1, e2, e3, e4, e5⟩ => ?_
  refine ⟨v, { w := g'.w, S := g'.S, al := g.al, loc := g.loc, cp := g.cp }, e1, e2, ⟨e3.os, e3.tape, e3.output, e3.size, e3.block, e3.sub, e3.fresh, rfl, rfl, rfl⟩, e4, ?_⟩
  exact scal_rd rfl e5

end Go.Proofs
