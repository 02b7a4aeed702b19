/- Layer 20: the ground of the runs; the sanity check by a run. -/
import Derived.Test.YtpfjakcfjpgbmaaGreatDoorRxJ
import Derived.Test.YtpfjakcfjpgbmaaGreatDoorProg
import Derived.Test.YtpfjakcfjpgbmaaGreatDoorEnBase
import Derived.Defers
import Derived.Shelf.Abstract
import Derived.Lib.Hide
namespace Go.Proofs.YtpfjakcfjpgbmaaGreatDoor
set_option linter.unusedVariables false
set_option linter.unusedSimpArgs false
open Go.RowKit Go.Rx

theorem fit : Fit Tryz.prog := ⟨by kernel_rfl, fun f fn hf hb he => by
  have h : Tryz.prog.funcs.toList.all (fun fn => !fn.body.isSome || !(fn.name == "runtime.NumGoroutine")) = true := by kernel_rfl
  have := List.all_eq_true.1 h fn (List.mem_of_getElem? (by rw [Array.getElem?_toList]; exact hf))
  simp [hb, he] at this⟩
def KindsIs (w : World) : Prop := w.var? Tryz.prog "vintner/value.kinds" = some #[.func (.func 333) #[] #[], .func (.func 334) #[] #[], .func (.func 336) #[] #[]]
/-- what the laws of this layer want of the variables -/
structure KAt (w : World) : Prop where
  kinds : KindsIs w
  size : 12 ≤ w.heap.size
theorem KAt.still (w w' : World) (h : ∀ i, i < 12 → w'.heap[i]? = w.heap[i]?) (e : KAt w) : KAt w' := by
  obtain ⟨h3, h4⟩ := e
  refine ⟨?_, ?_⟩
  · unfold KindsIs World.var? at h3 ⊢
    rw [show Tryz.prog.globalNamed "vintner/value.kinds" = some 0 by kernel_rfl] at h3 ⊢
    simp only [Option.bind_some] at h3 ⊢
    rw [h _ (by decide)]
    exact h3
  · have h5 := h 11 (by decide)
    obtain ⟨x, hx⟩ : ∃ x, w.heap[11]? = some x := ⟨_, Array.getElem?_eq_getElem (by omega)⟩
    rw [hx] at h5
    have := (Array.getElem?_eq_some_iff.1 h5).1
    omega
def known0 : Known Tryz.prog 12 := ⟨KAt, KAt.still, fun _ => none, fun _ _ h => (by cases h), fun _ => none, fun _ _ h => (by cases h)⟩
noncomputable def H0 : T AObj := T.set .e 0 (.cells [.func (.func 333) ⟨[]⟩ ⟨[]⟩, .func (.func 334) ⟨[]⟩ ⟨[]⟩, .func (.func 336) ⟨[]⟩ ⟨[]⟩] 268 0 3 none)
def ren0 : Ren := fun g => if g < 12 then some ⟨g, 0, 3, none⟩ else none
theorem H0_get (i : Nat) : H0.get i = if 0 = i then some (.cells [.func (.func 333) ⟨[]⟩ ⟨[]⟩, .func (.func 334) ⟨[]⟩ ⟨[]⟩, .func (.func 336) ⟨[]⟩ ⟨[]⟩] 268 0 3 none) else none := by
  unfold H0
  rw [T.get_set, T.get_e]
theorem rel0 {w : World} (h : KAt w) : Rel 12 w.heap.size w ren0 H0 w where
  glob g hg := ⟨_, if_pos hg, rfl, rfl⟩
  obj i o e := by
    rw [H0_get] at e
    split at e
    · rename_i hi
      cases e
      subst hi
      refine ⟨_, if_pos (by decide), rfl, ?_⟩
      have hk := h.kinds
      unfold KindsIs World.var? at hk
      rw [show Tryz.prog.globalNamed "vintner/value.kinds" = some 0 by kernel_rfl] at hk
      simp only [Option.bind_some] at hk
      split at hk
      case h_2 => cases hk
      case h_1 cs t fr hb =>
        cases hk
        refine ⟨_, _, _, hb, rfl, rfl, fun _ => ⟨rfl, rfl⟩, by decide, ?_, fun j _ _ _ h4 => ⟨Nat.zero_le _, h4⟩⟩
        exact .cons (.func _ .nil .nil) (.cons (.func _ .nil .nil) (.cons (.func _ .nil .nil) .nil))
    · cases e
  apart i j oi oj Li Lj _ _ _ _ h1 h2 hb := by
    unfold ren0 at h1 h2
    split at h1
    · split at h2
      · cases h1; cases h2; exact .inl hb
      · cases h2
    · cases h1
  new i hi _ := if_neg (by omega)
  fresh i o L _ _ hi e := by
    unfold ren0 at e
    rw [if_neg (by omega)] at e
    cases e
  low _ _ := rfl
  b0le := Nat.le_refl _
  n0le := h.size
  os := rfl
  out := rfl
def retT : Ret := ⟨[], .bool true⟩
noncomputable def sanRun : Option (Value × St) := ((exeZ Tryz.prog 12 known0 4000).1.run 14 []).run ⟨12, H0, 0, 0⟩
set_option maxRecDepth 1000000
theorem runSan : fitRet 12 retT sanRun = true := by kernel_rfl
def kfn1 (f : FuncId) : Option (List Value → Option Ret) := match f with
  | 14 => some fun
    | [] => some retT
    | _ => none
  | _ => none
theorem kfn1_ok (f : FuncId) (g : List Value → Option Ret) (h : kfn1 f = some g) (args : List Value) (R : Ret) (hR : g args = some R) : plainL args = true ∧ (∀ (k k' i : Nat) (o o' : AObj), R.objs[k]? = some (i, o) → R.objs[k']? = some (i, o') → k = k') ∧
    ∀ w : World, KAt w → 12 ≤ w.heap.size →
      ((callFunc f ⟨args⟩).run Tryz.prog w = .ok (.value R.v) w ∧ R.objs = [] ∧ plainL (cellsOf R.v) = true) ∨
      ((callFunc f ⟨args⟩).run Tryz.prog w = .ok (.enter f ⟨args⟩) w ∧ Calls Tryz.prog f ⟨args⟩ w fun e w' => ∃ ρ' h' v', e = .returned v' ∧ Rel 12 w.heap.size w ρ' h' w' ∧ VRel ρ' R.v v' ∧ ∀ (k i : Nat) (o : AObj), R.objs[k]? = some (i, o) → 12 ≤ i ∧ h'.get i = some o) := by
  unfold kfn1 at h
  split at h
  · cases h
    dsimp only at hR
    split at hR
    case h_2 => cases hR
    case h_1 =>
      cases hR
      have hp := runSan
      refine ⟨rfl, fit_inj hp, fun w hE _ => .inr ⟨enters_of Tryz.func14 (by kernel_rfl) rfl _ _, ?_⟩⟩
      exact (known_of_run (K := known0) fit (k := 4000) hE (rel0 hE) rfl hp).2 (enters_of Tryz.func14 (by kernel_rfl) rfl _ _)
  · cases h
def known1 : Known Tryz.prog 12 := ⟨KAt, KAt.still, kfn1, kfn1_ok, fun _ => none, fun _ _ h => (by cases h)⟩
end Go.Proofs.YtpfjakcfjpgbmaaGreatDoor
