/- sanity of layer 24 holds; what is known of calls from then on. -/
import Derived.Test.YtkbnhccfnimibaaGreatDoorRsKnown
namespace Go.Proofs.YtkbnhccfnimibaaGreatDoor
set_option linter.unusedVariables false
set_option linter.unusedSimpArgs false
open Go.RowKit Go.Rx

def retT : Ret := ⟨[], .bool true⟩
noncomputable def sanRun : Option (Value × St) := ((exeZ Tryz.prog 10 known1 4000).1.run 7 []).run ⟨10, H0, 0, 0⟩
set_option maxRecDepth 1000000
theorem runSan : fitRet 10 retT sanRun = true := by kernel_rfl
def kfn2 (f : FuncId) : Option (List Value → Option Ret) := match f with
  | 7 => some fun
    | [] => some retT
    | _ => none
  | f => kfn1 f
theorem kfn2_ok (f : FuncId) (g : List Value → Option Ret) (h : kfn2 f = some g) (args : List Value) (R : Ret) (hR : g args = some R) : plainL args = true ∧ (∀ (k k' i : Nat) (o o' : AObj), R.objs[k]? = some (i, o) → R.objs[k']? = some (i, o') → k = k') ∧
    ∀ w : World, SAt w → 10 ≤ w.heap.size →
      ((callFunc f ⟨args⟩).run Tryz.prog w = .ok (.value R.v) w ∧ R.objs = [] ∧ plainL (cellsOf R.v) = true) ∨
      ((callFunc f ⟨args⟩).run Tryz.prog w = .ok (.enter f ⟨args⟩) w ∧ Calls Tryz.prog f ⟨args⟩ w fun e w' => ∃ ρ' h' v', e = .returned v' ∧ Rel 10 w.heap.size w ρ' h' w' ∧ VRel ρ' R.v v' ∧ ∀ (k i : Nat) (o : AObj), R.objs[k]? = some (i, o) → 10 ≤ i ∧ h'.get i = some o) := by
  unfold kfn2 at h
  split at h
  · cases h
    dsimp only at hR
    split at hR
    case h_2 => cases hR
    case h_1 =>
      cases hR
      have hp := runSan
      refine ⟨rfl, fit_inj hp, fun w hE _ => .inr ⟨enters_of Tryz.func7 (by kernel_rfl) rfl _ _, ?_⟩⟩
      exact (known_of_run (K := known1) fit (k := 4000) hE (rel0 hE) rfl hp).2 (enters_of Tryz.func7 (by kernel_rfl) rfl _ _)
  · exact kfn1_ok _ g h args R hR
def known2 : Known Tryz.prog 10 := ⟨SAt, SAt.still, kfn2, kfn2_ok, kid, kid_ok⟩
end Go.Proofs.YtkbnhccfnimibaaGreatDoor
