/- What is known of calls in layer 24. -/
import Derived.Test.YtkbnhccfnimibaaGreatDoorRsParse
namespace Go.Proofs.YtkbnhccfnimibaaGreatDoor
set_option linter.unusedVariables false
set_option linter.unusedSimpArgs false
open Go.RowKit Go.Rx

def px (l : List UInt8) : Option Ret := match eqL l txtS with
  | true => some retS
  | false => match l.drop 22 with
    | d :: _ => fN (d.toNat - 48) fun k => match Nat.ble 1 k with
      | true => match Nat.ble k 9 with
        | true => match eqL l (txtI k) with
          | true => some (retI k)
          | false => none
        | false => none
      | false => none
    | [] => none
theorem runI {k : Nat} (h1 : 1 ≤ k) (h2 : k ≤ 9) : fitRet 10 (retI k) (readRun (txtI k)) = true := by
  have : k = 1 ∨ k = 2 ∨ k = 3 ∨ k = 4 ∨ k = 5 ∨ k = 6 ∨ k = 7 ∨ k = 8 ∨ k = 9 := by omega
  rcases this with e | e | e | e | e | e | e | e | e <;> rw [e]
  · exact runI1
  · exact runI2
  · exact runI3
  · exact runI4
  · exact runI5
  · exact runI6
  · exact runI7
  · exact runI8
  · exact runI9
theorem px_some {l : List UInt8} {R : Ret} (h : px l = some R) : fitRet 10 R (readRun l) = true := by
  unfold px at h
  split at h
  · rename_i h1
    rw [eqL_eq] at h1
    cases h
    rw [eq_of_beq h1]
    exact runS
  · split at h
    case h_2 => cases h
    case h_1 =>
      rw [fN_eq] at h
      split at h
      case h_2 => cases h
      case h_1 h1 =>
        split at h
        case h_2 => cases h
        case h_1 h2 =>
          split at h
          case h_2 => cases h
          case h_1 h3 =>
            rw [eqL_eq] at h3
            have h3 := eq_of_beq h3
            cases h
            rw [h3]
            exact runI (Nat.le_of_ble_eq_true h1) (Nat.le_of_ble_eq_true h2)
def kfn1 (f : FuncId) : Option (List Value → Option Ret) := match f with
  | 66 => some fun
    | [.string a] => px a.data.toList
    | _ => none
  | f => kfn0 f
theorem kfn1_ok (f : FuncId) (g : List Value → Option Ret) (h : kfn1 f = some g) (args : List Value) (R : Ret) (hR : g args = some R) : plainL args = true ∧ (∀ (k k' i : Nat) (o o' : AObj), R.objs[k]? = some (i, o) → R.objs[k']? = some (i, o') → k = k') ∧
    ∀ w : World, SAt w → 10 ≤ w.heap.size →
      ((callFunc f ⟨args⟩).run Tryz.prog w = .ok (.value R.v) w ∧ R.objs = [] ∧ plainL (cellsOf R.v) = true) ∨
      ((callFunc f ⟨args⟩).run Tryz.prog w = .ok (.enter f ⟨args⟩) w ∧ Calls Tryz.prog f ⟨args⟩ w fun e w' => ∃ ρ' h' v', e = .returned v' ∧ Rel 10 w.heap.size w ρ' h' w' ∧ VRel ρ' R.v v' ∧ ∀ (k i : Nat) (o : AObj), R.objs[k]? = some (i, o) → 10 ≤ i ∧ h'.get i = some o) := by
  unfold kfn1 at h
  split at h
  · cases h
    dsimp only at hR
    split at hR
    case h_2 => cases hR
    case h_1 a =>
      have hp := px_some hR
      refine ⟨rfl, fit_inj hp, fun w hE _ => .inr ⟨enters_of Tryz.func66 (by kernel_rfl) rfl _ _, ?_⟩⟩
      exact (known_of_run (K := known0) fit (k := 4000) hE.max (rel0 hE) rfl hp).2 (enters_of Tryz.func66 (by kernel_rfl) rfl _ _)
  · obtain ⟨h1, h2, h3⟩ := kfn0_ok _ g h args R hR
    exact ⟨h1, h2, fun w hE hn => h3 w hE.max hn⟩
def known1 : Known Tryz.prog 10 := ⟨SAt, SAt.still, kfn1, kfn1_ok, kid, kid_ok⟩
end Go.Proofs.YtkbnhccfnimibaaGreatDoor
