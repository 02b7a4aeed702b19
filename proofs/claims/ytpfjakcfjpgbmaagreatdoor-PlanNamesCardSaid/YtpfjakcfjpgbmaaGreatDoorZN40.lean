/- What is known of calls in PlanNames: the texts read, sanity. -/
import Derived.Test.YtpfjakcfjpgbmaaGreatDoorZN28
import Derived.Test.YtpfjakcfjpgbmaaGreatDoorZN29
import Derived.Test.YtpfjakcfjpgbmaaGreatDoorZN30
import Derived.Test.YtpfjakcfjpgbmaaGreatDoorZN31
import Derived.Test.YtpfjakcfjpgbmaaGreatDoorZN32
import Derived.Test.YtpfjakcfjpgbmaaGreatDoorZN33
import Derived.Test.YtpfjakcfjpgbmaaGreatDoorZN34
import Derived.Test.YtpfjakcfjpgbmaaGreatDoorZN35
import Derived.Test.YtpfjakcfjpgbmaaGreatDoorZN36
import Derived.Test.YtpfjakcfjpgbmaaGreatDoorZN37
import Derived.Test.YtpfjakcfjpgbmaaGreatDoorZN38
import Derived.Test.YtpfjakcfjpgbmaaGreatDoorZN39
namespace Go.Proofs.YtpfjakcfjpgbmaaGreatDoor
set_option linter.unusedVariables false
set_option linter.unusedSimpArgs false
open Go.RowKit Go.Rx

theorem pA_all {x y z : Nat} (hx : x < 6) (hy : y < 6) (hz : z < 6) : fitRet 12 (retA x y z) (readRun (txA x y z)) = true := by
  rcases six hx with rfl | rfl | rfl | rfl | rfl | rfl
  · exact pA0 hy hz
  · exact pA1 hy hz
  · exact pA2 hy hz
  · exact pA3 hy hz
  · exact pA4 hy hz
  · exact pA5 hy hz
theorem pJ_all {x y z : Nat} (hx : x < 6) (hy : y < 6) (hz : z < 6) : fitRet 12 (retJ x y z) (readRun (txJ x y z)) = true := by
  rcases six hx with rfl | rfl | rfl | rfl | rfl | rfl
  · exact pJ0 hy hz
  · exact pJ1 hy hz
  · exact pJ2 hy hz
  · exact pJ3 hy hz
  · exact pJ4 hy hz
  · exact pJ5 hy hz
/-- a name's number -/
def n6 (l : List UInt8) (i : Nat) : Nat := match l.drop i with
  | b :: _ => b.toNat - 97
  | [] => 6
def lt6 (k : Nat) : Bool := Nat.ble k 5
def pxS (tx : Nat → Nat → Nat → List UInt8) (ret : Nat → Nat → Nat → Ret) (l : List UInt8) (i j k : Nat) : Option Ret := fN (n6 l i) fun x => fN (n6 l j) fun y => fN (n6 l k) fun z => match lt6 x with
  | true => match lt6 y with
    | true => match lt6 z with
      | true => match eqL l (tx x y z) with
        | true => some (ret x y z)
        | false => none
      | false => none
    | false => none
  | false => none
theorem pxS_some {tx : Nat → Nat → Nat → List UInt8} {ret : Nat → Nat → Nat → Ret} (hall : ∀ {x y z : Nat}, x < 6 → y < 6 → z < 6 → fitRet 12 (ret x y z) (readRun (tx x y z)) = true) {l : List UInt8} {i j k : Nat} {R : Ret} (h : pxS tx ret l i j k = some R) : fitRet 12 R (readRun l) = true := by
  unfold pxS at h
  rw [fN_eq, fN_eq, fN_eq] at h
  split at h
  case h_2 => cases h
  case h_1 h1 =>
    split at h
    case h_2 => cases h
    case h_1 h2 =>
      split at h
      case h_2 => cases h
      case h_1 h3 =>
        split at h
        case h_2 => cases h
        case h_1 h4 =>
          rw [eqL_eq] at h4
          have h4 := eq_of_beq h4
          cases h
          have e1 := Nat.le_of_ble_eq_true h1
          have e2 := Nat.le_of_ble_eq_true h2
          have e3 := Nat.le_of_ble_eq_true h3
          have := hall (x := n6 l i) (y := n6 l j) (z := n6 l k) (by omega) (by omega) (by omega)
          rw [← h4] at this
          exact this
def px (l : List UInt8) : Option Ret := match eqL l txF0 with
  | true => some retF0
  | false => match eqL l txF1 with
    | true => some retF1
    | false => match eqL l txF2 with
      | true => some retF2
      | false => match eqL l txF3 with
        | true => some retF3
        | false => match Nat.beq l.length 38 with
          | true => pxS txA retA l 7 22 37
          | false => pxS txJ retJ l 7 38 53
theorem px_some {l : List UInt8} {R : Ret} (h : px l = some R) : fitRet 12 R (readRun l) = true := by
  unfold px at h
  split at h
  · rename_i h1
    rw [eqL_eq] at h1
    cases h
    rw [eq_of_beq h1]
    exact runF0
  · split at h
    · rename_i h1
      rw [eqL_eq] at h1
      cases h
      rw [eq_of_beq h1]
      exact runF1
    · split at h
      · rename_i h1
        rw [eqL_eq] at h1
        cases h
        rw [eq_of_beq h1]
        exact runF2
      · split at h
        · rename_i h1
          rw [eqL_eq] at h1
          cases h
          rw [eq_of_beq h1]
          exact runF3
        · split at h
          · exact pxS_some pA_all h
          · exact pxS_some pJ_all h
def kfn2 (f : FuncId) : Option (List Value → Option Ret) := match f with
  | 8 => some fun
    | [.string a] => px a.data.toList
    | _ => none
  | f => kfn1 f
theorem kfn2_ok (f : FuncId) (g : List Value → Option Ret) (h : kfn2 f = some g) (args : List Value) (R : Ret) (hR : g args = some R) : plainL args = true ∧ (∀ (k k' i : Nat) (o o' : AObj), R.objs[k]? = some (i, o) → R.objs[k']? = some (i, o') → k = k') ∧
    ∀ w : World, SAt w → 12 ≤ w.heap.size →
      ((callFunc f ⟨args⟩).run Tryz.prog w = .ok (.value R.v) w ∧ R.objs = [] ∧ plainL (cellsOf R.v) = true) ∨
      ((callFunc f ⟨args⟩).run Tryz.prog w = .ok (.enter f ⟨args⟩) w ∧ Calls Tryz.prog f ⟨args⟩ w fun e w' => ∃ ρ' h' v', e = .returned v' ∧ Rel 12 w.heap.size w ρ' h' w' ∧ VRel ρ' R.v v' ∧ ∀ (k i : Nat) (o : AObj), R.objs[k]? = some (i, o) → 12 ≤ i ∧ h'.get i = some o) := by
  unfold kfn2 at h
  split at h
  · cases h
    dsimp only at hR
    split at hR
    case h_2 => cases hR
    case h_1 a =>
      have hp := px_some hR
      refine ⟨rfl, fit_inj hp, fun w hE _ => .inr ⟨enters_of Tryz.func8 (by kernel_rfl) rfl _ _, ?_⟩⟩
      exact (known_of_run (K := known1) fit (k := 4000) hE (rel0 hE) rfl hp).2 (enters_of Tryz.func8 (by kernel_rfl) rfl _ _)
  · obtain ⟨h1, h2, h3⟩ := kfn1_ok _ g h args R hR
    exact ⟨h1, h2, h3⟩
noncomputable def known2 : Known Tryz.prog 12 := ⟨SAt, SAt.still, kfn2, kfn2_ok, kid, kid_ok, opN, opN_ok⟩
def retT : Ret := ⟨[], .bool true⟩
noncomputable def sanRun : Option (Value × St) := ((exeZ Tryz.prog 12 known2 4000).1.run 6 []).run ⟨12, H0, 0, 0⟩
set_option maxRecDepth 1000000
theorem runSan : fitRet 12 retT sanRun = true := by kernel_rfl
def kfn3 (f : FuncId) : Option (List Value → Option Ret) := match f with
  | 6 => some fun
    | [] => some retT
    | _ => none
  | f => kfn2 f
theorem kfn3_ok (f : FuncId) (g : List Value → Option Ret) (h : kfn3 f = some g) (args : List Value) (R : Ret) (hR : g args = some R) : plainL args = true ∧ (∀ (k k' i : Nat) (o o' : AObj), R.objs[k]? = some (i, o) → R.objs[k']? = some (i, o') → k = k') ∧
    ∀ w : World, SAt w → 12 ≤ w.heap.size →
      ((callFunc f ⟨args⟩).run Tryz.prog w = .ok (.value R.v) w ∧ R.objs = [] ∧ plainL (cellsOf R.v) = true) ∨
      ((callFunc f ⟨args⟩).run Tryz.prog w = .ok (.enter f ⟨args⟩) w ∧ Calls Tryz.prog f ⟨args⟩ w fun e w' => ∃ ρ' h' v', e = .returned v' ∧ Rel 12 w.heap.size w ρ' h' w' ∧ VRel ρ' R.v v' ∧ ∀ (k i : Nat) (o : AObj), R.objs[k]? = some (i, o) → 12 ≤ i ∧ h'.get i = some o) := by
  unfold kfn3 at h
  split at h
  · cases h
    dsimp only at hR
    split at hR
    case h_2 => cases hR
    case h_1 =>
      cases hR
      have hp := runSan
      refine ⟨rfl, fit_inj hp, fun w hE _ => .inr ⟨enters_of Tryz.func6 (by kernel_rfl) rfl _ _, ?_⟩⟩
      exact (known_of_run (K := known2) fit (k := 4000) hE (rel0 hE) rfl hp).2 (enters_of Tryz.func6 (by kernel_rfl) rfl _ _)
  · exact kfn2_ok _ g h args R hR
noncomputable def known3 : Known Tryz.prog 12 := ⟨SAt, SAt.still, kfn3, kfn3_ok, kid, kid_ok, opN, opN_ok⟩
end Go.Proofs.YtpfjakcfjpgbmaaGreatDoor
