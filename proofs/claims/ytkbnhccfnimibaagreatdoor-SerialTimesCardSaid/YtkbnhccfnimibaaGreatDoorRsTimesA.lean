/- SerialTimes: runs. -/
import Derived.Test.YtkbnhccfnimibaaGreatDoorRsTimes
namespace Go.Proofs.YtkbnhccfnimibaaGreatDoor
set_option linter.unusedVariables false
set_option linter.unusedSimpArgs false
open Go.RowKit Go.Rx
set_option maxRecDepth 1000000
theorem times_mid0 (n k : Nat) : (timesMid 0 n k).bind (fun p => p.1.2.get 1) = some (vU k) ∧ (timesMid 0 n k).bind (fun p => p.1.2.get 6) = some (vI 1) := ⟨by kernel_rfl, by kernel_rfl⟩
theorem times_mid1 (n k : Nat) : (timesMid 1 n k).bind (fun p => p.1.2.get 1) = some (vU k) ∧ (timesMid 1 n k).bind (fun p => p.1.2.get 6) = some (vI 2) := ⟨by kernel_rfl, by kernel_rfl⟩
theorem times_mid2 (n k : Nat) : (timesMid 2 n k).bind (fun p => p.1.2.get 1) = some (vU k) ∧ (timesMid 2 n k).bind (fun p => p.1.2.get 6) = some (vI 3) := ⟨by kernel_rfl, by kernel_rfl⟩
theorem times_run00 (n k : Nat) : timesRun 0 0 n k = true := by kernel_rfl
theorem times_run10 (n k : Nat) : timesRun 1 0 n k = true := by kernel_rfl
theorem times_run11 (n k : Nat) : timesRun 1 1 n k = true := by kernel_rfl
theorem times_run20 (n k : Nat) : timesRun 2 0 n k = true := by kernel_rfl
theorem times_run21 (n k : Nat) : timesRun 2 1 n k = true := by kernel_rfl
theorem times_run22 (n k : Nat) : timesRun 2 2 n k = true := by kernel_rfl
end Go.Proofs.YtkbnhccfnimibaaGreatDoor
