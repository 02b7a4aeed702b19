/- SerialTimes: runs. -/
import Derived.Test.YtkbnhccfnimibaaGreatDoorRsTimes
namespace Go.Proofs.YtkbnhccfnimibaaGreatDoor
set_option linter.unusedVariables false
set_option linter.unusedSimpArgs false
open Go.RowKit Go.Rx
set_option maxRecDepth 1000000
theorem times_mid3 (n k : Nat) : (timesMid 3 n k).bind (fun p => p.1.2.get 1) = some (vU k) ∧ (timesMid 3 n k).bind (fun p => p.1.2.get 6) = some (vI 4) := ⟨by kernel_rfl, by kernel_rfl⟩
theorem times_run30 (n k : Nat) : timesRun 3 0 n k = true := by kernel_rfl
theorem times_run31 (n k : Nat) : timesRun 3 1 n k = true := by kernel_rfl
end Go.Proofs.YtkbnhccfnimibaaGreatDoor
