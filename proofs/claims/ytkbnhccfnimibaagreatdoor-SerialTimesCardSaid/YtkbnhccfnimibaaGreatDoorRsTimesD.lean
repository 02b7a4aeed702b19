/- SerialTimes: runs. -/
import Derived.Test.YtkbnhccfnimibaaGreatDoorRsTimes
namespace Go.Proofs.YtkbnhccfnimibaaGreatDoor
set_option linter.unusedVariables false
set_option linter.unusedSimpArgs false
open Go.RowKit Go.Rx
set_option maxRecDepth 1000000
theorem times_mid4 (n k : Nat) : (timesMid 4 n k).bind (fun p => p.1.2.get 1) = some (vU k) ∧ (timesMid 4 n k).bind (fun p => p.1.2.get 6) = some (vI 5) := ⟨by kernel_rfl, by kernel_rfl⟩
theorem times_run40 (n k : Nat) : timesRun 4 0 n k = true := by kernel_rfl
end Go.Proofs.YtkbnhccfnimibaaGreatDoor
