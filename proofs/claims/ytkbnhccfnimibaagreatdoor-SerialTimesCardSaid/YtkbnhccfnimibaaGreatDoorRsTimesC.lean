/- SerialTimes: runs. -/
import Derived.Test.YtkbnhccfnimibaaGreatDoorRsTimes
namespace Go.Proofs.YtkbnhccfnimibaaGreatDoor
set_option linter.unusedVariables false
set_option linter.unusedSimpArgs false
open Go.RowKit Go.Rx
set_option maxRecDepth 1000000
theorem times_run32 (n k : Nat) : timesRun 3 2 n k = true := by kernel_rfl
theorem times_run33 (n k : Nat) : timesRun 3 3 n k = true := by kernel_rfl
end Go.Proofs.YtkbnhccfnimibaaGreatDoor
