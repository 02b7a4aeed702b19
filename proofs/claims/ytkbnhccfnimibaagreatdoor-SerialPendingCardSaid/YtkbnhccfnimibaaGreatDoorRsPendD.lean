/- SerialPending: runs. -/
import Derived.Test.YtkbnhccfnimibaaGreatDoorRsPend
namespace Go.Proofs.YtkbnhccfnimibaaGreatDoor
set_option linter.unusedVariables false
set_option linter.unusedSimpArgs false
open Go.RowKit Go.Rx
set_option maxRecDepth 1000000
theorem pend_run4f (n : Int) : pendRun 4 n false = true := by kernel_rfl
theorem pend_run4t (n : Int) : pendRun 4 n true = true := by kernel_rfl
end Go.Proofs.YtkbnhccfnimibaaGreatDoor
