/- SerialSkew: runs. -/
import Derived.Test.YtkbnhccfnimibaaGreatDoorRsSkew
namespace Go.Proofs.YtkbnhccfnimibaaGreatDoor
set_option linter.unusedVariables false
set_option linter.unusedSimpArgs false
open Go.RowKit Go.Rx
set_option maxRecDepth 1000000
theorem skew_run3t (n : Int) : skewRun 3 n true = true := by kernel_rfl
theorem skew_run4f (n : Int) : skewRun 4 n false = true := by kernel_rfl
theorem skew_run4t (n : Int) : skewRun 4 n true = true := by kernel_rfl
end Go.Proofs.YtkbnhccfnimibaaGreatDoor
