/- SerialSkew: runs. -/
import Derived.Test.YtkbnhccfnimibaaGreatDoorRsSkew
namespace Go.Proofs.YtkbnhccfnimibaaGreatDoor
set_option linter.unusedVariables false
set_option linter.unusedSimpArgs false
open Go.RowKit Go.Rx
set_option maxRecDepth 1000000
theorem skew_run2f (n : Int) : skewRun 2 n false = true := by kernel_rfl
theorem skew_run2t (n : Int) : skewRun 2 n true = true := by kernel_rfl
theorem skew_run3f (n : Int) : skewRun 3 n false = true := by kernel_rfl
end Go.Proofs.YtkbnhccfnimibaaGreatDoor
