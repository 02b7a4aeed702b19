/- Runs of lang.Parse (written by tools/pnparse.py). -/
import Derived.Test.YtpfjakcfjpgbmaaGreatDoorZN27
namespace Go.Proofs.YtpfjakcfjpgbmaaGreatDoor
set_option linter.unusedVariables false
set_option linter.unusedSimpArgs false
open Go.RowKit Go.Rx

set_option maxRecDepth 1000000
theorem pJ400 : fitRet 12 (retJ 4 0 0) (readRun (txJ 4 0 0)) = true := by kernel_rfl
theorem pJ401 : fitRet 12 (retJ 4 0 1) (readRun (txJ 4 0 1)) = true := by kernel_rfl
theorem pJ402 : fitRet 12 (retJ 4 0 2) (readRun (txJ 4 0 2)) = true := by kernel_rfl
theorem pJ403 : fitRet 12 (retJ 4 0 3) (readRun (txJ 4 0 3)) = true := by kernel_rfl
theorem pJ404 : fitRet 12 (retJ 4 0 4) (readRun (txJ 4 0 4)) = true := by kernel_rfl
theorem pJ405 : fitRet 12 (retJ 4 0 5) (readRun (txJ 4 0 5)) = true := by kernel_rfl
theorem pJ410 : fitRet 12 (retJ 4 1 0) (readRun (txJ 4 1 0)) = true := by kernel_rfl
theorem pJ411 : fitRet 12 (retJ 4 1 1) (readRun (txJ 4 1 1)) = true := by kernel_rfl
theorem pJ412 : fitRet 12 (retJ 4 1 2) (readRun (txJ 4 1 2)) = true := by kernel_rfl
theorem pJ413 : fitRet 12 (retJ 4 1 3) (readRun (txJ 4 1 3)) = true := by kernel_rfl
theorem pJ414 : fitRet 12 (retJ 4 1 4) (readRun (txJ 4 1 4)) = true := by kernel_rfl
theorem pJ415 : fitRet 12 (retJ 4 1 5) (readRun (txJ 4 1 5)) = true := by kernel_rfl
theorem pJ420 : fitRet 12 (retJ 4 2 0) (readRun (txJ 4 2 0)) = true := by kernel_rfl
theorem pJ421 : fitRet 12 (retJ 4 2 1) (readRun (txJ 4 2 1)) = true := by kernel_rfl
theorem pJ422 : fitRet 12 (retJ 4 2 2) (readRun (txJ 4 2 2)) = true := by kernel_rfl
theorem pJ423 : fitRet 12 (retJ 4 2 3) (readRun (txJ 4 2 3)) = true := by kernel_rfl
theorem pJ424 : fitRet 12 (retJ 4 2 4) (readRun (txJ 4 2 4)) = true := by kernel_rfl
theorem pJ425 : fitRet 12 (retJ 4 2 5) (readRun (txJ 4 2 5)) = true := by kernel_rfl
theorem pJ430 : fitRet 12 (retJ 4 3 0) (readRun (txJ 4 3 0)) = true := by kernel_rfl
theorem pJ431 : fitRet 12 (retJ 4 3 1) (readRun (txJ 4 3 1)) = true := by kernel_rfl
theorem pJ432 : fitRet 12 (retJ 4 3 2) (readRun (txJ 4 3 2)) = true := by kernel_rfl
theorem pJ433 : fitRet 12 (retJ 4 3 3) (readRun (txJ 4 3 3)) = true := by kernel_rfl
theorem pJ434 : fitRet 12 (retJ 4 3 4) (readRun (txJ 4 3 4)) = true := by kernel_rfl
theorem pJ435 : fitRet 12 (retJ 4 3 5) (readRun (txJ 4 3 5)) = true := by kernel_rfl
theorem pJ440 : fitRet 12 (retJ 4 4 0) (readRun (txJ 4 4 0)) = true := by kernel_rfl
theorem pJ441 : fitRet 12 (retJ 4 4 1) (readRun (txJ 4 4 1)) = true := by kernel_rfl
theorem pJ442 : fitRet 12 (retJ 4 4 2) (readRun (txJ 4 4 2)) = true := by kernel_rfl
theorem pJ443 : fitRet 12 (retJ 4 4 3) (readRun (txJ 4 4 3)) = true := by kernel_rfl
theorem pJ444 : fitRet 12 (retJ 4 4 4) (readRun (txJ 4 4 4)) = true := by kernel_rfl
theorem pJ445 : fitRet 12 (retJ 4 4 5) (readRun (txJ 4 4 5)) = true := by kernel_rfl
theorem pJ450 : fitRet 12 (retJ 4 5 0) (readRun (txJ 4 5 0)) = true := by kernel_rfl
theorem pJ451 : fitRet 12 (retJ 4 5 1) (readRun (txJ 4 5 1)) = true := by kernel_rfl
theorem pJ452 : fitRet 12 (retJ 4 5 2) (readRun (txJ 4 5 2)) = true := by kernel_rfl
theorem pJ453 : fitRet 12 (retJ 4 5 3) (readRun (txJ 4 5 3)) = true := by kernel_rfl
theorem pJ454 : fitRet 12 (retJ 4 5 4) (readRun (txJ 4 5 4)) = true := by kernel_rfl
theorem pJ455 : fitRet 12 (retJ 4 5 5) (readRun (txJ 4 5 5)) = true := by kernel_rfl
theorem pJ4 {y z : Nat} (hy : y < 6) (hz : z < 6) : fitRet 12 (retJ 4 y z) (readRun (txJ 4 y z)) = true := by
  rcases six hy with rfl | rfl | rfl | rfl | rfl | rfl
  · rcases six hz with rfl | rfl | rfl | rfl | rfl | rfl
    · exact pJ400
    · exact pJ401
    · exact pJ402
    · exact pJ403
    · exact pJ404
    · exact pJ405
  · rcases six hz with rfl | rfl | rfl | rfl | rfl | rfl
    · exact pJ410
    · exact pJ411
    · exact pJ412
    · exact pJ413
    · exact pJ414
    · exact pJ415
  · rcases six hz with rfl | rfl | rfl | rfl | rfl | rfl
    · exact pJ420
    · exact pJ421
    · exact pJ422
    · exact pJ423
    · exact pJ424
    · exact pJ425
  · rcases six hz with rfl | rfl | rfl | rfl | rfl | rfl
    · exact pJ430
    · exact pJ431
    · exact pJ432
    · exact pJ433
    · exact pJ434
    · exact pJ435
  · rcases six hz with rfl | rfl | rfl | rfl | rfl | rfl
    · exact pJ440
    · exact pJ441
    · exact pJ442
    · exact pJ443
    · exact pJ444
    · exact pJ445
  · rcases six hz with rfl | rfl | rfl | rfl | rfl | rfl
    · exact pJ450
    · exact pJ451
    · exact pJ452
    · exact pJ453
    · exact pJ454
    · exact pJ455
end Go.Proofs.YtpfjakcfjpgbmaaGreatDoor
