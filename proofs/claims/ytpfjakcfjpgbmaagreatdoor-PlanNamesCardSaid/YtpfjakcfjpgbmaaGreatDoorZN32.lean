/- Runs of lang.Parse (written by tools/pnparse.py). -/
import Derived.Test.YtpfjakcfjpgbmaaGreatDoorZN27
namespace Go.Proofs.YtpfjakcfjpgbmaaGreatDoor
set_option linter.unusedVariables false
set_option linter.unusedSimpArgs false
open Go.RowKit Go.Rx

set_option maxRecDepth 1000000
theorem pA400 : fitRet 12 (retA 4 0 0) (readRun (txA 4 0 0)) = true := by kernel_rfl
theorem pA401 : fitRet 12 (retA 4 0 1) (readRun (txA 4 0 1)) = true := by kernel_rfl
theorem pA402 : fitRet 12 (retA 4 0 2) (readRun (txA 4 0 2)) = true := by kernel_rfl
theorem pA403 : fitRet 12 (retA 4 0 3) (readRun (txA 4 0 3)) = true := by kernel_rfl
theorem pA404 : fitRet 12 (retA 4 0 4) (readRun (txA 4 0 4)) = true := by kernel_rfl
theorem pA405 : fitRet 12 (retA 4 0 5) (readRun (txA 4 0 5)) = true := by kernel_rfl
theorem pA410 : fitRet 12 (retA 4 1 0) (readRun (txA 4 1 0)) = true := by kernel_rfl
theorem pA411 : fitRet 12 (retA 4 1 1) (readRun (txA 4 1 1)) = true := by kernel_rfl
theorem pA412 : fitRet 12 (retA 4 1 2) (readRun (txA 4 1 2)) = true := by kernel_rfl
theorem pA413 : fitRet 12 (retA 4 1 3) (readRun (txA 4 1 3)) = true := by kernel_rfl
theorem pA414 : fitRet 12 (retA 4 1 4) (readRun (txA 4 1 4)) = true := by kernel_rfl
theorem pA415 : fitRet 12 (retA 4 1 5) (readRun (txA 4 1 5)) = true := by kernel_rfl
theorem pA420 : fitRet 12 (retA 4 2 0) (readRun (txA 4 2 0)) = true := by kernel_rfl
theorem pA421 : fitRet 12 (retA 4 2 1) (readRun (txA 4 2 1)) = true := by kernel_rfl
theorem pA422 : fitRet 12 (retA 4 2 2) (readRun (txA 4 2 2)) = true := by kernel_rfl
theorem pA423 : fitRet 12 (retA 4 2 3) (readRun (txA 4 2 3)) = true := by kernel_rfl
theorem pA424 : fitRet 12 (retA 4 2 4) (readRun (txA 4 2 4)) = true := by kernel_rfl
theorem pA425 : fitRet 12 (retA 4 2 5) (readRun (txA 4 2 5)) = true := by kernel_rfl
theorem pA430 : fitRet 12 (retA 4 3 0) (readRun (txA 4 3 0)) = true := by kernel_rfl
theorem pA431 : fitRet 12 (retA 4 3 1) (readRun (txA 4 3 1)) = true := by kernel_rfl
theorem pA432 : fitRet 12 (retA 4 3 2) (readRun (txA 4 3 2)) = true := by kernel_rfl
theorem pA433 : fitRet 12 (retA 4 3 3) (readRun (txA 4 3 3)) = true := by kernel_rfl
theorem pA434 : fitRet 12 (retA 4 3 4) (readRun (txA 4 3 4)) = true := by kernel_rfl
theorem pA435 : fitRet 12 (retA 4 3 5) (readRun (txA 4 3 5)) = true := by kernel_rfl
theorem pA440 : fitRet 12 (retA 4 4 0) (readRun (txA 4 4 0)) = true := by kernel_rfl
theorem pA441 : fitRet 12 (retA 4 4 1) (readRun (txA 4 4 1)) = true := by kernel_rfl
theorem pA442 : fitRet 12 (retA 4 4 2) (readRun (txA 4 4 2)) = true := by kernel_rfl
theorem pA443 : fitRet 12 (retA 4 4 3) (readRun (txA 4 4 3)) = true := by kernel_rfl
theorem pA444 : fitRet 12 (retA 4 4 4) (readRun (txA 4 4 4)) = true := by kernel_rfl
theorem pA445 : fitRet 12 (retA 4 4 5) (readRun (txA 4 4 5)) = true := by kernel_rfl
theorem pA450 : fitRet 12 (retA 4 5 0) (readRun (txA 4 5 0)) = true := by kernel_rfl
theorem pA451 : fitRet 12 (retA 4 5 1) (readRun (txA 4 5 1)) = true := by kernel_rfl
theorem pA452 : fitRet 12 (retA 4 5 2) (readRun (txA 4 5 2)) = true := by kernel_rfl
theorem pA453 : fitRet 12 (retA 4 5 3) (readRun (txA 4 5 3)) = true := by kernel_rfl
theorem pA454 : fitRet 12 (retA 4 5 4) (readRun (txA 4 5 4)) = true := by kernel_rfl
theorem pA455 : fitRet 12 (retA 4 5 5) (readRun (txA 4 5 5)) = true := by kernel_rfl
theorem pA4 {y z : Nat} (hy : y < 6) (hz : z < 6) : fitRet 12 (retA 4 y z) (readRun (txA 4 y z)) = true := by
  rcases six hy with rfl | rfl | rfl | rfl | rfl | rfl
  · rcases six hz with rfl | rfl | rfl | rfl | rfl | rfl
    · exact pA400
    · exact pA401
    · exact pA402
    · exact pA403
    · exact pA404
    · exact pA405
  · rcases six hz with rfl | rfl | rfl | rfl | rfl | rfl
    · exact pA410
    · exact pA411
    · exact pA412
    · exact pA413
    · exact pA414
    · exact pA415
  · rcases six hz with rfl | rfl | rfl | rfl | rfl | rfl
    · exact pA420
    · exact pA421
    · exact pA422
    · exact pA423
    · exact pA424
    · exact pA425
  · rcases six hz with rfl | rfl | rfl | rfl | rfl | rfl
    · exact pA430
    · exact pA431
    · exact pA432
    · exact pA433
    · exact pA434
    · exact pA435
  · rcases six hz with rfl | rfl | rfl | rfl | rfl | rfl
    · exact pA440
    · exact pA441
    · exact pA442
    · exact pA443
    · exact pA444
    · exact pA445
  · rcases six hz with rfl | rfl | rfl | rfl | rfl | rfl
    · exact pA450
    · exact pA451
    · exact pA452
    · exact pA453
    · exact pA454
    · exact pA455
end Go.Proofs.YtpfjakcfjpgbmaaGreatDoor
