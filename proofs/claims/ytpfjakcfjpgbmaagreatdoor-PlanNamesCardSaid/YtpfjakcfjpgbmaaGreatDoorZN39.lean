/- Runs of lang.Parse (written by tools/pnparse.py). -/
import Derived.Test.YtpfjakcfjpgbmaaGreatDoorZN27
namespace Go.Proofs.YtpfjakcfjpgbmaaGreatDoor
set_option linter.unusedVariables false
set_option linter.unusedSimpArgs false
open Go.RowKit Go.Rx

set_option maxRecDepth 1000000
theorem pJ500 : fitRet 12 (retJ 5 0 0) (readRun (txJ 5 0 0)) = true := by kernel_rfl
theorem pJ501 : fitRet 12 (retJ 5 0 1) (readRun (txJ 5 0 1)) = true := by kernel_rfl
theorem pJ502 : fitRet 12 (retJ 5 0 2) (readRun (txJ 5 0 2)) = true := by kernel_rfl
theorem pJ503 : fitRet 12 (retJ 5 0 3) (readRun (txJ 5 0 3)) = true := by kernel_rfl
theorem pJ504 : fitRet 12 (retJ 5 0 4) (readRun (txJ 5 0 4)) = true := by kernel_rfl
theorem pJ505 : fitRet 12 (retJ 5 0 5) (readRun (txJ 5 0 5)) = true := by kernel_rfl
theorem pJ510 : fitRet 12 (retJ 5 1 0) (readRun (txJ 5 1 0)) = true := by kernel_rfl
theorem pJ511 : fitRet 12 (retJ 5 1 1) (readRun (txJ 5 1 1)) = true := by kernel_rfl
theorem pJ512 : fitRet 12 (retJ 5 1 2) (readRun (txJ 5 1 2)) = true := by kernel_rfl
theorem pJ513 : fitRet 12 (retJ 5 1 3) (readRun (txJ 5 1 3)) = true := by kernel_rfl
theorem pJ514 : fitRet 12 (retJ 5 1 4) (readRun (txJ 5 1 4)) = true := by kernel_rfl
theorem pJ515 : fitRet 12 (retJ 5 1 5) (readRun (txJ 5 1 5)) = true := by kernel_rfl
theorem pJ520 : fitRet 12 (retJ 5 2 0) (readRun (txJ 5 2 0)) = true := by kernel_rfl
theorem pJ521 : fitRet 12 (retJ 5 2 1) (readRun (txJ 5 2 1)) = true := by kernel_rfl
theorem pJ522 : fitRet 12 (retJ 5 2 2) (readRun (txJ 5 2 2)) = true := by kernel_rfl
theorem pJ523 : fitRet 12 (retJ 5 2 3) (readRun (txJ 5 2 3)) = true := by kernel_rfl
theorem pJ524 : fitRet 12 (retJ 5 2 4) (readRun (txJ 5 2 4)) = true := by kernel_rfl
theorem pJ525 : fitRet 12 (retJ 5 2 5) (readRun (txJ 5 2 5)) = true := by kernel_rfl
theorem pJ530 : fitRet 12 (retJ 5 3 0) (readRun (txJ 5 3 0)) = true := by kernel_rfl
theorem pJ531 : fitRet 12 (retJ 5 3 1) (readRun (txJ 5 3 1)) = true := by kernel_rfl
theorem pJ532 : fitRet 12 (retJ 5 3 2) (readRun (txJ 5 3 2)) = true := by kernel_rfl
theorem pJ533 : fitRet 12 (retJ 5 3 3) (readRun (txJ 5 3 3)) = true := by kernel_rfl
theorem pJ534 : fitRet 12 (retJ 5 3 4) (readRun (txJ 5 3 4)) = true := by kernel_rfl
theorem pJ535 : fitRet 12 (retJ 5 3 5) (readRun (txJ 5 3 5)) = true := by kernel_rfl
theorem pJ540 : fitRet 12 (retJ 5 4 0) (readRun (txJ 5 4 0)) = true := by kernel_rfl
theorem pJ541 : fitRet 12 (retJ 5 4 1) (readRun (txJ 5 4 1)) = true := by kernel_rfl
theorem pJ542 : fitRet 12 (retJ 5 4 2) (readRun (txJ 5 4 2)) = true := by kernel_rfl
theorem pJ543 : fitRet 12 (retJ 5 4 3) (readRun (txJ 5 4 3)) = true := by kernel_rfl
theorem pJ544 : fitRet 12 (retJ 5 4 4) (readRun (txJ 5 4 4)) = true := by kernel_rfl
theorem pJ545 : fitRet 12 (retJ 5 4 5) (readRun (txJ 5 4 5)) = true := by kernel_rfl
theorem pJ550 : fitRet 12 (retJ 5 5 0) (readRun (txJ 5 5 0)) = true := by kernel_rfl
theorem pJ551 : fitRet 12 (retJ 5 5 1) (readRun (txJ 5 5 1)) = true := by kernel_rfl
theorem pJ552 : fitRet 12 (retJ 5 5 2) (readRun (txJ 5 5 2)) = true := by kernel_rfl
theorem pJ553 : fitRet 12 (retJ 5 5 3) (readRun (txJ 5 5 3)) = true := by kernel_rfl
theorem pJ554 : fitRet 12 (retJ 5 5 4) (readRun (txJ 5 5 4)) = true := by kernel_rfl
theorem pJ555 : fitRet 12 (retJ 5 5 5) (readRun (txJ 5 5 5)) = true := by kernel_rfl
theorem pJ5 {y z : Nat} (hy : y < 6) (hz : z < 6) : fitRet 12 (retJ 5 y z) (readRun (txJ 5 y z)) = true := by
  rcases six hy with rfl | rfl | rfl | rfl | rfl | rfl
  · rcases six hz with rfl | rfl | rfl | rfl | rfl | rfl
    · exact pJ500
    · exact pJ501
    · exact pJ502
    · exact pJ503
    · exact pJ504
    · exact pJ505
  · rcases six hz with rfl | rfl | rfl | rfl | rfl | rfl
    · exact pJ510
    · exact pJ511
    · exact pJ512
    · exact pJ513
    · exact pJ514
    · exact pJ515
  · rcases six hz with rfl | rfl | rfl | rfl | rfl | rfl
    · exact pJ520
    · exact pJ521
    · exact pJ522
    · exact pJ523
    · exact pJ524
    · exact pJ525
  · rcases six hz with rfl | rfl | rfl | rfl | rfl | rfl
    · exact pJ530
    · exact pJ531
    · exact pJ532
    · exact pJ533
    · exact pJ534
    · exact pJ535
  · rcases six hz with rfl | rfl | rfl | rfl | rfl | rfl
    · exact pJ540
    · exact pJ541
    · exact pJ542
    · exact pJ543
    · exact pJ544
    · exact pJ545
  · rcases six hz with rfl | rfl | rfl | rfl | rfl | rfl
    · exact pJ550
    · exact pJ551
    · exact pJ552
    · exact pJ553
    · exact pJ554
    · exact pJ555
end Go.Proofs.YtpfjakcfjpgbmaaGreatDoor
