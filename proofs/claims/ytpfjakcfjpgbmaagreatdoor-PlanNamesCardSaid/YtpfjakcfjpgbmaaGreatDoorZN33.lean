/- Runs of lang.Parse (written by tools/pnparse.py). -/
import Derived.Test.YtpfjakcfjpgbmaaGreatDoorZN27
namespace Go.Proofs.YtpfjakcfjpgbmaaGreatDoor
set_option linter.unusedVariables false
set_option linter.unusedSimpArgs false
open Go.RowKit Go.Rx

set_option maxRecDepth 1000000
theorem pA500 : fitRet 12 (retA 5 0 0) (readRun (txA 5 0 0)) = true := by kernel_rfl
theorem pA501 : fitRet 12 (retA 5 0 1) (readRun (txA 5 0 1)) = true := by kernel_rfl
theorem pA502 : fitRet 12 (retA 5 0 2) (readRun (txA 5 0 2)) = true := by kernel_rfl
theorem pA503 : fitRet 12 (retA 5 0 3) (readRun (txA 5 0 3)) = true := by kernel_rfl
theorem pA504 : fitRet 12 (retA 5 0 4) (readRun (txA 5 0 4)) = true := by kernel_rfl
theorem pA505 : fitRet 12 (retA 5 0 5) (readRun (txA 5 0 5)) = true := by kernel_rfl
theorem pA510 : fitRet 12 (retA 5 1 0) (readRun (txA 5 1 0)) = true := by kernel_rfl
theorem pA511 : fitRet 12 (retA 5 1 1) (readRun (txA 5 1 1)) = true := by kernel_rfl
theorem pA512 : fitRet 12 (retA 5 1 2) (readRun (txA 5 1 2)) = true := by kernel_rfl
theorem pA513 : fitRet 12 (retA 5 1 3) (readRun (txA 5 1 3)) = true := by kernel_rfl
theorem pA514 : fitRet 12 (retA 5 1 4) (readRun (txA 5 1 4)) = true := by kernel_rfl
theorem pA515 : fitRet 12 (retA 5 1 5) (readRun (txA 5 1 5)) = true := by kernel_rfl
theorem pA520 : fitRet 12 (retA 5 2 0) (readRun (txA 5 2 0)) = true := by kernel_rfl
theorem pA521 : fitRet 12 (retA 5 2 1) (readRun (txA 5 2 1)) = true := by kernel_rfl
theorem pA522 : fitRet 12 (retA 5 2 2) (readRun (txA 5 2 2)) = true := by kernel_rfl
theorem pA523 : fitRet 12 (retA 5 2 3) (readRun (txA 5 2 3)) = true := by kernel_rfl
theorem pA524 : fitRet 12 (retA 5 2 4) (readRun (txA 5 2 4)) = true := by kernel_rfl
theorem pA525 : fitRet 12 (retA 5 2 5) (readRun (txA 5 2 5)) = true := by kernel_rfl
theorem pA530 : fitRet 12 (retA 5 3 0) (readRun (txA 5 3 0)) = true := by kernel_rfl
theorem pA531 : fitRet 12 (retA 5 3 1) (readRun (txA 5 3 1)) = true := by kernel_rfl
theorem pA532 : fitRet 12 (retA 5 3 2) (readRun (txA 5 3 2)) = true := by kernel_rfl
theorem pA533 : fitRet 12 (retA 5 3 3) (readRun (txA 5 3 3)) = true := by kernel_rfl
theorem pA534 : fitRet 12 (retA 5 3 4) (readRun (txA 5 3 4)) = true := by kernel_rfl
theorem pA535 : fitRet 12 (retA 5 3 5) (readRun (txA 5 3 5)) = true := by kernel_rfl
theorem pA540 : fitRet 12 (retA 5 4 0) (readRun (txA 5 4 0)) = true := by kernel_rfl
theorem pA541 : fitRet 12 (retA 5 4 1) (readRun (txA 5 4 1)) = true := by kernel_rfl
theorem pA542 : fitRet 12 (retA 5 4 2) (readRun (txA 5 4 2)) = true := by kernel_rfl
theorem pA543 : fitRet 12 (retA 5 4 3) (readRun (txA 5 4 3)) = true := by kernel_rfl
theorem pA544 : fitRet 12 (retA 5 4 4) (readRun (txA 5 4 4)) = true := by kernel_rfl
theorem pA545 : fitRet 12 (retA 5 4 5) (readRun (txA 5 4 5)) = true := by kernel_rfl
theorem pA550 : fitRet 12 (retA 5 5 0) (readRun (txA 5 5 0)) = true := by kernel_rfl
theorem pA551 : fitRet 12 (retA 5 5 1) (readRun (txA 5 5 1)) = true := by kernel_rfl
theorem pA552 : fitRet 12 (retA 5 5 2) (readRun (txA 5 5 2)) = true := by kernel_rfl
theorem pA553 : fitRet 12 (retA 5 5 3) (readRun (txA 5 5 3)) = true := by kernel_rfl
theorem pA554 : fitRet 12 (retA 5 5 4) (readRun (txA 5 5 4)) = true := by kernel_rfl
theorem pA555 : fitRet 12 (retA 5 5 5) (readRun (txA 5 5 5)) = true := by kernel_rfl
theorem pA5 {y z : Nat} (hy : y < 6) (hz : z < 6) : fitRet 12 (retA 5 y z) (readRun (txA 5 y z)) = true := by
  rcases six hy with rfl | rfl | rfl | rfl | rfl | rfl
  · rcases six hz with rfl | rfl | rfl | rfl | rfl | rfl
    · exact pA500
    · exact pA501
    · exact pA502
    · exact pA503
    · exact pA504
    · exact pA505
  · rcases six hz with rfl | rfl | rfl | rfl | rfl | rfl
    · exact pA510
    · exact pA511
    · exact pA512
    · exact pA513
    · exact pA514
    · exact pA515
  · rcases six hz with rfl | rfl | rfl | rfl | rfl | rfl
    · exact pA520
    · exact pA521
    · exact pA522
    · exact pA523
    · exact pA524
    · exact pA525
  · rcases six hz with rfl | rfl | rfl | rfl | rfl | rfl
    · exact pA530
    · exact pA531
    · exact pA532
    · exact pA533
    · exact pA534
    · exact pA535
  · rcases six hz with rfl | rfl | rfl | rfl | rfl | rfl
    · exact pA540
    · exact pA541
    · exact pA542
    · exact pA543
    · exact pA544
    · exact pA545
  · rcases six hz with rfl | rfl | rfl | rfl | rfl | rfl
    · exact pA550
    · exact pA551
    · exact pA552
    · exact pA553
    · exact pA554
    · exact pA555
end Go.Proofs.YtpfjakcfjpgbmaaGreatDoor
