/- Runs of lang.Parse (written by tools/pnparse.py). -/
import Derived.Test.YtpfjakcfjpgbmaaGreatDoorZN27
namespace Go.Proofs.YtpfjakcfjpgbmaaGreatDoor
set_option linter.unusedVariables false
set_option linter.unusedSimpArgs false
open Go.RowKit Go.Rx

set_option maxRecDepth 1000000
theorem pA000 : fitRet 12 (retA 0 0 0) (readRun (txA 0 0 0)) = true := by kernel_rfl
theorem pA001 : fitRet 12 (retA 0 0 1) (readRun (txA 0 0 1)) = true := by kernel_rfl
theorem pA002 : fitRet 12 (retA 0 0 2) (readRun (txA 0 0 2)) = true := by kernel_rfl
theorem pA003 : fitRet 12 (retA 0 0 3) (readRun (txA 0 0 3)) = true := by kernel_rfl
theorem pA004 : fitRet 12 (retA 0 0 4) (readRun (txA 0 0 4)) = true := by kernel_rfl
theorem pA005 : fitRet 12 (retA 0 0 5) (readRun (txA 0 0 5)) = true := by kernel_rfl
theorem pA010 : fitRet 12 (retA 0 1 0) (readRun (txA 0 1 0)) = true := by kernel_rfl
theorem pA011 : fitRet 12 (retA 0 1 1) (readRun (txA 0 1 1)) = true := by kernel_rfl
theorem pA012 : fitRet 12 (retA 0 1 2) (readRun (txA 0 1 2)) = true := by kernel_rfl
theorem pA013 : fitRet 12 (retA 0 1 3) (readRun (txA 0 1 3)) = true := by kernel_rfl
theorem pA014 : fitRet 12 (retA 0 1 4) (readRun (txA 0 1 4)) = true := by kernel_rfl
theorem pA015 : fitRet 12 (retA 0 1 5) (readRun (txA 0 1 5)) = true := by kernel_rfl
theorem pA020 : fitRet 12 (retA 0 2 0) (readRun (txA 0 2 0)) = true := by kernel_rfl
theorem pA021 : fitRet 12 (retA 0 2 1) (readRun (txA 0 2 1)) = true := by kernel_rfl
theorem pA022 : fitRet 12 (retA 0 2 2) (readRun (txA 0 2 2)) = true := by kernel_rfl
theorem pA023 : fitRet 12 (retA 0 2 3) (readRun (txA 0 2 3)) = true := by kernel_rfl
theorem pA024 : fitRet 12 (retA 0 2 4) (readRun (txA 0 2 4)) = true := by kernel_rfl
theorem pA025 : fitRet 12 (retA 0 2 5) (readRun (txA 0 2 5)) = true := by kernel_rfl
theorem pA030 : fitRet 12 (retA 0 3 0) (readRun (txA 0 3 0)) = true := by kernel_rfl
theorem pA031 : fitRet 12 (retA 0 3 1) (readRun (txA 0 3 1)) = true := by kernel_rfl
theorem pA032 : fitRet 12 (retA 0 3 2) (readRun (txA 0 3 2)) = true := by kernel_rfl
theorem pA033 : fitRet 12 (retA 0 3 3) (readRun (txA 0 3 3)) = true := by kernel_rfl
theorem pA034 : fitRet 12 (retA 0 3 4) (readRun (txA 0 3 4)) = true := by kernel_rfl
theorem pA035 : fitRet 12 (retA 0 3 5) (readRun (txA 0 3 5)) = true := by kernel_rfl
theorem pA040 : fitRet 12 (retA 0 4 0) (readRun (txA 0 4 0)) = true := by kernel_rfl
theorem pA041 : fitRet 12 (retA 0 4 1) (readRun (txA 0 4 1)) = true := by kernel_rfl
theorem pA042 : fitRet 12 (retA 0 4 2) (readRun (txA 0 4 2)) = true := by kernel_rfl
theorem pA043 : fitRet 12 (retA 0 4 3) (readRun (txA 0 4 3)) = true := by kernel_rfl
theorem pA044 : fitRet 12 (retA 0 4 4) (readRun (txA 0 4 4)) = true := by kernel_rfl
theorem pA045 : fitRet 12 (retA 0 4 5) (readRun (txA 0 4 5)) = true := by kernel_rfl
theorem pA050 : fitRet 12 (retA 0 5 0) (readRun (txA 0 5 0)) = true := by kernel_rfl
theorem pA051 : fitRet 12 (retA 0 5 1) (readRun (txA 0 5 1)) = true := by kernel_rfl
theorem pA052 : fitRet 12 (retA 0 5 2) (readRun (txA 0 5 2)) = true := by kernel_rfl
theorem pA053 : fitRet 12 (retA 0 5 3) (readRun (txA 0 5 3)) = true := by kernel_rfl
theorem pA054 : fitRet 12 (retA 0 5 4) (readRun (txA 0 5 4)) = true := by kernel_rfl
theorem pA055 : fitRet 12 (retA 0 5 5) (readRun (txA 0 5 5)) = true := by kernel_rfl
theorem pA0 {y z : Nat} (hy : y < 6) (hz : z < 6) : fitRet 12 (retA 0 y z) (readRun (txA 0 y z)) = true := by
  rcases six hy with rfl | rfl | rfl | rfl | rfl | rfl
  · rcases six hz with rfl | rfl | rfl | rfl | rfl | rfl
    · exact pA000
    · exact pA001
    · exact pA002
    · exact pA003
    · exact pA004
    · exact pA005
  · rcases six hz with rfl | rfl | rfl | rfl | rfl | rfl
    · exact pA010
    · exact pA011
    · exact pA012
    · exact pA013
    · exact pA014
    · exact pA015
  · rcases six hz with rfl | rfl | rfl | rfl | rfl | rfl
    · exact pA020
    · exact pA021
    · exact pA022
    · exact pA023
    · exact pA024
    · exact pA025
  · rcases six hz with rfl | rfl | rfl | rfl | rfl | rfl
    · exact pA030
    · exact pA031
    · exact pA032
    · exact pA033
    · exact pA034
    · exact pA035
  · rcases six hz with rfl | rfl | rfl | rfl | rfl | rfl
    · exact pA040
    · exact pA041
    · exact pA042
    · exact pA043
    · exact pA044
    · exact pA045
  · rcases six hz with rfl | rfl | rfl | rfl | rfl | rfl
    · exact pA050
    · exact pA051
    · exact pA052
    · exact pA053
    · exact pA054
    · exact pA055
end Go.Proofs.YtpfjakcfjpgbmaaGreatDoor
