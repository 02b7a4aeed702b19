/- Runs of lang.Parse (written by tools/pnparse.py). -/
import Derived.Test.YtpfjakcfjpgbmaaGreatDoorZN27
namespace Go.Proofs.YtpfjakcfjpgbmaaGreatDoor
set_option linter.unusedVariables false
set_option linter.unusedSimpArgs false
open Go.RowKit Go.Rx

set_option maxRecDepth 1000000
theorem pJ000 : fitRet 12 (retJ 0 0 0) (readRun (txJ 0 0 0)) = true := by kernel_rfl
theorem pJ001 : fitRet 12 (retJ 0 0 1) (readRun (txJ 0 0 1)) = true := by kernel_rfl
theorem pJ002 : fitRet 12 (retJ 0 0 2) (readRun (txJ 0 0 2)) = true := by kernel_rfl
theorem pJ003 : fitRet 12 (retJ 0 0 3) (readRun (txJ 0 0 3)) = true := by kernel_rfl
theorem pJ004 : fitRet 12 (retJ 0 0 4) (readRun (txJ 0 0 4)) = true := by kernel_rfl
theorem pJ005 : fitRet 12 (retJ 0 0 5) (readRun (txJ 0 0 5)) = true := by kernel_rfl
theorem pJ010 : fitRet 12 (retJ 0 1 0) (readRun (txJ 0 1 0)) = true := by kernel_rfl
theorem pJ011 : fitRet 12 (retJ 0 1 1) (readRun (txJ 0 1 1)) = true := by kernel_rfl
theorem pJ012 : fitRet 12 (retJ 0 1 2) (readRun (txJ 0 1 2)) = true := by kernel_rfl
theorem pJ013 : fitRet 12 (retJ 0 1 3) (readRun (txJ 0 1 3)) = true := by kernel_rfl
theorem pJ014 : fitRet 12 (retJ 0 1 4) (readRun (txJ 0 1 4)) = true := by kernel_rfl
theorem pJ015 : fitRet 12 (retJ 0 1 5) (readRun (txJ 0 1 5)) = true := by kernel_rfl
theorem pJ020 : fitRet 12 (retJ 0 2 0) (readRun (txJ 0 2 0)) = true := by kernel_rfl
theorem pJ021 : fitRet 12 (retJ 0 2 1) (readRun (txJ 0 2 1)) = true := by kernel_rfl
theorem pJ022 : fitRet 12 (retJ 0 2 2) (readRun (txJ 0 2 2)) = true := by kernel_rfl
theorem pJ023 : fitRet 12 (retJ 0 2 3) (readRun (txJ 0 2 3)) = true := by kernel_rfl
theorem pJ024 : fitRet 12 (retJ 0 2 4) (readRun (txJ 0 2 4)) = true := by kernel_rfl
theorem pJ025 : fitRet 12 (retJ 0 2 5) (readRun (txJ 0 2 5)) = true := by kernel_rfl
theorem pJ030 : fitRet 12 (retJ 0 3 0) (readRun (txJ 0 3 0)) = true := by kernel_rfl
theorem pJ031 : fitRet 12 (retJ 0 3 1) (readRun (txJ 0 3 1)) = true := by kernel_rfl
theorem pJ032 : fitRet 12 (retJ 0 3 2) (readRun (txJ 0 3 2)) = true := by kernel_rfl
theorem pJ033 : fitRet 12 (retJ 0 3 3) (readRun (txJ 0 3 3)) = true := by kernel_rfl
theorem pJ034 : fitRet 12 (retJ 0 3 4) (readRun (txJ 0 3 4)) = true := by kernel_rfl
theorem pJ035 : fitRet 12 (retJ 0 3 5) (readRun (txJ 0 3 5)) = true := by kernel_rfl
theorem pJ040 : fitRet 12 (retJ 0 4 0) (readRun (txJ 0 4 0)) = true := by kernel_rfl
theorem pJ041 : fitRet 12 (retJ 0 4 1) (readRun (txJ 0 4 1)) = true := by kernel_rfl
theorem pJ042 : fitRet 12 (retJ 0 4 2) (readRun (txJ 0 4 2)) = true := by kernel_rfl
theorem pJ043 : fitRet 12 (retJ 0 4 3) (readRun (txJ 0 4 3)) = true := by kernel_rfl
theorem pJ044 : fitRet 12 (retJ 0 4 4) (readRun (txJ 0 4 4)) = true := by kernel_rfl
theorem pJ045 : fitRet 12 (retJ 0 4 5) (readRun (txJ 0 4 5)) = true := by kernel_rfl
theorem pJ050 : fitRet 12 (retJ 0 5 0) (readRun (txJ 0 5 0)) = true := by kernel_rfl
theorem pJ051 : fitRet 12 (retJ 0 5 1) (readRun (txJ 0 5 1)) = true := by kernel_rfl
theorem pJ052 : fitRet 12 (retJ 0 5 2) (readRun (txJ 0 5 2)) = true := by kernel_rfl
theorem pJ053 : fitRet 12 (retJ 0 5 3) (readRun (txJ 0 5 3)) = true := by kernel_rfl
theorem pJ054 : fitRet 12 (retJ 0 5 4) (readRun (txJ 0 5 4)) = true := by kernel_rfl
theorem pJ055 : fitRet 12 (retJ 0 5 5) (readRun (txJ 0 5 5)) = true := by kernel_rfl
theorem pJ0 {y z : Nat} (hy : y < 6) (hz : z < 6) : fitRet 12 (retJ 0 y z) (readRun (txJ 0 y z)) = true := by
  rcases six hy with rfl | rfl | rfl | rfl | rfl | rfl
  · rcases six hz with rfl | rfl | rfl | rfl | rfl | rfl
    · exact pJ000
    · exact pJ001
    · exact pJ002
    · exact pJ003
    · exact pJ004
    · exact pJ005
  · rcases six hz with rfl | rfl | rfl | rfl | rfl | rfl
    · exact pJ010
    · exact pJ011
    · exact pJ012
    · exact pJ013
    · exact pJ014
    · exact pJ015
  · rcases six hz with rfl | rfl | rfl | rfl | rfl | rfl
    · exact pJ020
    · exact pJ021
    · exact pJ022
    · exact pJ023
    · exact pJ024
    · exact pJ025
  · rcases six hz with rfl | rfl | rfl | rfl | rfl | rfl
    · exact pJ030
    · exact pJ031
    · exact pJ032
    · exact pJ033
    · exact pJ034
    · exact pJ035
  · rcases six hz with rfl | rfl | rfl | rfl | rfl | rfl
    · exact pJ040
    · exact pJ041
    · exact pJ042
    · exact pJ043
    · exact pJ044
    · exact pJ045
  · rcases six hz with rfl | rfl | rfl | rfl | rfl | rfl
    · exact pJ050
    · exact pJ051
    · exact pJ052
    · exact pJ053
    · exact pJ054
    · exact pJ055
end Go.Proofs.YtpfjakcfjpgbmaaGreatDoor
