/- Runs of lang.Parse (written by tools/pnparse.py). -/
import Derived.Test.YtpfjakcfjpgbmaaGreatDoorZN27
namespace Go.Proofs.YtpfjakcfjpgbmaaGreatDoor
set_option linter.unusedVariables false
set_option linter.unusedSimpArgs false
open Go.RowKit Go.Rx

set_option maxRecDepth 1000000
theorem pJ100 : fitRet 12 (retJ 1 0 0) (readRun (txJ 1 0 0)) = true := by kernel_rfl
theorem pJ101 : fitRet 12 (retJ 1 0 1) (readRun (txJ 1 0 1)) = true := by kernel_rfl
theorem pJ102 : fitRet 12 (retJ 1 0 2) (readRun (txJ 1 0 2)) = true := by kernel_rfl
theorem pJ103 : fitRet 12 (retJ 1 0 3) (readRun (txJ 1 0 3)) = true := by kernel_rfl
theorem pJ104 : fitRet 12 (retJ 1 0 4) (readRun (txJ 1 0 4)) = true := by kernel_rfl
theorem pJ105 : fitRet 12 (retJ 1 0 5) (readRun (txJ 1 0 5)) = true := by kernel_rfl
theorem pJ110 : fitRet 12 (retJ 1 1 0) (readRun (txJ 1 1 0)) = true := by kernel_rfl
theorem pJ111 : fitRet 12 (retJ 1 1 1) (readRun (txJ 1 1 1)) = true := by kernel_rfl
theorem pJ112 : fitRet 12 (retJ 1 1 2) (readRun (txJ 1 1 2)) = true := by kernel_rfl
theorem pJ113 : fitRet 12 (retJ 1 1 3) (readRun (txJ 1 1 3)) = true := by kernel_rfl
theorem pJ114 : fitRet 12 (retJ 1 1 4) (readRun (txJ 1 1 4)) = true := by kernel_rfl
theorem pJ115 : fitRet 12 (retJ 1 1 5) (readRun (txJ 1 1 5)) = true := by kernel_rfl
theorem pJ120 : fitRet 12 (retJ 1 2 0) (readRun (txJ 1 2 0)) = true := by kernel_rfl
theorem pJ121 : fitRet 12 (retJ 1 2 1) (readRun (txJ 1 2 1)) = true := by kernel_rfl
theorem pJ122 : fitRet 12 (retJ 1 2 2) (readRun (txJ 1 2 2)) = true := by kernel_rfl
theorem pJ123 : fitRet 12 (retJ 1 2 3) (readRun (txJ 1 2 3)) = true := by kernel_rfl
theorem pJ124 : fitRet 12 (retJ 1 2 4) (readRun (txJ 1 2 4)) = true := by kernel_rfl
theorem pJ125 : fitRet 12 (retJ 1 2 5) (readRun (txJ 1 2 5)) = true := by kernel_rfl
theorem pJ130 : fitRet 12 (retJ 1 3 0) (readRun (txJ 1 3 0)) = true := by kernel_rfl
theorem pJ131 : fitRet 12 (retJ 1 3 1) (readRun (txJ 1 3 1)) = true := by kernel_rfl
theorem pJ132 : fitRet 12 (retJ 1 3 2) (readRun (txJ 1 3 2)) = true := by kernel_rfl
theorem pJ133 : fitRet 12 (retJ 1 3 3) (readRun (txJ 1 3 3)) = true := by kernel_rfl
theorem pJ134 : fitRet 12 (retJ 1 3 4) (readRun (txJ 1 3 4)) = true := by kernel_rfl
theorem pJ135 : fitRet 12 (retJ 1 3 5) (readRun (txJ 1 3 5)) = true := by kernel_rfl
theorem pJ140 : fitRet 12 (retJ 1 4 0) (readRun (txJ 1 4 0)) = true := by kernel_rfl
theorem pJ141 : fitRet 12 (retJ 1 4 1) (readRun (txJ 1 4 1)) = true := by kernel_rfl
theorem pJ142 : fitRet 12 (retJ 1 4 2) (readRun (txJ 1 4 2)) = true := by kernel_rfl
theorem pJ143 : fitRet 12 (retJ 1 4 3) (readRun (txJ 1 4 3)) = true := by kernel_rfl
theorem pJ144 : fitRet 12 (retJ 1 4 4) (readRun (txJ 1 4 4)) = true := by kernel_rfl
theorem pJ145 : fitRet 12 (retJ 1 4 5) (readRun (txJ 1 4 5)) = true := by kernel_rfl
theorem pJ150 : fitRet 12 (retJ 1 5 0) (readRun (txJ 1 5 0)) = true := by kernel_rfl
theorem pJ151 : fitRet 12 (retJ 1 5 1) (readRun (txJ 1 5 1)) = true := by kernel_rfl
theorem pJ152 : fitRet 12 (retJ 1 5 2) (readRun (txJ 1 5 2)) = true := by kernel_rfl
theorem pJ153 : fitRet 12 (retJ 1 5 3) (readRun (txJ 1 5 3)) = true := by kernel_rfl
theorem pJ154 : fitRet 12 (retJ 1 5 4) (readRun (txJ 1 5 4)) = true := by kernel_rfl
theorem pJ155 : fitRet 12 (retJ 1 5 5) (readRun (txJ 1 5 5)) = true := by kernel_rfl
theorem pJ1 {y z : Nat} (hy : y < 6) (hz : z < 6) : fitRet 12 (retJ 1 y z) (readRun (txJ 1 y z)) = true := by
  rcases six hy with rfl | rfl | rfl | rfl | rfl | rfl
  · rcases six hz with rfl | rfl | rfl | rfl | rfl | rfl
    · exact pJ100
    · exact pJ101
    · exact pJ102
    · exact pJ103
    · exact pJ104
    · exact pJ105
  · rcases six hz with rfl | rfl | rfl | rfl | rfl | rfl
    · exact pJ110
    · exact pJ111
    · exact pJ112
    · exact pJ113
    · exact pJ114
    · exact pJ115
  · rcases six hz with rfl | rfl | rfl | rfl | rfl | rfl
    · exact pJ120
    · exact pJ121
    · exact pJ122
    · exact pJ123
    · exact pJ124
    · exact pJ125
  · rcases six hz with rfl | rfl | rfl | rfl | rfl | rfl
    · exact pJ130
    · exact pJ131
    · exact pJ132
    · exact pJ133
    · exact pJ134
    · exact pJ135
  · rcases six hz with rfl | rfl | rfl | rfl | rfl | rfl
    · exact pJ140
    · exact pJ141
    · exact pJ142
    · exact pJ143
    · exact pJ144
    · exact pJ145
  · rcases six hz with rfl | rfl | rfl | rfl | rfl | rfl
    · exact pJ150
    · exact pJ151
    · exact pJ152
    · exact pJ153
    · exact pJ154
    · exact pJ155
end Go.Proofs.YtpfjakcfjpgbmaaGreatDoor
