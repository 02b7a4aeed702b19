/- Runs of lang.Parse (written by tools/pnparse.py). -/
import Derived.Test.YtpfjakcfjpgbmaaGreatDoorZN27
namespace Go.Proofs.YtpfjakcfjpgbmaaGreatDoor
set_option linter.unusedVariables false
set_option linter.unusedSimpArgs false
open Go.RowKit Go.Rx

set_option maxRecDepth 1000000
theorem pA100 : fitRet 12 (retA 1 0 0) (readRun (txA 1 0 0)) = true := by kernel_rfl
theorem pA101 : fitRet 12 (retA 1 0 1) (readRun (txA 1 0 1)) = true := by kernel_rfl
theorem pA102 : fitRet 12 (retA 1 0 2) (readRun (txA 1 0 2)) = true := by kernel_rfl
theorem pA103 : fitRet 12 (retA 1 0 3) (readRun (txA 1 0 3)) = true := by kernel_rfl
theorem pA104 : fitRet 12 (retA 1 0 4) (readRun (txA 1 0 4)) = true := by kernel_rfl
theorem pA105 : fitRet 12 (retA 1 0 5) (readRun (txA 1 0 5)) = true := by kernel_rfl
theorem pA110 : fitRet 12 (retA 1 1 0) (readRun (txA 1 1 0)) = true := by kernel_rfl
theorem pA111 : fitRet 12 (retA 1 1 1) (readRun (txA 1 1 1)) = true := by kernel_rfl
theorem pA112 : fitRet 12 (retA 1 1 2) (readRun (txA 1 1 2)) = true := by kernel_rfl
theorem pA113 : fitRet 12 (retA 1 1 3) (readRun (txA 1 1 3)) = true := by kernel_rfl
theorem pA114 : fitRet 12 (retA 1 1 4) (readRun (txA 1 1 4)) = true := by kernel_rfl
theorem pA115 : fitRet 12 (retA 1 1 5) (readRun (txA 1 1 5)) = true := by kernel_rfl
theorem pA120 : fitRet 12 (retA 1 2 0) (readRun (txA 1 2 0)) = true := by kernel_rfl
theorem pA121 : fitRet 12 (retA 1 2 1) (readRun (txA 1 2 1)) = true := by kernel_rfl
theorem pA122 : fitRet 12 (retA 1 2 2) (readRun (txA 1 2 2)) = true := by kernel_rfl
theorem pA123 : fitRet 12 (retA 1 2 3) (readRun (txA 1 2 3)) = true := by kernel_rfl
theorem pA124 : fitRet 12 (retA 1 2 4) (readRun (txA 1 2 4)) = true := by kernel_rfl
theorem pA125 : fitRet 12 (retA 1 2 5) (readRun (txA 1 2 5)) = true := by kernel_rfl
theorem pA130 : fitRet 12 (retA 1 3 0) (readRun (txA 1 3 0)) = true := by kernel_rfl
theorem pA131 : fitRet 12 (retA 1 3 1) (readRun (txA 1 3 1)) = true := by kernel_rfl
theorem pA132 : fitRet 12 (retA 1 3 2) (readRun (txA 1 3 2)) = true := by kernel_rfl
theorem pA133 : fitRet 12 (retA 1 3 3) (readRun (txA 1 3 3)) = true := by kernel_rfl
theorem pA134 : fitRet 12 (retA 1 3 4) (readRun (txA 1 3 4)) = true := by kernel_rfl
theorem pA135 : fitRet 12 (retA 1 3 5) (readRun (txA 1 3 5)) = true := by kernel_rfl
theorem pA140 : fitRet 12 (retA 1 4 0) (readRun (txA 1 4 0)) = true := by kernel_rfl
theorem pA141 : fitRet 12 (retA 1 4 1) (readRun (txA 1 4 1)) = true := by kernel_rfl
theorem pA142 : fitRet 12 (retA 1 4 2) (readRun (txA 1 4 2)) = true := by kernel_rfl
theorem pA143 : fitRet 12 (retA 1 4 3) (readRun (txA 1 4 3)) = true := by kernel_rfl
theorem pA144 : fitRet 12 (retA 1 4 4) (readRun (txA 1 4 4)) = true := by kernel_rfl
theorem pA145 : fitRet 12 (retA 1 4 5) (readRun (txA 1 4 5)) = true := by kernel_rfl
theorem pA150 : fitRet 12 (retA 1 5 0) (readRun (txA 1 5 0)) = true := by kernel_rfl
theorem pA151 : fitRet 12 (retA 1 5 1) (readRun (txA 1 5 1)) = true := by kernel_rfl
theorem pA152 : fitRet 12 (retA 1 5 2) (readRun (txA 1 5 2)) = true := by kernel_rfl
theorem pA153 : fitRet 12 (retA 1 5 3) (readRun (txA 1 5 3)) = true := by kernel_rfl
theorem pA154 : fitRet 12 (retA 1 5 4) (readRun (txA 1 5 4)) = true := by kernel_rfl
theorem pA155 : fitRet 12 (retA 1 5 5) (readRun (txA 1 5 5)) = true := by kernel_rfl
theorem pA1 {y z : Nat} (hy : y < 6) (hz : z < 6) : fitRet 12 (retA 1 y z) (readRun (txA 1 y z)) = true := by
  rcases six hy with rfl | rfl | rfl | rfl | rfl | rfl
  · rcases six hz with rfl | rfl | rfl | rfl | rfl | rfl
    · exact pA100
    · exact pA101
    · exact pA102
    · exact pA103
    · exact pA104
    · exact pA105
  · rcases six hz with rfl | rfl | rfl | rfl | rfl | rfl
    · exact pA110
    · exact pA111
    · exact pA112
    · exact pA113
    · exact pA114
    · exact pA115
  · rcases six hz with rfl | rfl | rfl | rfl | rfl | rfl
    · exact pA120
    · exact pA121
    · exact pA122
    · exact pA123
    · exact pA124
    · exact pA125
  · rcases six hz with rfl | rfl | rfl | rfl | rfl | rfl
    · exact pA130
    · exact pA131
    · exact pA132
    · exact pA133
    · exact pA134
    · exact pA135
  · rcases six hz with rfl | rfl | rfl | rfl | rfl | rfl
    · exact pA140
    · exact pA141
    · exact pA142
    · exact pA143
    · exact pA144
    · exact pA145
  · rcases six hz with rfl | rfl | rfl | rfl | rfl | rfl
    · exact pA150
    · exact pA151
    · exact pA152
    · exact pA153
    · exact pA154
    · exact pA155
end Go.Proofs.YtpfjakcfjpgbmaaGreatDoor
