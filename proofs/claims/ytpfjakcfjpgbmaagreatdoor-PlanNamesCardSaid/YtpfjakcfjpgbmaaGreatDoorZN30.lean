/- Runs of lang.Parse (written by tools/pnparse.py). -/
import Derived.Test.YtpfjakcfjpgbmaaGreatDoorZN27
namespace Go.Proofs.YtpfjakcfjpgbmaaGreatDoor
set_option linter.unusedVariables false
set_option linter.unusedSimpArgs false
open Go.RowKit Go.Rx

set_option maxRecDepth 1000000
theorem pA200 : fitRet 12 (retA 2 0 0) (readRun (txA 2 0 0)) = true := by kernel_rfl
theorem pA201 : fitRet 12 (retA 2 0 1) (readRun (txA 2 0 1)) = true := by kernel_rfl
theorem pA202 : fitRet 12 (retA 2 0 2) (readRun (txA 2 0 2)) = true := by kernel_rfl
theorem pA203 : fitRet 12 (retA 2 0 3) (readRun (txA 2 0 3)) = true := by kernel_rfl
theorem pA204 : fitRet 12 (retA 2 0 4) (readRun (txA 2 0 4)) = true := by kernel_rfl
theorem pA205 : fitRet 12 (retA 2 0 5) (readRun (txA 2 0 5)) = true := by kernel_rfl
theorem pA210 : fitRet 12 (retA 2 1 0) (readRun (txA 2 1 0)) = true := by kernel_rfl
theorem pA211 : fitRet 12 (retA 2 1 1) (readRun (txA 2 1 1)) = true := by kernel_rfl
theorem pA212 : fitRet 12 (retA 2 1 2) (readRun (txA 2 1 2)) = true := by kernel_rfl
theorem pA213 : fitRet 12 (retA 2 1 3) (readRun (txA 2 1 3)) = true := by kernel_rfl
theorem pA214 : fitRet 12 (retA 2 1 4) (readRun (txA 2 1 4)) = true := by kernel_rfl
theorem pA215 : fitRet 12 (retA 2 1 5) (readRun (txA 2 1 5)) = true := by kernel_rfl
theorem pA220 : fitRet 12 (retA 2 2 0) (readRun (txA 2 2 0)) = true := by kernel_rfl
theorem pA221 : fitRet 12 (retA 2 2 1) (readRun (txA 2 2 1)) = true := by kernel_rfl
theorem pA222 : fitRet 12 (retA 2 2 2) (readRun (txA 2 2 2)) = true := by kernel_rfl
theorem pA223 : fitRet 12 (retA 2 2 3) (readRun (txA 2 2 3)) = true := by kernel_rfl
theorem pA224 : fitRet 12 (retA 2 2 4) (readRun (txA 2 2 4)) = true := by kernel_rfl
theorem pA225 : fitRet 12 (retA 2 2 5) (readRun (txA 2 2 5)) = true := by kernel_rfl
theorem pA230 : fitRet 12 (retA 2 3 0) (readRun (txA 2 3 0)) = true := by kernel_rfl
theorem pA231 : fitRet 12 (retA 2 3 1) (readRun (txA 2 3 1)) = true := by kernel_rfl
theorem pA232 : fitRet 12 (retA 2 3 2) (readRun (txA 2 3 2)) = true := by kernel_rfl
theorem pA233 : fitRet 12 (retA 2 3 3) (readRun (txA 2 3 3)) = true := by kernel_rfl
theorem pA234 : fitRet 12 (retA 2 3 4) (readRun (txA 2 3 4)) = true := by kernel_rfl
theorem pA235 : fitRet 12 (retA 2 3 5) (readRun (txA 2 3 5)) = true := by kernel_rfl
theorem pA240 : fitRet 12 (retA 2 4 0) (readRun (txA 2 4 0)) = true := by kernel_rfl
theorem pA241 : fitRet 12 (retA 2 4 1) (readRun (txA 2 4 1)) = true := by kernel_rfl
theorem pA242 : fitRet 12 (retA 2 4 2) (readRun (txA 2 4 2)) = true := by kernel_rfl
theorem pA243 : fitRet 12 (retA 2 4 3) (readRun (txA 2 4 3)) = true := by kernel_rfl
theorem pA244 : fitRet 12 (retA 2 4 4) (readRun (txA 2 4 4)) = true := by kernel_rfl
theorem pA245 : fitRet 12 (retA 2 4 5) (readRun (txA 2 4 5)) = true := by kernel_rfl
theorem pA250 : fitRet 12 (retA 2 5 0) (readRun (txA 2 5 0)) = true := by kernel_rfl
theorem pA251 : fitRet 12 (retA 2 5 1) (readRun (txA 2 5 1)) = true := by kernel_rfl
theorem pA252 : fitRet 12 (retA 2 5 2) (readRun (txA 2 5 2)) = true := by kernel_rfl
theorem pA253 : fitRet 12 (retA 2 5 3) (readRun (txA 2 5 3)) = true := by kernel_rfl
theorem pA254 : fitRet 12 (retA 2 5 4) (readRun (txA 2 5 4)) = true := by kernel_rfl
theorem pA255 : fitRet 12 (retA 2 5 5) (readRun (txA 2 5 5)) = true := by kernel_rfl
theorem pA2 {y z : Nat} (hy : y < 6) (hz : z < 6) : fitRet 12 (retA 2 y z) (readRun (txA 2 y z)) = true := by
  rcases six hy with rfl | rfl | rfl | rfl | rfl | rfl
  · rcases six hz with rfl | rfl | rfl | rfl | rfl | rfl
    · exact pA200
    · exact pA201
    · exact pA202
    · exact pA203
    · exact pA204
    · exact pA205
  · rcases six hz with rfl | rfl | rfl | rfl | rfl | rfl
    · exact pA210
    · exact pA211
    · exact pA212
    · exact pA213
    · exact pA214
    · exact pA215
  · rcases six hz with rfl | rfl | rfl | rfl | rfl | rfl
    · exact pA220
    · exact pA221
    · exact pA222
    · exact pA223
    · exact pA224
    · exact pA225
  · rcases six hz with rfl | rfl | rfl | rfl | rfl | rfl
    · exact pA230
    · exact pA231
    · exact pA232
    · exact pA233
    · exact pA234
    · exact pA235
  · rcases six hz with rfl | rfl | rfl | rfl | rfl | rfl
    · exact pA240
    · exact pA241
    · exact pA242
    · exact pA243
    · exact pA244
    · exact pA245
  · rcases six hz with rfl | rfl | rfl | rfl | rfl | rfl
    · exact pA250
    · exact pA251
    · exact pA252
    · exact pA253
    · exact pA254
    · exact pA255
end Go.Proofs.YtpfjakcfjpgbmaaGreatDoor
