/- Runs of lang.Parse (written by tools/pnparse.py). -/
import Derived.Test.YtpfjakcfjpgbmaaGreatDoorZN27
namespace Go.Proofs.YtpfjakcfjpgbmaaGreatDoor
set_option linter.unusedVariables false
set_option linter.unusedSimpArgs false
open Go.RowKit Go.Rx

set_option maxRecDepth 1000000
theorem pA300 : fitRet 12 (retA 3 0 0) (readRun (txA 3 0 0)) = true := by kernel_rfl
theorem pA301 : fitRet 12 (retA 3 0 1) (readRun (txA 3 0 1)) = true := by kernel_rfl
theorem pA302 : fitRet 12 (retA 3 0 2) (readRun (txA 3 0 2)) = true := by kernel_rfl
theorem pA303 : fitRet 12 (retA 3 0 3) (readRun (txA 3 0 3)) = true := by kernel_rfl
theorem pA304 : fitRet 12 (retA 3 0 4) (readRun (txA 3 0 4)) = true := by kernel_rfl
theorem pA305 : fitRet 12 (retA 3 0 5) (readRun (txA 3 0 5)) = true := by kernel_rfl
theorem pA310 : fitRet 12 (retA 3 1 0) (readRun (txA 3 1 0)) = true := by kernel_rfl
theorem pA311 : fitRet 12 (retA 3 1 1) (readRun (txA 3 1 1)) = true := by kernel_rfl
theorem pA312 : fitRet 12 (retA 3 1 2) (readRun (txA 3 1 2)) = true := by kernel_rfl
theorem pA313 : fitRet 12 (retA 3 1 3) (readRun (txA 3 1 3)) = true := by kernel_rfl
theorem pA314 : fitRet 12 (retA 3 1 4) (readRun (txA 3 1 4)) = true := by kernel_rfl
theorem pA315 : fitRet 12 (retA 3 1 5) (readRun (txA 3 1 5)) = true := by kernel_rfl
theorem pA320 : fitRet 12 (retA 3 2 0) (readRun (txA 3 2 0)) = true := by kernel_rfl
theorem pA321 : fitRet 12 (retA 3 2 1) (readRun (txA 3 2 1)) = true := by kernel_rfl
theorem pA322 : fitRet 12 (retA 3 2 2) (readRun (txA 3 2 2)) = true := by kernel_rfl
theorem pA323 : fitRet 12 (retA 3 2 3) (readRun (txA 3 2 3)) = true := by kernel_rfl
theorem pA324 : fitRet 12 (retA 3 2 4) (readRun (txA 3 2 4)) = true := by kernel_rfl
theorem pA325 : fitRet 12 (retA 3 2 5) (readRun (txA 3 2 5)) = true := by kernel_rfl
theorem pA330 : fitRet 12 (retA 3 3 0) (readRun (txA 3 3 0)) = true := by kernel_rfl
theorem pA331 : fitRet 12 (retA 3 3 1) (readRun (txA 3 3 1)) = true := by kernel_rfl
theorem pA332 : fitRet 12 (retA 3 3 2) (readRun (txA 3 3 2)) = true := by kernel_rfl
theorem pA333 : fitRet 12 (retA 3 3 3) (readRun (txA 3 3 3)) = true := by kernel_rfl
theorem pA334 : fitRet 12 (retA 3 3 4) (readRun (txA 3 3 4)) = true := by kernel_rfl
theorem pA335 : fitRet 12 (retA 3 3 5) (readRun (txA 3 3 5)) = true := by kernel_rfl
theorem pA340 : fitRet 12 (retA 3 4 0) (readRun (txA 3 4 0)) = true := by kernel_rfl
theorem pA341 : fitRet 12 (retA 3 4 1) (readRun (txA 3 4 1)) = true := by kernel_rfl
theorem pA342 : fitRet 12 (retA 3 4 2) (readRun (txA 3 4 2)) = true := by kernel_rfl
theorem pA343 : fitRet 12 (retA 3 4 3) (readRun (txA 3 4 3)) = true := by kernel_rfl
theorem pA344 : fitRet 12 (retA 3 4 4) (readRun (txA 3 4 4)) = true := by kernel_rfl
theorem pA345 : fitRet 12 (retA 3 4 5) (readRun (txA 3 4 5)) = true := by kernel_rfl
theorem pA350 : fitRet 12 (retA 3 5 0) (readRun (txA 3 5 0)) = true := by kernel_rfl
theorem pA351 : fitRet 12 (retA 3 5 1) (readRun (txA 3 5 1)) = true := by kernel_rfl
theorem pA352 : fitRet 12 (retA 3 5 2) (readRun (txA 3 5 2)) = true := by kernel_rfl
theorem pA353 : fitRet 12 (retA 3 5 3) (readRun (txA 3 5 3)) = true := by kernel_rfl
theorem pA354 : fitRet 12 (retA 3 5 4) (readRun (txA 3 5 4)) = true := by kernel_rfl
theorem pA355 : fitRet 12 (retA 3 5 5) (readRun (txA 3 5 5)) = true := by kernel_rfl
theorem pA3 {y z : Nat} (hy : y < 6) (hz : z < 6) : fitRet 12 (retA 3 y z) (readRun (txA 3 y z)) = true := by
  rcases six hy with rfl | rfl | rfl | rfl | rfl | rfl
  · rcases six hz with rfl | rfl | rfl | rfl | rfl | rfl
    · exact pA300
    · exact pA301
    · exact pA302
    · exact pA303
    · exact pA304
    · exact pA305
  · rcases six hz with rfl | rfl | rfl | rfl | rfl | rfl
    · exact pA310
    · exact pA311
    · exact pA312
    · exact pA313
    · exact pA314
    · exact pA315
  · rcases six hz with rfl | rfl | rfl | rfl | rfl | rfl
    · exact pA320
    · exact pA321
    · exact pA322
    · exact pA323
    · exact pA324
    · exact pA325
  · rcases six hz with rfl | rfl | rfl | rfl | rfl | rfl
    · exact pA330
    · exact pA331
    · exact pA332
    · exact pA333
    · exact pA334
    · exact pA335
  · rcases six hz with rfl | rfl | rfl | rfl | rfl | rfl
    · exact pA340
    · exact pA341
    · exact pA342
    · exact pA343
    · exact pA344
    · exact pA345
  · rcases six hz with rfl | rfl | rfl | rfl | rfl | rfl
    · exact pA350
    · exact pA351
    · exact pA352
    · exact pA353
    · exact pA354
    · exact pA355
end Go.Proofs.YtpfjakcfjpgbmaaGreatDoor
