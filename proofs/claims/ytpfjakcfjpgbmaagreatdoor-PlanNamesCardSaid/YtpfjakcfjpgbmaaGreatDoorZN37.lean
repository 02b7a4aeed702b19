/- Runs of lang.Parse (written by tools/pnparse.py). -/
import Derived.Test.YtpfjakcfjpgbmaaGreatDoorZN27
namespace Go.Proofs.YtpfjakcfjpgbmaaGreatDoor
set_option linter.unusedVariables false
set_option linter.unusedSimpArgs false
open Go.RowKit Go.Rx

set_option maxRecDepth 1000000
theorem pJ300 : fitRet 12 (retJ 3 0 0) (readRun (txJ 3 0 0)) = true := by kernel_rfl
theorem pJ301 : fitRet 12 (retJ 3 0 1) (readRun (txJ 3 0 1)) = true := by kernel_rfl
theorem pJ302 : fitRet 12 (retJ 3 0 2) (readRun (txJ 3 0 2)) = true := by kernel_rfl
theorem pJ303 : fitRet 12 (retJ 3 0 3) (readRun (txJ 3 0 3)) = true := by kernel_rfl
theorem pJ304 : fitRet 12 (retJ 3 0 4) (readRun (txJ 3 0 4)) = true := by kernel_rfl
theorem pJ305 : fitRet 12 (retJ 3 0 5) (readRun (txJ 3 0 5)) = true := by kernel_rfl
theorem pJ310 : fitRet 12 (retJ 3 1 0) (readRun (txJ 3 1 0)) = true := by kernel_rfl
theorem pJ311 : fitRet 12 (retJ 3 1 1) (readRun (txJ 3 1 1)) = true := by kernel_rfl
theorem pJ312 : fitRet 12 (retJ 3 1 2) (readRun (txJ 3 1 2)) = true := by kernel_rfl
theorem pJ313 : fitRet 12 (retJ 3 1 3) (readRun (txJ 3 1 3)) = true := by kernel_rfl
theorem pJ314 : fitRet 12 (retJ 3 1 4) (readRun (txJ 3 1 4)) = true := by kernel_rfl
theorem pJ315 : fitRet 12 (retJ 3 1 5) (readRun (txJ 3 1 5)) = true := by kernel_rfl
theorem pJ320 : fitRet 12 (retJ 3 2 0) (readRun (txJ 3 2 0)) = true := by kernel_rfl
theorem pJ321 : fitRet 12 (retJ 3 2 1) (readRun (txJ 3 2 1)) = true := by kernel_rfl
theorem pJ322 : fitRet 12 (retJ 3 2 2) (readRun (txJ 3 2 2)) = true := by kernel_rfl
theorem pJ323 : fitRet 12 (retJ 3 2 3) (readRun (txJ 3 2 3)) = true := by kernel_rfl
theorem pJ324 : fitRet 12 (retJ 3 2 4) (readRun (txJ 3 2 4)) = true := by kernel_rfl
theorem pJ325 : fitRet 12 (retJ 3 2 5) (readRun (txJ 3 2 5)) = true := by kernel_rfl
theorem pJ330 : fitRet 12 (retJ 3 3 0) (readRun (txJ 3 3 0)) = true := by kernel_rfl
theorem pJ331 : fitRet 12 (retJ 3 3 1) (readRun (txJ 3 3 1)) = true := by kernel_rfl
theorem pJ332 : fitRet 12 (retJ 3 3 2) (readRun (txJ 3 3 2)) = true := by kernel_rfl
theorem pJ333 : fitRet 12 (retJ 3 3 3) (readRun (txJ 3 3 3)) = true := by kernel_rfl
theorem pJ334 : fitRet 12 (retJ 3 3 4) (readRun (txJ 3 3 4)) = true := by kernel_rfl
theorem pJ335 : fitRet 12 (retJ 3 3 5) (readRun (txJ 3 3 5)) = true := by kernel_rfl
theorem pJ340 : fitRet 12 (retJ 3 4 0) (readRun (txJ 3 4 0)) = true := by kernel_rfl
theorem pJ341 : fitRet 12 (retJ 3 4 1) (readRun (txJ 3 4 1)) = true := by kernel_rfl
theorem pJ342 : fitRet 12 (retJ 3 4 2) (readRun (txJ 3 4 2)) = true := by kernel_rfl
theorem pJ343 : fitRet 12 (retJ 3 4 3) (readRun (txJ 3 4 3)) = true := by kernel_rfl
theorem pJ344 : fitRet 12 (retJ 3 4 4) (readRun (txJ 3 4 4)) = true := by kernel_rfl
theorem pJ345 : fitRet 12 (retJ 3 4 5) (readRun (txJ 3 4 5)) = true := by kernel_rfl
theorem pJ350 : fitRet 12 (retJ 3 5 0) (readRun (txJ 3 5 0)) = true := by kernel_rfl
theorem pJ351 : fitRet 12 (retJ 3 5 1) (readRun (txJ 3 5 1)) = true := by kernel_rfl
theorem pJ352 : fitRet 12 (retJ 3 5 2) (readRun (txJ 3 5 2)) = true := by kernel_rfl
theorem pJ353 : fitRet 12 (retJ 3 5 3) (readRun (txJ 3 5 3)) = true := by kernel_rfl
theorem pJ354 : fitRet 12 (retJ 3 5 4) (readRun (txJ 3 5 4)) = true := by kernel_rfl
theorem pJ355 : fitRet 12 (retJ 3 5 5) (readRun (txJ 3 5 5)) = true := by kernel_rfl
theorem pJ3 {y z : Nat} (hy : y < 6) (hz : z < 6) : fitRet 12 (retJ 3 y z) (readRun (txJ 3 y z)) = true := by
  rcases six hy with rfl | rfl | rfl | rfl | rfl | rfl
  · rcases six hz with rfl | rfl | rfl | rfl | rfl | rfl
    · exact pJ300
    · exact pJ301
    · exact pJ302
    · exact pJ303
    · exact pJ304
    · exact pJ305
  · rcases six hz with rfl | rfl | rfl | rfl | rfl | rfl
    · exact pJ310
    · exact pJ311
    · exact pJ312
    · exact pJ313
    · exact pJ314
    · exact pJ315
  · rcases six hz with rfl | rfl | rfl | rfl | rfl | rfl
    · exact pJ320
    · exact pJ321
    · exact pJ322
    · exact pJ323
    · exact pJ324
    · exact pJ325
  · rcases six hz with rfl | rfl | rfl | rfl | rfl | rfl
    · exact pJ330
    · exact pJ331
    · exact pJ332
    · exact pJ333
    · exact pJ334
    · exact pJ335
  · rcases six hz with rfl | rfl | rfl | rfl | rfl | rfl
    · exact pJ340
    · exact pJ341
    · exact pJ342
    · exact pJ343
    · exact pJ344
    · exact pJ345
  · rcases six hz with rfl | rfl | rfl | rfl | rfl | rfl
    · exact pJ350
    · exact pJ351
    · exact pJ352
    · exact pJ353
    · exact pJ354
    · exact pJ355
end Go.Proofs.YtpfjakcfjpgbmaaGreatDoor
