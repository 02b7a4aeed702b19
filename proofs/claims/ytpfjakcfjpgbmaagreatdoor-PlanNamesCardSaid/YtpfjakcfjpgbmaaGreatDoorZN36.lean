/- Runs of lang.Parse (written by tools/pnparse.py). -/
import Derived.Test.YtpfjakcfjpgbmaaGreatDoorZN27
namespace Go.Proofs.YtpfjakcfjpgbmaaGreatDoor
set_option linter.unusedVariables false
set_option linter.unusedSimpArgs false
open Go.RowKit Go.Rx

set_option maxRecDepth 1000000
theorem pJ200 : fitRet 12 (retJ 2 0 0) (readRun (txJ 2 0 0)) = true := by kernel_rfl
theorem pJ201 : fitRet 12 (retJ 2 0 1) (readRun (txJ 2 0 1)) = true := by kernel_rfl
theorem pJ202 : fitRet 12 (retJ 2 0 2) (readRun (txJ 2 0 2)) = true := by kernel_rfl
theorem pJ203 : fitRet 12 (retJ 2 0 3) (readRun (txJ 2 0 3)) = true := by kernel_rfl
theorem pJ204 : fitRet 12 (retJ 2 0 4) (readRun (txJ 2 0 4)) = true := by kernel_rfl
theorem pJ205 : fitRet 12 (retJ 2 0 5) (readRun (txJ 2 0 5)) = true := by kernel_rfl
theorem pJ210 : fitRet 12 (retJ 2 1 0) (readRun (txJ 2 1 0)) = true := by kernel_rfl
theorem pJ211 : fitRet 12 (retJ 2 1 1) (readRun (txJ 2 1 1)) = true := by kernel_rfl
theorem pJ212 : fitRet 12 (retJ 2 1 2) (readRun (txJ 2 1 2)) = true := by kernel_rfl
theorem pJ213 : fitRet 12 (retJ 2 1 3) (readRun (txJ 2 1 3)) = true := by kernel_rfl
theorem pJ214 : fitRet 12 (retJ 2 1 4) (readRun (txJ 2 1 4)) = true := by kernel_rfl
theorem pJ215 : fitRet 12 (retJ 2 1 5) (readRun (txJ 2 1 5)) = true := by kernel_rfl
theorem pJ220 : fitRet 12 (retJ 2 2 0) (readRun (txJ 2 2 0)) = true := by kernel_rfl
theorem pJ221 : fitRet 12 (retJ 2 2 1) (readRun (txJ 2 2 1)) = true := by kernel_rfl
theorem pJ222 : fitRet 12 (retJ 2 2 2) (readRun (txJ 2 2 2)) = true := by kernel_rfl
theorem pJ223 : fitRet 12 (retJ 2 2 3) (readRun (txJ 2 2 3)) = true := by kernel_rfl
theorem pJ224 : fitRet 12 (retJ 2 2 4) (readRun (txJ 2 2 4)) = true := by kernel_rfl
theorem pJ225 : fitRet 12 (retJ 2 2 5) (readRun (txJ 2 2 5)) = true := by kernel_rfl
theorem pJ230 : fitRet 12 (retJ 2 3 0) (readRun (txJ 2 3 0)) = true := by kernel_rfl
theorem pJ231 : fitRet 12 (retJ 2 3 1) (readRun (txJ 2 3 1)) = true := by kernel_rfl
theorem pJ232 : fitRet 12 (retJ 2 3 2) (readRun (txJ 2 3 2)) = true := by kernel_rfl
theorem pJ233 : fitRet 12 (retJ 2 3 3) (readRun (txJ 2 3 3)) = true := by kernel_rfl
theorem pJ234 : fitRet 12 (retJ 2 3 4) (readRun (txJ 2 3 4)) = true := by kernel_rfl
theorem pJ235 : fitRet 12 (retJ 2 3 5) (readRun (txJ 2 3 5)) = true := by kernel_rfl
theorem pJ240 : fitRet 12 (retJ 2 4 0) (readRun (txJ 2 4 0)) = true := by kernel_rfl
theorem pJ241 : fitRet 12 (retJ 2 4 1) (readRun (txJ 2 4 1)) = true := by kernel_rfl
theorem pJ242 : fitRet 12 (retJ 2 4 2) (readRun (txJ 2 4 2)) = true := by kernel_rfl
theorem pJ243 : fitRet 12 (retJ 2 4 3) (readRun (txJ 2 4 3)) = true := by kernel_rfl
theorem pJ244 : fitRet 12 (retJ 2 4 4) (readRun (txJ 2 4 4)) = true := by kernel_rfl
theorem pJ245 : fitRet 12 (retJ 2 4 5) (readRun (txJ 2 4 5)) = true := by kernel_rfl
theorem pJ250 : fitRet 12 (retJ 2 5 0) (readRun (txJ 2 5 0)) = true := by kernel_rfl
theorem pJ251 : fitRet 12 (retJ 2 5 1) (readRun (txJ 2 5 1)) = true := by kernel_rfl
theorem pJ252 : fitRet 12 (retJ 2 5 2) (readRun (txJ 2 5 2)) = true := by kernel_rfl
theorem pJ253 : fitRet 12 (retJ 2 5 3) (readRun (txJ 2 5 3)) = true := by kernel_rfl
theorem pJ254 : fitRet 12 (retJ 2 5 4) (readRun (txJ 2 5 4)) = true := by kernel_rfl
theorem pJ255 : fitRet 12 (retJ 2 5 5) (readRun (txJ 2 5 5)) = true := by kernel_rfl
theorem pJ2 {y z : Nat} (hy : y < 6) (hz : z < 6) : fitRet 12 (retJ 2 y z) (readRun (txJ 2 y z)) = true := by
  rcases six hy with rfl | rfl | rfl | rfl | rfl | rfl
  · rcases six hz with rfl | rfl | rfl | rfl | rfl | rfl
    · exact pJ200
    · exact pJ201
    · exact pJ202
    · exact pJ203
    · exact pJ204
    · exact pJ205
  · rcases six hz with rfl | rfl | rfl | rfl | rfl | rfl
    · exact pJ210
    · exact pJ211
    · exact pJ212
    · exact pJ213
    · exact pJ214
    · exact pJ215
  · rcases six hz with rfl | rfl | rfl | rfl | rfl | rfl
    · exact pJ220
    · exact pJ221
    · exact pJ222
    · exact pJ223
    · exact pJ224
    · exact pJ225
  · rcases six hz with rfl | rfl | rfl | rfl | rfl | rfl
    · exact pJ230
    · exact pJ231
    · exact pJ232
    · exact pJ233
    · exact pJ234
    · exact pJ235
  · rcases six hz with rfl | rfl | rfl | rfl | rfl | rfl
    · exact pJ240
    · exact pJ241
    · exact pJ242
    · exact pJ243
    · exact pJ244
    · exact pJ245
  · rcases six hz with rfl | rfl | rfl | rfl | rfl | rfl
    · exact pJ250
    · exact pJ251
    · exact pJ252
    · exact pJ253
    · exact pJ254
    · exact pJ255
end Go.Proofs.YtpfjakcfjpgbmaaGreatDoor
