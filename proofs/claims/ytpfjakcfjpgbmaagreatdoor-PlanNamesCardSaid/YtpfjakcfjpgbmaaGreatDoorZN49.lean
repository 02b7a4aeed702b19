/- Runs of PlanNames (written by tools/pnruns.py). -/
import Derived.Test.YtpfjakcfjpgbmaaGreatDoorZN41
namespace Go.Proofs.YtpfjakcfjpgbmaaGreatDoor
set_option linter.unusedVariables false
set_option linter.unusedSimpArgs false
open Go.RowKit Go.Rx

set_option maxRecDepth 1000000
theorem ttrue130 (n0 n1 n2 n3 : Int) : [runN true 1 3 0 0 n0 n1 n2 n3, runN true 1 3 0 1 n0 n1 n2 n3, runN true 1 3 0 2 n0 n1 n2 n3, runN true 1 3 0 3 n0 n1 n2 n3, runN true 1 3 0 4 n0 n1 n2 n3, runN true 1 3 0 5 n0 n1 n2 n3] = [okN n0 n1 n2 n3, okN n0 n1 n2 n3, okN n0 n1 n2 n3, okN n0 n1 n2 n3, okN n0 n1 n2 n3, okN n0 n1 n2 n3] := by kernel_rfl
theorem ttrue131 (n0 n1 n2 n3 : Int) : [runN true 1 3 1 0 n0 n1 n2 n3, runN true 1 3 1 1 n0 n1 n2 n3, runN true 1 3 1 2 n0 n1 n2 n3, runN true 1 3 1 3 n0 n1 n2 n3, runN true 1 3 1 4 n0 n1 n2 n3, runN true 1 3 1 5 n0 n1 n2 n3] = [okN n0 n1 n2 n3, okN n0 n1 n2 n3, okN n0 n1 n2 n3, okN n0 n1 n2 n3, okN n0 n1 n2 n3, okN n0 n1 n2 n3] := by kernel_rfl
theorem ttrue132 (n0 n1 n2 n3 : Int) : [runN true 1 3 2 0 n0 n1 n2 n3, runN true 1 3 2 1 n0 n1 n2 n3, runN true 1 3 2 2 n0 n1 n2 n3, runN true 1 3 2 3 n0 n1 n2 n3, runN true 1 3 2 4 n0 n1 n2 n3, runN true 1 3 2 5 n0 n1 n2 n3] = [okN n0 n1 n2 n3, okN n0 n1 n2 n3, okN n0 n1 n2 n3, okN n0 n1 n2 n3, okN n0 n1 n2 n3, okN n0 n1 n2 n3] := by kernel_rfl
theorem ttrue133 (n0 n1 n2 n3 : Int) : [runN true 1 3 3 0 n0 n1 n2 n3, runN true 1 3 3 1 n0 n1 n2 n3, runN true 1 3 3 2 n0 n1 n2 n3, runN true 1 3 3 3 n0 n1 n2 n3, runN true 1 3 3 4 n0 n1 n2 n3, runN true 1 3 3 5 n0 n1 n2 n3] = [okN n0 n1 n2 n3, okN n0 n1 n2 n3, okN n0 n1 n2 n3, okN n0 n1 n2 n3, okN n0 n1 n2 n3, okN n0 n1 n2 n3] := by kernel_rfl
theorem ttrue134 (n0 n1 n2 n3 : Int) : [runN true 1 3 4 0 n0 n1 n2 n3, runN true 1 3 4 1 n0 n1 n2 n3, runN true 1 3 4 2 n0 n1 n2 n3, runN true 1 3 4 3 n0 n1 n2 n3, runN true 1 3 4 4 n0 n1 n2 n3, runN true 1 3 4 5 n0 n1 n2 n3] = [okN n0 n1 n2 n3, okN n0 n1 n2 n3, okN n0 n1 n2 n3, okN n0 n1 n2 n3, okN n0 n1 n2 n3, okN n0 n1 n2 n3] := by kernel_rfl
theorem ttrue135 (n0 n1 n2 n3 : Int) : [runN true 1 3 5 0 n0 n1 n2 n3, runN true 1 3 5 1 n0 n1 n2 n3, runN true 1 3 5 2 n0 n1 n2 n3, runN true 1 3 5 3 n0 n1 n2 n3, runN true 1 3 5 4 n0 n1 n2 n3, runN true 1 3 5 5 n0 n1 n2 n3] = [okN n0 n1 n2 n3, okN n0 n1 n2 n3, okN n0 n1 n2 n3, okN n0 n1 n2 n3, okN n0 n1 n2 n3, okN n0 n1 n2 n3] := by kernel_rfl
theorem ttrue13 {y z : Nat} (hy : y < 6) (hz : z < 6) (n0 n1 n2 n3 : Int) : runN true 1 3 y z n0 n1 n2 n3 = okN n0 n1 n2 n3 := by
  rcases six hy with rfl | rfl | rfl | rfl | rfl | rfl
  · exact six_eq (ttrue130 n0 n1 n2 n3) (f := fun z => runN true 1 3 0 z n0 n1 n2 n3) hz
  · exact six_eq (ttrue131 n0 n1 n2 n3) (f := fun z => runN true 1 3 1 z n0 n1 n2 n3) hz
  · exact six_eq (ttrue132 n0 n1 n2 n3) (f := fun z => runN true 1 3 2 z n0 n1 n2 n3) hz
  · exact six_eq (ttrue133 n0 n1 n2 n3) (f := fun z => runN true 1 3 3 z n0 n1 n2 n3) hz
  · exact six_eq (ttrue134 n0 n1 n2 n3) (f := fun z => runN true 1 3 4 z n0 n1 n2 n3) hz
  · exact six_eq (ttrue135 n0 n1 n2 n3) (f := fun z => runN true 1 3 5 z n0 n1 n2 n3) hz
theorem ttrue140 (n0 n1 n2 n3 : Int) : [runN true 1 4 0 0 n0 n1 n2 n3, runN true 1 4 0 1 n0 n1 n2 n3, runN true 1 4 0 2 n0 n1 n2 n3, runN true 1 4 0 3 n0 n1 n2 n3, runN true 1 4 0 4 n0 n1 n2 n3, runN true 1 4 0 5 n0 n1 n2 n3] = [okN n0 n1 n2 n3, okN n0 n1 n2 n3, okN n0 n1 n2 n3, okN n0 n1 n2 n3, okN n0 n1 n2 n3, okN n0 n1 n2 n3] := by kernel_rfl
theorem ttrue141 (n0 n1 n2 n3 : Int) : [runN true 1 4 1 0 n0 n1 n2 n3, runN true 1 4 1 1 n0 n1 n2 n3, runN true 1 4 1 2 n0 n1 n2 n3, runN true 1 4 1 3 n0 n1 n2 n3, runN true 1 4 1 4 n0 n1 n2 n3, runN true 1 4 1 5 n0 n1 n2 n3] = [okN n0 n1 n2 n3, okN n0 n1 n2 n3, okN n0 n1 n2 n3, okN n0 n1 n2 n3, okN n0 n1 n2 n3, okN n0 n1 n2 n3] := by kernel_rfl
theorem ttrue142 (n0 n1 n2 n3 : Int) : [runN true 1 4 2 0 n0 n1 n2 n3, runN true 1 4 2 1 n0 n1 n2 n3, runN true 1 4 2 2 n0 n1 n2 n3, runN true 1 4 2 3 n0 n1 n2 n3, runN true 1 4 2 4 n0 n1 n2 n3, runN true 1 4 2 5 n0 n1 n2 n3] = [okN n0 n1 n2 n3, okN n0 n1 n2 n3, okN n0 n1 n2 n3, okN n0 n1 n2 n3, okN n0 n1 n2 n3, okN n0 n1 n2 n3] := by kernel_rfl
theorem ttrue143 (n0 n1 n2 n3 : Int) : [runN true 1 4 3 0 n0 n1 n2 n3, runN true 1 4 3 1 n0 n1 n2 n3, runN true 1 4 3 2 n0 n1 n2 n3, runN true 1 4 3 3 n0 n1 n2 n3, runN true 1 4 3 4 n0 n1 n2 n3, runN true 1 4 3 5 n0 n1 n2 n3] = [okN n0 n1 n2 n3, okN n0 n1 n2 n3, okN n0 n1 n2 n3, okN n0 n1 n2 n3, okN n0 n1 n2 n3, okN n0 n1 n2 n3] := by kernel_rfl
theorem ttrue144 (n0 n1 n2 n3 : Int) : [runN true 1 4 4 0 n0 n1 n2 n3, runN true 1 4 4 1 n0 n1 n2 n3, runN true 1 4 4 2 n0 n1 n2 n3, runN true 1 4 4 3 n0 n1 n2 n3, runN true 1 4 4 4 n0 n1 n2 n3, runN true 1 4 4 5 n0 n1 n2 n3] = [okN n0 n1 n2 n3, okN n0 n1 n2 n3, okN n0 n1 n2 n3, okN n0 n1 n2 n3, okN n0 n1 n2 n3, okN n0 n1 n2 n3] := by kernel_rfl
theorem ttrue145 (n0 n1 n2 n3 : Int) : [runN true 1 4 5 0 n0 n1 n2 n3, runN true 1 4 5 1 n0 n1 n2 n3, runN true 1 4 5 2 n0 n1 n2 n3, runN true 1 4 5 3 n0 n1 n2 n3, runN true 1 4 5 4 n0 n1 n2 n3, runN true 1 4 5 5 n0 n1 n2 n3] = [okN n0 n1 n2 n3, okN n0 n1 n2 n3, okN n0 n1 n2 n3, okN n0 n1 n2 n3, okN n0 n1 n2 n3, okN n0 n1 n2 n3] := by kernel_rfl
theorem ttrue14 {y z : Nat} (hy : y < 6) (hz : z < 6) (n0 n1 n2 n3 : Int) : runN true 1 4 y z n0 n1 n2 n3 = okN n0 n1 n2 n3 := by
  rcases six hy with rfl | rfl | rfl | rfl | rfl | rfl
  · exact six_eq (ttrue140 n0 n1 n2 n3) (f := fun z => runN true 1 4 0 z n0 n1 n2 n3) hz
  · exact six_eq (ttrue141 n0 n1 n2 n3) (f := fun z => runN true 1 4 1 z n0 n1 n2 n3) hz
  · exact six_eq (ttrue142 n0 n1 n2 n3) (f := fun z => runN true 1 4 2 z n0 n1 n2 n3) hz
  · exact six_eq (ttrue143 n0 n1 n2 n3) (f := fun z => runN true 1 4 3 z n0 n1 n2 n3) hz
  · exact six_eq (ttrue144 n0 n1 n2 n3) (f := fun z => runN true 1 4 4 z n0 n1 n2 n3) hz
  · exact six_eq (ttrue145 n0 n1 n2 n3) (f := fun z => runN true 1 4 5 z n0 n1 n2 n3) hz
theorem ttrue150 (n0 n1 n2 n3 : Int) : [runN true 1 5 0 0 n0 n1 n2 n3, runN true 1 5 0 1 n0 n1 n2 n3, runN true 1 5 0 2 n0 n1 n2 n3, runN true 1 5 0 3 n0 n1 n2 n3, runN true 1 5 0 4 n0 n1 n2 n3, runN true 1 5 0 5 n0 n1 n2 n3] = [okN n0 n1 n2 n3, okN n0 n1 n2 n3, okN n0 n1 n2 n3, okN n0 n1 n2 n3, okN n0 n1 n2 n3, okN n0 n1 n2 n3] := by kernel_rfl
theorem ttrue151 (n0 n1 n2 n3 : Int) : [runN true 1 5 1 0 n0 n1 n2 n3, runN true 1 5 1 1 n0 n1 n2 n3, runN true 1 5 1 2 n0 n1 n2 n3, runN true 1 5 1 3 n0 n1 n2 n3, runN true 1 5 1 4 n0 n1 n2 n3, runN true 1 5 1 5 n0 n1 n2 n3] = [okN n0 n1 n2 n3, okN n0 n1 n2 n3, okN n0 n1 n2 n3, okN n0 n1 n2 n3, okN n0 n1 n2 n3, okN n0 n1 n2 n3] := by kernel_rfl
theorem ttrue152 (n0 n1 n2 n3 : Int) : [runN true 1 5 2 0 n0 n1 n2 n3, runN true 1 5 2 1 n0 n1 n2 n3, runN true 1 5 2 2 n0 n1 n2 n3, runN true 1 5 2 3 n0 n1 n2 n3, runN true 1 5 2 4 n0 n1 n2 n3, runN true 1 5 2 5 n0 n1 n2 n3] = [okN n0 n1 n2 n3, okN n0 n1 n2 n3, okN n0 n1 n2 n3, okN n0 n1 n2 n3, okN n0 n1 n2 n3, okN n0 n1 n2 n3] := by kernel_rfl
theorem ttrue153 (n0 n1 n2 n3 : Int) : [runN true 1 5 3 0 n0 n1 n2 n3, runN true 1 5 3 1 n0 n1 n2 n3, runN true 1 5 3 2 n0 n1 n2 n3, runN true 1 5 3 3 n0 n1 n2 n3, runN true 1 5 3 4 n0 n1 n2 n3, runN true 1 5 3 5 n0 n1 n2 n3] = [okN n0 n1 n2 n3, okN n0 n1 n2 n3, okN n0 n1 n2 n3, okN n0 n1 n2 n3, okN n0 n1 n2 n3, okN n0 n1 n2 n3] := by kernel_rfl
theorem ttrue154 (n0 n1 n2 n3 : Int) : [runN true 1 5 4 0 n0 n1 n2 n3, runN true 1 5 4 1 n0 n1 n2 n3, runN true 1 5 4 2 n0 n1 n2 n3, runN true 1 5 4 3 n0 n1 n2 n3, runN true 1 5 4 4 n0 n1 n2 n3, runN true 1 5 4 5 n0 n1 n2 n3] = [okN n0 n1 n2 n3, okN n0 n1 n2 n3, okN n0 n1 n2 n3, okN n0 n1 n2 n3, okN n0 n1 n2 n3, okN n0 n1 n2 n3] := by kernel_rfl
theorem ttrue155 (n0 n1 n2 n3 : Int) : [runN true 1 5 5 0 n0 n1 n2 n3, runN true 1 5 5 1 n0 n1 n2 n3, runN true 1 5 5 2 n0 n1 n2 n3, runN true 1 5 5 3 n0 n1 n2 n3, runN true 1 5 5 4 n0 n1 n2 n3, runN true 1 5 5 5 n0 n1 n2 n3] = [okN n0 n1 n2 n3, okN n0 n1 n2 n3, okN n0 n1 n2 n3, okN n0 n1 n2 n3, okN n0 n1 n2 n3, okN n0 n1 n2 n3] := by kernel_rfl
theorem ttrue15 {y z : Nat} (hy : y < 6) (hz : z < 6) (n0 n1 n2 n3 : Int) : runN true 1 5 y z n0 n1 n2 n3 = okN n0 n1 n2 n3 := by
  rcases six hy with rfl | rfl | rfl | rfl | rfl | rfl
  · exact six_eq (ttrue150 n0 n1 n2 n3) (f := fun z => runN true 1 5 0 z n0 n1 n2 n3) hz
  · exact six_eq (ttrue151 n0 n1 n2 n3) (f := fun z => runN true 1 5 1 z n0 n1 n2 n3) hz
  · exact six_eq (ttrue152 n0 n1 n2 n3) (f := fun z => runN true 1 5 2 z n0 n1 n2 n3) hz
  · exact six_eq (ttrue153 n0 n1 n2 n3) (f := fun z => runN true 1 5 3 z n0 n1 n2 n3) hz
  · exact six_eq (ttrue154 n0 n1 n2 n3) (f := fun z => runN true 1 5 4 z n0 n1 n2 n3) hz
  · exact six_eq (ttrue155 n0 n1 n2 n3) (f := fun z => runN true 1 5 5 z n0 n1 n2 n3) hz
end Go.Proofs.YtpfjakcfjpgbmaaGreatDoor
