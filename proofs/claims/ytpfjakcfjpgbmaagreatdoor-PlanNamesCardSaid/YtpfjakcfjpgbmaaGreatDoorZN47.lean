/- Runs of PlanNames (written by tools/pnruns.py). -/
import Derived.Test.YtpfjakcfjpgbmaaGreatDoorZN41
namespace Go.Proofs.YtpfjakcfjpgbmaaGreatDoor
set_option linter.unusedVariables false
set_option linter.unusedSimpArgs false
open Go.RowKit Go.Rx

set_option maxRecDepth 1000000
theorem ttrue030 (n0 n1 n2 n3 : Int) : [runN true 0 3 0 0 n0 n1 n2 n3, runN true 0 3 0 1 n0 n1 n2 n3, runN true 0 3 0 2 n0 n1 n2 n3, runN true 0 3 0 3 n0 n1 n2 n3, runN true 0 3 0 4 n0 n1 n2 n3, runN true 0 3 0 5 n0 n1 n2 n3] = [okN n0 n1 n2 n3, okN n0 n1 n2 n3, okN n0 n1 n2 n3, okN n0 n1 n2 n3, okN n0 n1 n2 n3, okN n0 n1 n2 n3] := by kernel_rfl
theorem ttrue031 (n0 n1 n2 n3 : Int) : [runN true 0 3 1 0 n0 n1 n2 n3, runN true 0 3 1 1 n0 n1 n2 n3, runN true 0 3 1 2 n0 n1 n2 n3, runN true 0 3 1 3 n0 n1 n2 n3, runN true 0 3 1 4 n0 n1 n2 n3, runN true 0 3 1 5 n0 n1 n2 n3] = [okN n0 n1 n2 n3, okN n0 n1 n2 n3, okN n0 n1 n2 n3, okN n0 n1 n2 n3, okN n0 n1 n2 n3, okN n0 n1 n2 n3] := by kernel_rfl
theorem ttrue032 (n0 n1 n2 n3 : Int) : [runN true 0 3 2 0 n0 n1 n2 n3, runN true 0 3 2 1 n0 n1 n2 n3, runN true 0 3 2 2 n0 n1 n2 n3, runN true 0 3 2 3 n0 n1 n2 n3, runN true 0 3 2 4 n0 n1 n2 n3, runN true 0 3 2 5 n0 n1 n2 n3] = [okN n0 n1 n2 n3, okN n0 n1 n2 n3, okN n0 n1 n2 n3, okN n0 n1 n2 n3, okN n0 n1 n2 n3, okN n0 n1 n2 n3] := by kernel_rfl
theorem ttrue033 (n0 n1 n2 n3 : Int) : [runN true 0 3 3 0 n0 n1 n2 n3, runN true 0 3 3 1 n0 n1 n2 n3, runN true 0 3 3 2 n0 n1 n2 n3, runN true 0 3 3 3 n0 n1 n2 n3, runN true 0 3 3 4 n0 n1 n2 n3, runN true 0 3 3 5 n0 n1 n2 n3] = [okN n0 n1 n2 n3, okN n0 n1 n2 n3, okN n0 n1 n2 n3, okN n0 n1 n2 n3, okN n0 n1 n2 n3, okN n0 n1 n2 n3] := by kernel_rfl
theorem ttrue034 (n0 n1 n2 n3 : Int) : [runN true 0 3 4 0 n0 n1 n2 n3, runN true 0 3 4 1 n0 n1 n2 n3, runN true 0 3 4 2 n0 n1 n2 n3, runN true 0 3 4 3 n0 n1 n2 n3, runN true 0 3 4 4 n0 n1 n2 n3, runN true 0 3 4 5 n0 n1 n2 n3] = [okN n0 n1 n2 n3, okN n0 n1 n2 n3, okN n0 n1 n2 n3, okN n0 n1 n2 n3, okN n0 n1 n2 n3, okN n0 n1 n2 n3] := by kernel_rfl
theorem ttrue035 (n0 n1 n2 n3 : Int) : [runN true 0 3 5 0 n0 n1 n2 n3, runN true 0 3 5 1 n0 n1 n2 n3, runN true 0 3 5 2 n0 n1 n2 n3, runN true 0 3 5 3 n0 n1 n2 n3, runN true 0 3 5 4 n0 n1 n2 n3, runN true 0 3 5 5 n0 n1 n2 n3] = [okN n0 n1 n2 n3, okN n0 n1 n2 n3, okN n0 n1 n2 n3, okN n0 n1 n2 n3, okN n0 n1 n2 n3, okN n0 n1 n2 n3] := by kernel_rfl
theorem ttrue03 {y z : Nat} (hy : y < 6) (hz : z < 6) (n0 n1 n2 n3 : Int) : runN true 0 3 y z n0 n1 n2 n3 = okN n0 n1 n2 n3 := by
  rcases six hy with rfl | rfl | rfl | rfl | rfl | rfl
  · exact six_eq (ttrue030 n0 n1 n2 n3) (f := fun z => runN true 0 3 0 z n0 n1 n2 n3) hz
  · exact six_eq (ttrue031 n0 n1 n2 n3) (f := fun z => runN true 0 3 1 z n0 n1 n2 n3) hz
  · exact six_eq (ttrue032 n0 n1 n2 n3) (f := fun z => runN true 0 3 2 z n0 n1 n2 n3) hz
  · exact six_eq (ttrue033 n0 n1 n2 n3) (f := fun z => runN true 0 3 3 z n0 n1 n2 n3) hz
  · exact six_eq (ttrue034 n0 n1 n2 n3) (f := fun z => runN true 0 3 4 z n0 n1 n2 n3) hz
  · exact six_eq (ttrue035 n0 n1 n2 n3) (f := fun z => runN true 0 3 5 z n0 n1 n2 n3) hz
theorem ttrue040 (n0 n1 n2 n3 : Int) : [runN true 0 4 0 0 n0 n1 n2 n3, runN true 0 4 0 1 n0 n1 n2 n3, runN true 0 4 0 2 n0 n1 n2 n3, runN true 0 4 0 3 n0 n1 n2 n3, runN true 0 4 0 4 n0 n1 n2 n3, runN true 0 4 0 5 n0 n1 n2 n3] = [okN n0 n1 n2 n3, okN n0 n1 n2 n3, okN n0 n1 n2 n3, okN n0 n1 n2 n3, okN n0 n1 n2 n3, okN n0 n1 n2 n3] := by kernel_rfl
theorem ttrue041 (n0 n1 n2 n3 : Int) : [runN true 0 4 1 0 n0 n1 n2 n3, runN true 0 4 1 1 n0 n1 n2 n3, runN true 0 4 1 2 n0 n1 n2 n3, runN true 0 4 1 3 n0 n1 n2 n3, runN true 0 4 1 4 n0 n1 n2 n3, runN true 0 4 1 5 n0 n1 n2 n3] = [okN n0 n1 n2 n3, okN n0 n1 n2 n3, okN n0 n1 n2 n3, okN n0 n1 n2 n3, okN n0 n1 n2 n3, okN n0 n1 n2 n3] := by kernel_rfl
theorem ttrue042 (n0 n1 n2 n3 : Int) : [runN true 0 4 2 0 n0 n1 n2 n3, runN true 0 4 2 1 n0 n1 n2 n3, runN true 0 4 2 2 n0 n1 n2 n3, runN true 0 4 2 3 n0 n1 n2 n3, runN true 0 4 2 4 n0 n1 n2 n3, runN true 0 4 2 5 n0 n1 n2 n3] = [okN n0 n1 n2 n3, okN n0 n1 n2 n3, okN n0 n1 n2 n3, okN n0 n1 n2 n3, okN n0 n1 n2 n3, okN n0 n1 n2 n3] := by kernel_rfl
theorem ttrue043 (n0 n1 n2 n3 : Int) : [runN true 0 4 3 0 n0 n1 n2 n3, runN true 0 4 3 1 n0 n1 n2 n3, runN true 0 4 3 2 n0 n1 n2 n3, runN true 0 4 3 3 n0 n1 n2 n3, runN true 0 4 3 4 n0 n1 n2 n3, runN true 0 4 3 5 n0 n1 n2 n3] = [okN n0 n1 n2 n3, okN n0 n1 n2 n3, okN n0 n1 n2 n3, okN n0 n1 n2 n3, okN n0 n1 n2 n3, okN n0 n1 n2 n3] := by kernel_rfl
theorem ttrue044 (n0 n1 n2 n3 : Int) : [runN true 0 4 4 0 n0 n1 n2 n3, runN true 0 4 4 1 n0 n1 n2 n3, runN true 0 4 4 2 n0 n1 n2 n3, runN true 0 4 4 3 n0 n1 n2 n3, runN true 0 4 4 4 n0 n1 n2 n3, runN true 0 4 4 5 n0 n1 n2 n3] = [okN n0 n1 n2 n3, okN n0 n1 n2 n3, okN n0 n1 n2 n3, okN n0 n1 n2 n3, okN n0 n1 n2 n3, okN n0 n1 n2 n3] := by kernel_rfl
theorem ttrue045 (n0 n1 n2 n3 : Int) : [runN true 0 4 5 0 n0 n1 n2 n3, runN true 0 4 5 1 n0 n1 n2 n3, runN true 0 4 5 2 n0 n1 n2 n3, runN true 0 4 5 3 n0 n1 n2 n3, runN true 0 4 5 4 n0 n1 n2 n3, runN true 0 4 5 5 n0 n1 n2 n3] = [okN n0 n1 n2 n3, okN n0 n1 n2 n3, okN n0 n1 n2 n3, okN n0 n1 n2 n3, okN n0 n1 n2 n3, okN n0 n1 n2 n3] := by kernel_rfl
theorem ttrue04 {y z : Nat} (hy : y < 6) (hz : z < 6) (n0 n1 n2 n3 : Int) : runN true 0 4 y z n0 n1 n2 n3 = okN n0 n1 n2 n3 := by
  rcases six hy with rfl | rfl | rfl | rfl | rfl | rfl
  · exact six_eq (ttrue040 n0 n1 n2 n3) (f := fun z => runN true 0 4 0 z n0 n1 n2 n3) hz
  · exact six_eq (ttrue041 n0 n1 n2 n3) (f := fun z => runN true 0 4 1 z n0 n1 n2 n3) hz
  · exact six_eq (ttrue042 n0 n1 n2 n3) (f := fun z => runN true 0 4 2 z n0 n1 n2 n3) hz
  · exact six_eq (ttrue043 n0 n1 n2 n3) (f := fun z => runN true 0 4 3 z n0 n1 n2 n3) hz
  · exact six_eq (ttrue044 n0 n1 n2 n3) (f := fun z => runN true 0 4 4 z n0 n1 n2 n3) hz
  · exact six_eq (ttrue045 n0 n1 n2 n3) (f := fun z => runN true 0 4 5 z n0 n1 n2 n3) hz
theorem ttrue050 (n0 n1 n2 n3 : Int) : [runN true 0 5 0 0 n0 n1 n2 n3, runN true 0 5 0 1 n0 n1 n2 n3, runN true 0 5 0 2 n0 n1 n2 n3, runN true 0 5 0 3 n0 n1 n2 n3, runN true 0 5 0 4 n0 n1 n2 n3, runN true 0 5 0 5 n0 n1 n2 n3] = [okN n0 n1 n2 n3, okN n0 n1 n2 n3, okN n0 n1 n2 n3, okN n0 n1 n2 n3, okN n0 n1 n2 n3, okN n0 n1 n2 n3] := by kernel_rfl
theorem ttrue051 (n0 n1 n2 n3 : Int) : [runN true 0 5 1 0 n0 n1 n2 n3, runN true 0 5 1 1 n0 n1 n2 n3, runN true 0 5 1 2 n0 n1 n2 n3, runN true 0 5 1 3 n0 n1 n2 n3, runN true 0 5 1 4 n0 n1 n2 n3, runN true 0 5 1 5 n0 n1 n2 n3] = [okN n0 n1 n2 n3, okN n0 n1 n2 n3, okN n0 n1 n2 n3, okN n0 n1 n2 n3, okN n0 n1 n2 n3, okN n0 n1 n2 n3] := by kernel_rfl
theorem ttrue052 (n0 n1 n2 n3 : Int) : [runN true 0 5 2 0 n0 n1 n2 n3, runN true 0 5 2 1 n0 n1 n2 n3, runN true 0 5 2 2 n0 n1 n2 n3, runN true 0 5 2 3 n0 n1 n2 n3, runN true 0 5 2 4 n0 n1 n2 n3, runN true 0 5 2 5 n0 n1 n2 n3] = [okN n0 n1 n2 n3, okN n0 n1 n2 n3, okN n0 n1 n2 n3, okN n0 n1 n2 n3, okN n0 n1 n2 n3, okN n0 n1 n2 n3] := by kernel_rfl
theorem ttrue053 (n0 n1 n2 n3 : Int) : [runN true 0 5 3 0 n0 n1 n2 n3, runN true 0 5 3 1 n0 n1 n2 n3, runN true 0 5 3 2 n0 n1 n2 n3, runN true 0 5 3 3 n0 n1 n2 n3, runN true 0 5 3 4 n0 n1 n2 n3, runN true 0 5 3 5 n0 n1 n2 n3] = [okN n0 n1 n2 n3, okN n0 n1 n2 n3, okN n0 n1 n2 n3, okN n0 n1 n2 n3, okN n0 n1 n2 n3, okN n0 n1 n2 n3] := by kernel_rfl
theorem ttrue054 (n0 n1 n2 n3 : Int) : [runN true 0 5 4 0 n0 n1 n2 n3, runN true 0 5 4 1 n0 n1 n2 n3, runN true 0 5 4 2 n0 n1 n2 n3, runN true 0 5 4 3 n0 n1 n2 n3, runN true 0 5 4 4 n0 n1 n2 n3, runN true 0 5 4 5 n0 n1 n2 n3] = [okN n0 n1 n2 n3, okN n0 n1 n2 n3, okN n0 n1 n2 n3, okN n0 n1 n2 n3, okN n0 n1 n2 n3, okN n0 n1 n2 n3] := by kernel_rfl
theorem ttrue055 (n0 n1 n2 n3 : Int) : [runN true 0 5 5 0 n0 n1 n2 n3, runN true 0 5 5 1 n0 n1 n2 n3, runN true 0 5 5 2 n0 n1 n2 n3, runN true 0 5 5 3 n0 n1 n2 n3, runN true 0 5 5 4 n0 n1 n2 n3, runN true 0 5 5 5 n0 n1 n2 n3] = [okN n0 n1 n2 n3, okN n0 n1 n2 n3, okN n0 n1 n2 n3, okN n0 n1 n2 n3, okN n0 n1 n2 n3, okN n0 n1 n2 n3] := by kernel_rfl
theorem ttrue05 {y z : Nat} (hy : y < 6) (hz : z < 6) (n0 n1 n2 n3 : Int) : runN true 0 5 y z n0 n1 n2 n3 = okN n0 n1 n2 n3 := by
  rcases six hy with rfl | rfl | rfl | rfl | rfl | rfl
  · exact six_eq (ttrue050 n0 n1 n2 n3) (f := fun z => runN true 0 5 0 z n0 n1 n2 n3) hz
  · exact six_eq (ttrue051 n0 n1 n2 n3) (f := fun z => runN true 0 5 1 z n0 n1 n2 n3) hz
  · exact six_eq (ttrue052 n0 n1 n2 n3) (f := fun z => runN true 0 5 2 z n0 n1 n2 n3) hz
  · exact six_eq (ttrue053 n0 n1 n2 n3) (f := fun z => runN true 0 5 3 z n0 n1 n2 n3) hz
  · exact six_eq (ttrue054 n0 n1 n2 n3) (f := fun z => runN true 0 5 4 z n0 n1 n2 n3) hz
  · exact six_eq (ttrue055 n0 n1 n2 n3) (f := fun z => runN true 0 5 5 z n0 n1 n2 n3) hz
end Go.Proofs.YtpfjakcfjpgbmaaGreatDoor
