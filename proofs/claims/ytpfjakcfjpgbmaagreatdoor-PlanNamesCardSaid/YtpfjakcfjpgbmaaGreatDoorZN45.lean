/- Runs of PlanNames (written by tools/pnruns.py). -/
import Derived.Test.YtpfjakcfjpgbmaaGreatDoorZN41
namespace Go.Proofs.YtpfjakcfjpgbmaaGreatDoor
set_option linter.unusedVariables false
set_option linter.unusedSimpArgs false
open Go.RowKit Go.Rx

set_option maxRecDepth 1000000
theorem tfalse130 (n0 n1 n2 n3 : Int) : [runN false 1 3 0 0 n0 n1 n2 n3, runN false 1 3 0 1 n0 n1 n2 n3, runN false 1 3 0 2 n0 n1 n2 n3, runN false 1 3 0 3 n0 n1 n2 n3, runN false 1 3 0 4 n0 n1 n2 n3, runN false 1 3 0 5 n0 n1 n2 n3] = [okN n0 n1 n2 n3, okN n0 n1 n2 n3, okN n0 n1 n2 n3, okN n0 n1 n2 n3, okN n0 n1 n2 n3, okN n0 n1 n2 n3] := by kernel_rfl
theorem tfalse131 (n0 n1 n2 n3 : Int) : [runN false 1 3 1 0 n0 n1 n2 n3, runN false 1 3 1 1 n0 n1 n2 n3, runN false 1 3 1 2 n0 n1 n2 n3, runN false 1 3 1 3 n0 n1 n2 n3, runN false 1 3 1 4 n0 n1 n2 n3, runN false 1 3 1 5 n0 n1 n2 n3] = [okN n0 n1 n2 n3, okN n0 n1 n2 n3, okN n0 n1 n2 n3, okN n0 n1 n2 n3, okN n0 n1 n2 n3, okN n0 n1 n2 n3] := by kernel_rfl
theorem tfalse132 (n0 n1 n2 n3 : Int) : [runN false 1 3 2 0 n0 n1 n2 n3, runN false 1 3 2 1 n0 n1 n2 n3, runN false 1 3 2 2 n0 n1 n2 n3, runN false 1 3 2 3 n0 n1 n2 n3, runN false 1 3 2 4 n0 n1 n2 n3, runN false 1 3 2 5 n0 n1 n2 n3] = [okN n0 n1 n2 n3, okN n0 n1 n2 n3, okN n0 n1 n2 n3, okN n0 n1 n2 n3, okN n0 n1 n2 n3, okN n0 n1 n2 n3] := by kernel_rfl
theorem tfalse133 (n0 n1 n2 n3 : Int) : [runN false 1 3 3 0 n0 n1 n2 n3, runN false 1 3 3 1 n0 n1 n2 n3, runN false 1 3 3 2 n0 n1 n2 n3, runN false 1 3 3 3 n0 n1 n2 n3, runN false 1 3 3 4 n0 n1 n2 n3, runN false 1 3 3 5 n0 n1 n2 n3] = [okN n0 n1 n2 n3, okN n0 n1 n2 n3, okN n0 n1 n2 n3, okN n0 n1 n2 n3, okN n0 n1 n2 n3, okN n0 n1 n2 n3] := by kernel_rfl
theorem tfalse134 (n0 n1 n2 n3 : Int) : [runN false 1 3 4 0 n0 n1 n2 n3, runN false 1 3 4 1 n0 n1 n2 n3, runN false 1 3 4 2 n0 n1 n2 n3, runN false 1 3 4 3 n0 n1 n2 n3, runN false 1 3 4 4 n0 n1 n2 n3, runN false 1 3 4 5 n0 n1 n2 n3] = [okN n0 n1 n2 n3, okN n0 n1 n2 n3, okN n0 n1 n2 n3, okN n0 n1 n2 n3, okN n0 n1 n2 n3, okN n0 n1 n2 n3] := by kernel_rfl
theorem tfalse135 (n0 n1 n2 n3 : Int) : [runN false 1 3 5 0 n0 n1 n2 n3, runN false 1 3 5 1 n0 n1 n2 n3, runN false 1 3 5 2 n0 n1 n2 n3, runN false 1 3 5 3 n0 n1 n2 n3, runN false 1 3 5 4 n0 n1 n2 n3, runN false 1 3 5 5 n0 n1 n2 n3] = [okN n0 n1 n2 n3, okN n0 n1 n2 n3, okN n0 n1 n2 n3, okN n0 n1 n2 n3, okN n0 n1 n2 n3, okN n0 n1 n2 n3] := by kernel_rfl
theorem tfalse13 {y z : Nat} (hy : y < 6) (hz : z < 6) (n0 n1 n2 n3 : Int) : runN false 1 3 y z n0 n1 n2 n3 = okN n0 n1 n2 n3 := by
  rcases six hy with rfl | rfl | rfl | rfl | rfl | rfl
  · exact six_eq (tfalse130 n0 n1 n2 n3) (f := fun z => runN false 1 3 0 z n0 n1 n2 n3) hz
  · exact six_eq (tfalse131 n0 n1 n2 n3) (f := fun z => runN false 1 3 1 z n0 n1 n2 n3) hz
  · exact six_eq (tfalse132 n0 n1 n2 n3) (f := fun z => runN false 1 3 2 z n0 n1 n2 n3) hz
  · exact six_eq (tfalse133 n0 n1 n2 n3) (f := fun z => runN false 1 3 3 z n0 n1 n2 n3) hz
  · exact six_eq (tfalse134 n0 n1 n2 n3) (f := fun z => runN false 1 3 4 z n0 n1 n2 n3) hz
  · exact six_eq (tfalse135 n0 n1 n2 n3) (f := fun z => runN false 1 3 5 z n0 n1 n2 n3) hz
theorem tfalse140 (n0 n1 n2 n3 : Int) : [runN false 1 4 0 0 n0 n1 n2 n3, runN false 1 4 0 1 n0 n1 n2 n3, runN false 1 4 0 2 n0 n1 n2 n3, runN false 1 4 0 3 n0 n1 n2 n3, runN false 1 4 0 4 n0 n1 n2 n3, runN false 1 4 0 5 n0 n1 n2 n3] = [okN n0 n1 n2 n3, okN n0 n1 n2 n3, okN n0 n1 n2 n3, okN n0 n1 n2 n3, okN n0 n1 n2 n3, okN n0 n1 n2 n3] := by kernel_rfl
theorem tfalse141 (n0 n1 n2 n3 : Int) : [runN false 1 4 1 0 n0 n1 n2 n3, runN false 1 4 1 1 n0 n1 n2 n3, runN false 1 4 1 2 n0 n1 n2 n3, runN false 1 4 1 3 n0 n1 n2 n3, runN false 1 4 1 4 n0 n1 n2 n3, runN false 1 4 1 5 n0 n1 n2 n3] = [okN n0 n1 n2 n3, okN n0 n1 n2 n3, okN n0 n1 n2 n3, okN n0 n1 n2 n3, okN n0 n1 n2 n3, okN n0 n1 n2 n3] := by kernel_rfl
theorem tfalse142 (n0 n1 n2 n3 : Int) : [runN false 1 4 2 0 n0 n1 n2 n3, runN false 1 4 2 1 n0 n1 n2 n3, runN false 1 4 2 2 n0 n1 n2 n3, runN false 1 4 2 3 n0 n1 n2 n3, runN false 1 4 2 4 n0 n1 n2 n3, runN false 1 4 2 5 n0 n1 n2 n3] = [okN n0 n1 n2 n3, okN n0 n1 n2 n3, okN n0 n1 n2 n3, okN n0 n1 n2 n3, okN n0 n1 n2 n3, okN n0 n1 n2 n3] := by kernel_rfl
theorem tfalse143 (n0 n1 n2 n3 : Int) : [runN false 1 4 3 0 n0 n1 n2 n3, runN false 1 4 3 1 n0 n1 n2 n3, runN false 1 4 3 2 n0 n1 n2 n3, runN false 1 4 3 3 n0 n1 n2 n3, runN false 1 4 3 4 n0 n1 n2 n3, runN false 1 4 3 5 n0 n1 n2 n3] = [okN n0 n1 n2 n3, okN n0 n1 n2 n3, okN n0 n1 n2 n3, okN n0 n1 n2 n3, okN n0 n1 n2 n3, okN n0 n1 n2 n3] := by kernel_rfl
theorem tfalse144 (n0 n1 n2 n3 : Int) : [runN false 1 4 4 0 n0 n1 n2 n3, runN false 1 4 4 1 n0 n1 n2 n3, runN false 1 4 4 2 n0 n1 n2 n3, runN false 1 4 4 3 n0 n1 n2 n3, runN false 1 4 4 4 n0 n1 n2 n3, runN false 1 4 4 5 n0 n1 n2 n3] = [okN n0 n1 n2 n3, okN n0 n1 n2 n3, okN n0 n1 n2 n3, okN n0 n1 n2 n3, okN n0 n1 n2 n3, okN n0 n1 n2 n3] := by kernel_rfl
theorem tfalse145 (n0 n1 n2 n3 : Int) : [runN false 1 4 5 0 n0 n1 n2 n3, runN false 1 4 5 1 n0 n1 n2 n3, runN false 1 4 5 2 n0 n1 n2 n3, runN false 1 4 5 3 n0 n1 n2 n3, runN false 1 4 5 4 n0 n1 n2 n3, runN false 1 4 5 5 n0 n1 n2 n3] = [okN n0 n1 n2 n3, okN n0 n1 n2 n3, okN n0 n1 n2 n3, okN n0 n1 n2 n3, okN n0 n1 n2 n3, okN n0 n1 n2 n3] := by kernel_rfl
theorem tfalse14 {y z : Nat} (hy : y < 6) (hz : z < 6) (n0 n1 n2 n3 : Int) : runN false 1 4 y z n0 n1 n2 n3 = okN n0 n1 n2 n3 := by
  rcases six hy with rfl | rfl | rfl | rfl | rfl | rfl
  · exact six_eq (tfalse140 n0 n1 n2 n3) (f := fun z => runN false 1 4 0 z n0 n1 n2 n3) hz
  · exact six_eq (tfalse141 n0 n1 n2 n3) (f := fun z => runN false 1 4 1 z n0 n1 n2 n3) hz
  · exact six_eq (tfalse142 n0 n1 n2 n3) (f := fun z => runN false 1 4 2 z n0 n1 n2 n3) hz
  · exact six_eq (tfalse143 n0 n1 n2 n3) (f := fun z => runN false 1 4 3 z n0 n1 n2 n3) hz
  · exact six_eq (tfalse144 n0 n1 n2 n3) (f := fun z => runN false 1 4 4 z n0 n1 n2 n3) hz
  · exact six_eq (tfalse145 n0 n1 n2 n3) (f := fun z => runN false 1 4 5 z n0 n1 n2 n3) hz
theorem tfalse150 (n0 n1 n2 n3 : Int) : [runN false 1 5 0 0 n0 n1 n2 n3, runN false 1 5 0 1 n0 n1 n2 n3, runN false 1 5 0 2 n0 n1 n2 n3, runN false 1 5 0 3 n0 n1 n2 n3, runN false 1 5 0 4 n0 n1 n2 n3, runN false 1 5 0 5 n0 n1 n2 n3] = [okN n0 n1 n2 n3, okN n0 n1 n2 n3, okN n0 n1 n2 n3, okN n0 n1 n2 n3, okN n0 n1 n2 n3, okN n0 n1 n2 n3] := by kernel_rfl
theorem tfalse151 (n0 n1 n2 n3 : Int) : [runN false 1 5 1 0 n0 n1 n2 n3, runN false 1 5 1 1 n0 n1 n2 n3, runN false 1 5 1 2 n0 n1 n2 n3, runN false 1 5 1 3 n0 n1 n2 n3, runN false 1 5 1 4 n0 n1 n2 n3, runN false 1 5 1 5 n0 n1 n2 n3] = [okN n0 n1 n2 n3, okN n0 n1 n2 n3, okN n0 n1 n2 n3, okN n0 n1 n2 n3, okN n0 n1 n2 n3, okN n0 n1 n2 n3] := by kernel_rfl
theorem tfalse152 (n0 n1 n2 n3 : Int) : [runN false 1 5 2 0 n0 n1 n2 n3, runN false 1 5 2 1 n0 n1 n2 n3, runN false 1 5 2 2 n0 n1 n2 n3, runN false 1 5 2 3 n0 n1 n2 n3, runN false 1 5 2 4 n0 n1 n2 n3, runN false 1 5 2 5 n0 n1 n2 n3] = [okN n0 n1 n2 n3, okN n0 n1 n2 n3, okN n0 n1 n2 n3, okN n0 n1 n2 n3, okN n0 n1 n2 n3, okN n0 n1 n2 n3] := by kernel_rfl
theorem tfalse153 (n0 n1 n2 n3 : Int) : [runN false 1 5 3 0 n0 n1 n2 n3, runN false 1 5 3 1 n0 n1 n2 n3, runN false 1 5 3 2 n0 n1 n2 n3, runN false 1 5 3 3 n0 n1 n2 n3, runN false 1 5 3 4 n0 n1 n2 n3, runN false 1 5 3 5 n0 n1 n2 n3] = [okN n0 n1 n2 n3, okN n0 n1 n2 n3, okN n0 n1 n2 n3, okN n0 n1 n2 n3, okN n0 n1 n2 n3, okN n0 n1 n2 n3] := by kernel_rfl
theorem tfalse154 (n0 n1 n2 n3 : Int) : [runN false 1 5 4 0 n0 n1 n2 n3, runN false 1 5 4 1 n0 n1 n2 n3, runN false 1 5 4 2 n0 n1 n2 n3, runN false 1 5 4 3 n0 n1 n2 n3, runN false 1 5 4 4 n0 n1 n2 n3, runN false 1 5 4 5 n0 n1 n2 n3] = [okN n0 n1 n2 n3, okN n0 n1 n2 n3, okN n0 n1 n2 n3, okN n0 n1 n2 n3, okN n0 n1 n2 n3, okN n0 n1 n2 n3] := by kernel_rfl
theorem tfalse155 (n0 n1 n2 n3 : Int) : [runN false 1 5 5 0 n0 n1 n2 n3, runN false 1 5 5 1 n0 n1 n2 n3, runN false 1 5 5 2 n0 n1 n2 n3, runN false 1 5 5 3 n0 n1 n2 n3, runN false 1 5 5 4 n0 n1 n2 n3, runN false 1 5 5 5 n0 n1 n2 n3] = [okN n0 n1 n2 n3, okN n0 n1 n2 n3, okN n0 n1 n2 n3, okN n0 n1 n2 n3, okN n0 n1 n2 n3, okN n0 n1 n2 n3] := by kernel_rfl
theorem tfalse15 {y z : Nat} (hy : y < 6) (hz : z < 6) (n0 n1 n2 n3 : Int) : runN false 1 5 y z n0 n1 n2 n3 = okN n0 n1 n2 n3 := by
  rcases six hy with rfl | rfl | rfl | rfl | rfl | rfl
  · exact six_eq (tfalse150 n0 n1 n2 n3) (f := fun z => runN false 1 5 0 z n0 n1 n2 n3) hz
  · exact six_eq (tfalse151 n0 n1 n2 n3) (f := fun z => runN false 1 5 1 z n0 n1 n2 n3) hz
  · exact six_eq (tfalse152 n0 n1 n2 n3) (f := fun z => runN false 1 5 2 z n0 n1 n2 n3) hz
  · exact six_eq (tfalse153 n0 n1 n2 n3) (f := fun z => runN false 1 5 3 z n0 n1 n2 n3) hz
  · exact six_eq (tfalse154 n0 n1 n2 n3) (f := fun z => runN false 1 5 4 z n0 n1 n2 n3) hz
  · exact six_eq (tfalse155 n0 n1 n2 n3) (f := fun z => runN false 1 5 5 z n0 n1 n2 n3) hz
end Go.Proofs.YtpfjakcfjpgbmaaGreatDoor
