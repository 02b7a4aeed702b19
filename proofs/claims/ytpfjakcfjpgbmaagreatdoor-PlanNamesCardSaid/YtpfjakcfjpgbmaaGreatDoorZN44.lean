/- Runs of PlanNames (written by tools/pnruns.py). -/
import Derived.Test.YtpfjakcfjpgbmaaGreatDoorZN41
namespace Go.Proofs.YtpfjakcfjpgbmaaGreatDoor
set_option linter.unusedVariables false
set_option linter.unusedSimpArgs false
open Go.RowKit Go.Rx

set_option maxRecDepth 1000000
theorem tfalse100 (n0 n1 n2 n3 : Int) : [runN false 1 0 0 0 n0 n1 n2 n3, runN false 1 0 0 1 n0 n1 n2 n3, runN false 1 0 0 2 n0 n1 n2 n3, runN false 1 0 0 3 n0 n1 n2 n3, runN false 1 0 0 4 n0 n1 n2 n3, runN false 1 0 0 5 n0 n1 n2 n3] = [okN n0 n1 n2 n3, okN n0 n1 n2 n3, okN n0 n1 n2 n3, okN n0 n1 n2 n3, okN n0 n1 n2 n3, okN n0 n1 n2 n3] := by kernel_rfl
theorem tfalse101 (n0 n1 n2 n3 : Int) : [runN false 1 0 1 0 n0 n1 n2 n3, runN false 1 0 1 1 n0 n1 n2 n3, runN false 1 0 1 2 n0 n1 n2 n3, runN false 1 0 1 3 n0 n1 n2 n3, runN false 1 0 1 4 n0 n1 n2 n3, runN false 1 0 1 5 n0 n1 n2 n3] = [okN n0 n1 n2 n3, okN n0 n1 n2 n3, okN n0 n1 n2 n3, okN n0 n1 n2 n3, okN n0 n1 n2 n3, okN n0 n1 n2 n3] := by kernel_rfl
theorem tfalse102 (n0 n1 n2 n3 : Int) : [runN false 1 0 2 0 n0 n1 n2 n3, runN false 1 0 2 1 n0 n1 n2 n3, runN false 1 0 2 2 n0 n1 n2 n3, runN false 1 0 2 3 n0 n1 n2 n3, runN false 1 0 2 4 n0 n1 n2 n3, runN false 1 0 2 5 n0 n1 n2 n3] = [okN n0 n1 n2 n3, okN n0 n1 n2 n3, okN n0 n1 n2 n3, okN n0 n1 n2 n3, okN n0 n1 n2 n3, okN n0 n1 n2 n3] := by kernel_rfl
theorem tfalse103 (n0 n1 n2 n3 : Int) : [runN false 1 0 3 0 n0 n1 n2 n3, runN false 1 0 3 1 n0 n1 n2 n3, runN false 1 0 3 2 n0 n1 n2 n3, runN false 1 0 3 3 n0 n1 n2 n3, runN false 1 0 3 4 n0 n1 n2 n3, runN false 1 0 3 5 n0 n1 n2 n3] = [okN n0 n1 n2 n3, okN n0 n1 n2 n3, okN n0 n1 n2 n3, okN n0 n1 n2 n3, okN n0 n1 n2 n3, okN n0 n1 n2 n3] := by kernel_rfl
theorem tfalse104 (n0 n1 n2 n3 : Int) : [runN false 1 0 4 0 n0 n1 n2 n3, runN false 1 0 4 1 n0 n1 n2 n3, runN false 1 0 4 2 n0 n1 n2 n3, runN false 1 0 4 3 n0 n1 n2 n3, runN false 1 0 4 4 n0 n1 n2 n3, runN false 1 0 4 5 n0 n1 n2 n3] = [okN n0 n1 n2 n3, okN n0 n1 n2 n3, okN n0 n1 n2 n3, okN n0 n1 n2 n3, okN n0 n1 n2 n3, okN n0 n1 n2 n3] := by kernel_rfl
theorem tfalse105 (n0 n1 n2 n3 : Int) : [runN false 1 0 5 0 n0 n1 n2 n3, runN false 1 0 5 1 n0 n1 n2 n3, runN false 1 0 5 2 n0 n1 n2 n3, runN false 1 0 5 3 n0 n1 n2 n3, runN false 1 0 5 4 n0 n1 n2 n3, runN false 1 0 5 5 n0 n1 n2 n3] = [okN n0 n1 n2 n3, okN n0 n1 n2 n3, okN n0 n1 n2 n3, okN n0 n1 n2 n3, okN n0 n1 n2 n3, okN n0 n1 n2 n3] := by kernel_rfl
theorem tfalse10 {y z : Nat} (hy : y < 6) (hz : z < 6) (n0 n1 n2 n3 : Int) : runN false 1 0 y z n0 n1 n2 n3 = okN n0 n1 n2 n3 := by
  rcases six hy with rfl | rfl | rfl | rfl | rfl | rfl
  · exact six_eq (tfalse100 n0 n1 n2 n3) (f := fun z => runN false 1 0 0 z n0 n1 n2 n3) hz
  · exact six_eq (tfalse101 n0 n1 n2 n3) (f := fun z => runN false 1 0 1 z n0 n1 n2 n3) hz
  · exact six_eq (tfalse102 n0 n1 n2 n3) (f := fun z => runN false 1 0 2 z n0 n1 n2 n3) hz
  · exact six_eq (tfalse103 n0 n1 n2 n3) (f := fun z => runN false 1 0 3 z n0 n1 n2 n3) hz
  · exact six_eq (tfalse104 n0 n1 n2 n3) (f := fun z => runN false 1 0 4 z n0 n1 n2 n3) hz
  · exact six_eq (tfalse105 n0 n1 n2 n3) (f := fun z => runN false 1 0 5 z n0 n1 n2 n3) hz
theorem tfalse110 (n0 n1 n2 n3 : Int) : [runN false 1 1 0 0 n0 n1 n2 n3, runN false 1 1 0 1 n0 n1 n2 n3, runN false 1 1 0 2 n0 n1 n2 n3, runN false 1 1 0 3 n0 n1 n2 n3, runN false 1 1 0 4 n0 n1 n2 n3, runN false 1 1 0 5 n0 n1 n2 n3] = [okN n0 n1 n2 n3, okN n0 n1 n2 n3, okN n0 n1 n2 n3, okN n0 n1 n2 n3, okN n0 n1 n2 n3, okN n0 n1 n2 n3] := by kernel_rfl
theorem tfalse111 (n0 n1 n2 n3 : Int) : [runN false 1 1 1 0 n0 n1 n2 n3, runN false 1 1 1 1 n0 n1 n2 n3, runN false 1 1 1 2 n0 n1 n2 n3, runN false 1 1 1 3 n0 n1 n2 n3, runN false 1 1 1 4 n0 n1 n2 n3, runN false 1 1 1 5 n0 n1 n2 n3] = [okN n0 n1 n2 n3, okN n0 n1 n2 n3, okN n0 n1 n2 n3, okN n0 n1 n2 n3, okN n0 n1 n2 n3, okN n0 n1 n2 n3] := by kernel_rfl
theorem tfalse112 (n0 n1 n2 n3 : Int) : [runN false 1 1 2 0 n0 n1 n2 n3, runN false 1 1 2 1 n0 n1 n2 n3, runN false 1 1 2 2 n0 n1 n2 n3, runN false 1 1 2 3 n0 n1 n2 n3, runN false 1 1 2 4 n0 n1 n2 n3, runN false 1 1 2 5 n0 n1 n2 n3] = [okN n0 n1 n2 n3, okN n0 n1 n2 n3, okN n0 n1 n2 n3, okN n0 n1 n2 n3, okN n0 n1 n2 n3, okN n0 n1 n2 n3] := by kernel_rfl
theorem tfalse113 (n0 n1 n2 n3 : Int) : [runN false 1 1 3 0 n0 n1 n2 n3, runN false 1 1 3 1 n0 n1 n2 n3, runN false 1 1 3 2 n0 n1 n2 n3, runN false 1 1 3 3 n0 n1 n2 n3, runN false 1 1 3 4 n0 n1 n2 n3, runN false 1 1 3 5 n0 n1 n2 n3] = [okN n0 n1 n2 n3, okN n0 n1 n2 n3, okN n0 n1 n2 n3, okN n0 n1 n2 n3, okN n0 n1 n2 n3, okN n0 n1 n2 n3] := by kernel_rfl
theorem tfalse114 (n0 n1 n2 n3 : Int) : [runN false 1 1 4 0 n0 n1 n2 n3, runN false 1 1 4 1 n0 n1 n2 n3, runN false 1 1 4 2 n0 n1 n2 n3, runN false 1 1 4 3 n0 n1 n2 n3, runN false 1 1 4 4 n0 n1 n2 n3, runN false 1 1 4 5 n0 n1 n2 n3] = [okN n0 n1 n2 n3, okN n0 n1 n2 n3, okN n0 n1 n2 n3, okN n0 n1 n2 n3, okN n0 n1 n2 n3, okN n0 n1 n2 n3] := by kernel_rfl
theorem tfalse115 (n0 n1 n2 n3 : Int) : [runN false 1 1 5 0 n0 n1 n2 n3, runN false 1 1 5 1 n0 n1 n2 n3, runN false 1 1 5 2 n0 n1 n2 n3, runN false 1 1 5 3 n0 n1 n2 n3, runN false 1 1 5 4 n0 n1 n2 n3, runN false 1 1 5 5 n0 n1 n2 n3] = [okN n0 n1 n2 n3, okN n0 n1 n2 n3, okN n0 n1 n2 n3, okN n0 n1 n2 n3, okN n0 n1 n2 n3, okN n0 n1 n2 n3] := by kernel_rfl
theorem tfalse11 {y z : Nat} (hy : y < 6) (hz : z < 6) (n0 n1 n2 n3 : Int) : runN false 1 1 y z n0 n1 n2 n3 = okN n0 n1 n2 n3 := by
  rcases six hy with rfl | rfl | rfl | rfl | rfl | rfl
  · exact six_eq (tfalse110 n0 n1 n2 n3) (f := fun z => runN false 1 1 0 z n0 n1 n2 n3) hz
  · exact six_eq (tfalse111 n0 n1 n2 n3) (f := fun z => runN false 1 1 1 z n0 n1 n2 n3) hz
  · exact six_eq (tfalse112 n0 n1 n2 n3) (f := fun z => runN false 1 1 2 z n0 n1 n2 n3) hz
  · exact six_eq (tfalse113 n0 n1 n2 n3) (f := fun z => runN false 1 1 3 z n0 n1 n2 n3) hz
  · exact six_eq (tfalse114 n0 n1 n2 n3) (f := fun z => runN false 1 1 4 z n0 n1 n2 n3) hz
  · exact six_eq (tfalse115 n0 n1 n2 n3) (f := fun z => runN false 1 1 5 z n0 n1 n2 n3) hz
theorem tfalse120 (n0 n1 n2 n3 : Int) : [runN false 1 2 0 0 n0 n1 n2 n3, runN false 1 2 0 1 n0 n1 n2 n3, runN false 1 2 0 2 n0 n1 n2 n3, runN false 1 2 0 3 n0 n1 n2 n3, runN false 1 2 0 4 n0 n1 n2 n3, runN false 1 2 0 5 n0 n1 n2 n3] = [okN n0 n1 n2 n3, okN n0 n1 n2 n3, okN n0 n1 n2 n3, okN n0 n1 n2 n3, okN n0 n1 n2 n3, okN n0 n1 n2 n3] := by kernel_rfl
theorem tfalse121 (n0 n1 n2 n3 : Int) : [runN false 1 2 1 0 n0 n1 n2 n3, runN false 1 2 1 1 n0 n1 n2 n3, runN false 1 2 1 2 n0 n1 n2 n3, runN false 1 2 1 3 n0 n1 n2 n3, runN false 1 2 1 4 n0 n1 n2 n3, runN false 1 2 1 5 n0 n1 n2 n3] = [okN n0 n1 n2 n3, okN n0 n1 n2 n3, okN n0 n1 n2 n3, okN n0 n1 n2 n3, okN n0 n1 n2 n3, okN n0 n1 n2 n3] := by kernel_rfl
theorem tfalse122 (n0 n1 n2 n3 : Int) : [runN false 1 2 2 0 n0 n1 n2 n3, runN false 1 2 2 1 n0 n1 n2 n3, runN false 1 2 2 2 n0 n1 n2 n3, runN false 1 2 2 3 n0 n1 n2 n3, runN false 1 2 2 4 n0 n1 n2 n3, runN false 1 2 2 5 n0 n1 n2 n3] = [okN n0 n1 n2 n3, okN n0 n1 n2 n3, okN n0 n1 n2 n3, okN n0 n1 n2 n3, okN n0 n1 n2 n3, okN n0 n1 n2 n3] := by kernel_rfl
theorem tfalse123 (n0 n1 n2 n3 : Int) : [runN false 1 2 3 0 n0 n1 n2 n3, runN false 1 2 3 1 n0 n1 n2 n3, runN false 1 2 3 2 n0 n1 n2 n3, runN false 1 2 3 3 n0 n1 n2 n3, runN false 1 2 3 4 n0 n1 n2 n3, runN false 1 2 3 5 n0 n1 n2 n3] = [okN n0 n1 n2 n3, okN n0 n1 n2 n3, okN n0 n1 n2 n3, okN n0 n1 n2 n3, okN n0 n1 n2 n3, okN n0 n1 n2 n3] := by kernel_rfl
theorem tfalse124 (n0 n1 n2 n3 : Int) : [runN false 1 2 4 0 n0 n1 n2 n3, runN false 1 2 4 1 n0 n1 n2 n3, runN false 1 2 4 2 n0 n1 n2 n3, runN false 1 2 4 3 n0 n1 n2 n3, runN false 1 2 4 4 n0 n1 n2 n3, runN false 1 2 4 5 n0 n1 n2 n3] = [okN n0 n1 n2 n3, okN n0 n1 n2 n3, okN n0 n1 n2 n3, okN n0 n1 n2 n3, okN n0 n1 n2 n3, okN n0 n1 n2 n3] := by kernel_rfl
theorem tfalse125 (n0 n1 n2 n3 : Int) : [runN false 1 2 5 0 n0 n1 n2 n3, runN false 1 2 5 1 n0 n1 n2 n3, runN false 1 2 5 2 n0 n1 n2 n3, runN false 1 2 5 3 n0 n1 n2 n3, runN false 1 2 5 4 n0 n1 n2 n3, runN false 1 2 5 5 n0 n1 n2 n3] = [okN n0 n1 n2 n3, okN n0 n1 n2 n3, okN n0 n1 n2 n3, okN n0 n1 n2 n3, okN n0 n1 n2 n3, okN n0 n1 n2 n3] := by kernel_rfl
theorem tfalse12 {y z : Nat} (hy : y < 6) (hz : z < 6) (n0 n1 n2 n3 : Int) : runN false 1 2 y z n0 n1 n2 n3 = okN n0 n1 n2 n3 := by
  rcases six hy with rfl | rfl | rfl | rfl | rfl | rfl
  · exact six_eq (tfalse120 n0 n1 n2 n3) (f := fun z => runN false 1 2 0 z n0 n1 n2 n3) hz
  · exact six_eq (tfalse121 n0 n1 n2 n3) (f := fun z => runN false 1 2 1 z n0 n1 n2 n3) hz
  · exact six_eq (tfalse122 n0 n1 n2 n3) (f := fun z => runN false 1 2 2 z n0 n1 n2 n3) hz
  · exact six_eq (tfalse123 n0 n1 n2 n3) (f := fun z => runN false 1 2 3 z n0 n1 n2 n3) hz
  · exact six_eq (tfalse124 n0 n1 n2 n3) (f := fun z => runN false 1 2 4 z n0 n1 n2 n3) hz
  · exact six_eq (tfalse125 n0 n1 n2 n3) (f := fun z => runN false 1 2 5 z n0 n1 n2 n3) hz
end Go.Proofs.YtpfjakcfjpgbmaaGreatDoor
