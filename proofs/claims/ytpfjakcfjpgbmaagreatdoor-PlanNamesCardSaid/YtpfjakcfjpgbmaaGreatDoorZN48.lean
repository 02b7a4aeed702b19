/- Runs of PlanNames (written by tools/pnruns.py). -/
import Derived.Test.YtpfjakcfjpgbmaaGreatDoorZN41
namespace Go.Proofs.YtpfjakcfjpgbmaaGreatDoor
set_option linter.unusedVariables false
set_option linter.unusedSimpArgs false
open Go.RowKit Go.Rx

set_option maxRecDepth 1000000
theorem ttrue100 (n0 n1 n2 n3 : Int) : [runN true 1 0 0 0 n0 n1 n2 n3, runN true 1 0 0 1 n0 n1 n2 n3, runN true 1 0 0 2 n0 n1 n2 n3, runN true 1 0 0 3 n0 n1 n2 n3, runN true 1 0 0 4 n0 n1 n2 n3, runN true 1 0 0 5 n0 n1 n2 n3] = [okN n0 n1 n2 n3, okN n0 n1 n2 n3, okN n0 n1 n2 n3, okN n0 n1 n2 n3, okN n0 n1 n2 n3, okN n0 n1 n2 n3] := by kernel_rfl
theorem ttrue101 (n0 n1 n2 n3 : Int) : [runN true 1 0 1 0 n0 n1 n2 n3, runN true 1 0 1 1 n0 n1 n2 n3, runN true 1 0 1 2 n0 n1 n2 n3, runN true 1 0 1 3 n0 n1 n2 n3, runN true 1 0 1 4 n0 n1 n2 n3, runN true 1 0 1 5 n0 n1 n2 n3] = [okN n0 n1 n2 n3, okN n0 n1 n2 n3, okN n0 n1 n2 n3, okN n0 n1 n2 n3, okN n0 n1 n2 n3, okN n0 n1 n2 n3] := by kernel_rfl
theorem ttrue102 (n0 n1 n2 n3 : Int) : [runN true 1 0 2 0 n0 n1 n2 n3, runN true 1 0 2 1 n0 n1 n2 n3, runN true 1 0 2 2 n0 n1 n2 n3, runN true 1 0 2 3 n0 n1 n2 n3, runN true 1 0 2 4 n0 n1 n2 n3, runN true 1 0 2 5 n0 n1 n2 n3] = [okN n0 n1 n2 n3, okN n0 n1 n2 n3, okN n0 n1 n2 n3, okN n0 n1 n2 n3, okN n0 n1 n2 n3, okN n0 n1 n2 n3] := by kernel_rfl
theorem ttrue103 (n0 n1 n2 n3 : Int) : [runN true 1 0 3 0 n0 n1 n2 n3, runN true 1 0 3 1 n0 n1 n2 n3, runN true 1 0 3 2 n0 n1 n2 n3, runN true 1 0 3 3 n0 n1 n2 n3, runN true 1 0 3 4 n0 n1 n2 n3, runN true 1 0 3 5 n0 n1 n2 n3] = [okN n0 n1 n2 n3, okN n0 n1 n2 n3, okN n0 n1 n2 n3, okN n0 n1 n2 n3, okN n0 n1 n2 n3, okN n0 n1 n2 n3] := by kernel_rfl
theorem ttrue104 (n0 n1 n2 n3 : Int) : [runN true 1 0 4 0 n0 n1 n2 n3, runN true 1 0 4 1 n0 n1 n2 n3, runN true 1 0 4 2 n0 n1 n2 n3, runN true 1 0 4 3 n0 n1 n2 n3, runN true 1 0 4 4 n0 n1 n2 n3, runN true 1 0 4 5 n0 n1 n2 n3] = [okN n0 n1 n2 n3, okN n0 n1 n2 n3, okN n0 n1 n2 n3, okN n0 n1 n2 n3, okN n0 n1 n2 n3, okN n0 n1 n2 n3] := by kernel_rfl
theorem ttrue105 (n0 n1 n2 n3 : Int) : [runN true 1 0 5 0 n0 n1 n2 n3, runN true 1 0 5 1 n0 n1 n2 n3, runN true 1 0 5 2 n0 n1 n2 n3, runN true 1 0 5 3 n0 n1 n2 n3, runN true 1 0 5 4 n0 n1 n2 n3, runN true 1 0 5 5 n0 n1 n2 n3] = [okN n0 n1 n2 n3, okN n0 n1 n2 n3, okN n0 n1 n2 n3, okN n0 n1 n2 n3, okN n0 n1 n2 n3, okN n0 n1 n2 n3] := by kernel_rfl
theorem ttrue10 {y z : Nat} (hy : y < 6) (hz : z < 6) (n0 n1 n2 n3 : Int) : runN true 1 0 y z n0 n1 n2 n3 = okN n0 n1 n2 n3 := by
  rcases six hy with rfl | rfl | rfl | rfl | rfl | rfl
  · exact six_eq (ttrue100 n0 n1 n2 n3) (f := fun z => runN true 1 0 0 z n0 n1 n2 n3) hz
  · exact six_eq (ttrue101 n0 n1 n2 n3) (f := fun z => runN true 1 0 1 z n0 n1 n2 n3) hz
  · exact six_eq (ttrue102 n0 n1 n2 n3) (f := fun z => runN true 1 0 2 z n0 n1 n2 n3) hz
  · exact six_eq (ttrue103 n0 n1 n2 n3) (f := fun z => runN true 1 0 3 z n0 n1 n2 n3) hz
  · exact six_eq (ttrue104 n0 n1 n2 n3) (f := fun z => runN true 1 0 4 z n0 n1 n2 n3) hz
  · exact six_eq (ttrue105 n0 n1 n2 n3) (f := fun z => runN true 1 0 5 z n0 n1 n2 n3) hz
theorem ttrue110 (n0 n1 n2 n3 : Int) : [runN true 1 1 0 0 n0 n1 n2 n3, runN true 1 1 0 1 n0 n1 n2 n3, runN true 1 1 0 2 n0 n1 n2 n3, runN true 1 1 0 3 n0 n1 n2 n3, runN true 1 1 0 4 n0 n1 n2 n3, runN true 1 1 0 5 n0 n1 n2 n3] = [okN n0 n1 n2 n3, okN n0 n1 n2 n3, okN n0 n1 n2 n3, okN n0 n1 n2 n3, okN n0 n1 n2 n3, okN n0 n1 n2 n3] := by kernel_rfl
theorem ttrue111 (n0 n1 n2 n3 : Int) : [runN true 1 1 1 0 n0 n1 n2 n3, runN true 1 1 1 1 n0 n1 n2 n3, runN true 1 1 1 2 n0 n1 n2 n3, runN true 1 1 1 3 n0 n1 n2 n3, runN true 1 1 1 4 n0 n1 n2 n3, runN true 1 1 1 5 n0 n1 n2 n3] = [okN n0 n1 n2 n3, okN n0 n1 n2 n3, okN n0 n1 n2 n3, okN n0 n1 n2 n3, okN n0 n1 n2 n3, okN n0 n1 n2 n3] := by kernel_rfl
theorem ttrue112 (n0 n1 n2 n3 : Int) : [runN true 1 1 2 0 n0 n1 n2 n3, runN true 1 1 2 1 n0 n1 n2 n3, runN true 1 1 2 2 n0 n1 n2 n3, runN true 1 1 2 3 n0 n1 n2 n3, runN true 1 1 2 4 n0 n1 n2 n3, runN true 1 1 2 5 n0 n1 n2 n3] = [okN n0 n1 n2 n3, okN n0 n1 n2 n3, okN n0 n1 n2 n3, okN n0 n1 n2 n3, okN n0 n1 n2 n3, okN n0 n1 n2 n3] := by kernel_rfl
theorem ttrue113 (n0 n1 n2 n3 : Int) : [runN true 1 1 3 0 n0 n1 n2 n3, runN true 1 1 3 1 n0 n1 n2 n3, runN true 1 1 3 2 n0 n1 n2 n3, runN true 1 1 3 3 n0 n1 n2 n3, runN true 1 1 3 4 n0 n1 n2 n3, runN true 1 1 3 5 n0 n1 n2 n3] = [okN n0 n1 n2 n3, okN n0 n1 n2 n3, okN n0 n1 n2 n3, okN n0 n1 n2 n3, okN n0 n1 n2 n3, okN n0 n1 n2 n3] := by kernel_rfl
theorem ttrue114 (n0 n1 n2 n3 : Int) : [runN true 1 1 4 0 n0 n1 n2 n3, runN true 1 1 4 1 n0 n1 n2 n3, runN true 1 1 4 2 n0 n1 n2 n3, runN true 1 1 4 3 n0 n1 n2 n3, runN true 1 1 4 4 n0 n1 n2 n3, runN true 1 1 4 5 n0 n1 n2 n3] = [okN n0 n1 n2 n3, okN n0 n1 n2 n3, okN n0 n1 n2 n3, okN n0 n1 n2 n3, okN n0 n1 n2 n3, okN n0 n1 n2 n3] := by kernel_rfl
theorem ttrue115 (n0 n1 n2 n3 : Int) : [runN true 1 1 5 0 n0 n1 n2 n3, runN true 1 1 5 1 n0 n1 n2 n3, runN true 1 1 5 2 n0 n1 n2 n3, runN true 1 1 5 3 n0 n1 n2 n3, runN true 1 1 5 4 n0 n1 n2 n3, runN true 1 1 5 5 n0 n1 n2 n3] = [okN n0 n1 n2 n3, okN n0 n1 n2 n3, okN n0 n1 n2 n3, okN n0 n1 n2 n3, okN n0 n1 n2 n3, okN n0 n1 n2 n3] := by kernel_rfl
theorem ttrue11 {y z : Nat} (hy : y < 6) (hz : z < 6) (n0 n1 n2 n3 : Int) : runN true 1 1 y z n0 n1 n2 n3 = okN n0 n1 n2 n3 := by
  rcases six hy with rfl | rfl | rfl | rfl | rfl | rfl
  · exact six_eq (ttrue110 n0 n1 n2 n3) (f := fun z => runN true 1 1 0 z n0 n1 n2 n3) hz
  · exact six_eq (ttrue111 n0 n1 n2 n3) (f := fun z => runN true 1 1 1 z n0 n1 n2 n3) hz
  · exact six_eq (ttrue112 n0 n1 n2 n3) (f := fun z => runN true 1 1 2 z n0 n1 n2 n3) hz
  · exact six_eq (ttrue113 n0 n1 n2 n3) (f := fun z => runN true 1 1 3 z n0 n1 n2 n3) hz
  · exact six_eq (ttrue114 n0 n1 n2 n3) (f := fun z => runN true 1 1 4 z n0 n1 n2 n3) hz
  · exact six_eq (ttrue115 n0 n1 n2 n3) (f := fun z => runN true 1 1 5 z n0 n1 n2 n3) hz
theorem ttrue120 (n0 n1 n2 n3 : Int) : [runN true 1 2 0 0 n0 n1 n2 n3, runN true 1 2 0 1 n0 n1 n2 n3, runN true 1 2 0 2 n0 n1 n2 n3, runN true 1 2 0 3 n0 n1 n2 n3, runN true 1 2 0 4 n0 n1 n2 n3, runN true 1 2 0 5 n0 n1 n2 n3] = [okN n0 n1 n2 n3, okN n0 n1 n2 n3, okN n0 n1 n2 n3, okN n0 n1 n2 n3, okN n0 n1 n2 n3, okN n0 n1 n2 n3] := by kernel_rfl
theorem ttrue121 (n0 n1 n2 n3 : Int) : [runN true 1 2 1 0 n0 n1 n2 n3, runN true 1 2 1 1 n0 n1 n2 n3, runN true 1 2 1 2 n0 n1 n2 n3, runN true 1 2 1 3 n0 n1 n2 n3, runN true 1 2 1 4 n0 n1 n2 n3, runN true 1 2 1 5 n0 n1 n2 n3] = [okN n0 n1 n2 n3, okN n0 n1 n2 n3, okN n0 n1 n2 n3, okN n0 n1 n2 n3, okN n0 n1 n2 n3, okN n0 n1 n2 n3] := by kernel_rfl
theorem ttrue122 (n0 n1 n2 n3 : Int) : [runN true 1 2 2 0 n0 n1 n2 n3, runN true 1 2 2 1 n0 n1 n2 n3, runN true 1 2 2 2 n0 n1 n2 n3, runN true 1 2 2 3 n0 n1 n2 n3, runN true 1 2 2 4 n0 n1 n2 n3, runN true 1 2 2 5 n0 n1 n2 n3] = [okN n0 n1 n2 n3, okN n0 n1 n2 n3, okN n0 n1 n2 n3, okN n0 n1 n2 n3, okN n0 n1 n2 n3, okN n0 n1 n2 n3] := by kernel_rfl
theorem ttrue123 (n0 n1 n2 n3 : Int) : [runN true 1 2 3 0 n0 n1 n2 n3, runN true 1 2 3 1 n0 n1 n2 n3, runN true 1 2 3 2 n0 n1 n2 n3, runN true 1 2 3 3 n0 n1 n2 n3, runN true 1 2 3 4 n0 n1 n2 n3, runN true 1 2 3 5 n0 n1 n2 n3] = [okN n0 n1 n2 n3, okN n0 n1 n2 n3, okN n0 n1 n2 n3, okN n0 n1 n2 n3, okN n0 n1 n2 n3, okN n0 n1 n2 n3] := by kernel_rfl
theorem ttrue124 (n0 n1 n2 n3 : Int) : [runN true 1 2 4 0 n0 n1 n2 n3, runN true 1 2 4 1 n0 n1 n2 n3, runN true 1 2 4 2 n0 n1 n2 n3, runN true 1 2 4 3 n0 n1 n2 n3, runN true 1 2 4 4 n0 n1 n2 n3, runN true 1 2 4 5 n0 n1 n2 n3] = [okN n0 n1 n2 n3, okN n0 n1 n2 n3, okN n0 n1 n2 n3, okN n0 n1 n2 n3, okN n0 n1 n2 n3, okN n0 n1 n2 n3] := by kernel_rfl
theorem ttrue125 (n0 n1 n2 n3 : Int) : [runN true 1 2 5 0 n0 n1 n2 n3, runN true 1 2 5 1 n0 n1 n2 n3, runN true 1 2 5 2 n0 n1 n2 n3, runN true 1 2 5 3 n0 n1 n2 n3, runN true 1 2 5 4 n0 n1 n2 n3, runN true 1 2 5 5 n0 n1 n2 n3] = [okN n0 n1 n2 n3, okN n0 n1 n2 n3, okN n0 n1 n2 n3, okN n0 n1 n2 n3, okN n0 n1 n2 n3, okN n0 n1 n2 n3] := by kernel_rfl
theorem ttrue12 {y z : Nat} (hy : y < 6) (hz : z < 6) (n0 n1 n2 n3 : Int) : runN true 1 2 y z n0 n1 n2 n3 = okN n0 n1 n2 n3 := by
  rcases six hy with rfl | rfl | rfl | rfl | rfl | rfl
  · exact six_eq (ttrue120 n0 n1 n2 n3) (f := fun z => runN true 1 2 0 z n0 n1 n2 n3) hz
  · exact six_eq (ttrue121 n0 n1 n2 n3) (f := fun z => runN true 1 2 1 z n0 n1 n2 n3) hz
  · exact six_eq (ttrue122 n0 n1 n2 n3) (f := fun z => runN true 1 2 2 z n0 n1 n2 n3) hz
  · exact six_eq (ttrue123 n0 n1 n2 n3) (f := fun z => runN true 1 2 3 z n0 n1 n2 n3) hz
  · exact six_eq (ttrue124 n0 n1 n2 n3) (f := fun z => runN true 1 2 4 z n0 n1 n2 n3) hz
  · exact six_eq (ttrue125 n0 n1 n2 n3) (f := fun z => runN true 1 2 5 z n0 n1 n2 n3) hz
end Go.Proofs.YtpfjakcfjpgbmaaGreatDoor
