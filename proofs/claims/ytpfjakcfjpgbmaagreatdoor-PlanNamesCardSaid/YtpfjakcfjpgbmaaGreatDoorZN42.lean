/- Runs of PlanNames (written by tools/pnruns.py). -/
import Derived.Test.YtpfjakcfjpgbmaaGreatDoorZN41
namespace Go.Proofs.YtpfjakcfjpgbmaaGreatDoor
set_option linter.unusedVariables false
set_option linter.unusedSimpArgs false
open Go.RowKit Go.Rx

set_option maxRecDepth 1000000
theorem tfalse000 (n0 n1 n2 n3 : Int) : [runN false 0 0 0 0 n0 n1 n2 n3, runN false 0 0 0 1 n0 n1 n2 n3, runN false 0 0 0 2 n0 n1 n2 n3, runN false 0 0 0 3 n0 n1 n2 n3, runN false 0 0 0 4 n0 n1 n2 n3, runN false 0 0 0 5 n0 n1 n2 n3] = [okN n0 n1 n2 n3, okN n0 n1 n2 n3, okN n0 n1 n2 n3, okN n0 n1 n2 n3, okN n0 n1 n2 n3, okN n0 n1 n2 n3] := by kernel_rfl
theorem tfalse001 (n0 n1 n2 n3 : Int) : [runN false 0 0 1 0 n0 n1 n2 n3, runN false 0 0 1 1 n0 n1 n2 n3, runN false 0 0 1 2 n0 n1 n2 n3, runN false 0 0 1 3 n0 n1 n2 n3, runN false 0 0 1 4 n0 n1 n2 n3, runN false 0 0 1 5 n0 n1 n2 n3] = [okN n0 n1 n2 n3, okN n0 n1 n2 n3, okN n0 n1 n2 n3, okN n0 n1 n2 n3, okN n0 n1 n2 n3, okN n0 n1 n2 n3] := by kernel_rfl
theorem tfalse002 (n0 n1 n2 n3 : Int) : [runN false 0 0 2 0 n0 n1 n2 n3, runN false 0 0 2 1 n0 n1 n2 n3, runN false 0 0 2 2 n0 n1 n2 n3, runN false 0 0 2 3 n0 n1 n2 n3, runN false 0 0 2 4 n0 n1 n2 n3, runN false 0 0 2 5 n0 n1 n2 n3] = [okN n0 n1 n2 n3, okN n0 n1 n2 n3, okN n0 n1 n2 n3, okN n0 n1 n2 n3, okN n0 n1 n2 n3, okN n0 n1 n2 n3] := by kernel_rfl
theorem tfalse003 (n0 n1 n2 n3 : Int) : [runN false 0 0 3 0 n0 n1 n2 n3, runN false 0 0 3 1 n0 n1 n2 n3, runN false 0 0 3 2 n0 n1 n2 n3, runN false 0 0 3 3 n0 n1 n2 n3, runN false 0 0 3 4 n0 n1 n2 n3, runN false 0 0 3 5 n0 n1 n2 n3] = [okN n0 n1 n2 n3, okN n0 n1 n2 n3, okN n0 n1 n2 n3, okN n0 n1 n2 n3, okN n0 n1 n2 n3, okN n0 n1 n2 n3] := by kernel_rfl
theorem tfalse004 (n0 n1 n2 n3 : Int) : [runN false 0 0 4 0 n0 n1 n2 n3, runN false 0 0 4 1 n0 n1 n2 n3, runN false 0 0 4 2 n0 n1 n2 n3, runN false 0 0 4 3 n0 n1 n2 n3, runN false 0 0 4 4 n0 n1 n2 n3, runN false 0 0 4 5 n0 n1 n2 n3] = [okN n0 n1 n2 n3, okN n0 n1 n2 n3, okN n0 n1 n2 n3, okN n0 n1 n2 n3, okN n0 n1 n2 n3, okN n0 n1 n2 n3] := by kernel_rfl
theorem tfalse005 (n0 n1 n2 n3 : Int) : [runN false 0 0 5 0 n0 n1 n2 n3, runN false 0 0 5 1 n0 n1 n2 n3, runN false 0 0 5 2 n0 n1 n2 n3, runN false 0 0 5 3 n0 n1 n2 n3, runN false 0 0 5 4 n0 n1 n2 n3, runN false 0 0 5 5 n0 n1 n2 n3] = [okN n0 n1 n2 n3, okN n0 n1 n2 n3, okN n0 n1 n2 n3, okN n0 n1 n2 n3, okN n0 n1 n2 n3, okN n0 n1 n2 n3] := by kernel_rfl
theorem tfalse00 {y z : Nat} (hy : y < 6) (hz : z < 6) (n0 n1 n2 n3 : Int) : runN false 0 0 y z n0 n1 n2 n3 = okN n0 n1 n2 n3 := by
  rcases six hy with rfl | rfl | rfl | rfl | rfl | rfl
  · exact six_eq (tfalse000 n0 n1 n2 n3) (f := fun z => runN false 0 0 0 z n0 n1 n2 n3) hz
  · exact six_eq (tfalse001 n0 n1 n2 n3) (f := fun z => runN false 0 0 1 z n0 n1 n2 n3) hz
  · exact six_eq (tfalse002 n0 n1 n2 n3) (f := fun z => runN false 0 0 2 z n0 n1 n2 n3) hz
  · exact six_eq (tfalse003 n0 n1 n2 n3) (f := fun z => runN false 0 0 3 z n0 n1 n2 n3) hz
  · exact six_eq (tfalse004 n0 n1 n2 n3) (f := fun z => runN false 0 0 4 z n0 n1 n2 n3) hz
  · exact six_eq (tfalse005 n0 n1 n2 n3) (f := fun z => runN false 0 0 5 z n0 n1 n2 n3) hz
theorem tfalse010 (n0 n1 n2 n3 : Int) : [runN false 0 1 0 0 n0 n1 n2 n3, runN false 0 1 0 1 n0 n1 n2 n3, runN false 0 1 0 2 n0 n1 n2 n3, runN false 0 1 0 3 n0 n1 n2 n3, runN false 0 1 0 4 n0 n1 n2 n3, runN false 0 1 0 5 n0 n1 n2 n3] = [okN n0 n1 n2 n3, okN n0 n1 n2 n3, okN n0 n1 n2 n3, okN n0 n1 n2 n3, okN n0 n1 n2 n3, okN n0 n1 n2 n3] := by kernel_rfl
theorem tfalse011 (n0 n1 n2 n3 : Int) : [runN false 0 1 1 0 n0 n1 n2 n3, runN false 0 1 1 1 n0 n1 n2 n3, runN false 0 1 1 2 n0 n1 n2 n3, runN false 0 1 1 3 n0 n1 n2 n3, runN false 0 1 1 4 n0 n1 n2 n3, runN false 0 1 1 5 n0 n1 n2 n3] = [okN n0 n1 n2 n3, okN n0 n1 n2 n3, okN n0 n1 n2 n3, okN n0 n1 n2 n3, okN n0 n1 n2 n3, okN n0 n1 n2 n3] := by kernel_rfl
theorem tfalse012 (n0 n1 n2 n3 : Int) : [runN false 0 1 2 0 n0 n1 n2 n3, runN false 0 1 2 1 n0 n1 n2 n3, runN false 0 1 2 2 n0 n1 n2 n3, runN false 0 1 2 3 n0 n1 n2 n3, runN false 0 1 2 4 n0 n1 n2 n3, runN false 0 1 2 5 n0 n1 n2 n3] = [okN n0 n1 n2 n3, okN n0 n1 n2 n3, okN n0 n1 n2 n3, okN n0 n1 n2 n3, okN n0 n1 n2 n3, okN n0 n1 n2 n3] := by kernel_rfl
theorem tfalse013 (n0 n1 n2 n3 : Int) : [runN false 0 1 3 0 n0 n1 n2 n3, runN false 0 1 3 1 n0 n1 n2 n3, runN false 0 1 3 2 n0 n1 n2 n3, runN false 0 1 3 3 n0 n1 n2 n3, runN false 0 1 3 4 n0 n1 n2 n3, runN false 0 1 3 5 n0 n1 n2 n3] = [okN n0 n1 n2 n3, okN n0 n1 n2 n3, okN n0 n1 n2 n3, okN n0 n1 n2 n3, okN n0 n1 n2 n3, okN n0 n1 n2 n3] := by kernel_rfl
theorem tfalse014 (n0 n1 n2 n3 : Int) : [runN false 0 1 4 0 n0 n1 n2 n3, runN false 0 1 4 1 n0 n1 n2 n3, runN false 0 1 4 2 n0 n1 n2 n3, runN false 0 1 4 3 n0 n1 n2 n3, runN false 0 1 4 4 n0 n1 n2 n3, runN false 0 1 4 5 n0 n1 n2 n3] = [okN n0 n1 n2 n3, okN n0 n1 n2 n3, okN n0 n1 n2 n3, okN n0 n1 n2 n3, okN n0 n1 n2 n3, okN n0 n1 n2 n3] := by kernel_rfl
theorem tfalse015 (n0 n1 n2 n3 : Int) : [runN false 0 1 5 0 n0 n1 n2 n3, runN false 0 1 5 1 n0 n1 n2 n3, runN false 0 1 5 2 n0 n1 n2 n3, runN false 0 1 5 3 n0 n1 n2 n3, runN false 0 1 5 4 n0 n1 n2 n3, runN false 0 1 5 5 n0 n1 n2 n3] = [okN n0 n1 n2 n3, okN n0 n1 n2 n3, okN n0 n1 n2 n3, okN n0 n1 n2 n3, okN n0 n1 n2 n3, okN n0 n1 n2 n3] := by kernel_rfl
theorem tfalse01 {y z : Nat} (hy : y < 6) (hz : z < 6) (n0 n1 n2 n3 : Int) : runN false 0 1 y z n0 n1 n2 n3 = okN n0 n1 n2 n3 := by
  rcases six hy with rfl | rfl | rfl | rfl | rfl | rfl
  · exact six_eq (tfalse010 n0 n1 n2 n3) (f := fun z => runN false 0 1 0 z n0 n1 n2 n3) hz
  · exact six_eq (tfalse011 n0 n1 n2 n3) (f := fun z => runN false 0 1 1 z n0 n1 n2 n3) hz
  · exact six_eq (tfalse012 n0 n1 n2 n3) (f := fun z => runN false 0 1 2 z n0 n1 n2 n3) hz
  · exact six_eq (tfalse013 n0 n1 n2 n3) (f := fun z => runN false 0 1 3 z n0 n1 n2 n3) hz
  · exact six_eq (tfalse014 n0 n1 n2 n3) (f := fun z => runN false 0 1 4 z n0 n1 n2 n3) hz
  · exact six_eq (tfalse015 n0 n1 n2 n3) (f := fun z => runN false 0 1 5 z n0 n1 n2 n3) hz
theorem tfalse020 (n0 n1 n2 n3 : Int) : [runN false 0 2 0 0 n0 n1 n2 n3, runN false 0 2 0 1 n0 n1 n2 n3, runN false 0 2 0 2 n0 n1 n2 n3, runN false 0 2 0 3 n0 n1 n2 n3, runN false 0 2 0 4 n0 n1 n2 n3, runN false 0 2 0 5 n0 n1 n2 n3] = [okN n0 n1 n2 n3, okN n0 n1 n2 n3, okN n0 n1 n2 n3, okN n0 n1 n2 n3, okN n0 n1 n2 n3, okN n0 n1 n2 n3] := by kernel_rfl
theorem tfalse021 (n0 n1 n2 n3 : Int) : [runN false 0 2 1 0 n0 n1 n2 n3, runN false 0 2 1 1 n0 n1 n2 n3, runN false 0 2 1 2 n0 n1 n2 n3, runN false 0 2 1 3 n0 n1 n2 n3, runN false 0 2 1 4 n0 n1 n2 n3, runN false 0 2 1 5 n0 n1 n2 n3] = [okN n0 n1 n2 n3, okN n0 n1 n2 n3, okN n0 n1 n2 n3, okN n0 n1 n2 n3, okN n0 n1 n2 n3, okN n0 n1 n2 n3] := by kernel_rfl
theorem tfalse022 (n0 n1 n2 n3 : Int) : [runN false 0 2 2 0 n0 n1 n2 n3, runN false 0 2 2 1 n0 n1 n2 n3, runN false 0 2 2 2 n0 n1 n2 n3, runN false 0 2 2 3 n0 n1 n2 n3, runN false 0 2 2 4 n0 n1 n2 n3, runN false 0 2 2 5 n0 n1 n2 n3] = [okN n0 n1 n2 n3, okN n0 n1 n2 n3, okN n0 n1 n2 n3, okN n0 n1 n2 n3, okN n0 n1 n2 n3, okN n0 n1 n2 n3] := by kernel_rfl
theorem tfalse023 (n0 n1 n2 n3 : Int) : [runN false 0 2 3 0 n0 n1 n2 n3, runN false 0 2 3 1 n0 n1 n2 n3, runN false 0 2 3 2 n0 n1 n2 n3, runN false 0 2 3 3 n0 n1 n2 n3, runN false 0 2 3 4 n0 n1 n2 n3, runN false 0 2 3 5 n0 n1 n2 n3] = [okN n0 n1 n2 n3, okN n0 n1 n2 n3, okN n0 n1 n2 n3, okN n0 n1 n2 n3, okN n0 n1 n2 n3, okN n0 n1 n2 n3] := by kernel_rfl
theorem tfalse024 (n0 n1 n2 n3 : Int) : [runN false 0 2 4 0 n0 n1 n2 n3, runN false 0 2 4 1 n0 n1 n2 n3, runN false 0 2 4 2 n0 n1 n2 n3, runN false 0 2 4 3 n0 n1 n2 n3, runN false 0 2 4 4 n0 n1 n2 n3, runN false 0 2 4 5 n0 n1 n2 n3] = [okN n0 n1 n2 n3, okN n0 n1 n2 n3, okN n0 n1 n2 n3, okN n0 n1 n2 n3, okN n0 n1 n2 n3, okN n0 n1 n2 n3] := by kernel_rfl
theorem tfalse025 (n0 n1 n2 n3 : Int) : [runN false 0 2 5 0 n0 n1 n2 n3, runN false 0 2 5 1 n0 n1 n2 n3, runN false 0 2 5 2 n0 n1 n2 n3, runN false 0 2 5 3 n0 n1 n2 n3, runN false 0 2 5 4 n0 n1 n2 n3, runN false 0 2 5 5 n0 n1 n2 n3] = [okN n0 n1 n2 n3, okN n0 n1 n2 n3, okN n0 n1 n2 n3, okN n0 n1 n2 n3, okN n0 n1 n2 n3, okN n0 n1 n2 n3] := by kernel_rfl
theorem tfalse02 {y z : Nat} (hy : y < 6) (hz : z < 6) (n0 n1 n2 n3 : Int) : runN false 0 2 y z n0 n1 n2 n3 = okN n0 n1 n2 n3 := by
  rcases six hy with rfl | rfl | rfl | rfl | rfl | rfl
  · exact six_eq (tfalse020 n0 n1 n2 n3) (f := fun z => runN false 0 2 0 z n0 n1 n2 n3) hz
  · exact six_eq (tfalse021 n0 n1 n2 n3) (f := fun z => runN false 0 2 1 z n0 n1 n2 n3) hz
  · exact six_eq (tfalse022 n0 n1 n2 n3) (f := fun z => runN false 0 2 2 z n0 n1 n2 n3) hz
  · exact six_eq (tfalse023 n0 n1 n2 n3) (f := fun z => runN false 0 2 3 z n0 n1 n2 n3) hz
  · exact six_eq (tfalse024 n0 n1 n2 n3) (f := fun z => runN false 0 2 4 z n0 n1 n2 n3) hz
  · exact six_eq (tfalse025 n0 n1 n2 n3) (f := fun z => runN false 0 2 5 z n0 n1 n2 n3) hz
end Go.Proofs.YtpfjakcfjpgbmaaGreatDoor
