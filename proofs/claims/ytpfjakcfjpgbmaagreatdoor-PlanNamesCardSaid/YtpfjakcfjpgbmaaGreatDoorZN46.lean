/- Runs of PlanNames (written by tools/pnruns.py). -/
import Derived.Test.YtpfjakcfjpgbmaaGreatDoorZN41
namespace Go.Proofs.YtpfjakcfjpgbmaaGreatDoor
set_option linter.unusedVariables false
set_option linter.unusedSimpArgs false
open Go.RowKit Go.Rx

set_option maxRecDepth 1000000
theorem ttrue000 (n0 n1 n2 n3 : Int) : [runN true 0 0 0 0 n0 n1 n2 n3, runN true 0 0 0 1 n0 n1 n2 n3, runN true 0 0 0 2 n0 n1 n2 n3, runN true 0 0 0 3 n0 n1 n2 n3, runN true 0 0 0 4 n0 n1 n2 n3, runN true 0 0 0 5 n0 n1 n2 n3] = [okN n0 n1 n2 n3, okN n0 n1 n2 n3, okN n0 n1 n2 n3, okN n0 n1 n2 n3, okN n0 n1 n2 n3, okN n0 n1 n2 n3] := by kernel_rfl
theorem ttrue001 (n0 n1 n2 n3 : Int) : [runN true 0 0 1 0 n0 n1 n2 n3, runN true 0 0 1 1 n0 n1 n2 n3, runN true 0 0 1 2 n0 n1 n2 n3, runN true 0 0 1 3 n0 n1 n2 n3, runN true 0 0 1 4 n0 n1 n2 n3, runN true 0 0 1 5 n0 n1 n2 n3] = [okN n0 n1 n2 n3, okN n0 n1 n2 n3, okN n0 n1 n2 n3, okN n0 n1 n2 n3, okN n0 n1 n2 n3, okN n0 n1 n2 n3] := by kernel_rfl
theorem ttrue002 (n0 n1 n2 n3 : Int) : [runN true 0 0 2 0 n0 n1 n2 n3, runN true 0 0 2 1 n0 n1 n2 n3, runN true 0 0 2 2 n0 n1 n2 n3, runN true 0 0 2 3 n0 n1 n2 n3, runN true 0 0 2 4 n0 n1 n2 n3, runN true 0 0 2 5 n0 n1 n2 n3] = [okN n0 n1 n2 n3, okN n0 n1 n2 n3, okN n0 n1 n2 n3, okN n0 n1 n2 n3, okN n0 n1 n2 n3, okN n0 n1 n2 n3] := by kernel_rfl
theorem ttrue003 (n0 n1 n2 n3 : Int) : [runN true 0 0 3 0 n0 n1 n2 n3, runN true 0 0 3 1 n0 n1 n2 n3, runN true 0 0 3 2 n0 n1 n2 n3, runN true 0 0 3 3 n0 n1 n2 n3, runN true 0 0 3 4 n0 n1 n2 n3, runN true 0 0 3 5 n0 n1 n2 n3] = [okN n0 n1 n2 n3, okN n0 n1 n2 n3, okN n0 n1 n2 n3, okN n0 n1 n2 n3, okN n0 n1 n2 n3, okN n0 n1 n2 n3] := by kernel_rfl
theorem ttrue004 (n0 n1 n2 n3 : Int) : [runN true 0 0 4 0 n0 n1 n2 n3, runN true 0 0 4 1 n0 n1 n2 n3, runN true 0 0 4 2 n0 n1 n2 n3, runN true 0 0 4 3 n0 n1 n2 n3, runN true 0 0 4 4 n0 n1 n2 n3, runN true 0 0 4 5 n0 n1 n2 n3] = [okN n0 n1 n2 n3, okN n0 n1 n2 n3, okN n0 n1 n2 n3, okN n0 n1 n2 n3, okN n0 n1 n2 n3, okN n0 n1 n2 n3] := by kernel_rfl
theorem ttrue005 (n0 n1 n2 n3 : Int) : [runN true 0 0 5 0 n0 n1 n2 n3, runN true 0 0 5 1 n0 n1 n2 n3, runN true 0 0 5 2 n0 n1 n2 n3, runN true 0 0 5 3 n0 n1 n2 n3, runN true 0 0 5 4 n0 n1 n2 n3, runN true 0 0 5 5 n0 n1 n2 n3] = [okN n0 n1 n2 n3, okN n0 n1 n2 n3, okN n0 n1 n2 n3, okN n0 n1 n2 n3, okN n0 n1 n2 n3, okN n0 n1 n2 n3] := by kernel_rfl
theorem ttrue00 {y z : Nat} (hy : y < 6) (hz : z < 6) (n0 n1 n2 n3 : Int) : runN true 0 0 y z n0 n1 n2 n3 = okN n0 n1 n2 n3 := by
  rcases six hy with rfl | rfl | rfl | rfl | rfl | rfl
  · exact six_eq (ttrue000 n0 n1 n2 n3) (f := fun z => runN true 0 0 0 z n0 n1 n2 n3) hz
  · exact six_eq (ttrue001 n0 n1 n2 n3) (f := fun z => runN true 0 0 1 z n0 n1 n2 n3) hz
  · exact six_eq (ttrue002 n0 n1 n2 n3) (f := fun z => runN true 0 0 2 z n0 n1 n2 n3) hz
  · exact six_eq (ttrue003 n0 n1 n2 n3) (f := fun z => runN true 0 0 3 z n0 n1 n2 n3) hz
  · exact six_eq (ttrue004 n0 n1 n2 n3) (f := fun z => runN true 0 0 4 z n0 n1 n2 n3) hz
  · exact six_eq (ttrue005 n0 n1 n2 n3) (f := fun z => runN true 0 0 5 z n0 n1 n2 n3) hz
theorem ttrue010 (n0 n1 n2 n3 : Int) : [runN true 0 1 0 0 n0 n1 n2 n3, runN true 0 1 0 1 n0 n1 n2 n3, runN true 0 1 0 2 n0 n1 n2 n3, runN true 0 1 0 3 n0 n1 n2 n3, runN true 0 1 0 4 n0 n1 n2 n3, runN true 0 1 0 5 n0 n1 n2 n3] = [okN n0 n1 n2 n3, okN n0 n1 n2 n3, okN n0 n1 n2 n3, okN n0 n1 n2 n3, okN n0 n1 n2 n3, okN n0 n1 n2 n3] := by kernel_rfl
theorem ttrue011 (n0 n1 n2 n3 : Int) : [runN true 0 1 1 0 n0 n1 n2 n3, runN true 0 1 1 1 n0 n1 n2 n3, runN true 0 1 1 2 n0 n1 n2 n3, runN true 0 1 1 3 n0 n1 n2 n3, runN true 0 1 1 4 n0 n1 n2 n3, runN true 0 1 1 5 n0 n1 n2 n3] = [okN n0 n1 n2 n3, okN n0 n1 n2 n3, okN n0 n1 n2 n3, okN n0 n1 n2 n3, okN n0 n1 n2 n3, okN n0 n1 n2 n3] := by kernel_rfl
theorem ttrue012 (n0 n1 n2 n3 : Int) : [runN true 0 1 2 0 n0 n1 n2 n3, runN true 0 1 2 1 n0 n1 n2 n3, runN true 0 1 2 2 n0 n1 n2 n3, runN true 0 1 2 3 n0 n1 n2 n3, runN true 0 1 2 4 n0 n1 n2 n3, runN true 0 1 2 5 n0 n1 n2 n3] = [okN n0 n1 n2 n3, okN n0 n1 n2 n3, okN n0 n1 n2 n3, okN n0 n1 n2 n3, okN n0 n1 n2 n3, okN n0 n1 n2 n3] := by kernel_rfl
theorem ttrue013 (n0 n1 n2 n3 : Int) : [runN true 0 1 3 0 n0 n1 n2 n3, runN true 0 1 3 1 n0 n1 n2 n3, runN true 0 1 3 2 n0 n1 n2 n3, runN true 0 1 3 3 n0 n1 n2 n3, runN true 0 1 3 4 n0 n1 n2 n3, runN true 0 1 3 5 n0 n1 n2 n3] = [okN n0 n1 n2 n3, okN n0 n1 n2 n3, okN n0 n1 n2 n3, okN n0 n1 n2 n3, okN n0 n1 n2 n3, okN n0 n1 n2 n3] := by kernel_rfl
theorem ttrue014 (n0 n1 n2 n3 : Int) : [runN true 0 1 4 0 n0 n1 n2 n3, runN true 0 1 4 1 n0 n1 n2 n3, runN true 0 1 4 2 n0 n1 n2 n3, runN true 0 1 4 3 n0 n1 n2 n3, runN true 0 1 4 4 n0 n1 n2 n3, runN true 0 1 4 5 n0 n1 n2 n3] = [okN n0 n1 n2 n3, okN n0 n1 n2 n3, okN n0 n1 n2 n3, okN n0 n1 n2 n3, okN n0 n1 n2 n3, okN n0 n1 n2 n3] := by kernel_rfl
theorem ttrue015 (n0 n1 n2 n3 : Int) : [runN true 0 1 5 0 n0 n1 n2 n3, runN true 0 1 5 1 n0 n1 n2 n3, runN true 0 1 5 2 n0 n1 n2 n3, runN true 0 1 5 3 n0 n1 n2 n3, runN true 0 1 5 4 n0 n1 n2 n3, runN true 0 1 5 5 n0 n1 n2 n3] = [okN n0 n1 n2 n3, okN n0 n1 n2 n3, okN n0 n1 n2 n3, okN n0 n1 n2 n3, okN n0 n1 n2 n3, okN n0 n1 n2 n3] := by kernel_rfl
theorem ttrue01 {y z : Nat} (hy : y < 6) (hz : z < 6) (n0 n1 n2 n3 : Int) : runN true 0 1 y z n0 n1 n2 n3 = okN n0 n1 n2 n3 := by
  rcases six hy with rfl | rfl | rfl | rfl | rfl | rfl
  · exact six_eq (ttrue010 n0 n1 n2 n3) (f := fun z => runN true 0 1 0 z n0 n1 n2 n3) hz
  · exact six_eq (ttrue011 n0 n1 n2 n3) (f := fun z => runN true 0 1 1 z n0 n1 n2 n3) hz
  · exact six_eq (ttrue012 n0 n1 n2 n3) (f := fun z => runN true 0 1 2 z n0 n1 n2 n3) hz
  · exact six_eq (ttrue013 n0 n1 n2 n3) (f := fun z => runN true 0 1 3 z n0 n1 n2 n3) hz
  · exact six_eq (ttrue014 n0 n1 n2 n3) (f := fun z => runN true 0 1 4 z n0 n1 n2 n3) hz
  · exact six_eq (ttrue015 n0 n1 n2 n3) (f := fun z => runN true 0 1 5 z n0 n1 n2 n3) hz
theorem ttrue020 (n0 n1 n2 n3 : Int) : [runN true 0 2 0 0 n0 n1 n2 n3, runN true 0 2 0 1 n0 n1 n2 n3, runN true 0 2 0 2 n0 n1 n2 n3, runN true 0 2 0 3 n0 n1 n2 n3, runN true 0 2 0 4 n0 n1 n2 n3, runN true 0 2 0 5 n0 n1 n2 n3] = [okN n0 n1 n2 n3, okN n0 n1 n2 n3, okN n0 n1 n2 n3, okN n0 n1 n2 n3, okN n0 n1 n2 n3, okN n0 n1 n2 n3] := by kernel_rfl
theorem ttrue021 (n0 n1 n2 n3 : Int) : [runN true 0 2 1 0 n0 n1 n2 n3, runN true 0 2 1 1 n0 n1 n2 n3, runN true 0 2 1 2 n0 n1 n2 n3, runN true 0 2 1 3 n0 n1 n2 n3, runN true 0 2 1 4 n0 n1 n2 n3, runN true 0 2 1 5 n0 n1 n2 n3] = [okN n0 n1 n2 n3, okN n0 n1 n2 n3, okN n0 n1 n2 n3, okN n0 n1 n2 n3, okN n0 n1 n2 n3, okN n0 n1 n2 n3] := by kernel_rfl
theorem ttrue022 (n0 n1 n2 n3 : Int) : [runN true 0 2 2 0 n0 n1 n2 n3, runN true 0 2 2 1 n0 n1 n2 n3, runN true 0 2 2 2 n0 n1 n2 n3, runN true 0 2 2 3 n0 n1 n2 n3, runN true 0 2 2 4 n0 n1 n2 n3, runN true 0 2 2 5 n0 n1 n2 n3] = [okN n0 n1 n2 n3, okN n0 n1 n2 n3, okN n0 n1 n2 n3, okN n0 n1 n2 n3, okN n0 n1 n2 n3, okN n0 n1 n2 n3] := by kernel_rfl
theorem ttrue023 (n0 n1 n2 n3 : Int) : [runN true 0 2 3 0 n0 n1 n2 n3, runN true 0 2 3 1 n0 n1 n2 n3, runN true 0 2 3 2 n0 n1 n2 n3, runN true 0 2 3 3 n0 n1 n2 n3, runN true 0 2 3 4 n0 n1 n2 n3, runN true 0 2 3 5 n0 n1 n2 n3] = [okN n0 n1 n2 n3, okN n0 n1 n2 n3, okN n0 n1 n2 n3, okN n0 n1 n2 n3, okN n0 n1 n2 n3, okN n0 n1 n2 n3] := by kernel_rfl
theorem ttrue024 (n0 n1 n2 n3 : Int) : [runN true 0 2 4 0 n0 n1 n2 n3, runN true 0 2 4 1 n0 n1 n2 n3, runN true 0 2 4 2 n0 n1 n2 n3, runN true 0 2 4 3 n0 n1 n2 n3, runN true 0 2 4 4 n0 n1 n2 n3, runN true 0 2 4 5 n0 n1 n2 n3] = [okN n0 n1 n2 n3, okN n0 n1 n2 n3, okN n0 n1 n2 n3, okN n0 n1 n2 n3, okN n0 n1 n2 n3, okN n0 n1 n2 n3] := by kernel_rfl
theorem ttrue025 (n0 n1 n2 n3 : Int) : [runN true 0 2 5 0 n0 n1 n2 n3, runN true 0 2 5 1 n0 n1 n2 n3, runN true 0 2 5 2 n0 n1 n2 n3, runN true 0 2 5 3 n0 n1 n2 n3, runN true 0 2 5 4 n0 n1 n2 n3, runN true 0 2 5 5 n0 n1 n2 n3] = [okN n0 n1 n2 n3, okN n0 n1 n2 n3, okN n0 n1 n2 n3, okN n0 n1 n2 n3, okN n0 n1 n2 n3, okN n0 n1 n2 n3] := by kernel_rfl
theorem ttrue02 {y z : Nat} (hy : y < 6) (hz : z < 6) (n0 n1 n2 n3 : Int) : runN true 0 2 y z n0 n1 n2 n3 = okN n0 n1 n2 n3 := by
  rcases six hy with rfl | rfl | rfl | rfl | rfl | rfl
  · exact six_eq (ttrue020 n0 n1 n2 n3) (f := fun z => runN true 0 2 0 z n0 n1 n2 n3) hz
  · exact six_eq (ttrue021 n0 n1 n2 n3) (f := fun z => runN true 0 2 1 z n0 n1 n2 n3) hz
  · exact six_eq (ttrue022 n0 n1 n2 n3) (f := fun z => runN true 0 2 2 z n0 n1 n2 n3) hz
  · exact six_eq (ttrue023 n0 n1 n2 n3) (f := fun z => runN true 0 2 3 z n0 n1 n2 n3) hz
  · exact six_eq (ttrue024 n0 n1 n2 n3) (f := fun z => runN true 0 2 4 z n0 n1 n2 n3) hz
  · exact six_eq (ttrue025 n0 n1 n2 n3) (f := fun z => runN true 0 2 5 z n0 n1 n2 n3) hz
end Go.Proofs.YtpfjakcfjpgbmaaGreatDoor
