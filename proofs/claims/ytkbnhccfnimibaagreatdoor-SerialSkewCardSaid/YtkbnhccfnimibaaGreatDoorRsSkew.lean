/- SerialSkew: its runs, as they are asked. -/
import Derived.Test.YtkbnhccfnimibaaGreatDoorRsSym
namespace Go.Proofs.YtkbnhccfnimibaaGreatDoor
set_option linter.unusedVariables false
set_option linter.unusedSimpArgs false
open Go.RowKit Go.Rx

noncomputable def skewPre (n : Int) (first : Bool) : Option ((Ex × Tm) × St) := (preRun (exeZ Tryz.prog 10 known2 6000).2 Tryz.f6.ntmps 3 (bodyOf Tryz.f6) (argA [.int .u8 n, .bool first] 0)).run ⟨10, H0, 0, 0⟩
noncomputable def skewRun (m : Nat) (n : Int) (first : Bool) : Bool := match skewPre n first with
  | some ((.normal, A), s) => endsAs Tryz.prog Tryz.f6 (.bool true) (((exeZ Tryz.prog 10 known2 6000).2 Tryz.f6.ntmps (dropC 4 (bodyOf Tryz.f6)) ((((A.set 23 (.int .u8 n)).set 24 (.int .u8 (.ofNat m))).set 25 (.int .i64 (.ofNat m))).set 7 (.int .i64 (.ofNat m)))).run s)
  | _ => false
set_option maxRecDepth 1000000
theorem skew_get (n : Int) (first : Bool) : (skewPre n first).bind (fun p => p.1.2.get 0) = some (.int .u8 n) := by kernel_rfl
theorem skew_shape : RemShape (fstC (dropC 3 (bodyOf Tryz.f6))) 0 23 24 25 7 6 := ⟨⟨3, by kernel_rfl⟩, by kernel_rfl, by kernel_rfl, by kernel_rfl, by kernel_rfl, by kernel_rfl, by kernel_rfl, by kernel_rfl, by kernel_rfl, by kernel_rfl, by kernel_rfl, by kernel_rfl, by kernel_rfl, by kernel_rfl⟩
theorem skew_run0f (n : Int) : skewRun 0 n false = true := by kernel_rfl
end Go.Proofs.YtkbnhccfnimibaaGreatDoor
