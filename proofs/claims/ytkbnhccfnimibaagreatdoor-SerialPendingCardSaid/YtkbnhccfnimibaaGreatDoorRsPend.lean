/- SerialPending: its runs, as they are asked. -/
import Derived.Test.YtkbnhccfnimibaaGreatDoorRsSym
namespace Go.Proofs.YtkbnhccfnimibaaGreatDoor
set_option linter.unusedVariables false
set_option linter.unusedSimpArgs false
open Go.RowKit Go.Rx

noncomputable def pendPre (n : Int) (c : Bool) : Option ((Ex × Tm) × St) := (preRun (exeZ Tryz.prog 10 known2 6000).2 Tryz.f4.ntmps 2 (bodyOf Tryz.f4) (argA [.int .u8 n, .bool c] 0)).run ⟨10, H0, 0, 0⟩
noncomputable def pendRun (m : Nat) (n : Int) (c : Bool) : Bool := match pendPre n c with
  | some ((.normal, A), s) => endsAs Tryz.prog Tryz.f4 (.bool true) (((exeZ Tryz.prog 10 known2 6000).2 Tryz.f4.ntmps (dropC 3 (bodyOf Tryz.f4)) ((((A.set 19 (.int .u8 n)).set 20 (.int .u8 (.ofNat m))).set 21 (.int .i64 (.ofNat m))).set 6 (.int .i64 (.ofNat m)))).run s)
  | _ => false
set_option maxRecDepth 1000000
theorem pend_get (n : Int) (c : Bool) : (pendPre n c).bind (fun p => p.1.2.get 0) = some (.int .u8 n) := by kernel_rfl
theorem pend_shape : RemShape (fstC (dropC 2 (bodyOf Tryz.f4))) 0 19 20 21 6 5 := ⟨⟨2, by kernel_rfl⟩, by kernel_rfl, by kernel_rfl, by kernel_rfl, by kernel_rfl, by kernel_rfl, by kernel_rfl, by kernel_rfl, by kernel_rfl, by kernel_rfl, by kernel_rfl, by kernel_rfl, by kernel_rfl, by kernel_rfl⟩
theorem pend_run0f (n : Int) : pendRun 0 n false = true := by kernel_rfl
theorem pend_run0t (n : Int) : pendRun 0 n true = true := by kernel_rfl
end Go.Proofs.YtkbnhccfnimibaaGreatDoor
