/- SerialMany: the walk, by runs. -/
import Derived.Test.YtkbnhccfnimibaaGreatDoorRsSan
import Derived.Test.YtkbnhccfnimibaaGreatDoorRsLaw
namespace Go.Proofs.YtkbnhccfnimibaaGreatDoor
set_option linter.unusedVariables false
set_option linter.unusedSimpArgs false
open Go.RowKit Go.Rx

theorem left_of {w w' : World} {ρ : Rx.Ren} {h : T AObj} (r : Rel 10 w.heap.size w ρ h w') : Left w w' := ⟨r.os, r.out, r.low⟩
noncomputable def runC (fn : Func) (c : Code) (A : Tm) : Option ((Ex × Tm) × St) := ((exeZ Tryz.prog 10 known2 4000).2 fn.ntmps c A).run ⟨10, H0, 0, 0⟩
def u8 (n : Nat) : Value := .int .u8 (.ofNat n)
def i64 (n : Nat) : Value := .int .i64 (.ofNat n)
/-- the first part of SerialMany at n: many = n % 13 -/
noncomputable def manyPre (n : Nat) : Bool :=
  let c := bodyOf Tryz.f5
  match passes [(0, u8 n)] H0 (runC Tryz.f5 (fstC c) (argA [u8 n] 0)) with
  | true => match passes [(0, u8 n), (3, .bool true)] H0 (runC Tryz.f5 (fstC (sndC c)) (mkA [(0, u8 n)])) with
    | true => passes [(3, .bool true), (4, i64 (n % 13))] H0 (runC Tryz.f5 (fstC (sndC (sndC c))) (mkA [(0, u8 n), (3, .bool true)]))
    | false => false
  | false => false
noncomputable def manyRun (m : Nat) : Bool := endsAs Tryz.prog Tryz.f5 (.bool true) (runC Tryz.f5 (sndC (sndC (sndC (bodyOf Tryz.f5)))) (mkA [(3, .bool true), (4, i64 m)]))
noncomputable def allUnder (p : Nat → Bool) : Nat → Bool
  | 0 => true
  | n + 1 => match p n with
    | true => allUnder p n
    | false => false
theorem allUnder_at {p : Nat → Bool} : ∀ {n : Nat}, allUnder p n = true → ∀ k, k < n → p k = true
  | 0, _, k, h => by omega
  | n + 1, h, k, hk => by
    dsimp only [allUnder] at h
    split at h
    · rename_i h1
      by_cases e : k = n
      · rw [e]; exact h1
      · exact allUnder_at h k (by omega)
    · cases h
set_option maxRecDepth 1000000
theorem many_pre : allUnder manyPre 256 = true := by kernel_rfl
theorem many_run0 : manyRun 0 = true := by kernel_rfl
theorem many_run1 : manyRun 1 = true := by kernel_rfl
theorem many_run2 : manyRun 2 = true := by kernel_rfl
theorem many_run3 : manyRun 3 = true := by kernel_rfl
theorem many_run4 : manyRun 4 = true := by kernel_rfl
theorem many_run5 : manyRun 5 = true := by kernel_rfl
theorem many_run6 : manyRun 6 = true := by kernel_rfl
theorem many_run7 : manyRun 7 = true := by kernel_rfl
theorem many_run8 : manyRun 8 = true := by kernel_rfl
theorem many_run9 : manyRun 9 = true := by kernel_rfl
theorem many_run10 : manyRun 10 = true := by kernel_rfl
theorem many_run11 : manyRun 11 = true := by kernel_rfl
theorem many_run12 : manyRun 12 = true := by kernel_rfl
theorem many_run {m : Nat} (h : m < 13) : manyRun m = true := by
  have : m = 0 ∨ m = 1 ∨ m = 2 ∨ m = 3 ∨ m = 4 ∨ m = 5 ∨ m = 6 ∨ m = 7 ∨ m = 8 ∨ m = 9 ∨ m = 10 ∨ m = 11 ∨ m = 12 := by omega
  rcases this with e | e | e | e | e | e | e | e | e | e | e | e | e <;> rw [e]
  · exact many_run0
  · exact many_run1
  · exact many_run2
  · exact many_run3
  · exact many_run4
  · exact many_run5
  · exact many_run6
  · exact many_run7
  · exact many_run8
  · exact many_run9
  · exact many_run10
  · exact many_run11
  · exact many_run12
end Go.Proofs.YtkbnhccfnimibaaGreatDoor
