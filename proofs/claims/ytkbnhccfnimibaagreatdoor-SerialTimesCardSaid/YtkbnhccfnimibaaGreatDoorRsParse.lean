/- The statements' texts of layer 24, read once: what lang.Parse gives for each. -/
import Derived.Test.YtkbnhccfnimibaaGreatDoorRsBase
namespace Go.Proofs.YtkbnhccfnimibaaGreatDoor
set_option linter.unusedVariables false
set_option linter.unusedSimpArgs false
open Go.RowKit Go.Rx

theorem SAt.still (w w' : World) (h : ∀ i, i < 10 → w'.heap[i]? = w.heap[i]?) (e : SAt w) : SAt w' := by
  obtain ⟨h1, h2, h3, h4⟩ := e
  refine ⟨h1.still _ _ h, ?_, ?_, ?_⟩
  · unfold Lib.TabIs World.var? at h2 ⊢
    rw [show Tryz.prog.globalNamed "strings.asciiSpace" = some 1 by kernel_rfl] at h2 ⊢
    simp only [Option.bind_some] at h2 ⊢
    rw [h _ (by decide)]
    exact h2
  · unfold KindsIs World.var? at h3 ⊢
    rw [show Tryz.prog.globalNamed "vintner/value.kinds" = some 0 by kernel_rfl] at h3 ⊢
    simp only [Option.bind_some] at h3 ⊢
    rw [h _ (by decide)]
    exact h3
  · have h5 := h 9 (by decide)
    obtain ⟨x, hx⟩ : ∃ x, w.heap[9]? = some x := ⟨_, Array.getElem?_eq_getElem (by omega)⟩
    rw [hx] at h5
    have := (Array.getElem?_eq_some_iff.1 h5).1
    omega

def txtI (k : Nat) : List UInt8 := [105, 110, 115, 101, 114, 116, 32, 105, 110, 116, 111, 32, 116, 32, 118, 97, 108, 117, 101, 115, 32, 40, UInt8.ofNat (48 + k), 44, 32, 110, 117, 108, 108, 41]
def txtS : List UInt8 := [115, 101, 108, 101, 99, 116, 32, 99, 111, 117, 110, 116, 40, 42, 41, 32, 102, 114, 111, 109, 32, 116]
def stm (k agg : Int) (row : Value) : Value :=
  .tuple ⟨[.agg ⟨[.int .i64 k, .string ⟨⟨[116]⟩⟩, .string ⟨⟨[]⟩⟩, .slice none 0 0, .slice none 0 0, row, .slice none 0 0, .slice none 0 0, .string ⟨⟨[]⟩⟩, .string ⟨⟨[]⟩⟩, .string ⟨⟨[]⟩⟩, .int .i64 agg, .slice none 0 0, .int .i64 0, .int .i64 0]⟩, .int .i64 0, .int .i64 0]⟩
def retI (k : Nat) : Ret := ⟨[(89, .cells [.int .i64 1, .int .i64 (.ofNat k), .string ⟨⟨[]⟩⟩, .int .i64 0, .int .i64 0, .string ⟨⟨[]⟩⟩] 49 0 0 (some 3))], stm 4 0 (.slice (some ⟨89, 0, none⟩) 2 2)⟩
def retS : Ret := ⟨[], stm 7 1 (.slice none 0 0)⟩
noncomputable def readRun (l : List UInt8) : Option (Value × St) := ((exeZ Tryz.prog 10 known0 4000).1.run 66 [.string ⟨⟨l⟩⟩]).run ⟨10, H0, 0, 0⟩
set_option maxRecDepth 1000000
theorem runS : fitRet 10 retS (readRun txtS) = true := by kernel_rfl
theorem runI1 : fitRet 10 (retI 1) (readRun (txtI 1)) = true := by kernel_rfl
theorem runI2 : fitRet 10 (retI 2) (readRun (txtI 2)) = true := by kernel_rfl
theorem runI3 : fitRet 10 (retI 3) (readRun (txtI 3)) = true := by kernel_rfl
theorem runI4 : fitRet 10 (retI 4) (readRun (txtI 4)) = true := by kernel_rfl
theorem runI5 : fitRet 10 (retI 5) (readRun (txtI 5)) = true := by kernel_rfl
theorem runI6 : fitRet 10 (retI 6) (readRun (txtI 6)) = true := by kernel_rfl
theorem runI7 : fitRet 10 (retI 7) (readRun (txtI 7)) = true := by kernel_rfl
theorem runI8 : fitRet 10 (retI 8) (readRun (txtI 8)) = true := by kernel_rfl
theorem runI9 : fitRet 10 (retI 9) (readRun (txtI 9)) = true := by kernel_rfl
end Go.Proofs.YtkbnhccfnimibaaGreatDoor
