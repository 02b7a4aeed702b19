/- SerialPending: the walk, by runs. -/
import Derived.Test.YtkbnhccfnimibaaGreatDoorRsPendA
import Derived.Test.YtkbnhccfnimibaaGreatDoorRsPendB
import Derived.Test.YtkbnhccfnimibaaGreatDoorRsPendC
import Derived.Test.YtkbnhccfnimibaaGreatDoorRsPendD
namespace Go.Proofs.YtkbnhccfnimibaaGreatDoor
set_option linter.unusedVariables false
set_option linter.unusedSimpArgs false
open Go.RowKit Go.Rx

theorem pend_run {m : Nat} (h : m < 5) (n : Int) (c : Bool) : pendRun m n c = true := by
  have : m = 0 ∨ m = 1 ∨ m = 2 ∨ m = 3 ∨ m = 4 := by omega
  rcases this with e | e | e | e | e <;> rw [e] <;> cases c
  · exact pend_run0f n
  · exact pend_run0t n
  · exact pend_run1f n
  · exact pend_run1t n
  · exact pend_run2f n
  · exact pend_run2t n
  · exact pend_run3f n
  · exact pend_run3t n
  · exact pend_run4f n
  · exact pend_run4t n
theorem pend_conv {m : Nat} (h : m < 5) : xconv Tryz.prog 5 3 (.int .u8 (.ofNat m)) = some (.int .i64 (.ofNat m)) := by
  have h1 : Tryz.prog.underlying 5 = some (.int .u8) := by kernel_rfl
  have h2 : Tryz.prog.underlying 3 = some (.int .i64) := by kernel_rfl
  unfold xconv
  rw [h1, h2]
  show mkI .i64 (wr .i64 (.ofNat m)) = _
  have : wr .i64 (Int.ofNat m) = Int.ofNat m := by
    show (match Nat.blt m 9223372036854775808 with | true => Int.ofNat m | false => _) = _
    rw [show Nat.blt m 9223372036854775808 = true from Nat.ble_eq_true_of_le (by omega)]
  rw [this]
  unfold mkI
  rw [fI_eq]
theorem pend_walk (n : Int) (bd : 0 ≤ n ∧ n ≤ 255) (c : Bool) {w : World} (h : SAt w) : Calls Tryz.prog 4 #[.int .u8 n, .bool c] w fun e w' => e = .returned (.bool true) ∧ Left w w' := by
  obtain ⟨m, hm, hl⟩ : ∃ m : Nat, n.tmod 5 = m ∧ m < 5 := ⟨(n.tmod 5).toNat, by rw [Int.tmod_eq_emod_of_nonneg bd.1]; omega, by rw [Int.tmod_eq_emod_of_nonneg bd.1]; omega⟩
  have hr := pend_run hl n c
  have hg := pend_get n c
  unfold pendRun at hr
  generalize hp : pendPre n c = p at hr hg
  split at hr
  case h_2 => cases hr
  case h_1 A s =>
    simp only [Option.bind_some] at hg
    refine (Rx.Yields.calls (v := .bool true) (args := [.int .u8 n, .bool c]) fit Tryz.func4 (show Tryz.f4.body = some (bodyOf Tryz.f4) by kernel_rfl) (show 2 ≤ Tryz.f4.ntmps from of_decide_eq_true (by kernel_rfl)) rfl (rel0 h) ?_).2.mono ?_
    · refine Rx.Yields.pre (K := known2) (k := 6000) (s := ⟨10, H0, 0, 0⟩) fit h 2 (by kernel_rfl) hp ?_
      have hb : dropC 2 (bodyOf Tryz.f4) = .seq (fstC (dropC 2 (bodyOf Tryz.f4))) (dropC 3 (bodyOf Tryz.f4)) := by kernel_rfl
      rw [hb]
      obtain ⟨id, hid⟩ := pend_shape.reg
      have hm2 : xbin .rem (.int .u8 n) (.int .u8 5) = some (.int .u8 (.ofNat m)) := by
        show mkI .u8 (n.tmod 5) = _
        rw [hm]
        unfold mkI
        rw [fI_eq]
        rfl
      have ho := rem_opsX pend_shape (call := (exe Tryz.prog 10 known2 5999).1) (n := Tryz.f4.ntmps) hg hm2 (pend_conv hl) (by kernel_rfl) (by kernel_rfl) (by kernel_rfl) (by kernel_rfl)
      rw [hid]
      refine Rx.Yields.stepE (K := known2) (k := 6000) fit h (region_run (k := 5999) (s := s) ho) ?_
      exact Rx.Yields.run (K := known2) (k := 6000) (s := s) fit h hr
    · rintro e w' ⟨rfl, ρ, h', r⟩
      exact ⟨rfl, left_of' r⟩
end Go.Proofs.YtkbnhccfnimibaaGreatDoor
