/- SerialSkew: the walk, by runs. -/
import Derived.Test.YtkbnhccfnimibaaGreatDoorRsSkewA
import Derived.Test.YtkbnhccfnimibaaGreatDoorRsSkewB
import Derived.Test.YtkbnhccfnimibaaGreatDoorRsSkewC
import Derived.Test.YtkbnhccfnimibaaGreatDoorRsSkewD
namespace Go.Proofs.YtkbnhccfnimibaaGreatDoor
set_option linter.unusedVariables false
set_option linter.unusedSimpArgs false
open Go.RowKit Go.Rx

theorem skew_run {m : Nat} (h : m < 6) (n : Int) (first : Bool) : skewRun m n first = true := by
  have : m = 0 ∨ m = 1 ∨ m = 2 ∨ m = 3 ∨ m = 4 ∨ m = 5 := by omega
  rcases this with e | e | e | e | e | e <;> rw [e] <;> cases first
  · exact skew_run0f n
  · exact skew_run0t n
  · exact skew_run1f n
  · exact skew_run1t n
  · exact skew_run2f n
  · exact skew_run2t n
  · exact skew_run3f n
  · exact skew_run3t n
  · exact skew_run4f n
  · exact skew_run4t n
  · exact skew_run5f n
  · exact skew_run5t n
theorem skew_conv {m : Nat} (h : m < 6) : xconv Tryz.prog 5 3 (.int .u8 (.ofNat m)) = some (.int .i64 (.ofNat m)) := by
  have h1 : Tryz.prog.underlying 5 = some (.int .u8) := by kernel_rfl
  have h2 : Tryz.prog.underlying 3 = some (.int .i64) := by kernel_rfl
  unfold xconv
  rw [h1, h2]
  show mkI .i64 (wr .i64 (.ofNat m)) = _
  have : wr .i64 (Int.ofNat m) = Int.ofNat m := by
    show (match Nat.blt m 9223372036854775808 with | true => Int.ofNat m | false => _) = _
    rw [show Nat.blt m 9223372036854775808 = true from Nat.ble_eq_true_of_le (by omega)]
  rw [this]
  unfold mkI
  rw [fI_eq]
theorem skew_walk (n : Int) (bd : 0 ≤ n ∧ n ≤ 255) (first : Bool) {w : World} (h : SAt w) : Calls Tryz.prog 6 #[.int .u8 n, .bool first] w fun e w' => e = .returned (.bool true) ∧ Left w w' := by
  obtain ⟨m, hm, hl⟩ : ∃ m : Nat, n.tmod 6 = m ∧ m < 6 := ⟨(n.tmod 6).toNat, by rw [Int.tmod_eq_emod_of_nonneg bd.1]; omega, by rw [Int.tmod_eq_emod_of_nonneg bd.1]; omega⟩
  have hr := skew_run hl n first
  have hg := skew_get n first
  unfold skewRun at hr
  generalize hp : skewPre n first = p at hr hg
  split at hr
  case h_2 => cases hr
  case h_1 A s =>
    simp only [Option.bind_some] at hg
    refine (Rx.Yields.calls (v := .bool true) (args := [.int .u8 n, .bool first]) fit Tryz.func6 (show Tryz.f6.body = some (bodyOf Tryz.f6) by kernel_rfl) (show 2 ≤ Tryz.f6.ntmps from of_decide_eq_true (by kernel_rfl)) rfl (rel0 h) ?_).2.mono ?_
    · refine Rx.Yields.pre (K := known2) (k := 6000) (s := ⟨10, H0, 0, 0⟩) fit h 3 (by kernel_rfl) hp ?_
      have hb : dropC 3 (bodyOf Tryz.f6) = .seq (fstC (dropC 3 (bodyOf Tryz.f6))) (dropC 4 (bodyOf Tryz.f6)) := by kernel_rfl
      rw [hb]
      obtain ⟨id, hid⟩ := skew_shape.reg
      have hm2 : xbin .rem (.int .u8 n) (.int .u8 6) = some (.int .u8 (.ofNat m)) := by
        show mkI .u8 (n.tmod 6) = _
        rw [hm]
        unfold mkI
        rw [fI_eq]
        rfl
      have ho := rem_opsX skew_shape (call := (exe Tryz.prog 10 known2 5999).1) (n := Tryz.f6.ntmps) hg hm2 (skew_conv hl) (by kernel_rfl) (by kernel_rfl) (by kernel_rfl) (by kernel_rfl)
      rw [hid]
      refine Rx.Yields.stepE (K := known2) (k := 6000) fit h (region_run (k := 5999) (s := s) ho) ?_
      exact Rx.Yields.run (K := known2) (k := 6000) (s := s) fit h hr
    · rintro e w' ⟨rfl, ρ, h', r⟩
      exact ⟨rfl, left_of' r⟩
end Go.Proofs.YtkbnhccfnimibaaGreatDoor
