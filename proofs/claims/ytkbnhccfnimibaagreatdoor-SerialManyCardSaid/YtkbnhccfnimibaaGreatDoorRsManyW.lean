/- SerialMany: the walk, by runs. -/
import Derived.Test.YtkbnhccfnimibaaGreatDoorRsMany
namespace Go.Proofs.YtkbnhccfnimibaaGreatDoor
set_option linter.unusedVariables false
set_option linter.unusedSimpArgs false
open Go.RowKit Go.Rx

theorem cut_at {fn : Func} {v : Value} {b0 : Nat} {w0 : World} {c : Code} {A : Tm} {l : List (Nat × Value)} (hE : SAt w0) (hc : c = .seq (fstC c) (sndC c)) (h : passes l H0 (runC fn (fstC c) A) = true)
    (hy : Rx.Yields Tryz.prog 10 b0 w0 fn v (sndC c) (mkA l) H0) : Rx.Yields Tryz.prog 10 b0 w0 fn v c A H0 := by
  have := Rx.Yields.step (K := known2) (s := ⟨10, H0, 0, 0⟩) fit hE h hy
  rwa [← hc] at this
theorem many_walk (n : Int) (bd : 0 ≤ n ∧ n ≤ 255) {w : World} (h : SAt w) : Calls Tryz.prog 5 #[.int .u8 n] w fun e w' => e = .returned (.bool true) ∧ Left w w' := by
  obtain ⟨k, rfl⟩ : ∃ k : Nat, n = k := ⟨n.toNat, by omega⟩
  have hp := allUnder_at many_pre k (by omega)
  have hr := many_run (m := k % 13) (by omega)
  unfold manyPre at hp
  dsimp only at hp
  split at hp
  case h_2 => cases hp
  case h_1 h1 =>
    split at hp
    case h_2 => cases hp
    case h_1 h2 =>
      refine (Rx.Yields.calls (v := .bool true) (args := [u8 k]) fit Tryz.func5 (show Tryz.f5.body = some (bodyOf Tryz.f5) by kernel_rfl) (show 1 ≤ Tryz.f5.ntmps from of_decide_eq_true (by kernel_rfl)) rfl (rel0 h) ?_).2.mono ?_
      · refine cut_at h (by kernel_rfl) h1 (cut_at h (by kernel_rfl) h2 (cut_at h (by kernel_rfl) hp ?_))
        exact Rx.Yields.run (K := known2) (s := ⟨10, H0, 0, 0⟩) fit h hr
      · rintro e w' ⟨rfl, ρ, h', r⟩
        exact ⟨rfl, left_of r⟩
end Go.Proofs.YtkbnhccfnimibaaGreatDoor
