/- SerialTimes: the walk, by runs. -/
import Derived.Test.YtkbnhccfnimibaaGreatDoorRsTimesA
import Derived.Test.YtkbnhccfnimibaaGreatDoorRsTimesB
import Derived.Test.YtkbnhccfnimibaaGreatDoorRsTimesC
import Derived.Test.YtkbnhccfnimibaaGreatDoorRsTimesD
import Derived.Test.YtkbnhccfnimibaaGreatDoorRsTimesE
import Derived.Test.YtkbnhccfnimibaaGreatDoorRsTimesF
namespace Go.Proofs.YtkbnhccfnimibaaGreatDoor
set_option linter.unusedVariables false
set_option linter.unusedSimpArgs false
open Go.RowKit Go.Rx

theorem times_run {m x : Nat} (h : m < 5) (hx : x < m + 1) (n k : Nat) : timesRun m x n k = true := by
  have : m = 0 ∨ m = 1 ∨ m = 2 ∨ m = 3 ∨ m = 4 := by omega
  rcases this with rfl | rfl | rfl | rfl | rfl
  · have : x = 0 := by omega
    subst this
    exact times_run00 n k
  · have : x = 0 ∨ x = 1 := by omega
    rcases this with rfl | rfl
    · exact times_run10 n k
    · exact times_run11 n k
  · have : x = 0 ∨ x = 1 ∨ x = 2 := by omega
    rcases this with rfl | rfl | rfl
    · exact times_run20 n k
    · exact times_run21 n k
    · exact times_run22 n k
  · have : x = 0 ∨ x = 1 ∨ x = 2 ∨ x = 3 := by omega
    rcases this with rfl | rfl | rfl | rfl
    · exact times_run30 n k
    · exact times_run31 n k
    · exact times_run32 n k
    · exact times_run33 n k
  · have : x = 0 ∨ x = 1 ∨ x = 2 ∨ x = 3 ∨ x = 4 := by omega
    rcases this with rfl | rfl | rfl | rfl | rfl
    · exact times_run40 n k
    · exact times_run41 n k
    · exact times_run42 n k
    · exact times_run43 n k
    · exact times_run44 n k
theorem times_mid {m : Nat} (h : m < 5) (n k : Nat) : (timesMid m n k).bind (fun p => p.1.2.get 1) = some (vU k) ∧ (timesMid m n k).bind (fun p => p.1.2.get 6) = some (vI (m + 1)) := by
  have : m = 0 ∨ m = 1 ∨ m = 2 ∨ m = 3 ∨ m = 4 := by omega
  rcases this with rfl | rfl | rfl | rfl | rfl
  · exact times_mid0 n k
  · exact times_mid1 n k
  · exact times_mid2 n k
  · exact times_mid3 n k
  · exact times_mid4 n k
theorem times_walk (n : Int) (bn : 0 ≤ n ∧ n ≤ 255) (k : Int) (bk : 0 ≤ k ∧ k ≤ 255) {w : World} (h : SAt w) : Calls Tryz.prog 3 #[.int .u8 n, .int .u8 k] w fun e w' => e = .returned (.bool true) ∧ Left w w' := by
  obtain ⟨n, rfl⟩ : ∃ a : Nat, n = .ofNat a := ⟨n.toNat, (Int.toNat_of_nonneg bn.1).symm⟩
  obtain ⟨k, rfl⟩ : ∃ a : Nat, k = .ofNat a := ⟨k.toNat, (Int.toNat_of_nonneg bk.1).symm⟩
  have hk : k < 256 := by have := bk.2; simp only [Int.ofNat_eq_natCast] at this; omega
  clear bn bk
  obtain ⟨m, hm⟩ : ∃ m, n % 5 = m := ⟨_, rfl⟩
  have hl : m < 5 := by omega
  obtain ⟨x, hx⟩ : ∃ x, k % (m + 1) = x := ⟨_, rfl⟩
  have hlx : x < m + 1 := by rw [← hx]; exact Nat.mod_lt _ (by omega)
  have hr := times_run hl hlx n k
  have hg := times_get n k
  have hg2 := times_mid hl n k
  unfold timesRun at hr
  unfold timesMid at hr hg2
  generalize hp : timesPre n k = p at hr hg hg2
  split at hr
  case h_2 => cases hr
  case h_1 q B t hq =>
    split at hq
    case h_2 => cases hq
    case h_1 A s =>
      simp only [Option.bind_some] at hg
      dsimp only at hg2
      rw [hq] at hg2
      simp only [Option.bind_some] at hg2
      refine (Rx.Yields.calls (v := .bool true) (args := [vU n, vU k]) fit Tryz.func3 (show Tryz.f3.body = some (bodyOf Tryz.f3) by kernel_rfl) (show 2 ≤ Tryz.f3.ntmps from of_decide_eq_true (by kernel_rfl)) rfl (rel0 h) ?_).2.mono ?_
      · refine Rx.Yields.pre (K := known2) (k := 6000) (s := ⟨10, H0, 0, 0⟩) fit h 2 (by kernel_rfl) hp ?_
        have hb : dropC 2 (bodyOf Tryz.f3) = .seq reg1 (dropC 3 (bodyOf Tryz.f3)) := by kernel_rfl
        rw [hb, reg1_is]
        refine Rx.Yields.stepE (K := known2) (k := 6000) fit h (region_run (k := 5999) (s := s) (reg1_run hg hm hl)) ?_
        refine Rx.Yields.pre (K := known2) (k := 6000) (s := s) fit h 7 (by kernel_rfl) hq ?_
        have hb2 : dropC 7 (dropC 3 (bodyOf Tryz.f3)) = .seq reg2 (dropC 11 (bodyOf Tryz.f3)) := by kernel_rfl
        rw [hb2, reg2_is]
        refine Rx.Yields.stepE (K := known2) (k := 6000) fit h (region_run (k := 5999) (s := t) (reg2_run hg2.1 hg2.2 hx hk)) ?_
        exact Rx.Yields.run (K := known2) (k := 6000) (s := t) fit h hr
      · rintro e w' ⟨rfl, ρ, h', r⟩
        exact ⟨rfl, left_of' r⟩
end Go.Proofs.YtkbnhccfnimibaaGreatDoor
