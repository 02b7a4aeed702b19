/- rest: the residue, as an operation of the runs. -/
import Derived.Test.YtpfjakcfjpgbmaaGreatDoorZN15
import Derived.Test.YtpfjakcfjpgbmaaGreatDoorZN4
import Derived.Test.YtpfjakcfjpgbmaaGreatDoorProg
namespace Go.Proofs.YtpfjakcfjpgbmaaGreatDoor
set_option linter.unusedVariables false
set_option linter.unusedSimpArgs false
open Go.RowKit Go.Rx

def restOf (x n : Int) : Int := x % n
theorem rest_eq (x n : Int) (hn : 0 < n) (hn2 : n ≤ 1000000000) : Ending.returned (.int .i64 ((wrap64 (x.tmod n + n)).tmod n)) = Ending.returned (.int .i64 (restOf x n)) := by
  have h1 : (x.tmod n).natAbs < n.natAbs := by rw [Int.natAbs_tmod]; exact Nat.mod_lt _ (by omega)
  have h2 : wrap64 (x.tmod n + n) = x.tmod n + n := by
    have := IntKind.wrap_i64 (x.tmod n + n)
    simp only [wrap64]
    omega
  rw [h2, Int.tmod_eq_emod_of_nonneg (by omega), Int.add_emod_right]
  unfold restOf
  rw [Int.tmod_eq_emod]
  split
  · simp
  · rw [show ((n.natAbs : Nat) : Int) = n by omega]; simp
set_option maxHeartbeats 4000000 in
theorem rest_any (x n : Int) (hn : 0 < n) (hn2 : n ≤ 1000000000) (w : World) :
    Calls Tryz.prog 10 #[.int .i64 x, .int .i64 n] w fun e w' => e = .returned (.int .i64 (restOf x n)) ∧ w' = w := by
  go_enter Tryz.func10, Tryz.ntmps10
  go_wp2_with fail
  go_ret
  exact ⟨rest_eq x n hn hn2, rfl⟩
noncomputable def restM : List Value → X Value
  | [.int .i64 x, .int .i64 (.ofNat m)] => match Nat.ble 1 m with
    | true => match Nat.ble m 1000 with
      | true => X.pure (.int .i64 (restOf x (.ofNat m)))
      | false => X.fail
    | false => X.fail
  | _ => X.fail
section
variable {N0 b0 : Nat} {w0 : World} {ρ : Go.Rx.Ren} {w : World}
theorem restM_ok {args args' : List Value} {s s' : St} {v : Value} (r : Rel N0 b0 w0 ρ s.h w) (ha : VRels ρ args args') (h : (restM args).run s = some (v, s')) : CallGood Tryz.prog N0 b0 w0 ρ s' v 10 args' w := by
  unfold restM at h
  split at h
  case h_2 => cases h
  case h_1 x m =>
    cases ha with | cons g1 ha => cases ha with | cons g2 ha => cases ha with | nil =>
    cases g1; cases g2
    split at h
    case h_2 => cases h
    case h_1 h1 =>
      split at h
      case h_2 => cases h
      case h_1 h2 =>
        have h1 := Nat.le_of_ble_eq_true h1
        have h2 := Nat.le_of_ble_eq_true h2
        obtain ⟨rfl, rfl⟩ := X.pure_some h
        refine .inr ⟨enters_of Tryz.func10 (by kernel_rfl) rfl _ _, (rest_any x (.ofNat m) (by simp only [Int.ofNat_eq_natCast]; omega) (by simp only [Int.ofNat_eq_natCast]; omega) w).mono ?_⟩
        rintro e w' ⟨rfl, rfl⟩
        exact ⟨ρ, _, rfl, Go.Rx.Ren.le_refl _, r, .int ..⟩
end
end Go.Proofs.YtpfjakcfjpgbmaaGreatDoor
