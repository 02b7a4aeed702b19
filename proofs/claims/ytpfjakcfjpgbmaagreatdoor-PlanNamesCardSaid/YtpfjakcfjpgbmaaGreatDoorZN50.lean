/- PlanNames: the walk, by runs. -/
import Derived.Test.YtpfjakcfjpgbmaaGreatDoorZN42
import Derived.Test.YtpfjakcfjpgbmaaGreatDoorZN43
import Derived.Test.YtpfjakcfjpgbmaaGreatDoorZN44
import Derived.Test.YtpfjakcfjpgbmaaGreatDoorZN45
import Derived.Test.YtpfjakcfjpgbmaaGreatDoorZN46
import Derived.Test.YtpfjakcfjpgbmaaGreatDoorZN47
import Derived.Test.YtpfjakcfjpgbmaaGreatDoorZN48
import Derived.Test.YtpfjakcfjpgbmaaGreatDoorZN49
import Derived.Test.YtpfjakcfjpgbmaaGreatDoorZN20
namespace Go.Proofs.YtpfjakcfjpgbmaaGreatDoor
set_option linter.unusedVariables false
set_option linter.unusedSimpArgs false
open Go.RowKit Go.Rx

theorem runN_all (b : Bool) {j x y z : Nat} (hj : j < 2) (hx : x < 6) (hy : y < 6) (hz : z < 6) (n0 n1 n2 n3 : Int) : runN b j x y z n0 n1 n2 n3 = okN n0 n1 n2 n3 := by
  have hj : j = 0 ∨ j = 1 := by omega
  cases b with
  | false =>
    rcases hj with rfl | rfl
    · rcases six hx with rfl | rfl | rfl | rfl | rfl | rfl
      · exact tfalse00 hy hz n0 n1 n2 n3
      · exact tfalse01 hy hz n0 n1 n2 n3
      · exact tfalse02 hy hz n0 n1 n2 n3
      · exact tfalse03 hy hz n0 n1 n2 n3
      · exact tfalse04 hy hz n0 n1 n2 n3
      · exact tfalse05 hy hz n0 n1 n2 n3
    · rcases six hx with rfl | rfl | rfl | rfl | rfl | rfl
      · exact tfalse10 hy hz n0 n1 n2 n3
      · exact tfalse11 hy hz n0 n1 n2 n3
      · exact tfalse12 hy hz n0 n1 n2 n3
      · exact tfalse13 hy hz n0 n1 n2 n3
      · exact tfalse14 hy hz n0 n1 n2 n3
      · exact tfalse15 hy hz n0 n1 n2 n3
  | true =>
    rcases hj with rfl | rfl
    · rcases six hx with rfl | rfl | rfl | rfl | rfl | rfl
      · exact ttrue00 hy hz n0 n1 n2 n3
      · exact ttrue01 hy hz n0 n1 n2 n3
      · exact ttrue02 hy hz n0 n1 n2 n3
      · exact ttrue03 hy hz n0 n1 n2 n3
      · exact ttrue04 hy hz n0 n1 n2 n3
      · exact ttrue05 hy hz n0 n1 n2 n3
    · rcases six hx with rfl | rfl | rfl | rfl | rfl | rfl
      · exact ttrue10 hy hz n0 n1 n2 n3
      · exact ttrue11 hy hz n0 n1 n2 n3
      · exact ttrue12 hy hz n0 n1 n2 n3
      · exact ttrue13 hy hz n0 n1 n2 n3
      · exact ttrue14 hy hz n0 n1 n2 n3
      · exact ttrue15 hy hz n0 n1 n2 n3
theorem left_of' {w w' : World} {ρ : Rx.Ren} {h : T AObj} (r : Rel 12 w.heap.size w ρ h w') : Left w w' := ⟨r.os, r.out, r.low⟩
def tsOf (o : Oper) : Array TypeId := match o.op with
  | .call ⟨_, _, ts⟩ => ts
  | _ => #[]
theorem rest_nat (n : Int) (m : Nat) (hm : 0 < m) : ∃ x : Nat, x < m ∧ restOf n (.ofNat m) = .ofNat x := by
  have h0 := Int.emod_nonneg n (b := (m : Int)) (by omega)
  have h1 := Int.emod_lt_of_pos n (b := (m : Int)) (by omega)
  refine ⟨(n % (m : Int)).toNat, by omega, ?_⟩
  unfold restOf
  simp only [Int.ofNat_eq_natCast]
  omega
theorem names_walk (n0 n1 n2 n3 : Int) (b : Bool) {w : World} (h : SAt w) : Calls Tryz.prog 3 #[.agg #[.int .i64 n0, .int .i64 n1, .int .i64 n2, .int .i64 n3], .bool b] w fun e w' => e = .returned (.bool true) ∧ Left w w' := by
  obtain ⟨x, hx, ex⟩ := rest_nat n0 6 (by decide)
  obtain ⟨y, hy, ey⟩ := rest_nat n1 6 (by decide)
  obtain ⟨z, hz, ez⟩ := rest_nat n2 6 (by decide)
  obtain ⟨j, hj, ej⟩ := rest_nat n3 2 (by decide)
  have hr := runN_all b hj hx hy hz n0 n1 n2 n3
  unfold runN okN at hr
  generalize hp : preN b n0 n1 n2 n3 = p at hr
  unfold tailN at hr
  split at hr
  case h_2 => cases hr
  case h_1 A s =>
    split at hr
    case h_2 => cases hr
    case h_1 u0 A1 s1 q1 =>
      split at hr
      case h_2 => cases hr
      case h_1 u1 A2 s2 q2 =>
        split at hr
        case h_2 => cases hr
        case h_1 u2 A3 s3 q3 =>
          split at hr
          case h_2 => cases hr
          case h_1 A4 s4 q4 =>
            split at hr
            case h_2 => cases hr
            case h_1 u3 A5 s5 q5 =>
              simp only [Option.some.injEq, Prod.mk.injEq] at hr
              obtain ⟨rfl, rfl, rfl, rfl, hr⟩ := hr
              refine (yields_calls (v := .bool true) (args := [.agg ⟨[vN n0, vN n1, vN n2, vN n3]⟩, .bool b]) fit Tryz.func3 (show Tryz.f3.body = some bodyN by kernel_rfl) (show 2 ≤ Tryz.f3.ntmps from of_decide_eq_true (by kernel_rfl)) (fun ρ u hu => by
                rcases List.mem_cons.1 hu with rfl | hu
                · exact .agg (.cons (.int ..) (.cons (.int ..) (.cons (.int ..) (.cons (.int ..) .nil))))
                · rcases List.mem_cons.1 hu with rfl | hu
                  · exact .bool _
                  · cases hu) (rel0 h) ?_).mono ?_
              · refine Rx.Yields.pre (K := known3) (k := 6000) (s := ⟨12, H0, 0, 0⟩) fit h 7 (by kernel_rfl) hp ?_
                have hb : dropC 7 bodyN = .seq (.region 15 (opsOf reg0) false) (dropC 8 bodyN) := by kernel_rfl
                rw [hb]
                refine Rx.Yields.stepE (K := known3) (k := 6000) fit h (region_runS (k := 5999) (stepX_ok (o := opAt reg0 2) q1 (by kernel_rfl) (fun _ e => by cases e) (fun A1 hA => by
                  have := valX_rest (ops := (opsOf reg0).toList) (A := A1) (o := opAt reg0 2) (t := 70) (ts := tsOf (opAt reg0 2)) (x := n0) (m := 6) (k := 5998) (by kernel_rfl) (by kernel_rfl) hA rfl rfl
                  rw [ex] at this
                  exact this) (by kernel_rfl) (by kernel_rfl))) ?_
                have hb : dropC 8 bodyN = .seq (.region 16 (opsOf reg1) false) (dropC 9 bodyN) := by kernel_rfl
                rw [hb]
                refine Rx.Yields.stepE (K := known3) (k := 6000) fit h (region_runS (k := 5999) (stepX_ok (o := opAt reg1 2) q2 (by kernel_rfl) (fun _ e => by cases e) (fun A1 hA => by
                  have := valX_rest (ops := (opsOf reg1).toList) (A := A1) (o := opAt reg1 2) (t := 75) (ts := tsOf (opAt reg1 2)) (x := n1) (m := 6) (k := 5998) (by kernel_rfl) (by kernel_rfl) hA rfl rfl
                  rw [ey] at this
                  exact this) (by kernel_rfl) (by kernel_rfl))) ?_
                have hb : dropC 9 bodyN = .seq (.region 17 (opsOf reg2) false) (dropC 10 bodyN) := by kernel_rfl
                rw [hb]
                refine Rx.Yields.stepE (K := known3) (k := 6000) fit h (region_runS (k := 5999) (stepX_ok (o := opAt reg2 2) q3 (by kernel_rfl) (fun _ e => by cases e) (fun A1 hA => by
                  have := valX_rest (ops := (opsOf reg2).toList) (A := A1) (o := opAt reg2 2) (t := 80) (ts := tsOf (opAt reg2 2)) (x := n2) (m := 6) (k := 5998) (by kernel_rfl) (by kernel_rfl) hA rfl rfl
                  rw [ez] at this
                  exact this) (by kernel_rfl) (by kernel_rfl))) ?_
                refine Rx.Yields.pre (K := known3) (k := 6000) fit h 1 (by kernel_rfl) q4 ?_
                have hb : dropC 1 (dropC 10 bodyN) = .seq (.region 19 (opsOf reg3) false) (dropC 12 bodyN) := by kernel_rfl
                rw [hb]
                refine Rx.Yields.stepE (K := known3) (k := 6000) fit h (region_runS (k := 5999) (stepX_ok (o := opAt reg3 2) q5 (by kernel_rfl) (fun _ e => by cases e) (fun A1 hA => by
                  have := valX_rest (ops := (opsOf reg3).toList) (A := A1) (o := opAt reg3 2) (t := 93) (ts := tsOf (opAt reg3 2)) (x := n3) (m := 2) (k := 5998) (by kernel_rfl) (by kernel_rfl) hA rfl rfl
                  rw [ej] at this
                  exact this) (by kernel_rfl) (by kernel_rfl))) ?_
                exact Rx.Yields.run (K := known3) (k := 6000) (s := s5) fit h hr
              · rintro e w' ⟨rfl, ρ, h', r⟩
                exact ⟨rfl, left_of' r⟩
end Go.Proofs.YtpfjakcfjpgbmaaGreatDoor
