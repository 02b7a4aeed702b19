/- PlainJoins, the tied card: an equality join returns each pair of matching rows once; null never matches; column names refer to the first table; self joins and wrong columns are rejected. Conditions: none beyond the row's own. -/
import Derived.Test.YtgemihkcihigpaaGreatDoorTie
import Derived.Test.YtgemihkcihigpaaGreatDoorCards
import Derived.Test.YtgemihkcihigpaaGreatDoorZB35
import Derived.Test.YtgemihkcihigpaaGreatDoorZB36
import Derived.Test.YtgemihkcihigpaaGreatDoorZJ3
namespace Go.Proofs.YtgemihkcihigpaaGreatDoor
set_option linter.unusedVariables false
set_option linter.unusedSimpArgs false
open Go.ChangeShapes Go.WideShapes Go.ChangeAt Go.RowKit

theorem join_law {al : Option Addr} {cl : Nat} {l : List Int} {w : World} (sl : SlV intR (fun _ => True) w (.slice al l.length cl) l) (_ : ∀ x ∈ l, Rng x) (hK : KindsAt w) :
    Calls Tryz.prog 6 #[.slice al l.length cl] w fun e w' => e = .returned (.bool true) ∧ Below w.heap.size w w' := join_walk sl hK
set_option maxRecDepth 100000 in
theorem plainJoins_lifted (os : Os) (started : os.Started) (H : Type) (enc : TypeId × Value → H) :
    ReturnsInHanded {} Tryz.checked os 6 .any (fun w args => (Rows.plainJoinsSpec.pre enc Tryz.prog Tryz.f6 [] false w args ∧ laidMetH Tryz.prog Rows.plainJoinsRow.laid w) ∧ sizedMet enc Tryz.prog Tryz.f6 (OpenSpec.ofChange Rows.plainJoinsSpec) false w args) (Rows.plainJoinsSpec.post enc Tryz.prog Tryz.f6 false true false false) := by
  refine returns_laid (C := Tryz.checked) Tryz.own started (by kernel_rfl) Tryz.func6
    (ChangeSpec.witness_shaped (enc := enc) (C := Tryz.checked) (os := os) (X := fun w _ => laidMetH Tryz.prog Rows.plainJoinsRow.laid w) false (laidWorld os) #[.slice none 0 0] 8 rfl (World.shaped_of_RefB (by kernel_rfl) (by kernel_rfl)) (by kernel_rfl) (by kernel_rfl) (by kernel_rfl) (door_met os _)) ?_
  intro W base args ds gs before hval0 hW hsz0 hL hSh
  have hval : ∀ (j : Nat) t v, Tryz.f6.params[j]? = some t → args[j]? = some v → Value.okWide Tryz.prog W .any base t v := hval0
  have hsz : (DataW.weightsEach Tryz.prog (Tryz.f6.params.toList ++ Rows.plainJoinsSpec.plain.varTypes Tryz.prog) (ds ++ gs)).all (· ≤ reachBytes) = true := hsz0
  clear hsz0 hval0
  have hW' := hW
  obtain ⟨p, q, hA0, hV, rfl, hfz, hnd⟩ := hW
  have hA : DataW.TrodAll enc Tryz.prog W 0 (fun _ => true) true Tryz.f6.params.toList args.toList ds p := hA0
  rw [Tryz.params6] at hA hval hsz
  obtain ⟨v0, vs0, d0, ds0, p0, q0, hargs, rfl, rfl, h0, r0⟩ := trodAll_cons hA
  obtain ⟨rfl, rfl, rfl⟩ := trodAll_nil r0
  obtain rfl : args = #[v0] := by cases args; simp_all
  obtain ⟨rfl, rfl⟩ := trodVars_none hV
  obtain ⟨_, _, _, rfl, s0, g0⟩ := open_ints (hval 0 22 v0 rfl rfl) h0 hsz (j := 0) rfl rfl
  clear hA0
  refine (join_law s0 g0 (kinds_of_laid (List.mem_cons_self ..) hL)).mono fun e W' ⟨he, hb⟩ => ?_
  subst he
  exact ⟨_, rfl, law_post Tryz.laidOut (by kernel_rfl) rfl Tryz.underlying4 rfl rfl hW' hb⟩

theorem plainJoins_holds : Rows.PlainJoinsSaid :=
  OpenClaim.holds_of_wide 6 Tryz.f6 rfl rfl rfl rfl rfl rfl rfl ⟨rfl, rfl, rfl, rfl, rfl⟩ rfl rfl rfl rfl rfl (by kernel_rfl) Tryz.func6 (by kernel_rfl)
    (of_decide_eq_true (by kernel_rfl)) (by unfold Func.isWrapper; first | (rw [if_pos (by decide +kernel)]; kernel_rfl) | (rw [if_neg (by decide +kernel)]; exact ⟨rfl, rfl⟩))
    (fun os started H enc _ => plainJoins_lifted os started H enc)
end Go.Proofs.YtgemihkcihigpaaGreatDoor

namespace Go.Proofs.YtgemihkcihigpaaGreatDoor
set_option linter.unusedVariables false
set_option linter.unusedSimpArgs false
open Go

theorem plainJoins_card : Rows.PlainJoinsCardSaid :=
  Claim7.holds_tied_plain_at .later [] _ _ _ _ plainJoins_holds (fun _ h => by cases h) (by kernel_rfl) (fun _ h => by cases h) plainJoins_row_tie rfl ⟨rfl, rfl⟩ (by kernel_rfl) rfl
    (fun f fn hf hfn => by
      obtain rfl : f = 6 := (Option.some.inj ((show Tryz.prog.funcNamed Tryz.f6.name = some 6 by kernel_rfl).symm.trans hf)).symm
      obtain rfl : fn = Tryz.f6 := (Option.some.inj (Tryz.func6.symm.trans hfn)).symm
      refine ⟨by kernel_rfl, fun j t ht => ?_⟩
      have h := List.all_eq_true.1 (show Tryz.f6.params.toList.all (fun t => !Tryz.prog.wantsStandIn t) = true by kernel_rfl) t (List.mem_of_getElem? (by simpa using ht))
      exact (by simpa using h : Tryz.prog.wantsStandIn t = false))
    (by kernel_rfl)
end Go.Proofs.YtgemihkcihigpaaGreatDoor
