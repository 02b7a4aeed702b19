/- ExecNil: a nil access gives ErrArg for the statements that need one, and runs without an access are done and do nothing. Conditions: none beyond the row's own. -/
import Derived.Test.YtpfjakcfjpgbmaaGreatDoorEnOpen
import Derived.Test.YtpfjakcfjpgbmaaGreatDoorEnFrame
namespace Go.Proofs.YtpfjakcfjpgbmaaGreatDoor
set_option linter.unusedVariables false
set_option linter.unusedSimpArgs false
set_option linter.unusedVariables false
set_option linter.unusedSimpArgs false
open Go.ChangeShapes Go.WideShapes Go.ChangeAt Go.RowKit

theorem door_met (os : Os) (args : Array Value) : laidMetH Tryz.prog Rows.execNilRow.laid ((laidWorld os).forCall (fun _ _ => 0) ⟨#[], args, []⟩).memory :=
  laidMetH_of_parts3 (fuel := 8) (met_of_run 8 1000 (by kernel_rfl)) (by kernel_rfl) (by kernel_rfl)
set_option maxRecDepth 100000 in
theorem execNil_lifted (os : Os) (started : os.Started) (H : Type) (enc : TypeId × Value → H) :
    ReturnsInHanded {} Tryz.checked os 4 .any (fun w args => (Rows.execNilSpec.pre enc Tryz.prog Tryz.f4 [] false w args ∧ laidMetH Tryz.prog Rows.execNilRow.laid w) ∧ sizedMet enc Tryz.prog Tryz.f4 (OpenSpec.ofChange Rows.execNilSpec) false w args) (Rows.execNilSpec.post enc Tryz.prog Tryz.f4 false true false false) := by
  refine returns_laid (C := Tryz.checked) Tryz.own started (by kernel_rfl) Tryz.func4
    (ChangeSpec.witness_shaped (enc := enc) (C := Tryz.checked) (os := os) (X := fun w _ => laidMetH Tryz.prog Rows.execNilRow.laid w) false (laidWorld os) #[.agg #[.int .i64 0, .string ⟨#[]⟩, .string ⟨#[]⟩, .slice none 0 0, .slice none 0 0, .slice none 0 0, .slice none 0 0, .slice none 0 0, .string ⟨#[]⟩, .string ⟨#[]⟩, .string ⟨#[]⟩, .int .i64 0, .slice none 0 0, .int .i64 0, .int .i64 0], .agg #[.int .i64 0, .string ⟨#[]⟩, .string ⟨#[]⟩, .int .i64 0, .int .i64 0, .string ⟨#[]⟩, .string ⟨#[]⟩, .int .i64 0, .bool false, .int .i64 0]] 8 rfl (World.shaped_of_RefB (by kernel_rfl) (by kernel_rfl)) (by kernel_rfl) (by kernel_rfl) (by kernel_rfl) (door_met os _)) ?_
  intro W base args ds gs before hval0 hW hsz0 hL hSh
  have hval : ∀ (j : Nat) t v, Tryz.f4.params[j]? = some t → args[j]? = some v → Value.okWide Tryz.prog W .any base t v := hval0
  clear hsz0 hval0
  have hW' := hW
  obtain ⟨p, q, hA0, hV, rfl, hfz, hnd⟩ := hW
  have hA : DataW.TrodAll enc Tryz.prog W 0 (fun _ => true) true Tryz.f4.params.toList args.toList ds p := hA0
  rw [Tryz.params4] at hA hval
  obtain ⟨v0, vs0, d0, ds0, p0, q0, hargs, rfl, rfl, h0, r0⟩ := trodAll_cons hA
  obtain ⟨v1, vs1, d1, ds1, p1, q1, rfl, rfl, rfl, h1, r1⟩ := trodAll_cons r0
  obtain ⟨rfl, rfl, rfl⟩ := trodAll_nil r1
  obtain rfl : args = #[v0, v1] := by cases args; simp_all
  obtain ⟨rfl, rfl⟩ := trodVars_none hV
  have hfz0 : W.noneFrozen p0 := fun b o hm => hfz b o (by simp [hm])
  obtain ⟨k, g, m, n, t, nm, j, l, r, vc, vn, vr, vx, vw, vo, rfl, sc, sn, sr, sx, sw, so⟩ := open_stmt (hval 0 34 v0 rfl rfl) h0 hfz0
  obtain ⟨a0, a3, a4, a7, a9, a1, a2, a5, a6, a8, rfl⟩ := open_plan (hval 1 49 v1 rfl rfl) h1
  clear hA0
  refine (nil_walk (kat_laid hL hSh (List.mem_of_getElem? (i := 1) rfl)) k ⟨t, nm, j, l, r, g, m, n, a0, a1, a2, a3, a4, a5, a6, a7, a8, a9⟩ sc sn sr sx sw so).mono fun e W' ⟨he, ho, hu, hb⟩ => ?_
  subst he
  exact ⟨_, rfl, law_post Tryz.laidOut (by kernel_rfl) rfl Tryz.underlying4 rfl rfl hW' ⟨ho, hu, hb⟩⟩
end Go.Proofs.YtpfjakcfjpgbmaaGreatDoor
