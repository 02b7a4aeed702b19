/- PlanMerges: a merge join is chosen if and only if it is available and cheaper than the nested-loop join. Conditions: none beyond the row's own. -/
import Derived.Test.YtajlngkakpjncaaDoorMerges
import Derived.Test.YtajlngkakpjncaaDoorFrame
import Derived.Test.YtajlngkakpjncaaDoorTie
import Derived.Test.YtajlngkakpjncaaDoorCards
namespace Go.Proofs.YtajlngkakpjncaaDoor
set_option linter.unusedVariables false
open Go.ChangeShapes Go.WideShapes Go.ChangeAt Go.RowKit

theorem merges_all (bits : Int) (_ : -9223372036854775808 ≤ bits ∧ bits ≤ 9223372036854775807) (r0 r1 : Int) (_ : -9223372036854775808 ≤ r0 ∧ r0 ≤ 9223372036854775807) (_ : -9223372036854775808 ≤ r1 ∧ r1 ≤ 9223372036854775807)
    (vals : Int) (_ : -9223372036854775808 ≤ vals ∧ vals ≤ 9223372036854775807) (w : World) (he : Env w) :
    Calls Tryd.prog 4 #[.int .i64 bits, .agg #[.int .i64 r0, .int .i64 r1], .int .i64 vals] w fun e w' => e = .returned (.bool true) ∧ Below w.heap.size w w' := merges_walk bits r0 r1 vals w he

set_option maxRecDepth 100000 in
theorem planMerges_lifted (os : Os) (started : os.Started) (H : Type) (enc : TypeId × Value → H) :
    ReturnsInHanded {} Tryd.checked os 4 .any (fun w args => (Rows.planMergesSpec.pre enc Tryd.prog Tryd.f4 [] false w args ∧ laidMetH Tryd.prog Rows.planMergesRow.laid w) ∧ sizedMet enc Tryd.prog Tryd.f4 (OpenSpec.ofChange Rows.planMergesSpec) false w args) (Rows.planMergesSpec.post enc Tryd.prog Tryd.f4 false true false false) := by
  refine returns_laid (C := Tryd.checked) Tryd.own started (by kernel_rfl) Tryd.func4
    (ChangeSpec.witness_shaped (enc := enc) (C := Tryd.checked) (os := os) (X := fun w _ => laidMetH Tryd.prog Rows.planMergesRow.laid w) false (laidWorld os) #[.int .i64 0, .agg #[.int .i64 0, .int .i64 0], .int .i64 0] 8 rfl (World.shaped_of_RefB (by kernel_rfl) (by kernel_rfl)) (by kernel_rfl) (by kernel_rfl) (by kernel_rfl) (door_met os _)) ?_
  intro W base args ds gs before hval0 hW hsz0 hL hSh
  have hval : ∀ (j : Nat) t v, Tryd.f4.params[j]? = some t → args[j]? = some v → Value.okWide Tryd.prog W .any base t v := hval0
  have hsz : (DataW.weightsEach Tryd.prog (Tryd.f4.params.toList ++ Rows.planMergesSpec.plain.varTypes Tryd.prog) (ds ++ gs)).all (· ≤ reachBytes) = true := hsz0
  clear hsz0 hval0
  have hW' := hW
  obtain ⟨p, q, hA0, hV, rfl, hfz, hnd⟩ := hW
  have hA : DataW.TrodAll enc Tryd.prog W 0 (fun _ => true) true Tryd.f4.params.toList args.toList ds p := hA0
  rw [Tryd.params4] at hA hval hsz
  obtain ⟨v0, vs0, d0, ds0, p0, q0, hargs, rfl, rfl, h0, r0⟩ := trodAll_cons hA
  obtain ⟨v1, vs1, d1, ds1, p1, q1, rfl, rfl, rfl, h1, r1⟩ := trodAll_cons r0
  obtain ⟨v2, vs2, d2, ds2, p2, q2, rfl, rfl, rfl, h2, r2⟩ := trodAll_cons r1
  obtain ⟨rfl, rfl, rfl⟩ := trodAll_nil r2
  obtain rfl : args = #[v0, v1, v2] := by cases args; simp_all
  obtain ⟨rfl, rfl⟩ := trodVars_none hV
  obtain ⟨bits, rfl, rfl, rfl, wbits⟩ := open_int Tryd.underlying3 (hval 0 3 v0 rfl rfl) h0
  have bdbits : -9223372036854775808 ≤ bits ∧ bits ≤ 9223372036854775807 := by simpa [Lit.wf, IntKind.min, IntKind.max, IntKind.signed, IntKind.bits] using wbits
  obtain ⟨x, y, rfl, rfl, rfl, wx, wy⟩ := open_arr2 Tryd.underlying23 Tryd.underlying3 (by kernel_rfl) (by kernel_rfl) (hval 1 23 v1 rfl rfl) h1
  have bdx : -9223372036854775808 ≤ x ∧ x ≤ 9223372036854775807 := by simpa [Lit.wf, IntKind.min, IntKind.max, IntKind.signed, IntKind.bits] using wx
  have bdy : -9223372036854775808 ≤ y ∧ y ≤ 9223372036854775807 := by simpa [Lit.wf, IntKind.min, IntKind.max, IntKind.signed, IntKind.bits] using wy
  obtain ⟨vals, rfl, rfl, rfl, wvals⟩ := open_int Tryd.underlying3 (hval 2 3 v2 rfl rfl) h2
  have bdvals : -9223372036854775808 ≤ vals ∧ vals ≤ 9223372036854775807 := by simpa [Lit.wf, IntKind.min, IntKind.max, IntKind.signed, IntKind.bits] using wvals
  clear hA0
  refine (merges_all bits bdbits x y bdx bdy vals bdvals W (env_shaped hSh)).mono fun e W' ⟨he, hb⟩ => ?_
  subst he
  exact ⟨_, rfl, law_post Tryd.laidOut (by kernel_rfl) rfl Tryd.underlying4 rfl rfl hW' hb⟩

theorem planMerges_holds : Rows.PlanMergesSaid :=
  OpenClaim.holds_of_wide 4 Tryd.f4 rfl rfl rfl rfl rfl rfl rfl ⟨rfl, rfl, rfl, rfl, rfl⟩ rfl rfl rfl rfl rfl (by kernel_rfl) Tryd.func4 (by kernel_rfl)
    (of_decide_eq_true (by kernel_rfl)) (by unfold Func.isWrapper; first | (rw [if_pos (by decide +kernel)]; kernel_rfl) | (rw [if_neg (by decide +kernel)]; exact ⟨rfl, rfl⟩))
    (fun os started H enc _ => planMerges_lifted os started H enc)
end Go.Proofs.YtajlngkakpjncaaDoor
