/- PlanBounds: the access path for a range of integers covers exactly the values in the range. Conditions: none beyond the row's own. -/
import Derived.Test.YtajlngkakpjncaaDoorBounds
import Derived.Test.YtajlngkakpjncaaDoorKindsLaid
import Derived.Test.YtajlngkakpjncaaDoorTie
import Derived.Test.YtajlngkakpjncaaDoorCards
namespace Go.Proofs.YtajlngkakpjncaaDoor
set_option linter.unusedVariables false
set_option linter.unusedSimpArgs false
open Go.ChangeShapes Go.WideShapes Go.ChangeAt Go.RowKit

theorem bounds_all (lo : Int) (h1 : -9223372036854775808 ≤ lo ∧ lo ≤ 9223372036854775807) (hi : Int) (h2 : -9223372036854775808 ≤ hi ∧ hi ≤ 9223372036854775807) (x : Int) (h3 : -9223372036854775808 ≤ x ∧ x ≤ 9223372036854775807) (w : World) (he : Env w) (hK : KindsAt w) :
    Calls Tryd.prog 8 #[.int .i64 lo, .int .i64 hi, .int .i64 x] w fun e w' => e = .returned (.bool true) ∧ Below w.heap.size w w' := bounds_walk h1 h2 h3 he hK

set_option maxRecDepth 100000 in
theorem planBounds_lifted (os : Os) (started : os.Started) (H : Type) (enc : TypeId × Value → H) :
    ReturnsInHanded {} Tryd.checked os 8 .any (fun w args => (Rows.planBoundsSpec.pre enc Tryd.prog Tryd.f8 [] false w args ∧ laidMetH Tryd.prog Rows.planBoundsRow.laid w) ∧ sizedMet enc Tryd.prog Tryd.f8 (OpenSpec.ofChange Rows.planBoundsSpec) false w args) (Rows.planBoundsSpec.post enc Tryd.prog Tryd.f8 false true false false) := by
  refine returns_laid (C := Tryd.checked) Tryd.own started (by kernel_rfl) Tryd.func8
    (ChangeSpec.witness_shaped (enc := enc) (C := Tryd.checked) (os := os) (X := fun w _ => laidMetH Tryd.prog Rows.planBoundsRow.laid w) false (laidWorld os) #[.int .i64 0, .int .i64 0, .int .i64 0] 8 rfl (World.shaped_of_RefB (by kernel_rfl) (by kernel_rfl)) (by kernel_rfl) (by kernel_rfl) (by kernel_rfl) (door_met2 os _)) ?_
  intro W base args ds gs before hval0 hW hsz0 hL hSh
  have hval : ∀ (j : Nat) t v, Tryd.f8.params[j]? = some t → args[j]? = some v → Value.okWide Tryd.prog W .any base t v := hval0
  have hsz : (DataW.weightsEach Tryd.prog (Tryd.f8.params.toList ++ Rows.planBoundsSpec.plain.varTypes Tryd.prog) (ds ++ gs)).all (· ≤ reachBytes) = true := hsz0
  clear hsz0 hval0
  have hW' := hW
  obtain ⟨p, q, hA0, hV, rfl, hfz, hnd⟩ := hW
  have hA : DataW.TrodAll enc Tryd.prog W 0 (fun _ => true) true Tryd.f8.params.toList args.toList ds p := hA0
  rw [Tryd.params8] at hA hval hsz
  obtain ⟨v0, vs0, d0, ds0, p0, q0, hargs, rfl, rfl, h0, r0⟩ := trodAll_cons hA
  obtain ⟨v1, vs1, d1, ds1, p1, q1, rfl, rfl, rfl, h1, r1⟩ := trodAll_cons r0
  obtain ⟨v2, vs2, d2, ds2, p2, q2, rfl, rfl, rfl, h2, r2⟩ := trodAll_cons r1
  obtain ⟨rfl, rfl, rfl⟩ := trodAll_nil r2
  obtain rfl : args = #[v0, v1, v2] := by cases args; simp_all
  obtain ⟨rfl, rfl⟩ := trodVars_none hV
  obtain ⟨lo, rfl, rfl, rfl, wlo⟩ := open_int Tryd.underlying2 (hval 0 2 v0 rfl rfl) h0
  have bdlo : -9223372036854775808 ≤ lo ∧ lo ≤ 9223372036854775807 := by simpa [Lit.wf, IntKind.min, IntKind.max, IntKind.signed, IntKind.bits] using wlo
  obtain ⟨hi, rfl, rfl, rfl, whi⟩ := open_int Tryd.underlying2 (hval 1 2 v1 rfl rfl) h1
  have bdhi : -9223372036854775808 ≤ hi ∧ hi ≤ 9223372036854775807 := by simpa [Lit.wf, IntKind.min, IntKind.max, IntKind.signed, IntKind.bits] using whi
  obtain ⟨x, rfl, rfl, rfl, wx⟩ := open_int Tryd.underlying2 (hval 2 2 v2 rfl rfl) h2
  have bdx : -9223372036854775808 ≤ x ∧ x ≤ 9223372036854775807 := by simpa [Lit.wf, IntKind.min, IntKind.max, IntKind.signed, IntKind.bits] using wx
  clear hA0
  refine (bounds_all lo bdlo hi bdhi x bdx W (env_shaped hSh) (kinds_of_laid (List.mem_cons_of_mem _ (List.mem_cons_self ..)) hL)).mono fun e W' ⟨he, hb⟩ => ?_
  subst he
  exact ⟨_, rfl, law_post Tryd.laidOut (by kernel_rfl) rfl Tryd.underlying4 rfl rfl hW' hb⟩

theorem planBounds_holds : Rows.PlanBoundsSaid :=
  OpenClaim.holds_of_wide 8 Tryd.f8 rfl rfl rfl rfl rfl rfl rfl ⟨rfl, rfl, rfl, rfl, rfl⟩ rfl rfl rfl rfl rfl (by kernel_rfl) Tryd.func8 (by kernel_rfl)
    (of_decide_eq_true (by kernel_rfl)) (by unfold Func.isWrapper; first | (rw [if_pos (by decide +kernel)]; kernel_rfl) | (rw [if_neg (by decide +kernel)]; exact ⟨rfl, rfl⟩))
    (fun os started H enc _ => planBounds_lifted os started H enc)
end Go.Proofs.YtajlngkakpjncaaDoor
