/- PlanLeast: the plan for a single table uses an access path of least cost, and that path covers every row that satisfies the conditions. Conditions: none beyond the row's own. -/
import Derived.Test.YtajlngkakpjncaaDoorLeast
import Derived.Test.YtajlngkakpjncaaDoorAskView
import Derived.Test.YtajlngkakpjncaaDoorFrame
import Derived.Test.YtajlngkakpjncaaDoorTie
import Derived.Test.YtajlngkakpjncaaDoorCards
namespace Go.Proofs.YtajlngkakpjncaaDoor
set_option linter.unusedVariables false
set_option linter.unusedSimpArgs false
open Go.ChangeShapes Go.WideShapes Go.ChangeAt Go.RowKit

theorem least_all {aT aU aW aV aR : Option Addr} {cT cU cW cV cR : Nat} {LT LU LW LV R : List Int} {r0 r1 : Int} {w : World} (s : SlV intR (fun _ => True) w (.slice aT LT.length cT) LT ∧ SlV intR (fun _ => True) w (.slice aU LU.length cU) LU ∧ SlV intR (fun _ => True) w (.slice aW LW.length cW) LW ∧ SlV intR (fun _ => True) w (.slice aV LV.length cV) LV)
    (_ : ∀ x ∈ LT, Rng x) (_ : ∀ x ∈ LU, Rng x) (hf : ∀ x ∈ LW, Rng x) (_ : ∀ x ∈ LV, Rng x) (_ : Rng r0) (_ : Rng r1) (t : SlV intR (fun _ => True) w (.slice aR R.length cR) R) (_ : ∀ x ∈ R, Rng x) (he : Env w) :
    Calls Tryd.prog 7 #[.agg #[.slice aT LT.length cT, .slice aU LU.length cU, .slice aW LW.length cW, .slice aV LV.length cV, .int .i64 r0, .int .i64 r1], .slice aR R.length cR] w
      fun e w' => e = .returned (.bool true) ∧ Below w.heap.size w w' := least_walk s.1 s.2.2.2 s.2.2.1 hf t he

set_option maxRecDepth 100000 in
theorem planLeast_lifted (os : Os) (started : os.Started) (H : Type) (enc : TypeId × Value → H) :
    ReturnsInHanded {} Tryd.checked os 7 .any (fun w args => (Rows.planLeastSpec.pre enc Tryd.prog Tryd.f7 [] false w args ∧ laidMetH Tryd.prog Rows.planLeastRow.laid w) ∧ sizedMet enc Tryd.prog Tryd.f7 (OpenSpec.ofChange Rows.planLeastSpec) false w args) (Rows.planLeastSpec.post enc Tryd.prog Tryd.f7 false true false false) := by
  refine returns_laid (C := Tryd.checked) Tryd.own started (by kernel_rfl) Tryd.func7
    (ChangeSpec.witness_shaped (enc := enc) (C := Tryd.checked) (os := os) (X := fun w _ => laidMetH Tryd.prog Rows.planLeastRow.laid w) false (laidWorld os) #[.agg #[.slice none 0 0, .slice none 0 0, .slice none 0 0, .slice none 0 0, .int .i64 0, .int .i64 0], .slice none 0 0] 8 rfl (World.shaped_of_RefB (by kernel_rfl) (by kernel_rfl)) (by kernel_rfl) (by kernel_rfl) (by kernel_rfl) (door_met os _)) ?_
  intro W base args ds gs before hval0 hW hsz0 hL hSh
  have hval : ∀ (j : Nat) t v, Tryd.f7.params[j]? = some t → args[j]? = some v → Value.okWide Tryd.prog W .any base t v := hval0
  have hsz : (DataW.weightsEach Tryd.prog (Tryd.f7.params.toList ++ Rows.planLeastSpec.plain.varTypes Tryd.prog) (ds ++ gs)).all (· ≤ reachBytes) = true := hsz0
  clear hsz0 hval0
  have hW' := hW
  obtain ⟨p, q, hA0, hV, rfl, hfz, hnd⟩ := hW
  have hA : DataW.TrodAll enc Tryd.prog W 0 (fun _ => true) true Tryd.f7.params.toList args.toList ds p := hA0
  rw [Tryd.params7] at hA hval hsz
  obtain ⟨v0, vs0, d0, ds0, p0, q0, hargs, rfl, rfl, h0, r0⟩ := trodAll_cons hA
  obtain ⟨v1, vs1, d1, ds1, p1, q1, rfl, rfl, rfl, h1, r1⟩ := trodAll_cons r0
  obtain ⟨rfl, rfl, rfl⟩ := trodAll_nil r1
  obtain rfl : args = #[v0, v1] := by cases args; simp_all
  obtain ⟨rfl, rfl⟩ := trodVars_none hV
  obtain ⟨_, _, _, _, _, _, _, _, _, _, _, _, _, _, rfl, s0, g0a, g0b, g0c, g0d, g0e, g0f⟩ := open_ask (hval 0 25 v0 rfl rfl) h0 hsz (j := 0) rfl rfl
  obtain ⟨_, _, _, rfl, s1, g1⟩ := open_ints (hval 1 22 v1 rfl rfl) h1 hsz (j := 1) rfl rfl
  clear hA0
  refine (least_all s0 g0a g0b g0c g0d g0e g0f s1 g1 (env_shaped hSh)).mono fun e W' ⟨he, hb⟩ => ?_
  subst he
  exact ⟨_, rfl, law_post Tryd.laidOut (by kernel_rfl) rfl Tryd.underlying4 rfl rfl hW' hb⟩

theorem planLeast_holds : Rows.PlanLeastSaid :=
  OpenClaim.holds_of_wide 7 Tryd.f7 rfl rfl rfl rfl rfl rfl rfl ⟨rfl, rfl, rfl, rfl, rfl⟩ rfl rfl rfl rfl rfl (by kernel_rfl) Tryd.func7 (by kernel_rfl)
    (of_decide_eq_true (by kernel_rfl)) (by unfold Func.isWrapper; first | (rw [if_pos (by decide +kernel)]; kernel_rfl) | (rw [if_neg (by decide +kernel)]; exact ⟨rfl, rfl⟩))
    (fun os started H enc _ => planLeast_lifted os started H enc)
end Go.Proofs.YtajlngkakpjncaaDoor
