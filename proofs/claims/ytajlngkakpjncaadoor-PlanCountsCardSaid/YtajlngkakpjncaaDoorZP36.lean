/- PlanCounts, the tied card: with statistics that were counted from rows, the sequential scan costs one more than the number of rows, and more distinct values never increase the cost of an access path. Conditions: none beyond the row's own. -/
import Derived.Test.YtajlngkakpjncaaDoorZP34
import Derived.Test.YtajlngkakpjncaaDoorZP15
import Derived.Test.YtajlngkakpjncaaDoorZP35
import Derived.Test.YtajlngkakpjncaaDoorZP33
import Derived.Test.YtajlngkakpjncaaDoorTie
import Derived.Test.YtajlngkakpjncaaDoorCards
namespace Go.Proofs.YtajlngkakpjncaaDoor
set_option linter.unusedVariables false
set_option linter.unusedSimpArgs false
open Go.ChangeShapes Go.WideShapes Go.ChangeAt Go.RowKit

theorem counts_all {aT aU aW aV aR : Option Addr} {nR cT cU cW cV cR : Nat} {LT LU LW LV : List Int} {r0 r1 : Int} {w : World} (s : SlV intR (fun _ => True) w (.slice aT LT.length cT) LT ∧ SlV intR (fun _ => True) w (.slice aU LU.length cU) LU ∧ SlV intR (fun _ => True) w (.slice aW LW.length cW) LW ∧ SlV intR (fun _ => True) w (.slice aV LV.length cV) LV)
    (_ : ∀ x ∈ LT, Rng x) (_ : ∀ x ∈ LU, Rng x) (hf : ∀ x ∈ LW, Rng x) (_ : ∀ x ∈ LV, Rng x) (_ : Rng r0) (_ : Rng r1) (t : RowsV w aR nR) (hn : nR ≤ 140737488355328) (more : Int) (_ : -9223372036854775808 ≤ more ∧ more ≤ 9223372036854775807) (he : Env w) (hK : KindsAt w) :
    Calls Tryd.prog 9 #[.agg #[.slice aT LT.length cT, .slice aU LU.length cU, .slice aW LW.length cW, .slice aV LV.length cV, .int .i64 r0, .int .i64 r1], .slice aR nR cR, .int .i64 more] w
      fun e w' => e = .returned (.bool true) ∧ Below w.heap.size w w' := counts_walk s.1 s.2.2.1 hf t hn he hK

set_option maxRecDepth 100000 in
theorem planCounts_lifted (os : Os) (started : os.Started) (H : Type) (enc : TypeId × Value → H) :
    ReturnsInHanded {} Tryd.checked os 9 .any (fun w args => (Rows.planCountsSpec.pre enc Tryd.prog Tryd.f9 [] false w args ∧ laidMetH Tryd.prog Rows.planCountsRow.laid w) ∧ sizedMet enc Tryd.prog Tryd.f9 (OpenSpec.ofChange Rows.planCountsSpec) false w args) (Rows.planCountsSpec.post enc Tryd.prog Tryd.f9 false true false false) := by
  refine returns_laid (C := Tryd.checked) Tryd.own started (by kernel_rfl) Tryd.func9
    (ChangeSpec.witness_shaped (enc := enc) (C := Tryd.checked) (os := os) (X := fun w _ => laidMetH Tryd.prog Rows.planCountsRow.laid w) false (laidWorld os) #[.agg #[.slice none 0 0, .slice none 0 0, .slice none 0 0, .slice none 0 0, .int .i64 0, .int .i64 0], .slice none 0 0, .int .i64 0] 8 rfl (World.shaped_of_RefB (by kernel_rfl) (by kernel_rfl)) (by kernel_rfl) (by kernel_rfl) (by kernel_rfl) (door_met2 os _)) ?_
  intro W base args ds gs before hval0 hW hsz0 hL hSh
  have hval : ∀ (j : Nat) t v, Tryd.f9.params[j]? = some t → args[j]? = some v → Value.okWide Tryd.prog W .any base t v := hval0
  have hsz : (DataW.weightsEach Tryd.prog (Tryd.f9.params.toList ++ Rows.planCountsSpec.plain.varTypes Tryd.prog) (ds ++ gs)).all (· ≤ reachBytes) = true := hsz0
  clear hsz0 hval0
  have hW' := hW
  obtain ⟨p, q, hA0, hV, rfl, hfz, hnd⟩ := hW
  have hA : DataW.TrodAll enc Tryd.prog W 0 (fun _ => true) true Tryd.f9.params.toList args.toList ds p := hA0
  rw [Tryd.params9] at hA hval hsz
  obtain ⟨v0, vs0, d0, ds0, p0, q0, hargs, rfl, rfl, h0, r0⟩ := trodAll_cons hA
  obtain ⟨v1, vs1, d1, ds1, p1, q1, rfl, rfl, rfl, h1, r1⟩ := trodAll_cons r0
  obtain ⟨v2, vs2, d2, ds2, p2, q2, rfl, rfl, rfl, h2, r2⟩ := trodAll_cons r1
  obtain ⟨rfl, rfl, rfl⟩ := trodAll_nil r2
  obtain rfl : args = #[v0, v1, v2] := by cases args; simp_all
  obtain ⟨rfl, rfl⟩ := trodVars_none hV
  obtain ⟨_, _, _, _, _, _, _, _, _, _, _, _, _, _, rfl, s0, g0a, g0b, g0c, g0d, g0e, g0f⟩ := open_ask (hval 0 25 v0 rfl rfl) h0 hsz (j := 0) rfl rfl
  obtain ⟨_, _, _, rfl, s1, g1⟩ := open_rows (hval 1 62 v1 rfl rfl) h1 hsz (j := 1) rfl rfl
  obtain ⟨more, rfl, rfl, rfl, wmore⟩ := open_int Tryd.underlying3 (hval 2 3 v2 rfl rfl) h2
  have bdmore : -9223372036854775808 ≤ more ∧ more ≤ 9223372036854775807 := by simpa [Lit.wf, IntKind.min, IntKind.max, IntKind.signed, IntKind.bits] using wmore
  clear hA0
  refine (counts_all s0 g0a g0b g0c g0d g0e g0f s1 g1 more bdmore (env_shaped hSh) (kinds_of_laid (List.mem_cons_of_mem _ (List.mem_cons_self ..)) hL)).mono fun e W' ⟨he, hb⟩ => ?_
  subst he
  exact ⟨_, rfl, law_post Tryd.laidOut (by kernel_rfl) rfl Tryd.underlying4 rfl rfl hW' hb⟩

theorem planCounts_holds : Rows.PlanCountsSaid :=
  OpenClaim.holds_of_wide 9 Tryd.f9 rfl rfl rfl rfl rfl rfl rfl ⟨rfl, rfl, rfl, rfl, rfl⟩ rfl rfl rfl rfl rfl (by kernel_rfl) Tryd.func9 (by kernel_rfl)
    (of_decide_eq_true (by kernel_rfl)) (by unfold Func.isWrapper; first | (rw [if_pos (by decide +kernel)]; kernel_rfl) | (rw [if_neg (by decide +kernel)]; exact ⟨rfl, rfl⟩))
    (fun os started H enc _ => planCounts_lifted os started H enc)
end Go.Proofs.YtajlngkakpjncaaDoor

namespace Go.Proofs.YtajlngkakpjncaaDoor
set_option linter.unusedVariables false
set_option linter.unusedSimpArgs false
open Go

theorem planCounts_card : Rows.PlanCountsCardSaid :=
  Claim7.holds_tied_plain_at .later [] _ _ _ _ planCounts_holds (fun _ h => by cases h) (by kernel_rfl) (fun _ h => by cases h) planCounts_row_tie rfl ⟨rfl, rfl⟩ (by kernel_rfl) rfl
    (fun f fn hf hfn => by
      obtain rfl : f = 9 := (Option.some.inj ((show Tryd.prog.funcNamed Tryd.f9.name = some 9 by kernel_rfl).symm.trans hf)).symm
      obtain rfl : fn = Tryd.f9 := (Option.some.inj (Tryd.func9.symm.trans hfn)).symm
      refine ⟨by kernel_rfl, fun j t ht => ?_⟩
      have h := List.all_eq_true.1 (show Tryd.f9.params.toList.all (fun t => !Tryd.prog.wantsStandIn t) = true by kernel_rfl) t (List.mem_of_getElem? (by simpa using ht))
      exact (by simpa using h : Tryd.prog.wantsStandIn t = false))
    (by kernel_rfl)
end Go.Proofs.YtajlngkakpjncaaDoor
