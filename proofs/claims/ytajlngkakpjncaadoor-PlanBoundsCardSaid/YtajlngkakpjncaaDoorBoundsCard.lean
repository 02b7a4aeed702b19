/- PlanBounds, the tied card: the access path for a range of integers covers exactly the values in the range. Conditions: none beyond the row's own. -/
import Derived.Test.YtajlngkakpjncaaDoorBoundsLaw
namespace Go.Proofs.YtajlngkakpjncaaDoor
set_option linter.unusedVariables false
set_option linter.unusedSimpArgs false
open Go

theorem planBounds_card : Rows.PlanBoundsCardSaid :=
  Claim7.holds_tied_plain_at .later [] _ _ _ _ planBounds_holds (fun _ h => by cases h) (by kernel_rfl) (fun _ h => by cases h) planBounds_row_tie rfl ⟨rfl, rfl⟩ (by kernel_rfl) rfl
    (fun f fn hf hfn => by
      obtain rfl : f = 8 := (Option.some.inj ((show Tryd.prog.funcNamed Tryd.f8.name = some 8 by kernel_rfl).symm.trans hf)).symm
      obtain rfl : fn = Tryd.f8 := (Option.some.inj (Tryd.func8.symm.trans hfn)).symm
      refine ⟨by kernel_rfl, fun j t ht => ?_⟩
      have h := List.all_eq_true.1 (show Tryd.f8.params.toList.all (fun t => !Tryd.prog.wantsStandIn t) = true by kernel_rfl) t (List.mem_of_getElem? (by simpa using ht))
      exact (by simpa using h : Tryd.prog.wantsStandIn t = false))
    (by kernel_rfl)
end Go.Proofs.YtajlngkakpjncaaDoor
