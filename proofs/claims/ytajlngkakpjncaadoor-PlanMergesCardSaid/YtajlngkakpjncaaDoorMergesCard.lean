/- PlanMerges, the tied card: a merge join is chosen if and only if it is available and cheaper than the nested-loop join. Conditions: none beyond the row's own. -/
import Derived.Test.YtajlngkakpjncaaDoorMergesLaw
namespace Go.Proofs.YtajlngkakpjncaaDoor
set_option linter.unusedVariables false
open Go

theorem planMerges_card : Rows.PlanMergesCardSaid :=
  Claim7.holds_tied_plain_at .later [] _ _ _ _ planMerges_holds (fun _ h => by cases h) (by kernel_rfl) (fun _ h => by cases h) planMerges_row_tie rfl ⟨rfl, rfl⟩ (by kernel_rfl) rfl
    (fun f fn hf hfn => by
      obtain rfl : f = 4 := (Option.some.inj ((show Tryd.prog.funcNamed Tryd.f4.name = some 4 by kernel_rfl).symm.trans hf)).symm
      obtain rfl : fn = Tryd.f4 := (Option.some.inj (Tryd.func4.symm.trans hfn)).symm
      refine ⟨by kernel_rfl, fun j t ht => ?_⟩
      have h := List.all_eq_true.1 (show Tryd.f4.params.toList.all (fun t => !Tryd.prog.wantsStandIn t) = true by kernel_rfl) t (List.mem_of_getElem? (by simpa using ht))
      exact (by simpa using h : Tryd.prog.wantsStandIn t = false))
    (by kernel_rfl)
end Go.Proofs.YtajlngkakpjncaaDoor
