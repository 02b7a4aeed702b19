/- PlanOrder, the tied card: the plan does not depend on the order of conditions on different columns. Conditions: none beyond the row's own. -/
import Derived.Test.YtajlngkakpjncaaDoorOrdLaw
namespace Go.Proofs.YtajlngkakpjncaaDoor
set_option linter.unusedVariables false
set_option linter.unusedSimpArgs false
open Go

theorem planOrder_card : Rows.PlanOrderCardSaid :=
  Claim7.holds_tied_plain_at .later [] _ _ _ _ planOrder_holds (fun _ h => by cases h) (by kernel_rfl) (fun _ h => by cases h) planOrder_row_tie rfl ⟨rfl, rfl⟩ (by kernel_rfl) rfl
    (fun f fn hf hfn => by
      obtain rfl : f = 3 := (Option.some.inj ((show Tryd.prog.funcNamed Tryd.f3.name = some 3 by kernel_rfl).symm.trans hf)).symm
      obtain rfl : fn = Tryd.f3 := (Option.some.inj (Tryd.func3.symm.trans hfn)).symm
      refine ⟨by kernel_rfl, fun j t ht => ?_⟩
      have h := List.all_eq_true.1 (show Tryd.f3.params.toList.all (fun t => !Tryd.prog.wantsStandIn t) = true by kernel_rfl) t (List.mem_of_getElem? (by simpa using ht))
      exact (by simpa using h : Tryd.prog.wantsStandIn t = false))
    (by kernel_rfl)
end Go.Proofs.YtajlngkakpjncaaDoor
