/- PlanLeast, the tied card: the plan for a single table uses an access path of least cost, and that path covers every row that satisfies the conditions. Conditions: none beyond the row's own. -/
import Derived.Test.YtajlngkakpjncaaDoorLeastLaw
namespace Go.Proofs.YtajlngkakpjncaaDoor
set_option linter.unusedVariables false
set_option linter.unusedSimpArgs false
open Go

theorem planLeast_card : Rows.PlanLeastCardSaid :=
  Claim7.holds_tied_plain_at .later [] _ _ _ _ planLeast_holds (fun _ h => by cases h) (by kernel_rfl) (fun _ h => by cases h) planLeast_row_tie rfl ⟨rfl, rfl⟩ (by kernel_rfl) rfl
    (fun f fn hf hfn => by
      obtain rfl : f = 7 := (Option.some.inj ((show Tryd.prog.funcNamed Tryd.f7.name = some 7 by kernel_rfl).symm.trans hf)).symm
      obtain rfl : fn = Tryd.f7 := (Option.some.inj (Tryd.func7.symm.trans hfn)).symm
      refine ⟨by kernel_rfl, fun j t ht => ?_⟩
      have h := List.all_eq_true.1 (show Tryd.f7.params.toList.all (fun t => !Tryd.prog.wantsStandIn t) = true by kernel_rfl) t (List.mem_of_getElem? (by simpa using ht))
      exact (by simpa using h : Tryd.prog.wantsStandIn t = false))
    (by kernel_rfl)
end Go.Proofs.YtajlngkakpjncaaDoor
