/- LangLists, the tied card: each list of a statement takes as many elements as it may hold, and the next one is an error at its place. Conditions: none beyond the row's own. -/
import Derived.Test.YtieojjngeibnmaaGreatDoorZL37
namespace Go.Proofs.YtieojjngeibnmaaGreatDoor
set_option linter.unusedVariables false
set_option linter.unusedSimpArgs false
open Go

theorem langLists_card : Rows.LangListsCardSaid :=
  Claim7.holds_tied_plain_at .later [] _ _ _ _ langLists_holds (fun _ h => by cases h) (by kernel_rfl) (fun _ h => by cases h) langLists_row_tie rfl ⟨rfl, rfl⟩ (by kernel_rfl) rfl
    (fun f fn hf hfn => by
      obtain rfl : f = 8 := (Option.some.inj ((show Tryz.prog.funcNamed Tryz.f8.name = some 8 by kernel_rfl).symm.trans hf)).symm
      obtain rfl : fn = Tryz.f8 := (Option.some.inj (Tryz.func8.symm.trans hfn)).symm
      refine ⟨by kernel_rfl, fun j t ht => ?_⟩
      have h := List.all_eq_true.1 (show Tryz.f8.params.toList.all (fun t => !Tryz.prog.wantsStandIn t) = true by kernel_rfl) t (List.mem_of_getElem? (by simpa using ht))
      exact (by simpa using h : Tryz.prog.wantsStandIn t = false))
    (by kernel_rfl)
end Go.Proofs.YtieojjngeibnmaaGreatDoor
