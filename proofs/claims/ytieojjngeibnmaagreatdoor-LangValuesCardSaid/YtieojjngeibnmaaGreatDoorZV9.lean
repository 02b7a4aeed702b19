/- LangValues, the tied card: the literal of a valid value is a single token with that value, and an insert of it parses to the same row. Conditions: none beyond the row's own. -/
import Derived.Test.YtieojjngeibnmaaGreatDoorZV8
set_option linter.unusedVariables false
set_option linter.unusedSimpArgs false
set_option maxRecDepth 100000
set_option maxHeartbeats 64000000
namespace Go.Proofs.YtieojjngeibnmaaGreatDoor
section
open Go
theorem langValues_card:Rows.LangValuesCardSaid :=
 Claim7.holds_tied_plain_at .later [] _ _ _ _ langValues_holds (fun _ h=>by cases h) (by kernel_rfl) (fun _ h=>by cases h) langValues_row_tie rfl ⟨rfl,rfl⟩ (by kernel_rfl) rfl
  (fun f fn hf hfn=>by
   obtain rfl:f=9:=(jI ((show Tryz.prog.funcNamed Tryz.f9.name=some 9 by kernel_rfl).symm.trans hf)).symm
   obtain rfl:fn=Tryz.f9:=(jI (Tryz.func9.symm.trans hfn)).symm
   refine ⟨by kernel_rfl,fun j t ht=>?_⟩
   have h:=List.all_eq_true.1 (show Tryz.f9.params.toList.all (fun t=>!Tryz.prog.wantsStandIn t)=true by kernel_rfl) t (List.mem_of_getElem? (by simpa using ht))
   exact (by simpa using h:Tryz.prog.wantsStandIn t=false))
  (by kernel_rfl)
end
end Go.Proofs.YtieojjngeibnmaaGreatDoor
