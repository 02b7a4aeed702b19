/- LangBack, the tied card (where what it reads is of bulk at most 1048576): parsing the printed form of a valid statement returns the statement; invalid statements print as the empty string. Conditions: none beyond the row's own. -/
import Derived.Test.YtieojjngeibnmaaGreatDoorZB49
set_option linter.unusedVariables false
set_option linter.unusedSimpArgs false
set_option maxRecDepth 100000
set_option maxHeartbeats 64000000
namespace Go.Proofs.YtieojjngeibnmaaGreatDoor
section
open Go
theorem langBackUpto_card:Rows.LangBackUptoCardSaid :=
 Claim7.holds_tied_plain_at .later [] _ _ _ _ langBackUpto_said (fun _ h=>by cases h) (by kernel_rfl) (fun _ h=>by cases h) langBackUpto_row_tie rfl ⟨rfl,rfl⟩ (by kernel_rfl) rfl
  (fun f fn hf hfn=>by
   obtain rfl:f=4:=(jI ((show Tryz.prog.funcNamed Tryz.f4.name=some 4 by kernel_rfl).symm.trans hf)).symm
   obtain rfl:fn=Tryz.f4:=(jI (Tryz.func4.symm.trans hfn)).symm
   refine ⟨by kernel_rfl,fun j t ht=>?_⟩
   have h:=List.all_eq_true.1 (show Tryz.f4.params.toList.all (fun t=>!Tryz.prog.wantsStandIn t)=true by kernel_rfl) t (List.mem_of_getElem? (by simpa using ht))
   exact (by simpa using h:Tryz.prog.wantsStandIn t=false))
  (by kernel_rfl)
end
end Go.Proofs.YtieojjngeibnmaaGreatDoor
