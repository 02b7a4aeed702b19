/- LangBack's second form out of its lifted theorem. -/
import Derived.Test.YtieojjngeibnmaaGreatDoorZB48
set_option linter.unusedVariables false
set_option linter.unusedSimpArgs false
set_option maxRecDepth 100000
set_option maxHeartbeats 64000000
namespace Go.Proofs.YtieojjngeibnmaaGreatDoor
section
open Go.ChangeShapes Go.WideShapes Go.ChangeAt Go.RowKit
set_option maxRecDepth 100000
theorem and2 {a b:Bool} (h:a=true) (k:b=true):(a && b)=true:=by rw [h,k];rfl
theorem cl0:(Rows.langBackUptoRow.wf (OpenSpec.ofChange Rows.langBackSpec))=true:=by kernel_rfl
theorem cl1:(laidOutB Tryz.pinned.checked.prog)=true:=by kernel_rfl
theorem cl2:(mapsRowed Tryz.pinned.checked.prog)=true:=by kernel_rfl
theorem cl3:(Tryz.f4.params.all (Tryz.pinned.checked.prog.readableRec ·))=true:=by kernel_rfl
theorem cl4:(namedTie Tryz.pinned.checked.prog Rows.langBackUptoRow.named Rows.langBackSpec.vars)=true:=by kernel_rfl
theorem cl5:((Rows.langBackUptoRow.stops == []))=true:=by kernel_rfl
theorem cl6:((Tryz.pinned.checked.prog.stops == []))=true:=by kernel_rfl
theorem cl7:((Rows.langBackUptoRow.knobs == []))=true:=by kernel_rfl
theorem cl8:((Tryz.pinned.checked.prog.stopKnobs == []))=true:=by kernel_rfl
theorem cl9:((Rows.langBackUptoRow.inPlace == Tryz.pinned.checked.prog.inPlace 4))=true:=by kernel_rfl
theorem cl10:((Rows.langBackUptoRow.unfollowed == Tryz.pinned.checked.prog.unfollowed 4))=true:=by kernel_rfl
theorem cl11:((Rows.langBackUptoRow.recurses == Tryz.pinned.checked.prog.recurses 4))=true:=by kernel_rfl
theorem cl12:((Rows.langBackUptoRow.named == Tryz.pinned.checked.prog.varsNamed 4))=true:=by kernel_rfl
theorem cl13:((Rows.langBackUptoRow.maps == (Tryz.f4.params.toList ++ Rows.langBackSpec.plain.varTypes Tryz.pinned.checked.prog).any (Tryz.pinned.checked.prog.mapsRec ·)))=true:=by kernel_rfl
theorem cl14:((Rows.langBackUptoRow.ifaces == (Tryz.f4.params.toList ++ Rows.langBackSpec.plain.varTypes Tryz.pinned.checked.prog).any (Tryz.pinned.checked.prog.ifacesRec ·)))=true:=by kernel_rfl
theorem cl15:((Rows.langBackUptoRow.mapsOut == Tryz.pinned.checked.prog.mapsAmong Tryz.f4.resultTypes.toList))=true:=by kernel_rfl
theorem cl16:((Rows.langBackUptoRow.loops == (Tryz.f4.params.toList ++ Rows.langBackSpec.plain.varTypes Tryz.pinned.checked.prog).any (Tryz.pinned.checked.prog.loopsFrom ·)))=true:=by kernel_rfl
theorem cl17:((Rows.langBackUptoRow.wideKeys == (Tryz.f4.params.toList ++ Rows.langBackSpec.plain.varTypes Tryz.pinned.checked.prog ++ Tryz.f4.resultTypes.toList).any (Tryz.pinned.checked.prog.wideKeysFrom ·)))=true:=by kernel_rfl
theorem cl18:(Rows.langBackSpec.vars.all (Tryz.pinned.checked.prog.varReadable ·))=true:=by kernel_rfl
theorem cl19:(Tryz.f4.resultTypes.all (fun t=>Tryz.pinned.checked.prog.readableRec t && decide (t<Tryz.pinned.checked.prog.types.size)))=true:=by kernel_rfl
theorem cl20:((Rows.langBackUptoRow.ifacesOut == Tryz.f4.resultTypes.toList.any (Tryz.pinned.checked.prog.ifacesRec ·)))=true:=by kernel_rfl
theorem cl21:((Rows.langBackUptoRow.loopsOut == Tryz.f4.resultTypes.toList.any (Tryz.pinned.checked.prog.loopsFrom ·)))=true:=by kernel_rfl
theorem cl22:((Rows.langBackUptoRow.plainKeys == Tryz.pinned.checked.prog.plainKeys))=true:=by kernel_rfl
theorem cl23:(Rows.langBackUptoRow.shortTexts.isNone)=true:=by kernel_rfl
theorem cl24:(Tryz.pinned.checked.prog.stopsHeard)=true:=by kernel_rfl
theorem cl25:(Tryz.pinned.checked.prog.mayEnter)=true:=by kernel_rfl
theorem cl26:((Rows.langBackUptoRow.lifted == Tryz.pinned.checked.prog.liftsFinal))=true:=by kernel_rfl
theorem cl27:((Tryz.pinned.checked.prog.make == some Rows.langBackUptoRow.make))=true:=by kernel_rfl
theorem cl28:((Rows.langBackUptoRow.kinds == (if Rows.langBackUptoRow.domain.isEmpty then [] else Tryz.f4.params.toList.map fun t=>match Tryz.pinned.checked.prog.underlying t with|some (.int k)=>some k|_=>none)))=true:=by kernel_rfl
theorem cl29:((Rows.langBackUptoRow.pinned == Rows.langBackUptoRow.pinnedBy))=true:=by kernel_rfl
theorem cl30:((Rows.langBackUptoRow.veiled == (Tryz.f4.params.toList ++ Rows.langBackSpec.plain.varTypes Tryz.pinned.checked.prog ++ Tryz.f4.resultTypes.toList).any (Tryz.pinned.checked.prog.veiledRec ·)))=true:=by kernel_rfl
theorem cl31:(Rows.langBackUptoRow.veiledFits Tryz.pinned.checked.prog Tryz.f4.params.toList (Tryz.f4.params.toList ++ Rows.langBackSpec.plain.varTypes Tryz.pinned.checked.prog ++ Tryz.f4.resultTypes.toList))=true:=by kernel_rfl
theorem langBackUpto_said:Rows.LangBackUptoSaid :=
 OpenClaim.holds_of_cond 4 Tryz.f4 rfl rfl rfl rfl rfl rfl rfl ⟨rfl,rfl,rfl,rfl,rfl⟩ rfl rfl rfl rfl rfl (by kernel_rfl) Tryz.func4 (and2 (and2 (and2 (and2 (and2 (and2 (and2 (and2 (and2 (and2 (and2 (and2 (and2 (and2 (and2 (and2 (and2 (and2 (and2 (and2 (and2 (and2 (and2 (and2 (and2 (and2 (and2 (and2 (and2 (and2 (and2 cl0 cl1) cl2) cl3) cl4) cl5) cl6) cl7) cl8) cl9) cl10) cl11) cl12) cl13) cl14) cl15) cl16) cl17) cl18) cl19) cl20) cl21) cl22) cl23) cl24) cl25) cl26) cl27) cl28) cl29) cl30) cl31)
  (of_decide_eq_true (by kernel_rfl)) (by unfold Func.isWrapper;first|(rw [if_pos (by decide +kernel)];kernel_rfl)|(rw [if_neg (by decide +kernel)];exact ⟨rfl,rfl⟩))
  (fun os started H enc _ F=>by rw [OpenClaim.pre_eq_preRow];exact langBack_lifted os started H enc F)
end
end Go.Proofs.YtieojjngeibnmaaGreatDoor
