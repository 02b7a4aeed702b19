/- LangValues: the statement, out of the walk in its frame. -/
import Derived.Test.YtieojjngeibnmaaGreatDoorZV7
set_option linter.unusedVariables false
set_option linter.unusedSimpArgs false
set_option maxRecDepth 100000
set_option maxHeartbeats 64000000
namespace Go.Proofs.YtieojjngeibnmaaGreatDoor
section
open Go.ChangeShapes Go.WideShapes Go.ChangeAt Go.RowKit
set_option maxRecDepth 100000
theorem and2 {a b:Bool} (h:a=true) (k:b=true):(a && b)=true:=by rw [h,k];rfl
theorem cl0:(Rows.langValuesRow.wf (OpenSpec.ofChange Rows.langValuesSpec))=true:=by kernel_rfl
theorem cl1:(laidOutB Tryz.pinned.checked.prog)=true:=by kernel_rfl
theorem cl2:(mapsRowed Tryz.pinned.checked.prog)=true:=by kernel_rfl
theorem cl3:(Tryz.f9.params.all (Tryz.pinned.checked.prog.readableRec ·))=true:=by kernel_rfl
theorem cl4:(namedTie Tryz.pinned.checked.prog Rows.langValuesRow.named Rows.langValuesSpec.vars)=true:=by kernel_rfl
theorem cl5:((Rows.langValuesRow.stops == []))=true:=by kernel_rfl
theorem cl6:((Tryz.pinned.checked.prog.stops == []))=true:=by kernel_rfl
theorem cl7:((Rows.langValuesRow.knobs == []))=true:=by kernel_rfl
theorem cl8:((Tryz.pinned.checked.prog.stopKnobs == []))=true:=by kernel_rfl
theorem cl9:((Rows.langValuesRow.inPlace == Tryz.pinned.checked.prog.inPlace 9))=true:=by kernel_rfl
theorem cl10:((Rows.langValuesRow.unfollowed == Tryz.pinned.checked.prog.unfollowed 9))=true:=by kernel_rfl
theorem cl11:((Rows.langValuesRow.recurses == Tryz.pinned.checked.prog.recurses 9))=true:=by kernel_rfl
theorem cl12:((Rows.langValuesRow.named == Tryz.pinned.checked.prog.varsNamed 9))=true:=by kernel_rfl
theorem cl13:((Rows.langValuesRow.maps == (Tryz.f9.params.toList ++ Rows.langValuesSpec.plain.varTypes Tryz.pinned.checked.prog).any (Tryz.pinned.checked.prog.mapsRec ·)))=true:=by kernel_rfl
theorem cl14:((Rows.langValuesRow.ifaces == (Tryz.f9.params.toList ++ Rows.langValuesSpec.plain.varTypes Tryz.pinned.checked.prog).any (Tryz.pinned.checked.prog.ifacesRec ·)))=true:=by kernel_rfl
theorem cl15:((Rows.langValuesRow.mapsOut == Tryz.pinned.checked.prog.mapsAmong Tryz.f9.resultTypes.toList))=true:=by kernel_rfl
theorem cl16:((Rows.langValuesRow.loops == (Tryz.f9.params.toList ++ Rows.langValuesSpec.plain.varTypes Tryz.pinned.checked.prog).any (Tryz.pinned.checked.prog.loopsFrom ·)))=true:=by kernel_rfl
theorem cl17:((Rows.langValuesRow.wideKeys == (Tryz.f9.params.toList ++ Rows.langValuesSpec.plain.varTypes Tryz.pinned.checked.prog ++ Tryz.f9.resultTypes.toList).any (Tryz.pinned.checked.prog.wideKeysFrom ·)))=true:=by kernel_rfl
theorem cl18:(Rows.langValuesSpec.vars.all (Tryz.pinned.checked.prog.varReadable ·))=true:=by kernel_rfl
theorem cl19:(Tryz.f9.resultTypes.all (fun t=>Tryz.pinned.checked.prog.readableRec t && decide (t<Tryz.pinned.checked.prog.types.size)))=true:=by kernel_rfl
theorem cl20:((Rows.langValuesRow.ifacesOut == Tryz.f9.resultTypes.toList.any (Tryz.pinned.checked.prog.ifacesRec ·)))=true:=by kernel_rfl
theorem cl21:((Rows.langValuesRow.loopsOut == Tryz.f9.resultTypes.toList.any (Tryz.pinned.checked.prog.loopsFrom ·)))=true:=by kernel_rfl
theorem cl22:((Rows.langValuesRow.plainKeys == Tryz.pinned.checked.prog.plainKeys))=true:=by kernel_rfl
theorem cl23:(Rows.langValuesRow.shortTexts.isNone)=true:=by kernel_rfl
theorem cl24:(Tryz.pinned.checked.prog.stopsHeard)=true:=by kernel_rfl
theorem cl25:(Tryz.pinned.checked.prog.mayEnter)=true:=by kernel_rfl
theorem cl26:((Rows.langValuesRow.lifted == Tryz.pinned.checked.prog.liftsFinal))=true:=by kernel_rfl
theorem cl27:((Tryz.pinned.checked.prog.make == some Rows.langValuesRow.make))=true:=by kernel_rfl
theorem cl28:((Rows.langValuesRow.kinds == (if Rows.langValuesRow.domain.isEmpty then [] else Tryz.f9.params.toList.map fun t=>match Tryz.pinned.checked.prog.underlying t with|some (.int k)=>some k|_=>none)))=true:=by kernel_rfl
theorem cl29:((Rows.langValuesRow.pinned == Rows.langValuesRow.pinnedBy))=true:=by kernel_rfl
theorem cl30:((Rows.langValuesRow.veiled == (Tryz.f9.params.toList ++ Rows.langValuesSpec.plain.varTypes Tryz.pinned.checked.prog ++ Tryz.f9.resultTypes.toList).any (Tryz.pinned.checked.prog.veiledRec ·)))=true:=by kernel_rfl
theorem cl31:(Rows.langValuesRow.veiledFits Tryz.pinned.checked.prog Tryz.f9.params.toList (Tryz.f9.params.toList ++ Rows.langValuesSpec.plain.varTypes Tryz.pinned.checked.prog ++ Tryz.f9.resultTypes.toList))=true:=by kernel_rfl
theorem langValues_holds:Rows.LangValuesSaid :=
 OpenClaim.holds_of_wide 9 Tryz.f9 rfl rfl rfl rfl rfl rfl rfl ⟨rfl,rfl,rfl,rfl,rfl⟩ rfl rfl rfl rfl rfl (by kernel_rfl) Tryz.func9 (and2 (and2 (and2 (and2 (and2 (and2 (and2 (and2 (and2 (and2 (and2 (and2 (and2 (and2 (and2 (and2 (and2 (and2 (and2 (and2 (and2 (and2 (and2 (and2 (and2 (and2 (and2 (and2 (and2 (and2 (and2 cl0 cl1) cl2) cl3) cl4) cl5) cl6) cl7) cl8) cl9) cl10) cl11) cl12) cl13) cl14) cl15) cl16) cl17) cl18) cl19) cl20) cl21) cl22) cl23) cl24) cl25) cl26) cl27) cl28) cl29) cl30) cl31)
  (of_decide_eq_true (by kernel_rfl)) (by unfold Func.isWrapper;first|(rw [if_pos (by decide +kernel)];kernel_rfl)|(rw [if_neg (by decide +kernel)];exact ⟨rfl,rfl⟩))
  (fun os started H enc _=>langValues_lifted os started H enc)
end
end Go.Proofs.YtieojjngeibnmaaGreatDoor
