/- ExecNil's statement out of its lifted theorem, its closed facts one by one; the tied card. Conditions: none beyond the row's own. -/
import Derived.Test.YtpfjakcfjpgbmaaGreatDoorEnNilLaw
namespace Go.Proofs.YtpfjakcfjpgbmaaGreatDoor
set_option linter.unusedVariables false
set_option linter.unusedSimpArgs false
set_option linter.unusedVariables false
set_option linter.unusedSimpArgs false
open Go.ChangeShapes Go.WideShapes Go.ChangeAt Go.RowKit

set_option maxRecDepth 100000
theorem and2 {a b : Bool} (h : a = true) (k : b = true) : (a && b) = true := by rw [h, k]; rfl
theorem cl0 : (Rows.execNilRow.wf (OpenSpec.ofChange Rows.execNilSpec)) = true := by kernel_rfl
theorem cl1 : (laidOutB Tryz.pinned.checked.prog) = true := by kernel_rfl
theorem cl2 : (mapsRowed Tryz.pinned.checked.prog) = true := by kernel_rfl
theorem cl3 : (Tryz.f4.params.all (Tryz.pinned.checked.prog.readableRec ·)) = true := by kernel_rfl
theorem cl4 : (namedTie Tryz.pinned.checked.prog Rows.execNilRow.named Rows.execNilSpec.vars) = true := by kernel_rfl
theorem cl5 : ((Rows.execNilRow.stops == [])) = true := by kernel_rfl
theorem cl6 : ((Tryz.pinned.checked.prog.stops == [])) = true := by kernel_rfl
theorem cl7 : ((Rows.execNilRow.knobs == [])) = true := by kernel_rfl
theorem cl8 : ((Tryz.pinned.checked.prog.stopKnobs == [])) = true := by kernel_rfl
theorem cl9 : ((Rows.execNilRow.inPlace == Tryz.pinned.checked.prog.inPlace 4)) = true := by kernel_rfl
theorem cl10 : ((Rows.execNilRow.unfollowed == Tryz.pinned.checked.prog.unfollowed 4)) = true := by kernel_rfl
theorem cl11 : ((Rows.execNilRow.recurses == Tryz.pinned.checked.prog.recurses 4)) = true := by kernel_rfl
theorem cl12 : ((Rows.execNilRow.named == Tryz.pinned.checked.prog.varsNamed 4)) = true := by kernel_rfl
theorem cl13 : ((Rows.execNilRow.maps == (Tryz.f4.params.toList ++ Rows.execNilSpec.plain.varTypes Tryz.pinned.checked.prog).any (Tryz.pinned.checked.prog.mapsRec ·))) = true := by kernel_rfl
theorem cl14 : ((Rows.execNilRow.ifaces == (Tryz.f4.params.toList ++ Rows.execNilSpec.plain.varTypes Tryz.pinned.checked.prog).any (Tryz.pinned.checked.prog.ifacesRec ·))) = true := by kernel_rfl
theorem cl15 : ((Rows.execNilRow.mapsOut == Tryz.pinned.checked.prog.mapsAmong Tryz.f4.resultTypes.toList)) = true := by kernel_rfl
theorem cl16 : ((Rows.execNilRow.loops == (Tryz.f4.params.toList ++ Rows.execNilSpec.plain.varTypes Tryz.pinned.checked.prog).any (Tryz.pinned.checked.prog.loopsFrom ·))) = true := by kernel_rfl
theorem cl17 : ((Rows.execNilRow.wideKeys == (Tryz.f4.params.toList ++ Rows.execNilSpec.plain.varTypes Tryz.pinned.checked.prog ++ Tryz.f4.resultTypes.toList).any (Tryz.pinned.checked.prog.wideKeysFrom ·))) = true := by kernel_rfl
theorem cl18 : (Rows.execNilSpec.vars.all (Tryz.pinned.checked.prog.varReadable ·)) = true := by kernel_rfl
theorem cl19 : (Tryz.f4.resultTypes.all (fun t => Tryz.pinned.checked.prog.readableRec t && decide (t < Tryz.pinned.checked.prog.types.size))) = true := by kernel_rfl
theorem cl20 : ((Rows.execNilRow.ifacesOut == Tryz.f4.resultTypes.toList.any (Tryz.pinned.checked.prog.ifacesRec ·))) = true := by kernel_rfl
theorem cl21 : ((Rows.execNilRow.loopsOut == Tryz.f4.resultTypes.toList.any (Tryz.pinned.checked.prog.loopsFrom ·))) = true := by kernel_rfl
theorem cl22 : ((Rows.execNilRow.plainKeys == Tryz.pinned.checked.prog.plainKeys)) = true := by kernel_rfl
theorem cl23 : (Rows.execNilRow.shortTexts.isNone) = true := by kernel_rfl
theorem cl24 : (Tryz.pinned.checked.prog.stopsHeard) = true := by kernel_rfl
theorem cl25 : (Tryz.pinned.checked.prog.mayEnter) = true := by kernel_rfl
theorem cl26 : ((Rows.execNilRow.lifted == Tryz.pinned.checked.prog.liftsFinal)) = true := by kernel_rfl
theorem cl27 : ((Tryz.pinned.checked.prog.make == some Rows.execNilRow.make)) = true := by kernel_rfl
theorem cl28 : ((Rows.execNilRow.kinds == (if Rows.execNilRow.domain.isEmpty then [] else Tryz.f4.params.toList.map fun t => match Tryz.pinned.checked.prog.underlying t with | some (.int k) => some k | _ => none))) = true := by kernel_rfl
theorem cl29 : ((Rows.execNilRow.pinned == Rows.execNilRow.pinnedBy)) = true := by kernel_rfl
theorem cl30 : ((Rows.execNilRow.veiled == (Tryz.f4.params.toList ++ Rows.execNilSpec.plain.varTypes Tryz.pinned.checked.prog ++ Tryz.f4.resultTypes.toList).any (Tryz.pinned.checked.prog.veiledRec ·))) = true := by kernel_rfl
theorem cl31 : (Rows.execNilRow.veiledFits Tryz.pinned.checked.prog Tryz.f4.params.toList (Tryz.f4.params.toList ++ Rows.execNilSpec.plain.varTypes Tryz.pinned.checked.prog ++ Tryz.f4.resultTypes.toList)) = true := by kernel_rfl
theorem execNil_holds : Rows.ExecNilSaid :=
  OpenClaim.holds_of_wide 4 Tryz.f4 rfl rfl rfl rfl rfl rfl rfl ⟨rfl, rfl, rfl, rfl, rfl⟩ rfl rfl rfl rfl rfl (by kernel_rfl) Tryz.func4 (and2 (and2 (and2 (and2 (and2 (and2 (and2 (and2 (and2 (and2 (and2 (and2 (and2 (and2 (and2 (and2 (and2 (and2 (and2 (and2 (and2 (and2 (and2 (and2 (and2 (and2 (and2 (and2 (and2 (and2 (and2 cl0 cl1) cl2) cl3) cl4) cl5) cl6) cl7) cl8) cl9) cl10) cl11) cl12) cl13) cl14) cl15) cl16) cl17) cl18) cl19) cl20) cl21) cl22) cl23) cl24) cl25) cl26) cl27) cl28) cl29) cl30) cl31)
    (of_decide_eq_true (by kernel_rfl)) (by unfold Func.isWrapper; first | (rw [if_pos (by decide +kernel)]; kernel_rfl) | (rw [if_neg (by decide +kernel)]; exact ⟨rfl, rfl⟩))
    (fun os started H enc _ => execNil_lifted os started H enc)
theorem execNil_card : Rows.ExecNilCardSaid :=
  Claim7.holds_tied_plain_at .later [] _ _ _ _ execNil_holds (fun _ h => by cases h) (by kernel_rfl) (fun _ h => by cases h) execNil_row_tie rfl ⟨rfl, rfl⟩ (by kernel_rfl) rfl
    (fun f fn hf hfn => by
      obtain rfl : f = 4 := (Option.some.inj ((show Tryz.prog.funcNamed Tryz.f4.name = some 4 by kernel_rfl).symm.trans hf)).symm
      obtain rfl : fn = Tryz.f4 := (Option.some.inj (Tryz.func4.symm.trans hfn)).symm
      refine ⟨by kernel_rfl, fun j t ht => ?_⟩
      have h := List.all_eq_true.1 (show Tryz.f4.params.toList.all (fun t => !Tryz.prog.wantsStandIn t) = true by kernel_rfl) t (List.mem_of_getElem? (by simpa using ht))
      exact (by simpa using h : Tryz.prog.wantsStandIn t = false))
    (by kernel_rfl)
end Go.Proofs.YtpfjakcfjpgbmaaGreatDoor
