/- The frame of the laws of layer 19: the listed variables lie as the row says, and the world is shaped, so that the library's own variable holds a number. -/
import Derived.Test.YtajlngkakpjncaaDoorZP12
import Derived.Test.YtajlngkakpjncaaDoorZP13
import Derived.LaidMore
import Derived.HandedShaped
import Derived.Shelf.Vars
import Derived.Stop.Joined
namespace Go.Proofs.YtajlngkakpjncaaDoor
set_option linter.unusedVariables false
set_option linter.unusedSimpArgs false
open Go.ChangeShapes Go.WideShapes Go.ChangeAt Go.RowKit

theorem env_shaped {W : World} (h : W.ShapedOpen Tryd.prog) : Env W :=
  Go.Proofs.cell_of_shapedOpen_int (g := 1) (zero := #[.int .i64 0]) (t := 3) h (of_decide_eq_true (by kernel_rfl)) (by kernel_rfl) rfl (by kernel_rfl) (by kernel_rfl) Tryd.underlying3

theorem returns_laid {H : Type} {enc : TypeId × Value → H} {C : Checked} {os : Os} {f : FuncId} {fn : Func} {s : ChangeSpec} {apart fresh handsOn again : Bool} {laid : List (String × DataW Unit)}
    (own : ownKnob C.prog.godebug = none) (started : os.Started) (noInit : C.prog.inits.idxOf? f = none) (hfn : C.prog.funcs[f]? = some fn)
    (witness : ∃ (w : World) (tape : Tape) (i : Input), w.os = os ∧ (w.forCall tape i).Shaped C.prog ∧ i.vars = [] ∧ Input.okWide C.prog (w.forCall tape i) .any w.heap.size f i ∧
      ((s.pre enc C.prog fn [] apart (w.forCall tape i).memory i.args ∧ laidMetH C.prog laid (w.forCall tape i).memory) ∧ sizedMet enc C.prog fn (OpenSpec.ofChange s) apart (w.forCall tape i).memory i.args) ∧ ({} : Assume).holds C.prog (lone (Frame.enter C.prog f i.args .normal) [] (w.forCall tape i)))
    (contract : ∀ (W : World) (base : Nat) (args : Array Value) (ds gs : List (DataW H)) (before : List MemPlace),
      (∀ (j : Nat) t v, fn.params[j]? = some t → args[j]? = some v → Value.okWide C.prog W .any base t v) →
      DataW.Whole enc C.prog fn.params.toList s.vars apart W args.toList ds gs before →
      (DataW.weightsEach C.prog (fn.params.toList ++ s.plain.varTypes C.prog) (ds ++ gs)).all (· ≤ reachBytes) = true → laidMetH C.prog laid W → W.ShapedOpen C.prog →
      Calls C.prog f args W fun e W' => ∃ v, e = .returned v ∧ s.post enc C.prog fn apart fresh handsOn again W args v W') :
    ReturnsInHanded {} C os f .any (fun w args => (s.pre enc C.prog fn [] apart w args ∧ laidMetH C.prog laid w) ∧ sizedMet enc C.prog fn (OpenSpec.ofChange s) apart w args) (s.post enc C.prog fn apart fresh handsOn again) :=
  returnsInHanded_of_calls own started noInit witness fun w tape i _ shaped _ fits pre _ => by
    obtain ⟨_, _, _, fn2, hfn2, _, _, _, _, hval⟩ := fits
    obtain rfl : fn2 = fn := Option.some.inj (hfn2.symm.trans hfn)
    obtain ⟨⟨⟨ds, gs, before, hw, _⟩, hl⟩, hz⟩ := pre
    refine Calls.mono (contract (w.forCall tape i) w.heap.size i.args ds gs before hval (DataW.Whole.of_heap (w' := w.forCall tape i) (by rfl) hw) (hz.weights hw) (laidMetH.of_heap (by rfl) hl) shaped) fun e W' h => ?_
    obtain ⟨v, rfl, hp⟩ := h
    exact ChangeSpec.post_blind hp

/-- the cells of a table of numbers -/
def litCells : DataW Unit → List Value
  | .agg l => l.map fun | .lit (.int k n) => Value.int k n | _ => undef
  | _ => []
/-- the witness: what the door's run lays, and the pinned table -/
noncomputable def laidWorld (os : Os) : World :=
  let w0 := World.doorLaid Tryd.prog 400 os
  { w0 with heap := w0.heap.modify 2 fun
    | .cells _ t frozen => .cells (litCells Rows.laid_unicode_utf8_first).toArray t frozen
    | o => o }
theorem door_met (os : Os) (args : Array Value) : laidMetH Tryd.prog Rows.planMergesRow.laid ((laidWorld os).forCall (fun _ _ => 0) ⟨#[], args, []⟩).memory :=
  laidMetH_of_parts3 (fuel := 8) (laidMet_of_run' 8 (by kernel_rfl) (by kernel_rfl)) (by kernel_rfl) (by kernel_rfl)
theorem door_met2 (os : Os) (args : Array Value) : laidMetH Tryd.prog Rows.planBoundsRow.laid ((laidWorld os).forCall (fun _ _ => 0) ⟨#[], args, []⟩).memory :=
  laidMetH_of_parts3 (fuel := 8) (laidMet_of_run' 8 (by kernel_rfl) (by kernel_rfl)) (by kernel_rfl) (by kernel_rfl)
end Go.Proofs.YtajlngkakpjncaaDoor
