/- The frame of the laws of layer 20: the tables lie as the row says. -/
import Derived.Test.YtpfjakcfjpgbmaaGreatDoorEnRun
import Derived.Test.YtpfjakcfjpgbmaaGreatDoorRsLaw
import Derived.Test.YtpfjakcfjpgbmaaGreatDoorTie
import Derived.Test.YtpfjakcfjpgbmaaGreatDoorCards
import Derived.LaidMore
import Derived.LaidOnce
import Derived.LaidSub
import Derived.MakeChecks
import Derived.HandedShaped
import Derived.Shelf.Vars
import Derived.Stop.Joined
import Derived.OpenShut
namespace Go.Proofs.YtpfjakcfjpgbmaaGreatDoor
set_option linter.unusedVariables false
set_option linter.unusedSimpArgs false
open Go.ChangeShapes Go.WideShapes Go.ChangeAt Go.RowKit

theorem returns_laid {H : Type} {enc : TypeId × Value → H} {C : Checked} {os : Os} {f : FuncId} {fn : Func} {s : ChangeSpec} {apart fresh handsOn again : Bool} {laid : List (String × DataW Unit)}
    (own : ownKnob C.prog.godebug = none) (started : os.Started) (noInit : C.prog.inits.idxOf? f = none) (hfn : C.prog.funcs[f]? = some fn)
    (witness : ∃ (w : World) (tape : Tape) (i : Input), w.os = os ∧ (w.forCall tape i).Shaped C.prog ∧ i.vars = [] ∧ Input.okWide C.prog (w.forCall tape i) .any w.heap.size f i ∧
      ((s.pre enc C.prog fn [] apart (w.forCall tape i).memory i.args ∧ laidMetH C.prog laid (w.forCall tape i).memory) ∧ sizedMet enc C.prog fn (OpenSpec.ofChange s) apart (w.forCall tape i).memory i.args) ∧ ({} : Assume).holds C.prog (lone (Frame.enter C.prog f i.args .normal) [] (w.forCall tape i)))
    (contract : ∀ (W : World) (base : Nat) (args : Array Value) (ds gs : List (DataW H)) (before : List MemPlace),
      (∀ (j : Nat) t v, fn.params[j]? = some t → args[j]? = some v → Value.okWide C.prog W .any base t v) →
      DataW.Whole enc C.prog fn.params.toList s.vars apart W args.toList ds gs before →
      (DataW.weightsEach C.prog (fn.params.toList ++ s.plain.varTypes C.prog) (ds ++ gs)).all (· ≤ reachBytes) = true → laidMetH C.prog laid W → W.ShapedOpen C.prog →
      Calls C.prog f args W fun e W' => ∃ v, e = .returned v ∧ s.post enc C.prog fn apart fresh handsOn again W args v W') :
    ReturnsInHanded {} C os f .any (fun w args => (s.pre enc C.prog fn [] apart w args ∧ laidMetH C.prog laid w) ∧ sizedMet enc C.prog fn (OpenSpec.ofChange s) apart w args) (s.post enc C.prog fn apart fresh handsOn again) :=
  returnsInHanded_of_calls own started noInit witness fun w tape i _ shaped _ fits pre _ => by
    obtain ⟨_, _, _, fn2, hfn2, _, _, _, _, hval⟩ := fits
    obtain rfl : fn2 = fn := Option.some.inj (hfn2.symm.trans hfn)
    obtain ⟨⟨⟨ds, gs, before, hw, _⟩, hl⟩, hz⟩ := pre
    refine Calls.mono (contract (w.forCall tape i) w.heap.size i.args ds gs before hval (DataW.Whole.of_heap (w' := w.forCall tape i) (by rfl) hw) (hz.weights hw) (laidMetH.of_heap (by rfl) hl) shaped) fun e W' h => ?_
    obtain ⟨v, rfl, hp⟩ := h
    exact ChangeSpec.post_blind hp

noncomputable def metRun (P : Program) (w : World) (fuel M : Nat) (l : List (String × DataW Unit)) : Option (List (String × DataW Unit)) :=
  (DataW.laidRun P w fuel (l.map (·.1))).bind fun x => if nodupBits M x.2 0 && laidRowsB P w x.2 then some x.1 else none
theorem met_of_run {P : Program} {w : World} {l : List (String × DataW Unit)} (fuel M : Nat) (h : metRun P w fuel M l = some l) : laidMet P l w := by
  unfold metRun at h
  rw [Option.bind_eq_some_iff] at h
  obtain ⟨x, hx, h⟩ := h
  split at h
  · rename_i hb
    simp only [Bool.and_eq_true] at hb
    simp only [Option.some.injEq] at h
    exact laidMet_of_run (ps := x.2) fuel (by rw [hx, ← h]) (decide_eq_true (nodupBits_sound hb.1).1) hb.2
  · cases h
/-- the numbers of a listed table -/
def litCells : DataW Unit → List Value
  | .agg l => l.map fun | .lit (.int k n) => Value.int k n | _ => undef
  | _ => []
/-- the witness: what the door's run lays, and the pinned table -/
noncomputable def laidWorld (os : Os) : World :=
  let w0 := World.doorLaid Tryz.prog 400 os
  { w0 with heap := w0.heap.modify 6 fun
    | .cells _ t frozen => .cells (litCells Rows.laid_unicode_utf8_first).toArray t frozen
    | o => o }
theorem three_of {α : Type} {l : List α} (h : l.length = 3) : ∃ x y z, l = [x, y, z] := by
  match l, h with
  | [x, y, z], _ => exact ⟨x, y, z, rfl⟩
set_option maxRecDepth 100000 in
theorem kinds_of_laid {W : World} {l : List (String × DataW Unit)} (hx : ("vintner/value.kinds", Rows.laid_vintner_value_kinds (H := Unit)) ∈ l) (h : laidMetH Tryz.prog l W) : KindsIs W := by
  obtain ⟨g, t, cs, fuel, p, hg, ht, hv, hd⟩ := h.funcs (n := "vintner/value.kinds") hx
  obtain rfl := Option.some.inj ((show Tryz.prog.globalNamed "vintner/value.kinds" = some 0 by kernel_rfl).symm.trans hg)
  obtain rfl := Option.some.inj ((show (Tryz.prog.globals[0]?).map (·.type) = some 268 by kernel_rfl).symm.trans ht)
  have hd' : DataW.trod (funcToken Tryz.prog) Tryz.prog W 0 (fun _ => true) true fuel 268 cs.toList = some (.agg [.held [118, 105, 110, 116, 110, 101, 114, 47, 118, 97, 108, 117, 101, 46, 107, 105, 110, 100, 115, 36, 49], .held [118, 105, 110, 116, 110, 101, 114, 47, 118, 97, 108, 117, 101, 46, 107, 105, 110, 100, 115, 36, 50], .held [118, 105, 110, 116, 110, 101, 114, 47, 118, 97, 108, 117, 101, 46, 107, 105, 110, 100, 115, 36, 51]], p) := hd
  obtain ⟨xs, m, rfl, hxs, hlen, hn, hel⟩ := DataW.trod_array Tryz.underlying268 hd'
  simp only [Prod.mk.injEq, DataW.agg.injEq] at hxs
  obtain ⟨hx1, -⟩ := hxs
  have hc1 : Tryz.prog.cellsOf 197 = 1 := by kernel_rfl
  have hc3 : Tryz.prog.cellsOf 268 = 3 := by kernel_rfl
  rw [hc3] at hlen
  rw [hc1] at hel
  obtain ⟨x0, x1, x2, rfl⟩ := three_of hn
  obtain ⟨l⟩ := cs
  obtain ⟨v0, v1, v2, rfl⟩ := three_of (l := l) (by simpa using hlen)
  simp only [List.map_cons, List.map_nil, List.cons.injEq, and_true] at hx1
  obtain ⟨h0, h1, h2⟩ := hx1
  have e0 := hel 0 (by decide)
  have e1 := hel 1 (by decide)
  have e2 := hel 2 (by decide)
  simp at e0 e1 e2
  obtain ⟨d0, q0⟩ := x0
  obtain ⟨d1, q1⟩ := x1
  obtain ⟨d2, q2⟩ := x2
  simp only at h0 h1 h2
  subst h0 h1 h2
  have f0 := func_of_trod (f0 := 333) Tryz.underlying197 (by kernel_rfl) e0
  have f1 := func_of_trod (f0 := 334) Tryz.underlying197 (by kernel_rfl) e1
  have f2 := func_of_trod (f0 := 336) Tryz.underlying197 (by kernel_rfl) e2
  subst f0 f1 f2
  exact hv
theorem kat_laid {W : World} {l : List (String × DataW Unit)} (hL : laidMetH Tryz.prog l W) (hSh : W.ShapedOpen Tryz.prog) (hx : ("vintner/value.kinds", Rows.laid_vintner_value_kinds (H := Unit)) ∈ l) : KAt W := by
  refine ⟨kinds_of_laid hx hL, ?_⟩
  obtain ⟨z, t, hz⟩ : ∃ z t, ((begin Tryz.prog (fun _ _ => 0) default).world.heap[11]?).bind Obj.row? = some (z, t) := by
    cases hq : ((begin Tryz.prog (fun _ _ => 0) default).world.heap[11]?).bind Obj.row? with
    | none =>
      have : (((begin Tryz.prog (fun _ _ => 0) default).world.heap[11]?).bind Obj.row?).isSome = true := by kernel_rfl
      rw [hq] at this
      cases this
    | some x => exact ⟨x.1, x.2, rfl⟩
  obtain ⟨cs, hc, _⟩ := hSh.1 11 z t (of_decide_eq_true (by kernel_rfl)) hz
  have := (Array.getElem?_eq_some_iff.1 hc).1
  omega
end Go.Proofs.YtpfjakcfjpgbmaaGreatDoor
