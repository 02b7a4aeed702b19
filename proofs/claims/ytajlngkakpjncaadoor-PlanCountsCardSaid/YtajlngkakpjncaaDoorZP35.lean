/- The listed table of comparison functions: what its cells hold. -/
import Derived.Test.YtajlngkakpjncaaDoorZP19
import Derived.Test.YtajlngkakpjncaaDoorZP33
import Derived.OpenShut
namespace Go.Proofs.YtajlngkakpjncaaDoor
set_option linter.unusedVariables false
set_option linter.unusedSimpArgs false
open Go.ChangeShapes Go.WideShapes Go.ChangeAt Go.RowKit

theorem three_of {α : Type} {l : List α} (h : l.length = 3) : ∃ x y z, l = [x, y, z] := by
  match l, h with
  | [x, y, z], _ => exact ⟨x, y, z, rfl⟩
set_option maxRecDepth 100000 in
theorem kinds_of_laid {W : World} {l : List (String × DataW Unit)} (hx : ("vintner/value.kinds", Rows.laid_vintner_value_kinds (H := Unit)) ∈ l) (h : laidMetH Tryd.prog l W) : KindsAt W := by
  obtain ⟨g, t, cs, fuel, p, hg, ht, hv, hd⟩ := h.funcs (n := "vintner/value.kinds") hx
  obtain rfl := Option.some.inj ((show Tryd.prog.globalNamed "vintner/value.kinds" = some 0 by kernel_rfl).symm.trans hg)
  obtain rfl := Option.some.inj ((show (Tryd.prog.globals[0]?).map (·.type) = some 99 by kernel_rfl).symm.trans ht)
  have hd' : DataW.trod (funcToken Tryd.prog) Tryd.prog W 0 (fun _ => true) true fuel 99 cs.toList = some (.agg [.held [118, 105, 110, 116, 110, 101, 114, 47, 118, 97, 108, 117, 101, 46, 107, 105, 110, 100, 115, 36, 49], .held [118, 105, 110, 116, 110, 101, 114, 47, 118, 97, 108, 117, 101, 46, 107, 105, 110, 100, 115, 36, 50], .held [118, 105, 110, 116, 110, 101, 114, 47, 118, 97, 108, 117, 101, 46, 107, 105, 110, 100, 115, 36, 51]], p) := hd
  obtain ⟨xs, m, rfl, hxs, hlen, hn, hel⟩ := DataW.trod_array Tryd.underlying99 hd'
  simp only [Prod.mk.injEq, DataW.agg.injEq] at hxs
  obtain ⟨hx1, -⟩ := hxs
  have hc1 : Tryd.prog.cellsOf 74 = 1 := by kernel_rfl
  have hc3 : Tryd.prog.cellsOf 99 = 3 := by kernel_rfl
  rw [hc3] at hlen
  rw [hc1] at hel
  obtain ⟨x0, x1, x2, rfl⟩ := three_of hn
  obtain ⟨l⟩ := cs
  obtain ⟨v0, v1, v2, rfl⟩ := three_of (l := l) (by simpa using hlen)
  simp only [List.map_cons, List.map_nil, List.cons.injEq, and_true] at hx1
  obtain ⟨h0, h1, h2⟩ := hx1
  have e0 := hel 0 (by decide)
  have e1 := hel 1 (by decide)
  have e2 := hel 2 (by decide)
  simp at e0 e1 e2
  obtain ⟨d0, q0⟩ := x0
  obtain ⟨d1, q1⟩ := x1
  obtain ⟨d2, q2⟩ := x2
  simp only at h0 h1 h2
  subst h0 h1 h2
  have f0 := func_of_trod (f0 := 136) Tryd.underlying74 (by kernel_rfl) e0
  have f1 := func_of_trod (f0 := 137) Tryd.underlying74 (by kernel_rfl) e1
  have f2 := func_of_trod (f0 := 139) Tryd.underlying74 (by kernel_rfl) e2
  subst f0 f1 f2
  exact ⟨World.var?_cell hg hv 0, World.var?_cell hg hv 1, World.var?_cell hg hv 2⟩
end Go.Proofs.YtajlngkakpjncaaDoor
