/- A region that draws its order, as in Loose: what the quiet operations lean on may be less than what is known at the beginning; the last operation may be an assignment. -/
import Derived.Test.YtpfjakcfjpgbmaaGreatDoorLoose
namespace Go.Proofs.YtpfjakcfjpgbmaaGreatDoor
set_option linter.unusedVariables false
set_option linter.unusedSimpArgs false
open Go Go.RowKit

theorem wp_region_loose2 {P : Program} {id : Nat} {Q : Exit → Act → World → Prop} {a : Act} {w : World} {l : List Oper} (segs : List (List Nat × Nat)) (I C : World → Prop) (hm : P.follows .mixedOrders = true) (hB : looseB .any l segs = true)
    (hlen : (flatSegs segs).length = l.length) (hC : Stable C) (hw : C w.drew) (h : wpSegs P l (Q .normal) I segs a C) : (Code.region id l.toArray true).wp P Q a w := by
  simp only [looseB, Bool.and_eq_true, decide_eq_true_eq] at hB
  obtain ⟨⟨⟨⟨⟨hsel, h0⟩, hs⟩, hc⟩, hd⟩, hlex⟩ := hB
  refine wp_region_any hm ?_
  have hsz : l.toArray.size = l.length := by simp
  have inv0 : HeadInv .any l.toArray (l.length - 1) (Array.replicate l.length false) := ⟨by simp, fun j oj _ hl => (by rw [getD_replicate_false] at hl; cases hl), fun t _ ht => getD_in (by simpa using ht) (getD_replicate_false _ _)⟩
  have H := wpL_segs (P := P) (Q := Q .normal) (Region.noSelect_spec hsel) hs hc h0 segs I _ a C (.inl inv0) ⟨_, hw⟩ hd hlex h
  rw [hlen] at H
  have := wpL_any (Q' := Q) (fun _ _ h => h) _ _ _ _ hC H w.drew hw
  rw [hsz]
  exact this
/-- the last operation is an assignment -/
theorem wpSegs_assign {P : Program} {l : List Oper} {Q : Act → World → Prop} {I C : World → Prop} {j : Nat} {a : Act} {o : Oper} {x : Operand} (hC : Stable C) (hCI : ∀ w, C w → I w)
    (ho : l[j]? = some o) (hop : o.op = .assign x) (hw : Region.wanted o (yielded l.toArray a.tmps) = true) (hj : j = l.length - 1)
    (hrest : ∀ w, C w → Q (a.put o.dst (a.eval x)) w) : wpSegs P l Q I [([], j)] a C := by
  refine ⟨I, a, fun _ h => h, hCI, fun _ _ => rfl, o, ho, hw, fun u w => u = a.eval x ∧ C w, fun u w w' h hb => ⟨h.1, hC w w' h.2 hb⟩, fun h => absurd hj h, fun w hc => ?_, fun u ⟨w, h⟩ w' h' => ?_⟩
  · unfold Oper.loose execOp
    rw [hop]
    exact ⟨a.eval x, fun _ _ _ => rfl, rfl, hc⟩
  · rw [h'.1]
    exact hrest w' h'.2
end Go.Proofs.YtpfjakcfjpgbmaaGreatDoor
