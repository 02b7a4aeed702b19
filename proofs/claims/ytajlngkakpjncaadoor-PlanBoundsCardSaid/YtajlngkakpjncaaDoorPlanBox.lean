/- plan.Plan: what lies in its boxes. -/
import Derived.Test.YtajlngkakpjncaaDoorStrange
import Derived.Test.YtajlngkakpjncaaDoorNames2
import Derived.Test.YtajlngkakpjncaaDoorWays
import Derived.Test.YtajlngkakpjncaaDoorBest
namespace Go.Proofs.YtajlngkakpjncaaDoor
set_option linter.unusedVariables false
set_option linter.unusedSimpArgs false
open Go.RowKit

def StaBox (p : Nat → Prop) (w : World) (b : Nat) (S : Sta) : Prop :=
  ∃ a c, w.heap[b]? = some (.cells #[.int .i64 S.rows, .slice a S.vals.length c] 33 (0, 0)) ∧ SlV intR p w (.slice a S.vals.length c) S.vals
theorem StaBox.below {p : Nat → Prop} {w w' : World} {b : Nat} {S : Sta} (h : StaBox p w b S) (hb : Below w.heap.size w w') : StaBox p w' b S := by
  obtain ⟨a, c, h0, h1⟩ := h
  exact ⟨a, c, (hb.block _ (lt_of_block h0)).trans h0, h1.below hb⟩
theorem StaBox.cells {p : Nat → Prop} {w : World} {b : Nat} {S : Sta} (h : StaBox p w b S) : ∃ a c, w.cell? ⟨b, 0, none⟩ = some (.int .i64 S.rows) ∧ w.cell? ⟨b, 1, none⟩ = some (.slice a S.vals.length c) ∧ StaV p w (.agg #[.int .i64 S.rows, .slice a S.vals.length c]) S := by
  obtain ⟨a, c, h0, h1⟩ := h
  exact ⟨a, c, cells_of h0 0, cells_of h0 1, a, c, rfl, h1⟩
def StmtBox (p : Nat → Prop) (w : World) (b : Nat) (s : Stmt) : Prop :=
  ∃ a3 c3 a4 c4 a5 c5 a6 c6 a7 c7 a12 c12, w.heap[b]? = some (.cells #[.int .i64 s.kind, .string s.table, .string s.name, .slice a3 s.cols.length c3, .slice a4 s.names.length c4, .slice a5 s.row.length c5, .slice a6 s.sets.length c6, .slice a7 s.wher.length c7,
      .string s.join, .string s.left, .string s.right, .int .i64 s.agg, .slice a12 s.order.length c12, .int .i64 s.mode, .int .i64 s.n] 50 (0, 0)) ∧
    SlV colR p w (.slice a3 s.cols.length c3) s.cols ∧ SlV strF p w (.slice a4 s.names.length c4) s.names ∧ (a4 = none → c4 = 0) ∧ SlV valR p w (.slice a5 s.row.length c5) s.row ∧ SlV setR p w (.slice a6 s.sets.length c6) s.sets ∧
    SlV condR p w (.slice a7 s.wher.length c7) s.wher ∧ SlV strF p w (.slice a12 s.order.length c12) s.order ∧ (a12 = none → c12 = 0)
theorem StmtBox.below {p : Nat → Prop} {w w' : World} {b : Nat} {s : Stmt} (h : StmtBox p w b s) (hb : Below w.heap.size w w') : StmtBox p w' b s := by
  obtain ⟨a3, c3, a4, c4, a5, c5, a6, c6, a7, c7, a12, c12, h0, h1, h2, h3, h4, h5, h6, h7, h8⟩ := h
  exact ⟨a3, c3, a4, c4, a5, c5, a6, c6, a7, c7, a12, c12, (hb.block _ (lt_of_block h0)).trans h0, h1.below hb, h2.below hb, h3, h4.below hb, h5.below hb, h6.below hb, h7.below hb, h8⟩
theorem StmtBox.cells {p : Nat → Prop} {w : World} {b : Nat} {s : Stmt} (h : StmtBox p w b s) : ∃ a3 c3 a4 c4 a5 c5 a6 c6 a7 c7 a12 c12, (w.cell? ⟨b, 0, none⟩ = some (.int .i64 s.kind) ∧ w.cell? ⟨b, 1, none⟩ = some (.string s.table) ∧ w.cell? ⟨b, 2, none⟩ = some (.string s.name) ∧
      w.cell? ⟨b, 3, none⟩ = some (.slice a3 s.cols.length c3) ∧ w.cell? ⟨b, 4, none⟩ = some (.slice a4 s.names.length c4) ∧ w.cell? ⟨b, 5, none⟩ = some (.slice a5 s.row.length c5) ∧ w.cell? ⟨b, 6, none⟩ = some (.slice a6 s.sets.length c6) ∧ w.cell? ⟨b, 7, none⟩ = some (.slice a7 s.wher.length c7) ∧
      w.cell? ⟨b, 8, none⟩ = some (.string s.join) ∧ w.cell? ⟨b, 9, none⟩ = some (.string s.left) ∧ w.cell? ⟨b, 10, none⟩ = some (.string s.right) ∧ w.cell? ⟨b, 11, none⟩ = some (.int .i64 s.agg) ∧ w.cell? ⟨b, 12, none⟩ = some (.slice a12 s.order.length c12) ∧ w.cell? ⟨b, 13, none⟩ = some (.int .i64 s.mode) ∧ w.cell? ⟨b, 14, none⟩ = some (.int .i64 s.n)) ∧
    StmtV p w (.agg #[.int .i64 s.kind, .string s.table, .string s.name, .slice a3 s.cols.length c3, .slice a4 s.names.length c4, .slice a5 s.row.length c5, .slice a6 s.sets.length c6, .slice a7 s.wher.length c7,
      .string s.join, .string s.left, .string s.right, .int .i64 s.agg, .slice a12 s.order.length c12, .int .i64 s.mode, .int .i64 s.n]) s ∧ SlV condR p w (.slice a7 s.wher.length c7) s.wher := by
  obtain ⟨a3, c3, a4, c4, a5, c5, a6, c6, a7, c7, a12, c12, h0, h1, h2, h3, h4, h5, h6, h7, h8⟩ := h
  exact ⟨a3, c3, a4, c4, a5, c5, a6, c6, a7, c7, a12, c12, ⟨cells_of h0 0, cells_of h0 1, cells_of h0 2, cells_of h0 3, cells_of h0 4, cells_of h0 5, cells_of h0 6, cells_of h0 7, cells_of h0 8, cells_of h0 9, cells_of h0 10, cells_of h0 11, cells_of h0 12, cells_of h0 13, cells_of h0 14⟩,
    ⟨a3, c3, a4, c4, a5, c5, a6, c6, a7, c7, a12, c12, rfl, h1, h2, h3, h4, h5, h6, h7, h8⟩, h6⟩
def PlanV.enc (x : PlanV) : Value := .agg #[.int .i64 x.way.index, .string x.way.lo, .string x.way.hi, .int .i64 x.way.cost, .int .i64 x.join.index, .string x.join.lo, .string x.join.hi, .int .i64 x.join.cost, .bool x.merge, .int .i64 x.cost]
def planR (x : PlanV × Int) : Value := .tuple #[x.1.enc, .int .i64 x.2]
/-- the box of the result, not yet written -/
def ZeroBox (w : World) (b : Nat) : Prop := w.heap[b]? = some (.cells #[.int .i64 0, .string ⟨#[]⟩, .string ⟨#[]⟩, .int .i64 0, .int .i64 0, .string ⟨#[]⟩, .string ⟨#[]⟩, .int .i64 0, .bool false, .int .i64 0] 54 (0, 0))
theorem ZeroBox.below {w w' : World} {b : Nat} (h : ZeroBox w b) (hb : Below w.heap.size w w') : ZeroBox w' b := (hb.block _ (lt_of_block h)).trans h
structure PBoxes (p1 p2 p3 p4 p5 : Nat → Prop) (B : Nat) (T U : Tab) (a b : Sta) (s : Stmt) (w : World) : Prop where
  t : TabBox p1 w B T
  u : TabBox p2 w (B + 1) U
  a : StaBox p3 w (B + 1 + 1) a
  b : StaBox p4 w (B + 1 + 1 + 1) b
  s : StmtBox p5 w (B + 1 + 1 + 1 + 1) s
  z : ZeroBox w (B + 1 + 1 + 1 + 1 + 1)
theorem PBoxes.below {p1 p2 p3 p4 p5 : Nat → Prop} {B : Nat} {T U : Tab} {a b : Sta} {s : Stmt} {w w' : World} (h : PBoxes p1 p2 p3 p4 p5 B T U a b s w) (hb : Below w.heap.size w w') : PBoxes p1 p2 p3 p4 p5 B T U a b s w' :=
  ⟨h.t.below hb, h.u.below hb, h.a.below hb, h.b.below hb, h.s.below hb, h.z.below hb⟩
theorem below_set10 {B : Nat} {a w : World} {b : Nat} (h : Below B a w) (hB : B ≤ b) (v0 v1 v2 v3 v4 v5 v6 v7 v8 v9 : Value) :
    Below B a ((((((((((w.setCell ⟨b, 0, none⟩ v0).setCell ⟨b, 1, none⟩ v1).setCell ⟨b, 2, none⟩ v2).setCell ⟨b, 3, none⟩ v3).setCell ⟨b, 4, none⟩ v4).setCell ⟨b, 5, none⟩ v5).setCell ⟨b, 6, none⟩ v6).setCell ⟨b, 7, none⟩ v7).setCell ⟨b, 8, none⟩ v8).setCell ⟨b, 9, none⟩ v9) := by
  have key : ∀ (w : World) (o : Nat) (v : Value), Below B a w → Below B a (w.setCell ⟨b, o, none⟩ v) := fun w o v h => h.setCell (p := ⟨b, o, none⟩) hB v
  exact key _ _ _ (key _ _ _ (key _ _ _ (key _ _ _ (key _ _ _ (key _ _ _ (key _ _ _ (key _ _ _ (key _ _ _ (key _ _ _ h)))))))))
end Go.Proofs.YtajlngkakpjncaaDoor
