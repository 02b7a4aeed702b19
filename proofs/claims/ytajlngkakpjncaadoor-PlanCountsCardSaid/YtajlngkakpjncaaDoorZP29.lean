/- plan.Plan: what lies in its boxes. The lists that plan.Plan makes: the conditions of the one table and of the other. -/
import Derived.Test.YtajlngkakpjncaaDoorZP25
import Derived.Test.YtajlngkakpjncaaDoorZP26
import Derived.Test.YtajlngkakpjncaaDoorZP28
import Derived.Test.YtajlngkakpjncaaDoorZP22
import Derived.Maps.AppendAt
namespace Go.Proofs.YtajlngkakpjncaaDoor
set_option linter.unusedVariables false
set_option linter.unusedSimpArgs false
open Go.RowKit

def StaBox (p : Nat → Prop) (w : World) (b : Nat) (S : Sta) : Prop :=
  ∃ a c, w.heap[b]? = some (.cells #[.int .i64 S.rows, .slice a S.vals.length c] 33 (0, 0)) ∧ SlV intR p w (.slice a S.vals.length c) S.vals
theorem StaBox.below {p : Nat → Prop} {w w' : World} {b : Nat} {S : Sta} (h : StaBox p w b S) (hb : Below w.heap.size w w') : StaBox p w' b S := by
  obtain ⟨a, c, h0, h1⟩ := h
  exact ⟨a, c, (hb.block _ (lt_of_block h0)).trans h0, h1.below hb⟩
theorem StaBox.cells {p : Nat → Prop} {w : World} {b : Nat} {S : Sta} (h : StaBox p w b S) : ∃ a c, w.cell? ⟨b, 0, none⟩ = some (.int .i64 S.rows) ∧ w.cell? ⟨b, 1, none⟩ = some (.slice a S.vals.length c) ∧ StaV p w (.agg #[.int .i64 S.rows, .slice a S.vals.length c]) S := by
  obtain ⟨a, c, h0, h1⟩ := h
  exact ⟨a, c, cells_of h0 0, cells_of h0 1, a, c, rfl, h1⟩
def StmtBox (p : Nat → Prop) (w : World) (b : Nat) (s : Stmt) : Prop :=
  ∃ a3 c3 a4 c4 a5 c5 a6 c6 a7 c7 a12 c12, w.heap[b]? = some (.cells #[.int .i64 s.kind, .string s.table, .string s.name, .slice a3 s.cols.length c3, .slice a4 s.names.length c4, .slice a5 s.row.length c5, .slice a6 s.sets.length c6, .slice a7 s.wher.length c7,
      .string s.join, .string s.left, .string s.right, .int .i64 s.agg, .slice a12 s.order.length c12, .int .i64 s.mode, .int .i64 s.n] 50 (0, 0)) ∧
    SlV colR p w (.slice a3 s.cols.length c3) s.cols ∧ SlV strF p w (.slice a4 s.names.length c4) s.names ∧ (a4 = none → c4 = 0) ∧ SlV valR p w (.slice a5 s.row.length c5) s.row ∧ SlV setR p w (.slice a6 s.sets.length c6) s.sets ∧
    SlV condR p w (.slice a7 s.wher.length c7) s.wher ∧ SlV strF p w (.slice a12 s.order.length c12) s.order ∧ (a12 = none → c12 = 0)
theorem StmtBox.below {p : Nat → Prop} {w w' : World} {b : Nat} {s : Stmt} (h : StmtBox p w b s) (hb : Below w.heap.size w w') : StmtBox p w' b s := by
  obtain ⟨a3, c3, a4, c4, a5, c5, a6, c6, a7, c7, a12, c12, h0, h1, h2, h3, h4, h5, h6, h7, h8⟩ := h
  exact ⟨a3, c3, a4, c4, a5, c5, a6, c6, a7, c7, a12, c12, (hb.block _ (lt_of_block h0)).trans h0, h1.below hb, h2.below hb, h3, h4.below hb, h5.below hb, h6.below hb, h7.below hb, h8⟩
theorem StmtBox.cells {p : Nat → Prop} {w : World} {b : Nat} {s : Stmt} (h : StmtBox p w b s) : ∃ a3 c3 a4 c4 a5 c5 a6 c6 a7 c7 a12 c12, (w.cell? ⟨b, 0, none⟩ = some (.int .i64 s.kind) ∧ w.cell? ⟨b, 1, none⟩ = some (.string s.table) ∧ w.cell? ⟨b, 2, none⟩ = some (.string s.name) ∧
      w.cell? ⟨b, 3, none⟩ = some (.slice a3 s.cols.length c3) ∧ w.cell? ⟨b, 4, none⟩ = some (.slice a4 s.names.length c4) ∧ w.cell? ⟨b, 5, none⟩ = some (.slice a5 s.row.length c5) ∧ w.cell? ⟨b, 6, none⟩ = some (.slice a6 s.sets.length c6) ∧ w.cell? ⟨b, 7, none⟩ = some (.slice a7 s.wher.length c7) ∧
      w.cell? ⟨b, 8, none⟩ = some (.string s.join) ∧ w.cell? ⟨b, 9, none⟩ = some (.string s.left) ∧ w.cell? ⟨b, 10, none⟩ = some (.string s.right) ∧ w.cell? ⟨b, 11, none⟩ = some (.int .i64 s.agg) ∧ w.cell? ⟨b, 12, none⟩ = some (.slice a12 s.order.length c12) ∧ w.cell? ⟨b, 13, none⟩ = some (.int .i64 s.mode) ∧ w.cell? ⟨b, 14, none⟩ = some (.int .i64 s.n)) ∧
    StmtV p w (.agg #[.int .i64 s.kind, .string s.table, .string s.name, .slice a3 s.cols.length c3, .slice a4 s.names.length c4, .slice a5 s.row.length c5, .slice a6 s.sets.length c6, .slice a7 s.wher.length c7,
      .string s.join, .string s.left, .string s.right, .int .i64 s.agg, .slice a12 s.order.length c12, .int .i64 s.mode, .int .i64 s.n]) s ∧ SlV condR p w (.slice a7 s.wher.length c7) s.wher := by
  obtain ⟨a3, c3, a4, c4, a5, c5, a6, c6, a7, c7, a12, c12, h0, h1, h2, h3, h4, h5, h6, h7, h8⟩ := h
  exact ⟨a3, c3, a4, c4, a5, c5, a6, c6, a7, c7, a12, c12, ⟨cells_of h0 0, cells_of h0 1, cells_of h0 2, cells_of h0 3, cells_of h0 4, cells_of h0 5, cells_of h0 6, cells_of h0 7, cells_of h0 8, cells_of h0 9, cells_of h0 10, cells_of h0 11, cells_of h0 12, cells_of h0 13, cells_of h0 14⟩,
    ⟨a3, c3, a4, c4, a5, c5, a6, c6, a7, c7, a12, c12, rfl, h1, h2, h3, h4, h5, h6, h7, h8⟩, h6⟩
def PlanV.enc (x : PlanV) : Value := .agg #[.int .i64 x.way.index, .string x.way.lo, .string x.way.hi, .int .i64 x.way.cost, .int .i64 x.join.index, .string x.join.lo, .string x.join.hi, .int .i64 x.join.cost, .bool x.merge, .int .i64 x.cost]
def planR (x : PlanV × Int) : Value := .tuple #[x.1.enc, .int .i64 x.2]
/-- the box of the result, not yet written -/
def ZeroBox (w : World) (b : Nat) : Prop := w.heap[b]? = some (.cells #[.int .i64 0, .string ⟨#[]⟩, .string ⟨#[]⟩, .int .i64 0, .int .i64 0, .string ⟨#[]⟩, .string ⟨#[]⟩, .int .i64 0, .bool false, .int .i64 0] 54 (0, 0))
theorem ZeroBox.below {w w' : World} {b : Nat} (h : ZeroBox w b) (hb : Below w.heap.size w w') : ZeroBox w' b := (hb.block _ (lt_of_block h)).trans h
structure PBoxes (p1 p2 p3 p4 p5 : Nat → Prop) (B : Nat) (T U : Tab) (a b : Sta) (s : Stmt) (w : World) : Prop where
  t : TabBox p1 w B T
  u : TabBox p2 w (B + 1) U
  a : StaBox p3 w (B + 1 + 1) a
  b : StaBox p4 w (B + 1 + 1 + 1) b
  s : StmtBox p5 w (B + 1 + 1 + 1 + 1) s
  z : ZeroBox w (B + 1 + 1 + 1 + 1 + 1)
theorem PBoxes.below {p1 p2 p3 p4 p5 : Nat → Prop} {B : Nat} {T U : Tab} {a b : Sta} {s : Stmt} {w w' : World} (h : PBoxes p1 p2 p3 p4 p5 B T U a b s w) (hb : Below w.heap.size w w') : PBoxes p1 p2 p3 p4 p5 B T U a b s w' :=
  ⟨h.t.below hb, h.u.below hb, h.a.below hb, h.b.below hb, h.s.below hb, h.z.below hb⟩
theorem below_set10 {B : Nat} {a w : World} {b : Nat} (h : Below B a w) (hB : B ≤ b) (v0 v1 v2 v3 v4 v5 v6 v7 v8 v9 : Value) :
    Below B a ((((((((((w.setCell ⟨b, 0, none⟩ v0).setCell ⟨b, 1, none⟩ v1).setCell ⟨b, 2, none⟩ v2).setCell ⟨b, 3, none⟩ v3).setCell ⟨b, 4, none⟩ v4).setCell ⟨b, 5, none⟩ v5).setCell ⟨b, 6, none⟩ v6).setCell ⟨b, 7, none⟩ v7).setCell ⟨b, 8, none⟩ v8).setCell ⟨b, 9, none⟩ v9) := by
  have key : ∀ (w : World) (o : Nat) (v : Value), Below B a w → Below B a (w.setCell ⟨b, o, none⟩ v) := fun w o v h => h.setCell (p := ⟨b, o, none⟩) hB v
  exact key _ _ _ (key _ _ _ (key _ _ _ (key _ _ _ (key _ _ _ (key _ _ _ (key _ _ _ (key _ _ _ (key _ _ _ (key _ _ _ h)))))))))
end Go.Proofs.YtajlngkakpjncaaDoor

namespace Go.Proofs.YtajlngkakpjncaaDoor
set_option linter.unusedVariables false
set_option linter.unusedSimpArgs false
open Go.RowKit

theorem cond_cells (x : Cond) : ∀ u ∈ condEnc x, u.oneCell' = true := by
  intro u hu
  simp [condEnc] at hu
  rcases hu with rfl | rfl | rfl | rfl | rfl <;> rfl
theorem info_cond : (Tryd.prog.info? 44).map (fun i => (i.zero, i.size, i.bytes)) = some (some (.agg #[.string ⟨#[]⟩, .int .i64 0, .int .i64 0, .int .i64 0, .string ⟨#[]⟩]), 5, 56) := by kernel_rfl
theorem cells_new5 (w : World) (cs : List Value) (e : TypeId) : ∀ j u, cs[j]? = some u → (w.alloc (.cells cs.toArray e)).cell? ((⟨w.heap.size, 0, none⟩ : Addr).add j) = some u := by
  intro j u hj
  rw [addr_add, cells_of (heap_alloc_new w _)]
  simpa using hj
/-- two rows of the call's own, apart from each other -/
structure TwoAt (B : Nat) (W0 : World) (M N : List Cond) (v u : Value) (w : World) : Prop where
  m : w.ownsRow B 44 5 v M.length (M.flatMap condEnc)
  n : w.ownsRow B 44 5 u N.length (N.flatMap condEnc)
  ne : ∀ k, v.ownBlock = some k → u.ownBlock ≠ some k
  b : Below B W0 w
theorem TwoAt.swap {B : Nat} {W0 : World} {M N : List Cond} {v u : Value} {w : World} (h : TwoAt B W0 M N v u w) : TwoAt B W0 N M u v w :=
  ⟨h.n, h.m, fun k hk hv => h.ne k hv hk, h.b⟩
theorem TwoAt.below {B : Nat} {W0 : World} {M N : List Cond} {v u : Value} {w w' : World} (h : TwoAt B W0 M N v u w) (hb : Below w.heap.size w w') (hB : B ≤ w.heap.size) : TwoAt B W0 M N v u w' :=
  ⟨owns_below h.m hb, owns_below h.n hb, h.ne, h.b.trans (hb.mono hB)⟩
theorem TwoAt.push {B : Nat} {W0 : World} {M N : List Cond} {v v' u : Value} {w w1 : World} {o : Obj} {x : Cond} (h : TwoAt B W0 M N v u w) (hB : B ≤ w.heap.size)
    (ho : w1.ownsRow B 44 5 v' (M.length + 1) (M.flatMap condEnc ++ condEnc x)) (hg : (w.alloc o).grownBy w1 v.ownBlock) (hat : v'.ownBlock = v.ownBlock ∨ v'.ownBlock = some (w.alloc o).heap.size) :
    TwoAt B W0 (M ++ [x]) N v' u w1 := by
  have hne : u.ownBlock = none ∨ u.ownBlock ≠ v.ownBlock := by
    cases hu : u.ownBlock with
    | none => exact Or.inl rfl
    | some k => exact Or.inr fun e => h.ne k e.symm hu
  refine ⟨by simpa using ho, (h.n.alloc o).kept hg hne, fun k hk hu => ?_, (h.b.alloc hB o).grown hg (by simp; omega) (fun k hk => (h.m.lt k hk).1)⟩
  rcases hat with e | e
  · exact h.ne k (e ▸ hk) hu
  · rw [e] at hk
    cases hk
    have := (h.n.lt _ hu).2
    simp at this
    omega
theorem mine_take (T : Tab) (own : Bool) (L : List Cond) (k : Nat) (h : k < L.length) : mineOf T own (L.take (k + 1)) = mineOf T own (L.take k) ++ (if decide (0 ≤ colOf T L[k].col) == own then [L[k]] else []) := by
  unfold mineOf
  rw [List.take_add_one, List.getElem?_eq_getElem h, List.filter_append]
  simp [List.filter_cons]
theorem mine_len (T : Tab) (own : Bool) (L : List Cond) : (mineOf T own L).length ≤ L.length := List.length_filter_le _ _
theorem TwoAt.rows {B : Nat} {W0 : World} {M N : List Cond} {v u : Value} {w : World} (h : TwoAt B W0 M N v u w) (hM : M.length ≤ 140737488355328) (hN : N.length ≤ 140737488355328) :
    (∃ a c, v = .slice a M.length c ∧ SlV condR (fun k => B ≤ k) w (.slice a M.length c) M) ∧ (∃ a c, u = .slice a N.length c ∧ SlV condR (fun k => B ≤ k) w (.slice a N.length c) N) := by
  obtain ⟨a, c, rfl, h1, h2, _⟩ := RowAt.of_owns_flat (enc := condEnc) (sz := 5) (hl := fun _ => rfl) (p := fun k => B ≤ k) h.m (fun k h => h)
  obtain ⟨a', c', rfl, h3, h4, _⟩ := RowAt.of_owns_flat (enc := condEnc) (sz := 5) (hl := fun _ => rfl) (p := fun k => B ≤ k) h.n (fun k h => h)
  exact ⟨⟨a, c, rfl, a, c, rfl, h1, hM, h2⟩, ⟨a', c', rfl, a', c', rfl, h3, hN, h4⟩⟩
end Go.Proofs.YtajlngkakpjncaaDoor
