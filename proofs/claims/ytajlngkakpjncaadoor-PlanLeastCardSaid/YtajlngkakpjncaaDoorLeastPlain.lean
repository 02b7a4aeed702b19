/- PlanLeast: the plan of a single table, and the conditions on its columns: plain, no program in sight. -/
import Derived.Test.YtajlngkakpjncaaDoorCov
namespace Go.Proofs.YtajlngkakpjncaaDoor
set_option linter.unusedVariables false
set_option linter.unusedSimpArgs false
open Go

def stmtL (W : List Cond) : Stmt := { stmt0 with kind := 6, table := ⟨#[116]⟩, wher := W }
theorem plan_least (T : Tab) (S : Sta) (W : List Cond) (hW : ∀ c ∈ W, 0 ≤ colOf T c.col) :
    planOf T tab0 S sta0 (stmtL W) = (⟨bestOf (waysOf T S W), way0, false, (bestOf (waysOf T S W)).cost⟩, 0) := by
  have h1 : badN T tab0 (stmtL W) = false := by
    unfold badN
    rw [show twoOf (stmtL W) = false by kernel_rfl, Bool.false_and, Bool.or_false, List.any_eq_false]
    intro x hx
    have hx' : x ∈ W.map (·.col) := by simpa [namesOf, stmtL, stmt0] using hx
    have : 0 ≤ colOf T x := by
      obtain ⟨c, hc, rfl⟩ := List.mem_map.1 hx'
      exact hW c hc
    unfold strangeB
    simp
    omega
  rw [planOf_one (by kernel_rfl) h1 (by kernel_rfl)]
  have h2 : mineOf T true (stmtL W).wher = W := by
    unfold mineOf
    refine List.filter_eq_self.2 fun c hc => ?_
    have := hW c hc
    simpa using this
  rw [h2]
theorem bestGo_in : ∀ (m : Way) (L : List Way), bestGo m L = m ∨ bestGo m L ∈ L
  | m, [] => Or.inl rfl
  | m, x :: L => by
    rw [bestGo]
    rcases bestGo_in (if x.cost < m.cost then x else m) L with h | h
    · rw [h]
      split
      · exact Or.inr (List.mem_cons_self ..)
      · exact Or.inl rfl
    · exact Or.inr (List.mem_cons_of_mem _ h)
theorem bestGo_min : ∀ (m : Way) (L : List Way), (bestGo m L).cost ≤ m.cost ∧ ∀ x ∈ L, (bestGo m L).cost ≤ x.cost
  | m, [] => ⟨Int.le_refl _, fun x hx => by cases hx⟩
  | m, x :: L => by
    rw [bestGo]
    obtain ⟨h1, h2⟩ := bestGo_min (if x.cost < m.cost then x else m) L
    have h3 : (if x.cost < m.cost then x else m).cost ≤ m.cost ∧ (if x.cost < m.cost then x else m).cost ≤ x.cost := by split <;> omega
    refine ⟨by omega, fun y hy => ?_⟩
    rcases List.mem_cons.1 hy with rfl | hy
    · omega
    · exact h2 y hy
theorem bestOf_ways (T : Tab) (S : Sta) (W : List Cond) : bestOf (waysOf T S W) ∈ waysOf T S W ∧ ∀ x ∈ waysOf T S W, (bestOf (waysOf T S W)).cost ≤ x.cost := by
  show bestGo (scanOf S) ((List.range T.idx.length).map (byIdx T S W)) ∈ scanOf S :: (List.range T.idx.length).map (byIdx T S W) ∧ ∀ x ∈ scanOf S :: (List.range T.idx.length).map (byIdx T S W), (bestGo (scanOf S) ((List.range T.idx.length).map (byIdx T S W))).cost ≤ x.cost
  obtain ⟨h1, h2⟩ := bestGo_min (scanOf S) ((List.range T.idx.length).map (byIdx T S W))
  refine ⟨?_, fun x hx => ?_⟩
  · rcases bestGo_in (scanOf S) ((List.range T.idx.length).map (byIdx T S W)) with h | h
    · rw [h]; exact List.mem_cons_self ..
    · exact List.mem_cons_of_mem _ h
  · rcases List.mem_cons.1 hx with rfl | hx
    · exact h1
    · exact h2 x hx

/-- the conditions on the table's own columns -/
def leastC (T : Tab) (W : List Cond) : List Cond := W.filter fun c => decide (0 ≤ colOf T c.col)
/-- what the inner loop has added after k columns -/
def leastIn (T : Tab) (c : Cond) (k : Nat) : List Cond := if 0 ≤ colOf T c.col ∧ colOf T c.col < k then [c] else []
theorem leastIn_zero (T : Tab) (c : Cond) : leastIn T c 0 = [] := by unfold leastIn; rw [if_neg (by omega)]
theorem leastIn_all (T : Tab) (c : Cond) : leastIn T c T.cols.length = if 0 ≤ colOf T c.col then [c] else [] := by
  have := (idxOf_bd (fun x : ByteArray × Int => sEq x.1 c.col) T.cols).2
  unfold leastIn
  by_cases h : 0 ≤ colOf T c.col
  · rw [if_pos ⟨h, this⟩, if_pos h]
  · rw [if_neg (fun x => h x.1), if_neg h]
theorem leastC_take (T : Tab) (W : List Cond) (i : Nat) (h : i < W.length) : leastC T (W.take (i + 1)) = leastC T (W.take i) ++ leastIn T W[i] T.cols.length := by
  rw [leastIn_all, List.take_succ_eq_append_getElem h]
  unfold leastC
  rw [List.filter_append]
  congr 1
  by_cases h2 : 0 ≤ colOf T W[i].col <;> simp [h2]
theorem leastIn_succ {T : Tab} (hG : GoodT false T) (c : Cond) (k : Nat) (hk : k < T.cols.length) :
    leastIn T c (k + 1) = leastIn T c k ++ (if sEq T.cols[k].1 c.col then [c] else []) := by
  have hcol := (row_ok hG []).col k (by omega) (by omega)
  have hnm : nameAt T k = T.cols[k].1 := by
    unfold nameAt
    rw [Int.toNat_natCast, List.getD_eq_getElem?_getD, List.getElem?_eq_getElem hk]
    rfl
  rw [hnm] at hcol
  unfold leastIn
  by_cases he : sEq T.cols[k].1 c.col = true
  · have e := (sEq_iff _ _).1 he
    rw [e] at hcol
    rw [he, hcol, if_pos (by omega), if_neg (by omega)]
    rfl
  · have hne : colOf T c.col ≠ k := by
      intro e
      obtain ⟨i, hi, h1, h2, _⟩ := idxOf_spec (fun x : ByteArray × Int => sEq x.1 c.col) T.cols (by unfold colOf at e; omega)
      unfold colOf at e
      have : i = k := by omega
      subst this
      exact he h2
    rw [if_neg he, List.append_nil]
    by_cases h : 0 ≤ colOf T c.col ∧ colOf T c.col < k
    · rw [if_pos h, if_pos (by omega)]
    · rw [if_neg h, if_neg (by omega)]
end Go.Proofs.YtajlngkakpjncaaDoor
