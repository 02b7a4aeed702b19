/- PlanOrder: conditions on different columns, in whatever order. -/
import Derived.Test.YtajlngkakpjncaaDoorRTable
namespace Go.Proofs.YtajlngkakpjncaaDoor
set_option linter.unusedVariables false
set_option linter.unusedSimpArgs false
open Go.RowKit

/-- at most one element is found, so the order does not matter -/
theorem find_unique {α : Type} {p : α → Bool} {L : List α} {x : α} (hx : x ∈ L) (hp : p x = true) (hu : ∀ y ∈ L, p y = true → y = x) : L.find? p = some x := by
  cases h : L.find? p with
  | none => exact absurd hp (by simpa using List.find?_eq_none.1 h x hx)
  | some y => rw [hu y (List.mem_of_find?_eq_some h) (List.find?_some h)]
theorem find_same {α : Type} {p : α → Bool} {L M : List α} (hm : ∀ x, x ∈ L ↔ x ∈ M) (hu : ∀ x ∈ L, ∀ y ∈ L, p x = true → p y = true → y = x) : L.find? p = M.find? p := by
  cases h : L.find? p with
  | none =>
    symm
    rw [List.find?_eq_none]
    intro x hx
    exact List.find?_eq_none.1 h x ((hm x).2 hx)
  | some x =>
    have h1 := List.mem_of_find?_eq_some h
    have h2 := List.find?_some h
    exact (find_unique ((hm x).1 h1) h2 fun y hy hp => hu x h1 y ((hm y).2 hy) h2 hp).symm
theorem idxGo_same {T : Tab} {S : Sta} {W W' : List Cond} (h : ∀ name ops, condF W name ops = condF W' name ops) : ∀ (cs : List Int) (p : List UInt8) (r : Int), idxGo T S W cs p r = idxGo T S W' cs p r
  | [], _, _ => rfl
  | c :: cs, p, r => by
    rw [idxGo, idxGo]
    split
    · rfl
    · rw [h]
      split
      · exact idxGo_same h cs _ _
      · unfold idxEnd
        rw [h, h]
theorem ways_same {T : Tab} {S : Sta} {W W' : List Cond} (h : ∀ name ops, condF W name ops = condF W' name ops) : waysOf T S W = waysOf T S W' := by
  unfold waysOf
  congr 1
  apply List.map_congr_left
  intro n _
  unfold byIdx
  rw [idxGo_same h]
theorem oneS_inj {a b : Int} (ha : 0 ≤ a ∧ a ≤ 255) (hb : 0 ≤ b ∧ b ≤ 255) (h : oneS a = oneS b) : a = b := by
  unfold oneS at h
  simp only [ByteArray.mk.injEq, Array.mk.injEq, List.cons.injEq, and_true] at h
  have := congrArg UInt8.toNat h
  rw [UInt8.toNat_ofNat', UInt8.toNat_ofNat'] at this
  omega
def restV (x : Int) : Int := x % 6
/-- the condition of a column -/
def ordOne (T : Tab) (V : List Int) (i : Nat) : Cond := ⟨(T.cols.getD i default).1, 1 + restV (V.getD i 0), valOf ((V.getD i 0).tdiv 6)⟩
def ordTo (T : Tab) (V : List Int) (k : Nat) : List Cond := (List.range k).map (ordOne T V)
theorem ordTo_succ (T : Tab) (V : List Int) (k : Nat) : ordTo T V (k + 1) = ordTo T V k ++ [ordOne T V k] := by
  unfold ordTo; rw [List.range_succ, List.map_append]; rfl
theorem ordTo_len (T : Tab) (V : List Int) (k : Nat) : (ordTo T V k).length = k := by simp [ordTo]
def stmtO (T : Tab) (W : List Cond) : Stmt := { stmt0 with kind := 7, table := ⟨#[116]⟩, names := [(T.cols.getD 0 default).1], wher := W }
theorem col_in {T : Tab} {i : Nat} (hi : i < T.cols.length) : 0 ≤ colOf T (T.cols.getD i default).1 := by
  unfold colOf
  rcases Int.lt_or_le (idxOf (fun c => sEq c.1 (T.cols.getD i default).1) T.cols) 0 with h | h
  · have := idxOf_neg _ _ h T.cols[i] (List.getElem_mem hi)
    rw [List.getD_eq_getElem?_getD, List.getElem?_eq_getElem hi] at this
    exact absurd ((sEq_iff _ _).2 rfl) (by simpa using this)
  · exact h
theorem plan_ord {o : Bool} {T : Tab} (hG : GoodT o T) (S : Sta) (V : List Int) (n : Nat) (hn : n ≤ T.cols.length) (k : Nat) :
    planOf T tab0 S sta0 (stmtO T ((ordTo T V n).drop k ++ (ordTo T V n).take k)) = planOf T tab0 S sta0 (stmtO T (ordTo T V n)) ∧ (planOf T tab0 S sta0 (stmtO T (ordTo T V n))).2 = 0 := by
  have hmem : ∀ x, x ∈ (ordTo T V n).drop k ++ (ordTo T V n).take k ↔ x ∈ ordTo T V n := fun x => by
    rw [List.mem_append, or_comm, ← List.mem_append, List.take_append_drop]
  have hcol : ∀ x ∈ ordTo T V n, 0 ≤ colOf T x.col := fun x hx => by
    simp only [ordTo, List.mem_map, List.mem_range] at hx
    obtain ⟨i, hi, rfl⟩ := hx
    exact col_in (by omega)
  have key : ∀ W : List Cond, (∀ x, x ∈ W ↔ x ∈ ordTo T V n) → planOf T tab0 S sta0 (stmtO T W) = (⟨bestOf (waysOf T S (ordTo T V n)), way0, false, (bestOf (waysOf T S (ordTo T V n))).cost⟩, 0) := by
    intro W hW
    have h1 : badN T tab0 (stmtO T W) = false := by
      unfold badN
      rw [show twoOf (stmtO T W) = false by kernel_rfl, Bool.false_and, Bool.or_false, List.any_eq_false]
      intro x hx
      have hx' : x = (T.cols.getD 0 default).1 ∨ x ∈ W.map (·.col) := by simpa [namesOf, stmtO, stmt0] using hx
      have : 0 ≤ colOf T x := by
        rcases hx' with rfl | h
        · exact col_in hG.c0
        · obtain ⟨c, hc, rfl⟩ := List.mem_map.1 h
          exact hcol c ((hW c).1 hc)
      unfold strangeB
      simp
      omega
    rw [planOf_one (by kernel_rfl) h1 (by kernel_rfl)]
    have h2 : mineOf T true (stmtO T W).wher = W := by
      unfold mineOf
      refine List.filter_eq_self.2 fun c hc => ?_
      have := hcol c ((hW c).1 hc)
      simpa using this
    rw [h2, ways_same (W := W) (W' := ordTo T V n) fun name ops => by
      unfold condF
      congr 1
      refine find_same hW fun x hx y hy hpx hpy => ?_
      have e1 : x.col = name := by simp only [condOn, Bool.and_eq_true] at hpx; exact (sEq_iff _ _).1 hpx.1.1.1
      have e2 : y.col = name := by simp only [condOn, Bool.and_eq_true] at hpy; exact (sEq_iff _ _).1 hpy.1.1.1
      have hx' := (hW x).1 hx
      have hy' := (hW y).1 hy
      simp only [ordTo, List.mem_map, List.mem_range] at hx' hy'
      obtain ⟨i, hi, rfl⟩ := hx'
      obtain ⟨j, hj, rfl⟩ := hy'
      have hi' : i < T.cols.length := by omega
      have hj' : j < T.cols.length := by omega
      have e3 : T.cols[i].1 = T.cols[j].1 := by
        have : (T.cols.getD i default).1 = (T.cols.getD j default).1 := e1.trans e2.symm
        simpa [List.getD_eq_getElem?_getD, List.getElem?_eq_getElem hi', List.getElem?_eq_getElem hj'] using this
      rw [hG.name i hi', hG.name j hj'] at e3
      have hb : baseC o = 97 ∨ baseC o = 99 := by unfold baseC; split <;> simp
      have h6 := hG.c1
      have := oneS_inj (by omega) (by omega) e3
      obtain rfl : j = i := by omega
      rfl]
  exact ⟨(key _ hmem).trans (key _ fun _ => Iff.rfl).symm, by rw [key _ fun _ => Iff.rfl]⟩
end Go.Proofs.YtajlngkakpjncaaDoor
