/- PlanCounts: more distinct values never raise the cost of an access path: plain, no program in sight. -/
import Derived.Test.YtajlngkakpjncaaDoorZP18
namespace Go.Proofs.YtajlngkakpjncaaDoor
set_option linter.unusedVariables false
set_option linter.unusedSimpArgs false
open Go

theorem ceil_mono {n m v v' : Int} (hnm : n ≤ m) (h0 : 0 ≤ n) (h1 : 1 ≤ v) (h2 : v ≤ v') : (n + v' - 1) / v' ≤ (m + v - 1) / v := by
  have e := Int.mul_ediv_add_emod (m + v - 1) v
  have r := Int.emod_lt_of_pos (m + v - 1) (show 0 < v by omega)
  have q0 : 0 ≤ (m + v - 1) / v := Int.ediv_nonneg (by omega) (by omega)
  generalize (m + v - 1) / v = q at *
  have hm : m ≤ v * q := by omega
  have hq : v * q ≤ v' * q := Int.mul_le_mul_of_nonneg_right h2 q0
  have : (n + v' - 1) / v' < q + 1 := Int.ediv_lt_of_lt_mul (by omega) (by rw [Int.add_mul, Int.one_mul, Int.mul_comm q]; omega)
  omega
theorem leftOf_mono {n m : Int} {S S' : Sta} (c : Int) (h0 : 0 ≤ n) (hnm : n ≤ m) (hv : ∀ c, valsOf S c ≤ valsOf S' c) : leftOf n S' c ≤ leftOf m S c :=
  ceil_mono hnm h0 (valsOf_bd S c).1 (hv c)
theorem third_mono {n m : Int} (h : n ≤ m) : (n + 2) / 3 ≤ (m + 2) / 3 := Int.ediv_le_ediv (by decide) (by omega)
theorem idxEnd_mono (W : List Cond) (name : ByteArray) (p : List UInt8) {n m : Int} (h : n ≤ m) :
    (idxEnd W name p n).pre = (idxEnd W name p m).pre ∧ (idxEnd W name p n).lo = (idxEnd W name p m).lo ∧ (idxEnd W name p n).hi = (idxEnd W name p m).hi ∧ (idxEnd W name p n).rest ≤ (idxEnd W name p m).rest := by
  unfold idxEnd
  refine ⟨rfl, rfl, rfl, ?_⟩
  simp only
  have h1 := third_mono h
  have h2 := third_mono h1
  split <;> split <;> assumption
theorem idxGo_mono (T : Tab) {S S' : Sta} (W : List Cond) (hv : ∀ c, valsOf S c ≤ valsOf S' c) : ∀ (cs : List Int) (p : List UInt8) (n m : Int), 0 ≤ n → n ≤ m → m ≤ 1000000 →
    (idxGo T S' W cs p n).pre = (idxGo T S W cs p m).pre ∧ (idxGo T S' W cs p n).lo = (idxGo T S W cs p m).lo ∧ (idxGo T S' W cs p n).hi = (idxGo T S W cs p m).hi ∧ (idxGo T S' W cs p n).rest ≤ (idxGo T S W cs p m).rest
  | [], p, n, m, _, h, _ => ⟨rfl, rfl, rfl, h⟩
  | c :: cs, p, n, m, h0, h, hm => by
    rw [idxGo, idxGo]
    by_cases hc : c < 0 ∨ (T.cols.length : Int) ≤ c
    · rw [if_pos hc, if_pos hc]
      exact ⟨rfl, rfl, rfl, h⟩
    · rw [if_neg hc, if_neg hc]
      cases condF W (nameAt T c) [1] with
      | some v =>
        have h1 := leftOf_bd n S' c h0 (by omega)
        have h2 := leftOf_bd m S c (by omega) hm
        exact idxGo_mono T W hv cs _ _ _ h1.1 (leftOf_mono c h0 h hv) h2.2
      | none => exact idxEnd_mono W _ p h
/-- statistics with the same rows and no fewer values -/
structure More (S S' : Sta) : Prop where
  rows : S'.rows = S.rows
  len : S'.vals.length = S.vals.length
  le : ∀ i (h : i < S.vals.length), S.vals[i] ≤ S'.vals[i]'(by rw [len]; exact h)
theorem More.vals {S S' : Sta} (h : More S S') (c : Int) : valsOf S c ≤ valsOf S' c := by
  unfold valsOf
  rw [h.len]
  by_cases hc : c < S.vals.length
  · rw [if_pos hc, if_pos hc]
    have : S.vals.getD c.toNat 0 ≤ S'.vals.getD c.toNat 0 := by
      rw [List.getD_eq_getElem?_getD, List.getD_eq_getElem?_getD]
      by_cases hk : c.toNat < S.vals.length
      · rw [List.getElem?_eq_getElem hk, List.getElem?_eq_getElem (by rw [h.len]; exact hk)]
        exact h.le _ hk
      · rw [List.getElem?_eq_none (by omega), List.getElem?_eq_none (by rw [h.len]; omega)]
        exact Int.le_refl _
    unfold clampI
    omega
  · rw [if_neg hc, if_neg hc]
    exact Int.le_refl _
/-- an access path as before, at no higher cost -/
structure NoMore (x y : Way) : Prop where
  index : y.index = x.index
  lo : y.lo = x.lo
  hi : y.hi = x.hi
  cost : y.cost ≤ x.cost
theorem ways_more (T : Tab) {S S' : Sta} (W : List Cond) (h : More S S') : (waysOf T S' W).length = (waysOf T S W).length ∧ ∀ i (h1 : i < (waysOf T S W).length) (h2 : i < (waysOf T S' W).length), NoMore (waysOf T S W)[i] (waysOf T S' W)[i] := by
  have hl : (waysOf T S' W).length = (waysOf T S W).length := by simp [waysOf]
  have hr : rowsOf S' = rowsOf S := by unfold rowsOf; rw [h.rows]
  refine ⟨hl, fun i h1 h2 => ?_⟩
  cases i with
  | zero =>
    show NoMore (scanOf S) (scanOf S')
    exact ⟨rfl, rfl, rfl, by simp only [scanOf, hr]; exact Int.le_refl _⟩
  | succ i =>
    have e1 : (waysOf T S W)[i + 1] = byIdx T S W i := by simp [waysOf]
    have e2 : (waysOf T S' W)[i + 1] = byIdx T S' W i := by simp [waysOf]
    rw [e1, e2]
    have hb := rowsOf_bd S
    obtain ⟨g1, g2, g3, g4⟩ := idxGo_mono T W h.vals (T.idx.getD i default).cols [] (rowsOf S) (rowsOf S) hb.1 (Int.le_refl _) hb.2
    refine ⟨rfl, ?_, ?_, ?_⟩
    · simp only [byIdx, hr]; rw [g1, g2]
    · simp only [byIdx, hr]; rw [g1, g3]
    · simp only [byIdx, hr]; omega
theorem ways_first (T : Tab) (S : Sta) (W : List Cond) (h : 0 ≤ S.rows ∧ S.rows ≤ 1000000) : ((waysOf T S W).getD 0 way0).cost = 1 + S.rows := by
  show 1 + rowsOf S = 1 + S.rows
  unfold rowsOf clampI
  omega
end Go.Proofs.YtajlngkakpjncaaDoor
