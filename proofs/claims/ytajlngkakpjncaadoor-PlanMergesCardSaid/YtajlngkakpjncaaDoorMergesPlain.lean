/- PlanMerges: what plan.Plan answers at the law's tables; the bits of a number. -/
import Derived.Test.YtajlngkakpjncaaDoorMake
namespace Go.Proofs.YtajlngkakpjncaaDoor
set_option linter.unusedVariables false
open Go.RowKit

def tabM (k1 : Int) (b2 : Bool) : Tab := ⟨0, ⟨#[116]⟩, [(⟨#[97]⟩, 1 + k1), (⟨#[98]⟩, 2)], if b2 then [⟨⟨#[105]⟩, [0], 0⟩] else []⟩
def tabN (b4 : Bool) : Tab := ⟨0, ⟨#[117]⟩, [(⟨#[99]⟩, 1), (⟨#[100]⟩, 2)], if b4 then [⟨⟨#[106]⟩, [0, 1], 0⟩] else []⟩
def stmtM : Stmt := { stmt0 with kind := 7, names := [⟨#[98]⟩, ⟨#[100]⟩], join := ⟨#[117]⟩, left := ⟨#[97]⟩, right := ⟨#[99]⟩ }
def probeM (b4 : Bool) (n m v : Int) : Int := if b4 then 1 + n + n * (3 + 2 * ((m + v - 1) / v)) else 1 + n + n * (1 + m)
def mergeM (n m : Int) : Int := 3 + 2 * n + 3 + 2 * m
def mayM (k1 : Int) (b2 b4 : Bool) (n m v : Int) : Bool := decide (k1 = 0) && b2 && b4 && decide (mergeM n m < probeM b4 n m v)

theorem way_M (k1 : Int) (b2 : Bool) (S : Sta) : waysOf (tabM k1 b2) S [] = scanOf S :: (if b2 then [byIdx (tabM k1 true) S [] 0] else []) := by
  cases b2 <;> rfl
theorem way_N (b4 : Bool) (S : Sta) : waysOf (tabN b4) S [] = scanOf S :: (if b4 then [byIdx (tabN true) S [] 0] else []) := by
  cases b4 <;> rfl
theorem cost_M (k1 : Int) (S : Sta) : (byIdx (tabM k1 true) S [] 0).cost = 3 + 2 * rowsOf S := by kernel_rfl
theorem cost_N (S : Sta) : (byIdx (tabN true) S [] 0).cost = 3 + 2 * rowsOf S := by kernel_rfl
theorem idx_N (S : Sta) : (byIdx (tabN true) S [] 0).index = 0 := by kernel_rfl
theorem led_M (k1 : Int) (b2 : Bool) : ledOf (tabM k1 b2) (colOf (tabM k1 b2) stmtM.left) = if b2 then 0 else -1 := by
  cases b2 <;> kernel_rfl
theorem led_N (b4 : Bool) : ledOf (tabN b4) (colOf (tabN b4) stmtM.right) = if b4 then 0 else -1 := by
  cases b4 <;> kernel_rfl
theorem col_M (k1 : Int) (b2 : Bool) : colOf (tabM k1 b2) stmtM.left = 0 := by kernel_rfl
theorem col_N (b4 : Bool) : colOf (tabN b4) stmtM.right = 0 := by kernel_rfl
theorem left_M (m v : Int) (hv : 1 ≤ v ∧ v ≤ 50) : leftOf m ⟨m, [v, v]⟩ 0 = (m + v - 1) / v := by
  have : valsOf ⟨m, [v, v]⟩ 0 = v := by unfold valsOf clampI; simp; omega
  unfold leftOf
  rw [this]
theorem plan_M (k1 n m v : Int) (b2 b4 : Bool) (hn : 0 ≤ n ∧ n < 500) (hm : 0 ≤ m ∧ m < 500) (hv : 1 ≤ v ∧ v ≤ 50) (hk : k1 = 0 ∨ k1 = 1) :
    ∃ P, planOf (tabM k1 b2) (tabN b4) ⟨n, [v, v]⟩ ⟨m, [v, v]⟩ stmtM = (P, 0) ∧ P.cost = (if mayM k1 b2 b4 n m v then mergeM n m else probeM b4 n m v) ∧ P.merge = mayM k1 b2 b4 n m v ∧ decide (0 ≤ P.join.index) = b4 := by
  have hr1 : rowsOf ⟨n, [v, v]⟩ = n := by unfold rowsOf clampI; simp only; omega
  have hr2 : rowsOf ⟨m, [v, v]⟩ = m := by unfold rowsOf clampI; simp only; omega
  have hb : bestOf (waysOf (tabM k1 b2) ⟨n, [v, v]⟩ []) = scanOf ⟨n, [v, v]⟩ := by
    rw [way_M]
    cases b2
    · rfl
    · show (if (byIdx (tabM k1 true) ⟨n, [v, v]⟩ [] 0).cost < (scanOf ⟨n, [v, v]⟩).cost then _ else _) = _
      rw [cost_M, hr1, if_neg (by simp only [scanOf, hr1]; omega)]
  have hp : probeOf (tabN b4) ⟨m, [v, v]⟩ (colOf (tabN b4) stmtM.right) = if b4 then ⟨0, noStr, noStr, 3 + 2 * ((m + v - 1) / v)⟩ else scanOf ⟨m, [v, v]⟩ := by
    unfold probeOf
    rw [led_N, col_N, hr2, left_M m v hv]
    cases b4 <;> rfl
  have hmg : mrgB (tabM k1 b2) (tabN b4) stmtM = (decide (k1 = 0) && b2 && b4) := by
    unfold mrgB
    rw [led_M, led_N, col_M, col_N]
    have e1 : ((tabM k1 b2).cols.getD (0 : Int).toNat default).2 = 1 + k1 := rfl
    have e2 : ((tabN b4).cols.getD (0 : Int).toNat default).2 = 1 := rfl
    rw [e1, e2]
    rcases hk with rfl | rfl <;> cases b2 <;> cases b4 <;> rfl
  have h2 := planOf_two (T := tabM k1 b2) (U := tabN b4) (a := ⟨n, [v, v]⟩) (b := ⟨m, [v, v]⟩) (s := stmtM) (by kernel_rfl) (by kernel_rfl) (by kernel_rfl)
  rw [show mineOf (tabM k1 b2) true stmtM.wher = [] from rfl, show mineOf (tabM k1 b2) false stmtM.wher = [] from rfl, hb, hp, hmg, led_M, led_N, way_M, way_N] at h2
  rw [h2]
  have hsc : (scanOf ⟨n, [v, v]⟩).cost = 1 + n := by simp only [scanOf, hr1]
  have hsm : (scanOf ⟨m, [v, v]⟩).cost = 1 + m := by simp only [scanOf, hr2]
  have hc1 := cost_M k1 ⟨n, [v, v]⟩
  have hc2 := cost_N ⟨m, [v, v]⟩
  have hi2 := idx_N ⟨m, [v, v]⟩
  rw [hr1] at hc1
  rw [hr2] at hc2
  generalize byIdx (tabM k1 true) ⟨n, [v, v]⟩ [] 0 = x at *
  generalize byIdx (tabN true) ⟨m, [v, v]⟩ [] 0 = y at *
  cases b2 <;> cases b4
  · rw [if_neg (by simp)]
    refine ⟨_, rfl, ?_, ?_, ?_⟩ <;> simp [mayM, nestP, probeM, hsc, hsm, hr1, scanOf, hr2]
  · rw [if_neg (by simp)]
    refine ⟨_, rfl, ?_, ?_, ?_⟩ <;> simp [mayM, nestP, probeM, hsc, hsm, hr1]
  · rw [if_neg (by simp)]
    refine ⟨_, rfl, ?_, ?_, ?_⟩ <;> simp [mayM, nestP, probeM, hsc, hsm, hr1, scanOf, hr2]
  · rcases hk with rfl | rfl
    · have e : ∀ (z : Way), ([z, x] : List Way).getD ((0 : Int) + 1).toNat default = x := fun _ => rfl
      have e' : ∀ (z : Way), ([z, y] : List Way).getD ((0 : Int) + 1).toNat default = y := fun _ => rfl
      simp only [decide_true, Bool.true_and, if_true, e, e', hc1, hc2]
      by_cases hlt : 3 + 2 * n + (3 + 2 * m) < 1 + n + n * (3 + 2 * ((m + v - 1) / v))
      · rw [if_pos (by simpa [nestP, hsc, hr1] using hlt)]
        have hM : mayM 0 true true n m v = true := by simp [mayM, probeM, mergeM]; omega
        rw [hM]
        exact ⟨_, rfl, by simp [mergeM]; omega, rfl, by simp [hi2]⟩
      · rw [if_neg (by simpa [nestP, hsc, hr1] using hlt)]
        have hM : mayM 0 true true n m v = false := by simp [mayM, probeM, mergeM]; omega
        rw [hM]
        exact ⟨_, rfl, by simp [nestP, probeM, hsc, hr1], rfl, by simp [nestP]⟩
    · rw [if_neg (by simp)]
      refine ⟨_, rfl, ?_, ?_, ?_⟩ <;> simp [mayM, nestP, probeM, hsc, hsm, hr1]

theorem bits_low (x : Int) (c : Nat) (hc : c < 8) : bits .and .i64 x c = ((((BitVec.ofInt 64 x).toNat % 8) &&& c : Nat) : Int) := by
  have h1 : (BitVec.ofInt 64 (c : Int)).toNat = c := by
    rw [BitVec.toNat_ofInt]
    omega
  have h2 : (BitVec.ofInt 64 x).toNat &&& c = (BitVec.ofInt 64 x).toNat % 8 &&& c := by
    have e : c = 7 &&& c := by
      have := Nat.and_two_pow_sub_one_eq_mod c 3
      rw [Nat.and_comm]
      simp at this
      omega
    have e7 : (BitVec.ofInt 64 x).toNat % 8 = (BitVec.ofInt 64 x).toNat &&& 7 := (Nat.and_two_pow_sub_one_eq_mod _ 3).symm
    rw [e7, Nat.and_assoc, ← e]
  unfold bits
  simp only [BitVec.toNat_and]
  rw [show IntKind.i64.bits = 64 from rfl, h1, h2]
  have h3 : (BitVec.ofInt 64 x).toNat % 8 &&& c ≤ c := Nat.and_le_right
  rw [IntKind.wrap_i64]
  omega
theorem and_bits (x : Int) : ∃ k1 k2 k4 : Int, bits .and .i64 x 1 = k1 ∧ bits .and .i64 x 2 = k2 ∧ bits .and .i64 x 4 = k4 ∧ bits .and .i64 x 7 = k1 + k2 + k4 ∧ (k1 = 0 ∨ k1 = 1) ∧ (k2 = 0 ∨ k2 = 2) ∧ (k4 = 0 ∨ k4 = 4) := by
  have h1 := bits_low x 1 (by decide)
  have h2 := bits_low x 2 (by decide)
  have h4 := bits_low x 4 (by decide)
  have h7 := bits_low x 7 (by decide)
  have hlt : (BitVec.ofInt 64 x).toNat % 8 < 8 := Nat.mod_lt _ (by decide)
  generalize (BitVec.ofInt 64 x).toNat % 8 = t at *
  refine ⟨_, _, _, h1, h2, h4, ?_, ?_⟩
  · rw [show ((7 : Nat) : Int) = 7 from rfl] at h7
    rw [h7]
    match t, hlt with
    | 0, _ => rfl
    | 1, _ => rfl
    | 2, _ => rfl
    | 3, _ => rfl
    | 4, _ => rfl
    | 5, _ => rfl
    | 6, _ => rfl
    | 7, _ => rfl
  · match t, hlt with
    | 0, _ => decide
    | 1, _ => decide
    | 2, _ => decide
    | 3, _ => decide
    | 4, _ => decide
    | 5, _ => decide
    | 6, _ => decide
    | 7, _ => decide
end Go.Proofs.YtajlngkakpjncaaDoor
