/- PlanBounds: the access path of a range of integers covers exactly the integers of the range: plain, no program in sight. -/
import Derived.Test.YtajlngkakpjncaaDoorFitsPlain
namespace Go.Proofs.YtajlngkakpjncaaDoor
set_option linter.unusedVariables false
set_option linter.unusedSimpArgs false
open Go

theorem leB_num (a b : Int) (h0 : 0 ≤ a) (h1 : a < 256 ^ 8) (h2 : 0 ≤ b) (h3 : b < 256 ^ 8) : leB (be 8 a) (be 8 b) = decide (a ≤ b) := by
  by_cases h : a ≤ b
  · rw [be_le 8 a b h0 h h3]; simp [h]
  · have h4 := be_le 8 b a h2 (by omega) h1
    cases h5 : leB (be 8 a) (be 8 b)
    · simp; omega
    · have := be_le.be_inj 0 0 0 8 a b h0 h1 h2 h3 (leB_antisymm _ _ h5 h4)
      omega
theorem leB_or (k hi : List UInt8) : (Op.bytesLess k hi || k == hi) = leB k hi := by
  cases h : leB k hi
  · have h1 : Op.bytesLess hi k = true := by unfold leB at h; simpa using h
    cases h2 : Op.bytesLess k hi
    · have h3 : leB hi k = true := by unfold leB; rw [h2]; rfl
      by_cases e : k = hi
      · subst e; rw [h3] at h; cases h
      · simpa using e
    · have : leB hi k = false := by unfold leB; rw [h2]; rfl
      exfalso
      have e1 : ∀ a b : List UInt8, Op.bytesLess a b = true → Op.bytesLess b a = true → False := by
        intro a
        induction a with
        | nil => intro b h1 h2; cases b <;> simp [Op.bytesLess] at h1 h2
        | cons c x ih =>
          intro b h1 h2
          cases b with
          | nil => simp [Op.bytesLess] at h1
          | cons d y =>
            rw [Op.bytesLess] at h1 h2
            simp only [Bool.or_eq_true, decide_eq_true_eq, Bool.and_eq_true, beq_iff_eq] at h1 h2
            rcases h1 with h1 | ⟨rfl, h1⟩
            · rcases h2 with h2 | ⟨rfl, h2⟩
              · exact UInt8.lt_asymm h1 h2
              · exact UInt8.lt_irrefl _ h1
            · rcases h2 with h2 | ⟨_, h2⟩
              · exact UInt8.lt_irrefl _ h2
              · exact ih y h1 h2
      exact e1 _ _ h1 h2
  · exact le_less _ _ h
theorem within_num {k lo hi : List UInt8} (h : k.length = hi.length) : within k lo hi = (leB lo k && leB k hi) := by
  unfold within
  rw [List.take_of_length_le (by omega), leB_or]
  rfl
def intV (n : Int) : Val := ⟨1, n, noStr⟩
def bT : Tab := ⟨0, ⟨#[116]⟩, [(⟨#[97]⟩, 1)], [⟨⟨#[105]⟩, [0], 0⟩]⟩
def bS : Sta := ⟨0, []⟩
def bW (n m : Int) : List Cond := [⟨⟨#[97]⟩, 6, intV n⟩, ⟨⟨#[97]⟩, 4, intV m⟩]
theorem keyInt_form (n : Int) : keyV (intV n) = byteOf 2 :: be 8 (n + 9223372036854775808) := key_num rfl rfl
theorem bounds_ways (n m : Int) : ∃ c, waysOf bT bS (bW n m) = [⟨-1, noStr, noStr, 1⟩, ⟨0, mkStr (keyV (intV n)), mkStr (keyV (intV m)), c⟩] := by
  have e1 : condF (bW n m) (nameAt bT 0) [1] = none := by kernel_rfl
  have e2 : condF (bW n m) (nameAt bT 0) [5, 6] = some (intV n) := by kernel_rfl
  have e3 : condF (bW n m) (nameAt bT 0) [3, 4] = some (intV m) := by kernel_rfl
  have cut : ∀ x, cut16 (keyV (intV x)) = keyV (intV x) := fun x => by
    unfold cut16
    rw [keyInt_form, List.take_of_length_le (by rw [List.length_cons, be_len]; decide)]
  have hgo : ∀ r, ∃ q, idxGo bT bS (bW n m) [0] [] r = ⟨[], keyV (intV n), keyV (intV m), q⟩ := fun r => by
    rw [idxGo, if_neg (by decide), e1]
    simp only [idxEnd, e2, e3]
    exact ⟨_, rfl⟩
  obtain ⟨q, hq⟩ := hgo (rowsOf bS)
  refine ⟨3 + 2 * q, ?_⟩
  have hb : byIdx bT bS (bW n m) 0 = ⟨0, mkStr (keyV (intV n)), mkStr (keyV (intV m)), 3 + 2 * q⟩ := by
    unfold byIdx
    rw [show (bT.idx.getD 0 default).cols = [0] from rfl, hq]
    simp only [List.nil_append, cut]
    rfl
  show scanOf bS :: (List.range 1).map (byIdx bT bS (bW n m)) = _
  rw [show List.range 1 = [0] from rfl, List.map_cons, List.map_nil, hb]
  rfl
theorem bounds_cover (n m x c : Int) (hn : (intV n).fine) (hm : (intV m).fine) (hx : (intV x).fine) :
    coversOf bT ⟨0, mkStr (keyV (intV n)), mkStr (keyV (intV m)), c⟩ [intV x] = (decide (n ≤ x) && decide (x ≤ m)) := by
  unfold Val.fine intV at hn hm hx
  simp only at hn hm hx
  have p8 : (256 : Int) ^ 8 = 18446744073709551616 := by decide
  unfold coversOf
  rw [if_neg (by simp [bT])]
  simp only [mkStr_data]
  rw [show (bT.idx.getD (0 : Int).toNat default).cols = [0] from rfl, covKey_cons (by decide) (by simp)]
  rw [show ([intV x].getD (0 : Int).toNat default) = intV x from rfl, show covKey [intV x] [] = [] from rfl, List.append_nil]
  have cut : cut16 (keyV (intV x)) = keyV (intV x) := by
    unfold cut16
    rw [keyInt_form, List.take_of_length_le (by rw [List.length_cons, be_len]; decide)]
  rw [cut, keyInt_form, keyInt_form, keyInt_form, within_num (by rw [List.length_cons, List.length_cons, be_len, be_len]), leB_cons_same, leB_cons_same, leB_num _ _ (by omega) (by omega) (by omega) (by omega), leB_num _ _ (by omega) (by omega) (by omega) (by omega)]
  congr 1
  · exact decide_eq_decide.2 (by omega)
  · exact decide_eq_decide.2 (by omega)
theorem cmp_between (n x : Int) : decide (cmpV (intV n) (intV x) ≤ 0) = decide (n ≤ x) := by
  rw [pair_num rfl rfl]
  show decide (ordI (decide (n < x)) (decide (x < n)) ≤ 0) = _
  apply decide_eq_decide.2
  unfold ordI
  by_cases h1 : n < x
  · simp [h1]; omega
  · by_cases h2 : x < n
    · simp [h1, h2]
    · simp [h1, h2]; omega
end Go.Proofs.YtajlngkakpjncaaDoor
