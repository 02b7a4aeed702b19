/- The order of bytes, and how keys keep it: plain, no program in sight. -/
import Derived.Test.YtpfjakcfjpgbmaaGreatDoorZN4
import GoSem.Op.String
namespace Go.Proofs.YtpfjakcfjpgbmaaGreatDoor
set_option linter.unusedVariables false
set_option linter.unusedSimpArgs false
open Go

def leB (a b : List UInt8) : Bool := !Op.bytesLess b a
theorem leB_nil (b : List UInt8) : leB [] b = true := by cases b <;> rfl
theorem leB_cons_nil (a : UInt8) (x : List UInt8) : leB (a :: x) [] = false := rfl
theorem leB_cons (a b : UInt8) (x y : List UInt8) : leB (a :: x) (b :: y) = (decide (a < b) || (a == b && leB x y)) := by
  unfold leB
  rw [Op.bytesLess]
  by_cases h : a = b
  · subst h
    simp
  · have hba : (b == a) = false := by simp; exact fun e => h e.symm
    have hab : (a == b) = false := by simpa using h
    rw [hba, hab]
    simp only [Bool.false_and, Bool.or_false]
    rcases UInt8.lt_or_lt_of_ne h with h1 | h1
    · have : ¬ b < a := UInt8.lt_asymm h1
      simp [h1, this]
    · have : ¬ a < b := UInt8.lt_asymm h1
      simp [h1, this]
theorem leB_refl : ∀ a : List UInt8, leB a a = true
  | [] => rfl
  | a :: x => by rw [leB_cons, leB_refl x]; simp
theorem leB_antisymm : ∀ (a b : List UInt8), leB a b = true → leB b a = true → a = b
  | [], [], _, _ => rfl
  | [], _ :: _, _, h => by rw [leB_cons_nil] at h; cases h
  | _ :: _, [], h, _ => by rw [leB_cons_nil] at h; cases h
  | a :: x, b :: y, h, k => by
    rw [leB_cons] at h k
    by_cases e : a = b
    · subst e
      have hir : ¬ a < a := UInt8.lt_irrefl a
      simp at h k
      rw [leB_antisymm x y h k]
    · have hba : (b == a) = false := by simp; exact fun e' => e e'.symm
      have hab : (a == b) = false := by simpa using e
      rw [hab] at h
      rw [hba] at k
      simp at h k
      exact absurd h (UInt8.lt_asymm k)
theorem leB_app_right : ∀ (a b c : List UInt8), leB a b = true → leB a (b ++ c) = true
  | [], b, c, _ => leB_nil _
  | a :: x, [], _, h => by rw [leB_cons_nil] at h; cases h
  | a :: x, b :: y, c, h => by
    rw [leB_cons] at h
    rw [List.cons_append, leB_cons]
    simp only [Bool.or_eq_true, decide_eq_true_eq, Bool.and_eq_true] at h ⊢
    rcases h with h | ⟨h1, h2⟩
    · exact Or.inl h
    · exact Or.inr ⟨h1, leB_app_right x y c h2⟩
theorem leB_pre : ∀ (p a b : List UInt8), leB (p ++ a) (p ++ b) = leB a b
  | [], _, _ => rfl
  | c :: p, a, b => by rw [List.cons_append, List.cons_append, leB_cons, leB_pre p a b]; simp
theorem leB_take : ∀ (n : Nat) (a b : List UInt8), leB a b = true → leB (a.take n) (b.take n) = true
  | 0, _, _, _ => by simp [leB_nil]
  | n + 1, [], _, _ => by simp [leB_nil]
  | n + 1, a :: x, [], h => by rw [leB_cons_nil] at h; cases h
  | n + 1, a :: x, b :: y, h => by
    rw [leB_cons] at h
    rw [List.take_succ_cons, List.take_succ_cons, leB_cons]
    simp only [Bool.or_eq_true, decide_eq_true_eq, Bool.and_eq_true] at h ⊢
    rcases h with h | ⟨h1, h2⟩
    · exact Or.inl h
    · exact Or.inr ⟨h1, leB_take n x y h2⟩
/-- 'x, cut to u's length, is not above u' -/
def under (x u : List UInt8) : Bool := leB (x.take u.length) u
theorem under_pre (p x u : List UInt8) : under (p ++ x) (p ++ u) = under x u := by
  unfold under
  rw [List.length_append, List.take_length_add_append, leB_pre]
theorem under_nil (x : List UInt8) : under x [] = true := by unfold under; simp [leB_nil]
theorem under_take (m : Nat) (x u : List UInt8) (h : under x u = true) : under (x.take m) (u.take m) = true := by
  unfold under at *
  have h1 := leB_take m _ _ h
  have e : (x.take m).take (u.take m).length = (x.take u.length).take m := by
    rw [List.length_take, List.take_take, List.take_take]
    congr 1
    omega
  rw [e]
  exact h1
theorem under_pre_only (p x : List UInt8) : under (p ++ x) p = true := by
  have := under_pre p x []
  rw [List.append_nil] at this
  rw [this, under_nil]

/-- a zero byte is followed by 255 -/
def escB : List UInt8 → List UInt8
  | [] => []
  | c :: l => if c = 0 then 0 :: 255 :: escB l else c :: escB l
theorem esc_lower : ∀ (s t rest : List UInt8), leB s t = true → leB (escB s ++ [0, 1]) (escB t ++ [0, 1] ++ rest) = true
  | [], [], rest, _ => leB_app_right _ _ _ (leB_refl _)
  | [], d :: t, rest, _ => by
    show leB [0, 1] (escB (d :: t) ++ [0, 1] ++ rest) = true
    rw [escB]
    split
    · simp only [List.cons_append, leB_cons]; rfl
    · rename_i hd
      have : (0 : UInt8) < d := by
        rw [UInt8.lt_iff_toNat_lt]
        have : d.toNat ≠ 0 := fun e => hd (UInt8.toNat.inj (by rw [e]; rfl))
        simp; omega
      simp only [List.cons_append, leB_cons]
      simp [this]
  | c :: s, [], _, h => by rw [leB_cons_nil] at h; cases h
  | c :: s, d :: t, rest, h => by
    rw [leB_cons] at h
    simp only [Bool.or_eq_true, decide_eq_true_eq, Bool.and_eq_true, beq_iff_eq] at h
    rcases h with h | ⟨rfl, h2⟩
    · have hd : d ≠ 0 := by rintro rfl; rw [UInt8.lt_iff_toNat_lt] at h; simp at h
      rw [escB, escB, if_neg hd]
      split
      · rename_i hc
        subst hc
        simp only [List.cons_append, leB_cons]
        simp [h]
      · simp only [List.cons_append, leB_cons]
        simp [h]
    · have ih := esc_lower s t rest h2
      rw [escB, escB]
      split
      · simp only [List.cons_append, leB_cons]
        simp only [List.append_assoc, List.cons_append, List.nil_append] at ih
        simp [ih]
      · simp only [List.cons_append, leB_cons]
        simp only [List.append_assoc, List.cons_append, List.nil_append] at ih
        simp [ih]
theorem esc_upper : ∀ (s t rest : List UInt8), leB s t = true → under (escB s ++ [0, 1] ++ rest) (escB t ++ [0, 1]) = true
  | [], [], rest, _ => by
    show under ([0, 1] ++ rest) [0, 1] = true
    exact under_pre_only _ _
  | [], d :: t, rest, _ => by
    show under (0 :: 1 :: rest) (escB (d :: t) ++ [0, 1]) = true
    unfold under
    rw [escB]
    split
    · simp only [List.cons_append, List.length_cons, List.take_succ_cons, leB_cons]; rfl
    · rename_i hd
      have : (0 : UInt8) < d := by
        rw [UInt8.lt_iff_toNat_lt]
        have : d.toNat ≠ 0 := fun e => hd (UInt8.toNat.inj (by rw [e]; rfl))
        simp; omega
      simp only [List.cons_append, List.length_cons, List.take_succ_cons, leB_cons]
      simp [this]
  | c :: s, [], _, h => by rw [leB_cons_nil] at h; cases h
  | c :: s, d :: t, rest, h => by
    rw [leB_cons] at h
    simp only [Bool.or_eq_true, decide_eq_true_eq, Bool.and_eq_true, beq_iff_eq] at h
    rcases h with h | ⟨rfl, h2⟩
    · have hd : d ≠ 0 := by rintro rfl; rw [UInt8.lt_iff_toNat_lt] at h; simp at h
      unfold under
      rw [escB, escB, if_neg hd]
      split
      · rename_i hc
        subst hc
        simp only [List.cons_append, List.length_cons, List.take_succ_cons, leB_cons]
        simp [h]
      · simp only [List.cons_append, List.length_cons, List.take_succ_cons, leB_cons]
        simp [h]
    · have ih := esc_upper s t rest h2
      rw [escB, escB]
      split
      · have := under_pre [0, 255] (escB s ++ [0, 1] ++ rest) (escB t ++ [0, 1])
        rw [ih] at this
        simpa using this
      · have := under_pre [c] (escB s ++ [0, 1] ++ rest) (escB t ++ [0, 1])
        rw [ih] at this
        simpa using this

/-- the eight bytes of a number, as an order -/
theorem be_le : ∀ (k : Nat) (a b : Int), 0 ≤ a → a ≤ b → b < 256 ^ k → leB (be k a) (be k b) = true
  | 0, _, _, _, _, _ => rfl
  | k + 1, a, b, h0, h1, h2 => by
    rw [be, be]
    have hp : (256 : Int) ^ (k + 1) = 256 ^ k * 256 := by rw [Int.pow_succ]
    by_cases e : a / 256 = b / 256
    · rw [e, leB_pre]
      have hbm : (byteOf a).toNat ≤ (byteOf b).toNat := by
        unfold byteOf
        simp only [UInt8.toNat_ofNat']
        omega
      rw [leB_cons]
      simp only [leB_nil, Bool.and_true, Bool.or_eq_true, decide_eq_true_eq, beq_iff_eq]
      rcases Nat.lt_or_eq_of_le hbm with h | h
      · exact Or.inl (UInt8.lt_iff_toNat_lt.2 h)
      · exact Or.inr (UInt8.toNat.inj h)
    · have hlt : a / 256 < b / 256 := by omega
      have ih := be_le k (a / 256) (b / 256) (by omega) (by omega) (by omega)
      have hne : be k (a / 256) ≠ be k (b / 256) := by
        intro e2
        exact e (be_inj k (a / 256) (b / 256) (by omega) (by omega) (by omega) (by omega) e2)
      have hl : (be k (a / 256)).length = (be k (b / 256)).length := by rw [be_len, be_len]
      exact leB_strict _ _ _ _ hl hne ih
where
  leB_strict : ∀ (x y u v : List UInt8), x.length = y.length → x ≠ y → leB x y = true → leB (x ++ u) (y ++ v) = true
    | [], [], _, _, _, h, _ => absurd rfl h
    | [], _ :: _, _, _, h, _, _ => by cases h
    | _ :: _, [], _, _, h, _, _ => by cases h
    | a :: x, b :: y, u, v, hl, hne, h => by
      rw [leB_cons] at h
      rw [List.cons_append, List.cons_append, leB_cons]
      simp only [Bool.or_eq_true, decide_eq_true_eq, Bool.and_eq_true, beq_iff_eq] at h ⊢
      rcases h with h | ⟨rfl, h2⟩
      · exact Or.inl h
      · refine Or.inr ⟨rfl, leB_strict x y u v (by simpa using hl) (fun e => hne (by rw [e])) h2⟩
  be_inj : ∀ (k : Nat) (a b : Int), 0 ≤ a → a < 256 ^ k → 0 ≤ b → b < 256 ^ k → be k a = be k b → a = b
    | 0, a, b, h0, h1, h2, h3, _ => by simp at h1 h3; omega
    | k + 1, a, b, h0, h1, h2, h3, h => by
      rw [be, be] at h
      have hp : (256 : Int) ^ (k + 1) = 256 ^ k * 256 := by rw [Int.pow_succ]
      obtain ⟨h4, h5⟩ := List.append_inj h (by rw [be_len, be_len])
      have h6 := be_inj k (a / 256) (b / 256) (by omega) (by omega) (by omega) (by omega) h4
      have h7 : byteOf a = byteOf b := by simpa using h5
      have h8 : (byteOf a).toNat = (byteOf b).toNat := by rw [h7]
      unfold byteOf at h8
      simp only [UInt8.toNat_ofNat'] at h8
      omega
end Go.Proofs.YtpfjakcfjpgbmaaGreatDoor
