/- What a row's key is: plain. -/
import Derived.Test.YtajlngkakpjncaaDoorRow
import Derived.Test.YtajlngkakpjncaaDoorOrder
import Derived.Lib.CountLaws
import Derived.Lib.Replace
import Derived.Lib.SplitLaws
namespace Go.Proofs.YtajlngkakpjncaaDoor
set_option linter.unusedVariables false
set_option linter.unusedSimpArgs false
open Go.RowKit

/-- the number of a value is one of the machine's -/
def Val.fine (v : Val) : Prop := -9223372036854775808 ≤ v.n ∧ v.n ≤ 9223372036854775807
def keyInt (n : Int) : List UInt8 := be 8 (n + 9223372036854775808)
def keyOne (v : Val) : List UInt8 :=
  byteOf (v.kind + 1) :: (if v.kind = 1 then keyInt v.n else if v.kind = 2 then escB v.s.data.toList ++ [0, 1] else [])
def keyRaw : List Val → List UInt8
  | [] => []
  | v :: L => keyOne v ++ keyRaw L
def keyOf (L : List Val) : List UInt8 := if rightsB L then keyRaw L else []
/-- the key of a single value -/
def keyV (v : Val) : List UInt8 := if rightB v then keyOne v else []
theorem keyRaw_app (L M : List Val) : keyRaw (L ++ M) = keyRaw L ++ keyRaw M := by
  induction L with
  | nil => rfl
  | cons v L ih => simp [keyRaw, ih]
theorem keyOf_one (v : Val) : keyOf [v] = keyV v := by
  simp [keyOf, keyV, rightsB, keyRaw]
theorem keyRaw_take (L : List Val) (k : Nat) (h : k < L.length) : keyRaw (L.take (k + 1)) = keyRaw (L.take k) ++ keyOne (L.getD k default) := by
  rw [List.take_add_one, List.getElem?_eq_getElem h, keyRaw_app, List.getD_eq_getElem?_getD, List.getElem?_eq_getElem h]
  simp [keyRaw]
theorem escB_len : ∀ l : List UInt8, (escB l).length ≤ 2 * l.length
  | [] => Nat.le_refl _
  | c :: l => by
    have := escB_len l
    rw [escB]
    split <;> simp <;> omega
theorem keyInt_len (n : Int) : (keyInt n).length = 8 := be_len _ _
theorem keyOne_len (v : Val) (h : rightB v = true) : (keyOne v).length ≤ 83 := by
  unfold keyOne
  by_cases h1 : v.kind = 1
  · rw [if_pos h1]; simp [keyInt_len]
  · rw [if_neg h1]
    by_cases h2 : v.kind = 2
    · rw [if_pos h2]
      have hl := escB_len v.s.data.toList
      simp [rightB, h2] at h
      have : v.s.data.toList.length = v.s.size := by rw [Array.length_toList]; rfl
      simp; omega
    · rw [if_neg h2]; simp
theorem keyRaw_len : ∀ L : List Val, L.all rightB = true → (keyRaw L).length ≤ 83 * L.length
  | [], _ => by simp [keyRaw]
  | v :: L, h => by
    simp only [List.all_cons, Bool.and_eq_true] at h
    have h1 := keyOne_len v h.1
    have h2 := keyRaw_len L h.2
    simp [keyRaw]; omega

/-- the library's words for an exchange of one byte -/
theorem index_one_cons (c x : UInt8) (s : List UInt8) : Lib.index (c :: s) [x] = if c = x then 0 else if Lib.index s [x] = -1 then -1 else Lib.index s [x] + 1 := by
  rw [Lib.index]
  by_cases h : c = x
  · subst h; simp [List.isPrefixOf]
  · have : (x == c) = false := by simp; exact fun e => h e.symm
    simp [List.isPrefixOf, this, h]
theorem index_one_nil (x : UInt8) : Lib.index [] [x] = -1 := rfl
def swapB (x : UInt8) (new : List UInt8) : List UInt8 → List UInt8
  | [] => []
  | c :: s => (if c = x then new else [c]) ++ swapB x new s
theorem swap_miss (x : UInt8) (new : List UInt8) : ∀ s : List UInt8, Lib.index s [x] = -1 → swapB x new s = s
  | [], _ => rfl
  | c :: s, h => by
    rw [index_one_cons] at h
    by_cases hc : c = x
    · rw [if_pos hc] at h; cases h
    · rw [if_neg hc] at h
      have hge := Lib.index_ge s [x]
      split at h
      · rename_i h2
        rw [swapB, if_neg hc, swap_miss x new s h2]; rfl
      · omega
theorem swap_hit (x : UInt8) (new : List UInt8) : ∀ (s : List UInt8) (i : Nat), Lib.index s [x] = i → swapB x new s = s.take i ++ new ++ swapB x new (s.drop (i + 1))
  | [], i, h => by rw [index_one_nil] at h; omega
  | c :: s, i, h => by
    rw [index_one_cons] at h
    by_cases hc : c = x
    · rw [if_pos hc] at h
      have : i = 0 := by omega
      subst this
      rw [swapB, if_pos hc]; simp
    · rw [if_neg hc] at h
      have hge := Lib.index_ge s [x]
      split at h
      · omega
      · obtain ⟨j, rfl⟩ : ∃ j, i = j + 1 := ⟨i - 1, by omega⟩
        rw [swapB, if_neg hc, swap_hit x new s j (by omega)]
        simp [List.append_assoc]
theorem replaceK_swap (x : UInt8) (new : List UInt8) : ∀ (k : Nat) (s : List UInt8), Lib.count s [x] ≤ k → Lib.replaceK [x] new k s = swapB x new s
  | 0, s, h => by
    have hi : Lib.index s [x] = -1 := by
      have hge := Lib.index_ge s [x]
      rcases (show Lib.index s [x] < 0 ∨ 0 ≤ Lib.index s [x] by omega) with h1 | h1
      · omega
      · obtain ⟨i, hi⟩ : ∃ i : Nat, Lib.index s [x] = i := ⟨(Lib.index s [x]).toNat, by omega⟩
        rw [Lib.count_hit (by simp) hi] at h
        omega
    rw [swap_miss x new s hi]; rfl
  | k + 1, s, h => by
    have hge := Lib.index_ge s [x]
    rcases (show Lib.index s [x] < 0 ∨ 0 ≤ Lib.index s [x] by omega) with h1 | h1
    · have hi : Lib.index s [x] = -1 := by omega
      rw [swap_miss x new s hi, Lib.replaceK, hi]; rfl
    · obtain ⟨i, hi⟩ : ∃ i : Nat, Lib.index s [x] = i := ⟨(Lib.index s [x]).toNat, by omega⟩
      rw [Lib.count_hit (by simp) hi] at h
      rw [Lib.replaceK_hit _ _ _ _ _ hi, swap_hit x new s i hi, replaceK_swap x new k _ (by simpa using (show Lib.count (s.drop (i + [x].length)) [x] ≤ k by omega))]
      rfl
theorem replaceAll_swap (x : UInt8) (new s : List UInt8) (h : ([x] == new) = false) : Lib.replaceAll s [x] new = swapB x new s := by
  unfold Lib.replaceAll Lib.replace
  rw [if_neg (by rw [h]; exact Bool.false_ne_true)]
  exact replaceK_swap x new _ s (by simp [Lib.replaceNum])
theorem escB_swap : ∀ s : List UInt8, swapB 0 [0, 255] s = escB s
  | [] => rfl
  | c :: s => by
    rw [swapB, escB, escB_swap s]
    split <;> simp
theorem replaceAll_esc (s : List UInt8) : Lib.replaceAll s [0] [0, 255] = escB s := by
  rw [replaceAll_swap 0 [0, 255] s rfl, escB_swap]

theorem xor_top (n : Nat) (h : n < 2 ^ 64) : n ^^^ 2 ^ 63 = (n + 2 ^ 63) % 2 ^ 64 := by
  rcases Nat.lt_or_ge n (2 ^ 63) with h1 | h1
  · rw [Nat.mod_eq_of_lt (by omega)]
    have e : n + 2 ^ 63 = 2 ^ 63 * 1 + n := by omega
    rw [e, Nat.two_pow_add_eq_or_of_lt h1]
    apply Nat.eq_of_testBit_eq
    intro i
    simp only [Nat.testBit_xor, Nat.testBit_or, Nat.mul_one, Nat.testBit_two_pow]
    by_cases hi : 63 = i
    · subst hi
      simp [Nat.testBit_lt_two_pow h1]
    · simp [hi]
  · obtain ⟨m, rfl⟩ : ∃ m, n = 2 ^ 63 + m := ⟨n - 2 ^ 63, by omega⟩
    have hm : m < 2 ^ 63 := by omega
    have e : (2 ^ 63 + m + 2 ^ 63) % 2 ^ 64 = m := by omega
    have e2 : 2 ^ 63 + m = 2 ^ 63 * 1 + m := by omega
    rw [e, e2, Nat.two_pow_add_eq_or_of_lt hm]
    apply Nat.eq_of_testBit_eq
    intro i
    simp only [Nat.testBit_xor, Nat.testBit_or, Nat.mul_one, Nat.testBit_two_pow]
    by_cases hi : 63 = i
    · subst hi
      simp [Nat.testBit_lt_two_pow hm]
    · simp [hi]
theorem xor_sign (n : Int) (h : -9223372036854775808 ≤ n ∧ n ≤ 9223372036854775807) : bits .xor .u64 (IntKind.u64.wrap n) 9223372036854775808 = n + 9223372036854775808 := by
  have h0 : 0 ≤ IntKind.u64.wrap n ∧ IntKind.u64.wrap n < 18446744073709551616 := by rw [IntKind.wrap_u64]; omega
  obtain ⟨m, hm⟩ : ∃ m : Nat, IntKind.u64.wrap n = m := ⟨(IntKind.u64.wrap n).toNat, by omega⟩
  rw [hm]
  have hlt : m < 18446744073709551616 := by omega
  show IntKind.u64.wrap ((BitVec.ofInt 64 (m : Int) ^^^ BitVec.ofInt 64 9223372036854775808).toNat : Int) = _
  have e : (BitVec.ofInt 64 (m : Int) ^^^ BitVec.ofInt 64 9223372036854775808).toNat = (m + 2 ^ 63) % 2 ^ 64 := by
    rw [BitVec.toNat_xor, BitVec.toNat_ofInt, BitVec.toNat_ofInt, ← xor_top m (by omega)]
    congr 1
    omega
  rw [e]
  rw [IntKind.wrap_u64] at hm
  rw [IntKind.wrap_u64]
  omega
/-- the reference's way to the same bytes -/
theorem xor7 (c : Nat) (h : c < 256) : c ^^^ 128 = (c + 128) % 256 := by
  rcases Nat.lt_or_ge c (2 ^ 7) with h1 | h1
  · rw [Nat.mod_eq_of_lt (by omega)]
    have e : c + 128 = 2 ^ 7 * 1 + c := by omega
    rw [e, Nat.two_pow_add_eq_or_of_lt h1]
    apply Nat.eq_of_testBit_eq
    intro i
    rw [show (128 : Nat) = 2 ^ 7 from rfl]
    simp only [Nat.testBit_xor, Nat.testBit_or, Nat.mul_one, Nat.testBit_two_pow]
    by_cases hi : 7 = i
    · subst hi
      simp [Nat.testBit_lt_two_pow h1]
    · simp [hi]
  · obtain ⟨m, rfl⟩ : ∃ m, c = 2 ^ 7 + m := ⟨c - 2 ^ 7, by omega⟩
    have hm : m < 2 ^ 7 := by omega
    have e : (2 ^ 7 + m + 128) % 256 = m := by omega
    have e2 : 2 ^ 7 + m = 2 ^ 7 * 1 + m := by omega
    rw [e, e2, Nat.two_pow_add_eq_or_of_lt hm]
    apply Nat.eq_of_testBit_eq
    intro i
    rw [show (128 : Nat) = 2 ^ 7 from rfl]
    simp only [Nat.testBit_xor, Nat.testBit_or, Nat.mul_one, Nat.testBit_two_pow]
    by_cases hi : 7 = i
    · subst hi
      simp [Nat.testBit_lt_two_pow hm]
    · simp [hi]
theorem keyInt_front (n : Int) : keyInt n = byteOf (n / 72057594037927936 + 128) :: be 7 n := by
  unfold keyInt
  rw [be_front]
  congr 1
  · refine byteOf_congr ?_
    simp only [Int.reducePow]
    omega
  · refine be_congr _ _ 7 fun i hi => ?_
    have h3 : i = 0 ∨ i = 1 ∨ i = 2 ∨ i = 3 ∨ i = 4 ∨ i = 5 ∨ i = 6 := by omega
    rcases h3 with rfl | rfl | rfl | rfl | rfl | rfl | rfl <;> simp only [Int.reducePow] <;> omega
end Go.Proofs.YtajlngkakpjncaaDoor
