/- What is encoded one after the other, and what a reader makes of it. -/
import Derived.Test.YtmomhglcjphieaaCodec
namespace Go.Proofs.Ytmomhglcjphieaa
set_option linter.unusedVariables false
open Go.RowKit

def encI (Z : List Int) : Nat → List UInt8
  | 0 => []
  | k + 1 => encI Z k ++ be (k % 9) (Z.getD k 0)
def cut3 (s : ByteArray) : ByteArray := if s.size ≤ 300 then s else s.extract 0 300
def encT (T : List ByteArray) : Nat → List UInt8
  | 0 => []
  | k + 1 => encT T k ++ textOf (cut3 (T.getD k ByteArray.empty))
theorem encI_len (Z : List Int) : ∀ k, (encI Z k).length ≤ 8 * k
  | 0 => by simp [encI]
  | k + 1 => by
    have := encI_len Z k
    simp only [encI, List.length_append, be_len]
    omega
theorem cut3_size (s : ByteArray) : (cut3 s).size ≤ 300 := by
  unfold cut3
  split
  · assumption
  · rw [ByteArray.size_extract]; omega
theorem cutTo_cut3 (s : ByteArray) : cutTo (cut3 s) = (cut3 s).data.toList := cutTo_short (by have := cut3_size s; omega)

theorem text3_len (s : ByteArray) : (textOf (cut3 s)).length ≤ 302 := by
  rw [textOf_len, cutTo_cut3, toList_size]
  have := cut3_size s
  omega
theorem encT_len (T : List ByteArray) : ∀ k, (encT T k).length ≤ 302 * k
  | 0 => by simp [encT]
  | k + 1 => by
    have := encT_len T k
    have := text3_len (T.getD k ByteArray.empty)
    simp only [encT, List.length_append]
    omega

theorem clamp9 (k : Nat) : clamp8 ((k : Int) % 9) = k % 9 := by unfold clamp8; omega


theorem front_take (A X B : List UInt8) (n : Int) (hn : n = (X.length : Nat)) :
    takeS ⟨(A ++ (X ++ B)).toArray⟩ A.length false n = ⟨X.toArray⟩ ∧ takeP ⟨(A ++ (X ++ B)).toArray⟩ A.length false n = A.length + X.length ∧ takeF ⟨(A ++ (X ++ B)).toArray⟩ A.length false n = false := by
  subst hn
  have hs : (⟨(A ++ (X ++ B)).toArray⟩ : ByteArray).size = A.length + (X.length + B.length) := by show (A ++ (X ++ B)).toArray.size = _; simp
  have e : takeOk ⟨(A ++ (X ++ B)).toArray⟩ A.length false ((X.length : Nat) : Int) = true := by
    unfold takeOk
    rw [hs]
    simp
    omega
  unfold takeS takeP takeF
  rw [e]
  refine ⟨?_, ?_, rfl⟩
  · apply ByteArray.ext
    rw [← Array.toList_inj]
    show ((⟨(A ++ (X ++ B)).toArray⟩ : ByteArray).extract A.length (A.length + ((X.length : Nat) : Int).toNat)).data.toList = X
    rw [extract_list]
    simp
  · show A.length + ((X.length : Nat) : Int).toNat = _
    simp
theorem numOf_be (c : Nat) (x : Int) (hc : c ≤ 7) : numOf (be c x) = x % 256 ^ c := by
  unfold numOf
  rw [unbe_be, IntKind.wrap_i64]
  have h3 : c = 0 ∨ c = 1 ∨ c = 2 ∨ c = 3 ∨ c = 4 ∨ c = 5 ∨ c = 6 ∨ c = 7 := by omega
  rcases h3 with rfl | rfl | rfl | rfl | rfl | rfl | rfl | rfl <;> simp only [Int.reducePow] <;> omega
theorem numOf_be8 (x : Int) (h : -9223372036854775808 ≤ x ∧ x ≤ 9223372036854775807) : numOf (be 8 x) = x := by
  unfold numOf
  rw [unbe_be, IntKind.wrap_i64]
  simp only [Int.reducePow]
  omega
theorem and_mask (x : Int) (m : Nat) (hm : m ≤ 62) : bits .and .i64 x ((2 ^ m - 1 : Nat) : Int) = x % ((2 ^ m : Nat) : Int) := by
  have hp : 2 ^ m ≤ 2 ^ 62 := Nat.pow_le_pow_right (by omega) hm
  have hp0 : 0 < 2 ^ m := Nat.pos_of_ne_zero (by simp)
  have hd : (18446744073709551616 : Int) = ((2 ^ m : Nat) : Int) * ((2 ^ (64 - m) : Nat) : Int) := by
    rw [← Int.natCast_mul, ← Nat.pow_add]
    have : m + (64 - m) = 64 := by omega
    rw [this]
    rfl
  have e : (BitVec.ofInt 64 x &&& BitVec.ofInt 64 ((2 ^ m - 1 : Nat) : Int)).toNat = ((x % 18446744073709551616).toNat) % 2 ^ m := by
    rw [BitVec.toNat_and, BitVec.toNat_ofInt, BitVec.toNat_ofInt]
    have h1 : (((2 ^ m - 1 : Nat) : Int) % ((2 ^ 64 : Nat) : Int)).toNat = 2 ^ m - 1 := by
      have : ((2 ^ m - 1 : Nat) : Int) % ((2 ^ 64 : Nat) : Int) = ((2 ^ m - 1 : Nat) : Int) := Int.emod_eq_of_lt (by omega) (by omega)
      rw [this]
      omega
    rw [h1, Nat.and_two_pow_sub_one_eq_mod]
    rfl
  show IntKind.i64.wrap ((BitVec.ofInt 64 x &&& BitVec.ofInt 64 ((2 ^ m - 1 : Nat) : Int)).toNat : Int) = _
  rw [e, IntKind.wrap_i64]
  have h0 := Int.emod_nonneg x (show (18446744073709551616 : Int) ≠ 0 by omega)
  have h2 : ((((x % 18446744073709551616).toNat % 2 ^ m : Nat)) : Int) = x % ((2 ^ m : Nat) : Int) := by
    rw [Int.natCast_emod, Int.toNat_of_nonneg h0, hd, Int.emod_emod_of_dvd _ ⟨_, rfl⟩]
  rw [h2]
  have h3 := Int.emod_nonneg x (show ((2 ^ m : Nat) : Int) ≠ 0 by omega)
  have h4 := Int.emod_lt_of_pos x (show (0 : Int) < ((2 ^ m : Nat) : Int) by omega)
  generalize x % ((2 ^ m : Nat) : Int) = y at *
  omega
theorem mask0 (x : Int) : bits .and .i64 x 0 = x % 1 := and_mask x 0 (by omega)
theorem low0 (x : Int) : numOf (be 0 x) = x % 1 := numOf_be 0 x (by omega)
theorem mask1 (x : Int) : bits .and .i64 x 255 = x % 256 := and_mask x 8 (by omega)
theorem low1 (x : Int) : numOf (be 1 x) = x % 256 := numOf_be 1 x (by omega)
theorem mask2 (x : Int) : bits .and .i64 x 65535 = x % 65536 := and_mask x 16 (by omega)
theorem low2 (x : Int) : numOf (be 2 x) = x % 65536 := numOf_be 2 x (by omega)
theorem mask3 (x : Int) : bits .and .i64 x 16777215 = x % 16777216 := and_mask x 24 (by omega)
theorem low3 (x : Int) : numOf (be 3 x) = x % 16777216 := numOf_be 3 x (by omega)
theorem mask4 (x : Int) : bits .and .i64 x 4294967295 = x % 4294967296 := and_mask x 32 (by omega)
theorem low4 (x : Int) : numOf (be 4 x) = x % 4294967296 := numOf_be 4 x (by omega)
theorem mask5 (x : Int) : bits .and .i64 x 1099511627775 = x % 1099511627776 := and_mask x 40 (by omega)
theorem low5 (x : Int) : numOf (be 5 x) = x % 1099511627776 := numOf_be 5 x (by omega)
theorem mask6 (x : Int) : bits .and .i64 x 281474976710655 = x % 281474976710656 := and_mask x 48 (by omega)
theorem low6 (x : Int) : numOf (be 6 x) = x % 281474976710656 := numOf_be 6 x (by omega)
theorem mask7 (x : Int) : bits .and .i64 x 72057594037927935 = x % 72057594037927936 := and_mask x 56 (by omega)
theorem low7 (x : Int) : numOf (be 7 x) = x % 72057594037927936 := numOf_be 7 x (by omega)
theorem num_back (A B : List UInt8) (c : Nat) (C x : Int) (hC : C = (c : Int)) (hc : c ≤ 8) :
    numV ⟨(A ++ (be c x ++ B)).toArray⟩ A.length false C = numOf (be c x) ∧ takeP ⟨(A ++ (be c x ++ B)).toArray⟩ A.length false (clamp8 C) = A.length + c ∧ takeF ⟨(A ++ (be c x ++ B)).toArray⟩ A.length false (clamp8 C) = false := by
  have e : clamp8 C = c := by subst hC; unfold clamp8; omega
  obtain ⟨h1, h2, h3⟩ := front_take A (be c x) B (c : Int) (by rw [be_len])
  rw [be_len] at h2
  unfold numV
  rw [e]
  exact ⟨by rw [h1], h2, h3⟩
theorem text_back (A B : List UInt8) (y : ByteArray) (hy : y.size ≤ 300) :
    textS ⟨(A ++ (textOf y ++ B)).toArray⟩ A.length false = y ∧ textP ⟨(A ++ (textOf y ++ B)).toArray⟩ A.length false = A.length + (textOf y).length ∧ textF ⟨(A ++ (textOf y ++ B)).toArray⟩ A.length false = false := by
  have hcut : cutTo y = y.data.toList := cutTo_short (by omega)
  have e0 : A ++ (textOf y ++ B) = A ++ (be 2 (y.size : Int) ++ (y.data.toList ++ B)) := by
    unfold textOf
    rw [hcut, toList_size]
    simp
  have e1 : A ++ (textOf y ++ B) = (A ++ be 2 (y.size : Int)) ++ (y.data.toList ++ B) := by rw [e0]; simp
  have hl : (textOf y).length = 2 + y.size := by rw [textOf_len, hcut, toList_size]; omega
  have c2 : clamp8 2 = 2 := rfl
  obtain ⟨h1, h2, h3⟩ := num_back A (y.data.toList ++ B) 2 2 (y.size : Int) rfl (by omega)
  have hn : numOf (be 2 (y.size : Int)) = (y.size : Int) := by
    rw [numOf_be _ _ (by omega)]
    simp only [Int.reducePow]
    omega
  rw [hn] at h1
  obtain ⟨g1, g2, g3⟩ := front_take (A ++ be 2 (y.size : Int)) y.data.toList B (y.size : Int) (by rw [toList_size])
  rw [List.length_append, be_len] at g1 g2 g3
  have hf : textF ⟨(A ++ (textOf y ++ B)).toArray⟩ A.length false = false := by
    unfold textF
    rw [e0, h1, h2, h3, ← e0, e1]
    exact g3
  refine ⟨?_, ?_, hf⟩
  · unfold textS
    rw [e0, h1, h2, h3, ← e0, e1, g1, Array.toArray_toList]
  · unfold textP
    rw [hf, e0, h1, h2, h3, ← e0, e1, g2, hl, toList_size]
    show A.length + 2 + y.size = _
    omega
theorem encI_split (Z : List Int) (k : Nat) : ∀ d, ∃ R, encI Z (k + 1 + d) = encI Z k ++ (be (k % 9) (Z.getD k 0) ++ R)
  | 0 => ⟨[], by simp [encI]⟩
  | d + 1 => by
    obtain ⟨R, h⟩ := encI_split Z k d
    exact ⟨R ++ be ((k + 1 + d) % 9) (Z.getD (k + 1 + d) 0), by show encI Z (k + 1 + d) ++ _ = _; rw [h]; simp⟩
theorem encT_split (T : List ByteArray) (k : Nat) : ∀ d, ∃ R, encT T (k + 1 + d) = encT T k ++ (textOf (cut3 (T.getD k ByteArray.empty)) ++ R)
  | 0 => ⟨[], by simp [encT]⟩
  | d + 1 => by
    obtain ⟨R, h⟩ := encT_split T k d
    exact ⟨R ++ textOf (cut3 (T.getD (k + 1 + d) ByteArray.empty)), by show encT T (k + 1 + d) ++ _ = _; rw [h]; simp⟩
/-- the k-th integer, read where it lies -/
theorem back_num (Z : List Int) (M k : Nat) (h : k < M) (B : List UInt8) :
    numV ⟨(encI Z M ++ B).toArray⟩ (encI Z k).length false ((k : Int) % 9) = numOf (be (k % 9) (Z.getD k 0)) ∧ takeP ⟨(encI Z M ++ B).toArray⟩ (encI Z k).length false (clamp8 ((k : Int) % 9)) = (encI Z (k + 1)).length ∧
      takeF ⟨(encI Z M ++ B).toArray⟩ (encI Z k).length false (clamp8 ((k : Int) % 9)) = false := by
  obtain ⟨R, hR⟩ := encI_split Z k (M - (k + 1))
  have e : k + 1 + (M - (k + 1)) = M := by omega
  rw [e] at hR
  have e2 : encI Z M ++ B = encI Z k ++ (be (k % 9) (Z.getD k 0) ++ (R ++ B)) := by rw [hR]; simp
  have e3 : (encI Z (k + 1)).length = (encI Z k).length + k % 9 := by show (encI Z k ++ _).length = _; rw [List.length_append, be_len]
  rw [e2, e3]
  exact num_back _ _ (k % 9) ((k : Int) % 9) _ (by omega) (by omega)
/-- the k-th string, read where it lies -/
theorem back_text (A : List UInt8) (T : List ByteArray) (K k : Nat) (h : k < K) :
    textS ⟨(A ++ encT T K).toArray⟩ (A ++ encT T k).length false = cut3 (T.getD k ByteArray.empty) ∧ textP ⟨(A ++ encT T K).toArray⟩ (A ++ encT T k).length false = (A ++ encT T (k + 1)).length ∧
      textF ⟨(A ++ encT T K).toArray⟩ (A ++ encT T k).length false = false := by
  obtain ⟨R, hR⟩ := encT_split T k (K - (k + 1))
  have e : k + 1 + (K - (k + 1)) = K := by omega
  rw [e] at hR
  have e2 : A ++ encT T K = (A ++ encT T k) ++ (textOf (cut3 (T.getD k ByteArray.empty)) ++ R) := by rw [hR]; simp
  have e3 : (A ++ encT T (k + 1)).length = (A ++ encT T k).length + (textOf (cut3 (T.getD k ByteArray.empty))).length := by
    show (A ++ (encT T k ++ _)).length = _
    simp only [List.length_append]
    omega
  rw [e2, e3]
  exact text_back _ _ _ (cut3_size _)

end Go.Proofs.Ytmomhglcjphieaa
