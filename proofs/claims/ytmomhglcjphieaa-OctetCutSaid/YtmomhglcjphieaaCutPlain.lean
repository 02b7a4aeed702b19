/- What a reader makes of an encoding that was cut. -/
import Derived.Test.YtmomhglcjphieaaBackPlain
namespace Go.Proofs.Ytmomhglcjphieaa
set_option linter.unusedVariables false
open Go.RowKit

def enc4 (Z : List Int) : Nat → List UInt8
  | 0 => []
  | k + 1 => enc4 Z k ++ be 4 (Z.getD k 0)
theorem enc4_len (Z : List Int) : ∀ k, (enc4 Z k).length = 4 * k
  | 0 => rfl
  | k + 1 => by
    have := enc4_len Z k
    simp only [enc4, List.length_append, be_len]
    omega
theorem enc4_split (Z : List Int) (k : Nat) : ∀ d, ∃ R, enc4 Z (k + 1 + d) = enc4 Z k ++ (be 4 (Z.getD k 0) ++ R)
  | 0 => ⟨[], by simp [enc4]⟩
  | d + 1 => by
    obtain ⟨R, h⟩ := enc4_split Z k d
    exact ⟨R ++ be 4 (Z.getD (k + 1 + d) 0), by show enc4 Z (k + 1 + d) ++ _ = _; rw [h]; simp⟩

/-- where the reader stands, and whether it has failed, before the j-th call on a string of q bytes -/
def cutP (q j : Nat) : Nat := if 4 * j ≤ q then 4 * j else 4 * (q / 4)
def cutF (q j : Nat) : Bool := decide (q < 4 * j)
theorem cutP_le (q j : Nat) : cutP q j ≤ q := by unfold cutP; split <;> omega

theorem extract_take (l : List UInt8) (q : Nat) : (⟨l.toArray⟩ : ByteArray).extract 0 q = ⟨(l.take q).toArray⟩ := by
  apply ByteArray.ext
  rw [← Array.toList_inj, extract_list]
  simp
theorem take_past (A X : List UInt8) (q : Nat) (h : A.length ≤ q) : (A ++ X).take q = A ++ X.take (q - A.length) := by
  rw [List.take_append, List.take_of_length_le h]
theorem no_take (s : ByteArray) (p : Nat) (f : Bool) (n : Int) (h : takeOk s p f n = false) : takeS s p f n = ⟨#[]⟩ ∧ takeP s p f n = p ∧ takeF s p f n = true := by
  unfold takeS takeP takeF
  rw [h]
  exact ⟨rfl, rfl, rfl⟩
theorem num_empty : numOf (⟨#[]⟩ : ByteArray).data.toList = 0 := by rfl
theorem cut_next (Z : List Int) (M : Nat) (B : List UInt8) (q j : Nat) (hj : j < M) (hq : q ≤ (enc4 Z M ++ B).length) :
    numV ((⟨(enc4 Z M ++ B).toArray⟩ : ByteArray).extract 0 q) (cutP q j) (cutF q j) 4 = (if 4 * (j + 1) ≤ q then Z.getD j 0 % 4294967296 else 0) ∧
      takeP ((⟨(enc4 Z M ++ B).toArray⟩ : ByteArray).extract 0 q) (cutP q j) (cutF q j) (clamp8 4) = cutP q (j + 1) ∧
      takeF ((⟨(enc4 Z M ++ B).toArray⟩ : ByteArray).extract 0 q) (cutP q j) (cutF q j) (clamp8 4) = cutF q (j + 1) := by
  have c4 : clamp8 4 = 4 := rfl
  by_cases h : 4 * (j + 1) ≤ q
  · obtain ⟨R, hR⟩ := enc4_split Z j (M - (j + 1))
    rw [show j + 1 + (M - (j + 1)) = M by omega] at hR
    have e1 : enc4 Z M ++ B = enc4 Z j ++ be 4 (Z.getD j 0) ++ (R ++ B) := by rw [hR]; simp
    have e2 : (enc4 Z M ++ B).take q = enc4 Z j ++ (be 4 (Z.getD j 0) ++ (R ++ B).take (q - (enc4 Z j ++ be 4 (Z.getD j 0)).length)) := by
      rw [e1, take_past _ _ _ (by rw [List.length_append, enc4_len, be_len]; omega), List.append_assoc]
    have hp : cutP q j = (enc4 Z j).length := by unfold cutP; rw [enc4_len, if_pos (by omega)]
    have hf : cutF q j = false := by unfold cutF; simp; omega
    rw [extract_take, e2, hp, hf]
    obtain ⟨h1, h2, h3⟩ := num_back (enc4 Z j) ((R ++ B).take (q - (enc4 Z j ++ be 4 (Z.getD j 0)).length)) 4 4 (Z.getD j 0) rfl (by omega)
    refine ⟨?_, ?_, ?_⟩
    · rw [h1, low4, if_pos h]
    · rw [h2, enc4_len]; unfold cutP; rw [if_pos h]; omega
    · rw [h3]; unfold cutF; simp; omega
  · have hs : ((⟨(enc4 Z M ++ B).toArray⟩ : ByteArray).extract 0 q).size = q := by
      rw [ByteArray.size_extract]
      show min q (enc4 Z M ++ B).toArray.size - 0 = q
      simp only [List.size_toArray]
      omega
    generalize (⟨(enc4 Z M ++ B).toArray⟩ : ByteArray).extract 0 q = s at *
    have ok : takeOk s (cutP q j) (cutF q j) ((4 : Nat) : Int) = false := by
      unfold takeOk cutF
      rw [hs]
      by_cases h2 : q < 4 * j
      · simp [h2]
      · have : cutP q j = 4 * j := by unfold cutP; rw [if_pos (by omega)]
        rw [this]
        simp
        omega
    obtain ⟨h1, h2, h3⟩ := no_take s _ _ _ ok
    rw [if_neg h]
    unfold numV
    rw [c4]
    refine ⟨by rw [h1]; exact num_empty, ?_, ?_⟩
    · rw [h2]; unfold cutP; rw [if_neg h]; split <;> omega
    · rw [h3]; unfold cutF; simp; omega
/-- a string that is cut within is not read -/
theorem cut_text (Z : List Int) (M : Nat) (y : ByteArray) (hy : y.size ≤ 300) (q : Nat) (hq : q < (enc4 Z M ++ textOf y).length) :
    textS ((⟨(enc4 Z M ++ textOf y).toArray⟩ : ByteArray).extract 0 q) (cutP q M) (cutF q M) = ⟨#[]⟩ ∧
      textF ((⟨(enc4 Z M ++ textOf y).toArray⟩ : ByteArray).extract 0 q) (cutP q M) (cutF q M) = true := by
  have c2 : clamp8 2 = 2 := rfl
  have hl : (textOf y).length = 2 + y.size := by rw [textOf_len, cutTo_short (by omega), toList_size]; omega
  have hL : (enc4 Z M ++ textOf y).length = 4 * M + 2 + y.size := by rw [List.length_append, hl, enc4_len]; omega
  have hs : ((⟨(enc4 Z M ++ textOf y).toArray⟩ : ByteArray).extract 0 q).size = q := by
    rw [ByteArray.size_extract]
    show min q (enc4 Z M ++ textOf y).toArray.size - 0 = q
    simp only [List.size_toArray]
    omega
  by_cases h : 4 * M + 2 ≤ q
  · have e0 : textOf y = be 2 (y.size : Int) ++ y.data.toList := by unfold textOf; rw [cutTo_short (by omega), toList_size]
    have e2 : (enc4 Z M ++ textOf y).take q = enc4 Z M ++ (be 2 (y.size : Int) ++ y.data.toList.take (q - (enc4 Z M ++ be 2 (y.size : Int)).length)) := by
      rw [e0, ← List.append_assoc, take_past _ _ _ (by rw [List.length_append, enc4_len, be_len]; omega), List.append_assoc]
    have hp : cutP q M = (enc4 Z M).length := by unfold cutP; rw [enc4_len, if_pos (by omega)]
    have hf : cutF q M = false := by unfold cutF; simp; omega
    obtain ⟨h1, h2, h3⟩ := num_back (enc4 Z M) (y.data.toList.take (q - (enc4 Z M ++ be 2 (y.size : Int)).length)) 2 2 (y.size : Int) rfl (by omega)
    rw [extract_take, e2] at hs ⊢
    have hn : numOf (be 2 (y.size : Int)) = (y.size : Int) := by
      rw [numOf_be _ _ (by omega)]
      simp only [Int.reducePow]
      omega
    rw [hn] at h1
    rw [hp, hf]
    generalize (⟨(enc4 Z M ++ (be 2 (y.size : Int) ++ y.data.toList.take (q - (enc4 Z M ++ be 2 (y.size : Int)).length))).toArray⟩ : ByteArray) = s at *
    have ok : takeOk s ((enc4 Z M).length + 2) false (y.size : Int) = false := by
      unfold takeOk
      rw [hs, enc4_len]
      simp
      omega
    obtain ⟨g1, g2, g3⟩ := no_take s _ _ _ ok
    unfold textS textF
    rw [h1, h2, h3]
    exact ⟨g1, g3⟩
  · generalize (⟨(enc4 Z M ++ textOf y).toArray⟩ : ByteArray).extract 0 q = s at *
    have ok : takeOk s (cutP q M) (cutF q M) ((2 : Nat) : Int) = false := by
      unfold takeOk cutF
      rw [hs]
      by_cases h2 : q < 4 * M
      · simp [h2]
      · have : cutP q M = 4 * M := by unfold cutP; rw [if_pos (by omega)]
        rw [this]
        simp
        omega
    obtain ⟨g1, g2, g3⟩ := no_take s _ _ _ ok
    unfold textS textF
    rw [c2, g3]
    have ok2 : ∀ p n, takeOk s p true n = false := fun p n => by unfold takeOk; simp
    exact ⟨(no_take s _ _ _ (ok2 _ _)).1, (no_take s _ _ _ (ok2 _ _)).2.2⟩
end Go.Proofs.Ytmomhglcjphieaa
