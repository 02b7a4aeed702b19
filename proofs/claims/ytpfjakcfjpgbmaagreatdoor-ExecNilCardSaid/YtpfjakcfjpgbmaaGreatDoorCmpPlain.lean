/- The comparison of values and what fits: plain, no program in sight. -/
import Derived.Test.YtpfjakcfjpgbmaaGreatDoorPVal0
namespace Go.Proofs.YtpfjakcfjpgbmaaGreatDoor
set_option linter.unusedVariables false
set_option linter.unusedSimpArgs false
open Go

def placeV (k : Int) : Int := if k < 0 ∨ 2 < k then 3 else k
def ordI (l m : Bool) : Int := if l then -1 else if m then 1 else 0
def cmpL : List UInt8 → List UInt8 → Int
  | [], [] => 0
  | [], _ :: _ => -1
  | _ :: _, [] => 1
  | a :: x, b :: y => if a = b then cmpL x y else if a.toNat < b.toNat then -1 else 1
theorem cmpL_drop (A B : List UInt8) (k : Nat) (hA : k < A.length) (hB : k < B.length) :
    cmpL (A.drop k) (B.drop k) = if A[k] = B[k] then cmpL (A.drop (k + 1)) (B.drop (k + 1)) else if A[k].toNat < B[k].toNat then -1 else 1 := by
  rw [List.drop_eq_getElem_cons hA, List.drop_eq_getElem_cons hB, cmpL]
theorem cmpL_end (A B : List UInt8) (k : Nat) (h : k = A.length ∨ k = B.length) (hA : k ≤ A.length) (hB : k ≤ B.length) :
    cmpL (A.drop k) (B.drop k) = ordI (decide (A.length < B.length)) (decide (B.length < A.length)) := by
  rcases (show k = A.length ∧ A.length = B.length ∨ k = A.length ∧ A.length < B.length ∨ k = B.length ∧ B.length < A.length by omega) with ⟨h1, h2⟩ | ⟨h1, h2⟩ | ⟨h1, h2⟩
  · rw [List.drop_of_length_le (by omega), List.drop_of_length_le (by omega)]
    simp [cmpL, ordI, h2]
  · rw [List.drop_of_length_le (by omega), List.drop_eq_getElem_cons (by omega)]
    simp [cmpL, ordI, h2]
  · rw [show B.drop k = [] from List.drop_eq_nil_of_le (by omega), List.drop_eq_getElem_cons (by omega)]
    have : ¬ A.length < B.length := by omega
    simp [cmpL, ordI, h2, this]
def cmpV (a b : Val) : Int :=
  if placeV a.kind ≠ placeV b.kind then ordI (decide (placeV a.kind < placeV b.kind)) (decide (placeV b.kind < placeV a.kind))
  else if placeV a.kind = 1 then ordI (decide (a.n < b.n)) (decide (b.n < a.n))
  else if placeV a.kind = 2 then cmpL a.s.data.toList b.s.data.toList else 0
def opOk (op c : Int) : Bool :=
  if op = 1 then c == 0 else if op = 2 then !(c == 0) else if op = 3 then decide (c < 0) else if op = 4 then decide (c ≤ 0) else if op = 5 then decide (0 < c) else if op = 6 then decide (0 ≤ c) else false
def fitsV (a : Val) (op : Int) (b : Val) : Bool :=
  if placeV a.kind = 0 ∨ placeV b.kind = 0 ∨ placeV a.kind = 3 ∨ placeV b.kind = 3 then false
  else if placeV a.kind ≠ placeV b.kind then op == 2
  else opOk op (cmpV a b)
end Go.Proofs.YtpfjakcfjpgbmaaGreatDoor
