/- The examples of the chapter, which every law asks first, hold. -/
import Derived.Test.YtmomhglcjphieaaText
namespace Go.Proofs.Ytmomhglcjphieaa
set_option linter.unusedVariables false
open Go.RowKit

theorem put_at (n m : Int) (l : List UInt8) (h : be (clamp8 m) n = l) (w : World) :
    Calls Try.prog 14 #[.int .i64 n, .int .i64 m] w fun e w' => e = .returned (.string ⟨l.toArray⟩) ∧ Below w.heap.size w w' := by
  rw [← h]; exact put_any n m w
theorem text_at (s : ByteArray) (hs : s.size ≤ maxLen) (l : List UInt8) (h : textOf s = l) (w : World) :
    Calls Try.prog 16 #[.string s] w fun e w' => e = .returned (.string ⟨l.toArray⟩) ∧ Below w.heap.size w w' := by
  rw [← h]; exact text_any s w hs
theorem sum_at (s : ByteArray) (hs : s.size ≤ maxLen) (n : Int) (h : ((sumOf s : Nat) : Int) = n) (w : World) :
    Calls Try.prog 18 #[.string s] w fun e w' => e = .returned (.int .u32 n) ∧ Below w.heap.size w w' := by
  rw [← h]; exact sum_any s w hs

set_option maxHeartbeats 400000 in
theorem sanity_any (w : World) : Calls Try.prog 13 #[] w fun e w' => e = .returned (.bool true) ∧ Below w.heap.size w w' := by
  go_enter Try.func13, Try.ntmps13
  go_wp2_with fail
  refine (put_at 258 2 [1, 2] (by decide) _).mono ?_
  rintro e w1 ⟨rfl, b1⟩
  go_wp2_with fail
  refine (put_at (-1) 1 [255] (by decide) _).mono ?_
  rintro e w2 ⟨rfl, b2⟩
  have c2 := Lib.hid (b1.trans (b2.mono b1.size))
  clear b2
  go_wp2_with fail
  refine (text_at ⟨#[97, 98]⟩ (by decide) [0, 2, 97, 98] (by decide) _).mono ?_
  rintro e w3 ⟨rfl, b3⟩
  have c3 := Lib.hid (c2.out.trans (b3.mono c2.out.size))
  clear b3 c2
  go_wp2_with fail
  refine (sum_at ⟨#[]⟩ (by decide) 1 (by decide) _).mono ?_
  rintro e w4 ⟨rfl, b4⟩
  have c4 := Lib.hid (c3.out.trans (b4.mono c3.out.size))
  clear b4 c3
  go_wp2_with fail
  refine (sum_at ⟨#[97]⟩ (by decide) 6422626 (by decide) _).mono ?_
  rintro e w5 ⟨rfl, b5⟩
  have c5 := Lib.hid (c4.out.trans (b5.mono c4.out.size))
  clear b5 c4
  go_wp2_with fail
  go_ret
  exact ⟨rfl, c5.out⟩

end Go.Proofs.Ytmomhglcjphieaa
