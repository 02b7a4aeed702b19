/- Two access paths that differ, compared by ==. -/
import Derived.Test.YtajlngkakpjncaaDoorData
namespace Go.Proofs.YtajlngkakpjncaaDoor
set_option linter.unusedVariables false
set_option linter.unusedSimpArgs false
open Go.RowKit

theorem way_neq (a b : Way) (h : a ≠ b) (w : World) : (binOp .eql 52 (.agg #[.int .i64 a.index, .string a.lo, .string a.hi, .int .i64 a.cost]) (.agg #[.int .i64 b.index, .string b.lo, .string b.hi, .int .i64 b.cost])).run Tryd.prog w = .ok (.bool false) w := by
  obtain ⟨ai, al, ah, ac⟩ := a
  obtain ⟨bi, bl, bh, bc⟩ := b
  have e : ∀ x y : ByteArray, x.toList = y.toList → x = y := fun x y h => (sEq_iff x y).1 (by unfold sEq; simpa using h)
  by_cases h1 : ai = bi
  · by_cases h2 : al.toList = bl.toList
    · by_cases h3 : ah.toList = bh.toList
      · by_cases h4 : ac = bc
        · exact absurd (by rw [h1, e _ _ h2, e _ _ h3, h4]) h
        · simp [go_sem, h1, h2, h3, h4]
      · simp [go_sem, h1, h2, h3]
    · simp [go_sem, h1, h2]
  · simp [go_sem, h1]
end Go.Proofs.YtajlngkakpjncaaDoor
