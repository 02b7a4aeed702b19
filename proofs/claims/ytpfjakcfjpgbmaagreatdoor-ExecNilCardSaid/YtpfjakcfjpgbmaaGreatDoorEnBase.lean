/- Lists and boxes, for few. -/
import Derived.Test.YtpfjakcfjpgbmaaGreatDoorPData
import Derived.Test.YtpfjakcfjpgbmaaGreatDoorStrF
import Derived.Test.YtpfjakcfjpgbmaaGreatDoorAppendFlat
import Derived.Lib.Hide
namespace Go.Proofs.YtpfjakcfjpgbmaaGreatDoor
set_option linter.unusedVariables false
set_option linter.unusedSimpArgs false
open Go.RowKit

theorem info_parts {P : Program} {e : TypeId} {z : Value} {size bytes : Nat} (h : (P.info? e).map (fun i => (i.zero, i.size, i.bytes)) = some (some z, size, bytes)) : ∃ i, P.info? e = some i ∧ i.zero = some z ∧ i.size = size ∧ i.bytes = bytes := by
  cases hi : P.info? e with
  | none => rw [hi] at h; cases h
  | some i =>
    rw [hi] at h
    simp only [Option.map_some, Option.some.injEq, Prod.mk.injEq] at h
    exact ⟨i, rfl, h.1, h.2.1, h.2.2⟩
theorem owns_mt7 {w : World} {B q : Nat} {e : TypeId} (sz : Nat) (hB : B ≤ q) (h : w.heap[q]? = some (.cells #[] e (0, 0))) : w.ownsRow B e sz (.slice (some ⟨q, 0, none⟩) 0 0) 0 [] :=
  ⟨by simp, Or.inr ⟨q, 0, #[], rfl, hB, h, Nat.le_refl _, Nat.zero_le _, by simp, by simp⟩⟩
/-- a slice in a new block, or nil -/
def NewSl (v : Value) : Prop := v = .slice none 0 0 ∨ ∃ g n c, v = .slice (some ⟨g, 0, none⟩) n c
theorem new_shape {w : World} {B : Nat} {e : TypeId} {sz n : Nat} {v : Value} {xs : List Value} (h : w.ownsRow B e sz v n xs) : ∃ a n c, v = .slice a n c ∧ NewSl (.slice a n c) := by
  obtain ⟨hlen, ⟨rfl, h0⟩ | ⟨g, cap, cur, rfl, h1, h2⟩⟩ := h
  · exact ⟨_, _, _, rfl, .inl rfl⟩
  · exact ⟨_, _, _, rfl, .inr ⟨_, _, _, rfl⟩⟩
theorem row_take {α : Type} {R : Rep α} {p : Nat → Prop} {w : World} {a : Option Addr} {L : List α} (h : RowAt R p w a L) (n : Nat) : RowAt R p w a (L.take n) := by
  rcases h with rfl | ⟨b, off, ha, hp, hb, h⟩
  · exact Or.inl (by simp)
  · refine Or.inr ⟨b, off, ha, hp, hb.sub (Nat.le_refl _) (by rw [List.length_take]; have := Nat.mul_le_mul_right R.sz (Nat.min_le_right n L.length); omega), fun t ht => ?_⟩
    have h1 : t < L.length := by simp at ht; omega
    rw [List.getElem_take]
    exact h t h1
theorem flat_cells {α : Type} {enc : α → List Value} (h : ∀ x, ∀ u ∈ enc x, u.oneCell' = true) (L : List α) : ∀ u ∈ L.flatMap enc, u.oneCell' = true := by
  intro u hu
  obtain ⟨x, _, hx⟩ := List.mem_flatMap.1 hu
  exact h x u hx
theorem valL_cells (L : List Val) : ∀ u ∈ L.flatMap valEnc, u.oneCell' = true := flat_cells (fun c u hu => by
  simp only [valEnc, List.mem_cons, List.not_mem_nil, or_false] at hu
  rcases hu with rfl | rfl | rfl <;> rfl) L
theorem setL_cells (L : List SetV) : ∀ u ∈ L.flatMap setEnc, u.oneCell' = true := flat_cells (fun c u hu => by
  simp only [setEnc, List.mem_cons, List.not_mem_nil, or_false] at hu
  rcases hu with rfl | rfl | rfl | rfl | rfl <;> rfl) L
theorem condL_cells (L : List Cond) : ∀ u ∈ L.flatMap condEnc, u.oneCell' = true := flat_cells (fun c u hu => by
  simp only [condEnc, List.mem_cons, List.not_mem_nil, or_false] at hu
  rcases hu with rfl | rfl | rfl | rfl | rfl <;> rfl) L
theorem min_len8 {α : Type} (l : List α) : (if (8 : Int) < ((l.length : Nat) : Int) then (8 : Int) else ((l.length : Nat) : Int)) = ((l.take 8).length : Nat) := by
  rw [List.length_take]; split <;> omega
theorem grow_set1 (w : World) (b j : Nat) (v : Value) : w.grownBy (w.setCell ⟨b, j, none⟩ v) (some b) :=
  ⟨rfl, rfl, rfl, by simp, fun k hk hne => heap_setCell_other w ⟨b, j, none⟩ k v (fun e => hne (by rw [e]))⟩
theorem grown_then {w w1 w2 : World} {r : Option Nat} (h : w.grownBy w1 r) (b : Below w1.heap.size w1 w2) : w.grownBy w2 r :=
  ⟨b.os.trans h.os, b.tape.trans h.tape, b.output.trans h.output, Nat.le_trans h.size b.size, fun k hk hn => (b.block k (Nat.lt_of_lt_of_le hk h.size)).trans (h.block k hk hn)⟩
theorem lt_of_box {w : World} {b : Nat} {o : Obj} (h : w.heap[b]? = some o) : b < w.heap.size := (Array.getElem?_eq_some_iff.1 h).1
/-- the box b holds C; all else of w is as it was -/
structure FX (b : Nat) (w : World) (C : Array Value) (wx : World) : Prop where
  box : wx.heap[b]? = some (.cells C 34 (0, 0))
  g : w.grownBy wx (some b)
theorem FX.below {b : Nat} {w wx wy : World} {C : Array Value} (h : FX b w C wx) (hb : Below wx.heap.size wx wy) : FX b w C wy :=
  ⟨(hb.block _ (lt_of_box h.box)).trans h.box, grown_then h.g hb⟩
theorem FX.put {b : Nat} {w wx : World} {C : Array Value} (h : FX b w C wx) (j : Nat) (v : Value) : FX b w (C.setIfInBounds j v) (wx.setCell ⟨b, j, none⟩ v) :=
  ⟨heap_setCell_same _ _ _ _ _ _ h.box, h.g.trans (grow_set1 wx b j v)⟩
def setsN (w : World) (g : Nat) : Nat → List Value → World
  | _, [] => w
  | j, v :: r => setsN (w.setCell ⟨g, j, none⟩ v) g (j + 1) r
def writesN (c : Array Value) : Nat → List Value → Array Value
  | _, [] => c
  | j, v :: r => writesN (c.setIfInBounds j v) (j + 1) r
theorem setsN_heap {T : TypeId} (g : Nat) : ∀ (vs : List Value) (j : Nat) (w : World) (c : Array Value), w.heap[g]? = some (.cells c T (0, 0)) → (setsN w g j vs).heap[g]? = some (.cells (writesN c j vs) T (0, 0))
  | [], _, _, _, h => h
  | v :: r, j, w, c, h => setsN_heap g r (j + 1) _ _ (heap_setCell_same _ _ j _ _ v h)
theorem setsN_grown (g : Nat) : ∀ (vs : List Value) (j : Nat) (w : World), w.grownBy (setsN w g j vs) (some g)
  | [], _, w => grownBy_refl _ _
  | v :: r, j, w => (grow_set1 w g j v).trans (setsN_grown g r (j + 1) _)
theorem st_set {w1 : World} {g : Nat} {x0 x1 x2 x3 x4 x5 x6 x7 x8 x9 x10 x11 x12 x13 x14 : Value} (q : w1.heap[g]? = some (.cells #[x0, x1, x2, x3, x4, x5, x6, x7, x8, x9, x10, x11, x12, x13, x14] 34 (0, 0))) (a0 a1 a2 a3 a4 a5 a6 a7 a8 a9 a10 a11 a12 a13 a14 : Value) :
    (((((((((((((((w1.setCell ⟨g, 0, none⟩ a0).setCell ⟨g, 1, none⟩ a1).setCell ⟨g, 2, none⟩ a2).setCell ⟨g, 3, none⟩ a3).setCell ⟨g, 4, none⟩ a4).setCell ⟨g, 5, none⟩ a5).setCell ⟨g, 6, none⟩ a6).setCell ⟨g, 7, none⟩ a7).setCell ⟨g, 8, none⟩ a8).setCell ⟨g, 9, none⟩ a9).setCell ⟨g, 10, none⟩ a10).setCell ⟨g, 11, none⟩ a11).setCell ⟨g, 12, none⟩ a12).setCell ⟨g, 13, none⟩ a13).setCell ⟨g, 14, none⟩ a14).heap[g]? = some (.cells #[a0, a1, a2, a3, a4, a5, a6, a7, a8, a9, a10, a11, a12, a13, a14] 34 (0, 0)) ∧ w1.grownBy (((((((((((((((w1.setCell ⟨g, 0, none⟩ a0).setCell ⟨g, 1, none⟩ a1).setCell ⟨g, 2, none⟩ a2).setCell ⟨g, 3, none⟩ a3).setCell ⟨g, 4, none⟩ a4).setCell ⟨g, 5, none⟩ a5).setCell ⟨g, 6, none⟩ a6).setCell ⟨g, 7, none⟩ a7).setCell ⟨g, 8, none⟩ a8).setCell ⟨g, 9, none⟩ a9).setCell ⟨g, 10, none⟩ a10).setCell ⟨g, 11, none⟩ a11).setCell ⟨g, 12, none⟩ a12).setCell ⟨g, 13, none⟩ a13).setCell ⟨g, 14, none⟩ a14) (some g) := by
  have h1 := setsN_heap (T := 34) g [a0, a1, a2, a3, a4, a5, a6, a7, a8, a9, a10, a11, a12, a13, a14] 0 w1 _ q
  have h2 := setsN_grown g [a0, a1, a2, a3, a4, a5, a6, a7, a8, a9, a10, a11, a12, a13, a14] 0 w1
  have e : writesN #[x0, x1, x2, x3, x4, x5, x6, x7, x8, x9, x10, x11, x12, x13, x14] 0 [a0, a1, a2, a3, a4, a5, a6, a7, a8, a9, a10, a11, a12, a13, a14] = #[a0, a1, a2, a3, a4, a5, a6, a7, a8, a9, a10, a11, a12, a13, a14] := by kernel_rfl
  rw [e] at h1
  exact ⟨h1, h2⟩
end Go.Proofs.YtpfjakcfjpgbmaaGreatDoor
