/- A block that holds a list of bytes: read, written, turned back into a string. -/
import Derived.Test.YtmomhglcjphieaaLib
namespace Go.Proofs.Ytmomhglcjphieaa
set_option linter.unusedVariables false
open Go.RowKit

def BytesAt (w : World) (b : Nat) (l : List UInt8) : Prop :=
  ∃ c t lo hi, w.heap[b]? = some (.cells c t (lo, hi)) ∧ l.length ≤ lo ∧ ∀ j, j < l.length → c[j]? = some (.int .u8 ((l.getD j 0).toNat : Nat))

theorem BytesAt.cell {w : World} {b : Nat} {l : List UInt8} (h : BytesAt w b l) (j : Nat) (hj : j < l.length) : w.cell? ⟨b, j, none⟩ = some (.int .u8 ((l.getD j 0).toNat : Nat)) := by
  obtain ⟨c, t, lo, hi, hb, _, hc⟩ := h
  simp only [World.cell?, hb]
  exact hc j hj
theorem BytesAt.free {w : World} {b : Nat} {l : List UInt8} (h : BytesAt w b l) (j : Nat) (hj : j < l.length) : w.frozen? ⟨b, j, none⟩ = false := by
  obtain ⟨c, t, lo, hi, hb, hlo, hc⟩ := h
  simp only [World.frozen?, hb]
  have : ¬ lo ≤ j := by omega
  simp [this]
theorem BytesAt.lt {w : World} {b : Nat} {l : List UInt8} (h : BytesAt w b l) : b < w.heap.size := by
  obtain ⟨c, t, lo, hi, hb, _⟩ := h
  exact lt_of_block hb
theorem BytesAt.of_block {w w' : World} {b : Nat} {l : List UInt8} (h : BytesAt w b l) (hw : w'.heap[b]? = w.heap[b]?) : BytesAt w' b l := by
  obtain ⟨c, t, lo, hi, hb, r⟩ := h
  exact ⟨c, t, lo, hi, hw.trans hb, r⟩
theorem BytesAt.below {w w' : World} {B b : Nat} {l : List UInt8} (h : BytesAt w b l) (hw : Below B w w') (hb : b < B) : BytesAt w' b l := h.of_block (hw.block b hb)
theorem BytesAt.alloc {w : World} {b : Nat} {l : List UInt8} (h : BytesAt w b l) (o : Obj) : BytesAt (w.alloc o) b l := h.of_block (Below.heap_alloc _ _ _ h.lt)
theorem BytesAt.drew {w : World} {b : Nat} {l : List UInt8} (h : BytesAt w b l) : BytesAt w.drew b l := h.of_block rfl
theorem BytesAt.other {w : World} {b k o : Nat} {l : List UInt8} {v : Value} (h : BytesAt w b l) (hne : b ≠ k) : BytesAt (w.setCell ⟨k, o, none⟩ v) b l := h.of_block (Below.heap_setCell _ _ _ _ hne)
theorem BytesAt.set {w : World} {b k : Nat} {l : List UInt8} (h : BytesAt w b l) (x : UInt8) : BytesAt (w.setCell ⟨b, k, none⟩ (.int .u8 (x.toNat : Nat))) b (l.set k x) := by
  obtain ⟨c, t, lo, hi, hb, hlo, hc⟩ := h
  refine ⟨c.setIfInBounds k (.int .u8 (x.toNat : Nat)), t, lo, hi, ?_, by simpa using hlo, fun j hj => ?_⟩
  · have hlt := lt_of_block hb
    have h' : w.heap[b] = .cells c t (lo, hi) := by simpa [Array.getElem?_eq_getElem hlt] using hb
    show (w.heap.modify b _)[b]? = _
    rw [Array.getElem?_eq_getElem (by simpa using hlt), Array.getElem_modify_self, h']
    rfl
  · rw [List.length_set] at hj
    have hcj := hc j hj
    by_cases e : k = j
    · subst e
      have hs : k < c.size := by
        rcases Nat.lt_or_ge k c.size with h | h
        · exact h
        · rw [Array.getElem?_eq_none h] at hcj; cases hcj
      rw [Array.getElem?_setIfInBounds_self_of_lt hs]
      simp [List.getD, hj]
    · rw [Array.getElem?_setIfInBounds_ne e, hcj]
      simp [List.getD, List.getElem?_set_ne e]
theorem BytesAt.made (W : World) (s : ByteArray) (cap : Nat) (E : TypeId) (n : Nat) (hn : s.size ≤ n) : BytesAt (W.alloc (.cells (bytesRow s cap) E (n, n + 1))) W.heap.size s.data.toList := by
  refine ⟨_, _, _, _, heap_alloc_new W _, ?_, fun j hj => ?_⟩
  · rw [Array.length_toList]; exact hn
  · rw [Array.length_toList] at hj
    rw [bytesRow_at s cap j hj]
    have e : s.data.toList.getD j 0 = s.data[j] := by
      rw [List.getD_eq_getElem?_getD, Array.getElem?_toList, Array.getElem?_eq_getElem hj]; rfl
    rw [e]
theorem bytesRow_ge (s : ByteArray) (cap : Nat) : s.size ≤ (bytesRow s cap).size := by
  unfold bytesRow
  rw [Array.size_append, Array.size_map]
  exact Nat.le_add_right _ _
theorem BytesAt.back {P : Program} {w : World} {b : Nat} {l : List UInt8} (h : BytesAt w b l) {src dst e : TypeId} (hs : P.underlying src = some (.slice e)) (he : P.underlying e = some (.int .u8)) (hd : P.underlying dst = some .string) (cap : Nat) :
    (convert src dst (.slice (some ⟨b, 0, none⟩) l.length cap)).run P w = .ok (.string ⟨l.toArray⟩) w := by
  refine run_convert_bytes_back w src dst e ⟨b, 0, none⟩ cap l hs he hd (fun j hj => ?_)
  have e2 : (⟨b, 0, none⟩ : Addr).add j = ⟨b, j, none⟩ := by unfold Addr.add; split <;> simp_all
  rw [e2, h.cell j hj]
  simp [List.getD, hj]
/-- '[]byte(s)' -/
theorem str_bytes {P : Program} (W : World) (s : ByteArray) {src dst e : TypeId} (hs : P.underlying src = some .string) (hd : P.underlying dst = some (.slice e)) (he : P.underlying e = some (.int .u8)) :
    ∃ cap W2, (convert src dst (.string s)).run P W = .ok (.slice (some ⟨W.heap.size, 0, none⟩) s.size cap) W2 ∧ BytesAt W2 W.heap.size s.data.toList ∧ Below W.heap.size W W2 ∧ W2.heap.size = W.heap.size + 1 :=
  ⟨_, _, run_bytes_of_string W src dst e s hs hd he, BytesAt.made W.drew s _ e _ (bytesRow_ge _ _), ((Below.refl _ _).drew).alloc (by simp) _, by simp⟩

end Go.Proofs.Ytmomhglcjphieaa
