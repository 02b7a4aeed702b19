/- A run of new blocks; seat-free. -/
import Derived.Test.YtpfjakcfjpgbmaaGreatDoorLib
import Derived.Test.YtpfjakcfjpgbmaaGreatDoorRep
namespace Go.Proofs.YtpfjakcfjpgbmaaGreatDoor
set_option linter.unusedVariables false
set_option linter.unusedSimpArgs false
open Go.RowKit

/-- a run of new blocks -/
def allocs (w : World) (os : List Obj) : World := os.foldl World.alloc w
theorem allocs_size : ∀ (os : List Obj) (w : World), (allocs w os).heap.size = w.heap.size + os.length
  | [], _ => rfl
  | o :: r, w => (allocs_size r (w.alloc o)).trans (by simp; omega)
theorem allocs_below (B : Nat) : ∀ (os : List Obj) (a w : World), Below B a w → B ≤ w.heap.size → Below B a (allocs w os)
  | [], _, _, h, _ => h
  | o :: r, a, w, h, hs => allocs_below B r a (w.alloc o) (h.alloc hs o) (by simp; omega)
theorem allocs_at : ∀ (os : List Obj) (w : World) (k : Nat), k < os.length → (allocs w os).heap[w.heap.size + k]? = os[k]?
  | o :: r, w, 0, _ => by
    have hb := allocs_below (w.alloc o).heap.size r (w.alloc o) (w.alloc o) (Below.refl _ _) (Nat.le_refl _)
    exact (hb.block w.heap.size (by simp)).trans (heap_alloc_new w o)
  | o :: r, w, k + 1, hk => by
    have h := allocs_at r (w.alloc o) k (by simpa using hk)
    rw [World.size_alloc] at h
    rw [show w.heap.size + (k + 1) = w.heap.size + 1 + k by omega]
    exact h
theorem allocs_get {w W : World} {os : List Obj} (h : allocs w os = W) (k : Nat) {o : Obj} (ho : os[k]? = some o) : W.heap[w.heap.size + k]? = some o := by
  rw [← h, allocs_at os w k (List.getElem?_eq_some_iff.1 ho).1, ho]
theorem allocs_self {w W : World} {os : List Obj} (h : allocs w os = W) : Below w.heap.size w W := h ▸ allocs_below _ os w w (Below.refl _ _) (Nat.le_refl _)
end Go.Proofs.YtpfjakcfjpgbmaaGreatDoor
