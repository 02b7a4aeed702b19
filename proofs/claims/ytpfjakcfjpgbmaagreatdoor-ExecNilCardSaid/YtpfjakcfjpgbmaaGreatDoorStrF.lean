/- Rows of strings; a row of one's own reads as a slice; seat-free. -/
import Derived.Test.YtpfjakcfjpgbmaaGreatDoorRep
namespace Go.Proofs.YtpfjakcfjpgbmaaGreatDoor
set_option linter.unusedVariables false
set_option linter.unusedSimpArgs false
open Go.RowKit

theorem owns_shape' {w : World} {B : Nat} {e : TypeId} {sz : Nat} {v : Value} {n : Nat} {xs : List Value} (h : w.ownsRow B e sz v n xs) : ∃ a c, v = .slice a n c ∧ (a = none → n = 0) := by
  rcases h.2 with ⟨rfl, h0⟩ | ⟨g, cap, cur, rfl, _⟩
  · subst h0
    exact ⟨none, 0, rfl, (fun _ => rfl)⟩
  · exact ⟨some ⟨g, 0, none⟩, cap, rfl, (fun e => by cases e)⟩
theorem sl_owned {α : Type} {w : World} {B : Nat} {e : TypeId} {sz : Nat} {v : Value} {enc : α → List Value} {hl : ∀ x, (enc x).length = sz} {L : List α} (h : w.ownsRow B e sz v L.length (L.flatMap enc)) (hL : L.length ≤ 140737488355328) : SlV (flatR sz enc hl) (fun k => B ≤ k) w v L := by
  obtain ⟨a, c, hv, h3, h4, _⟩ := RowAt.of_owns_flat (enc := enc) (sz := sz) (hl := hl) (p := fun k => B ≤ k) h (fun _ h => h)
  exact ⟨a, c, hv, h3, hL, h4⟩
def strEnc (s : ByteArray) : List Value := [.string s]
def strF : Rep ByteArray := flatR 1 strEnc fun _ => rfl
theorem str_cells (L : List ByteArray) : ∀ u ∈ L.flatMap strEnc, u.oneCell' = true := by
  intro u hu
  obtain ⟨x, _, hx⟩ := List.mem_flatMap.1 hu
  simp [strEnc] at hx
  subst hx
  rfl
end Go.Proofs.YtpfjakcfjpgbmaaGreatDoor
