/- Layer 2's small functions, each called: known, Right, Cut; the reference's Right and Cut. -/
import Derived.Test.YtpfjakcfjpgbmaaGreatDoorZN4
import Derived.Test.YtpfjakcfjpgbmaaGreatDoorProg
namespace Go.Proofs.YtpfjakcfjpgbmaaGreatDoor
set_option linter.unusedVariables false
set_option linter.unusedSimpArgs false
open Go.RowKit

/-- a value of the program's kind 'api.Value' -/
structure Val where
  kind : Int
  n : Int
  s : ByteArray
def Val.enc (v : Val) : Value := .agg #[.int .i64 v.kind, .int .i64 v.n, .string v.s]
def knownB (k : Int) : Bool := decide (0 ≤ k) && decide (k ≤ 2)
def rightB (v : Val) : Bool := knownB v.kind && (decide (v.kind ≠ 2) || decide (v.s.size ≤ 40))

theorem extract_all (s : ByteArray) : s.extract 0 s.size = s := by apply ByteArray.ext; simp

theorem known_any (k : Int) (w : World) : Calls Tryz.prog 123 #[.int .i64 k] w fun e w' => e = .returned (.bool (knownB k)) ∧ w = w' := by
  go_enter Tryz.func123, Tryz.ntmps123
  by_cases h1 : 0 ≤ k
  · by_cases h2 : k ≤ 2
    · go_wp2_with fail
      go_ret
      exact ⟨by simp [knownB, h1, h2], rfl⟩
    · go_wp2_with fail
      go_ret
      exact ⟨by simp [knownB, h1, h2], rfl⟩
  · go_wp2_with fail
    go_ret
    exact ⟨by simp [knownB]; omega, rfl⟩

theorem right_any (v : Val) (w : World) : Calls Tryz.prog 207 #[v.enc] w fun e w' => e = .returned (.bool (rightB v)) ∧ Below w.heap.size w w' := by
  obtain ⟨k, n, s⟩ := v
  show Calls _ _ #[.agg #[.int .i64 k, .int .i64 n, .string s]] _ _
  have hb : Below w.heap.size w (w.alloc (Obj.cells #[.int .i64 k, .int .i64 n, .string s] 101)) := (Below.refl _ _).alloc (Nat.le_refl _) _
  go_enter Tryz.func207, Tryz.ntmps207
  go_wp2_with fail
  refine (known_any k _).mono ?_
  rintro e w1 ⟨rfl, rfl⟩
  cases hk : knownB k
  · go_wp2_with fail
    go_ret
    exact ⟨by simp [rightB, hk], hb⟩
  · by_cases h2 : k = 2
    · subst h2
      go_wp2_with fail
      go_ret
      exact ⟨by simp [rightB, hk]; omega, hb⟩
    · have h3 : (k == 2) = false := by simp [h2]
      go_wp2_with fail
      go_ret
      exact ⟨by simp [rightB, hk, h2], hb⟩
theorem rright_any (v : Val) (w : World) : Calls Tryz.prog 325 #[v.enc] w fun e w' => e = .returned (.bool (rightB v)) ∧ Below w.heap.size w w' := by
  obtain ⟨k, n, s⟩ := v
  show Calls _ _ #[.agg #[.int .i64 k, .int .i64 n, .string s]] _ _
  have hb : Below w.heap.size w (w.alloc (Obj.cells #[.int .i64 k, .int .i64 n, .string s] 101)) := (Below.refl _ _).alloc (Nat.le_refl _) _
  go_enter Tryz.func325, Tryz.ntmps325
  by_cases h0 : k = 0
  · subst h0
    go_wp2_with fail
    go_ret
    exact ⟨by simp [rightB, knownB], hb⟩
  · by_cases h1 : k = 1
    · subst h1
      go_wp2_with fail
      go_ret
      exact ⟨by simp [rightB, knownB], hb⟩
    · by_cases h2 : k = 2
      · subst h2
        go_wp2_with fail
        go_ret
        exact ⟨by simp [rightB, knownB]; omega, hb⟩
      · have e0 : (k == 0) = false := by simp [h0]
        have e1 : (k == 1) = false := by simp [h1]
        have e2 : (k == 2) = false := by simp [h2]
        go_wp2_with fail
        go_ret
        exact ⟨by simp [rightB, knownB]; omega, hb⟩
theorem cut_any (s : ByteArray) (w : World) : Calls Tryz.prog 198 #[.string s] w fun e w' => e = .returned (.string (s.extract 0 (min s.size 16))) ∧ w = w' := by
  go_enter Tryz.func198, Tryz.ntmps198
  by_cases h : 16 < s.size
  · have h1 : (16 : Int) < (s.size : Int) := by omega
    have h2 : (16 : Int) ≤ (s.size : Int) := by omega
    go_wp2_with fail
    go_ret
    exact ⟨by rw [Nat.min_eq_right (by omega)]; rfl, rfl⟩
  · have h1 : ¬ (16 : Int) < (s.size : Int) := by omega
    go_wp2_with fail
    go_ret
    exact ⟨by rw [Nat.min_eq_left (by omega), extract_all]; rfl, rfl⟩
theorem rcut_any (s : ByteArray) (w : World) : Calls Tryz.prog 318 #[.string s] w fun e w' => e = .returned (.string (s.extract 0 (min s.size 16))) ∧ w = w' := by
  go_enter Tryz.func318, Tryz.ntmps318
  by_cases h : 16 < s.size
  · have h1 : (16 : Int) < (s.size : Int) := by omega
    have h2 : (16 : Int) ≤ (s.size : Int) := by omega
    go_wp2_with fail
    go_ret
    exact ⟨by rw [Nat.min_eq_right (by omega)]; rfl, rfl⟩
  · have h1 : ¬ (16 : Int) < (s.size : Int) := by omega
    go_wp2_with fail
    go_ret
    exact ⟨by rw [Nat.min_eq_left (by omega), extract_all]; rfl, rfl⟩
end Go.Proofs.YtpfjakcfjpgbmaaGreatDoor
