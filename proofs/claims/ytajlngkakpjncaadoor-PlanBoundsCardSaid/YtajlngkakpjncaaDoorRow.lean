/- Rows of values in memory; value.right and the reference's RightRow. -/
import Derived.Test.YtajlngkakpjncaaDoorWhole
namespace Go.Proofs.YtajlngkakpjncaaDoor
set_option linter.unusedVariables false
set_option linter.unusedSimpArgs false
open Go.RowKit

instance : Inhabited Val := ⟨⟨0, 0, ⟨#[]⟩⟩⟩
/-- the values L lie one after the other from 'a' on, three cells each -/
def ValsAt (w : World) (a : Option Addr) (L : List Val) : Prop :=
  L = [] ∨ ∃ b off, a = some ⟨b, off, none⟩ ∧ ∀ t, t < L.length → w.cell? ⟨b, off + t * 3, none⟩ = some (.int .i64 (L.getD t default).kind) ∧
    w.cell? ⟨b, off + t * 3 + 1, none⟩ = some (.int .i64 (L.getD t default).n) ∧ w.cell? ⟨b, off + t * 3 + 2, none⟩ = some (.string (L.getD t default).s)
def rightsB (L : List Val) : Bool := L.all rightB && decide (L.length ≤ 6)

theorem getD_mem (L : List Val) (k : Nat) (h : k < L.length) : L.getD k default ∈ L := by
  rw [List.getD_eq_getElem?_getD, List.getElem?_eq_getElem h]
  exact List.getElem_mem h
theorem rights_no (L : List Val) (k : Nat) (h : k < L.length) (hr : rightB (L.getD k default) = false) : rightsB L = false := by
  have : L.all rightB = false := by
    rw [List.all_eq_false]
    exact ⟨_, getD_mem L k h, by rw [hr]; exact Bool.false_ne_true⟩
  simp [rightsB, this]
theorem take_all (L : List Val) (k : Nat) (h : k < L.length) : (L.take (k + 1)).all rightB = ((L.take k).all rightB && rightB (L.getD k default)) := by
  rw [List.take_add_one, List.getElem?_eq_getElem h, List.all_append, List.getD_eq_getElem?_getD, List.getElem?_eq_getElem h]
  simp

theorem rights_any (a : Option Addr) (cap : Nat) (L : List Val) (w : World) (h : ValsAt w a L) (hn : L.length ≤ 140737488351232) :
    Calls Tryd.prog 69 #[.slice a L.length cap] w fun e w' => e = .returned (.bool (rightsB L)) ∧ Below w.heap.size w w' := by
  have H := Lib.hid h
  clear h
  go_enter Tryd.func69, Tryd.ntmps69
  go_wp2_with fail
  go_loopw [7] (fun i wr => ∃ k : Nat, k ≤ L.length ∧ i = .int .i64 k ∧ (L.take k).all rightB = true ∧ Below w.heap.size w wr) (fun i _ => L.length - (intOf i).toNat)
  case atStart => exact ⟨0, by omega, rfl, by simp, Below.refl _ _⟩
  case round =>
    obtain ⟨k, hk, rfl, hall, hb⟩ := hrel
    by_cases h1 : k < L.length
    · obtain h0 | ⟨b, off, rfl, hc⟩ := H.out
      · rw [h0] at h1; cases h1
      obtain ⟨c0, c1, c2⟩ := hc k h1
      have hbl := World.block_lt_of_cell? w _ c0
      simp only at hbl
      rw [← hb.cell hbl] at c0 c1 c2
      have CC := Lib.hid hb
      clear hb hc
      generalize hv : L.getD k default = v at *
      have HV := Lib.hid hv
      clear hv
      obtain ⟨kd, n, s⟩ := v
      simp only at c0 c1 c2
      go_wp2_with fail
      refine (right_any ⟨kd, n, s⟩ _).mono ?_
      rintro e w2 ⟨rfl, b2⟩
      have C2 := Lib.hid ((CC.out.alloc CC.out.size _).trans (b2.mono (by have := CC.out.size; simp; omega)))
      clear b2
      cases hr : rightB ⟨kd, n, s⟩
      · go_wp2_with fail
        go_ret
        exact ⟨by rw [rights_no L k h1 (by rw [HV.out]; exact hr)]; rfl, C2.out⟩
      · go_wp2_with fail
        go_roundw
        case rel => exact ⟨k + 1, by omega, by go_num, by rw [take_all L k h1, hall, HV.out, hr]; rfl, C2.out⟩
        case measure => simp [intOf]; omega
    · have hkl : k = L.length := by omega
      subst hkl
      go_wp2_with fail
      go_ret
      rw [List.take_length] at hall
      exact ⟨by simp only [rightsB, hall, Bool.true_and]; simp; omega, hb⟩

theorem rrights_any (a : Option Addr) (cap : Nat) (L : List Val) (w : World) (h : ValsAt w a L) (hn : L.length ≤ 140737488351232) :
    Calls Tryd.prog 75 #[.slice a L.length cap] w fun e w' => e = .returned (.bool (rightsB L)) ∧ Below w.heap.size w w' := by
  have H := Lib.hid h
  clear h
  go_enter Tryd.func75, Tryd.ntmps75
  go_wp2_with fail
  go_loopw [3] (fun i wr => ∃ k : Nat, k ≤ L.length ∧ i = .int .i64 k ∧ (L.take k).all rightB = true ∧ Below w.heap.size w wr) (fun i _ => L.length - (intOf i).toNat)
  case atStart => exact ⟨0, by omega, rfl, by simp, Below.refl _ _⟩
  case round =>
    obtain ⟨k, hk, rfl, hall, hb⟩ := hrel
    by_cases h1 : k < L.length
    · obtain h0 | ⟨b, off, rfl, hc⟩ := H.out
      · rw [h0] at h1; cases h1
      obtain ⟨c0, c1, c2⟩ := hc k h1
      have hbl := World.block_lt_of_cell? w _ c0
      simp only at hbl
      rw [← hb.cell hbl] at c0 c1 c2
      have CC := Lib.hid hb
      clear hb hc
      generalize hv : L.getD k default = v at *
      have HV := Lib.hid hv
      clear hv
      obtain ⟨kd, n, s⟩ := v
      simp only at c0 c1 c2
      go_wp2_with fail
      refine (rright_any ⟨kd, n, s⟩ _).mono ?_
      rintro e w2 ⟨rfl, b2⟩
      have C2 := Lib.hid (CC.out.trans (b2.mono CC.out.size))
      clear b2
      cases hr : rightB ⟨kd, n, s⟩
      · go_wp2_with fail
        go_ret
        exact ⟨by rw [rights_no L k h1 (by rw [HV.out]; exact hr)]; rfl, C2.out⟩
      · go_wp2_with fail
        go_roundw
        case rel => exact ⟨k + 1, by omega, by go_num, by rw [take_all L k h1, hall, HV.out, hr]; rfl, C2.out⟩
        case measure => simp [intOf]; omega
    · have hkl : k = L.length := by omega
      subst hkl
      go_wp2_with fail
      go_ret
      rw [List.take_length] at hall
      exact ⟨by simp only [rightsB, hall, Bool.true_and]; simp; omega, hb⟩
end Go.Proofs.YtajlngkakpjncaaDoor
