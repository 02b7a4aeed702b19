/- The reference's Key; the key of a single value, the program's and the reference's. -/
import Derived.Test.YtpfjakcfjpgbmaaGreatDoorZN21
import Derived.Test.YtpfjakcfjpgbmaaGreatDoorZN14
import Derived.Test.YtpfjakcfjpgbmaaGreatDoorZN6
namespace Go.Proofs.YtpfjakcfjpgbmaaGreatDoor
set_option linter.unusedVariables false
set_option linter.unusedSimpArgs false
open Go.RowKit

theorem valsAt_at {w wr : World} {b off : Nat} {L : List Val} (h : ValsAt w (some ⟨b, off, none⟩) L) (k : Nat) (hk : k < L.length) (hb : Below w.heap.size w wr) :
    wr.cell? ⟨b, off + k * 3, none⟩ = some (.int .i64 (L.getD k default).kind) ∧ wr.cell? ⟨b, off + k * 3 + 1, none⟩ = some (.int .i64 (L.getD k default).n) ∧ wr.cell? ⟨b, off + k * 3 + 2, none⟩ = some (.string (L.getD k default).s) := by
  obtain h0 | ⟨b', off', ha, hc⟩ := h
  · rw [h0] at hk; cases hk
  simp only [Option.some.injEq, Addr.mk.injEq] at ha
  obtain ⟨rfl, rfl, _⟩ := ha
  obtain ⟨c0, c1, c2⟩ := hc k hk
  have hbl := World.block_lt_of_cell? w _ c0
  simp only at hbl
  rw [← hb.cell hbl] at c0 c1 c2
  exact ⟨c0, c1, c2⟩
theorem escB_app : ∀ a b : List UInt8, escB (a ++ b) = escB a ++ escB b
  | [], _ => rfl
  | c :: a, b => by
    rw [List.cons_append, escB, escB, escB_app a b]
    split <;> simp
theorem escB_take (s : ByteArray) (j : Nat) (h : j < s.size) : escB (s.data.toList.take (j + 1)) = escB (s.data.toList.take j) ++ escB [s[j]] := by
  rw [List.take_succ_eq_append_getElem (by simpa using h), escB_app]
  rfl
theorem extract_one (s : ByteArray) (j : Nat) (h : j < s.size) : s.extract j (j + 1) = ⟨[s[j]].toArray⟩ := by
  apply ByteArray.ext
  rw [ByteArray.data_extract]
  apply Array.ext
  · simp; omega
  · intro i h1 h2
    simp at h2
    subst h2
    simp
    rfl
theorem size_be8 (l : List UInt8) (n : Int) (h : l = be 8 n) : (⟨l.toArray⟩ : ByteArray).size = 8 := by
  subst h
  exact be_len 8 n
theorem one_val (w : World) (v : Val) (b : Nat) (h0 : w.cell? ⟨b, 0, none⟩ = some (.int .i64 v.kind)) (h1 : w.cell? ⟨b, 1, none⟩ = some (.int .i64 v.n)) (h2 : w.cell? ⟨b, 2, none⟩ = some (.string v.s)) : ValsAt w (some ⟨b, 0, none⟩) [v] :=
  Or.inr ⟨b, 0, rfl, fun t ht => by
    have : t = 0 := by simpa using ht
    subst this
    exact ⟨h0, h1, h2⟩⟩
theorem pkey_any (v : Val) (hf : v.fine) (w : World) (he : Env w) :
    Calls Tryz.prog 217 #[v.enc] w fun e w' => e = .returned (.string ⟨(keyV v).toArray⟩) ∧ Below w.heap.size w w' := by
  have hK := Lib.hid (keyOf_one v)
  have hb : Below w.heap.size w ((w.alloc (.cells #[.int .i64 v.kind, .int .i64 v.n, .string v.s] 101)).alloc (.cells #[.int .i64 v.kind, .int .i64 v.n, .string v.s] 101)) := ((Below.refl _ _).alloc (Nat.le_refl _) _).alloc (by simp) _
  have HE := Lib.hid (he.below hb)
  have HB := Lib.hid hb
  have HV := Lib.hid (one_val ((w.alloc (.cells #[.int .i64 v.kind, .int .i64 v.n, .string v.s] 101)).alloc (.cells #[.int .i64 v.kind, .int .i64 v.n, .string v.s] 101)) v (w.heap.size + 1) (by go_cell) (by go_cell) (by go_cell))
  have HF := Lib.hid hf
  clear he hb hf
  rw [← hK.out]
  show Calls _ _ #[.agg #[.int .i64 v.kind, .int .i64 v.n, .string v.s]] _ _
  go_enter Tryz.func217, Tryz.ntmps217
  go_wp2_with fail
  cases hr : rightsB [v]
  · refine (key_no _ _ [v] _ HV.out (by simp) hr).mono ?_
    rintro e w2 ⟨rfl, b2⟩
    go_wp2_with fail
    go_ret
    exact ⟨rfl, HB.out.trans (b2.mono HB.out.size)⟩
  · refine (key_yes _ _ [v] _ HV.out hr (by simpa using HF.out) HE.out).mono ?_
    rintro e w2 ⟨rfl, b2⟩
    go_wp2_with fail
    go_ret
    exact ⟨rfl, HB.out.trans (b2.mono HB.out.size)⟩
end Go.Proofs.YtpfjakcfjpgbmaaGreatDoor
