/- vintnerref19.take and vintnerref19.Value. -/
import Derived.Test.YtajlngkakpjncaaDoorZP9
import Derived.Test.YtajlngkakpjncaaDoorZP8
import Derived.Test.YtajlngkakpjncaaDoorZP22
import Derived.Laws.IdiomStrings
namespace Go.Proofs.YtajlngkakpjncaaDoor
set_option linter.unusedVariables false
set_option linter.unusedSimpArgs false
open Go.RowKit

def takeV (L : List Int) (at_ : Nat) (n : Int) : Int := if at_ < L.length then L.getD at_ 0 % n else 0
theorem takeV_bd (L : List Int) (at_ : Nat) (n : Int) (hn : 0 < n) : 0 ≤ takeV L at_ n ∧ takeV L at_ n < n := by
  unfold takeV
  split
  · exact ⟨Int.emod_nonneg _ (by omega), Int.emod_lt_of_pos _ hn⟩
  · omega
theorem emod_eq (x n : Int) (hn : 0 < n) (hn2 : n ≤ 1000000000) : (wrap64 (x.tmod n + n)).tmod n = x % n := by
  have h1 : (x.tmod n).natAbs < n.natAbs := by rw [Int.natAbs_tmod]; exact Nat.mod_lt _ (by omega)
  have h2 : wrap64 (x.tmod n + n) = x.tmod n + n := by
    have := IntKind.wrap_i64 (x.tmod n + n)
    simp only [wrap64]
    omega
  rw [h2, Int.tmod_eq_emod_of_nonneg (by omega), Int.add_emod_right]
  rw [Int.tmod_eq_emod]
  split
  · simp
  · rw [show ((n.natAbs : Nat) : Int) = n by omega]; simp
set_option maxHeartbeats 4000000 in
theorem take_any {p : Nat → Prop} {a : Option Addr} {cap : Nat} {L : List Int} {w : World} (h : SlV intR p w (.slice a L.length cap) L) (k : Nat) (n : Int) (hn : 0 < n) (hn2 : n ≤ 1000000000) :
    Calls Tryd.prog 25 #[.slice a L.length cap, .int .i64 k, .int .i64 n] w fun e w' => e = .returned (.int .i64 (takeV L k n)) ∧ w' = w := by
  obtain ⟨_, _, hL, hr⟩ := h.row
  clear h
  by_cases hlt : k < L.length
  · obtain ⟨b, off, rfl, _, hb⟩ := hr.addr (by intro e; rw [e] at hlt; cases hlt)
    have c0 := hr.int k hlt
    have e0 : takeV L k n = L[k] % n := by unfold takeV; rw [if_pos hlt, List.getD_eq_getElem?_getD, List.getElem?_eq_getElem hlt]; rfl
    have E0 := Lib.hid e0
    have E1 := Lib.hid (emod_eq L[k] n hn hn2)
    generalize L[k] = x at *
    clear hr e0
    go_enter Tryd.func25, Tryd.ntmps25
    go_wp2_with fail
    go_ret
    exact ⟨by rw [E0.out, E1.out]; rfl, rfl⟩
  · have e0 : takeV L k n = 0 := by unfold takeV; rw [if_neg hlt]
    rw [e0]
    clear hr e0
    go_enter Tryd.func25, Tryd.ntmps25
    go_wp2_with fail
    go_ret
    exact ⟨rfl, rfl⟩

theorem take_at {p : Nat → Prop} {a : Option Addr} {cap : Nat} {L : List Int} {w : World} (h : SlV intR p w (.slice a L.length cap) L) (i : Int) (hi : 0 ≤ i) (n : Int) (hn : 0 < n) (hn2 : n ≤ 1000000000) :
    Calls Tryd.prog 25 #[.slice a L.length cap, .int .i64 i, .int .i64 n] w fun e w' => e = .returned (.int .i64 (takeV L i.toNat n)) ∧ w' = w := by
  obtain ⟨k, rfl⟩ : ∃ k : Nat, i = k := ⟨i.toNat, by omega⟩
  exact take_any h k n hn hn2
theorem addr_zero (a : Addr) : a.add 0 = a := by obtain ⟨b, o, k⟩ := a; cases k <;> simp [Addr.add]
def longS : ByteArray := ⟨#[97, 32, 108, 111, 110, 103, 32, 98, 101, 103, 105, 110, 110, 105, 110, 103]⟩
def oneS (z : Int) : ByteArray := ⟨#[UInt8.ofNat z.toNat]⟩
theorem one_back (W : World) (b : Nat) (z : Int) (h0 : 0 ≤ z) (h1 : z ≤ 255) (hb : b = W.heap.size) :
    (convert 82 9 (.slice (some ⟨b, 0, none⟩) 1 1)).run Tryd.prog (W.alloc (.cells #[.int .u8 z] 5)) = .ok (.string (oneS z)) (W.alloc (.cells #[.int .u8 z] 5)) := by
  subst hb
  have hz : ((UInt8.ofNat z.toNat).toNat : Int) = z := by
    rw [UInt8.toNat_ofNat']
    omega
  exact run_convert_bytes_back (W.alloc (.cells #[.int .u8 z] 5)) 82 9 5 ⟨W.heap.size, 0, none⟩ 1 [UInt8.ofNat z.toNat] Tryd.underlying82 Tryd.underlying5 Tryd.underlying9 (fun j hj => by
    have hj0 : j = 0 := by simpa using hj
    subst hj0
    rw [addr_zero, cells_of (heap_alloc_new W _)]
    simp
    omega)
def valOf (n : Int) : Val :=
  let k := n % 40
  if k < 16 then ⟨1, k - 5, noStr⟩ else
  if k < 24 then ⟨2, 0, oneS (97 + k - 16)⟩ else
  if k < 36 then ⟨2, 0, longS ++ oneS (97 + k - 24)⟩ else
  if k < 38 then ⟨1, n, noStr⟩ else ⟨0, 0, noStr⟩
set_option maxRecDepth 100000 in
set_option maxHeartbeats 4000000 in
theorem value_any (n : Int) (hn : -9223372036854775808 ≤ n ∧ n ≤ 9223372036854775807) (w : World) :
    Calls Tryd.prog 14 #[.int .i64 n] w fun e w' => e = .returned (.agg #[.int .i64 (valOf n).kind, .int .i64 (valOf n).n, .string (valOf n).s]) ∧ Below w.heap.size w w' := by
  have E1 := Lib.hid (emod_eq n 40 (by decide) (by decide))
  obtain ⟨k, hk, hk0, hk1⟩ : ∃ k, n % 40 = k ∧ 0 ≤ k ∧ k < 40 := ⟨_, rfl, by omega, by omega⟩
  have e1 : (wrap64 (n.tmod 40 + 40)).tmod 40 = k := by rw [E1.out, hk]
  by_cases h1 : k < 16
  · have hv : valOf n = ⟨1, k - 5, noStr⟩ := by unfold valOf; simp only [hk]; rw [if_pos h1]
    rw [hv]
    clear hv hk E1
    go_enter Tryd.func14, Tryd.ntmps14
    go_wp2_with fail
    refine bodyPost_ret (v := .agg #[.int .i64 1, .int .i64 (k - 5), .string ⟨#[]⟩]) (by simp [results, Tryd.results14, go_sem]) rfl ⟨rfl, (Below.refl _ _).alloc (Nat.le_refl _) _⟩
  by_cases h2 : k < 24
  · have hv : valOf n = ⟨2, 0, oneS (97 + k - 16)⟩ := by unfold valOf; simp only [hk]; rw [if_neg h1, if_pos h2]
    rw [hv]
    have q := one_back (w.alloc (.cells #[.int .i64 0, .int .i64 0, .string ⟨#[]⟩] 41)) (w.heap.size + 1) (97 + k - 16) (by omega) (by omega) (by simp)
    clear hv hk E1
    go_enter Tryd.func14, Tryd.ntmps14
    go_wp2_with fail
    refine bodyPost_ret (v := .agg #[.int .i64 2, .int .i64 0, .string (oneS (97 + k - 16))]) (by simp [results, Tryd.results14, go_sem]) rfl ⟨rfl, ((Below.refl _ _).alloc (Nat.le_refl _) _).alloc (by simp) _⟩
  by_cases h3 : k < 36
  · have hv : valOf n = ⟨2, 0, longS ++ oneS (97 + k - 24)⟩ := by unfold valOf; simp only [hk]; rw [if_neg h1, if_neg h2, if_pos h3]
    rw [hv]
    have q := one_back (w.alloc (.cells #[.int .i64 0, .int .i64 0, .string ⟨#[]⟩] 41)) (w.heap.size + 1) (97 + k - 24) (by omega) (by omega) (by simp)
    clear hv hk E1
    go_enter Tryd.func14, Tryd.ntmps14
    have hsz : (oneS (97 + k - 24)).size = 1 := rfl
    go_wp2_with fail
    refine bodyPost_ret (v := .agg #[.int .i64 2, .int .i64 0, .string (longS ++ oneS (97 + k - 24))]) (by simp [results, Tryd.results14, go_sem, longS]) rfl ⟨rfl, ((Below.refl _ _).alloc (Nat.le_refl _) _).alloc (by simp) _⟩
  by_cases h4 : k < 38
  · have hv : valOf n = ⟨1, n, noStr⟩ := by unfold valOf; simp only [hk]; rw [if_neg h1, if_neg h2, if_neg h3, if_pos h4]
    rw [hv]
    clear hv hk E1
    go_enter Tryd.func14, Tryd.ntmps14
    go_wp2_with fail
    refine bodyPost_ret (v := .agg #[.int .i64 1, .int .i64 n, .string ⟨#[]⟩]) (by simp [results, Tryd.results14, go_sem]) rfl ⟨rfl, (Below.refl _ _).alloc (Nat.le_refl _) _⟩
  · have hv : valOf n = ⟨0, 0, noStr⟩ := by unfold valOf; simp only [hk]; rw [if_neg h1, if_neg h2, if_neg h3, if_neg h4]
    rw [hv]
    clear hv hk E1
    go_enter Tryd.func14, Tryd.ntmps14
    go_wp2_with fail
    refine bodyPost_ret (v := .agg #[.int .i64 0, .int .i64 0, .string ⟨#[]⟩]) (by simp [results, Tryd.results14, go_sem]) rfl ⟨rfl, (Below.refl _ _).alloc (Nat.le_refl _) _⟩
end Go.Proofs.YtajlngkakpjncaaDoor
