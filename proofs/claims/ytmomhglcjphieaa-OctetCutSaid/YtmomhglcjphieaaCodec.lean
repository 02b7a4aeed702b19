/- Encoding and decoding undo each other; small facts on readers in memory. -/
import Derived.Test.YtmomhglcjphieaaRReader
namespace Go.Proofs.Ytmomhglcjphieaa
set_option linter.unusedVariables false
open Go.RowKit

theorem idx_in (n : Nat) (a : Int) : ∃ k : Nat, (a.tmod ((n : Int) + 1) + (n : Int) + 1) % ((n : Int) + 1) = (k : Int) ∧ k ≤ n := by
  have h0 : 0 ≤ (a.tmod ((n : Int) + 1) + (n : Int) + 1) % ((n : Int) + 1) := Int.emod_nonneg _ (by omega)
  have h1 : (a.tmod ((n : Int) + 1) + (n : Int) + 1) % ((n : Int) + 1) < (n : Int) + 1 := Int.emod_lt_of_pos _ (by omega)
  obtain ⟨k, hk⟩ := Int.eq_ofNat_of_zero_le h0
  exact ⟨k, hk, by omega⟩
theorem tmod_bd' (a n : Int) (h : 0 < n) : -n < a.tmod n ∧ a.tmod n < n := by
  have h1 := Int.tmod_lt_of_pos a h
  have h2 := Int.tmod_lt_of_pos (-a) h
  rw [Int.neg_tmod] at h2
  omega
theorem and16 (a : Int) : 0 ≤ bits .and .i64 a 65535 ∧ bits .and .i64 a 65535 ≤ 65535 := by
  have e : (BitVec.ofInt 64 a &&& BitVec.ofInt 64 65535).toNat ≤ 65535 := by
    rw [BitVec.toNat_and]
    exact Nat.and_le_right
  show 0 ≤ IntKind.i64.wrap ((BitVec.ofInt 64 a &&& BitVec.ofInt 64 65535).toNat : Int) ∧ IntKind.i64.wrap ((BitVec.ofInt 64 a &&& BitVec.ofInt 64 65535).toNat : Int) ≤ 65535
  rw [IntKind.wrap_i64]
  omega
theorem below_reader {a w w' : World} {R : Nat} (h : Below a.heap.size a w) (hg : w.grownBy w' (some R)) (hR : a.heap.size ≤ R) : Below a.heap.size a w' :=
  h.grown hg h.size (fun k e => by cases e; exact hR)
theorem Rd.made (w : World) (T : TypeId) (s : ByteArray) : Rd T (w.alloc (.cells #[.string s, .int .i64 0, .bool false] T)) w.heap.size s 0 false := heap_alloc_new w _
theorem Rd.alloc {T : TypeId} {w : World} {b : Nat} {s : ByteArray} {p : Nat} {f : Bool} (h : Rd T w b s p f) (o : Obj) : Rd T (w.alloc o) b s p f := by
  have hl := h.lt
  unfold Rd at *
  exact (Below.heap_alloc _ _ _ hl).trans h
theorem Rd.kept {T : TypeId} {w w' : World} {b : Nat} {s : ByteArray} {p : Nat} {f : Bool} {r : Option Nat} (h : Rd T w b s p f) (hg : w.grownBy w' r) (hne : some b ≠ r) : Rd T w' b s p f := by
  have hl := h.lt
  unfold Rd at *
  exact (hg.block b hl hne).trans h
theorem Rd.below {T : TypeId} {w w' : World} {b B : Nat} {s : ByteArray} {p : Nat} {f : Bool} (h : Rd T w b s p f) (hg : Below B w w') (hb : b < B) : Rd T w' b s p f := by
  unfold Rd at *
  exact (hg.block b hb).trans h
theorem num_no {w : World} {b : Nat} {s : ByteArray} {p : Nat} {m : Int} (h : Rd 49 w b s p true) (hs : s.size ≤ maxLen) (hp : p ≤ s.size) :
    Calls Try.prog 22 #[.pointer (some ⟨b, 0, none⟩), .int .i64 m] w fun e w' => e = .returned (.int .i64 0) ∧ Rd 49 w' b s p true ∧ w.grownBy w' (some b) := num_any m h hs hp
theorem txt_no {w : World} {b : Nat} {s : ByteArray} {p : Nat} (h : Rd 49 w b s p true) (hs : s.size ≤ maxLen) (hp : p ≤ s.size) :
    Calls Try.prog 26 #[.pointer (some ⟨b, 0, none⟩)] w fun e w' => e = .returned (.string ⟨#[]⟩) ∧ Rd 49 w' b s p true ∧ w.grownBy w' (some b) := txt_any h hs hp


theorem textP_le {s : ByteArray} {p : Nat} (f : Bool) (h : p ≤ s.size) : textP s p f ≤ s.size := by
  unfold textP
  cases textF s p f
  · exact takeP_le _ _ (takeP_le _ _ h)
  · exact h
theorem at_q {w : World} {b : Nat} {s : ByteArray} {p : Nat} {f : Bool} (h : Rd 49 w b s p f) (n : Nat) :
    Calls Try.prog 23 #[.pointer (some ⟨b, 0, none⟩)] (w.drewN n) fun e w' => e = .returned (.int .i64 (p : Int)) ∧ w' = w.drewN n := (at_any (h.drewN n)).mono fun _ _ ⟨a, b⟩ => ⟨a, b.symm⟩
theorem failed_q {w : World} {b : Nat} {s : ByteArray} {p : Nat} {f : Bool} (h : Rd 49 w b s p f) (n : Nat) :
    Calls Try.prog 25 #[.pointer (some ⟨b, 0, none⟩)] (w.drewN n) fun e w' => e = .returned (.bool f) ∧ w' = w.drewN n := (failed_any (h.drewN n)).mono fun _ _ ⟨a, b⟩ => ⟨a, b.symm⟩
theorem left_q {w : World} {b : Nat} {s : ByteArray} {p : Nat} {f : Bool} (h : Rd 49 w b s p f) (hs : s.size ≤ maxLen) (hp : p ≤ s.size) (n : Nat) :
    Calls Try.prog 24 #[.pointer (some ⟨b, 0, none⟩)] (w.drewN n) fun e w' => e = .returned (.int .i64 ((s.size : Int) - (p : Int))) ∧ ∃ m, w' = (w.drewN n).drewN m :=
  (left_any (h.drewN n) hs hp).mono fun _ _ ⟨a, m, b⟩ => ⟨a, m, b.symm⟩
theorem be_unbe (l : List UInt8) : be l.length (unbe l) = l := by
  rw [← List.reverse_reverse l]
  generalize l.reverse = r
  induction r with
  | nil => rfl
  | cons c r ih =>
    rw [List.reverse_cons, unbe_snoc, List.length_append]
    have hc := c.toNat_lt
    have e1 : (unbe r.reverse * 256 + (c.toNat : Int)) / 256 = unbe r.reverse := by omega
    have e2 : byteOf (unbe r.reverse * 256 + (c.toNat : Int)) = c := by
      apply UInt8.toNat_inj.1
      unfold byteOf
      rw [UInt8.toNat_ofNat']
      omega
    show be (r.reverse.length + 1) _ = _
    rw [be, e1, e2, ih]
theorem be_wrap64 (j : Nat) (n : Int) (h : j ≤ 8) : be j (IntKind.i64.wrap n) = be j n := by
  refine be_congr _ _ j fun i hi => ?_
  rw [IntKind.wrap_i64]
  have h3 : i = 0 ∨ i = 1 ∨ i = 2 ∨ i = 3 ∨ i = 4 ∨ i = 5 ∨ i = 6 ∨ i = 7 := by omega
  rcases h3 with rfl | rfl | rfl | rfl | rfl | rfl | rfl | rfl <;> simp only [Int.reducePow] <;> omega
theorem be_num (l : List UInt8) (h : l.length ≤ 8) : be l.length (numOf l) = l := by
  unfold numOf
  rw [be_wrap64 _ _ h, be_unbe]
theorem unbe_app (l m : List UInt8) : unbe (l ++ m) = unbe l * 256 ^ m.length + unbe m := by
  rw [← List.reverse_reverse m]
  generalize m.reverse = r
  induction r with
  | nil => simp [unbe]
  | cons c r ih =>
    rw [List.reverse_cons, ← List.append_assoc, unbe_snoc, ih, unbe_snoc, List.length_append, Int.add_mul, Int.mul_assoc]
    show unbe l * (256 ^ r.reverse.length * 256) + unbe r.reverse * 256 + _ = unbe l * 256 ^ (r.reverse.length + 1) + _
    rw [Int.pow_succ]
    omega
theorem unbe_be : ∀ (k : Nat) (n : Int), unbe (be k n) = n % 256 ^ k
  | 0, n => by simp [be, unbe, Int.emod_one]
  | k + 1, n => by
    rw [be, unbe_snoc, unbe_be k (n / 256)]
    have e : ((byteOf n).toNat : Int) = n % 256 := by
      unfold byteOf
      rw [UInt8.toNat_ofNat']
      omega
    rw [e, Int.pow_succ]
    have hM : (0 : Int) < 256 ^ k := Int.pow_pos (by omega)
    generalize (256 : Int) ^ k = M at *
    have h1 := Int.mul_ediv_add_emod n 256
    have h2 := Int.mul_ediv_add_emod (n / 256) M
    have h3 := Int.emod_nonneg (n / 256) (by omega : M ≠ 0)
    have h4 := Int.emod_lt_of_pos (n / 256) hM
    generalize n / 256 % M = r at *
    generalize n / 256 / M = q at *
    have h5 : 0 ≤ n % 256 ∧ n % 256 ≤ 255 := by omega
    generalize n % 256 = v at *
    have e2 : n = r * 256 + v + M * 256 * q := by
      rw [← h1, ← h2, Int.mul_add, Int.mul_comm M 256, Int.mul_assoc]
      omega
    rw [e2, Int.add_mul_emod_self_left]
    have h6 : r * 256 + v < M * 256 := by omega
    exact (Int.emod_eq_of_lt (by omega) h6).symm
theorem extract_app (s : ByteArray) (i k : Nat) (h : i ≤ k) (hk : k ≤ s.size) : s.extract 0 i ++ s.extract i k = s.extract 0 k := by
  apply ByteArray.ext
  rw [← Array.toList_inj]
  rw [ByteArray.data_append, Array.toList_append, extract_list, extract_list, extract_list]
  simp only [List.drop_zero, Nat.sub_zero]
  have e : k = i + (k - i) := by omega
  rw [e, List.take_add, ← e]

end Go.Proofs.Ytmomhglcjphieaa
