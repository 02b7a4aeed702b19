/- What the methods of the reference's Reader return, and what they do to the reader; what octet.Read makes. -/
import Derived.Test.YtmomhglcjphieaaReader
namespace Go.Proofs.Ytmomhglcjphieaa
set_option linter.unusedVariables false
open Go.RowKit

set_option maxHeartbeats 400000 in
theorem read_any (s : ByteArray) (w : World) :
    Calls Try.prog 20 #[.string s] w fun e w' => e = .returned (.pointer (some ⟨w.heap.size, 0, none⟩)) ∧ w.alloc (.cells #[.string s, .int .i64 0, .bool false] 49) = w' := by
  go_enter Try.func20, Try.ntmps20
  go_wp2_with fail
  go_ret
  exact ⟨rfl, rfl⟩

set_option maxHeartbeats 400000 in
theorem rtake_no {w : World} {b : Nat} {s : ByteArray} {p : Nat} {f : Bool} {n : Int} (h : Rd 47 w b s p f) (hs : s.size ≤ maxLen) (hp : p ≤ s.size) (hn : f = true ∨ n < 0 ∨ (s.size : Int) - p < n) :
    Calls Try.prog 29 #[.pointer (some ⟨b, 0, none⟩), .int .i64 n] w fun e w' => e = .returned (.string ⟨#[]⟩) ∧ Rd 47 w' b s p true ∧ w.grownBy w' (some b) := by
  unfold maxLen at hs
  have h0 := h.c0
  have h1 := h.c1
  have h2 := h.c2
  have f2 := h.fr 2
  cases f
  · by_cases hn0 : n < 0
    · have hd : decide (n < 0) = true := by simpa using hn0
      go_enter Try.func29, Try.ntmps29
      go_wp2_with fail
      go_quiet (fail)
      go_wp2_with fail
      go_ret
      exact ⟨rfl, (h.drewN _).store.1, grown_trans (grown_drewN _ _ _) (h.drewN _).store.2⟩
    · have hn1 : (s.size : Int) - p < n := by simp at hn; omega
      clear hn
      have hd : decide (n < 0) = false := by simpa using hn0
      go_enter Try.func29, Try.ntmps29
      go_wp2_with fail
      go_quiet (fail)
      go_wp2_with fail
      go_ret
      exact ⟨rfl, (h.drewN _).store.1, grown_trans (grown_drewN _ _ _) (h.drewN _).store.2⟩
  · go_enter Try.func29, Try.ntmps29
    go_wp2_with fail
    go_quiet (fail)
    go_wp2_with fail
    go_ret
    exact ⟨rfl, (h.drewN _).store.1, grown_trans (grown_drewN _ _ _) (h.drewN _).store.2⟩

set_option maxHeartbeats 400000 in
theorem rtake_yes {w : World} {b : Nat} {s : ByteArray} {p : Nat} {n : Nat} (h : Rd 47 w b s p false) (hs : s.size ≤ maxLen) (hn : p + n ≤ s.size) :
    Calls Try.prog 29 #[.pointer (some ⟨b, 0, none⟩), .int .i64 (n : Int)] w fun e w' => e = .returned (.string (s.extract p (p + n))) ∧ Rd 47 w' b s (p + n) false ∧ w.grownBy w' (some b) := by
  unfold maxLen at hs
  have h0 := h.c0
  have h1 := h.c1
  have h2 := h.c2
  have f1 := h.fr 1
  have hn1 : (n : Int) ≤ (s.size : Int) - p := by omega
  have hd : decide ((n : Int) < 0) = false := by simp
  have hd2 : decide ((s.size : Int) - p < n) = false := by simp; omega
  go_enter Try.func29, Try.ntmps29
  go_wp2_with fail
  go_quiet (fail)
  go_wp2_with fail
  go_quiet (fail)
  go_wp2_with fail
  go_ret
  have hm := fun k => (h.drewN k).move (p + n)
  rw [Int.natCast_add] at hm
  exact ⟨rfl, (hm _).1.drewN _, grown_trans (grown_drewN _ _ _) (grown_trans (hm _).2 (grown_drewN _ _ _))⟩

theorem rtake_any {w : World} {b : Nat} {s : ByteArray} {p : Nat} {f : Bool} (n : Int) (h : Rd 47 w b s p f) (hs : s.size ≤ maxLen) (hp : p ≤ s.size) :
    Calls Try.prog 29 #[.pointer (some ⟨b, 0, none⟩), .int .i64 n] w fun e w' => e = .returned (.string (takeS s p f n)) ∧ Rd 47 w' b s (takeP s p f n) (takeF s p f n) ∧ w.grownBy w' (some b) := by
  unfold takeS takeP takeF
  cases hk : takeOk s p f n
  · refine rtake_no h hs hp ?_
    cases f <;> simp [takeOk] at hk ⊢
    omega
  · have hk' := hk
    simp [takeOk] at hk
    obtain ⟨⟨rfl, h0⟩, h1⟩ := hk
    obtain ⟨m, rfl⟩ := Int.eq_ofNat_of_zero_le h0
    exact rtake_yes h hs (by omega)

def numU (l : List UInt8) : Int := IntKind.u64.wrap (unbe l)
theorem numU_of (l : List UInt8) : IntKind.i64.wrap (numU l) = numOf l := by unfold numU numOf; simp only [IntKind.wrap_u64, IntKind.wrap_i64]; omega

set_option maxHeartbeats 400000 in
theorem rnum_any {w : World} {b : Nat} {s : ByteArray} {p : Nat} {f : Bool} (m : Int) (h : Rd 47 w b s p f) (hs : s.size ≤ maxLen) (hp : p ≤ s.size) :
    Calls Try.prog 27 #[.pointer (some ⟨b, 0, none⟩), .int .i64 m] w fun e w' => e = .returned (.int .i64 (numV s p f m)) ∧ Rd 47 w' b s (takeP s p f (clamp8 m)) (takeF s p f (clamp8 m)) ∧ w.grownBy w' (some b) := by
  have hk : ((clamp8 m : Nat) : Int) = max 0 (min m 8) := by unfold clamp8; omega
  have HK := Lib.hid hk
  clear hk
  unfold numV
  have ht := takeS_le s p f (clamp8 m)
  have htk := fun W h => rtake_any (w := W) (b := b) (s := s) (p := p) (f := f) (clamp8 m) h hs hp
  generalize takeS s p f (clamp8 m) = t at *
  generalize takeP s p f (clamp8 m) = p' at *
  generalize takeF s p f (clamp8 m) = f' at *
  have HT := Lib.hid htk
  clear htk
  have hh := h
  have H := Lib.hid hh
  clear h hh
  unfold maxLen at hs
  go_enter Try.func27, Try.ntmps27
  go_wp2_with fail
  refine (rsize_any _ _).mono ?_
  rintro e w' ⟨rfl, rfl⟩
  rw [← HK.out]
  go_wp2_with fail
  refine (HT.out _ H.out).mono ?_
  rintro e w1 ⟨rfl, hr1, hg1⟩
  have R1 := Lib.hid hr1
  have G1 := Lib.hid hg1
  clear hr1 hg1
  go_wp2_with fail
  go_loop [6, 7] (fun u i => ∃ j : Nat, j ≤ t.size ∧ i = .int .i64 j ∧ u = .int .u64 (numU (t.data.toList.take j))) (fun _ i => t.size - (intOf i).toNat)
  case atStart => exact ⟨0, by omega, rfl, rfl⟩
  case round =>
    obtain ⟨j, hj, rfl, rfl⟩ := hrel
    by_cases hlt : j < t.size
    · have hc := (t[j]).toNat_lt
      have hsn := take_snoc t j hlt
      have HS := Lib.hid hsn
      clear hsn
      generalize hn : numU (t.data.toList.take j) = n at *
      have HN := Lib.hid hn
      clear hn
      go_wp2_with fail
      go_round
      case rel =>
        refine ⟨j + 1, by omega, by go_num, ?_⟩
        rw [HS.out]
        have e : unbe (t.data.toList.take j ++ [t[j]]) = unbe (t.data.toList.take j) * 256 + (t[j].toNat : Int) := by unfold unbe; rw [List.foldl_append]; rfl
        unfold numU
        rw [e, ← HN.out]
        unfold numU
        simp only [IntKind.wrap_u64]
        congr 1
        omega
      case measure => simp [intOf]; omega
    · go_wp2_with fail
      go_ret
      have e : t.data.toList.take j = t.data.toList := List.take_of_length_le (by rw [toList_size]; omega)
      rw [e]
      exact ⟨ret_int ((IntWalk.i64_left _).symm.trans (numU_of _)), R1.out, G1.out⟩

set_option maxHeartbeats 400000 in
theorem rtxt_any {w : World} {b : Nat} {s : ByteArray} {p : Nat} {f : Bool} (h : Rd 47 w b s p f) (hs : s.size ≤ maxLen) (hp : p ≤ s.size) :
    Calls Try.prog 28 #[.pointer (some ⟨b, 0, none⟩)] w fun e w' => e = .returned (.string (textS s p f)) ∧ Rd 47 w' b s (textP s p f) (textF s p f) ∧ w.grownBy w' (some b) := by
  have c1 := h.c1
  have H := Lib.hid h
  clear h
  go_enter Try.func28, Try.ntmps28
  go_wp2_with fail
  refine (rnum_any 2 H.out hs hp).mono ?_
  rintro e w1 ⟨rfl, hr1, hg1⟩
  have R1 := Lib.hid hr1
  have G1 := Lib.hid hg1
  clear hr1 hg1 c1
  go_wp2_with fail
  refine (rtake_any (numV s p f 2) R1.out hs (takeP_le _ _ hp)).mono ?_
  rintro e w2 ⟨rfl, hr2, hg2⟩
  have R2 := Lib.hid hr2
  have G2 := Lib.hid (grown_trans G1.out hg2)
  clear hg2
  have c2 := hr2.c2
  have c1 := hr2.c1
  have f1 := hr2.fr 1
  clear hr2
  cases hf : takeF s (takeP s p f (clamp8 2)) (takeF s p f (clamp8 2)) (numV s p f 2)
  · have HF := Lib.hid hf
    rw [hf] at c2
    clear hf
    go_wp2_with fail
    go_ret
    have r := R2.out
    rw [HF.out] at r
    have ef : textF s p f = false := HF.out
    have ep : textP s p f = takeP s (takeP s p f (clamp8 2)) (takeF s p f (clamp8 2)) (numV s p f 2) := by unfold textP; rw [ef]; rfl
    rw [ef, ep]
    exact ⟨rfl, r, G2.out⟩
  · have HF := Lib.hid hf
    rw [hf] at c2
    clear hf
    go_wp2_with fail
    go_ret
    have r := R2.out
    rw [HF.out] at r
    have ef : textF s p f = true := HF.out
    have ep : textP s p f = p := by unfold textP; rw [ef]; rfl
    have et : textS s p f = ⟨#[]⟩ := by
      have e1 : takeOk s (takeP s p f (clamp8 2)) (takeF s p f (clamp8 2)) (numV s p f 2) = false := by
        have hq := HF.out
        generalize takeF s p f (clamp8 2) = f0 at *
        unfold takeF at hq
        simpa using hq
      unfold textS takeS
      rw [e1]
      rfl
    rw [ef, ep, et]
    exact ⟨rfl, (r.move p).1, grown_trans G2.out (r.move p).2⟩

end Go.Proofs.Ytmomhglcjphieaa
