/- What the methods of octet.Reader and of the reference's Reader return, and what they do to the reader. -/
import Derived.Test.YtmomhglcjphieaaText
import Derived.Deep.QuietTactic
import Derived.BigQuiet
namespace Go.Proofs.Ytmomhglcjphieaa
set_option linter.unusedVariables false
open Go.RowKit

/-- block b holds a reader (of either kind, T) of the string s at position p, failed or not -/
def Rd (T : TypeId) (w : World) (b : Nat) (s : ByteArray) (p : Nat) (f : Bool) : Prop := w.heap[b]? = some (.cells #[.string s, .int .i64 (p : Int), .bool f] T (0, 0))

theorem Rd.c0 {T : TypeId} {w : World} {b : Nat} {s : ByteArray} {p : Nat} {f : Bool} (h : Rd T w b s p f) : w.cell? ⟨b, 0, none⟩ = some (.string s) := by simp [World.cell?, Rd] at *; simp [h]
theorem Rd.c1 {T : TypeId} {w : World} {b : Nat} {s : ByteArray} {p : Nat} {f : Bool} (h : Rd T w b s p f) : w.cell? ⟨b, 1, none⟩ = some (.int .i64 (p : Int)) := by simp [World.cell?, Rd] at *; simp [h]
theorem Rd.c2 {T : TypeId} {w : World} {b : Nat} {s : ByteArray} {p : Nat} {f : Bool} (h : Rd T w b s p f) : w.cell? ⟨b, 2, none⟩ = some (.bool f) := by simp [World.cell?, Rd] at *; simp [h]
theorem Rd.fr {T : TypeId} {w : World} {b : Nat} {s : ByteArray} {p : Nat} {f : Bool} (h : Rd T w b s p f) (o : Nat) : w.frozen? ⟨b, o, none⟩ = false := by simp [World.frozen?, Rd] at *; simp [h]
theorem Rd.lt {T : TypeId} {w : World} {b : Nat} {s : ByteArray} {p : Nat} {f : Bool} (h : Rd T w b s p f) : b < w.heap.size := lt_of_block h

/-- nothing but block b (and new blocks) has turned -/
theorem grown_drew {w w' : World} {r : Option Nat} (h : w.grownBy w' r) : w.grownBy w'.drew r := ⟨h.os, h.tape, h.output, h.size, h.block⟩

set_option maxHeartbeats 400000 in
theorem left_nil (w : World) : Calls Try.prog 24 #[.pointer none] w fun e w' => e = .returned (.int .i64 0) ∧ w = w' := by
  go_enter Try.func24, Try.ntmps24
  go_wp2_with fail
  go_ret
  exact ⟨rfl, rfl⟩

set_option maxHeartbeats 400000 in
theorem left_any {w : World} {b : Nat} {s : ByteArray} {p : Nat} {f : Bool} (h : Rd 49 w b s p f) (hs : s.size ≤ maxLen) (hp : p ≤ s.size) :
    Calls Try.prog 24 #[.pointer (some ⟨b, 0, none⟩)] w fun e w' => e = .returned (.int .i64 ((s.size : Int) - (p : Int))) ∧ ∃ n, w.drewN n = w' := by
  unfold maxLen at hs
  have h0 := h.c0
  have h1 := h.c1
  go_enter Try.func24, Try.ntmps24
  go_wp2_with fail
  go_quiet (fail)
  go_wp2_with fail
  go_ret
  exact ⟨rfl, _, rfl⟩

set_option maxHeartbeats 400000 in
theorem at_nil (w : World) : Calls Try.prog 23 #[.pointer none] w fun e w' => e = .returned (.int .i64 0) ∧ w = w' := by
  go_enter Try.func23, Try.ntmps23
  go_wp2_with fail
  go_ret
  exact ⟨rfl, rfl⟩

set_option maxHeartbeats 400000 in
theorem at_any {w : World} {b : Nat} {s : ByteArray} {p : Nat} {f : Bool} (h : Rd 49 w b s p f) :
    Calls Try.prog 23 #[.pointer (some ⟨b, 0, none⟩)] w fun e w' => e = .returned (.int .i64 (p : Int)) ∧ w = w' := by
  have h1 := h.c1
  go_enter Try.func23, Try.ntmps23
  go_wp2_with fail
  go_ret
  exact ⟨rfl, rfl⟩

set_option maxHeartbeats 400000 in
theorem failed_nil (w : World) : Calls Try.prog 25 #[.pointer none] w fun e w' => e = .returned (.bool true) ∧ w = w' := by
  go_enter Try.func25, Try.ntmps25
  go_wp2_with fail
  go_ret
  exact ⟨rfl, rfl⟩

set_option maxHeartbeats 400000 in
theorem failed_any {w : World} {b : Nat} {s : ByteArray} {p : Nat} {f : Bool} (h : Rd 49 w b s p f) :
    Calls Try.prog 25 #[.pointer (some ⟨b, 0, none⟩)] w fun e w' => e = .returned (.bool f) ∧ w = w' := by
  have h2 := h.c2
  go_enter Try.func25, Try.ntmps25
  go_wp2_with fail
  go_ret
  exact ⟨rfl, rfl⟩

set_option maxHeartbeats 400000 in
theorem take_nil (n : Int) (w : World) : Calls Try.prog 21 #[.pointer none, .int .i64 n] w fun e w' => e = .returned (.string ⟨#[]⟩) ∧ w = w' := by
  go_enter Try.func21, Try.ntmps21
  go_wp2_with fail
  go_ret
  exact ⟨rfl, rfl⟩

theorem Rd.drewN {T : TypeId} {w : World} {b : Nat} {s : ByteArray} {p : Nat} {f : Bool} (h : Rd T w b s p f) : ∀ n, Rd T (w.drewN n) b s p f := by
  intro n; unfold Rd at *; simpa using h

theorem block_setCell {w : World} {b o : Nat} {c : Array Value} {T : TypeId} {v : Value} (h : w.heap[b]? = some (.cells c T (0, 0))) : (w.setCell ⟨b, o, none⟩ v).heap[b]? = some (.cells (c.setIfInBounds o v) T (0, 0)) := by
  have hlt := lt_of_block h
  have h' : w.heap[b] = .cells c T (0, 0) := by simpa [Array.getElem?_eq_getElem hlt] using h
  show (w.heap.modify b _)[b]? = _
  rw [Array.getElem?_eq_getElem (by simpa using hlt), Array.getElem_modify_self, h']
  rfl
theorem grown_setCell (w : World) (b o : Nat) (v : Value) : w.grownBy (w.setCell ⟨b, o, none⟩ v) (some b) :=
  ⟨rfl, rfl, rfl, by simp [World.setCell], fun k _ hne => Below.heap_setCell _ _ _ _ (fun e => hne (by rw [e]))⟩
theorem grown_drewN (w : World) (r : Option Nat) : ∀ n, w.grownBy (w.drewN n) r := fun _ => ⟨rfl, rfl, rfl, Nat.le_refl _, fun _ _ _ => rfl⟩
theorem grown_refl (w : World) (r : Option Nat) : w.grownBy w r := ⟨rfl, rfl, rfl, Nat.le_refl _, fun _ _ _ => rfl⟩
theorem grown_trans {u v w : World} {r : Option Nat} (h : u.grownBy v r) (k : v.grownBy w r) : u.grownBy w r :=
  ⟨k.os.trans h.os, k.tape.trans h.tape, k.output.trans h.output, Nat.le_trans h.size k.size, fun i hi hne => (k.block i (Nat.lt_of_lt_of_le hi h.size) hne).trans (h.block i hi hne)⟩
theorem Rd.store {T : TypeId} {w : World} {b : Nat} {s : ByteArray} {p : Nat} {f : Bool} (h : Rd T w b s p f) : Rd T (w.setCell ⟨b, 2, none⟩ (.bool true)) b s p true ∧ w.grownBy (w.setCell ⟨b, 2, none⟩ (.bool true)) (some b) :=
  ⟨block_setCell h, grown_setCell _ _ _ _⟩
theorem Rd.move {T : TypeId} {w : World} {b : Nat} {s : ByteArray} {p : Nat} {f : Bool} (h : Rd T w b s p f) (q : Nat) : Rd T (w.setCell ⟨b, 1, none⟩ (.int .i64 (q : Int))) b s q f ∧ w.grownBy (w.setCell ⟨b, 1, none⟩ (.int .i64 (q : Int))) (some b) :=
  ⟨block_setCell h, grown_setCell _ _ _ _⟩

set_option maxHeartbeats 400000 in
theorem take_no {w : World} {b : Nat} {s : ByteArray} {p : Nat} {f : Bool} {n : Int} (h : Rd 49 w b s p f) (hs : s.size ≤ maxLen) (hp : p ≤ s.size) (hn : f = true ∨ n < 0 ∨ (s.size : Int) - p < n) :
    Calls Try.prog 21 #[.pointer (some ⟨b, 0, none⟩), .int .i64 n] w fun e w' => e = .returned (.string ⟨#[]⟩) ∧ Rd 49 w' b s p true ∧ w.grownBy w' (some b) := by
  unfold maxLen at hs
  have h2 := h.c2
  have f2 := h.fr 2
  cases f
  · by_cases hn0 : n < 0
    · go_enter Try.func21, Try.ntmps21
      go_wp2_with fail
      go_ret
      exact ⟨rfl, h.store⟩
    · have hn1 : (s.size : Int) - p < n := by simp at hn; omega
      clear hn
      go_enter Try.func21, Try.ntmps21
      go_wp2_with fail
      refine (left_any h hs hp).mono ?_
      rintro e w' ⟨rfl, k, rfl⟩
      go_wp2_with fail
      go_ret
      exact ⟨rfl, (h.drewN k).store.1, grown_trans (grown_drewN _ _ _) (h.drewN k).store.2⟩
  · go_enter Try.func21, Try.ntmps21
    go_wp2_with fail
    go_ret
    exact ⟨rfl, h.store⟩

set_option maxHeartbeats 400000 in
theorem take_yes {w : World} {b : Nat} {s : ByteArray} {p : Nat} {n : Nat} (h : Rd 49 w b s p false) (hs : s.size ≤ maxLen) (hn : p + n ≤ s.size) :
    Calls Try.prog 21 #[.pointer (some ⟨b, 0, none⟩), .int .i64 (n : Int)] w fun e w' => e = .returned (.string (s.extract p (p + n))) ∧ Rd 49 w' b s (p + n) false ∧ w.grownBy w' (some b) := by
  unfold maxLen at hs
  have h0 := h.c0
  have h1 := h.c1
  have h2 := h.c2
  have f1 := h.fr 1
  have hn1 : (n : Int) ≤ (s.size : Int) - p := by omega
  go_enter Try.func21, Try.ntmps21
  go_wp2_with fail
  refine (left_any h hs (by omega)).mono ?_
  rintro e w' ⟨rfl, k, rfl⟩
  go_wp2_with fail
  go_quiet (fail)
  go_wp2_with fail
  go_ret
  have hm := (h.drewN k).move (p + n)
  rw [Int.natCast_add] at hm
  exact ⟨rfl, hm.1.drewN nq, grown_trans (grown_drewN _ _ _) (grown_trans hm.2 (grown_drewN _ _ _))⟩

/-- what a reader answers, by its string, its position and whether it has failed -/
def takeOk (s : ByteArray) (p : Nat) (f : Bool) (n : Int) : Bool := !f && decide (0 ≤ n) && decide (n ≤ (s.size : Int) - (p : Int))
def takeS (s : ByteArray) (p : Nat) (f : Bool) (n : Int) : ByteArray := bif takeOk s p f n then s.extract p (p + n.toNat) else ⟨#[]⟩
def takeP (s : ByteArray) (p : Nat) (f : Bool) (n : Int) : Nat := bif takeOk s p f n then p + n.toNat else p
def takeF (s : ByteArray) (p : Nat) (f : Bool) (n : Int) : Bool := !takeOk s p f n
theorem takeP_le {s : ByteArray} {p : Nat} (f : Bool) (n : Int) (h : p ≤ s.size) : takeP s p f n ≤ s.size := by
  unfold takeP
  cases hk : takeOk s p f n
  · exact h
  · simp [takeOk] at hk; simp; omega
theorem takeS_le (s : ByteArray) (p : Nat) (f : Bool) (n : Int) : (takeS s p f n).size ≤ s.size := by
  unfold takeS
  cases takeOk s p f n
  · exact Nat.zero_le _
  · simp; omega
def unbe (l : List UInt8) : Int := l.foldl (fun a c => a * 256 + (c.toNat : Int)) 0
def numOf (l : List UInt8) : Int := IntKind.i64.wrap (unbe l)
def numV (s : ByteArray) (p : Nat) (f : Bool) (m : Int) : Int := numOf (takeS s p f (clamp8 m)).data.toList
def textS (s : ByteArray) (p : Nat) (f : Bool) : ByteArray := takeS s (takeP s p f (clamp8 2)) (takeF s p f (clamp8 2)) (numV s p f 2)
def textF (s : ByteArray) (p : Nat) (f : Bool) : Bool := takeF s (takeP s p f (clamp8 2)) (takeF s p f (clamp8 2)) (numV s p f 2)
def textP (s : ByteArray) (p : Nat) (f : Bool) : Nat := bif textF s p f then p else takeP s (takeP s p f (clamp8 2)) (takeF s p f (clamp8 2)) (numV s p f 2)

theorem take_any {w : World} {b : Nat} {s : ByteArray} {p : Nat} {f : Bool} (n : Int) (h : Rd 49 w b s p f) (hs : s.size ≤ maxLen) (hp : p ≤ s.size) :
    Calls Try.prog 21 #[.pointer (some ⟨b, 0, none⟩), .int .i64 n] w fun e w' => e = .returned (.string (takeS s p f n)) ∧ Rd 49 w' b s (takeP s p f n) (takeF s p f n) ∧ w.grownBy w' (some b) := by
  unfold takeS takeP takeF
  cases hk : takeOk s p f n
  · refine take_no h hs hp ?_
    cases f <;> simp [takeOk] at hk ⊢
    omega
  · have hk' := hk
    simp [takeOk] at hk
    obtain ⟨⟨rfl, h0⟩, h1⟩ := hk
    obtain ⟨m, rfl⟩ := Int.eq_ofNat_of_zero_le h0
    exact take_yes h hs (by omega)

theorem numOf_step (l : List UInt8) (c : UInt8) : bits .or .i64 (wrap64 (numOf l * 256)) (c.toNat : Int) = numOf (l ++ [c]) := by
  have hc := c.toNat_lt
  have e : unbe (l ++ [c]) = unbe l * 256 + (c.toNat : Int) := by unfold unbe; rw [List.foldl_append]; rfl
  rw [or_shift8 _ _ (by unfold wrap64; omega) (by omega) (by omega)]
  unfold numOf
  rw [e]
  unfold wrap64
  simp only [IntKind.wrap_i64]
  omega
theorem unbe_snoc (l : List UInt8) (c : UInt8) : unbe (l ++ [c]) = unbe l * 256 + (c.toNat : Int) := by unfold unbe; rw [List.foldl_append]; rfl

set_option maxHeartbeats 400000 in
theorem num_any {w : World} {b : Nat} {s : ByteArray} {p : Nat} {f : Bool} (m : Int) (h : Rd 49 w b s p f) (hs : s.size ≤ maxLen) (hp : p ≤ s.size) :
    Calls Try.prog 22 #[.pointer (some ⟨b, 0, none⟩), .int .i64 m] w fun e w' => e = .returned (.int .i64 (numV s p f m)) ∧ Rd 49 w' b s (takeP s p f (clamp8 m)) (takeF s p f (clamp8 m)) ∧ w.grownBy w' (some b) := by
  have K := fun (W : World) (t : ByteArray) => run_bytes_of_string (P := Try.prog) W 9 28 5 t Try.underlying9 Try.underlying28 Try.underlying5
  have KH := Lib.hid K
  clear K
  have hk : ((clamp8 m : Nat) : Int) = max 0 (min m 8) := by unfold clamp8; omega
  have HK := Lib.hid hk
  clear hk
  unfold numV
  have ht := takeS_le s p f (clamp8 m)
  have htk := fun W h => take_any (w := W) (b := b) (s := s) (p := p) (f := f) (clamp8 m) h hs hp
  generalize takeS s p f (clamp8 m) = t at *
  generalize takeP s p f (clamp8 m) = p' at *
  generalize takeF s p f (clamp8 m) = f' at *
  have HT := Lib.hid htk
  clear htk
  have hh := h
  have H := Lib.hid hh
  clear h hh
  unfold maxLen at hs
  go_enter Try.func22, Try.ntmps22
  go_wp2_with fail
  refine (size_any _ _).mono ?_
  rintro e w' ⟨rfl, rfl⟩
  rw [← HK.out]
  go_wp2_with fail
  refine (HT.out _ H.out).mono ?_
  rintro e w1 ⟨rfl, hr1, hg1⟩
  have R1 := Lib.hid hr1
  clear hr1
  have K1 := KH.out w1 t
  go_wp2_with fail
  clear K1
  generalize hC : bytesRow t (grownCap w1 t.size 0 5) = C
  have hcell : ∀ j, j < t.size → C[j]? = some (.int .u8 ((t.data.toList.getD j 0).toNat : Nat)) := fun j hj => by
    have h1 := bytesRow_at t (grownCap w1 t.size 0 5) j hj
    rw [hC] at h1
    rw [h1]
    simp [List.getD, hj]
  have HC := Lib.hid hcell
  clear hcell hC
  generalize hW : (w1.alloc (Obj.cells C 5 (C.size, C.size + 1))).drew = w2
  have HW := Lib.hid hW.symm
  clear hW
  generalize hcap : grownCap w1 t.size 0 5 = cap
  clear hcap
  go_loop [5, 14] (fun a i => ∃ j : Nat, j ≤ t.size ∧ i = .int .i64 j ∧ a = .int .i64 (numOf (t.data.toList.take j))) (fun _ i => t.size - (intOf i).toNat)
  case atStart => exact ⟨0, by omega, rfl, rfl⟩
  case round =>
    obtain ⟨j, hj, rfl, rfl⟩ := hrel
    by_cases hlt : j < t.size
    · have hc : w2.cell? ⟨w1.heap.size, j, none⟩ = some (.int .u8 ((t.data.toList.getD j 0).toNat : Nat)) := by
        rw [HW.out]
        exact (World.cell?_alloc_mark w1 C 5 (C.size, C.size + 1) j).trans (HC.out j hlt)
      have hb := (t.data.toList.getD j 0).toNat_lt
      generalize hx : (t.data.toList.getD j 0) = x at *
      have HX := Lib.hid hx
      clear hx
      have hsn : t.data.toList.take (j + 1) = t.data.toList.take j ++ [x] := by
        rw [List.take_succ_eq_append_getElem (by rw [toList_size]; exact hlt), ← HX.out]
        simp [List.getD, hlt]
      have HS := Lib.hid hsn
      clear hsn
      generalize hn : numOf (t.data.toList.take j) = n at *
      have HN := Lib.hid hn
      clear hn
      go_wp2_with fail
      go_round
      case rel =>
        refine ⟨j + 1, by omega, by go_num, ?_⟩
        rw [HS.out, ← numOf_step, HN.out]
      case measure => simp [intOf]; omega
    · go_wp2_with fail
      go_ret
      have e : t.data.toList.take j = t.data.toList := List.take_of_length_le (by rw [toList_size]; omega)
      rw [e]
      refine ⟨rfl, ?_, ?_⟩
      · have h2 := R1.out
        have hl := h2.lt
        unfold Rd at *
        rw [HW.out, ← h2]
        exact Below.heap_alloc _ _ _ hl
      · rw [HW.out]
        exact grown_trans hg1 (grown_drew (World.grownBy_alloc _ _ _))


set_option maxHeartbeats 400000 in
theorem txt_nil (w : World) : Calls Try.prog 26 #[.pointer none] w fun e w' => e = .returned (.string ⟨#[]⟩) ∧ w = w' := by
  go_enter Try.func26, Try.ntmps26
  go_wp2_with fail
  go_ret
  exact ⟨rfl, rfl⟩

set_option maxHeartbeats 400000 in
theorem num_nil (m : Int) (w : World) : Calls Try.prog 22 #[.pointer none, .int .i64 m] w fun e w' => e = .returned (.int .i64 0) ∧ Below w.heap.size w w' := by
  have K := Lib.hid (fun (W : World) => run_bytes_of_string (P := Try.prog) W 9 28 5 ⟨#[]⟩ Try.underlying9 Try.underlying28 Try.underlying5)
  go_enter Try.func22, Try.ntmps22
  go_wp2_with fail
  refine (size_any _ _).mono ?_
  rintro e w' ⟨rfl, rfl⟩
  go_wp2_with fail
  refine (take_nil _ _).mono ?_
  rintro e w1 ⟨rfl, rfl⟩
  have K1 := K.out w
  go_wp2_with fail
  clear K1
  go_rounds 1
  go_ret
  exact ⟨rfl, by go_grown⟩

set_option maxHeartbeats 400000 in
theorem txt_any {w : World} {b : Nat} {s : ByteArray} {p : Nat} {f : Bool} (h : Rd 49 w b s p f) (hs : s.size ≤ maxLen) (hp : p ≤ s.size) :
    Calls Try.prog 26 #[.pointer (some ⟨b, 0, none⟩)] w fun e w' => e = .returned (.string (textS s p f)) ∧ Rd 49 w' b s (textP s p f) (textF s p f) ∧ w.grownBy w' (some b) := by
  have c1 := h.c1
  have H := Lib.hid h
  clear h
  go_enter Try.func26, Try.ntmps26
  go_wp2_with fail
  refine (num_any 2 H.out hs hp).mono ?_
  rintro e w1 ⟨rfl, hr1, hg1⟩
  have R1 := Lib.hid hr1
  have G1 := Lib.hid hg1
  clear hr1 hg1 c1
  go_wp2_with fail
  refine (take_any (numV s p f 2) R1.out hs (takeP_le _ _ hp)).mono ?_
  rintro e w2 ⟨rfl, hr2, hg2⟩
  have R2 := Lib.hid hr2
  have G2 := Lib.hid (grown_trans G1.out hg2)
  clear hg2
  have c2 := hr2.c2
  have c1 := hr2.c1
  have f1 := hr2.fr 1
  clear hr2
  cases hf : takeF s (takeP s p f (clamp8 2)) (takeF s p f (clamp8 2)) (numV s p f 2)
  · have HF := Lib.hid hf
    rw [hf] at c2
    clear hf
    go_wp2_with fail
    go_ret
    have r := R2.out
    rw [HF.out] at r
    have ef : textF s p f = false := HF.out
    have ep : textP s p f = takeP s (takeP s p f (clamp8 2)) (takeF s p f (clamp8 2)) (numV s p f 2) := by unfold textP; rw [ef]; rfl
    rw [ef, ep]
    exact ⟨rfl, r, G2.out⟩
  · have HF := Lib.hid hf
    rw [hf] at c2
    clear hf
    go_wp2_with fail
    go_ret
    have r := R2.out
    rw [HF.out] at r
    have ef : textF s p f = true := HF.out
    have ep : textP s p f = p := by unfold textP; rw [ef]; rfl
    rw [ef, ep]
    exact ⟨rfl, (r.move p).1, grown_trans G2.out (r.move p).2⟩
end Go.Proofs.Ytmomhglcjphieaa
