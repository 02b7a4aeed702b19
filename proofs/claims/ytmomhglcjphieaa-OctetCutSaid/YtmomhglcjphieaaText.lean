/- What octet.Text, octet.Sum and the reference's Text and Sum return. -/
import Derived.Test.YtmomhglcjphieaaPut
namespace Go.Proofs.Ytmomhglcjphieaa
set_option linter.unusedVariables false
open Go.RowKit

/-- a string's first 65535 bytes, and the same behind their number in two bytes -/
def cutTo (s : ByteArray) : List UInt8 := s.data.toList.take 65535
def textOf (s : ByteArray) : List UInt8 := be 2 (cutTo s).length ++ cutTo s

theorem toList_size (s : ByteArray) : s.data.toList.length = s.size := by rw [Array.length_toList]; rfl
theorem cutTo_short {s : ByteArray} (h : s.size ≤ 65535) : cutTo s = s.data.toList := List.take_of_length_le (by rw [toList_size]; exact h)
theorem cutTo_long {s : ByteArray} (h : 65535 ≤ s.size) : (cutTo s).length = 65535 := by unfold cutTo; rw [List.length_take, toList_size]; omega
theorem extract_list (s : ByteArray) (a b : Nat) : (s.extract a b).data.toList = (s.data.toList.drop a).take (b - a) := by
  rw [ByteArray.data_extract, Array.toList_extract]

set_option maxHeartbeats 400000 in
theorem text_any (s : ByteArray) (w : World) (hs : s.size ≤ maxLen) :
    Calls Try.prog 16 #[.string s] w fun e w' => e = .returned (.string ⟨(textOf s).toArray⟩) ∧ Below w.heap.size w w' := by
  unfold maxLen at hs
  go_enter Try.func16, Try.ntmps16
  by_cases h : s.size ≤ 65535
  · have hl := be_len 2 (s.size : Int)
    have c2 : clamp8 2 = 2 := rfl
    go_wp2_with fail
    refine (put_any _ _ _).mono ?_
    rintro e w' ⟨rfl, hb⟩
    go_wp2_with fail
    go_ret
    refine ⟨ret_str ?_, hb⟩
    show _ = textOf s
    unfold textOf
    rw [cutTo_short h, toList_size]
    simp
  · have hl := be_len 2 65535
    have c2 : clamp8 2 = 2 := rfl
    have hmin : min 65535 s.size = 65535 := by omega
    go_wp2_with fail
    refine (put_any _ _ _).mono ?_
    rintro e w' ⟨rfl, hb⟩
    go_wp2_with fail
    go_ret
    refine ⟨ret_str ?_, hb⟩
    show _ = textOf s
    unfold textOf
    rw [cutTo_long (by omega)]
    unfold cutTo
    simp

set_option maxHeartbeats 400000 in
theorem rtext_any (s : ByteArray) (w : World) (hs : s.size ≤ maxLen) :
    Calls Try.prog 17 #[.string s] w fun e w' => e = .returned (.string ⟨(textOf s).toArray⟩) ∧ Below w.heap.size w w' := by
  unfold maxLen at hs
  go_enter Try.func17, Try.ntmps17
  by_cases h : s.size ≤ 65535
  · have hl := be_len 2 (s.size : Int)
    have c2 : clamp8 2 = 2 := rfl
    go_wp2_with fail
    refine (rput_any _ _ _).mono ?_
    rintro e w' ⟨rfl, hb⟩
    go_wp2_with fail
    go_ret
    refine ⟨ret_str ?_, hb⟩
    show _ = textOf s
    unfold textOf
    rw [cutTo_short h, toList_size]
    simp
  · have hl := be_len 2 65535
    have c2 : clamp8 2 = 2 := rfl
    have hmin : min 65535 s.size = 65535 := by omega
    go_wp2_with fail
    refine (rput_any _ _ _).mono ?_
    rintro e w' ⟨rfl, hb⟩
    go_wp2_with fail
    go_ret
    refine ⟨ret_str ?_, hb⟩
    show _ = textOf s
    unfold textOf
    rw [cutTo_long (by omega)]
    unfold cutTo
    simp

theorem textOf_len (s : ByteArray) : (textOf s).length = (cutTo s).length + 2 := by unfold textOf; rw [List.length_append, be_len]; omega
/-- one step of the checksum; the checksum's two halves of a string -/
def adlStep (p : Nat × Nat) (c : UInt8) : Nat × Nat := ((p.1 + c.toNat) % 65521, (p.2 + (p.1 + c.toNat) % 65521) % 65521)
def adl (l : List UInt8) : Nat × Nat := l.foldl adlStep (1, 0)
def sumOf (s : ByteArray) : Nat := (adl s.data.toList).2 * 65536 + (adl s.data.toList).1

theorem adlStep_lt (p : Nat × Nat) (c : UInt8) : (adlStep p c).1 < 65521 ∧ (adlStep p c).2 < 65521 := ⟨Nat.mod_lt _ (by omega), Nat.mod_lt _ (by omega)⟩
theorem adl_lt (l : List UInt8) : (adl l).1 < 65521 ∧ (adl l).2 < 65521 := by
  unfold adl
  have : ∀ (l : List UInt8) (p : Nat × Nat), p.1 < 65521 ∧ p.2 < 65521 → (l.foldl adlStep p).1 < 65521 ∧ (l.foldl adlStep p).2 < 65521 := by
    intro l
    induction l with
    | nil => intro p h; exact h
    | cons c l ih => intro p _; exact ih _ (adlStep_lt p c)
  exact this l _ ⟨by decide, by decide⟩
theorem adl_snoc (l : List UInt8) (c : UInt8) : adl (l ++ [c]) = adlStep (adl l) c := by unfold adl; rw [List.foldl_append]; rfl
theorem take_snoc (s : ByteArray) (k : Nat) (h : k < s.size) : s.data.toList.take (k + 1) = s.data.toList.take k ++ [s[k]] := by
  rw [List.take_succ_eq_append_getElem (by rw [toList_size]; exact h)]; rfl

theorem heap_new (w : World) (o : Obj) : (w.alloc o).heap[w.heap.size]? = some o := heap_alloc_new w o
theorem heap_two (w : World) (o o' : Obj) : ((w.alloc o).alloc o').heap[w.heap.size]? = some o := by
  exact (Below.heap_alloc _ _ _ (by simp)).trans (heap_new w o)
theorem heap_two' (w : World) (o o' : Obj) : ((w.alloc o).alloc o').heap[w.heap.size + 1]? = some o' := by
  have := heap_new (w.alloc o) o'
  simpa using this

set_option maxHeartbeats 400000 in
theorem add_any (lo : Nat) (c : UInt8) (p : Nat × Nat) (A B : Nat) (w : World) (hne : A ≠ B) (hA : w.heap[A]? = some (.cells #[.int .u32 (p.1 : Nat)] 25 (0, 0))) (hB : w.heap[B]? = some (.cells #[.int .u32 (p.2 : Nat)] 25 (0, 0)))
    (ha : p.1 < 65521) (hb : p.2 < 65521) (hlo : lo ≤ A) (hlo' : lo ≤ B) :
    Calls Try.prog 32 #[.int .u8 (c.toNat : Nat), .pointer (some ⟨A, 0, none⟩), .pointer (some ⟨B, 0, none⟩)] w fun e w' => e = .returned (.tuple #[]) ∧
      w'.heap[A]? = some (.cells #[.int .u32 ((adlStep p c).1 : Nat)] 25 (0, 0)) ∧ w'.heap[B]? = some (.cells #[.int .u32 ((adlStep p c).2 : Nat)] 25 (0, 0)) ∧ Below lo w w' := by
  obtain ⟨a, b⟩ := p
  have hc := c.toNat_lt
  have e1 : (((adlStep (a, b) c).1 : Nat) : Int) = ((a : Int) + (c.toNat : Int)) % 65521 := by simp only [adlStep]; omega
  have e2 : (((adlStep (a, b) c).2 : Nat) : Int) = ((b : Int) + ((a : Int) + (c.toNat : Int))) % 65521 := by simp only [adlStep]; omega
  rw [e1, e2]
  clear e1 e2
  simp only at *
  generalize c.toNat = c at *
  have cA := cell_of_one hA
  have cB := cell_of_one hB
  have fA := free_of_one hA
  have fB := free_of_one hB
  have HA := Lib.hid hA
  have HB := Lib.hid hB
  clear hA hB
  go_enter Try.func32, Try.ntmps32
  go_wp2_with fail
  go_end0
  refine ⟨rfl, ?_, ?_, ((Below.refl _ _).setCell hlo _).setCell hlo' _⟩
  · rw [Below.heap_setCell _ _ _ _ hne]
    exact one_setCell HA.out
  · refine one_setCell (v := .int .u32 (b : Nat)) ?_
    rw [Below.heap_setCell _ _ _ _ hne.symm]
    exact HB.out

set_option maxHeartbeats 400000 in
theorem sum_any (s : ByteArray) (w : World) (hs : s.size ≤ maxLen) :
    Calls Try.prog 18 #[.string s] w fun e w' => e = .returned (.int .u32 (sumOf s : Nat)) ∧ Below w.heap.size w w' := by
  unfold maxLen at hs
  go_enter Try.func18, Try.ntmps18
  go_wp2_with fail
  go_loopw [10] (fun i wr => ∃ j : Nat, j ≤ s.size ∧ i = .int .i64 j ∧ wr.heap[w.heap.size]? = some (.cells #[.int .u32 ((adl (s.data.toList.take j)).1 : Nat)] 25 (0, 0)) ∧ wr.heap[w.heap.size + 1]? = some (.cells #[.int .u32 ((adl (s.data.toList.take j)).2 : Nat)] 25 (0, 0)) ∧ Below w.heap.size w wr) (fun i _ => s.size - (intOf i).toNat)
  case atStart => exact ⟨0, by omega, rfl, heap_two _ _ _, heap_two' _ _ _, by go_grown⟩
  case round =>
    obtain ⟨j, hj, rfl, hA, hB, hb⟩ := hrel
    obtain ⟨ha, hbb⟩ := adl_lt (s.data.toList.take j)
    by_cases hlt : j < s.size
    · go_wp2_with fail
      refine (add_any w.heap.size _ _ _ _ _ (by omega) hA hB ha hbb (by omega) (by omega)).mono ?_
      rintro e w' ⟨rfl, hA', hB', hb'⟩
      have HA := Lib.hid hA'
      have HB := Lib.hid hB'
      clear hA hB hA' hB'
      go_wp2_with fail
      go_roundw
      case rel =>
        have hsn := adl_snoc (s.data.toList.take j) s[j]
        rw [← take_snoc s j hlt] at hsn
        exact ⟨j + 1, by omega, by go_num, by rw [hsn]; exact HA.out, by rw [hsn]; exact HB.out, hb.trans hb'⟩
      case measure => simp [intOf]; omega
    · have hfin := Lib.hid (show j = s.size by omega)
      have cA := cell_of_one hA
      have cB := cell_of_one hB
      clear hA hB
      generalize hp : adl (s.data.toList.take j) = p at *
      have HP := Lib.hid hp
      clear hp
      go_wp2_with fail
      go_ret
      refine ⟨ret_int ?_, hb⟩
      refine (or_shift16 p.2 p.1 (by omega) (by omega)).trans ?_
      have e1 : s.data.toList.take j = s.data.toList := List.take_of_length_le (by rw [toList_size, hfin.out]; omega)
      have hp' := HP.out
      rw [e1] at hp'
      rw [← hp']
      rfl

set_option maxHeartbeats 400000 in
theorem rsum_any (s : ByteArray) (w : World) (hs : s.size ≤ maxLen) :
    Calls Try.prog 19 #[.string s] w fun e w' => e = .returned (.int .u32 (sumOf s : Nat)) ∧ w = w' := by
  unfold maxLen at hs
  go_enter Try.func19, Try.ntmps19
  go_wp2_with fail
  go_loop [3, 4, 5] (fun a b i => ∃ j : Nat, j ≤ s.size ∧ i = .int .i64 j ∧ a = .int .i64 ((adl (s.data.toList.take j)).1 : Nat) ∧ b = .int .i64 ((adl (s.data.toList.take j)).2 : Nat)) (fun _ _ i => s.size - (intOf i).toNat)
  case atStart => exact ⟨0, by omega, rfl, rfl, rfl⟩
  case round =>
    obtain ⟨j, hj, rfl, rfl, rfl⟩ := hrel
    obtain ⟨ha, hbb⟩ := adl_lt (s.data.toList.take j)
    by_cases hlt : j < s.size
    · have hc := (s[j]).toNat_lt
      have hsn := adl_snoc (s.data.toList.take j) s[j]
      rw [← take_snoc s j hlt] at hsn
      have hsn := Lib.hid hsn
      go_wp2_with fail
      go_round
      case rel =>
        refine ⟨j + 1, by omega, by go_num, ?_, ?_⟩
        · rw [hsn.out]; rfl
        · rw [hsn.out]; rfl
      case measure => simp [intOf]; omega
    · have hfin := Lib.hid (show j = s.size by omega)
      generalize hp : adl (s.data.toList.take j) = p at *
      have HP := Lib.hid hp
      clear hp
      go_wp2_with fail
      go_ret
      refine ⟨ret_int ?_, rfl⟩
      have e1 : s.data.toList.take j = s.data.toList := List.take_of_length_le (by rw [toList_size, hfin.out]; omega)
      have hp' := HP.out
      rw [e1] at hp'
      unfold sumOf
      rw [hp']
      omega

end Go.Proofs.Ytmomhglcjphieaa
