/- What octet.size, octet.Put and the reference's size and Put return: the number's low bytes, the highest first. -/
import Derived.Test.YtmomhglcjphieaaRows
import Derived.Test.YtmomhglcjphieaaLib
namespace Go.Proofs.Ytmomhglcjphieaa
set_option linter.unusedVariables false
open Go.RowKit

set_option maxHeartbeats 400000 in
theorem size_any (n : Int) (w : World) :
    Calls Try.prog 30 #[.int .i64 n] w fun e w' => e = .returned (.int .i64 (max 0 (min n 8))) ∧ w = w' := by
  go_enter Try.func30, Try.ntmps30
  go_wp2
  all_goals go_ret
  all_goals refine ⟨ret_int ?_, rfl⟩
  all_goals first | omega | (simp; omega) | simp


set_option maxHeartbeats 1000000 in
theorem put_any (n m : Int) (w : World) :
    Calls Try.prog 14 #[.int .i64 n, .int .i64 m] w fun e w' => e = .returned (.string ⟨(be (clamp8 m) n).toArray⟩) ∧ Below w.heap.size w w' := by
  have hm := Lib.hid (show clamp8 m = (max 0 (min m 8)).toNat from rfl)
  have C := Lib.hid (conv_tail (P := Try.prog) w 28 5 9 56 Try.underlying28 Try.underlying5 Try.underlying9 [IntKind.u64.wrap n / 72057594037927936 % 256, IntKind.u64.wrap n / 281474976710656 % 256, IntKind.u64.wrap n / 1099511627776 % 256, IntKind.u64.wrap n / 4294967296 % 256, IntKind.u64.wrap n / 16777216 % 256, IntKind.u64.wrap n / 65536 % 256, IntKind.u64.wrap n / 256 % 256, IntKind.u64.wrap n % 256])
  go_enter Try.func14, Try.ntmps14
  go_wp2
  refine wp_loop_rounds 9 ?_
  repeat any_goals (rw [rounds_succ]; go_wp2_with fail)
  refine (size_any _ _).mono ?_
  rintro e w' ⟨rfl, rfl⟩
  have h1 : 0 ≤ max 0 (min m 8) := by omega
  have h2 : max 0 (min m 8) ≤ 8 := by omega
  generalize max 0 (min m 8) = k at *
  have h3 : k = 0 ∨ k = 1 ∨ k = 2 ∨ k = 3 ∨ k = 4 ∨ k = 5 ∨ k = 6 ∨ k = 7 ∨ k = 8 := by omega
  rcases h3 with rfl | rfl | rfl | rfl | rfl | rfl | rfl | rfl | rfl
  · have c := C.out 0 0 0 (by simp)
    simp only [List.map_cons, List.map_nil, List.take] at c
    go_wp2_with fail
    go_ret
    refine ⟨?_, by go_grown⟩
    rw [hm.out]
    
    rfl
  · have c := C.out 7 1 1 (by simp)
    simp only [List.map_cons, List.map_nil, List.drop, List.take] at c
    go_wp2_with fail
    go_ret
    refine ⟨?_, by go_grown⟩
    rw [hm.out]
    simp only [put_b0]
    rfl
  · have c := C.out 6 2 2 (by simp)
    simp only [List.map_cons, List.map_nil, List.drop, List.take] at c
    go_wp2_with fail
    go_ret
    refine ⟨?_, by go_grown⟩
    rw [hm.out]
    simp only [put_b0, put_b1]
    rfl
  · have c := C.out 5 3 3 (by simp)
    simp only [List.map_cons, List.map_nil, List.drop, List.take] at c
    go_wp2_with fail
    go_ret
    refine ⟨?_, by go_grown⟩
    rw [hm.out]
    simp only [put_b0, put_b1, put_b2]
    rfl
  · have c := C.out 4 4 4 (by simp)
    simp only [List.map_cons, List.map_nil, List.drop, List.take] at c
    go_wp2_with fail
    go_ret
    refine ⟨?_, by go_grown⟩
    rw [hm.out]
    simp only [put_b0, put_b1, put_b2, put_b3]
    rfl
  · have c := C.out 3 5 5 (by simp)
    simp only [List.map_cons, List.map_nil, List.drop, List.take] at c
    go_wp2_with fail
    go_ret
    refine ⟨?_, by go_grown⟩
    rw [hm.out]
    simp only [put_b0, put_b1, put_b2, put_b3, put_b4]
    rfl
  · have c := C.out 2 6 6 (by simp)
    simp only [List.map_cons, List.map_nil, List.drop, List.take] at c
    go_wp2_with fail
    go_ret
    refine ⟨?_, by go_grown⟩
    rw [hm.out]
    simp only [put_b0, put_b1, put_b2, put_b3, put_b4, put_b5]
    rfl
  · have c := C.out 1 7 7 (by simp)
    simp only [List.map_cons, List.map_nil, List.drop, List.take] at c
    go_wp2_with fail
    go_ret
    refine ⟨?_, by go_grown⟩
    rw [hm.out]
    simp only [put_b0, put_b1, put_b2, put_b3, put_b4, put_b5, put_b6]
    rfl
  · have c := C.out 0 8 8 (by simp)
    simp only [List.map_cons, List.map_nil, List.drop, List.take] at c
    go_wp2_with fail
    go_ret
    refine ⟨?_, by go_grown⟩
    rw [hm.out]
    simp only [put_b0, put_b1, put_b2, put_b3, put_b4, put_b5, put_b6, put_b7]
    rfl


set_option maxHeartbeats 400000 in
theorem rsize_any (n : Int) (w : World) :
    Calls Try.prog 31 #[.int .i64 n] w fun e w' => e = .returned (.int .i64 (max 0 (min n 8))) ∧ w = w' := by
  go_enter Try.func31, Try.ntmps31
  go_wp2
  all_goals go_ret
  all_goals refine ⟨ret_int ?_, rfl⟩
  all_goals first | omega | (simp; omega) | simp

set_option maxHeartbeats 400000 in
theorem rput_any (n m : Int) (w : World) :
    Calls Try.prog 15 #[.int .i64 n, .int .i64 m] w fun e w' => e = .returned (.string ⟨(be (clamp8 m) n).toArray⟩) ∧ Below w.heap.size w w' := by
  have hm := Lib.hid (show clamp8 m = (max 0 (min m 8)).toNat from rfl)
  have C : ∀ (W : World) (x : Int), (convert 28 9 (.slice (some ⟨W.heap.size, 0, none⟩) 1 1)).run Try.prog (W.alloc (.cells #[.int .u8 (x % 256)] 5)) = .ok (.string ⟨[byteOf x].toArray⟩) (W.alloc (.cells #[.int .u8 (x % 256)] 5)) :=
    fun W x => conv_tail (P := Try.prog) W 28 5 9 5 Try.underlying28 Try.underlying5 Try.underlying9 [x % 256] 0 1 1 (by simp)
  go_enter Try.func15, Try.ntmps15
  go_wp2_with fail
  go_loopw [5, 6, 7] (fun s u i wr => ∃ j : Nat, j ≤ clamp8 m ∧ i = .int .i64 j ∧ s = .string ⟨(be j (IntKind.u64.wrap n)).toArray⟩ ∧ u = .int .u64 (IntKind.u64.wrap n / 256 ^ j) ∧ Below w.heap.size w wr) (fun _ _ i _ => clamp8 m - (intOf i).toNat)
  case atStart => exact ⟨0, by omega, rfl, rfl, by simp, Below.refl _ _⟩
  case round =>
    obtain ⟨j, hj, rfl, rfl, rfl, hb⟩ := hrel
    obtain ⟨h0, h1⟩ := pow256_le n j
    have h8 := clamp8_le m
    have hl := be_len j (IntKind.u64.wrap n)
    have hs := hb.size
    go_wp2_with fail
    refine (rsize_any _ _).mono ?_
    rintro e w' ⟨rfl, rfl⟩
    have hk : ((clamp8 m : Nat) : Int) = max 0 (min m 8) := by unfold clamp8; omega
    rw [← hk]
    clear hk
    by_cases hlt : j < clamp8 m
    · have hlt' : (j : Int) < (clamp8 m : Int) := by omega
      go_wp2_with fail
      go_roundw
      case rel =>
        refine ⟨j + 1, by omega, by go_num, ?_, ?_, hb.alloc hs _⟩
        · rw [bytes_app, be_front]; rfl
        · rw [Int.pow_succ, Int.ediv_ediv_of_nonneg (by have : (0 : Int) < 256 ^ j := Int.pow_pos (by omega); omega)]
      case measure => simp [intOf]; omega
    · have hge : (clamp8 m : Int) ≤ (j : Int) := by omega
      go_wp2_with fail
      go_ret
      refine ⟨?_, hb⟩
      have e : j = clamp8 m := by omega
      rw [e, be_wrap _ _ h8]; rfl

end Go.Proofs.Ytmomhglcjphieaa
