/- LangLists: the walk. -/
import Derived.Test.YtieojjngeibnmaaGreatDoorZL35
import Derived.Test.YtieojjngeibnmaaGreatDoorZL9
import Derived.Test.YtieojjngeibnmaaGreatDoorZL2
namespace Go.Proofs.YtieojjngeibnmaaGreatDoor
set_option linter.unusedVariables false
set_option linter.unusedSimpArgs false
open Go.RowKit

theorem mask16 (x : Int) : bits .and .i64 x 65535 = x % 65536 := and_mask x 16 (by omega)
theorem text_len : ∀ K < 7, ∀ i < 17, (textL K i).length ≤ 1000 := by decide +kernel
theorem end_len : ∀ K < 7, (endL K).length ≤ 100 := by decide +kernel
theorem one_len : ∀ K < 7, (oneL K).length ≤ 100 := by decide +kernel
theorem most_le : ∀ K < 7, mostL K ≤ 12 := by decide +kernel
theorem begin_at {K : Nat} (hK : K < 7) : (#[.string ⟨#[99, 114, 101, 97, 116, 101, 32, 116, 97, 98, 108, 101, 32, 116, 32, 40]⟩, .string ⟨#[99, 114, 101, 97, 116, 101, 32, 105, 110, 100, 101, 120, 32, 105, 32, 111, 110, 32, 116, 32, 40]⟩, .string ⟨#[105, 110, 115, 101, 114, 116, 32, 105, 110, 116, 111, 32, 116, 32, 118, 97, 108, 117, 101, 115, 32, 40]⟩, .string ⟨#[117, 112, 100, 97, 116, 101, 32, 116, 32, 115, 101, 116, 32]⟩, .string ⟨#[100, 101, 108, 101, 116, 101, 32, 102, 114, 111, 109, 32, 116, 32, 119, 104, 101, 114, 101, 32]⟩, .string ⟨#[115, 101, 108, 101, 99, 116, 32]⟩, .string ⟨#[115, 101, 108, 101, 99, 116, 32, 97, 32, 102, 114, 111, 109, 32, 116, 32, 111, 114, 100, 101, 114, 32, 98, 121, 32]⟩] : Array Value)[K]? = some (.string ⟨⟨beginL K⟩⟩) := by rcases (show K = 0 ∨ K = 1 ∨ K = 2 ∨ K = 3 ∨ K = 4 ∨ K = 5 ∨ K = 6 by omega) with rfl | rfl | rfl | rfl | rfl | rfl | rfl <;> rfl
theorem one_at {K : Nat} (hK : K < 7) : (#[.string ⟨#[97, 32, 105, 110, 116]⟩, .string ⟨#[97]⟩, .string ⟨#[49]⟩, .string ⟨#[97, 32, 61, 32, 49]⟩, .string ⟨#[97, 32, 61, 32, 49]⟩, .string ⟨#[97]⟩, .string ⟨#[97]⟩] : Array Value)[K]? = some (.string ⟨⟨oneL K⟩⟩) := by rcases (show K = 0 ∨ K = 1 ∨ K = 2 ∨ K = 3 ∨ K = 4 ∨ K = 5 ∨ K = 6 by omega) with rfl | rfl | rfl | rfl | rfl | rfl | rfl <;> rfl
theorem end_at {K : Nat} (hK : K < 7) : (#[.string ⟨#[41]⟩, .string ⟨#[41]⟩, .string ⟨#[41]⟩, .string ⟨#[]⟩, .string ⟨#[]⟩, .string ⟨#[32, 102, 114, 111, 109, 32, 116]⟩, .string ⟨#[]⟩] : Array Value)[K]? = some (.string ⟨⟨endL K⟩⟩) := by rcases (show K = 0 ∨ K = 1 ∨ K = 2 ∨ K = 3 ∨ K = 4 ∨ K = 5 ∨ K = 6 by omega) with rfl | rfl | rfl | rfl | rfl | rfl | rfl <;> rfl
theorem most_at {K : Nat} (hK : K < 7) : (#[.int .i64 6, .int .i64 6, .int .i64 6, .int .i64 6, .int .i64 8, .int .i64 12, .int .i64 6] : Array Value)[K]? = some (.int .i64 (mostL K : Nat)) := by rcases (show K = 0 ∨ K = 1 ∨ K = 2 ∨ K = 3 ∨ K = 4 ∨ K = 5 ∨ K = 6 by omega) with rfl | rfl | rfl | rfl | rfl | rfl | rfl <;> rfl
theorem lens_at {K : Nat} (hK : K < 7) (q : Stmt) : (#[Value.int .i64 q.cols.length, .int .i64 q.names.length, .int .i64 q.row.length, .int .i64 q.sets.length, .int .i64 q.wher.length, .int .i64 q.names.length, .int .i64 q.order.length] : Array Value)[K]? = some (.int .i64 (lenL K q : Nat)) := by rcases (show K = 0 ∨ K = 1 ∨ K = 2 ∨ K = 3 ∨ K = 4 ∨ K = 5 ∨ K = 6 by omega) with rfl | rfl | rfl | rfl | rfl | rfl | rfl <;> rfl
theorem text_next (K i : Nat) : textL K (i + 1) = textL K i ++ (sepL0 K i ++ oneL K) := by
  show beginL K ++ (elemsL K i ++ (sepL0 K i ++ oneL K)) = (beginL K ++ elemsL K i) ++ (sepL0 K i ++ oneL K)
  rw [List.append_assoc]
theorem place_next {K i : Nat} (h : i ≠ mostL K) : placeL K (i + 1) = placeL K i := by
  unfold placeL
  by_cases h1 : mostL K < i
  · rw [if_pos h1, if_pos (by omega)]
  · rw [if_neg h1, if_neg (by omega)]
theorem place_hit {K i : Nat} (h : i = mostL K) : placeL K (i + 1) = (textL K i ++ sepL0 K i).length := by
  subst h
  unfold placeL
  rw [if_pos (Nat.lt_succ_self _)]
theorem place_ge {K i : Nat} (h : i ≤ mostL K) : placeL K i = 0 := by
  unfold placeL
  rw [if_neg (by omega)]
theorem app_bytes {S o : ByteArray} {A Z : List UInt8} (h : S.data.toList = A) (k : o.data.toList = Z) : (S ++ o).data.toList = A ++ Z := by
  rw [ByteArray.data_append, Array.toList_append, h, k]
theorem bytes_size {S : ByteArray} {A : List UInt8} (h : S.data.toList = A) : S.size = A.length := by
  rw [← h]; simp
theorem bytes_mk {S : ByteArray} {A : List UInt8} (h : S.data.toList = A) : S = ⟨⟨A⟩⟩ := by
  apply ByteArray.ext
  apply Array.toList_inj.1
  exact h
set_option maxRecDepth 100000 in
set_option maxHeartbeats 16000000 in
theorem lists_walk (k n : Int) {w : World} (he : EnvL w) : Calls Tryz.prog 8 #[.int .i64 k, .int .i64 n] w fun e w' => e = .returned (.bool true) ∧ Below w.heap.size w w' := by
  obtain ⟨Pst, hPst⟩ : ∃ Pst, Pst = fun (e : Ending) (w' : World) => e = .returned (.bool true) ∧ Below w.heap.size w w' := ⟨_, rfl⟩
  have HPST := Lib.hid hPst
  rw [← hPst]
  have con := sanity_any he
  obtain ⟨K, hKe⟩ : ∃ K : Nat, (K : Int) = k % 65536 % 7 := ⟨(k % 65536 % 7).toNat, by omega⟩
  obtain ⟨N, hNe⟩ : ∃ N : Nat, (N : Int) = 1 + n % 65536 % 16 := ⟨(1 + n % 65536 % 16).toNat, by omega⟩
  have HKE := Lib.hid hKe
  have HNE := Lib.hid hNe
  have HK7 := Lib.hid (show K < 7 by omega)
  have HN1 := Lib.hid (show 1 ≤ N ∧ N ≤ 16 by omega)
  have HE := Lib.hid he
  clear hPst he hKe hNe
  go_enter Tryz.func8, Tryz.ntmps8
  go_wp2_with fail
  refine con.mono ?_
  rintro e w2 ⟨rfl, b2⟩
  have B2 := Lib.hid b2
  clear con b2
  go_upto_region 2 with (fail)
  go_cut [0] from 18 to 20 (fun x0 wx => x0 = .int .i64 (K : Nat) ∧ Hid (wx = w2))
  case first =>
    have e1 := mask16 k
    obtain ⟨y, hy⟩ : ∃ y, y = k % 65536 := ⟨_, rfl⟩
    have hy1 : 0 ≤ y := by omega
    have e2 : Int.tmod y 7 = (K : Int) := by rw [Int.tmod_eq_emod_of_nonneg hy1, hy]; exact HKE.out.symm
    rw [← hy] at e1
    clear hy
    go_wp2_with fail
    go_meet
    exact ⟨rfl, rfl⟩
  case rest =>
  obtain ⟨rfl, hwc⟩ := hcut
  have hwc := hwc.out.symm
  subst hwc
  go_upto_region 3 with (fail)
  go_cut [1] from 21 to 24 (fun x1 wx => x1 = .int .i64 (N : Nat) ∧ Hid (wx = w2))
  case first =>
    have e1 := mask16 n
    obtain ⟨y, hy⟩ : ∃ y, y = n % 65536 := ⟨_, rfl⟩
    have hy1 : 0 ≤ y := by omega
    obtain ⟨z, hz⟩ : ∃ z : Nat, (z : Int) = y % 16 := ⟨(y % 16).toNat, by omega⟩
    have hz2 : z < 16 := by omega
    have e2 : Int.tmod y 16 = (z : Int) := by rw [Int.tmod_eq_emod_of_nonneg hy1, hz]
    have HZ := Lib.hid (show N = 1 + z by have h9 := HNE.out; rw [← hy, ← hz] at h9; omega)
    rw [← hy] at e1
    clear hy hz
    go_wp2_with fail
    go_meet
    refine ⟨?_, rfl⟩
    rw [HZ.out]
    simp
  case rest =>
  obtain ⟨rfl, hwc⟩ := hcut
  have hwc := hwc.out.symm
  subst hwc
  obtain ⟨V1, hV1⟩ : ∃ W, w2.alloc (.cells #[.string ⟨#[99, 114, 101, 97, 116, 101, 32, 116, 97, 98, 108, 101, 32, 116, 32, 40]⟩, .string ⟨#[99, 114, 101, 97, 116, 101, 32, 105, 110, 100, 101, 120, 32, 105, 32, 111, 110, 32, 116, 32, 40]⟩, .string ⟨#[105, 110, 115, 101, 114, 116, 32, 105, 110, 116, 111, 32, 116, 32, 118, 97, 108, 117, 101, 115, 32, 40]⟩, .string ⟨#[117, 112, 100, 97, 116, 101, 32, 116, 32, 115, 101, 116, 32]⟩, .string ⟨#[100, 101, 108, 101, 116, 101, 32, 102, 114, 111, 109, 32, 116, 32, 119, 104, 101, 114, 101, 32]⟩, .string ⟨#[115, 101, 108, 101, 99, 116, 32]⟩, .string ⟨#[115, 101, 108, 101, 99, 116, 32, 97, 32, 102, 114, 111, 109, 32, 116, 32, 111, 114, 100, 101, 114, 32, 98, 121, 32]⟩] 56) = W := ⟨_, rfl⟩
  obtain ⟨V2, hV2⟩ : ∃ W, V1.alloc (.cells #[.string ⟨#[97, 32, 105, 110, 116]⟩, .string ⟨#[97]⟩, .string ⟨#[49]⟩, .string ⟨#[97, 32, 61, 32, 49]⟩, .string ⟨#[97, 32, 61, 32, 49]⟩, .string ⟨#[97]⟩, .string ⟨#[97]⟩] 56) = W := ⟨_, rfl⟩
  have s1 : V1.heap.size = w2.heap.size + 1 := by rw [← hV1]; simp
  have s2 : V2.heap.size = w2.heap.size + 2 := by rw [← hV2]; simp [s1]
  go_upto_region 7 with (fail)
  obtain ⟨V3, hV3⟩ : ∃ W, V2.alloc (.cells #[.string ⟨#[41]⟩, .string ⟨#[41]⟩, .string ⟨#[41]⟩, .string ⟨#[]⟩, .string ⟨#[]⟩, .string ⟨#[32, 102, 114, 111, 109, 32, 116]⟩, .string ⟨#[]⟩] 56) = W := ⟨_, rfl⟩
  rw [hV3]
  obtain ⟨V4, hV4⟩ : ∃ W, V3.alloc (.cells #[.int .i64 6, .int .i64 6, .int .i64 6, .int .i64 6, .int .i64 8, .int .i64 12, .int .i64 6] 57) = W := ⟨_, rfl⟩
  have s3 : V3.heap.size = w2.heap.size + 3 := by rw [← hV3]; simp [s2]
  have s4 : V4.heap.size = w2.heap.size + 4 := by rw [← hV4]; simp [s3]
  have q1 : V4.heap[w2.heap.size]? = some (.cells #[.string ⟨#[99, 114, 101, 97, 116, 101, 32, 116, 97, 98, 108, 101, 32, 116, 32, 40]⟩, .string ⟨#[99, 114, 101, 97, 116, 101, 32, 105, 110, 100, 101, 120, 32, 105, 32, 111, 110, 32, 116, 32, 40]⟩, .string ⟨#[105, 110, 115, 101, 114, 116, 32, 105, 110, 116, 111, 32, 116, 32, 118, 97, 108, 117, 101, 115, 32, 40]⟩, .string ⟨#[117, 112, 100, 97, 116, 101, 32, 116, 32, 115, 101, 116, 32]⟩, .string ⟨#[100, 101, 108, 101, 116, 101, 32, 102, 114, 111, 109, 32, 116, 32, 119, 104, 101, 114, 101, 32]⟩, .string ⟨#[115, 101, 108, 101, 99, 116, 32]⟩, .string ⟨#[115, 101, 108, 101, 99, 116, 32, 97, 32, 102, 114, 111, 109, 32, 116, 32, 111, 114, 100, 101, 114, 32, 98, 121, 32]⟩] 56 (0, 0)) := by
    rw [← hV4, heap_alloc_old _ _ (by omega), ← hV3, heap_alloc_old _ _ (by omega), ← hV2, heap_alloc_old _ _ (by omega), ← hV1]; exact heap_alloc_new _ _
  have q2 : V4.heap[w2.heap.size + 1]? = some (.cells #[.string ⟨#[97, 32, 105, 110, 116]⟩, .string ⟨#[97]⟩, .string ⟨#[49]⟩, .string ⟨#[97, 32, 61, 32, 49]⟩, .string ⟨#[97, 32, 61, 32, 49]⟩, .string ⟨#[97]⟩, .string ⟨#[97]⟩] 56 (0, 0)) := by
    rw [← hV4, heap_alloc_old _ _ (by omega), ← hV3, heap_alloc_old _ _ (by omega), ← hV2, ← s1]; exact heap_alloc_new _ _
  have q3 : V4.heap[w2.heap.size + 2]? = some (.cells #[.string ⟨#[41]⟩, .string ⟨#[41]⟩, .string ⟨#[41]⟩, .string ⟨#[]⟩, .string ⟨#[]⟩, .string ⟨#[32, 102, 114, 111, 109, 32, 116]⟩, .string ⟨#[]⟩] 56 (0, 0)) := by
    rw [← hV4, heap_alloc_old _ _ (by omega), ← hV3, ← s2]; exact heap_alloc_new _ _
  have q4 : V4.heap[w2.heap.size + 3]? = some (.cells #[.int .i64 6, .int .i64 6, .int .i64 6, .int .i64 6, .int .i64 8, .int .i64 12, .int .i64 6] 57 (0, 0)) := by
    rw [← hV4, ← s3]; exact heap_alloc_new _ _
  have b4 : Below w2.heap.size w2 V4 := by
    rw [← hV4, ← hV3, ← hV2, ← hV1]
    exact ((((Below.refl _ _).alloc (Nat.le_refl _) _).alloc (by simp) _).alloc (by simp; omega) _).alloc (by simp; omega) _
  have hK7 := HK7.out
  obtain ⟨bS, hbS⟩ : ∃ b : ByteArray, b = ⟨⟨beginL K⟩⟩ := ⟨_, rfl⟩
  obtain ⟨oS, hoS⟩ : ∃ b : ByteArray, b = ⟨⟨oneL K⟩⟩ := ⟨_, rfl⟩
  obtain ⟨eS, heS⟩ : ∃ b : ByteArray, b = ⟨⟨endL K⟩⟩ := ⟨_, rfl⟩
  obtain ⟨M, hM⟩ : ∃ m : Nat, m = mostL K := ⟨_, rfl⟩
  have c1 : V4.cell? ⟨w2.heap.size, K, none⟩ = some (.string bS) := by rw [hbS]; exact (cells_of q1 K).trans (begin_at hK7)
  have c2 : V4.cell? ⟨w2.heap.size + 1, K, none⟩ = some (.string oS) := by rw [hoS]; exact (cells_of q2 K).trans (one_at hK7)
  have c3 : V4.cell? ⟨w2.heap.size + 2, K, none⟩ = some (.string eS) := by rw [heS]; exact (cells_of q3 K).trans (end_at hK7)
  have c4 : V4.cell? ⟨w2.heap.size + 3, K, none⟩ = some (.int .i64 (M : Nat)) := by rw [hM]; exact (cells_of q4 K).trans (most_at hK7)
  have HBS := Lib.hid (show bS.data.toList = beginL K by rw [hbS])
  have HOS := Lib.hid (show oS.data.toList = oneL K by rw [hoS])
  have HES := Lib.hid (show eS.data.toList = endL K by rw [heS])
  have HM := Lib.hid hM
  have hM2 : M ≤ 12 := by rw [hM]; exact most_le K hK7
  have hos : oS.size ≤ 100 := by rw [bytes_size HOS.out]; exact one_len K hK7
  have hes : eS.size ≤ 100 := by rw [bytes_size HES.out]; exact end_len K hK7
  have B4 := Lib.hid b4
  have hs4 : w2.heap.size + 3 < V4.heap.size := by omega
  have hN1 := HN1.out.1
  have hN2 := HN1.out.2
  clear q1 q2 q3 q4 b4 hbS hoS heS hM
  go_upto_region 10 with (fail)
  clear c1 hV1 hV2 hV3 hV4 s1 s2 s3 s4
  go_wp2_with fail
  go_loopw [10, 11, 12] (fun x10 x11 x12 wr => ∃ (i : Nat) (S : ByteArray) (pz : Int), i ≤ N ∧ x12 = .int .i64 i ∧ x10 = .string S ∧ x11 = .int .i64 pz ∧ Hid (S.data.toList = textL K i) ∧ Hid (pz = (placeL K i : Nat)) ∧ Hid (wr = V4)) (fun _ _ x12 _ => N - (intOf x12).toNat)
  case atStart => exact ⟨0, bS, 0, Nat.zero_le _, rfl, rfl, rfl, (by rw [HBS.out]; show beginL K = beginL K ++ []; rw [List.append_nil]), (by rw [place_ge (Nat.zero_le _)]; rfl), rfl⟩
  case round =>
    obtain ⟨i, S, pz, hi, rfl, rfl, rfl, HS, HP, hwr⟩ := hrel
    have hwr := hwr.out.symm
    subst hwr
    have hSs : S.size ≤ 1000 := by rw [bytes_size HS.out]; exact text_len K HK7.out i (by omega)
    by_cases hlt : i < N
    · by_cases h0 : i = 0
      · have HSP := Lib.hid (show sepL0 K i = [] by unfold sepL0; rw [if_pos h0])
        have d0 : decide (0 < i) = false := decide_eq_false (by omega)
        have d1 : decide ((0 : Int) < (i : Int)) = false := decide_eq_false (by omega)
        clear h0
        by_cases hm : i = M
        · have HSM := Lib.hid (show i = mostL K by rw [← HM.out]; exact hm)
          have dm : (i == M) = true := by simpa using hm
          have dn : ((i : Int) == (M : Int)) = true := by simpa using (show (i : Int) = (M : Int) by omega)
          clear hm
          go_wp2_with fail
          go_roundw
          case rel => exact ⟨i + 1, _, _, hlt, by go_num, rfl, rfl, (by rw [text_next, HSP.out, List.nil_append]; exact app_bytes HS.out HOS.out), (by show (_ : Int) = _; rw [place_hit HSM.out, List.length_append, HSP.out, ← bytes_size HS.out]; simp), (by first | trivial | rfl)⟩
          case measure => simp [intOf]; omega
        · have HSM := Lib.hid (show i ≠ mostL K by rw [← HM.out]; exact hm)
          have dm : (i == M) = false := by simpa using hm
          have dn : ((i : Int) == (M : Int)) = false := by simpa using (show ¬ (i : Int) = (M : Int) by omega)
          clear hm
          go_wp2_with fail
          go_roundw
          case rel => exact ⟨i + 1, _, _, hlt, by go_num, rfl, rfl, (by rw [text_next, HSP.out, List.nil_append]; exact app_bytes HS.out HOS.out), (by rw [place_next HSM.out]; exact HP.out), (by first | trivial | rfl)⟩
          case measure => simp [intOf]; omega
      · have d0 : decide (0 < i) = true := decide_eq_true (by omega)
        have d1 : decide ((0 : Int) < (i : Int)) = true := decide_eq_true (by omega)
        by_cases h4 : K = 4
        · have HSP := Lib.hid (show sepL0 K i = [32, 97, 110, 100, 32] by unfold sepL0; rw [if_neg h0, if_pos h4])
          have d4 : ((K : Int) == 4) = true := by simpa using (show (K : Int) = 4 by omega)
          have d5 : (K == 4) = true := by simpa using h4
          clear h0 h4
          by_cases hm : i = M
          · have HSM := Lib.hid (show i = mostL K by rw [← HM.out]; exact hm)
            have dm : (i == M) = true := by simpa using hm
            have dn : ((i : Int) == (M : Int)) = true := by simpa using (show (i : Int) = (M : Int) by omega)
            clear hm
            go_wp2_with fail
            go_roundw
            case rel => exact ⟨i + 1, _, _, hlt, by go_num, rfl, rfl, (by rw [text_next, HSP.out, ← List.append_assoc]; exact app_bytes (app_bytes HS.out rfl) HOS.out), (by show (_ : Int) = _; rw [place_hit HSM.out, List.length_append, HSP.out, ← bytes_size HS.out]; simp [ByteArray.size_append]; try rfl), (by first | trivial | rfl)⟩
            case measure => simp [intOf]; omega
          · have HSM := Lib.hid (show i ≠ mostL K by rw [← HM.out]; exact hm)
            have dm : (i == M) = false := by simpa using hm
            have dn : ((i : Int) == (M : Int)) = false := by simpa using (show ¬ (i : Int) = (M : Int) by omega)
            clear hm
            go_wp2_with fail
            go_roundw
            case rel => exact ⟨i + 1, _, _, hlt, by go_num, rfl, rfl, (by rw [text_next, HSP.out, ← List.append_assoc]; exact app_bytes (app_bytes HS.out rfl) HOS.out), (by rw [place_next HSM.out]; exact HP.out), (by first | trivial | rfl)⟩
            case measure => simp [intOf]; omega
        · have HSP := Lib.hid (show sepL0 K i = [44, 32] by unfold sepL0; rw [if_neg h0, if_neg h4])
          have d4 : ((K : Int) == 4) = false := by simpa using (show ¬ (K : Int) = 4 by omega)
          have d5 : (K == 4) = false := by simpa using h4
          clear h0 h4
          by_cases hm : i = M
          · have HSM := Lib.hid (show i = mostL K by rw [← HM.out]; exact hm)
            have dm : (i == M) = true := by simpa using hm
            have dn : ((i : Int) == (M : Int)) = true := by simpa using (show (i : Int) = (M : Int) by omega)
            clear hm
            go_wp2_with fail
            go_roundw
            case rel => exact ⟨i + 1, _, _, hlt, by go_num, rfl, rfl, (by rw [text_next, HSP.out, ← List.append_assoc]; exact app_bytes (app_bytes HS.out rfl) HOS.out), (by show (_ : Int) = _; rw [place_hit HSM.out, List.length_append, HSP.out, ← bytes_size HS.out]; simp [ByteArray.size_append]; try rfl), (by first | trivial | rfl)⟩
            case measure => simp [intOf]; omega
          · have HSM := Lib.hid (show i ≠ mostL K by rw [← HM.out]; exact hm)
            have dm : (i == M) = false := by simpa using hm
            have dn : ((i : Int) == (M : Int)) = false := by simpa using (show ¬ (i : Int) = (M : Int) by omega)
            clear hm
            go_wp2_with fail
            go_roundw
            case rel => exact ⟨i + 1, _, _, hlt, by go_num, rfl, rfl, (by rw [text_next, HSP.out, ← List.append_assoc]; exact app_bytes (app_bytes HS.out rfl) HOS.out), (by rw [place_next HSM.out]; exact HP.out), (by first | trivial | rfl)⟩
            case measure => simp [intOf]; omega
    · obtain rfl : i = N := by omega
      have HT := Lib.hid (show S ++ eS = ⟨⟨textL K i ++ endL K⟩⟩ from bytes_mk (app_bytes HS.out HES.out))
      have hlen : (S ++ eS).size ≤ 4294967000 := by rw [ByteArray.size_append]; omega
      have HE4 := Lib.hid (HE.out.below (step2 B2.out B4.out))
      by_cases hm : M < i
      · have HPM := Lib.hid (show parseM (S ++ eS) = .error (placeL K i, 2) by rw [HT.out]; exact lists_many HK7.out hN1 hN2 (by rw [← HM.out]; exact hm))
        have con : Calls Tryz.prog 21 #[.string (S ++ eS)] V4 (fun e w' => e = .returned (.tuple #[.agg #[.int .i64 0, .string ⟨#[]⟩, .string ⟨#[]⟩, .slice none 0 0, .slice none 0 0, .slice none 0 0, .slice none 0 0, .slice none 0 0, .string ⟨#[]⟩, .string ⟨#[]⟩, .string ⟨#[]⟩, .int .i64 0, .slice none 0 0, .int .i64 0, .int .i64 0], .int .i64 pz, .int .i64 2]) ∧ Below V4.heap.size V4 w') := by
          rw [HP.out]
          exact parse_bad HE4.out hlen HPM.out
        have dm : decide (M < i) = true := decide_eq_true hm
        clear hm hlen
        go_wp2_with fail
        refine con.mono ?_
        rintro e w3 ⟨rfl, b3⟩
        have c5 : w3.cell? ⟨w2.heap.size + 3, K, none⟩ = some (.int .i64 (M : Nat)) := (b3.cell (p := ⟨w2.heap.size + 3, K, none⟩) hs4).trans c4
        have hs5 : w2.heap.size + 3 < w3.heap.size := Nat.lt_of_lt_of_le hs4 b3.size
        have B3 := Lib.hid (step2 B4.out b3)
        clear con b3 c2 c3 c4
        go_wp2_with fail
        rw [HPST.out]
        exact ⟨rfl, step2 B2.out (step2 B3.out ((Below.refl _ _).alloc (Nat.le_refl _) _))⟩
      · obtain ⟨q, hq, hl⟩ := lists_ok HK7.out hN1 hN2 (show i ≤ mostL K by rw [← HM.out]; omega)
        rw [← HT.out] at hq
        have con := parse_ok HE4.out hlen hq
        have dm : decide (M < i) = false := decide_eq_false hm
        clear hm hlen hq
        go_wp2_with fail
        refine con.mono ?_
        rintro e w3 ⟨L3, rfl, b3, l3⟩
        obtain ⟨⟨o0, o00, e1⟩, ⟨o1, o11, e2⟩, ⟨o2, o22, e3⟩, ⟨o3, o33, e4⟩, ⟨o4, o44, e5⟩, ⟨o5, o55, e6⟩⟩ := l3.shapes
        obtain ⟨Lc, Ln, Lr, Ls, Lw, Lo⟩ := L3
        simp only at e1 e2 e3 e4 e5 e6
        subst e1 e2 e3 e4 e5 e6
        have HL := Lib.hid hl
        obtain ⟨tk, ttb, tnm, tcols, tnames, trow, tsets, twher, tj, tl, tr, ta, torder, tm, tn⟩ := q
        simp only [stC]
        obtain ⟨W6, hW6⟩ : ∃ W, w3.alloc (.cells #[.int .i64 tk, .string ttb, .string tnm, .slice o0 tcols.length o00, .slice o1 tnames.length o11, .slice o2 trow.length o22, .slice o3 tsets.length o33, .slice o4 twher.length o44, .string tj, .string tl, .string tr, .int .i64 ta, .slice o5 torder.length o55, .int .i64 tm, .int .i64 tn] 29) = W := ⟨_, rfl⟩
        have b6 : Below w3.heap.size w3 W6 := by rw [← hW6]; exact (Below.refl _ _).alloc (Nat.le_refl _) _
        have hb6 : W6.heap[w3.heap.size]? = some (.cells #[.int .i64 tk, .string ttb, .string tnm, .slice o0 tcols.length o00, .slice o1 tnames.length o11, .slice o2 trow.length o22, .slice o3 tsets.length o33, .slice o4 twher.length o44, .string tj, .string tl, .string tr, .int .i64 ta, .slice o5 torder.length o55, .int .i64 tm, .int .i64 tn] 29 (0, 0)) := by rw [← hW6]; exact heap_alloc_new _ _
        have c5 : W6.cell? ⟨w2.heap.size + 3, K, none⟩ = some (.int .i64 (M : Nat)) := ((step2 b3 b6).cell (p := ⟨w2.heap.size + 3, K, none⟩) hs4).trans c4
        have B6 := Lib.hid (step2 B4.out (step2 b3 b6))
        have z3 := cells_of hb6 3
        have z4 := cells_of hb6 4
        have z5 := cells_of hb6 5
        have z6 := cells_of hb6 6
        have z7 := cells_of hb6 7
        have z12 := cells_of hb6 12
        simp only [List.getElem?_toArray, List.getElem?_cons_zero, List.getElem?_cons_succ] at z3 z4 z5 z6 z7 z12
        obtain ⟨V7, hV7⟩ : ∃ W, W6.alloc (.cells #[.int .i64 tcols.length, .int .i64 tnames.length, .int .i64 trow.length, .int .i64 tsets.length, .int .i64 twher.length, .int .i64 tnames.length, .int .i64 torder.length] 57) = W := ⟨_, rfl⟩
        have b7 : Below W6.heap.size W6 V7 := by rw [← hV7]; exact (Below.refl _ _).alloc (Nat.le_refl _) _
        have c7 : V7.cell? ⟨W6.heap.size, K, none⟩ = some (.int .i64 (i : Nat)) := by
          rw [← hV7, cells_of (heap_alloc_new _ _)]
          have h9 := lens_at HK7.out ⟨tk, ttb, tnm, tcols, tnames, trow, tsets, twher, tj, tl, tr, ta, torder, tm, tn⟩
          rw [HL.out] at h9
          exact h9
        have B7 := Lib.hid (step2 B6.out b7)
        clear con b3 b6 hb6 b7 l3 hl c2 c3 c4 hs4
        go_wp2_with fail
        rw [HPST.out]
        exact ⟨rfl, step2 B2.out B7.out⟩
end Go.Proofs.YtieojjngeibnmaaGreatDoor
