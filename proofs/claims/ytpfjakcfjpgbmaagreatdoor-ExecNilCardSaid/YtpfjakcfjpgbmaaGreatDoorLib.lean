/- Small plain lemmas on bytes, strings and worlds, over any program; nothing of one translation is used. -/
import Derived.WalkKit
import Derived.WalkSpells
import Derived.WalkLawsBesides
import Derived.Handy
import Derived.Lib.Hide
namespace Go.Proofs.YtpfjakcfjpgbmaaGreatDoor
set_option linter.unusedVariables false
set_option linter.unusedSimpArgs false
open Go.RowKit

theorem ret_int {k : IntKind} {a b : Int} (h : a = b) : Ending.returned (.int k a) = .returned (.int k b) := by rw [h]
theorem ret_bool {a b : Bool} (h : a = b) : Ending.returned (.bool a) = .returned (.bool b) := by rw [h]
theorem ret_str {a : ByteArray} {b : ByteArray} (h : a.data.toList = b.data.toList) : Ending.returned (.string a) = .returned (.string b) := by
  obtain ⟨⟨a⟩⟩ := a
  obtain ⟨⟨b⟩⟩ := b
  simp at h
  rw [h]

/-- the low byte of a number; the low k bytes, the highest first -/
def byteOf (n : Int) : UInt8 := UInt8.ofNat (n % 256).toNat
def be : Nat → Int → List UInt8
  | 0, _ => []
  | k + 1, n => be k (n / 256) ++ [byteOf n]
def clamp8 (n : Int) : Nat := (max 0 (min n 8)).toNat
theorem clamp8_le (n : Int) : clamp8 n ≤ 8 := by unfold clamp8; omega
theorem be_len : ∀ (k : Nat) (n : Int), (be k n).length = k
  | 0, _ => rfl
  | k + 1, n => by simp [be, be_len k]
theorem be_front : ∀ (j : Nat) (n : Int), be (j + 1) n = byteOf (n / 256 ^ j) :: be j n
  | 0, n => by simp [be]
  | j + 1, n => by
    rw [be, be_front j (n / 256), Int.ediv_ediv_of_nonneg (by omega)]
    have e : (256 : Int) * 256 ^ j = 256 ^ (j + 1) := by rw [Int.pow_succ, Int.mul_comm]
    rw [e]
    simp [be]
theorem byteOf_congr {a b : Int} (h : a % 256 = b % 256) : byteOf a = byteOf b := by unfold byteOf; rw [h]
theorem be_congr (a b : Int) : ∀ (j : Nat), (∀ i, i < j → (a / 256 ^ i) % 256 = (b / 256 ^ i) % 256) → be j a = be j b
  | 0, _ => rfl
  | j + 1, h => by rw [be_front, be_front, be_congr a b j (fun i hi => h i (by omega)), byteOf_congr (h j (by omega))]
theorem be_wrap (j : Nat) (n : Int) (h : j ≤ 8) : be j (IntKind.u64.wrap n) = be j n := by
  refine be_congr _ _ j fun i hi => ?_
  rw [IntKind.wrap_u64]
  have h3 : i = 0 ∨ i = 1 ∨ i = 2 ∨ i = 3 ∨ i = 4 ∨ i = 5 ∨ i = 6 ∨ i = 7 := by omega
  rcases h3 with rfl | rfl | rfl | rfl | rfl | rfl | rfl | rfl <;> simp only [Int.reducePow] <;> omega
theorem bytes_app (a b : List UInt8) : (⟨a.toArray⟩ : ByteArray) ++ ⟨b.toArray⟩ = ⟨(a ++ b).toArray⟩ := by
  apply ByteArray.ext
  simp
theorem pow256_le (n : Int) (j : Nat) : 0 ≤ IntKind.u64.wrap n / 256 ^ j ∧ IntKind.u64.wrap n / 256 ^ j ≤ 18446744073709551615 := by
  have h0 : 0 ≤ IntKind.u64.wrap n := by rw [IntKind.wrap_u64]; omega
  have h1 : IntKind.u64.wrap n ≤ 18446744073709551615 := by rw [IntKind.wrap_u64]; omega
  have hp : (0 : Int) < 256 ^ j := Int.pow_pos (by omega)
  exact ⟨Int.ediv_nonneg h0 (by omega), Int.le_trans (Int.ediv_le_self _ h0) h1⟩
theorem or_shift16 (b a : Nat) (hb : b < 65536) (ha : a < 65536) : bits .or .u32 ((b : Int) * 65536) (a : Int) = ((b * 65536 + a : Nat) : Int) := by
  have h := u32_or_nat (b * 65536) a (by omega) (by omega)
  rw [nat_join 16 (b * 65536) a (by omega) (by omega)] at h
  rw [← h]
  congr 1
/-- 'x << 8 | y' on ints: the low bits of x are 0 -/
theorem or_shift8 (x y : Int) (hx : x % 256 = 0) (h0 : 0 ≤ y) (h1 : y < 256) : bits .or .i64 x y = IntKind.i64.wrap (x + y) := by
  unfold bits
  have e : (BitVec.ofInt 64 x ||| BitVec.ofInt 64 y).toNat = (x % 18446744073709551616).toNat + (y % 18446744073709551616).toNat := by
    rw [BitVec.toNat_or, BitVec.toNat_ofInt, BitVec.toNat_ofInt]
    exact nat_join 8 _ _ (by omega) (by omega)
  show IntKind.i64.wrap ((BitVec.ofInt 64 x ||| BitVec.ofInt 64 y).toNat : Int) = _
  rw [e, IntKind.wrap_i64, IntKind.wrap_i64]
  omega
theorem be_add (x : Nat) : ∀ (y : Nat) (n : Int), be (x + y) n = be x (n / 256 ^ y) ++ be y n
  | 0, n => by simp [be]
  | y + 1, n => by
    have e : n / 256 ^ (y + 1) = n / 256 / 256 ^ y := by
      rw [Int.ediv_ediv_of_nonneg (by omega), Int.pow_succ, Int.mul_comm]
    show be (x + y) (n / 256) ++ [byteOf n] = _
    rw [be_add x y (n / 256), e, be, List.append_assoc]
theorem clamp8_of (n : Int) (h0 : 0 ≤ n) (h1 : n ≤ 8) : ((clamp8 n : Nat) : Int) = n := by unfold clamp8; omega
theorem clamp8_neg (n : Int) (h : n ≤ 0) : clamp8 n = 0 := by unfold clamp8; omega
theorem clamp8_big (n : Int) (h : 8 ≤ n) : clamp8 n = 8 := by unfold clamp8; omega
theorem conv_tail {P : Program} (w : World) (src e dst T : TypeId) (hs : P.underlying src = some (.slice e)) (he : P.underlying e = some (.int .u8)) (hd : P.underlying dst = some .string)
    (L : List Int) (off k cap : Nat) (hk : off + k ≤ L.length) :
    (convert src dst (.slice (some ⟨w.heap.size, off, none⟩) k cap)).run P (w.alloc (.cells (L.map (Value.int .u8)).toArray T)) =
      .ok (.string (strOfNums ((L.drop off).take k))) (w.alloc (.cells (L.map (Value.int .u8)).toArray T)) := by
  refine run_convert_bytes_arg _ src e hs he w.heap.size off k cap ((L.drop off).take k) (by simp; omega) (fun i hi => ?_) dst hd
  rw [World.cell?_alloc_mark]
  simp [List.getD, hi, List.getElem?_eq_getElem (show off + i < L.length by omega)]
theorem put_b7 (n : Int) : IntKind.u64.wrap n / 72057594037927936 % 256 = (n / 256 / 256 / 256 / 256 / 256 / 256 / 256) % 256 := by rw [IntKind.wrap_u64]; omega
theorem put_b6 (n : Int) : IntKind.u64.wrap n / 281474976710656 % 256 = (n / 256 / 256 / 256 / 256 / 256 / 256) % 256 := by rw [IntKind.wrap_u64]; omega
theorem put_b5 (n : Int) : IntKind.u64.wrap n / 1099511627776 % 256 = (n / 256 / 256 / 256 / 256 / 256) % 256 := by rw [IntKind.wrap_u64]; omega
theorem put_b4 (n : Int) : IntKind.u64.wrap n / 4294967296 % 256 = (n / 256 / 256 / 256 / 256) % 256 := by rw [IntKind.wrap_u64]; omega
theorem put_b3 (n : Int) : IntKind.u64.wrap n / 16777216 % 256 = (n / 256 / 256 / 256) % 256 := by rw [IntKind.wrap_u64]; omega
theorem put_b2 (n : Int) : IntKind.u64.wrap n / 65536 % 256 = (n / 256 / 256) % 256 := by rw [IntKind.wrap_u64]; omega
theorem put_b1 (n : Int) : IntKind.u64.wrap n / 256 % 256 = (n / 256) % 256 := by rw [IntKind.wrap_u64]; omega
theorem put_b0 (n : Int) : IntKind.u64.wrap n % 256 = n % 256 := by rw [IntKind.wrap_u64]; omega


end Go.Proofs.YtpfjakcfjpgbmaaGreatDoor
