/- The lexer's tests of a byte, and how far one holds. The eight bytes of a number: the program's and the reference's. Rows of values in memory; value.right and the reference's RightRow. -/
import Derived.Test.YtpfjakcfjpgbmaaGreatDoorZN4
import Derived.Test.YtpfjakcfjpgbmaaGreatDoorProg
import Derived.LoopN
import Derived.Test.YtpfjakcfjpgbmaaGreatDoorZN12
namespace Go.Proofs.YtpfjakcfjpgbmaaGreatDoor
set_option linter.unusedVariables false
set_option linter.unusedSimpArgs false
open Go.RowKit

def letB (c : UInt8) : Bool := decide (97 ≤ c) && decide (c ≤ 122)
def digB (c : UInt8) : Bool := decide (48 ≤ c) && decide (c ≤ 57)
def inB (c : UInt8) : Bool := letB c || digB c || c == 95
def spanN (p : UInt8 → Bool) (L : List UInt8) : Nat := (L.takeWhile p).length

theorem letter_any (c : UInt8) (w : World) : Calls Tryz.prog 159 #[.int .u8 (c.toNat : Nat)] w fun e w' => e = .returned (.bool (letB c)) ∧ w = w' := by
  have HC := Lib.hid (show letB c = (decide (97 ≤ c.toNat) && decide (c.toNat ≤ 122)) from rfl)
  have hb := c.toNat_lt
  generalize c.toNat = n at *
  go_enter Tryz.func159, Tryz.ntmps159
  by_cases h1 : 97 ≤ n
  · by_cases h2 : n ≤ 122
    · have d2 : decide (n ≤ 122) = true := decide_eq_true h2
      go_wp2_with fail
      go_ret
      exact ⟨by rw [HC.out]; first | (simp [h1, h2]; done) | (simp [h1, h2]; omega), rfl⟩
    · go_wp2_with fail
      go_ret
      exact ⟨by rw [HC.out]; first | (simp [h1, h2]; done) | (simp [h1, h2]; omega), rfl⟩
  · go_wp2_with fail
    go_ret
    exact ⟨by rw [HC.out]; first | (simp [h1]; done) | (simp [h1]; omega), rfl⟩
theorem digit_any (c : UInt8) (w : World) : Calls Tryz.prog 162 #[.int .u8 (c.toNat : Nat)] w fun e w' => e = .returned (.bool (digB c)) ∧ w = w' := by
  have HC := Lib.hid (show digB c = (decide (48 ≤ c.toNat) && decide (c.toNat ≤ 57)) from rfl)
  have hb := c.toNat_lt
  generalize c.toNat = n at *
  go_enter Tryz.func162, Tryz.ntmps162
  by_cases h1 : 48 ≤ n
  · by_cases h2 : n ≤ 57
    · go_wp2_with fail
      go_ret
      exact ⟨by rw [HC.out]; first | (simp [h1, h2]; done) | (simp [h1, h2]; omega), rfl⟩
    · go_wp2_with fail
      go_ret
      exact ⟨by rw [HC.out]; first | (simp [h1, h2]; done) | (simp [h1, h2]; omega), rfl⟩
  · go_wp2_with fail
    go_ret
    exact ⟨by rw [HC.out]; first | (simp [h1]; done) | (simp [h1]; omega), rfl⟩
theorem inner_any (c : UInt8) (w : World) : Calls Tryz.prog 161 #[.int .u8 (c.toNat : Nat)] w fun e w' => e = .returned (.bool (inB c)) ∧ w = w' := by
  have HC := Lib.hid (show inB c = (letB c || digB c || c == 95) from rfl)
  have con1 := letter_any c
  have con2 := digit_any c
  have hb := c.toNat_lt
  have h95 : (c == 95) = decide (c.toNat = 95) := by
    rw [Bool.eq_iff_iff, beq_iff_eq, decide_eq_true_eq]
    exact ⟨fun e => by rw [e]; rfl, fun e => UInt8.toNat_inj.1 e⟩
  rw [h95] at HC
  clear h95
  generalize c.toNat = n at *
  obtain ⟨l, hl⟩ : ∃ l, l = letB c := ⟨_, rfl⟩
  obtain ⟨d, hd⟩ : ∃ d, d = digB c := ⟨_, rfl⟩
  rw [← hl, ← hd] at HC
  rw [← hl] at con1
  rw [← hd] at con2
  clear hl hd
  cases l with
  | true =>
    go_enter Tryz.func161, Tryz.ntmps161
    go_wp2_with (refine (con1 _).mono ?_; rintro e w1 ⟨rfl, rfl⟩)
    go_ret
    exact ⟨by rw [HC.out]; rfl, rfl⟩
  | false =>
    cases d with
    | true =>
      go_enter Tryz.func161, Tryz.ntmps161
      go_wp2_with (first | (refine (con1 _).mono ?_; rintro e w1 ⟨rfl, rfl⟩) | (refine (con2 _).mono ?_; rintro e w1 ⟨rfl, rfl⟩))
      go_ret
      exact ⟨by rw [HC.out]; rfl, rfl⟩
    | false =>
      have HD := Lib.hid (show inB c = decide ((n : Int) = 95) by rw [HC.out, Bool.false_or, Bool.false_or]; simp only [decide_eq_decide]; omega)
      go_enter Tryz.func161, Tryz.ntmps161
      go_wp2_with (first | (refine (con1 _).mono ?_; rintro e w1 ⟨rfl, rfl⟩) | (refine (con2 _).mono ?_; rintro e w1 ⟨rfl, rfl⟩))
      go_ret
      exact ⟨by rw [HD.out]; rfl, rfl⟩
theorem drop_step (s : ByteArray) (k : Nat) (h : k < s.size) : s.data.toList.drop k = s[k] :: s.data.toList.drop (k + 1) := by
  rw [List.drop_eq_getElem_cons (by simpa using h)]
  rfl
theorem span_step (p : UInt8 → Bool) (s : ByteArray) (k : Nat) (h : k < s.size) : spanN p (s.data.toList.drop k) = if p s[k] = true then 1 + spanN p (s.data.toList.drop (k + 1)) else 0 := by
  rw [drop_step s k h]
  unfold spanN
  cases hp : p s[k] with
  | true => simp [List.takeWhile_cons, hp, Nat.add_comm]
  | false => simp [List.takeWhile_cons, hp]
theorem while_any (p : UInt8 → Bool) {g : FuncId} (eg : ∀ args w, (callFunc g args).run Tryz.prog w = .ok (.enter g args) w) (hg : ∀ c w, Calls Tryz.prog g #[.int .u8 (c.toNat : Nat)] w fun e w' => e = .returned (.bool (p c)) ∧ w = w')
    (s : ByteArray) (i : Nat) (hi : i ≤ s.size) (hs : s.size ≤ 4294967000) (w : World) :
    Calls Tryz.prog 160 #[.string s, .int .i64 i, .func (.func g) #[] #[]] w fun e w' => e = .returned (.int .i64 ((i + spanN p (s.data.toList.drop i) : Nat) : Int)) ∧ w = w' := by
  go_enter Tryz.func160, Tryz.ntmps160
  go_wp2_with fail
  go_loopw [1] (fun ii wr => ∃ k : Nat, k ≤ s.size ∧ ii = .int .i64 k ∧ wr = w ∧ Hid (i + spanN p (s.data.toList.drop i) = k + spanN p (s.data.toList.drop k))) (fun ii _ => s.size - (intOf ii).toNat)
  case atStart => exact ⟨i, hi, rfl, rfl, rfl⟩
  case round =>
    obtain ⟨k, hk, rfl, rfl, HF⟩ := hrel
    by_cases hlt : k < s.size
    · have HX := Lib.hid (span_step p s k hlt)
      have con := hg s[k] wr
      cases hp : p s[k] with
      | false =>
        have HR := Lib.hid (show i + spanN p (s.data.toList.drop i) = k by rw [HF.out, HX.out, hp]; rfl)
        rw [hp] at con
        clear hp
        go_wp2_with fail
        refine con.mono ?_
        rintro e w1 ⟨rfl, rfl⟩
        clear con
        go_wp2_with fail
        go_ret
        exact ⟨by rw [HR.out]; rfl, rfl⟩
      | true =>
        have HR := Lib.hid (show i + spanN p (s.data.toList.drop i) = k + 1 + spanN p (s.data.toList.drop (k + 1)) by rw [HF.out, HX.out, hp]; simp only [if_true]; omega)
        rw [hp] at con
        clear hp
        go_wp2_with fail
        refine con.mono ?_
        rintro e w1 ⟨rfl, rfl⟩
        clear con
        go_wp2_with fail
        go_roundw
        case rel => exact ⟨k + 1, by omega, by go_num, by first | trivial | rfl, HR.out⟩
        case measure => simp [intOf]; omega
    · have hk2 : k = s.size := by omega
      have HR := Lib.hid (show i + spanN p (s.data.toList.drop i) = k by rw [HF.out, hk2, List.drop_eq_nil_of_le (by simp)]; rfl)
      clear hk2
      go_wp2_with fail
      go_ret
      exact ⟨by rw [HR.out]; rfl, rfl⟩
end Go.Proofs.YtpfjakcfjpgbmaaGreatDoor

namespace Go.Proofs.YtpfjakcfjpgbmaaGreatDoor
set_option linter.unusedVariables false
set_option linter.unusedSimpArgs false
open Go.RowKit

theorem and_mask (x : Int) (m : Nat) (hm : m ≤ 62) : bits .and .i64 x ((2 ^ m - 1 : Nat) : Int) = x % ((2 ^ m : Nat) : Int) := by
  have hp : 2 ^ m ≤ 2 ^ 62 := Nat.pow_le_pow_right (by omega) hm
  have hp0 : 0 < 2 ^ m := Nat.pos_of_ne_zero (by simp)
  have hd : (18446744073709551616 : Int) = ((2 ^ m : Nat) : Int) * ((2 ^ (64 - m) : Nat) : Int) := by
    rw [← Int.natCast_mul, ← Nat.pow_add]
    have : m + (64 - m) = 64 := by omega
    rw [this]
    rfl
  have e : (BitVec.ofInt 64 x &&& BitVec.ofInt 64 ((2 ^ m - 1 : Nat) : Int)).toNat = ((x % 18446744073709551616).toNat) % 2 ^ m := by
    rw [BitVec.toNat_and, BitVec.toNat_ofInt, BitVec.toNat_ofInt]
    have h1 : (((2 ^ m - 1 : Nat) : Int) % ((2 ^ 64 : Nat) : Int)).toNat = 2 ^ m - 1 := by
      have : ((2 ^ m - 1 : Nat) : Int) % ((2 ^ 64 : Nat) : Int) = ((2 ^ m - 1 : Nat) : Int) := Int.emod_eq_of_lt (by omega) (by omega)
      rw [this]
      omega
    rw [h1, Nat.and_two_pow_sub_one_eq_mod]
    rfl
  show IntKind.i64.wrap ((BitVec.ofInt 64 x &&& BitVec.ofInt 64 ((2 ^ m - 1 : Nat) : Int)).toNat : Int) = _
  rw [e, IntKind.wrap_i64]
  have h0 := Int.emod_nonneg x (show (18446744073709551616 : Int) ≠ 0 by omega)
  have h2 : ((((x % 18446744073709551616).toNat % 2 ^ m : Nat)) : Int) = x % ((2 ^ m : Nat) : Int) := by
    rw [Int.natCast_emod, Int.toNat_of_nonneg h0, hd, Int.emod_emod_of_dvd _ ⟨_, rfl⟩]
  rw [h2]
  have h3 := Int.emod_nonneg x (show ((2 ^ m : Nat) : Int) ≠ 0 by omega)
  have h4 := Int.emod_lt_of_pos x (show (0 : Int) < ((2 ^ m : Nat) : Int) by omega)
  generalize x % ((2 ^ m : Nat) : Int) = y at *
  omega
theorem and_mask8 (x : Int) : bits .and .i64 x 255 = x % 256 := and_mask x 8 (by omega)
theorem div_b7 (n : Int) : n / 72057594037927936 % 256 = (n / 256 / 256 / 256 / 256 / 256 / 256 / 256) % 256 := by omega
theorem div_b6 (n : Int) : n / 281474976710656 % 256 = (n / 256 / 256 / 256 / 256 / 256 / 256) % 256 := by omega
theorem div_b5 (n : Int) : n / 1099511627776 % 256 = (n / 256 / 256 / 256 / 256 / 256) % 256 := by omega
theorem div_b4 (n : Int) : n / 4294967296 % 256 = (n / 256 / 256 / 256 / 256) % 256 := by omega
theorem div_b3 (n : Int) : n / 16777216 % 256 = (n / 256 / 256 / 256) % 256 := by omega
theorem div_b2 (n : Int) : n / 65536 % 256 = (n / 256 / 256) % 256 := by omega

set_option maxRecDepth 100000 in
set_option maxHeartbeats 1000000 in
theorem whole_any (n : Int) (h0 : 0 ≤ n) (h1 : n ≤ 18446744073709551615) (w : World) :
    Calls Tryz.prog 233 #[.int .u64 n] w fun e w' => e = .returned (.string ⟨(be 8 n).toArray⟩) ∧ Below w.heap.size w w' := by
  have C := Lib.hid (conv_tail (P := Tryz.prog) w 285 5 9 323 Tryz.underlying285 Tryz.underlying5 Tryz.underlying9 [n / 72057594037927936 % 256, n / 281474976710656 % 256, n / 1099511627776 % 256, n / 4294967296 % 256, n / 16777216 % 256, n / 65536 % 256, n / 256 % 256, n % 256])
  have c := C.out 0 8 8 (by simp)
  simp only [List.map_cons, List.map_nil, List.drop, List.take] at c
  clear C
  go_enter Tryz.func233, Tryz.ntmps233
  go_wp2
  clear h0 h1
  refine wp_loop_rounds 9 ?_
  repeat any_goals (rw [rounds_succ]; go_wp2_with fail)
  go_ret
  refine ⟨?_, by go_grown⟩
  simp only [div_b2, div_b3, div_b4, div_b5, div_b6, div_b7]
  rfl

theorem rone_any (n : Int) (w : World) : Calls Tryz.prog 323 #[.int .i64 n] w fun e w' => e = .returned (.string ⟨[byteOf n].toArray⟩) ∧ Below w.heap.size w w' := by
  have C := conv_tail (P := Tryz.prog) w 285 5 9 5 Tryz.underlying285 Tryz.underlying5 Tryz.underlying9 [n % 256] 0 1 1 (by simp)
  have C' : (convert 285 9 (.slice (some ⟨w.heap.size, 0, none⟩) 1 1)).run Tryz.prog (w.alloc (.cells #[.int .u8 (n % 256)] 5)) = .ok (.string ⟨[byteOf n].toArray⟩) (w.alloc (.cells #[.int .u8 (n % 256)] 5)) := C
  clear C
  go_enter Tryz.func323, Tryz.ntmps323
  go_wp2_with fail
  go_ret
  exact ⟨rfl, by go_grown⟩

set_option maxHeartbeats 1000000 in
theorem rwhole_any (n : Int) (w : World) : Calls Tryz.prog 324 #[.int .i64 n] w fun e w' => e = .returned (.string ⟨(be 8 n).toArray⟩) ∧ Below w.heap.size w w' := by
  go_enter Tryz.func324, Tryz.ntmps324
  go_wp2_with fail
  go_loopw [0, 3, 4] (fun u s i wr => ∃ j : Nat, j ≤ 8 ∧ i = .int .i64 j ∧ s = .string ⟨(be j n).toArray⟩ ∧ u = .int .i64 (n / 256 ^ j) ∧ Below w.heap.size w wr) (fun _ _ i _ => 8 - (intOf i).toNat)
  case atStart => exact ⟨0, by omega, rfl, rfl, by simp, Below.refl _ _⟩
  case round =>
    obtain ⟨j, hj, rfl, rfl, rfl, hb⟩ := hrel
    have CC := Lib.hid hb
    clear hb
    have hl := be_len j n
    by_cases h1 : j < 8
    · have hm : bits .and .i64 (n / 256 ^ j) 255 = n / 256 ^ j % 256 := and_mask8 _
      have hby : byteOf (n / 256 ^ j % 256) = byteOf (n / 256 ^ j) := by unfold byteOf; rw [Int.emod_emod]
      have hp : n / 256 ^ j / 256 = n / 256 ^ (j + 1) := by rw [Int.pow_succ, Int.ediv_ediv_of_nonneg (by exact Int.pow_nonneg (by omega))]
      generalize hx : n / 256 ^ j = x at *
      have HX := Lib.hid hx
      clear hx
      go_wp2_with fail
      refine (rone_any _ _).mono ?_
      rintro e w2 ⟨rfl, b2⟩
      have C2 := Lib.hid (CC.out.trans (b2.mono CC.out.size))
      clear b2
      go_wp2_with fail
      go_roundw
      case rel => exact ⟨j + 1, by omega, by go_num, by rw [← HX.out]; show Value.string (⟨[byteOf (n / 256 ^ j)].toArray⟩ ++ ⟨(be j n).toArray⟩) = _; rw [bytes_app, be_front]; rfl, rfl, C2.out⟩
      case measure => simp [intOf]; omega
    · have hj8 : j = 8 := by omega
      subst hj8
      go_wp2_with fail
      go_ret
      exact ⟨rfl, CC.out⟩
end Go.Proofs.YtpfjakcfjpgbmaaGreatDoor

namespace Go.Proofs.YtpfjakcfjpgbmaaGreatDoor
set_option linter.unusedVariables false
set_option linter.unusedSimpArgs false
open Go.RowKit

instance : Inhabited Val := ⟨⟨0, 0, ⟨#[]⟩⟩⟩
/-- the values L lie one after the other from 'a' on, three cells each -/
def ValsAt (w : World) (a : Option Addr) (L : List Val) : Prop :=
  L = [] ∨ ∃ b off, a = some ⟨b, off, none⟩ ∧ ∀ t, t < L.length → w.cell? ⟨b, off + t * 3, none⟩ = some (.int .i64 (L.getD t default).kind) ∧
    w.cell? ⟨b, off + t * 3 + 1, none⟩ = some (.int .i64 (L.getD t default).n) ∧ w.cell? ⟨b, off + t * 3 + 2, none⟩ = some (.string (L.getD t default).s)
def rightsB (L : List Val) : Bool := L.all rightB && decide (L.length ≤ 6)

theorem getD_mem (L : List Val) (k : Nat) (h : k < L.length) : L.getD k default ∈ L := by
  rw [List.getD_eq_getElem?_getD, List.getElem?_eq_getElem h]
  exact List.getElem_mem h
theorem rights_no (L : List Val) (k : Nat) (h : k < L.length) (hr : rightB (L.getD k default) = false) : rightsB L = false := by
  have : L.all rightB = false := by
    rw [List.all_eq_false]
    exact ⟨_, getD_mem L k h, by rw [hr]; exact Bool.false_ne_true⟩
  simp [rightsB, this]
theorem take_all (L : List Val) (k : Nat) (h : k < L.length) : (L.take (k + 1)).all rightB = ((L.take k).all rightB && rightB (L.getD k default)) := by
  rw [List.take_add_one, List.getElem?_eq_getElem h, List.all_append, List.getD_eq_getElem?_getD, List.getElem?_eq_getElem h]
  simp

theorem rights_any (a : Option Addr) (cap : Nat) (L : List Val) (w : World) (h : ValsAt w a L) (hn : L.length ≤ 140737488351232) :
    Calls Tryz.prog 231 #[.slice a L.length cap] w fun e w' => e = .returned (.bool (rightsB L)) ∧ Below w.heap.size w w' := by
  have H := Lib.hid h
  clear h
  go_enter Tryz.func231, Tryz.ntmps231
  go_wp2_with fail
  go_loopw [7] (fun i wr => ∃ k : Nat, k ≤ L.length ∧ i = .int .i64 k ∧ (L.take k).all rightB = true ∧ Below w.heap.size w wr) (fun i _ => L.length - (intOf i).toNat)
  case atStart => exact ⟨0, by omega, rfl, by simp, Below.refl _ _⟩
  case round =>
    obtain ⟨k, hk, rfl, hall, hb⟩ := hrel
    by_cases h1 : k < L.length
    · obtain h0 | ⟨b, off, rfl, hc⟩ := H.out
      · rw [h0] at h1; cases h1
      obtain ⟨c0, c1, c2⟩ := hc k h1
      have hbl := World.block_lt_of_cell? w _ c0
      simp only at hbl
      rw [← hb.cell hbl] at c0 c1 c2
      have CC := Lib.hid hb
      clear hb hc
      generalize hv : L.getD k default = v at *
      have HV := Lib.hid hv
      clear hv
      obtain ⟨kd, n, s⟩ := v
      simp only at c0 c1 c2
      go_wp2_with fail
      refine (right_any ⟨kd, n, s⟩ _).mono ?_
      rintro e w2 ⟨rfl, b2⟩
      have C2 := Lib.hid ((CC.out.alloc CC.out.size _).trans (b2.mono (by have := CC.out.size; simp; omega)))
      clear b2
      cases hr : rightB ⟨kd, n, s⟩
      · go_wp2_with fail
        go_ret
        exact ⟨by rw [rights_no L k h1 (by rw [HV.out]; exact hr)]; rfl, C2.out⟩
      · go_wp2_with fail
        go_roundw
        case rel => exact ⟨k + 1, by omega, by go_num, by rw [take_all L k h1, hall, HV.out, hr]; rfl, C2.out⟩
        case measure => simp [intOf]; omega
    · have hkl : k = L.length := by omega
      subst hkl
      go_wp2_with fail
      go_ret
      rw [List.take_length] at hall
      exact ⟨by simp only [rightsB, hall, Bool.true_and]; simp; omega, hb⟩

theorem rrights_any (a : Option Addr) (cap : Nat) (L : List Val) (w : World) (h : ValsAt w a L) (hn : L.length ≤ 140737488351232) :
    Calls Tryz.prog 322 #[.slice a L.length cap] w fun e w' => e = .returned (.bool (rightsB L)) ∧ Below w.heap.size w w' := by
  have H := Lib.hid h
  clear h
  go_enter Tryz.func322, Tryz.ntmps322
  go_wp2_with fail
  go_loopw [3] (fun i wr => ∃ k : Nat, k ≤ L.length ∧ i = .int .i64 k ∧ (L.take k).all rightB = true ∧ Below w.heap.size w wr) (fun i _ => L.length - (intOf i).toNat)
  case atStart => exact ⟨0, by omega, rfl, by simp, Below.refl _ _⟩
  case round =>
    obtain ⟨k, hk, rfl, hall, hb⟩ := hrel
    by_cases h1 : k < L.length
    · obtain h0 | ⟨b, off, rfl, hc⟩ := H.out
      · rw [h0] at h1; cases h1
      obtain ⟨c0, c1, c2⟩ := hc k h1
      have hbl := World.block_lt_of_cell? w _ c0
      simp only at hbl
      rw [← hb.cell hbl] at c0 c1 c2
      have CC := Lib.hid hb
      clear hb hc
      generalize hv : L.getD k default = v at *
      have HV := Lib.hid hv
      clear hv
      obtain ⟨kd, n, s⟩ := v
      simp only at c0 c1 c2
      go_wp2_with fail
      refine (rright_any ⟨kd, n, s⟩ _).mono ?_
      rintro e w2 ⟨rfl, b2⟩
      have C2 := Lib.hid (CC.out.trans (b2.mono CC.out.size))
      clear b2
      cases hr : rightB ⟨kd, n, s⟩
      · go_wp2_with fail
        go_ret
        exact ⟨by rw [rights_no L k h1 (by rw [HV.out]; exact hr)]; rfl, C2.out⟩
      · go_wp2_with fail
        go_roundw
        case rel => exact ⟨k + 1, by omega, by go_num, by rw [take_all L k h1, hall, HV.out, hr]; rfl, C2.out⟩
        case measure => simp [intOf]; omega
    · have hkl : k = L.length := by omega
      subst hkl
      go_wp2_with fail
      go_ret
      rw [List.take_length] at hall
      exact ⟨by simp only [rightsB, hall, Bool.true_and]; simp; omega, hb⟩
end Go.Proofs.YtpfjakcfjpgbmaaGreatDoor
