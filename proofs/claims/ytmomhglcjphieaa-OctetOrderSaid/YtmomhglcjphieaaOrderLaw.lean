/- OctetOrder: the 8-byte encodings of two non-negative integers compare like the integers, and Text adds exactly two bytes. Conditions: none beyond the row's own. -/
import Derived.Test.YtmomhglcjphieaaSanity
import Derived.Test.YtmomhglcjphieaaLaw
import Derived.Test.YtmomhglcjphieaaClass
namespace Go.Proofs.Ytmomhglcjphieaa
set_option linter.unusedVariables false
open Go.ChangeShapes Go.WideShapes Go.ChangeAt Go.RowKit

theorem byteOf_toNat (x : Int) : ((byteOf x).toNat : Int) = x % 256 := by
  unfold byteOf
  rw [UInt8.toNat_ofNat']
  omega
theorem byteOf_lt (x y : Int) : (byteOf x < byteOf y) ↔ x % 256 < y % 256 := by
  rw [UInt8.lt_iff_toNat_lt]
  have h1 := byteOf_toNat x
  have h2 := byteOf_toNat y
  omega
theorem byteOf_eq (x y : Int) : (byteOf x = byteOf y) ↔ x % 256 = y % 256 := by
  constructor
  · intro h
    rw [← byteOf_toNat, ← byteOf_toNat, h]
  · exact byteOf_congr
theorem mod_top (k : Nat) (x : Int) : x % 256 ^ (k + 1) = (x / 256 ^ k % 256) * 256 ^ k + x % 256 ^ k := by
  have hM : (0 : Int) < 256 ^ k := Int.pow_pos (by omega)
  rw [Int.pow_succ]
  generalize (256 : Int) ^ k = M at *
  have h1 : M * (x / M) + x % M = x := Int.mul_ediv_add_emod x M
  have h2 : 256 * (x / M / 256) + x / M % 256 = x / M := Int.mul_ediv_add_emod (x / M) 256
  have h3 := Int.emod_nonneg x (by omega : M ≠ 0)
  have h4 := Int.emod_lt_of_pos x hM
  have h5 : 0 ≤ x / M % 256 ∧ x / M % 256 ≤ 255 := by omega
  generalize x / M % 256 = v at *
  generalize x % M = r at *
  generalize x / M / 256 = u at *
  have e : x = v * M + r + M * 256 * u := by
    rw [← h1, ← h2, Int.mul_add, Int.mul_comm v M, ← Int.mul_assoc]
    omega
  rw [e, Int.add_mul_emod_self_left]
  have v1 : v * M ≤ 255 * M := Int.mul_le_mul_of_nonneg_right h5.2 (by omega)
  have v0 : 0 ≤ v * M := Int.mul_nonneg h5.1 (by omega)
  exact Int.emod_eq_of_lt (by omega) (by omega)
theorem less_be : ∀ (k : Nat) (x y : Int), Op.bytesLess (be k x) (be k y) = decide (x % 256 ^ k < y % 256 ^ k)
  | 0, x, y => by simp [be, Op.bytesLess, Int.emod_one]
  | k + 1, x, y => by
    rw [be_front, be_front]
    simp only [Op.bytesLess]
    rw [less_be k x y, mod_top k x, mod_top k y]
    have hM : (0 : Int) < 256 ^ k := Int.pow_pos (by omega)
    have h3 := Int.emod_nonneg x (by omega : (256 : Int) ^ k ≠ 0)
    have h4 := Int.emod_lt_of_pos x hM
    have h5 := Int.emod_nonneg y (by omega : (256 : Int) ^ k ≠ 0)
    have h6 := Int.emod_lt_of_pos y hM
    rw [Bool.eq_iff_iff]
    simp only [Bool.or_eq_true, Bool.and_eq_true, decide_eq_true_eq, beq_iff_eq, byteOf_lt, byteOf_eq]
    generalize x / 256 ^ k % 256 = a at *
    generalize y / 256 ^ k % 256 = b at *
    generalize x % 256 ^ k = r at *
    generalize y % 256 ^ k = s at *
    generalize (256 : Int) ^ k = M at *
    rcases Int.lt_trichotomy a b with h | h | h
    · have := Int.mul_le_mul_of_nonneg_right (show a + 1 ≤ b by omega) (show 0 ≤ M by omega)
      rw [Int.add_mul] at this
      constructor
      · intro _; omega
      · intro _; exact Or.inl h
    · subst h
      constructor
      · intro h; omega
      · intro h; right; exact ⟨rfl, by omega⟩
    · have := Int.mul_le_mul_of_nonneg_right (show b + 1 ≤ a by omega) (show 0 ≤ M by omega)
      rw [Int.add_mul] at this
      constructor
      · intro h; omega
      · intro h; omega
theorem eq_be : ∀ (k : Nat) (x y : Int), be k x = be k y ↔ x % 256 ^ k = y % 256 ^ k
  | 0, x, y => by simp [be, Int.emod_one]
  | k + 1, x, y => by
    rw [be_front, be_front, List.cons.injEq, eq_be k x y, mod_top k x, mod_top k y, byteOf_eq]
    have hM : (0 : Int) < 256 ^ k := Int.pow_pos (by omega)
    have h3 := Int.emod_nonneg x (by omega : (256 : Int) ^ k ≠ 0)
    have h4 := Int.emod_lt_of_pos x hM
    have h5 := Int.emod_nonneg y (by omega : (256 : Int) ^ k ≠ 0)
    have h6 := Int.emod_lt_of_pos y hM
    generalize x / 256 ^ k % 256 = a at *
    generalize y / 256 ^ k % 256 = b at *
    generalize x % 256 ^ k = r at *
    generalize y % 256 ^ k = s at *
    generalize (256 : Int) ^ k = M at *
    constructor
    · rintro ⟨rfl, rfl⟩; rfl
    · intro h
      rcases Int.lt_trichotomy a b with h' | h' | h'
      · have := Int.mul_le_mul_of_nonneg_right (show a + 1 ≤ b by omega) (show 0 ≤ M by omega)
        rw [Int.add_mul] at this
        omega
      · subst h'; exact ⟨rfl, by omega⟩
      · have := Int.mul_le_mul_of_nonneg_right (show b + 1 ≤ a by omega) (show 0 ≤ M by omega)
        rw [Int.add_mul] at this
        omega
theorem and62 (a : Int) : 0 ≤ bits .and .i64 a 4611686018427387903 ∧ bits .and .i64 a 4611686018427387903 ≤ 4611686018427387903 := by
  have e : (BitVec.ofInt 64 a &&& BitVec.ofInt 64 4611686018427387903).toNat ≤ 4611686018427387903 := by
    rw [BitVec.toNat_and]
    exact Nat.and_le_right
  show 0 ≤ IntKind.i64.wrap ((BitVec.ofInt 64 a &&& BitVec.ofInt 64 4611686018427387903).toNat : Int) ∧ IntKind.i64.wrap ((BitVec.ofInt 64 a &&& BitVec.ofInt 64 4611686018427387903).toNat : Int) ≤ 4611686018427387903
  rw [IntKind.wrap_i64]
  omega
theorem less_be8 (x y : Int) (hx : 0 ≤ x ∧ x ≤ 4611686018427387903) (hy : 0 ≤ y ∧ y ≤ 4611686018427387903) : Op.bytesLess (be (clamp8 8) x) (be (clamp8 8) y) = decide (x < y) := by
  rw [less_be]
  have e : (256 : Int) ^ clamp8 8 = 18446744073709551616 := by decide
  rw [e, Int.emod_eq_of_lt hx.1 (by omega), Int.emod_eq_of_lt hy.1 (by omega)]
theorem eq_be8 (x y : Int) (hx : 0 ≤ x ∧ x ≤ 4611686018427387903) (hy : 0 ≤ y ∧ y ≤ 4611686018427387903) : (be (clamp8 8) x = be (clamp8 8) y) ↔ x = y := by
  rw [eq_be]
  have e : (256 : Int) ^ clamp8 8 = 18446744073709551616 := by decide
  rw [e, Int.emod_eq_of_lt hx.1 (by omega), Int.emod_eq_of_lt hy.1 (by omega)]

theorem textOf_tail (s : ByteArray) : ((⟨(textOf s).toArray⟩ : ByteArray).extract 2 (textOf s).length).toList = cutTo s := by
  rw [Go.Lib.toList_data, extract_list]
  show ((textOf s).drop 2).take ((textOf s).length - 2) = cutTo s
  have e : (textOf s).drop 2 = cutTo s := by
    unfold textOf
    have h := be_len 2 ((cutTo s).length : Int)
    rw [List.drop_append_of_le_length (by omega), List.drop_of_length_le (by omega)]
    rfl
  rw [e, List.take_of_length_le]
  rw [textOf_len]
  omega
set_option maxHeartbeats 1000000 in
theorem order_walk (a : Int) (ha : -9223372036854775808 ≤ a ∧ a ≤ 9223372036854775807) (b : Int) (hb : -9223372036854775808 ≤ b ∧ b ≤ 9223372036854775807) (s : ByteArray) (hs : s.size ≤ 140737488351232) (w : World) :
    Calls Try.prog 5 #[.int .i64 a, .int .i64 b, .string s] w fun e w' => e = .returned (.bool true) ∧ Below w.heap.size w w' := by
  have hm : s.size ≤ maxLen := by unfold maxLen; omega
  go_enter Try.func5, Try.ntmps5
  go_wp2_with fail
  refine (sanity_any _).mono ?_
  rintro e w1 ⟨rfl, b1⟩
  have hX := and62 a
  have hY := and62 b
  by_cases hc : s.size ≤ 65535
  · go_wp2_with fail
    generalize bits .and .i64 a 4611686018427387903 = X at *
    generalize bits .and .i64 b 4611686018427387903 = Y at *
    have f1 := less_be8 X Y hX hY
    have f2 : (be (clamp8 8) X == be (clamp8 8) Y) = (X == Y) := by rw [Bool.eq_iff_iff]; simp only [beq_iff_eq]; exact eq_be8 X Y hX hY
    have f3 : (textOf s).length = s.size + 2 := by rw [textOf_len, cutTo_short hc, toList_size]
    refine (put_any _ _ _).mono ?_
    rintro e w2 ⟨rfl, b2⟩
    have c2 := Lib.hid (b1.trans (b2.mono b1.size))
    clear b2
    go_wp2_with fail
    refine (put_any _ _ _).mono ?_
    rintro e w3 ⟨rfl, b3⟩
    have c3 := Lib.hid (c2.out.trans (b3.mono c2.out.size))
    clear b3
    go_wp2_with fail
    refine (put_any _ _ _).mono ?_
    rintro e w4 ⟨rfl, b4⟩
    have c4 := Lib.hid (c3.out.trans (b4.mono c3.out.size))
    clear b4
    go_wp2_with fail
    refine (put_any _ _ _).mono ?_
    rintro e w5 ⟨rfl, b5⟩
    have c5 := Lib.hid (c4.out.trans (b5.mono c4.out.size))
    clear b5
    go_wp2_with fail
    refine (text_any s _ hm).mono ?_
    rintro e w6 ⟨rfl, b6⟩
    have c6 := Lib.hid (c5.out.trans (b6.mono c5.out.size))
    clear b6
    go_wp2_with fail
    refine (text_any s _ hm).mono ?_
    rintro e w7 ⟨rfl, b7⟩
    have c7 := Lib.hid (c6.out.trans (b7.mono c6.out.size))
    clear b7
    go_wp2_with fail
    go_ret
    refine ⟨ret_bool ?_, c7.out⟩
    rw [← f3, textOf_tail, Go.Lib.toList_data, cutTo_short hc]
    exact beq_self_eq_true _
  · go_wp2_with fail
    generalize bits .and .i64 a 4611686018427387903 = X at *
    generalize bits .and .i64 b 4611686018427387903 = Y at *
    have f1 := less_be8 X Y hX hY
    have f2 : (be (clamp8 8) X == be (clamp8 8) Y) = (X == Y) := by rw [Bool.eq_iff_iff]; simp only [beq_iff_eq]; exact eq_be8 X Y hX hY
    have f3 : (textOf s).length = 65537 := by rw [textOf_len, cutTo_long (by omega)]
    refine (put_any _ _ _).mono ?_
    rintro e w2 ⟨rfl, b2⟩
    have c2 := Lib.hid (b1.trans (b2.mono b1.size))
    clear b2
    go_wp2_with fail
    refine (put_any _ _ _).mono ?_
    rintro e w3 ⟨rfl, b3⟩
    have c3 := Lib.hid (c2.out.trans (b3.mono c2.out.size))
    clear b3
    go_wp2_with fail
    refine (put_any _ _ _).mono ?_
    rintro e w4 ⟨rfl, b4⟩
    have c4 := Lib.hid (c3.out.trans (b4.mono c3.out.size))
    clear b4
    go_wp2_with fail
    refine (put_any _ _ _).mono ?_
    rintro e w5 ⟨rfl, b5⟩
    have c5 := Lib.hid (c4.out.trans (b5.mono c4.out.size))
    clear b5
    go_wp2_with fail
    refine (text_any s _ hm).mono ?_
    rintro e w6 ⟨rfl, b6⟩
    have c6 := Lib.hid (c5.out.trans (b6.mono c5.out.size))
    clear b6
    go_wp2_with fail
    refine (text_any s _ hm).mono ?_
    rintro e w7 ⟨rfl, b7⟩
    have c7 := Lib.hid (c6.out.trans (b7.mono c6.out.size))
    clear b7
    go_wp2_with fail
    go_ret
    refine ⟨ret_bool ?_, c7.out⟩
    rw [← f3, textOf_tail, Go.Lib.toList_data, extract_list]
    exact beq_self_eq_true _

set_option maxRecDepth 100000 in
theorem octetOrder_lifted (os : Os) (started : os.Started) (H : Type) (enc : TypeId × Value → H) :
    ReturnsInHanded {} Try.checked os 5 .any (Rows.octetOrderSpec.pre6 enc Try.prog Try.f5 Rows.octetOrderRow.domain false) (Rows.octetOrderSpec.post enc Try.prog Try.f5 false true false false) := by
  refine returnsInHanded_of_change_sized (C := Try.checked) Try.own started (by kernel_rfl) Try.func5
    (ChangeSpec.witness6 (enc := enc) (C := Try.checked) false ⟨#[], #[.int .i64 0, .int .i64 0, .string .empty], []⟩ 8 (by kernel_rfl) (by kernel_rfl) (by kernel_rfl) (by kernel_rfl)) ?_
  intro W base args ds gs before hval0 hW _ hsz0 _
  have hval : ∀ (j : Nat) t v, Try.f5.params[j]? = some t → args[j]? = some v → Value.okWide Try.prog W .any base t v := hval0
  have hsz : (DataW.weightsEach Try.prog (Try.f5.params.toList ++ Rows.octetOrderSpec.plain.varTypes Try.prog) (ds ++ gs)).all (· ≤ reachBytes) = true := hsz0
  clear hsz0 hval0
  have hW' := hW
  obtain ⟨p, q, hA0, hV, rfl, hfz, hnd⟩ := hW
  have hA : DataW.TrodAll enc Try.prog W 0 (fun _ => true) true Try.f5.params.toList args.toList ds p := hA0
  rw [Try.params5] at hA hval hsz
  obtain ⟨v0, vs0, d0, ds0, p0, q0, hargs, rfl, rfl, h0, r0⟩ := trodAll_cons hA
  obtain ⟨v1, vs1, d1, ds1, p1, q1, rfl, rfl, rfl, h1, r1⟩ := trodAll_cons r0
  obtain ⟨v2, vs2, d2, ds2, p2, q2, rfl, rfl, rfl, h2, r2⟩ := trodAll_cons r1
  obtain ⟨rfl, rfl, rfl⟩ := trodAll_nil r2
  obtain rfl : args = #[v0, v1, v2] := by cases args; simp_all
  obtain ⟨rfl, rfl⟩ := trodVars_none hV
  obtain ⟨a, rfl, rfl, rfl, wa⟩ := open_int Try.underlying3 (hval 0 3 v0 rfl rfl) h0
  have bda : -9223372036854775808 ≤ a ∧ a ≤ 9223372036854775807 := by simpa [Lit.wf, IntKind.min, IntKind.max, IntKind.signed, IntKind.bits] using wa
  obtain ⟨b, rfl, rfl, rfl, wb⟩ := open_int Try.underlying3 (hval 1 3 v1 rfl rfl) h1
  have bdb : -9223372036854775808 ≤ b ∧ b ≤ 9223372036854775807 := by simpa [Lit.wf, IntKind.min, IntKind.max, IntKind.signed, IntKind.bits] using wb
  obtain ⟨s, rfl, rfl, rfl, hs⟩ := Go.ChangeMaps.open_string Try.underlying9 (hval 2 9 v2 rfl rfl) h2
  have zs : s.size ≤ 140737488351232 := sized_size hsz (j := 2) rfl rfl
  clear hA0
  refine (order_walk a bda b bdb s zs W).mono fun e W' ⟨he, hb⟩ => ?_
  subst he
  exact ⟨_, rfl, law_post Try.laidOut (by kernel_rfl) rfl Try.underlying4 rfl rfl hW' hb⟩

theorem octetOrder_holds : Rows.OctetOrderSaid :=
  OpenClaim.holds_of_wide 5 Try.f5 rfl rfl rfl rfl rfl rfl rfl ⟨rfl, rfl, rfl, rfl, rfl⟩ rfl rfl rfl rfl rfl (by kernel_rfl) Try.func5 (by kernel_rfl)
    (of_decide_eq_true (by kernel_rfl)) (by unfold Func.isWrapper; first | (rw [if_pos (by decide +kernel)]; kernel_rfl) | (rw [if_neg (by decide +kernel)]; exact ⟨rfl, rfl⟩))
    (fun os started H enc _ => octetOrder_lifted os started H enc)

end Go.Proofs.Ytmomhglcjphieaa
