/- OctetSizes: an encoding of x+y bytes is the x-byte encoding of n shifted right by y bytes, followed by the y-byte encoding of n (x, y at most 4); sizes below 0 and above 8 behave like 0 and 8. Conditions: none beyond the row's own. -/
import Derived.Test.YtmomhglcjphieaaSanity
import Derived.Test.YtmomhglcjphieaaLaw
import Derived.Test.YtmomhglcjphieaaClass
namespace Go.Proofs.Ytmomhglcjphieaa
set_option linter.unusedVariables false
open Go.ChangeShapes Go.WideShapes Go.ChangeAt Go.RowKit

set_option maxHeartbeats 1000000 in
theorem sizes_walk (n : Int) (hn : -9223372036854775808 ≤ n ∧ n ≤ 9223372036854775807) (size : Int) (hsz : -9223372036854775808 ≤ size ∧ size ≤ 9223372036854775807) (p0 p1 : Int) (hp0 : 0 ≤ p0 ∧ p0 ≤ 255) (hp1 : 0 ≤ p1 ∧ p1 ≤ 255) (w : World) :
    Calls Try.prog 6 #[.int .i64 n, .int .i64 size, .agg #[.int .u8 p0, .int .u8 p1]] w fun e w' => e = .returned (.bool true) ∧ Below w.heap.size w w' := by
  go_enter Try.func6, Try.ntmps6
  go_wp2_with fail
  refine (sanity_any _).mono ?_
  rintro e w1 ⟨rfl, b1⟩
  have hs := b1.size
  simp at hs
  have hc0 : w1.cell? ⟨w.heap.size, 0, none⟩ = some (.int .u8 p0) := by rw [b1.cell (by simp)]; exact World.cell?_alloc_mark _ _ _ _ 0
  have hc1 : w1.cell? ⟨w.heap.size, 1, none⟩ = some (.int .u8 p1) := by rw [b1.cell (by simp)]; exact World.cell?_alloc_mark _ _ _ _ 1
  have C1 := Lib.hid b1
  clear b1
  go_wp2_with fail
  obtain ⟨x, rfl⟩ := Int.eq_ofNat_of_zero_le hp0.1
  obtain ⟨y, rfl⟩ := Int.eq_ofNat_of_zero_le hp1.1
  have hX : 0 ≤ (x : Int) % 5 ∧ (x : Int) % 5 ≤ 4 := by omega
  have hY : 0 ≤ (y : Int) % 5 ∧ (y : Int) % 5 ≤ 4 := by omega
  generalize (x : Int) % 5 = X at *
  generalize (y : Int) % 5 = Y at *
  obtain ⟨hX0, hX1⟩ := hX
  obtain ⟨hY0, hY1⟩ := hY
  clear hc0 hc1 hp0 hp1
  have s1 : IntKind.i64.wrap (X + Y) = X + Y := IntWalk.i64_in _ (by omega)
  have s2 : IntKind.i64.wrap (8 * Y) = 8 * Y := IntWalk.i64_in _ (by omega)
  have s3 : 0 ≤ 8 * Y := by omega
  have cX := clamp8_of X (by omega) (by omega)
  have cY := clamp8_of Y (by omega) (by omega)
  have key : be (clamp8 (X + Y)) n = be (clamp8 X) (n / 2 ^ (8 * Y).toNat) ++ be (clamp8 Y) n := by
    have e1 : clamp8 (X + Y) = clamp8 X + clamp8 Y := by have := clamp8_of (X + Y) (by omega) (by omega); omega
    have e2 : (2 : Int) ^ (8 * Y).toNat = 256 ^ clamp8 Y := by
      have : (8 * Y).toNat = 8 * clamp8 Y := by omega
      rw [this, Int.pow_mul]
      rfl
    rw [e1, be_add, e2]
  have k1 : ((⟨(be (clamp8 X) (n / 2 ^ (8 * Y).toNat)).toArray⟩ : ByteArray) ++ ⟨(be (clamp8 Y) n).toArray⟩) = ⟨(be (clamp8 (X + Y)) n).toArray⟩ := by rw [bytes_app, key]
  have l1 := be_len (clamp8 X) (n / 2 ^ (8 * Y).toNat)
  have l2 := be_len (clamp8 Y) n
  have cX8 := clamp8_le X
  have cY8 := clamp8_le Y
  have KK := Lib.hid key
  clear key cX cY
  have l3 := be_len (clamp8 X) n
  have cX2 := clamp8_of X (by omega) (by omega)
  have hend : ∀ w9, Below w1.heap.size w1 w9 → Below w.heap.size w w9 := fun w9 b9 =>
    (((Below.refl w.heap.size w).alloc (Nat.le_refl _) _).trans (C1.out.mono (by simp))).trans (b9.mono (by omega))
  have HE := Lib.hid hend
  clear hend
  rcases Int.lt_or_le size 0 with hlt | hge
  · have z0 : decide (0 ≤ size) = false := by simp; omega
    have z1 : size ≤ 8 := by omega
    have z2 : be (clamp8 size) n = [] := by rw [clamp8_neg size (by omega)]; rfl
    refine wp_region_class (Below w1.heap.size w1) (by kernel_rfl) (by kernel_rfl) (Below.drew (Below.refl _ _)) (fun ne => ?_)
    repeat (go_big_quiet_step ((go_at_call 14; refine (put_any _ _ _).mono ?_; rintro e w2 ⟨rfl, b2⟩; exact ⟨rfl, class_below _ b2 (Nat.le_refl _)⟩)))
    refine wpQuiet_nil ?_
    intro w9 b9
    go_wp2_with fail
    go_ret
    exact ⟨rfl, HE.out _ b9⟩
  · rcases Int.lt_or_le 8 size with hgt | hle
    · have z1 : decide (size ≤ 8) = false := by simp; omega
      have z2 : be (clamp8 size) n = be (clamp8 8) n := by rw [clamp8_big size (by omega)]; rfl
      refine wp_region_class (Below w1.heap.size w1) (by kernel_rfl) (by kernel_rfl) (Below.drew (Below.refl _ _)) (fun ne => ?_)
      repeat (go_big_quiet_step ((go_at_call 14; refine (put_any _ _ _).mono ?_; rintro e w2 ⟨rfl, b2⟩; exact ⟨rfl, class_below _ b2 (Nat.le_refl _)⟩)))
      refine wpQuiet_nil ?_
      intro w9 b9
      go_wp2_with fail
      go_ret
      exact ⟨rfl, HE.out _ b9⟩
    · refine wp_region_class (Below w1.heap.size w1) (by kernel_rfl) (by kernel_rfl) (Below.drew (Below.refl _ _)) (fun ne => ?_)
      repeat (go_big_quiet_step ((go_at_call 14; refine (put_any _ _ _).mono ?_; rintro e w2 ⟨rfl, b2⟩; exact ⟨rfl, class_below _ b2 (Nat.le_refl _)⟩)))
      refine wpQuiet_nil ?_
      intro w9 b9
      go_wp2_with fail
      go_ret
      exact ⟨rfl, HE.out _ b9⟩

set_option maxRecDepth 100000 in
theorem octetSizes_lifted (os : Os) (started : os.Started) (H : Type) (enc : TypeId × Value → H) :
    ReturnsInHanded {} Try.checked os 6 .any (Rows.octetSizesSpec.pre6 enc Try.prog Try.f6 Rows.octetSizesRow.domain false) (Rows.octetSizesSpec.post enc Try.prog Try.f6 false true false false) := by
  refine returnsInHanded_of_change_sized (C := Try.checked) Try.own started (by kernel_rfl) Try.func6
    (ChangeSpec.witness6 (enc := enc) (C := Try.checked) false ⟨#[], #[.int .i64 0, .int .i64 0, .agg #[.int .u8 0, .int .u8 0]], []⟩ 8 (by kernel_rfl) (by kernel_rfl) (by kernel_rfl) (by kernel_rfl)) ?_
  intro W base args ds gs before hval0 hW _ hsz0 _
  have hval : ∀ (j : Nat) t v, Try.f6.params[j]? = some t → args[j]? = some v → Value.okWide Try.prog W .any base t v := hval0
  have hsz : (DataW.weightsEach Try.prog (Try.f6.params.toList ++ Rows.octetSizesSpec.plain.varTypes Try.prog) (ds ++ gs)).all (· ≤ reachBytes) = true := hsz0
  clear hsz0 hval0
  have hW' := hW
  obtain ⟨p, q, hA0, hV, rfl, hfz, hnd⟩ := hW
  have hA : DataW.TrodAll enc Try.prog W 0 (fun _ => true) true Try.f6.params.toList args.toList ds p := hA0
  rw [Try.params6] at hA hval hsz
  obtain ⟨v0, vs0, d0, ds0, p0, q0, hargs, rfl, rfl, h0, r0⟩ := trodAll_cons hA
  obtain ⟨v1, vs1, d1, ds1, p1, q1, rfl, rfl, rfl, h1, r1⟩ := trodAll_cons r0
  obtain ⟨v2, vs2, d2, ds2, p2, q2, rfl, rfl, rfl, h2, r2⟩ := trodAll_cons r1
  obtain ⟨rfl, rfl, rfl⟩ := trodAll_nil r2
  obtain rfl : args = #[v0, v1, v2] := by cases args; simp_all
  obtain ⟨rfl, rfl⟩ := trodVars_none hV
  obtain ⟨n, rfl, rfl, rfl, wn⟩ := open_int Try.underlying3 (hval 0 3 v0 rfl rfl) h0
  have bdn : -9223372036854775808 ≤ n ∧ n ≤ 9223372036854775807 := by simpa [Lit.wf, IntKind.min, IntKind.max, IntKind.signed, IntKind.bits] using wn
  obtain ⟨size, rfl, rfl, rfl, wsize⟩ := open_int Try.underlying3 (hval 1 3 v1 rfl rfl) h1
  have bdsize : -9223372036854775808 ≤ size ∧ size ≤ 9223372036854775807 := by simpa [Lit.wf, IntKind.min, IntKind.max, IntKind.signed, IntKind.bits] using wsize
  obtain ⟨x, y, rfl, rfl, rfl, wx, wy⟩ := open_arr2 Try.underlying30 Try.underlying5 (by kernel_rfl) (by kernel_rfl) (hval 2 30 v2 rfl rfl) h2
  have bdx : 0 ≤ x ∧ x ≤ 255 := by simpa [Lit.wf, IntKind.min, IntKind.max, IntKind.signed, IntKind.bits] using wx
  have bdy : 0 ≤ y ∧ y ≤ 255 := by simpa [Lit.wf, IntKind.min, IntKind.max, IntKind.signed, IntKind.bits] using wy
  clear hA0
  refine (sizes_walk n bdn size bdsize x y bdx bdy W).mono fun e W' ⟨he, hb⟩ => ?_
  subst he
  exact ⟨_, rfl, law_post Try.laidOut (by kernel_rfl) rfl Try.underlying4 rfl rfl hW' hb⟩

theorem octetSizes_holds : Rows.OctetSizesSaid :=
  OpenClaim.holds_of_wide 6 Try.f6 rfl rfl rfl rfl rfl rfl rfl ⟨rfl, rfl, rfl, rfl, rfl⟩ rfl rfl rfl rfl rfl (by kernel_rfl) Try.func6 (by kernel_rfl)
    (of_decide_eq_true (by kernel_rfl)) (by unfold Func.isWrapper; first | (rw [if_pos (by decide +kernel)]; kernel_rfl) | (rw [if_neg (by decide +kernel)]; exact ⟨rfl, rfl⟩))
    (fun os started H enc _ => octetSizes_lifted os started H enc)

end Go.Proofs.Ytmomhglcjphieaa
