/- OctetFails: after a call that asks for more bytes than remain, or for a negative number of bytes, every further call fails and the position does not change; a call that asks for available bytes does not fail. Conditions: none beyond the row's own. -/
import Derived.Test.YtmomhglcjphieaaSanity
import Derived.Test.YtmomhglcjphieaaLaw
import Derived.Test.YtmomhglcjphieaaCodec
namespace Go.Proofs.Ytmomhglcjphieaa
set_option linter.unusedVariables false
open Go.ChangeShapes Go.WideShapes Go.ChangeAt Go.RowKit

set_option maxHeartbeats 1000000 in
theorem fails_walk (s : ByteArray) (hs : s.size ≤ 140737488351232) (n : Int) (hn : -9223372036854775808 ≤ n ∧ n ≤ 9223372036854775807) (more : Int) (hmore : -9223372036854775808 ≤ more ∧ more ≤ 9223372036854775807) (w : World) :
    Calls Try.prog 12 #[.string s, .int .i64 n, .int .i64 more] w fun e w' => e = .returned (.bool true) ∧ Below w.heap.size w w' := by
  have hm : s.size ≤ maxLen := by unfold maxLen; omega
  obtain ⟨k, hk, hk1⟩ := idx_in s.size n
  obtain ⟨ht1, ht2⟩ := tmod_bd' n ((s.size : Int) + 1) (by omega)
  obtain ⟨hM0, hM1⟩ := and16 more
  go_enter Try.func12, Try.ntmps12
  go_wp2_with fail
  refine (sanity_any _).mono ?_
  rintro e w1 ⟨rfl, b1⟩
  have z1 := b1.size
  have C1 := Lib.hid b1
  clear b1
  go_wp2_with fail
  refine (read_any s _).mono ?_
  rintro e w2 ⟨rfl, e2⟩
  have C2 : Hid (Below w.heap.size w w2) := Lib.hid (by rw [← e2]; exact C1.out.alloc C1.out.size _)
  have R2 : Hid (Rd 49 w2 w1.heap.size s 0 false) := Lib.hid (by rw [← e2]; exact Rd.made _ _ _)
  clear e2
  go_wp2_with fail
  refine (take_yes (n := k) R2.out hm (by omega)).mono ?_
  rintro e w3 ⟨rfl, r3, g3⟩
  have C3 := Lib.hid (below_reader C2.out g3 z1)
  have R3 := Lib.hid r3
  clear r3 g3 C2 R2
  rw [Nat.zero_add] at *
  go_wp2_with fail
  refine (failed_any R3.out).mono ?_
  rintro e w3' ⟨rfl, rfl⟩
  go_wp2_with fail
  refine (at_any R3.out).mono ?_
  rintro e w3' ⟨rfl, rfl⟩
  go_wp2_with fail
  refine (take_no R3.out hm hk1 (Or.inr (Or.inr (by omega)))).mono ?_
  rintro e w4 ⟨rfl, r4, g4⟩
  have C4 := Lib.hid (below_reader C3.out g4 z1)
  have R4 := Lib.hid r4
  clear r4 g4
  go_wp2_with fail
  refine (take_no R4.out hm hk1 (Or.inl rfl)).mono ?_
  rintro e w5 ⟨rfl, r5, g5⟩
  have C5 := Lib.hid (below_reader C4.out g5 z1)
  have R5 := Lib.hid r5
  clear r5 g5
  go_wp2_with fail
  refine (num_no R5.out hm hk1).mono ?_
  rintro e w6 ⟨rfl, r6, g6⟩
  have C6 := Lib.hid (below_reader C5.out g6 z1)
  have R6 := Lib.hid r6
  clear r6 g6
  go_wp2_with fail
  refine (txt_no R6.out hm hk1).mono ?_
  rintro e w7 ⟨rfl, r7, g7⟩
  have C7 := Lib.hid (below_reader C6.out g7 z1)
  have R7 := Lib.hid r7
  clear r7 g7
  go_wp2_with fail
  have l7 := R7.out.lt
  have z7 := C7.out.size
  refine (read_any s _).mono ?_
  rintro e w8 ⟨rfl, e8⟩
  have C8 : Hid (Below w.heap.size w w8) := Lib.hid (by rw [← e8]; exact C7.out.alloc C7.out.size _)
  have S8 : Hid (Rd 49 w8 w7.heap.size s 0 false) := Lib.hid (by rw [← e8]; exact Rd.made _ _ _)
  have R8 : Hid (Rd 49 w8 w1.heap.size s k true) := Lib.hid (by rw [← e8]; exact R7.out.alloc _)
  clear e8
  go_wp2_with fail
  refine (take_no S8.out hm (by omega) (Or.inr (Or.inl (by omega)))).mono ?_
  rintro e w9 ⟨rfl, r9, g9⟩
  have C9 := Lib.hid (below_reader C8.out g9 z7)
  have R9 := Lib.hid (R8.out.kept g9 (by simp; omega))
  have S9 := Lib.hid r9
  clear r9 g9
  go_wp2_with fail
  refine (failed_any R9.out).mono ?_
  rintro e w3' ⟨rfl, rfl⟩
  go_wp2_with fail
  refine (failed_any S9.out).mono ?_
  rintro e w3' ⟨rfl, rfl⟩
  go_wp2_with fail
  refine (at_any R9.out).mono ?_
  rintro e w3' ⟨rfl, rfl⟩
  go_wp2_with fail
  refine (left_any R9.out hm hk1).mono ?_
  rintro e w3' ⟨rfl, q, rfl⟩
  go_wp2_with fail
  refine (at_any (S9.out.drewN q)).mono ?_
  rintro e w3' ⟨rfl, rfl⟩
  go_wp2_with fail
  go_ret
  exact ⟨rfl, below_drewN C9.out q⟩

set_option maxRecDepth 100000 in
theorem octetFails_lifted (os : Os) (started : os.Started) (H : Type) (enc : TypeId × Value → H) :
    ReturnsInHanded {} Try.checked os 12 .any (Rows.octetFailsSpec.pre6 enc Try.prog Try.f12 Rows.octetFailsRow.domain false) (Rows.octetFailsSpec.post enc Try.prog Try.f12 false true false false) := by
  refine returnsInHanded_of_change_sized (C := Try.checked) Try.own started (by kernel_rfl) Try.func12
    (ChangeSpec.witness6 (enc := enc) (C := Try.checked) false ⟨#[], #[.string .empty, .int .i64 0, .int .i64 0], []⟩ 8 (by kernel_rfl) (by kernel_rfl) (by kernel_rfl) (by kernel_rfl)) ?_
  intro W base args ds gs before hval0 hW _ hsz0 _
  have hval : ∀ (j : Nat) t v, Try.f12.params[j]? = some t → args[j]? = some v → Value.okWide Try.prog W .any base t v := hval0
  have hsz : (DataW.weightsEach Try.prog (Try.f12.params.toList ++ Rows.octetFailsSpec.plain.varTypes Try.prog) (ds ++ gs)).all (· ≤ reachBytes) = true := hsz0
  clear hsz0 hval0
  have hW' := hW
  obtain ⟨p, q, hA0, hV, rfl, hfz, hnd⟩ := hW
  have hA : DataW.TrodAll enc Try.prog W 0 (fun _ => true) true Try.f12.params.toList args.toList ds p := hA0
  rw [Try.params12] at hA hval hsz
  obtain ⟨v0, vs0, d0, ds0, p0, q0, hargs, rfl, rfl, h0, r0⟩ := trodAll_cons hA
  obtain ⟨v1, vs1, d1, ds1, p1, q1, rfl, rfl, rfl, h1, r1⟩ := trodAll_cons r0
  obtain ⟨v2, vs2, d2, ds2, p2, q2, rfl, rfl, rfl, h2, r2⟩ := trodAll_cons r1
  obtain ⟨rfl, rfl, rfl⟩ := trodAll_nil r2
  obtain rfl : args = #[v0, v1, v2] := by cases args; simp_all
  obtain ⟨rfl, rfl⟩ := trodVars_none hV
  obtain ⟨s, rfl, rfl, rfl, hs⟩ := Go.ChangeMaps.open_string Try.underlying9 (hval 0 9 v0 rfl rfl) h0
  have zs : s.size ≤ 140737488351232 := sized_size hsz (j := 0) rfl rfl
  obtain ⟨n, rfl, rfl, rfl, wn⟩ := open_int Try.underlying3 (hval 1 3 v1 rfl rfl) h1
  have bdn : -9223372036854775808 ≤ n ∧ n ≤ 9223372036854775807 := by simpa [Lit.wf, IntKind.min, IntKind.max, IntKind.signed, IntKind.bits] using wn
  obtain ⟨more, rfl, rfl, rfl, wmore⟩ := open_int Try.underlying3 (hval 2 3 v2 rfl rfl) h2
  have bdmore : -9223372036854775808 ≤ more ∧ more ≤ 9223372036854775807 := by simpa [Lit.wf, IntKind.min, IntKind.max, IntKind.signed, IntKind.bits] using wmore
  clear hA0
  refine (fails_walk s zs n bdn more bdmore W).mono fun e W' ⟨he, hb⟩ => ?_
  subst he
  exact ⟨_, rfl, law_post Try.laidOut (by kernel_rfl) rfl Try.underlying4 rfl rfl hW' hb⟩

theorem octetFails_holds : Rows.OctetFailsSaid :=
  OpenClaim.holds_of_wide 12 Try.f12 rfl rfl rfl rfl rfl rfl rfl ⟨rfl, rfl, rfl, rfl, rfl⟩ rfl rfl rfl rfl rfl (by kernel_rfl) Try.func12 (by kernel_rfl)
    (of_decide_eq_true (by kernel_rfl)) (by unfold Func.isWrapper; first | (rw [if_pos (by decide +kernel)]; kernel_rfl) | (rw [if_neg (by decide +kernel)]; exact ⟨rfl, rfl⟩))
    (fun os started H enc _ => octetFails_lifted os started H enc)

end Go.Proofs.Ytmomhglcjphieaa
