/- OctetPuts: for all integers n and size and every string s, Put, Text and Sum return what the reference returns, also for sizes in 0..15. Conditions: none beyond the row's own. -/
import Derived.Test.YtmomhglcjphieaaSanity
import Derived.Test.YtmomhglcjphieaaLaw
namespace Go.Proofs.Ytmomhglcjphieaa
set_option linter.unusedVariables false
open Go.ChangeShapes Go.WideShapes Go.ChangeAt Go.RowKit

set_option maxHeartbeats 400000 in
theorem puts_walk (n : Int) (hn : -9223372036854775808 ≤ n ∧ n ≤ 9223372036854775807) (size : Int) (hsize : -9223372036854775808 ≤ size ∧ size ≤ 9223372036854775807) (s : ByteArray) (hs : s.size ≤ 140737488351232) (w : World) :
    Calls Try.prog 3 #[.int .i64 n, .int .i64 size, .string s] w fun e w' => e = .returned (.bool true) ∧ Below w.heap.size w w' := by
  have hm : s.size ≤ maxLen := by unfold maxLen; omega
  go_enter Try.func3, Try.ntmps3
  go_wp2_with fail
  refine (sanity_any _).mono ?_
  rintro e w1 ⟨rfl, b1⟩
  go_wp2_with fail
  refine (put_any _ _ _).mono ?_
  rintro e w2 ⟨rfl, b2⟩
  have c2 := Lib.hid (b1.trans (b2.mono b1.size))
  clear b2
  go_wp2_with fail
  refine (rput_any _ _ _).mono ?_
  rintro e w3 ⟨rfl, b3⟩
  have c3 := Lib.hid (c2.out.trans (b3.mono c2.out.size))
  clear b3 c2
  go_wp2_with fail
  refine (put_any _ _ _).mono ?_
  rintro e w4 ⟨rfl, b4⟩
  have c4 := Lib.hid (c3.out.trans (b4.mono c3.out.size))
  clear b4 c3
  go_wp2_with fail
  refine (rput_any _ _ _).mono ?_
  rintro e w5 ⟨rfl, b5⟩
  have c5 := Lib.hid (c4.out.trans (b5.mono c4.out.size))
  clear b5 c4
  go_wp2_with fail
  refine (text_any _ _ hm).mono ?_
  rintro e w6 ⟨rfl, b6⟩
  have c6 := Lib.hid (c5.out.trans (b6.mono c5.out.size))
  clear b6 c5
  go_wp2_with fail
  refine (rtext_any _ _ hm).mono ?_
  rintro e w7 ⟨rfl, b7⟩
  have c7 := Lib.hid (c6.out.trans (b7.mono c6.out.size))
  clear b7 c6
  go_wp2_with fail
  refine (sum_any _ _ hm).mono ?_
  rintro e w8 ⟨rfl, b8⟩
  have c8 := Lib.hid (c7.out.trans (b8.mono c7.out.size))
  clear b8 c7
  go_wp2_with fail
  refine (rsum_any _ _ hm).mono ?_
  rintro e w9 ⟨rfl, rfl⟩
  go_wp2_with fail
  go_ret
  exact ⟨rfl, c8.out⟩

set_option maxRecDepth 100000 in
theorem octetPuts_lifted (os : Os) (started : os.Started) (H : Type) (enc : TypeId × Value → H) :
    ReturnsInHanded {} Try.checked os 3 .any (Rows.octetPutsSpec.pre6 enc Try.prog Try.f3 Rows.octetPutsRow.domain false) (Rows.octetPutsSpec.post enc Try.prog Try.f3 false true false false) := by
  refine returnsInHanded_of_change_sized (C := Try.checked) Try.own started (by kernel_rfl) Try.func3
    (ChangeSpec.witness6 (enc := enc) (C := Try.checked) false ⟨#[], #[.int .i64 0, .int .i64 0, .string .empty], []⟩ 8 (by kernel_rfl) (by kernel_rfl) (by kernel_rfl) (by kernel_rfl)) ?_
  intro W base args ds gs before hval0 hW _ hsz0 _
  have hval : ∀ (j : Nat) t v, Try.f3.params[j]? = some t → args[j]? = some v → Value.okWide Try.prog W .any base t v := hval0
  have hsz : (DataW.weightsEach Try.prog (Try.f3.params.toList ++ Rows.octetPutsSpec.plain.varTypes Try.prog) (ds ++ gs)).all (· ≤ reachBytes) = true := hsz0
  clear hsz0 hval0
  have hW' := hW
  obtain ⟨p, q, hA0, hV, rfl, hfz, hnd⟩ := hW
  have hA : DataW.TrodAll enc Try.prog W 0 (fun _ => true) true Try.f3.params.toList args.toList ds p := hA0
  rw [Try.params3] at hA hval hsz
  obtain ⟨v0, vs0, d0, ds0, p0, q0, hargs, rfl, rfl, h0, r0⟩ := trodAll_cons hA
  obtain ⟨v1, vs1, d1, ds1, p1, q1, rfl, rfl, rfl, h1, r1⟩ := trodAll_cons r0
  obtain ⟨v2, vs2, d2, ds2, p2, q2, rfl, rfl, rfl, h2, r2⟩ := trodAll_cons r1
  obtain ⟨rfl, rfl, rfl⟩ := trodAll_nil r2
  obtain rfl : args = #[v0, v1, v2] := by cases args; simp_all
  obtain ⟨rfl, rfl⟩ := trodVars_none hV
  obtain ⟨n, rfl, rfl, rfl, wn⟩ := open_int Try.underlying3 (hval 0 3 v0 rfl rfl) h0
  have bdn : -9223372036854775808 ≤ n ∧ n ≤ 9223372036854775807 := by simpa [Lit.wf, IntKind.min, IntKind.max, IntKind.signed, IntKind.bits] using wn
  obtain ⟨size, rfl, rfl, rfl, wsize⟩ := open_int Try.underlying3 (hval 1 3 v1 rfl rfl) h1
  have bdsize : -9223372036854775808 ≤ size ∧ size ≤ 9223372036854775807 := by simpa [Lit.wf, IntKind.min, IntKind.max, IntKind.signed, IntKind.bits] using wsize
  obtain ⟨s, rfl, rfl, rfl, hs⟩ := Go.ChangeMaps.open_string Try.underlying9 (hval 2 9 v2 rfl rfl) h2
  have zs : s.size ≤ 140737488351232 := sized_size hsz (j := 2) rfl rfl
  clear hA0
  refine (puts_walk n bdn size bdsize s zs W).mono fun e W' ⟨he, hb⟩ => ?_
  subst he
  exact ⟨_, rfl, law_post Try.laidOut (by kernel_rfl) rfl Try.underlying4 rfl rfl hW' hb⟩

theorem octetPuts_holds : Rows.OctetPutsSaid :=
  OpenClaim.holds_of_wide 3 Try.f3 rfl rfl rfl rfl rfl rfl rfl ⟨rfl, rfl, rfl, rfl, rfl⟩ rfl rfl rfl rfl rfl (by kernel_rfl) Try.func3 (by kernel_rfl)
    (of_decide_eq_true (by kernel_rfl)) (by unfold Func.isWrapper; first | (rw [if_pos (by decide +kernel)]; kernel_rfl) | (rw [if_neg (by decide +kernel)]; exact ⟨rfl, rfl⟩))
    (fun os started H enc _ => octetPuts_lifted os started H enc)

end Go.Proofs.Ytmomhglcjphieaa
