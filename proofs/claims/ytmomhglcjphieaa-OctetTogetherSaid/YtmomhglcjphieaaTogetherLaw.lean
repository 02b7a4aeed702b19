/- OctetTogether: the checksum of a concatenation is determined by the checksums of both parts and the length of the second one, by the formula for combining Adler-32 checksums. Conditions: none beyond the row's own. -/
import Derived.Test.YtmomhglcjphieaaSanity
import Derived.Test.YtmomhglcjphieaaAdler
import Derived.Test.YtmomhglcjphieaaLaw
namespace Go.Proofs.Ytmomhglcjphieaa
set_option linter.unusedVariables false
open Go.ChangeShapes Go.WideShapes Go.ChangeAt Go.RowKit

set_option maxHeartbeats 1000000 in
theorem together_walk (s : ByteArray) (hs : s.size ≤ 140737488351232) (t : ByteArray) (ht : t.size ≤ 140737488351232) (w : World) :
    Calls Try.prog 7 #[.string s, .string t] w fun e w' => e = .returned (.bool true) ∧ Below w.heap.size w w' := by
  have hm : s.size ≤ maxLen := by unfold maxLen; omega
  have hmt : t.size ≤ maxLen := by unfold maxLen; omega
  have hmst : (s ++ t).size ≤ maxLen := by rw [ByteArray.size_append]; unfold maxLen; omega
  obtain ⟨ha, hb⟩ := adl_lt s.data.toList
  obtain ⟨hc, hd⟩ := adl_lt t.data.toList
  have key := sum_app s t (adl s.data.toList).1 (adl s.data.toList).2 (adl t.data.toList).1 (adl t.data.toList).2 _ rfl rfl rfl
  have es : sumOf s = (adl s.data.toList).2 * 65536 + (adl s.data.toList).1 := rfl
  have et : sumOf t = (adl t.data.toList).2 * 65536 + (adl t.data.toList).1 := rfl
  generalize adl s.data.toList = p at *
  generalize adl t.data.toList = q at *
  obtain ⟨a, b⟩ := p
  obtain ⟨c, d⟩ := q
  simp only at *
  have f1 := low16 a b ha hb
  have f2 := low16 c d hc hd
  have g1 : ((b : Int) * 65536 + (a : Int)) / 65536 = (b : Int) := by omega
  have g2 : ((d : Int) * 65536 + (c : Int)) / 65536 = (d : Int) := by omega
  have k0 : 0 ≤ (t.size : Int) % 65521 * ((a : Int) + 65520) := Int.mul_nonneg (by omega) (by omega)
  have k1 : (t.size : Int) % 65521 * ((a : Int) + 65520) ≤ 65520 * 131040 := Int.mul_le_mul (by omega) (by omega) (by omega) (by omega)
  have S1 := Lib.hid es
  have S2 := Lib.hid et
  have KK := Lib.hid key
  clear es et key
  go_enter Try.func7, Try.ntmps7
  go_wp2_with fail
  refine (sanity_any _).mono ?_
  rintro e w1 ⟨rfl, b1⟩
  go_wp2_with fail
  refine (sum_any s _ hm).mono ?_
  rintro e w2 ⟨rfl, b2⟩
  have c2 := Lib.hid (b1.trans (b2.mono b1.size))
  clear b2
  rw [S1.out]
  go_wp2_with fail
  refine (sum_any s _ hm).mono ?_
  rintro e w3 ⟨rfl, b3⟩
  have c3 := Lib.hid (c2.out.trans (b3.mono c2.out.size))
  clear b3
  rw [S1.out]
  go_wp2_with fail
  refine (sum_any t _ hmt).mono ?_
  rintro e w4 ⟨rfl, b4⟩
  have c4 := Lib.hid (c3.out.trans (b4.mono c3.out.size))
  clear b4
  rw [S2.out]
  go_wp2_with fail
  refine (sum_any t _ hmt).mono ?_
  rintro e w5 ⟨rfl, b5⟩
  have c5 := Lib.hid (c4.out.trans (b5.mono c4.out.size))
  clear b5
  rw [S2.out]
  go_wp2_with fail
  refine (sum_any (s ++ t) _ hmst).mono ?_
  rintro e w6 ⟨rfl, b6⟩
  have c6 := Lib.hid (c5.out.trans (b6.mono c5.out.size))
  clear b6
  rw [KK.out]
  go_wp2_with fail
  go_ret
  exact ⟨rfl, c6.out⟩

set_option maxRecDepth 100000 in
theorem octetTogether_lifted (os : Os) (started : os.Started) (H : Type) (enc : TypeId × Value → H) :
    ReturnsInHanded {} Try.checked os 7 .any (Rows.octetTogetherSpec.pre6 enc Try.prog Try.f7 Rows.octetTogetherRow.domain false) (Rows.octetTogetherSpec.post enc Try.prog Try.f7 false true false false) := by
  refine returnsInHanded_of_change_sized (C := Try.checked) Try.own started (by kernel_rfl) Try.func7
    (ChangeSpec.witness6 (enc := enc) (C := Try.checked) false ⟨#[], #[.string .empty, .string .empty], []⟩ 8 (by kernel_rfl) (by kernel_rfl) (by kernel_rfl) (by kernel_rfl)) ?_
  intro W base args ds gs before hval0 hW _ hsz0 _
  have hval : ∀ (j : Nat) t v, Try.f7.params[j]? = some t → args[j]? = some v → Value.okWide Try.prog W .any base t v := hval0
  have hsz : (DataW.weightsEach Try.prog (Try.f7.params.toList ++ Rows.octetTogetherSpec.plain.varTypes Try.prog) (ds ++ gs)).all (· ≤ reachBytes) = true := hsz0
  clear hsz0 hval0
  have hW' := hW
  obtain ⟨p, q, hA0, hV, rfl, hfz, hnd⟩ := hW
  have hA : DataW.TrodAll enc Try.prog W 0 (fun _ => true) true Try.f7.params.toList args.toList ds p := hA0
  rw [Try.params7] at hA hval hsz
  obtain ⟨v0, vs0, d0, ds0, p0, q0, hargs, rfl, rfl, h0, r0⟩ := trodAll_cons hA
  obtain ⟨v1, vs1, d1, ds1, p1, q1, rfl, rfl, rfl, h1, r1⟩ := trodAll_cons r0
  obtain ⟨rfl, rfl, rfl⟩ := trodAll_nil r1
  obtain rfl : args = #[v0, v1] := by cases args; simp_all
  obtain ⟨rfl, rfl⟩ := trodVars_none hV
  obtain ⟨s, rfl, rfl, rfl, hs⟩ := Go.ChangeMaps.open_string Try.underlying9 (hval 0 9 v0 rfl rfl) h0
  have zs : s.size ≤ 140737488351232 := sized_size hsz (j := 0) rfl rfl
  obtain ⟨t, rfl, rfl, rfl, ht⟩ := Go.ChangeMaps.open_string Try.underlying9 (hval 1 9 v1 rfl rfl) h1
  have zt : t.size ≤ 140737488351232 := sized_size hsz (j := 1) rfl rfl
  clear hA0
  refine (together_walk s zs t zt W).mono fun e W' ⟨he, hb⟩ => ?_
  subst he
  exact ⟨_, rfl, law_post Try.laidOut (by kernel_rfl) rfl Try.underlying4 rfl rfl hW' hb⟩

theorem octetTogether_holds : Rows.OctetTogetherSaid :=
  OpenClaim.holds_of_wide 7 Try.f7 rfl rfl rfl rfl rfl rfl rfl ⟨rfl, rfl, rfl, rfl, rfl⟩ rfl rfl rfl rfl rfl (by kernel_rfl) Try.func7 (by kernel_rfl)
    (of_decide_eq_true (by kernel_rfl)) (by unfold Func.isWrapper; first | (rw [if_pos (by decide +kernel)]; kernel_rfl) | (rw [if_neg (by decide +kernel)]; exact ⟨rfl, rfl⟩))
    (fun os started H enc _ => octetTogether_lifted os started H enc)

end Go.Proofs.Ytmomhglcjphieaa
