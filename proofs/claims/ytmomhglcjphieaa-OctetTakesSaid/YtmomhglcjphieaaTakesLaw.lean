/- OctetTakes: taking a prefix of a string in two parts returns the same bytes and position as taking it at once, and Num decodes the bytes that Take returns. Conditions: none beyond the row's own. -/
import Derived.Test.YtmomhglcjphieaaSanity
import Derived.Test.YtmomhglcjphieaaLaw
import Derived.Test.YtmomhglcjphieaaCodec
namespace Go.Proofs.Ytmomhglcjphieaa
set_option linter.unusedVariables false
open Go.ChangeShapes Go.WideShapes Go.ChangeAt Go.RowKit

theorem idx_in' (n i : Nat) (hi : i ≤ n) (a : Int) : ∃ k : Nat, (a.tmod ((n : Int) - i + 1) + (n : Int) - i + 1) % ((n : Int) - i + 1) = (k : Int) ∧ k + i ≤ n := by
  have h0 : 0 ≤ (a.tmod ((n : Int) - i + 1) + (n : Int) - i + 1) % ((n : Int) - i + 1) := Int.emod_nonneg _ (by omega)
  have h1 : (a.tmod ((n : Int) - i + 1) + (n : Int) - i + 1) % ((n : Int) - i + 1) < (n : Int) - i + 1 := Int.emod_lt_of_pos _ (by omega)
  obtain ⟨k, hk⟩ := Int.eq_ofNat_of_zero_le h0
  exact ⟨k, hk, by omega⟩

theorem num_front (t : ByteArray) (r : Nat) (hr : r ≤ 8) (ht : r ≤ t.size) : be (clamp8 (r : Int)) (numV t 0 false (r : Int)) = (t.extract 0 r).data.toList := by
  have e1 : clamp8 (r : Int) = r := by unfold clamp8; omega
  have e2 : takeS t 0 false ((r : Nat) : Int) = t.extract 0 r := by
    have e3 : takeOk t 0 false ((r : Nat) : Int) = true := by simp [takeOk]; omega
    unfold takeS
    rw [e3, Nat.zero_add]
    rfl
  have e4 : (t.extract 0 r).data.toList.length = r := by rw [toList_size, ByteArray.size_extract]; omega
  unfold numV
  rw [e1, e2]
  have h := be_num (t.extract 0 r).data.toList (by omega)
  rwa [e4] at h
theorem put_front (t : ByteArray) (R : Int) (r : Nat) (hR : R = (r : Int)) (hr : r ≤ 8) (ht : r ≤ t.size) (w : World) :
    Calls Try.prog 14 #[.int .i64 (numV t 0 false R), .int .i64 R] w fun e w' => e = .returned (.string (t.extract 0 r)) ∧ Below w.heap.size w w' := by
  subst hR
  have h := put_at _ _ _ (num_front t r hr ht) w
  have e : (⟨(t.extract 0 r).data.toList.toArray⟩ : ByteArray) = t.extract 0 r := by rw [Array.toArray_toList]
  rwa [e] at h
theorem take_front {w : World} {b : Nat} (t : ByteArray) (R : Int) (r : Nat) (hR : R = (r : Int)) (h : Rd 49 w b t 0 false) (hs : t.size ≤ maxLen) (ht : r ≤ t.size) :
    Calls Try.prog 21 #[.pointer (some ⟨b, 0, none⟩), .int .i64 R] w fun e w' => e = .returned (.string (t.extract 0 r)) ∧ ∃ p f, Rd 49 w' b t p f ∧ w.grownBy w' (some b) := by
  subst hR
  refine (take_yes h hs (by omega)).mono ?_
  rintro e w' ⟨rfl, h1, h2⟩
  rw [Nat.zero_add] at *
  exact ⟨rfl, _, _, h1, h2⟩

set_option maxHeartbeats 1000000 in
theorem takes_walk (s : ByteArray) (hs : s.size ≤ 140737488351232) (x y : Int) (hx : -9223372036854775808 ≤ x ∧ x ≤ 9223372036854775807) (hy : -9223372036854775808 ≤ y ∧ y ≤ 9223372036854775807) (w : World) :
    Calls Try.prog 8 #[.string s, .agg #[.int .i64 x, .int .i64 y]] w fun e w' => e = .returned (.bool true) ∧ Below w.heap.size w w' := by
  have hm : s.size ≤ maxLen := by unfold maxLen; omega
  obtain ⟨i, hi, hi1⟩ := idx_in s.size x
  obtain ⟨ht1, ht2⟩ := tmod_bd' x ((s.size : Int) + 1) (by omega)
  obtain ⟨j, hj, hj1⟩ := idx_in' s.size i hi1 y
  obtain ⟨hu1, hu2⟩ := tmod_bd' y ((s.size : Int) - i + 1) (by omega)
  go_enter Try.func8, Try.ntmps8
  go_wp2_with fail
  refine (sanity_any _).mono ?_
  rintro e w1 ⟨rfl, b1⟩
  have z1 := b1.size
  simp at z1
  have hc0 : w1.cell? ⟨w.heap.size, 0, none⟩ = some (.int .i64 x) := by rw [b1.cell (by simp)]; exact World.cell?_alloc_mark _ _ _ _ 0
  have hc1 : w1.cell? ⟨w.heap.size, 1, none⟩ = some (.int .i64 y) := by rw [b1.cell (by simp)]; exact World.cell?_alloc_mark _ _ _ _ 1
  have C1 := Lib.hid (((Below.refl w.heap.size w).alloc (Nat.le_refl _) _).trans (b1.mono (by simp)))
  clear b1
  go_wp2_with fail
  simp only [hi, hj]
  clear hi hj hc0 hc1 ht1 ht2 hu1 hu2
  obtain ⟨k, hk⟩ : ∃ k : Nat, k = i + j := ⟨_, rfl⟩
  have q1 : (i : Int) + (j : Int) = (k : Int) := by omega
  have q2 : (k : Int) - (i : Int) = (j : Int) := by omega
  have hkl : k ≤ s.size := by omega
  rw [q1]
  have HK := Lib.hid hk
  clear hk q1
  refine (read_any s _).mono ?_
  rintro e w2 ⟨rfl, e2⟩
  have C2 : Hid (Below w.heap.size w w2) := Lib.hid (by rw [← e2]; exact C1.out.alloc C1.out.size _)
  have A2 : Hid (Rd 49 w2 w1.heap.size s 0 false) := Lib.hid (by rw [← e2]; exact Rd.made _ _ _)
  have z2 : w1.heap.size < w2.heap.size := A2.out.lt
  clear e2
  go_wp2_with fail
  refine (read_any s _).mono ?_
  rintro e w3 ⟨rfl, e3⟩
  have C3 : Hid (Below w.heap.size w w3) := Lib.hid (by rw [← e3]; exact C2.out.alloc C2.out.size _)
  have A3 : Hid (Rd 49 w3 w1.heap.size s 0 false) := Lib.hid (by rw [← e3]; exact A2.out.alloc _)
  have B3 : Hid (Rd 49 w3 w2.heap.size s 0 false) := Lib.hid (by rw [← e3]; exact Rd.made _ _ _)
  have z3 : w2.heap.size < w3.heap.size := B3.out.lt
  clear e3
  go_wp2_with fail
  refine (take_yes (n := i) A3.out hm (by omega)).mono ?_
  rintro e w4 ⟨rfl, r4, g4⟩
  rw [Nat.zero_add] at *
  have C4 := Lib.hid (below_reader C3.out g4 (by omega))
  have B4 := Lib.hid (B3.out.kept g4 (by simp; omega))
  have A4 := Lib.hid r4
  have z4 := g4.size
  clear r4 g4
  go_wp2_with fail
  refine (take_yes (n := j) A4.out hm (by omega)).mono ?_
  rintro e w5 ⟨rfl, r5, g5⟩
  rw [← HK.out] at r5 ⊢
  have C5 := Lib.hid (below_reader C4.out g5 (by omega))
  have B5 := Lib.hid (B4.out.kept g5 (by simp; omega))
  have A5 := Lib.hid r5
  have z5 := g5.size
  clear r5 g5
  have ex := extract_app s i k (by have := HK.out; omega) hkl
  have hik : i ≤ k := by have := HK.out; omega
  go_wp2_with fail
  refine (take_yes (n := k) B5.out hm (by omega)).mono ?_
  rintro e w6 ⟨rfl, r6, g6⟩
  rw [Nat.zero_add] at *
  have C6 := Lib.hid (below_reader C5.out g6 (by omega))
  have A6 := Lib.hid (A5.out.kept g6 (by simp; omega))
  have B6 := Lib.hid r6
  have z6 := g6.size
  clear r6 g6
  go_wp2_with fail
  obtain ⟨q, hq⟩ : ∃ q : Nat, s.size = k + q := ⟨s.size - k, by omega⟩
  have q3 : (s.size : Int) - (k : Int) = (q : Int) := by omega
  have ht : (s.extract k s.size).size = q := by rw [ByteArray.size_extract]; omega
  have hq9 := Lib.hid hq
  clear hq
  obtain ⟨t, e0⟩ : ∃ t, s.extract k s.size = t := ⟨_, rfl⟩
  rw [e0] at ht ⊢
  have hmt : t.size ≤ maxLen := by have := hq9.out; unfold maxLen; omega
  have ET := Lib.hid e0
  have HT := Lib.hid ht
  clear e0 ht
  refine (read_any t _).mono ?_
  rintro e w7 ⟨rfl, e7⟩
  have C7 : Hid (Below w.heap.size w w7) := Lib.hid (by rw [← e7]; exact C6.out.alloc C6.out.size _)
  have A7 : Hid (Rd 49 w7 w1.heap.size s k false) := Lib.hid (by rw [← e7]; exact A6.out.alloc _)
  have B7 : Hid (Rd 49 w7 w2.heap.size s k false) := Lib.hid (by rw [← e7]; exact B6.out.alloc _)
  have N7 : Hid (Rd 49 w7 w6.heap.size t 0 false) := Lib.hid (by rw [← e7]; exact Rd.made _ _ _)
  have z7 : w6.heap.size < w7.heap.size := N7.out.lt
  clear e7
  go_wp2_with fail
  rw [ET.out]
  refine (read_any t _).mono ?_
  rintro e w8 ⟨rfl, e8⟩
  have C8 : Hid (Below w.heap.size w w8) := Lib.hid (by rw [← e8]; exact C7.out.alloc C7.out.size _)
  have A8 : Hid (Rd 49 w8 w1.heap.size s k false) := Lib.hid (by rw [← e8]; exact A7.out.alloc _)
  have B8 : Hid (Rd 49 w8 w2.heap.size s k false) := Lib.hid (by rw [← e8]; exact B7.out.alloc _)
  have N8 : Hid (Rd 49 w8 w6.heap.size t 0 false) := Lib.hid (by rw [← e8]; exact N7.out.alloc _)
  have M8 : Hid (Rd 49 w8 w7.heap.size t 0 false) := Lib.hid (by rw [← e8]; exact Rd.made _ _ _)
  have z8 : w7.heap.size < w8.heap.size := M8.out.lt
  clear e8
  by_cases h2 : 2 ≤ q
  · skip
    go_wp2_with fail
    refine (num_any 2 N8.out hmt (by omega)).mono ?_
    rintro e w9 ⟨rfl, r9, g9⟩
    have C9 := Lib.hid (below_reader C8.out g9 (by omega))
    have A9 := Lib.hid (A8.out.kept g9 (by simp; omega))
    have B9 := Lib.hid (B8.out.kept g9 (by simp; omega))
    have M9 := Lib.hid (M8.out.kept g9 (by simp; omega))
    have z9 := g9.size
    clear r9 g9
    go_wp2_with fail
    refine (put_front t 2 2 (by simp) (by omega) (by have := HT.out; omega) _).mono ?_
    rintro e w10 ⟨rfl, b10⟩
    have C10 := Lib.hid (C9.out.trans (b10.mono C9.out.size))
    have A10 := Lib.hid (A9.out.below b10 A9.out.lt)
    have B10 := Lib.hid (B9.out.below b10 B9.out.lt)
    have M10 := Lib.hid (M9.out.below b10 M9.out.lt)
    clear b10
    go_wp2_with fail
    refine (at_any A10.out).mono ?_
    rintro e w' ⟨rfl, rfl⟩
    go_wp2_with fail
    refine (at_any B10.out).mono ?_
    rintro e w' ⟨rfl, rfl⟩
    go_wp2_with fail
    refine (left_any A10.out hm hkl).mono ?_
    rintro e w' ⟨rfl, n1, rfl⟩
    go_wp2_with fail
    refine (left_any (B10.out.drewN n1) hm hkl).mono ?_
    rintro e w' ⟨rfl, n2, rfl⟩
    go_wp2_with fail
    refine (take_front t 2 2 (by simp) (M10.out.drewN (n1 + n2)) hmt (by have := HT.out; omega)).mono ?_
    rintro e w11 ⟨rfl, p, f, r11, g11⟩
    have C11 := Lib.hid (below_reader (below_drewN C10.out (n1 + n2)) g11 (by omega))
    clear r11 g11
    go_wp2_with fail
    go_ret
    exact ⟨rfl, C11.out⟩
  · skip
    go_wp2_with fail
    refine (num_any (q : Int) N8.out hmt (by omega)).mono ?_
    rintro e w9 ⟨rfl, r9, g9⟩
    have C9 := Lib.hid (below_reader C8.out g9 (by omega))
    have A9 := Lib.hid (A8.out.kept g9 (by simp; omega))
    have B9 := Lib.hid (B8.out.kept g9 (by simp; omega))
    have M9 := Lib.hid (M8.out.kept g9 (by simp; omega))
    have z9 := g9.size
    clear r9 g9
    go_wp2_with fail
    refine (put_front t (q : Int) q (by simp) (by omega) (by have := HT.out; omega) _).mono ?_
    rintro e w10 ⟨rfl, b10⟩
    have C10 := Lib.hid (C9.out.trans (b10.mono C9.out.size))
    have A10 := Lib.hid (A9.out.below b10 A9.out.lt)
    have B10 := Lib.hid (B9.out.below b10 B9.out.lt)
    have M10 := Lib.hid (M9.out.below b10 M9.out.lt)
    clear b10
    go_wp2_with fail
    refine (at_any A10.out).mono ?_
    rintro e w' ⟨rfl, rfl⟩
    go_wp2_with fail
    refine (at_any B10.out).mono ?_
    rintro e w' ⟨rfl, rfl⟩
    go_wp2_with fail
    refine (left_any A10.out hm hkl).mono ?_
    rintro e w' ⟨rfl, n1, rfl⟩
    go_wp2_with fail
    refine (left_any (B10.out.drewN n1) hm hkl).mono ?_
    rintro e w' ⟨rfl, n2, rfl⟩
    go_wp2_with fail
    refine (take_front t (q : Int) q (by simp) (M10.out.drewN (n1 + n2)) hmt (by have := HT.out; omega)).mono ?_
    rintro e w11 ⟨rfl, p, f, r11, g11⟩
    have C11 := Lib.hid (below_reader (below_drewN C10.out (n1 + n2)) g11 (by omega))
    clear r11 g11
    go_wp2_with fail
    go_ret
    exact ⟨rfl, C11.out⟩

set_option maxRecDepth 100000 in
theorem octetTakes_lifted (os : Os) (started : os.Started) (H : Type) (enc : TypeId × Value → H) :
    ReturnsInHanded {} Try.checked os 8 .any (Rows.octetTakesSpec.pre6 enc Try.prog Try.f8 Rows.octetTakesRow.domain false) (Rows.octetTakesSpec.post enc Try.prog Try.f8 false true false false) := by
  refine returnsInHanded_of_change_sized (C := Try.checked) Try.own started (by kernel_rfl) Try.func8
    (ChangeSpec.witness6 (enc := enc) (C := Try.checked) false ⟨#[], #[.string .empty, .agg #[.int .i64 0, .int .i64 0]], []⟩ 8 (by kernel_rfl) (by kernel_rfl) (by kernel_rfl) (by kernel_rfl)) ?_
  intro W base args ds gs before hval0 hW _ hsz0 _
  have hval : ∀ (j : Nat) t v, Try.f8.params[j]? = some t → args[j]? = some v → Value.okWide Try.prog W .any base t v := hval0
  have hsz : (DataW.weightsEach Try.prog (Try.f8.params.toList ++ Rows.octetTakesSpec.plain.varTypes Try.prog) (ds ++ gs)).all (· ≤ reachBytes) = true := hsz0
  clear hsz0 hval0
  have hW' := hW
  obtain ⟨p, q, hA0, hV, rfl, hfz, hnd⟩ := hW
  have hA : DataW.TrodAll enc Try.prog W 0 (fun _ => true) true Try.f8.params.toList args.toList ds p := hA0
  rw [Try.params8] at hA hval hsz
  obtain ⟨v0, vs0, d0, ds0, p0, q0, hargs, rfl, rfl, h0, r0⟩ := trodAll_cons hA
  obtain ⟨v1, vs1, d1, ds1, p1, q1, rfl, rfl, rfl, h1, r1⟩ := trodAll_cons r0
  obtain ⟨rfl, rfl, rfl⟩ := trodAll_nil r1
  obtain rfl : args = #[v0, v1] := by cases args; simp_all
  obtain ⟨rfl, rfl⟩ := trodVars_none hV
  obtain ⟨s, rfl, rfl, rfl, hs⟩ := Go.ChangeMaps.open_string Try.underlying9 (hval 0 9 v0 rfl rfl) h0
  have zs : s.size ≤ 140737488351232 := sized_size hsz (j := 0) rfl rfl
  obtain ⟨x, y, rfl, rfl, rfl, wx, wy⟩ := open_arr2 Try.underlying34 Try.underlying3 (by kernel_rfl) (by kernel_rfl) (hval 1 34 v1 rfl rfl) h1
  have bdx : -9223372036854775808 ≤ x ∧ x ≤ 9223372036854775807 := by simpa [Lit.wf, IntKind.min, IntKind.max, IntKind.signed, IntKind.bits] using wx
  have bdy : -9223372036854775808 ≤ y ∧ y ≤ 9223372036854775807 := by simpa [Lit.wf, IntKind.min, IntKind.max, IntKind.signed, IntKind.bits] using wy
  clear hA0
  refine (takes_walk s zs x y bdx bdy W).mono fun e W' ⟨he, hb⟩ => ?_
  subst he
  exact ⟨_, rfl, law_post Try.laidOut (by kernel_rfl) rfl Try.underlying4 rfl rfl hW' hb⟩

theorem octetTakes_holds : Rows.OctetTakesSaid :=
  OpenClaim.holds_of_wide 8 Try.f8 rfl rfl rfl rfl rfl rfl rfl ⟨rfl, rfl, rfl, rfl, rfl⟩ rfl rfl rfl rfl rfl (by kernel_rfl) Try.func8 (by kernel_rfl)
    (of_decide_eq_true (by kernel_rfl)) (by unfold Func.isWrapper; first | (rw [if_pos (by decide +kernel)]; kernel_rfl) | (rw [if_neg (by decide +kernel)]; exact ⟨rfl, rfl⟩))
    (fun os started H enc _ => octetTakes_lifted os started H enc)

end Go.Proofs.Ytmomhglcjphieaa
