/- OctetCut: when an encoding of integers (at most 10, 4 bytes each) followed by a string (at most 300 bytes) is truncated, the integers that are complete are decoded, and every later call fails. Conditions: none beyond the row's own. -/
import Derived.Test.YtmomhglcjphieaaSanity
import Derived.Test.YtmomhglcjphieaaViews
import Derived.Test.YtmomhglcjphieaaCutPlain
import Derived.Test.YtmomhglcjphieaaClass
import Derived.Deep.DeepCutAuto
import Derived.Deep.CutBlock
namespace Go.Proofs.Ytmomhglcjphieaa
set_option linter.unusedVariables false
open Go.ChangeShapes Go.WideShapes Go.ChangeAt Go.RowKit

theorem cut_idx (L : Nat) (hL : 0 < L) (a : Int) : ∃ k : Nat, (a.tmod (L : Int) + (L : Int)) % (L : Int) = (k : Int) ∧ k < L := by
  have h0 := Int.emod_nonneg (a.tmod (L : Int) + (L : Int)) (show (L : Int) ≠ 0 by omega)
  have h1 := Int.emod_lt_of_pos (a.tmod (L : Int) + (L : Int)) (show (0 : Int) < L by omega)
  exact ⟨((a.tmod (L : Int) + (L : Int)) % (L : Int)).toNat, by omega, by omega⟩
theorem cut_idx_go (D a : Int) (hD : 0 < D) (hD1 : D ≤ 1000000) : (wrap64 (a.tmod D + D)).tmod D = (a.tmod D + D) % D := by
  obtain ⟨h1, h2⟩ := tmod_bd' a D hD
  have e : wrap64 (a.tmod D + D) = a.tmod D + D := by unfold wrap64; omega
  rw [e, Int.tmod_eq_emod_of_nonneg (by omega)]
theorem few_slice (a : Option Addr) (n cap M : Nat) (hM : M ≤ cap) (W : World) : (Instr.slice 41 (.slice a n cap) none (some (.int .i64 (M : Int))) none).run Try.prog W = .ok (.slice a M cap) W := by
  cases a <;> go_simp

set_option maxRecDepth 100000 in
set_option maxHeartbeats 2000000 in
theorem cut_walk (a : Option Addr) (n cap : Nat) (Z : List Int) {w : World} (hZ : IntsAt w a Z n) (hcap : n ≤ cap ∧ cap * 8 ≤ 140737488351232) (hZb : ∀ t, -9223372036854775808 ≤ Z.getD t 0 ∧ Z.getD t 0 ≤ 9223372036854775807)
    (x : ByteArray) (hx : x.size ≤ 140737488351232) (v : Int) (_ : -9223372036854775808 ≤ v ∧ v ≤ 9223372036854775807) :
    Calls Try.prog 9 #[.slice a n cap, .string x, .int .i64 v] w fun e w' => e = .returned (.bool true) ∧ Below w.heap.size w w' := by
  obtain ⟨M, hM, hM1, hM2⟩ : ∃ M : Nat, (if (10 : Int) < (n : Int) then (10 : Int) else (n : Int)) = (M : Int) ∧ M ≤ 10 ∧ M ≤ n := by
    by_cases h : n ≤ 10
    · exact ⟨n, by rw [if_neg (by omega)], h, Nat.le_refl _⟩
    · exact ⟨10, by rw [if_pos (by omega)]; rfl, by omega, by omega⟩
  have HZ := Lib.hid hZ
  have HZb := Lib.hid hZb
  have hfew := few_slice a n cap M (by omega)
  have hm : x.size ≤ maxLen := by unfold maxLen; omega
  obtain ⟨q, hq, hq1, hqx⟩ : ∃ q : Nat, (if (300 : Int) < (x.size : Int) then (300 : Int) else (x.size : Int)) = (q : Int) ∧ q ≤ x.size ∧ x.extract 0 q = cut3 x := by
    by_cases hs : x.size ≤ 300
    · exact ⟨x.size, by rw [if_neg (by omega)], Nat.le_refl _, by unfold cut3; rw [if_pos hs]; apply ByteArray.ext; simp⟩
    · exact ⟨300, by rw [if_pos (by omega)]; rfl, by omega, by unfold cut3; rw [if_neg hs]⟩
  have hy := cut3_size x
  generalize cut3 x = y at *
  have hq0 : (0 : Int) ≤ (q : Int) := by omega
  have hq2 : (q : Int) ≤ (x.size : Int) := by omega
  have hsl : ∀ W, (Instr.slice 9 (.string x) none (some (.int .i64 (q : Int))) none).run Try.prog W = .ok (.string y) W := fun W => by
    have := run_slice_string_h (P := Try.prog) (w := W) (t := 9) (s := x) Try.underlying9 .i64 (q : Int) hq0 hq2
    rw [this]
    show Result.ok (Value.string (x.extract 0 ((q : Nat) : Int).toNat)) W = _
    rw [Int.toNat_natCast, hqx]
  clear hZ hZb
  go_enter Try.func9, Try.ntmps9
  go_wp2_with fail
  refine (sanity_any _).mono ?_
  rintro e w1 ⟨rfl, b1⟩
  have C1 := Lib.hid b1
  clear b1
  go_wp2_with fail
  go_loopw [9, 10] (fun s i wr => ∃ k : Nat, k ≤ M ∧ i = .int .i64 k ∧ s = .string ⟨(enc4 Z k).toArray⟩ ∧ Below w.heap.size w wr) (fun _ i _ => M - (intOf i).toNat)
  case atStart => exact ⟨0, by omega, rfl, rfl, C1.out⟩
  case round =>
    obtain ⟨k, hk, rfl, rfl, hb⟩ := hrel
    have CC := Lib.hid hb
    have hl := enc4_len Z k
    by_cases h1 : k < M
    · obtain ⟨_, h0 | ⟨b, off, rfl, hc⟩⟩ := HZ.out
      · omega
      have c0 := hc k (by omega)
      have hbl := World.block_lt_of_cell? w _ c0
      simp only at hbl
      rw [← hb.cell hbl] at c0
      clear hc hb
      generalize hx : Z.getD k 0 = z at *
      have HX := Lib.hid hx
      clear hx
      have hl2 : (be (clamp8 4) z).length = 4 := be_len 4 z
      go_wp2_with fail
      refine (put_any _ _ _).mono ?_
      rintro e w2 ⟨rfl, b2⟩
      have C2 := Lib.hid (CC.out.trans (b2.mono CC.out.size))
      clear b2
      go_wp2_with fail
      go_roundw
      case rel => exact ⟨k + 1, by omega, by go_num, by rw [bytes_app, ← HX.out]; rfl, C2.out⟩
      case measure => simp [intOf]; omega
    · have hkM : k = M := by omega
      subst hkM
      clear hb C1
      have HCN := Lib.hid (fun B q j h g => cut_next Z k B q j h g)
      have HCT := Lib.hid (fun q h => cut_text Z k y hy q h)
      have htl : (textOf y).length = 2 + y.size := by rw [textOf_len, cutTo_short (by omega), toList_size]; omega
      go_wp2_with fail
      refine (text_any y _ (by unfold maxLen; omega)).mono ?_
      rintro e w2 ⟨rfl, b2⟩
      have C2 := Lib.hid (CC.out.trans (b2.mono CC.out.size))
      clear b2
      have hL : (enc4 Z k ++ textOf y).length = 4 * k + 2 + y.size := by rw [List.length_append, hl, htl]; omega
      obtain ⟨L, hLe⟩ : ∃ L : Nat, L = 4 * k + 2 + y.size := ⟨_, rfl⟩
      rw [← hLe] at hL
      have hsz : (⟨(enc4 Z k).toArray⟩ ++ ⟨(textOf y).toArray⟩ : ByteArray).size = L := by
        rw [bytes_app]
        show (enc4 Z k ++ textOf y).toArray.size = L
        simp [← hL]
      obtain ⟨r, hr, hr1⟩ := cut_idx (4 * k + 2 + y.size) (by omega) v
      have hD : ((4 * k + 2 + y.size : Nat) : Int) = 4 * (k : Int) + 2 + (y.size : Int) := by omega
      rw [hD, ← cut_idx_go _ v (by omega) (by omega)] at hr
      have hr0 : (0 : Int) ≤ (r : Int) := by omega
      have hr2 : (r : Int) ≤ 4 * (k : Int) + 2 + (y.size : Int) := by omega
      have hz0 : ((4 * (k : Int) + 2 + (y.size : Int)) == 0) = false := by simp; omega
      go_wp2_with fail
      refine (read_any _ _).mono ?_
      rintro e w3 ⟨rfl, e3⟩
      have C3 : Hid (Below w.heap.size w w3) := Lib.hid (by rw [← e3]; exact C2.out.alloc C2.out.size _)
      have R3 := Lib.hid (show Rd 49 w3 w2.heap.size _ 0 false by rw [← e3]; exact Rd.made _ _ _)
      have z3 := C2.out.size
      clear e3
      have hSS := bytes_app (enc4 Z k) (textOf y)
      generalize w2.heap.size = Rb at *
      have hss : ((⟨(enc4 Z k).toArray⟩ ++ ⟨(textOf y).toArray⟩ : ByteArray).extract 0 r).size = r := by rw [ByteArray.size_extract, hsz]; omega
      generalize hS : (⟨(enc4 Z k).toArray⟩ ++ ⟨(textOf y).toArray⟩ : ByteArray).extract 0 r = S at *
      have HS : Hid (S = (⟨(enc4 Z k ++ textOf y).toArray⟩ : ByteArray).extract 0 r) := Lib.hid (by rw [← hS, hSS])
      have HL := Lib.hid hL
      have hms : S.size ≤ maxLen := by unfold maxLen; omega
      clear hS hSS hL hsz hr hz0 hr2 hr0 hD htl hl hfew hsl
      go_wp2_with fail
      go_loopw [13] (fun i wr => ∃ j : Nat, j ≤ k ∧ i = .int .i64 j ∧ Rd 49 wr Rb S (cutP r j) (cutF r j) ∧ Below w.heap.size w wr) (fun i _ => k - (intOf i).toNat)
      case atStart => exact ⟨0, by omega, rfl, R3.out, C3.out⟩
      case round =>
        obtain ⟨j, hj, rfl, hr, hb⟩ := hrel
        have RR := Lib.hid hr
        have CC := Lib.hid hb
        have hcp := cutP_le r j
        by_cases h1 : j < k
        · obtain ⟨_, h0 | ⟨b, off, rfl, hc⟩⟩ := HZ.out
          · omega
          have c0 := hc j (by omega)
          have hbl := World.block_lt_of_cell? w _ c0
          simp only at hbl
          rw [← hb.cell hbl] at c0
          clear hc hb hr
          have hxb := HZb.out j
          obtain ⟨n1, n2, n3⟩ := HCN.out (textOf y) r j h1 (by rw [HL.out]; omega)
          rw [← HS.out] at n1 n2 n3
          generalize hz : Z.getD j 0 = z at *
          clear hz
          have N1 := Lib.hid n1
          have N2 := Lib.hid n2
          have N3 := Lib.hid n3
          clear n1 n2 n3
          have hbne : some (⟨b, off + j, none⟩ : Addr).block ≠ some Rb := by simp only [ne_eq, Option.some.injEq]; omega
          go_wp2_with fail
          refine (num_any 4 RR.out hms (by omega)).mono ?_
          rintro e w5 ⟨rfl, r5, g5⟩
          rw [N2.out, N3.out] at r5
          rw [N1.out]
          have R5 := Lib.hid r5
          have C5 := Lib.hid (below_reader CC.out g5 z3)
          have c5 : w5.cell? ⟨b, off + j, none⟩ = some (.int .i64 z) := g5.cell c0 hbne
          clear r5 g5 c0
          by_cases hw : 4 * (j + 1) ≤ r
          · rw [if_pos hw]
            have hf : cutF r (j + 1) = false := by unfold cutF; simp; omega
            have hmk := mask4 z
            have hwi : 4 * ((j : Int) + 1) ≤ (r : Int) := by omega
            rw [hf] at R5
            go_wp2_with fail
            refine (failed_any R5.out).mono ?_
            rintro e w6 ⟨rfl, rfl⟩
            go_wp2_with fail
            go_roundw
            case rel => exact ⟨j + 1, by omega, by go_num, by rw [hf]; exact R5.out, C5.out⟩
            case measure => simp [intOf]; omega
          · rw [if_neg hw]
            have hf : cutF r (j + 1) = true := by unfold cutF; simp; omega
            have hwi : ¬ 4 * ((j : Int) + 1) ≤ (r : Int) := by omega
            rw [hf] at R5
            go_wp2_with fail
            refine (failed_any R5.out).mono ?_
            rintro e w6 ⟨rfl, rfl⟩
            go_wp2_with fail
            go_roundw
            case rel => exact ⟨j + 1, by omega, by go_num, by rw [hf]; exact R5.out, C5.out⟩
            case measure => simp [intOf]; omega
        · have hjk : j = k := by omega
          subst hjk
          clear hr hb
          obtain ⟨t1, t2⟩ := HCT.out r (by rw [HL.out]; omega)
          rw [← HS.out] at t1 t2
          have T1 := Lib.hid t1
          have T2 := Lib.hid t2
          clear t1 t2
          go_wp2_with fail
          refine (txt_any RR.out hms (by omega)).mono ?_
          rintro e w5 ⟨rfl, r5, g5⟩
          rw [T2.out] at r5
          rw [T1.out]
          have R5 := Lib.hid r5
          have C5 := Lib.hid (below_reader CC.out g5 z3)
          clear r5 g5
          go_wp2_with fail
          refine (failed_any R5.out).mono ?_
          rintro e w6 ⟨rfl, rfl⟩
          go_wp2_with fail
          go_ret
          exact ⟨rfl, C5.out⟩
theorem ints_view {H : Type} {enc : TypeId × Value → H} {w : World} {r : Reach} {b0 : Nat} {v : Value} {d : DataW H} {p : List MemPlace}
    (hv : Value.okWide Try.prog w r b0 41 v) (h : DataW.Trod enc Try.prog w 0 (fun _ => true) true 41 v d p)
    (hreach : ∀ elems sp, d = .slice elems sp → (elems.length + sp.length) * Try.prog.bytesOf 3 ≤ reachBytes) :
    ∃ (a : Option Addr) (n cap : Nat) (Z : List Int), v = .slice a n cap ∧ IntsAt w a Z n ∧ (n ≤ cap ∧ cap * 8 ≤ 140737488351232) ∧ (∀ t, -9223372036854775808 ≤ Z.getD t 0 ∧ Z.getD t 0 ≤ 9223372036854775807) :=
  open_ints_at Try.underlying41 Try.underlying3 (by kernel_rfl) (by kernel_rfl) hv h hreach

set_option maxRecDepth 100000 in
theorem octetCut_lifted (os : Os) (started : os.Started) (H : Type) (enc : TypeId × Value → H) :
    ReturnsInHanded {} Try.checked os 9 .any (Rows.octetCutSpec.pre6 enc Try.prog Try.f9 Rows.octetCutRow.domain false) (Rows.octetCutSpec.post enc Try.prog Try.f9 false true false false) := by
  refine returnsInHanded_of_change_sized (C := Try.checked) Try.own started (by kernel_rfl) Try.func9
    (ChangeSpec.witness6 (enc := enc) (C := Try.checked) false ⟨#[], #[.slice none 0 0, .string .empty, .int .i64 0], []⟩ 8 (by kernel_rfl) (by kernel_rfl) (by kernel_rfl) (by kernel_rfl)) ?_
  intro W base args ds gs before hval0 hW _ hsz0 _
  have hval : ∀ (j : Nat) t v, Try.f9.params[j]? = some t → args[j]? = some v → Value.okWide Try.prog W .any base t v := hval0
  have hsz : (DataW.weightsEach Try.prog (Try.f9.params.toList ++ Rows.octetCutSpec.plain.varTypes Try.prog) (ds ++ gs)).all (· ≤ reachBytes) = true := hsz0
  clear hsz0 hval0
  have hW' := hW
  obtain ⟨p, q, hA0, hV, rfl, hfz, hnd⟩ := hW
  have hA : DataW.TrodAll enc Try.prog W 0 (fun _ => true) true Try.f9.params.toList args.toList ds p := hA0
  rw [Try.params9] at hA hval hsz
  obtain ⟨v0, vs0, d0, ds0, p0, q0, hargs, rfl, rfl, h0, r0⟩ := trodAll_cons hA
  obtain ⟨v1, vs1, d1, ds1, p1, q1, rfl, rfl, rfl, h1, r1⟩ := trodAll_cons r0
  obtain ⟨v2, vs2, d2, ds2, p2, q2, rfl, rfl, rfl, h2, r2⟩ := trodAll_cons r1
  obtain ⟨rfl, rfl, rfl⟩ := trodAll_nil r2
  obtain rfl : args = #[v0, v1, v2] := by cases args; simp_all
  obtain ⟨rfl, rfl⟩ := trodVars_none hV
  obtain ⟨a, n, cap, Z, rfl, hZ, hcap, hZb⟩ := ints_view (hval 0 41 v0 rfl rfl) h0 (fun elems sp he => sized_slice hsz (j := 0) rfl (by rw [← he]; rfl) Try.underlying41)
  obtain ⟨x, rfl, rfl, rfl, hx⟩ := Go.ChangeMaps.open_string Try.underlying9 (hval 1 9 v1 rfl rfl) h1
  have zx : x.size ≤ 140737488351232 := sized_size hsz (j := 1) rfl rfl
  obtain ⟨v, rfl, rfl, rfl, wv⟩ := open_int Try.underlying3 (hval 2 3 v2 rfl rfl) h2
  have bdv : -9223372036854775808 ≤ v ∧ v ≤ 9223372036854775807 := by simpa [Lit.wf, IntKind.min, IntKind.max, IntKind.signed, IntKind.bits] using wv
  clear hA0
  refine (cut_walk a n cap Z hZ hcap hZb x zx v bdv).mono fun e W' ⟨he, hb⟩ => ?_
  subst he
  exact ⟨_, rfl, law_post Try.laidOut (by kernel_rfl) rfl Try.underlying4 rfl rfl hW' hb⟩

theorem octetCut_holds : Rows.OctetCutSaid :=
  OpenClaim.holds_of_wide 9 Try.f9 rfl rfl rfl rfl rfl rfl rfl ⟨rfl, rfl, rfl, rfl, rfl⟩ rfl rfl rfl rfl rfl (by kernel_rfl) Try.func9 (by kernel_rfl)
    (of_decide_eq_true (by kernel_rfl)) (by unfold Func.isWrapper; first | (rw [if_pos (by decide +kernel)]; kernel_rfl) | (rw [if_neg (by decide +kernel)]; exact ⟨rfl, rfl⟩))
    (fun os started H enc _ => octetCut_lifted os started H enc)

end Go.Proofs.Ytmomhglcjphieaa
