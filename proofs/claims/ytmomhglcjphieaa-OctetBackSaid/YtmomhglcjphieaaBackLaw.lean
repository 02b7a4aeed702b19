/- OctetBack: integers (at most 30, encoded with sizes 0 to 8 in turn) and strings (at most 10, of at most 300 bytes) that are encoded one after the other are decoded unchanged, the integers modulo the range of their size. Conditions: none beyond the row's own. -/
import Derived.Test.YtmomhglcjphieaaSanity
import Derived.Test.YtmomhglcjphieaaViews
import Derived.Test.YtmomhglcjphieaaBackPlain
import Derived.Test.YtmomhglcjphieaaClass
import Derived.Deep.DeepCutAuto
import Derived.Deep.CutBlock
import Derived.Deep.RegionHeld3
import Derived.Deep.RegionWith
namespace Go.Proofs.Ytmomhglcjphieaa
set_option linter.unusedVariables false
open Go.ChangeShapes Go.WideShapes Go.ChangeAt Go.RowKit

set_option maxRecDepth 100000 in
set_option maxHeartbeats 2000000 in
theorem back_walk (a : Option Addr) (n cap : Nat) (Z : List Int) {w : World} (hZ : IntsAt w a Z n) (hcap : n ≤ cap ∧ cap * 8 ≤ 140737488351232) (hZb : ∀ t, -9223372036854775808 ≤ Z.getD t 0 ∧ Z.getD t 0 ≤ 9223372036854775807)
    (c : Option Addr) (m mcap : Nat) (T : List ByteArray) (hT : StrsAt w c T m) (hmcap : m ≤ mcap ∧ mcap * 16 ≤ 140737488351232) (hTb : ∀ t, (T.getD t ByteArray.empty).size ≤ maxLen) :
    Calls Try.prog 11 #[.slice a n cap, .slice c m mcap] w fun e w' => e = .returned (.bool true) ∧ Below w.heap.size w w' := by
  obtain ⟨M, hM⟩ : ∃ M : Nat, M = min n 30 := ⟨_, rfl⟩
  obtain ⟨K, hK⟩ : ∃ K : Nat, K = min m 10 := ⟨_, rfl⟩
  have HM := Lib.hid hM
  have HK := Lib.hid hK
  have HZ := Lib.hid hZ
  have HT := Lib.hid hT
  have HZb := Lib.hid hZb
  have HTb := Lib.hid hTb
  have hn : n ≤ 140737488351232 := by omega
  have hm : m ≤ 140737488351232 := by omega
  clear hM hK hZ hT hZb hTb hcap hmcap
  go_enter Try.func11, Try.ntmps11
  go_wp2_with fail
  refine (sanity_any _).mono ?_
  rintro e w1 ⟨rfl, b1⟩
  have C1 := Lib.hid b1
  clear b1
  go_upto_block 0 with (fail)
  go_cut [6] (fun s6 wx => s6 = .string ⟨(encI Z M).toArray⟩ ∧ Below w.heap.size w wx)
  case first =>
    go_wp2_with fail
    go_loopw [6, 7] (fun s i wr => ∃ k : Nat, k ≤ M ∧ i = .int .i64 k ∧ s = .string ⟨(encI Z k).toArray⟩ ∧ Below w.heap.size w wr) (fun _ i _ => M - (intOf i).toNat)
    case atStart => exact ⟨0, by omega, rfl, rfl, C1.out⟩
    case round =>
      obtain ⟨k, hk, rfl, rfl, hb⟩ := hrel
      have CC := Lib.hid hb
      have hl := encI_len Z k
      have hM1 : M ≤ n := by have := HM.out; omega
      have hM2 : M ≤ 30 := by have := HM.out; omega
      by_cases h1 : k < M
      · obtain ⟨_, h0 | ⟨b, off, rfl, hc⟩⟩ := HZ.out
        · omega
        have c0 := hc k (by omega)
        have hbl := World.block_lt_of_cell? w _ c0
        simp only at hbl
        rw [← hb.cell hbl] at c0
        clear hc hb
        have h2 : k < n := by omega
        have h3 : k < 30 := by omega
        generalize hx : Z.getD k 0 = x at *
        have HX := Lib.hid hx
        clear hx
        have hl2 := be_len (clamp8 ((k : Int) % 9)) x
        have hl3 := clamp8_le ((k : Int) % 9)
        go_wp2_with fail
        refine (put_any _ _ _).mono ?_
        rintro e w2 ⟨rfl, b2⟩
        have C2 := Lib.hid (CC.out.trans (b2.mono CC.out.size))
        clear b2
        go_wp2_with fail
        go_roundw
        case rel => exact ⟨k + 1, by omega, by go_num, by rw [bytes_app, clamp9, ← HX.out]; rfl, C2.out⟩
        case measure => simp [intOf]; omega
      · have hkM : k = M := by omega
        by_cases h2 : k < n
        · have h3 : ¬ k < 30 := by have := HM.out; omega
          go_wp2_with fail
          go_meet
          exact ⟨by first | rfl | rw [hkM], hb⟩
        · go_wp2_with fail
          go_meet
          exact ⟨by first | rfl | rw [hkM], hb⟩
  case rest =>
    obtain ⟨rfl, hb⟩ := hcut
    have C2 := Lib.hid hb
    clear hb C1
    have hI := encI_len Z M
    have hM2 : M ≤ 30 := by have := HM.out; omega
    go_upto_block 2 with (fail)
    go_cut [6] (fun s6 wx => s6 = .string ⟨(encI Z M ++ encT T K).toArray⟩ ∧ Below w.heap.size w wx)
    case first =>
      go_wp2_with fail
      go_loopw [6, 8] (fun s i wr => ∃ k : Nat, k ≤ K ∧ i = .int .i64 k ∧ s = .string ⟨(encI Z M ++ encT T k).toArray⟩ ∧ Below w.heap.size w wr) (fun _ i _ => K - (intOf i).toNat)
      case atStart => exact ⟨0, by omega, rfl, by simp [encT], C2.out⟩
      case round =>
        obtain ⟨k, hk, rfl, rfl, hb⟩ := hrel
        have CC := Lib.hid hb
        have hl := encT_len T k
        have hM1 : K ≤ m := by have := HK.out; omega
        have hM3 : K ≤ 10 := by have := HK.out; omega
        by_cases h1 : k < K
        · obtain ⟨_, h0 | ⟨b, off, rfl, hc⟩⟩ := HT.out
          · omega
          have c0 := hc k (by omega)
          have hbl := World.block_lt_of_cell? w _ c0
          simp only at hbl
          have hrb := hb.size
          rw [← hb.cell hbl] at c0
          clear hc hb
          have h2 : k < m := by omega
          have h3 : k < 10 := by omega
          have hxm := HTb.out k
          generalize hx : T.getD k ByteArray.empty = x at *
          have HX := Lib.hid hx
          clear hx
          unfold maxLen at hxm
          have ht := text3_len x
          by_cases hs : x.size ≤ 300
          · have hcut3 : cut3 x = x := by unfold cut3; rw [if_pos hs]
            go_wp2_with fail
            refine wp_region_class (Below wr.heap.size wr) (by kernel_rfl) (by kernel_rfl) (Below.drew (Below.refl _ _)) (fun ne => ?_)
            have c1 : ∀ y : Wld (Below wr.heap.size wr), y.val.cell? ⟨b, off + k, none⟩ = some (.string x) := fun y => by rw [y.good.cell (by simp; omega)]; exact c0
            have gt : ∀ y : Wld (Below wr.heap.size wr), Calls Try.prog 16 #[.string (x)] y.val fun e w'' => e = .returned (.string ⟨(textOf (cut3 x)).toArray⟩) ∧ ∃ z : Wld (Below wr.heap.size wr), w'' = z.val := fun y => by
              rw [hcut3]
              exact (text_any (x) y.val (by first | (rw [ByteArray.size_extract]; unfold maxLen; omega) | (unfold maxLen; omega))).mono fun e w'' ⟨he, hb⟩ => ⟨he, class_below y hb (Nat.le_refl _)⟩
            have GT := Lib.hid gt
            clear gt hcut3 c0
            generalize htx : textOf (cut3 x) = tx at *
            have HTX := Lib.hid htx
            clear htx
            repeat (go_big_quiet_step ((with_reducible exact GT.out _)))
            refine wpQuiet_nil ?_
            intro w3 b3
            have C3 := Lib.hid (CC.out.trans (b3.mono hrb))
            clear b3
            go_wp2_with fail
            go_roundw
            case rel => exact ⟨k + 1, by omega, by go_num, by rw [bytes_app, List.append_assoc, ← HTX.out, ← HX.out]; rfl, C3.out⟩
            case measure => simp [intOf]; omega
          · have hcut3 : cut3 x = x.extract 0 300 := by unfold cut3; rw [if_neg hs]
            go_wp2_with fail
            refine wp_region_class (Below wr.heap.size wr) (by kernel_rfl) (by kernel_rfl) (Below.drew (Below.refl _ _)) (fun ne => ?_)
            have c1 : ∀ y : Wld (Below wr.heap.size wr), y.val.cell? ⟨b, off + k, none⟩ = some (.string x) := fun y => by rw [y.good.cell (by simp; omega)]; exact c0
            have gt : ∀ y : Wld (Below wr.heap.size wr), Calls Try.prog 16 #[.string (x.extract 0 300)] y.val fun e w'' => e = .returned (.string ⟨(textOf (cut3 x)).toArray⟩) ∧ ∃ z : Wld (Below wr.heap.size wr), w'' = z.val := fun y => by
              rw [hcut3]
              exact (text_any (x.extract 0 300) y.val (by first | (rw [ByteArray.size_extract]; unfold maxLen; omega) | (unfold maxLen; omega))).mono fun e w'' ⟨he, hb⟩ => ⟨he, class_below y hb (Nat.le_refl _)⟩
            have GT := Lib.hid gt
            clear gt hcut3 c0
            generalize htx : textOf (cut3 x) = tx at *
            have HTX := Lib.hid htx
            clear htx
            repeat (go_big_quiet_step ((with_reducible exact GT.out _)))
            refine wpQuiet_nil ?_
            intro w3 b3
            have C3 := Lib.hid (CC.out.trans (b3.mono hrb))
            clear b3
            go_wp2_with fail
            go_roundw
            case rel => exact ⟨k + 1, by omega, by go_num, by rw [bytes_app, List.append_assoc, ← HTX.out, ← HX.out]; rfl, C3.out⟩
            case measure => simp [intOf]; omega
        · have hkM : k = K := by omega
          by_cases h2 : k < m
          · have h3 : ¬ k < 10 := by have := HK.out; omega
            go_wp2_with fail
            go_meet
            exact ⟨by first | rfl | rw [hkM], hb⟩
          · go_wp2_with fail
            go_meet
            exact ⟨by first | rfl | rw [hkM], hb⟩
    case rest =>
      obtain ⟨rfl, hb⟩ := hcut
      have C3 := Lib.hid hb
      have hT3 := encT_len T K
      have hK3 : K ≤ 10 := by have := HK.out; omega
      have HB1 := Lib.hid (fun k h => back_num Z M k h (encT T K))
      have HB2 := Lib.hid (fun k h => back_text (encI Z M) T K k h)
      have hlen : (⟨(encI Z M ++ encT T K).toArray⟩ : ByteArray).size = (encI Z M ++ encT T K).length := by show (encI Z M ++ encT T K).toArray.size = _; simp
      have hbig : (encI Z M ++ encT T K).length ≤ 4000 := by rw [List.length_append]; omega
      have HIL := Lib.hid (fun k (h : k ≤ M) => show (encI Z k).length ≤ (encI Z M ++ encT T K).length from by
        rcases Nat.lt_or_ge k M with h1 | h1
        · obtain ⟨R, hR⟩ := encI_split Z k (M - (k + 1))
          rw [show k + 1 + (M - (k + 1)) = M from by omega] at hR
          rw [hR]
          simp only [List.length_append]
          omega
        · rw [show k = M from by omega]; simp)
      have HTL := Lib.hid (fun k (h : k ≤ K) => show (encI Z M ++ encT T k).length ≤ (encI Z M ++ encT T K).length from by
        rcases Nat.lt_or_ge k K with h1 | h1
        · obtain ⟨R, hR⟩ := encT_split T k (K - (k + 1))
          rw [show k + 1 + (K - (k + 1)) = K from by omega] at hR
          rw [hR]
          simp only [List.length_append]
          omega
        · rw [show k = K from by omega]; simp)
      have HEND := Lib.hid (show (encI Z M ++ encT T 0).length = (encI Z M).length by simp [encT])
      clear hb C2 hI hT3
      generalize hS : (⟨(encI Z M ++ encT T K).toArray⟩ : ByteArray) = S at *
      have hm : S.size ≤ maxLen := by unfold maxLen; omega
      have HLEN := Lib.hid hlen
      have HBIG := Lib.hid hbig
      have HSS := Lib.hid hS
      clear hlen hbig hS
      go_wp2_with fail
      refine (read_any S _).mono ?_
      rintro e w4 ⟨rfl, e4⟩
      have C4 : Hid (Below w.heap.size w w4) := Lib.hid (by rw [← e4]; exact C3.out.alloc C3.out.size _)
      have R4 : Hid (Rd 49 w4 wc.heap.size S 0 false) := Lib.hid (by rw [← e4]; exact Rd.made _ _ _)
      have z4 := C3.out.size
      clear e4
      generalize wc.heap.size = Rb at *
      go_upto_block 4 with (fail)
      go_cut [10] (fun s10 wx => Rd 49 wx Rb S (encI Z M).length false ∧ Below w.heap.size w wx)
      case first =>
        go_wp2_with fail
        go_loopw [10] (fun i wr => ∃ k : Nat, k ≤ M ∧ i = .int .i64 k ∧ Rd 49 wr Rb S (encI Z k).length false ∧ Below w.heap.size w wr) (fun i _ => M - (intOf i).toNat)
        case atStart => exact ⟨0, by omega, rfl, R4.out, C4.out⟩
        case round =>
          obtain ⟨k, hk, rfl, hr, hb⟩ := hrel
          have RR := Lib.hid hr
          have CC := Lib.hid hb
          have hM1 : M ≤ n := by have := HM.out; omega
          by_cases h1 : k < M
          · obtain ⟨_, h0 | ⟨b, off, rfl, hc⟩⟩ := HZ.out
            · omega
            have c0 := hc k (by omega)
            have hbl := World.block_lt_of_cell? w _ c0
            simp only at hbl
            rw [← hb.cell hbl] at c0
            clear hc hb hr
            have h2 : k < n := by omega
            have h3 : k < 30 := by omega
            have hxb := HZb.out k
            obtain ⟨n1, n2, n3⟩ := HB1.out k h1
            have hpl : (encI Z k).length ≤ S.size := by rw [HLEN.out]; exact HIL.out k hk
            generalize hx : Z.getD k 0 = x at *
            have HX := Lib.hid hx
            have N1 := Lib.hid n1
            have N2 := Lib.hid n2
            have N3 := Lib.hid n3
            clear hx n1 n2 n3
            have h9 : (k % 9 = 0 ∧ (k : Int) % 9 = 0) ∨ (k % 9 = 1 ∧ (k : Int) % 9 = 1) ∨ (k % 9 = 2 ∧ (k : Int) % 9 = 2) ∨ (k % 9 = 3 ∧ (k : Int) % 9 = 3) ∨ (k % 9 = 4 ∧ (k : Int) % 9 = 4) ∨ (k % 9 = 5 ∧ (k : Int) % 9 = 5) ∨ (k % 9 = 6 ∧ (k : Int) % 9 = 6) ∨ (k % 9 = 7 ∧ (k : Int) % 9 = 7) ∨ (k % 9 = 8 ∧ (k : Int) % 9 = 8) := by omega
            rcases h9 with ⟨hcn, hc9⟩ | ⟨hcn, hc9⟩ | ⟨hcn, hc9⟩ | ⟨hcn, hc9⟩ | ⟨hcn, hc9⟩ | ⟨hcn, hc9⟩ | ⟨hcn, hc9⟩ | ⟨hcn, hc9⟩ | ⟨hcn, hc9⟩
            · have hN1 : numV S (encI Z k).length false 0 = x % 1 := by
                have := N1.out
                rw [hc9, hcn] at this
                rw [this, low0 x]
              have hN2 : takeP S (encI Z k).length false (clamp8 0) = (encI Z (k + 1)).length := by have := N2.out; rwa [hc9] at this
              have hN3 : takeF S (encI Z k).length false (clamp8 0) = false := by have := N3.out; rwa [hc9] at this
              clear hcn
              have hmk := mask0 x
              go_wp2_with fail
              go_quiet (fail)
              clear hmk
              go_wp2_with fail
              refine (num_any 0 (RR.out.drewN _) hm hpl).mono ?_
              rintro e w5 ⟨rfl, r5, g5⟩
              rw [hN2, hN3] at r5
              rw [hN1]
              have R5 := Lib.hid r5
              have C5 := Lib.hid (below_reader (below_drewN CC.out _) g5 z4)
              clear r5 g5 hN1 hN2 hN3 hc9 c0
              go_wp2_with fail
              go_roundw
              case rel => exact ⟨k + 1, by omega, by go_num, R5.out, C5.out⟩
              case measure => simp [intOf]; omega
            · have hN1 : numV S (encI Z k).length false 1 = x % 256 := by
                have := N1.out
                rw [hc9, hcn] at this
                rw [this, low1 x]
              have hN2 : takeP S (encI Z k).length false (clamp8 1) = (encI Z (k + 1)).length := by have := N2.out; rwa [hc9] at this
              have hN3 : takeF S (encI Z k).length false (clamp8 1) = false := by have := N3.out; rwa [hc9] at this
              clear hcn
              have hmk := mask1 x
              go_wp2_with fail
              go_quiet (fail)
              clear hmk
              go_wp2_with fail
              refine (num_any 1 (RR.out.drewN _) hm hpl).mono ?_
              rintro e w5 ⟨rfl, r5, g5⟩
              rw [hN2, hN3] at r5
              rw [hN1]
              have R5 := Lib.hid r5
              have C5 := Lib.hid (below_reader (below_drewN CC.out _) g5 z4)
              clear r5 g5 hN1 hN2 hN3 hc9 c0
              go_wp2_with fail
              go_roundw
              case rel => exact ⟨k + 1, by omega, by go_num, R5.out, C5.out⟩
              case measure => simp [intOf]; omega
            · have hN1 : numV S (encI Z k).length false 2 = x % 65536 := by
                have := N1.out
                rw [hc9, hcn] at this
                rw [this, low2 x]
              have hN2 : takeP S (encI Z k).length false (clamp8 2) = (encI Z (k + 1)).length := by have := N2.out; rwa [hc9] at this
              have hN3 : takeF S (encI Z k).length false (clamp8 2) = false := by have := N3.out; rwa [hc9] at this
              clear hcn
              have hmk := mask2 x
              go_wp2_with fail
              go_quiet (fail)
              clear hmk
              go_wp2_with fail
              refine (num_any 2 (RR.out.drewN _) hm hpl).mono ?_
              rintro e w5 ⟨rfl, r5, g5⟩
              rw [hN2, hN3] at r5
              rw [hN1]
              have R5 := Lib.hid r5
              have C5 := Lib.hid (below_reader (below_drewN CC.out _) g5 z4)
              clear r5 g5 hN1 hN2 hN3 hc9 c0
              go_wp2_with fail
              go_roundw
              case rel => exact ⟨k + 1, by omega, by go_num, R5.out, C5.out⟩
              case measure => simp [intOf]; omega
            · have hN1 : numV S (encI Z k).length false 3 = x % 16777216 := by
                have := N1.out
                rw [hc9, hcn] at this
                rw [this, low3 x]
              have hN2 : takeP S (encI Z k).length false (clamp8 3) = (encI Z (k + 1)).length := by have := N2.out; rwa [hc9] at this
              have hN3 : takeF S (encI Z k).length false (clamp8 3) = false := by have := N3.out; rwa [hc9] at this
              clear hcn
              have hmk := mask3 x
              go_wp2_with fail
              go_quiet (fail)
              clear hmk
              go_wp2_with fail
              refine (num_any 3 (RR.out.drewN _) hm hpl).mono ?_
              rintro e w5 ⟨rfl, r5, g5⟩
              rw [hN2, hN3] at r5
              rw [hN1]
              have R5 := Lib.hid r5
              have C5 := Lib.hid (below_reader (below_drewN CC.out _) g5 z4)
              clear r5 g5 hN1 hN2 hN3 hc9 c0
              go_wp2_with fail
              go_roundw
              case rel => exact ⟨k + 1, by omega, by go_num, R5.out, C5.out⟩
              case measure => simp [intOf]; omega
            · have hN1 : numV S (encI Z k).length false 4 = x % 4294967296 := by
                have := N1.out
                rw [hc9, hcn] at this
                rw [this, low4 x]
              have hN2 : takeP S (encI Z k).length false (clamp8 4) = (encI Z (k + 1)).length := by have := N2.out; rwa [hc9] at this
              have hN3 : takeF S (encI Z k).length false (clamp8 4) = false := by have := N3.out; rwa [hc9] at this
              clear hcn
              have hmk := mask4 x
              go_wp2_with fail
              go_quiet (fail)
              clear hmk
              go_wp2_with fail
              refine (num_any 4 (RR.out.drewN _) hm hpl).mono ?_
              rintro e w5 ⟨rfl, r5, g5⟩
              rw [hN2, hN3] at r5
              rw [hN1]
              have R5 := Lib.hid r5
              have C5 := Lib.hid (below_reader (below_drewN CC.out _) g5 z4)
              clear r5 g5 hN1 hN2 hN3 hc9 c0
              go_wp2_with fail
              go_roundw
              case rel => exact ⟨k + 1, by omega, by go_num, R5.out, C5.out⟩
              case measure => simp [intOf]; omega
            · have hN1 : numV S (encI Z k).length false 5 = x % 1099511627776 := by
                have := N1.out
                rw [hc9, hcn] at this
                rw [this, low5 x]
              have hN2 : takeP S (encI Z k).length false (clamp8 5) = (encI Z (k + 1)).length := by have := N2.out; rwa [hc9] at this
              have hN3 : takeF S (encI Z k).length false (clamp8 5) = false := by have := N3.out; rwa [hc9] at this
              clear hcn
              have hmk := mask5 x
              go_wp2_with fail
              go_quiet (fail)
              clear hmk
              go_wp2_with fail
              refine (num_any 5 (RR.out.drewN _) hm hpl).mono ?_
              rintro e w5 ⟨rfl, r5, g5⟩
              rw [hN2, hN3] at r5
              rw [hN1]
              have R5 := Lib.hid r5
              have C5 := Lib.hid (below_reader (below_drewN CC.out _) g5 z4)
              clear r5 g5 hN1 hN2 hN3 hc9 c0
              go_wp2_with fail
              go_roundw
              case rel => exact ⟨k + 1, by omega, by go_num, R5.out, C5.out⟩
              case measure => simp [intOf]; omega
            · have hN1 : numV S (encI Z k).length false 6 = x % 281474976710656 := by
                have := N1.out
                rw [hc9, hcn] at this
                rw [this, low6 x]
              have hN2 : takeP S (encI Z k).length false (clamp8 6) = (encI Z (k + 1)).length := by have := N2.out; rwa [hc9] at this
              have hN3 : takeF S (encI Z k).length false (clamp8 6) = false := by have := N3.out; rwa [hc9] at this
              clear hcn
              have hmk := mask6 x
              go_wp2_with fail
              go_quiet (fail)
              clear hmk
              go_wp2_with fail
              refine (num_any 6 (RR.out.drewN _) hm hpl).mono ?_
              rintro e w5 ⟨rfl, r5, g5⟩
              rw [hN2, hN3] at r5
              rw [hN1]
              have R5 := Lib.hid r5
              have C5 := Lib.hid (below_reader (below_drewN CC.out _) g5 z4)
              clear r5 g5 hN1 hN2 hN3 hc9 c0
              go_wp2_with fail
              go_roundw
              case rel => exact ⟨k + 1, by omega, by go_num, R5.out, C5.out⟩
              case measure => simp [intOf]; omega
            · have hN1 : numV S (encI Z k).length false 7 = x % 72057594037927936 := by
                have := N1.out
                rw [hc9, hcn] at this
                rw [this, low7 x]
              have hN2 : takeP S (encI Z k).length false (clamp8 7) = (encI Z (k + 1)).length := by have := N2.out; rwa [hc9] at this
              have hN3 : takeF S (encI Z k).length false (clamp8 7) = false := by have := N3.out; rwa [hc9] at this
              clear hcn
              have hmk := mask7 x
              go_wp2_with fail
              go_quiet (fail)
              clear hmk
              go_wp2_with fail
              refine (num_any 7 (RR.out.drewN _) hm hpl).mono ?_
              rintro e w5 ⟨rfl, r5, g5⟩
              rw [hN2, hN3] at r5
              rw [hN1]
              have R5 := Lib.hid r5
              have C5 := Lib.hid (below_reader (below_drewN CC.out _) g5 z4)
              clear r5 g5 hN1 hN2 hN3 hc9 c0
              go_wp2_with fail
              go_roundw
              case rel => exact ⟨k + 1, by omega, by go_num, R5.out, C5.out⟩
              case measure => simp [intOf]; omega
            · have hN1 : numV S (encI Z k).length false 8 = x := by
                have := N1.out
                rw [hc9, hcn] at this
                rw [this, numOf_be8 x hxb]
              have hN2 : takeP S (encI Z k).length false (clamp8 8) = (encI Z (k + 1)).length := by have := N2.out; rwa [hc9] at this
              have hN3 : takeF S (encI Z k).length false (clamp8 8) = false := by have := N3.out; rwa [hc9] at this
              clear hcn
              go_wp2_with fail
              refine (num_any 8 (RR.out) hm hpl).mono ?_
              rintro e w5 ⟨rfl, r5, g5⟩
              rw [hN2, hN3] at r5
              rw [hN1]
              have R5 := Lib.hid r5
              have C5 := Lib.hid (below_reader CC.out g5 z4)
              clear r5 g5 hN1 hN2 hN3 hc9 c0
              go_wp2_with fail
              go_roundw
              case rel => exact ⟨k + 1, by omega, by go_num, R5.out, C5.out⟩
              case measure => simp [intOf]; omega
          · have hkM : k = M := by omega
            by_cases h2 : k < n
            · have h3 : ¬ k < 30 := by have := HM.out; omega
              go_wp2_with fail
              go_meet
              rw [hkM] at hr
              exact ⟨hr, hb⟩
            · go_wp2_with fail
              go_meet
              rw [hkM] at hr
              exact ⟨hr, hb⟩
      case rest =>
        obtain ⟨hr, hb⟩ := hcut
        have C5 := Lib.hid hb
        have R5 := Lib.hid hr
        clear hr hb
        go_upto_block 6 with (fail)
        go_cut [12] (fun s12 wx => Rd 49 wx Rb S (encI Z M ++ encT T K).length false ∧ Below w.heap.size w wx)
        case first =>
          go_wp2_with fail
          go_loopw [12] (fun i wr => ∃ k : Nat, k ≤ K ∧ i = .int .i64 k ∧ Rd 49 wr Rb S (encI Z M ++ encT T k).length false ∧ Below w.heap.size w wr) (fun i _ => K - (intOf i).toNat)
          case atStart => exact ⟨0, by omega, rfl, by rw [HEND.out]; exact R5.out, C5.out⟩
          case round =>
            obtain ⟨k, hk, rfl, hr, hb⟩ := hrel
            have RR := Lib.hid hr
            have CC := Lib.hid hb
            have hM1 : K ≤ m := by have := HK.out; omega
            by_cases h1 : k < K
            · obtain ⟨_, h0 | ⟨b, off, rfl, hc⟩⟩ := HT.out
              · omega
              have c0 := hc k (by omega)
              have hbl := World.block_lt_of_cell? w _ c0
              simp only at hbl
              rw [← hb.cell hbl] at c0
              clear hc hb hr
              have h2 : k < m := by omega
              have h3 : k < 10 := by omega
              have hxm := HTb.out k
              have hpl : (encI Z M ++ encT T k).length ≤ S.size := by rw [HLEN.out]; exact HTL.out k hk
              obtain ⟨n1, n2, n3⟩ := HB2.out k h1
              have hbne : some (⟨b, off + k, none⟩ : Addr).block ≠ some Rb := by simp only [ne_eq, Option.some.injEq]; omega
              have tc : ∀ W, Rd 49 W Rb S (encI Z M ++ encT T k).length false → Calls Try.prog 26 #[.pointer (some ⟨Rb, 0, none⟩)] W fun e w' => e = .returned (.string (cut3 (T.getD k ByteArray.empty))) ∧ Rd 49 w' Rb S (encI Z M ++ encT T (k + 1)).length false ∧ W.grownBy w' (some Rb) := fun W h => by
                have := txt_any h hm hpl
                rwa [n1, n2, n3] at this
              clear n1 n2 n3
              have hK9 : K ≤ 10 := hK3
              generalize hx : T.getD k ByteArray.empty = x at *
              have HX := Lib.hid hx
              clear hx
              unfold maxLen at hxm
              obtain ⟨q, hq, hq1, hqx⟩ : ∃ q : Nat, (if (300 : Int) < (x.size : Int) then (300 : Int) else (x.size : Int)) = (q : Int) ∧ q ≤ x.size ∧ x.extract 0 q = cut3 x := by
                by_cases hs : x.size ≤ 300
                · exact ⟨x.size, by rw [if_neg (by omega)], Nat.le_refl _, by unfold cut3; rw [if_pos hs]; apply ByteArray.ext; simp⟩
                · exact ⟨300, by rw [if_pos (by omega)]; rfl, by omega, by unfold cut3; rw [if_neg hs]⟩
              generalize cut3 x = y at *
              have hq0 : (0 : Int) ≤ (q : Int) := by omega
              have hq2 : (q : Int) ≤ (x.size : Int) := by omega
              have hsl : ∀ W, (Instr.slice 9 (.string x) none (some (.int .i64 (q : Int))) none).run Try.prog W = .ok (.string y) W := fun W => by
                have := run_slice_string_h (P := Try.prog) (w := W) (t := 9) (s := x) Try.underlying9 .i64 (q : Int) hq0 hq2
                rw [this]
                show Result.ok (Value.string (x.extract 0 ((q : Nat) : Int).toNat)) W = _
                rw [Int.toNat_natCast, hqx]
              have TC := Lib.hid tc
              clear tc
              go_wp2_with fail
              go_region_held3 (fun w' => w'.cell? ⟨b, off + k, none⟩ = some (.string x)) (first | exact c0 | assumption) (first | (go_at_call 26; refine (TC.out _ (by exact RR.out.drewN 1)).mono ?_; rintro e w5 ⟨rfl, r5, g5⟩; have c5 : w5.cell? ⟨b, off + k, none⟩ = some (.string x) := g5.cell c0 hbne))
              all_goals
                go_wp2_with fail
                go_roundw
                case rel => exact ⟨k + 1, by omega, by go_num, r5, below_reader (below_drewN CC.out 1) g5 z4⟩
                case measure => simp [intOf]; omega
            · have hkM : k = K := by omega
              by_cases h2 : k < m
              · have h3 : ¬ k < 10 := by have := HK.out; omega
                go_wp2_with fail
                go_meet
                rw [hkM] at hr
                exact ⟨hr, hb⟩
              · go_wp2_with fail
                go_meet
                rw [hkM] at hr
                exact ⟨hr, hb⟩
        case rest =>
          obtain ⟨hr, hb⟩ := hcut
          have C6 := Lib.hid hb
          have R6 := Lib.hid hr
          clear hr hb
          have hpl : (encI Z M ++ encT T K).length ≤ S.size := by rw [HLEN.out]; exact Nat.le_refl _
          go_wp2_with fail
          refine (failed_any R6.out).mono ?_
          rintro e w7 ⟨rfl, rfl⟩
          go_wp2_with fail
          refine (left_any R6.out hm hpl).mono ?_
          rintro e w7 ⟨rfl, q, rfl⟩
          have e0 : (S.size : Int) - ((encI Z M ++ encT T K).length : Int) = 0 := by have := HLEN.out; omega
          rw [e0]
          clear e0
          go_wp2_with fail
          refine (at_any (R6.out.drewN q)).mono ?_
          rintro e w7 ⟨rfl, rfl⟩
          rw [← HLEN.out]
          go_wp2_with fail
          go_ret
          exact ⟨rfl, below_drewN C6.out q⟩

theorem ints_view {H : Type} {enc : TypeId × Value → H} {w : World} {r : Reach} {b0 : Nat} {v : Value} {d : DataW H} {p : List MemPlace}
    (hv : Value.okWide Try.prog w r b0 41 v) (h : DataW.Trod enc Try.prog w 0 (fun _ => true) true 41 v d p)
    (hreach : ∀ elems sp, d = .slice elems sp → (elems.length + sp.length) * Try.prog.bytesOf 3 ≤ reachBytes) :
    ∃ (a : Option Addr) (n cap : Nat) (Z : List Int), v = .slice a n cap ∧ IntsAt w a Z n ∧ (n ≤ cap ∧ cap * 8 ≤ 140737488351232) ∧ (∀ t, -9223372036854775808 ≤ Z.getD t 0 ∧ Z.getD t 0 ≤ 9223372036854775807) :=
  open_ints_at Try.underlying41 Try.underlying3 (by kernel_rfl) (by kernel_rfl) hv h hreach
theorem strs_view {H : Type} {enc : TypeId × Value → H} {w : World} {r : Reach} {b0 : Nat} {v : Value} {d : DataW H} {p : List MemPlace}
    (hv : Value.okWide Try.prog w r b0 53 v) (h : DataW.Trod enc Try.prog w 0 (fun _ => true) true 53 v d p)
    (hreach : ∀ elems sp, d = .slice elems sp → (elems.length + sp.length) * Try.prog.bytesOf 9 ≤ reachBytes) :
    ∃ (a : Option Addr) (n cap : Nat) (Z : List ByteArray), v = .slice a n cap ∧ StrsAt w a Z n ∧ (n ≤ cap ∧ cap * 16 ≤ 140737488351232) ∧ (∀ t, (Z.getD t ByteArray.empty).size ≤ maxLen) :=
  open_strs_at Try.underlying53 Try.underlying9 (by kernel_rfl) (by kernel_rfl) hv h hreach

set_option maxRecDepth 100000 in
theorem octetBack_lifted (os : Os) (started : os.Started) (H : Type) (enc : TypeId × Value → H) :
    ReturnsInHanded {} Try.checked os 11 .any (Rows.octetBackSpec.pre6 enc Try.prog Try.f11 Rows.octetBackRow.domain false) (Rows.octetBackSpec.post enc Try.prog Try.f11 false true false false) := by
  refine returnsInHanded_of_change_sized (C := Try.checked) Try.own started (by kernel_rfl) Try.func11
    (ChangeSpec.witness6 (enc := enc) (C := Try.checked) false ⟨#[], #[.slice none 0 0, .slice none 0 0], []⟩ 8 (by kernel_rfl) (by kernel_rfl) (by kernel_rfl) (by kernel_rfl)) ?_
  intro W base args ds gs before hval0 hW _ hsz0 _
  have hval : ∀ (j : Nat) t v, Try.f11.params[j]? = some t → args[j]? = some v → Value.okWide Try.prog W .any base t v := hval0
  have hsz : (DataW.weightsEach Try.prog (Try.f11.params.toList ++ Rows.octetBackSpec.plain.varTypes Try.prog) (ds ++ gs)).all (· ≤ reachBytes) = true := hsz0
  clear hsz0 hval0
  have hW' := hW
  obtain ⟨p, q, hA0, hV, rfl, hfz, hnd⟩ := hW
  have hA : DataW.TrodAll enc Try.prog W 0 (fun _ => true) true Try.f11.params.toList args.toList ds p := hA0
  rw [Try.params11] at hA hval hsz
  obtain ⟨v0, vs0, d0, ds0, p0, q0, hargs, rfl, rfl, h0, r0⟩ := trodAll_cons hA
  obtain ⟨v1, vs1, d1, ds1, p1, q1, rfl, rfl, rfl, h1, r1⟩ := trodAll_cons r0
  obtain ⟨rfl, rfl, rfl⟩ := trodAll_nil r1
  obtain rfl : args = #[v0, v1] := by cases args; simp_all
  obtain ⟨rfl, rfl⟩ := trodVars_none hV
  obtain ⟨a, n, cap, Z, rfl, hZ, hcap, hZb⟩ := ints_view (hval 0 41 v0 rfl rfl) h0 (fun elems sp he => sized_slice hsz (j := 0) rfl (by rw [← he]; rfl) Try.underlying41)
  obtain ⟨c, m, mcap, T, rfl, hT, hmcap, hTb⟩ := strs_view (hval 1 53 v1 rfl rfl) h1 (fun elems sp he => sized_slice hsz (j := 1) rfl (by rw [← he]; rfl) Try.underlying53)
  clear hA0
  refine (back_walk a n cap Z hZ hcap hZb c m mcap T hT hmcap hTb).mono fun e W' ⟨he, hb⟩ => ?_
  subst he
  exact ⟨_, rfl, law_post Try.laidOut (by kernel_rfl) rfl Try.underlying4 rfl rfl hW' hb⟩

theorem octetBack_holds : Rows.OctetBackSaid :=
  OpenClaim.holds_of_wide 11 Try.f11 rfl rfl rfl rfl rfl rfl rfl ⟨rfl, rfl, rfl, rfl, rfl⟩ rfl rfl rfl rfl rfl (by kernel_rfl) Try.func11 (by kernel_rfl)
    (of_decide_eq_true (by kernel_rfl)) (by unfold Func.isWrapper; first | (rw [if_pos (by decide +kernel)]; kernel_rfl) | (rw [if_neg (by decide +kernel)]; exact ⟨rfl, rfl⟩))
    (fun os started H enc _ => octetBack_lifted os started H enc)

end Go.Proofs.Ytmomhglcjphieaa
