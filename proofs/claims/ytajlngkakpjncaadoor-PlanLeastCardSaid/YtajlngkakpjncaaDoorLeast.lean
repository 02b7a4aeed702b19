/- PlanLeast: the walk of the law. UNFINISHED. -/
import Derived.Test.YtajlngkakpjncaaDoorLeastPlain
import Derived.Test.YtajlngkakpjncaaDoorWayEq
namespace Go.Proofs.YtajlngkakpjncaaDoor
set_option linter.unusedVariables false
set_option linter.unusedSimpArgs false
open Go.RowKit

set_option maxRecDepth 100000 in
set_option maxHeartbeats 16000000 in
theorem least_walk {p1 p2 p3 : Nat → Prop} {aT aU aW aV aR : Option Addr} {nU cT cU cW cV cR : Nat} {LT LV LW R : List Int} {r0 r1 : Int} {w : World} (hT : SlV intR p1 w (.slice aT LT.length cT) LT) (hV : SlV intR p2 w (.slice aV LV.length cV) LV) (hL : SlV intR p3 w (.slice aW LW.length cW) LW)
    (hf : ∀ x ∈ LW, -9223372036854775808 ≤ x ∧ x ≤ 9223372036854775807) {p4 : Nat → Prop} (hR : SlV intR p4 w (.slice aR R.length cR) R) (he : Env w) :
    Calls Tryd.prog 7 #[.agg #[.slice aT LT.length cT, .slice aU nU cU, .slice aW LW.length cW, .slice aV LV.length cV, .int .i64 r0, .int .i64 r1], .slice aR R.length cR] w
      fun e w' => e = .returned (.bool true) ∧ Below w.heap.size w w' := by
  obtain ⟨i0, hi, hz0, hz1, hz2⟩ := info_parts info_cond
  obtain ⟨W1, hW1⟩ : ∃ W1, w.alloc (.cells #[.slice aT LT.length cT, .slice aU nU cU, .slice aW LW.length cW, .slice aV LV.length cV, .int .i64 r0, .int .i64 r1] 25) = W1 := ⟨_, rfl⟩
  have hb1 : Below w.heap.size w W1 := by rw [← hW1]; exact (Below.refl _ _).alloc (Nat.le_refl _) _
  have hq : W1.heap[w.heap.size]? = some (.cells #[.slice aT LT.length cT, .slice aU nU cU, .slice aW LW.length cW, .slice aV LV.length cV, .int .i64 r0, .int .i64 r1] 25 (0, 0)) := by rw [← hW1]; exact heap_alloc_new _ _
  have hsz : W1.heap.size = w.heap.size + 1 := by rw [← hW1]; simp
  have HT := Lib.hid (hT.below hb1)
  have HV := Lib.hid (hV.below hb1)
  have HL := Lib.hid (hL.below hb1)
  have HR := Lib.hid (hR.below hb1)
  have HE := Lib.hid (he.below hb1)
  have HF := Lib.hid hf
  have HQ := Lib.hid hq
  have B1 := Lib.hid hb1
  have S1 := Lib.hid hsz
  clear hT hV hL hR hf he hq hb1 hsz
  go_enter Tryd.func7, Tryd.ntmps7
  go_upto_region 1 with (fail)
  clear hW1
  go_wp2_with fail
  refine (sanity_any HE.out).mono ?_
  rintro e w2 ⟨rfl, b2⟩
  have B2 := Lib.hid b2
  have q0 := (b2.cell (p := ⟨w.heap.size, 0, none⟩) (by rw [S1.out]; exact Nat.lt_succ_self _)).trans (cells_of HQ.out 0)
  simp only [List.getElem?_toArray, List.getElem?_cons_zero] at q0
  clear b2
  go_wp2_with fail
  refine (table_any false (HT.out.below B2.out)).mono ?_
  rintro e w3 ⟨⟨T, tv, rfl, hTV, hG⟩, b3⟩
  obtain ⟨ac, cc, ai, ci, rfl, h1, h2⟩ := hTV
  have B3 := Lib.hid (B2.out.trans (b3.mono B2.out.size))
  have HTV := Lib.hid (show TabV (fun k => w2.heap.size ≤ k) w3 (.agg #[.int .i64 T.id, .string T.name, .slice ac T.cols.length cc, .slice ai T.idx.length ci]) T from ⟨ac, cc, ai, ci, rfl, h1, h2⟩)
  have HG := Lib.hid hG
  clear h1 h2 hG b3 q0
  go_upto_region 3 with (fail)
  generalize hW4 : World.alloc _ _ = W4
  have hb4 : Below w3.heap.size w3 W4 := by rw [← hW4]; exact (Below.refl _ _).alloc (Nat.le_refl _) _
  have hT4 : W4.heap[w3.heap.size]? = some (.cells #[.int .i64 T.id, .string T.name, .slice ac T.cols.length cc, .slice ai T.idx.length ci] 30 (0, 0)) := by rw [← hW4]; exact heap_alloc_new _ _
  have B4 := Lib.hid (B3.out.trans (hb4.mono B3.out.size))
  have HT4 := Lib.hid hT4
  have HTV4 := Lib.hid (HTV.out.below hb4)
  have HQ4 := Lib.hid ((B4.out.block w.heap.size (by rw [S1.out]; exact Nat.lt_succ_self _)).trans HQ.out)
  have q2 := cells_of HQ4.out 2
  simp only [List.getElem?_toArray, List.getElem?_cons_zero, List.getElem?_cons_succ] at q2
  obtain ⟨bt, hbt⟩ : ∃ bt, bt = w3.heap.size := ⟨_, rfl⟩
  rw [← hbt] at HT4 ⊢
  clear hW4 hb4 hT4 hbt
  go_wp2_with fail
  refine (where_any (HL.out.below B4.out) HF.out).mono ?_
  rintro e w5 ⟨⟨cv, rfl, aw, cw, rfl, hSL⟩, b5⟩
  obtain ⟨C, hC⟩ : ∃ C, C = wherV LW := ⟨_, rfl⟩
  rw [← hC] at hSL ⊢
  have B5 := Lib.hid (B4.out.trans (b5.mono B4.out.size))
  have HSL := Lib.hid hSL
  have HC := Lib.hid hC
  have HT5 := Lib.hid ((b5.block _ (lt_of_block HT4.out)).trans HT4.out)
  have HQ5 := Lib.hid ((b5.block _ (lt_of_block HQ4.out)).trans HQ4.out)
  have HTV5 := Lib.hid (HTV4.out.below b5)
  have HV5 := Lib.hid (HV.out.below B5.out)
  have HE5 := Lib.hid (HE.out.below B5.out)
  have HR5 := Lib.hid (HR.out.below B5.out)
  have hcl : C.length ≤ 6 := by rw [hC]; unfold wherV; rw [wherTo_len]; omega
  have HCF := Lib.hid (show ∀ c ∈ C, c.val.fine from fun c hc => by
    rw [hC] at hc
    simp only [wherV, wherTo, List.mem_map, List.mem_range] at hc
    obtain ⟨i, hi, rfl⟩ := hc
    refine valOf_fine _ ?_
    rw [List.getD_eq_getElem?_getD]
    cases h : LW[3 * i + 2]? with
    | none => exact ⟨by decide, by decide⟩
    | some x => exact HF.out x (List.mem_of_getElem? h))
  clear hSL b5 hC q2
  have hgc := HG.out.c1
  go_upto_block 0 with (fail)
  go_cut [7] from 26 to 58 (fun s7 wx => OneAt w5.heap.size w5 44 5 s7 (leastC T C).length ((leastC T C).flatMap condEnc) wx)
  case first =>
    go_wp2_with fail
    go_loopw [7, 9] (fun x ii wr => ∃ (k : Nat) (v : Value), k ≤ C.length ∧ ii = .int .i64 k ∧ v = x ∧ OneAt w5.heap.size w5 44 5 v (leastC T (C.take k)).length ((leastC T (C.take k)).flatMap condEnc) wr) (fun _ ii _ => C.length - (intOf ii).toNat)
    case atStart => exact ⟨0, _, Nat.zero_le _, rfl, rfl, World.ownsRow_nil _ _ _ _, Below.refl _ _⟩
    case round =>
      obtain ⟨k, v, hk, rfl, rfl, hO⟩ := hrel
      have OW := Lib.hid hO
      clear hO
      by_cases hlt : k < C.length
      · obtain ⟨wo, hwo⟩ : ∃ wo, wo = wr := ⟨_, rfl⟩
        subst hwo
        have HLC := Lib.hid (leastC_take T C k hlt)
        go_wp2_with fail
        go_loopw [7, 10] (fun x jj wr => ∃ (j : Nat) (v : Value), j ≤ T.cols.length ∧ jj = .int .i64 j ∧ v = x ∧ OneAt w5.heap.size w5 44 5 v (leastC T (C.take k) ++ leastIn T C[k] j).length ((leastC T (C.take k) ++ leastIn T C[k] j).flatMap condEnc) wr) (fun _ jj _ => T.cols.length - (intOf jj).toNat)
        case atStart => exact ⟨0, _, Nat.zero_le _, rfl, rfl, by rw [leastIn_zero, List.append_nil]; exact OW.out⟩
        case round =>
          obtain ⟨j, v, hj, rfl, rfl, hO⟩ := hrel
          have OI := Lib.hid hO
          have HTi := Lib.hid ((hO.b.block _ (lt_of_block HT5.out)).trans HT5.out)
          have t2 := cells_of HTi.out 2
          simp only [List.getElem?_toArray, List.getElem?_cons_zero, List.getElem?_cons_succ] at t2
          clear hO
          by_cases hjl : j < T.cols.length
          · obtain ⟨_, _, _, hcr⟩ := (show SlV colR (fun k => w2.heap.size ≤ k) w5 (.slice ac T.cols.length cc) T.cols from by
              obtain ⟨_, _, _, _, e, h, _⟩ := HTV5.out
              simp only [Value.agg.injEq, Array.mk.injEq, List.cons.injEq, Value.slice.injEq, and_true, true_and] at e
              obtain ⟨⟨rfl, rfl⟩, _⟩ := e
              exact h).row
            obtain ⟨_, _, _, hwr⟩ := HSL.out.row
            obtain ⟨bc, oc, rfl, _, hbc⟩ := hcr.addr (by intro e; rw [e] at hjl; cases hjl)
            obtain ⟨bw, ow, rfl, _, hbw⟩ := hwr.addr (by intro e; rw [e] at hlt; cases hlt)
            have cN := (OI.out.b.cell (p := ⟨bc, oc + j * 2, none⟩) hbc).trans (hcr.col j hjl).1
            have CW := Lib.hid (hwr.cond k hlt)
            have cW := (OI.out.b.cell (p := ⟨bw, ow + k * 5, none⟩) hbw).trans CW.out.1
            have HS1 := Lib.hid (leastIn_succ HG.out C[k] j hjl)
            clear hcr hwr
            cases hs : sEq T.cols[j].1 C[k].col
            · rw [hs] at HS1
              have HS2 := Lib.hid (HS1.out.trans (List.append_nil _))
              clear HS1
              unfold sEq at hs
              go_wp2_with fail
              go_quiet (fail)
              go_wp2_with fail
              go_roundw
              case rel => exact ⟨j + 1, _, by omega, by go_num, rfl, by rw [HS2.out]; exact OI.out.below (below_drewN (Below.refl _ _) _) OI.out.b.size⟩
              case measure => simp [intOf]; omega
            · rw [hs] at HS1
              have HS2 := Lib.hid (show leastIn T C[k] (j + 1) = leastIn T C[k] j ++ [C[k]] from HS1.out)
              clear HS1
              obtain ⟨M, hM⟩ : ∃ M, M = leastC T (C.take k) ++ leastIn T C[k] j := ⟨_, rfl⟩
              have hMl : M.length ≤ 8 := by
                rw [hM, List.length_append]
                have h1 : (leastC T (C.take k)).length ≤ (C.take k).length := List.length_filter_le _ _
                have h2 : (leastIn T C[k] j).length ≤ 1 := by unfold leastIn; split <;> simp
                rw [List.length_take] at h1
                omega
              rw [← hM] at OI
              have HM := Lib.hid hM
              clear hM
              unfold sEq at hs
              go_wp2_with fail
              go_quiet (fail)
              generalize hwd : World.drewN _ _ = wd
              have bd : Below wr.heap.size wr wd := by rw [← hwd]; exact below_drewN (Below.refl _ _) _
              have OD := Lib.hid (OI.out.below bd OI.out.b.size)
              have e0 := (OD.out.b.cell (p := ⟨bw, ow + k * 5, none⟩) hbw).trans CW.out.1
              have e1 := (OD.out.b.cell (p := ⟨bw, ow + k * 5 + 1, none⟩) hbw).trans CW.out.2.1
              have e2 := (OD.out.b.cell (p := ⟨bw, ow + k * 5 + 2, none⟩) hbw).trans CW.out.2.2.1
              have e3 := (OD.out.b.cell (p := ⟨bw, ow + k * 5 + 3, none⟩) hbw).trans CW.out.2.2.2.1
              have e4 := (OD.out.b.cell (p := ⟨bw, ow + k * 5 + 4, none⟩) hbw).trans CW.out.2.2.2.2
              have hsd := OD.out.b.size
              clear hwd bd cN cW t2
              go_wp2_with (at_builtin; go_loud (refine wpList_append_own_at _ rfl _ _ 36 rfl w5.heap.size 44 i0 _ 5 56 Tryd.underlying36 hi hz0 hz1 hz2 rfl (by decide) v M.length _ rfl (OD.out.m.alloc _) ⟨wd.heap.size, 0, none⟩ 1 1 (condEnc C[k]) rfl rfl (fun j u hj => by rw [addr_add, cells_of (heap_alloc_new _ _)]; simpa [condEnc] using hj) (cond_cells _) (by unfold maxLen; omega) (by omega) (by simp; omega) ?_; intro v' w3' o1 h1' hx1' at1; clear hx1'; have N3 := Lib.hid ((OD.out.below ((Below.refl _ _).alloc (Nat.le_refl _) _) hsd).push (by simp; omega) o1 h1'); clear o1 h1' at1))
              go_roundw
              case rel => exact ⟨j + 1, _, by omega, by go_num, rfl, by rw [HS2.out, ← List.append_assoc, ← HM.out, List.flatMap_append, List.length_append]; simpa using N3.out⟩
              case measure => simp [intOf]; omega
          · have hjl2 : j = T.cols.length := by omega
            subst hjl2
            rw [← HLC.out] at OI
            go_wp2_with fail
            go_roundw
            case rel => exact ⟨k + 1, _, by omega, by go_num, rfl, OI.out⟩
            case measure => simp [intOf]; omega
      · have hkl : k = C.length := by omega
        subst hkl
        rw [List.take_length] at OW
        go_wp2_with fail
        go_meet
        exact OW.out
  case rest =>
    obtain ⟨W7, hW7⟩ : ∃ W7, W7 = wc := ⟨_, rfl⟩
    rw [← hW7] at hcut ⊢
    obtain ⟨aM, cM, hv, hM1, hM2, _⟩ := RowAt.of_owns_flat (enc := condEnc) (sz := 5) (hl := fun _ => rfl) (p := fun k => w5.heap.size ≤ k) (L := leastC T C) hcut.m (fun _ h => h)
    subst hv
    have B57 := Lib.hid hcut.b
    have B7 := Lib.hid (B5.out.trans (hcut.b.mono B5.out.size))
    obtain ⟨M, hM⟩ : ∃ M, M = leastC T C := ⟨_, rfl⟩
    rw [← hM] at hM1 hM2 ⊢
    have hMl : M.length ≤ 6 := by rw [hM]; exact Nat.le_trans (List.length_filter_le _ _) hcl
    have HSM := Lib.hid (show SlV condR (fun k => w5.heap.size ≤ k) W7 (.slice aM M.length cM) M from ⟨_, _, rfl, hM1, by omega, hM2⟩)
    have HMI := Lib.hid (show (∀ c ∈ M, 0 ≤ colOf T c.col) ∧ (∀ c ∈ M, c.val.fine) from by
      rw [hM]
      refine ⟨fun c hc => ?_, fun c hc => HCF.out c (List.mem_filter.1 hc).1⟩
      have := (List.mem_filter.1 hc).2
      simpa using this)
    clear hcut hM hM1 hM2 hW7 hcl
    have HT7 := Lib.hid ((B57.out.block _ (lt_of_block HT5.out)).trans HT5.out)
    have HTV7 := Lib.hid (HTV5.out.below B57.out)
    have HV7 := Lib.hid (HV.out.below B7.out)
    have HE7 := Lib.hid (HE.out.below B7.out)
    have HR7 := Lib.hid (HR.out.below B7.out)
    have HQ7 := Lib.hid ((B7.out.block w.heap.size (by rw [S1.out]; exact Nat.lt_succ_self _)).trans HQ.out)
    have q0 := cells_of HQ7.out 0
    have q1 := cells_of HQ7.out 1
    have q2 := cells_of HQ7.out 2
    have q3 := cells_of HQ7.out 3
    have q4 := cells_of HQ7.out 4
    have q5 := cells_of HQ7.out 5
    simp only [List.getElem?_toArray, List.getElem?_cons_zero, List.getElem?_cons_succ] at q0 q1 q2 q3 q4 q5
    go_wp2_with fail
    refine (stats_any HV7.out).mono ?_
    rintro e w8 ⟨⟨sa, sn, sc, rfl⟩, b8⟩
    have hS8 := (HV7.out.below b8).take (n := min 12 LV.length) (by omega)
    rw [show LV.take (min 12 LV.length) = LV.take 12 from by rw [List.take_eq_take_iff]; omega] at hS8
    have hsta : StaV p2 w8 (.agg #[.int .i64 r0, .slice aV (LV.take 12).length cV]) ⟨r0, LV.take 12⟩ := staV_of (S := ⟨r0, LV.take 12⟩) hS8
    obtain ⟨S, hS⟩ : ∃ S : Sta, S = ⟨r0, LV.take 12⟩ := ⟨_, rfl⟩
    rw [← hS] at hsta
    obtain ⟨nS, hnS⟩ : ∃ nS, (LV.take 12).length = nS := ⟨_, rfl⟩
    rw [hnS] at hsta ⊢
    have B8 := Lib.hid (B7.out.trans (b8.mono B7.out.size))
    have HT8 := Lib.hid ((b8.block _ (lt_of_block HT7.out)).trans HT7.out)
    have HTV8 := Lib.hid (HTV7.out.below b8)
    have HSTA := Lib.hid hsta
    have HSM8 := Lib.hid (HSM.out.below b8)
    clear hS8 b8 q0 q1 q2 q3 q4 q5 hS hnS hsta
    have hix := index_sta r0 r1 aV sa nS cV sn sc w8
    go_upto_region 14 with (fail)
    clear hix
    generalize hW9 : World.alloc _ _ = W9
    have hb9 : Below w8.heap.size w8 W9 := by rw [← hW9]; exact (Below.refl _ _).alloc (Nat.le_refl _) _
    have hs9 : W9.heap[w8.heap.size]? = some (.cells #[.int .i64 r0, .slice aV nS cV] 33 (0, 0)) := by rw [← hW9]; exact heap_alloc_new _ _
    have B9 := Lib.hid (B8.out.trans (hb9.mono B8.out.size))
    have HT9 := Lib.hid ((hb9.block _ (lt_of_block HT8.out)).trans HT8.out)
    have HTV9 := Lib.hid (HTV8.out.below hb9)
    have HSTA9 := Lib.hid (HSTA.out.below hb9)
    have HSM9 := Lib.hid (HSM8.out.below hb9)
    have HE9 := Lib.hid (HE.out.below B9.out)
    have HR9 := Lib.hid (HR.out.below B9.out)
    obtain ⟨bs, hbs⟩ : ∃ bs, bs = w8.heap.size := ⟨_, rfl⟩
    rw [← hbs] at hs9 ⊢
    have HS9 := Lib.hid hs9
    clear hW9 hb9 hs9 hbs
    have hPl := plan_least T S M HMI.out.1
    have hBest := bestOf_ways T S M
    obtain ⟨Bw, hBw⟩ : ∃ B, B = bestOf (waysOf T S M) := ⟨_, rfl⟩
    rw [← hBw] at hPl hBest
    obtain ⟨bi, bl, bh, bc⟩ := Bw
    have HPL := Lib.hid (show planOf T tab0 S sta0 (stmtL M) = (⟨⟨bi, bl, bh, bc⟩, way0, false, bc⟩, 0) from hPl)
    have HBE := Lib.hid hBest
    clear hPl hBest hBw
    have t0 := cells_of HT9.out 0
    have t1 := cells_of HT9.out 1
    have t2 := cells_of HT9.out 2
    have t3 := cells_of HT9.out 3
    have s0 := cells_of HS9.out 0
    have s1 := cells_of HS9.out 1
    simp only [List.getElem?_toArray, List.getElem?_cons_zero, List.getElem?_cons_succ] at t0 t1 t2 t3 s0 s1
    have hi1 := HG.out.i1
    go_wp2_with fail
    refine (plan_any (p2 := fun _ => True) (p4 := fun _ => True) HTV9.out tabV_zero HSTA9.out staV_zero (stmtV_of (p := fun _ => True) (s := stmtL M) rfl rfl rfl sl_nil (fun _ _ e => by cases e; rfl) sl_nil (fun _ _ e => by cases e; rfl) (HSM9.out.weaken fun _ _ => trivial))
      ⟨by simp [stmtL, stmt0], by simp [stmtL, stmt0], by simp [stmtL, stmt0], by simp only [stmtL]; omega⟩ HMI.out.2 HE9.out (by omega) (by simp [tab0])).mono ?_
    rintro e w10 ⟨rfl, b10⟩
    rw [HPL.out]
    rw [show planR (⟨⟨bi, bl, bh, bc⟩, way0, false, bc⟩, 0) = .tuple #[.agg #[.int .i64 bi, .string bl, .string bh, .int .i64 bc, .int .i64 0, .string noStr, .string noStr, .int .i64 0, .bool false, .int .i64 bc], .int .i64 0] from rfl]
    have B10 := Lib.hid (B9.out.trans (b10.mono B9.out.size))
    have HT10 := Lib.hid ((b10.block _ (lt_of_block HT9.out)).trans HT9.out)
    have HS10 := Lib.hid ((b10.block _ (lt_of_block HS9.out)).trans HS9.out)
    have HTV10 := Lib.hid (HTV9.out.below b10)
    have HSTA10 := Lib.hid (HSTA9.out.below b10)
    have HSM10 := Lib.hid (HSM9.out.below b10)
    clear b10 t0 t1 t2 t3 s0 s1
    go_upto_region 15 with (fail)
    generalize hW11 : World.alloc _ _ = W11
    have hb11 : Below w10.heap.size w10 W11 := by rw [← hW11]; exact (Below.refl _ _).alloc (Nat.le_refl _) _
    have hp11 : W11.heap[w10.heap.size]? = some (.cells #[.int .i64 bi, .string bl, .string bh, .int .i64 bc, .int .i64 0, .string noStr, .string noStr, .int .i64 0, .bool false, .int .i64 bc] 54 (0, 0)) := by rw [← hW11]; exact heap_alloc_new _ _
    obtain ⟨bp, hbp⟩ : ∃ bp, bp = w10.heap.size := ⟨_, rfl⟩
    rw [← hbp] at hp11 ⊢
    have HP11 := Lib.hid hp11
    have B11 := Lib.hid (B10.out.trans (hb11.mono B10.out.size))
    have HT11 := Lib.hid ((hb11.block _ (lt_of_block HT10.out)).trans HT10.out)
    have HS11 := Lib.hid ((hb11.block _ (lt_of_block HS10.out)).trans HS10.out)
    have HTV11 := Lib.hid (HTV10.out.below hb11)
    have HSTA11 := Lib.hid (HSTA10.out.below hb11)
    have HSM11 := Lib.hid (HSM10.out.below hb11)
    have HE11 := Lib.hid (HE.out.below B11.out)
    clear hW11 hb11 hp11 hbp
    have t0 := cells_of HT11.out 0
    have t1 := cells_of HT11.out 1
    have t2 := cells_of HT11.out 2
    have t3 := cells_of HT11.out 3
    have s0 := cells_of HS11.out 0
    have s1 := cells_of HS11.out 1
    simp only [List.getElem?_toArray, List.getElem?_cons_zero, List.getElem?_cons_succ] at t0 t1 t2 t3 s0 s1
    go_wp2_with fail
    refine (ways_any HTV11.out HSTA11.out HSM11.out HMI.out.2 HE11.out (by omega)).mono ?_
    rintro e w12 ⟨⟨ay, cy, rfl, hy⟩, b12⟩
    obtain ⟨Y, hY⟩ : ∃ Y, Y = waysOf T S M := ⟨_, rfl⟩
    rw [← hY] at hy HBE ⊢
    have HY := Lib.hid hy
    have HYE := Lib.hid hY
    have B12 := Lib.hid (B11.out.trans (b12.mono B11.out.size))
    have HT12 := Lib.hid ((b12.block _ (lt_of_block HT11.out)).trans HT11.out)
    have HP12 := Lib.hid ((b12.block _ (lt_of_block HP11.out)).trans HP11.out)
    have HTV12 := Lib.hid (HTV11.out.below b12)
    have HSM12 := Lib.hid (HSM11.out.below b12)
    have HE12 := Lib.hid (HE.out.below B12.out)
    have HR12 := Lib.hid (HR.out.below B12.out)
    have hyl2 : Y.length ≤ 5 := by rw [hY]; simp [waysOf]; omega
    clear hy hY b12 t0 t1 t2 t3 s0 s1
    go_wp2_with fail
    go_loopw [15, 16] (fun ss ii wr => ∃ (k : Nat) (b : Bool), k ≤ Y.length ∧ ii = .int .i64 k ∧ ss = .bool b ∧ ((⟨bi, bl, bh, bc⟩ : Way) ∈ Y.take k → b = true) ∧ Below w12.heap.size w12 wr) (fun _ ii _ => Y.length - (intOf ii).toNat)
    case atStart => exact ⟨0, false, by omega, rfl, rfl, fun h => by simp at h, Below.refl _ _⟩
    case round =>
      obtain ⟨k, b, hk, rfl, rfl, hb, hbr⟩ := hrel
      have BR := Lib.hid hbr
      have HB := Lib.hid hb
      have HPr := Lib.hid ((hbr.block _ (lt_of_block HP12.out)).trans HP12.out)
      clear hbr hb
      by_cases hlt : k < Y.length
      · obtain ⟨_, _, _, hyr⟩ := (HY.out.below BR.out).row
        obtain ⟨bY, oY, rfl, _, hbY⟩ := hyr.addr (by intro e; rw [e] at hlt; cases hlt)
        obtain ⟨y0, y1, y2, y3⟩ := hyr.way k hlt
        have hmin := HBE.out.2 Y[k] (List.getElem_mem hlt)
        have htk : Y.take (k + 1) = Y.take k ++ [Y[k]] := List.take_succ_eq_append_getElem hlt
        obtain ⟨y, hy⟩ : ∃ y, y = Y[k] := ⟨_, rfl⟩
        rw [← hy] at y0 y1 y2 y3 hmin htk
        obtain ⟨yi, yl, yh, yc⟩ := y
        have HTK := Lib.hid htk
        have hmin' : ¬ (yc < bc) := by have : bc ≤ yc := hmin; omega
        have p0 := cells_of HPr.out 0
        have p1 := cells_of HPr.out 1
        have p2 := cells_of HPr.out 2
        have p3 := cells_of HPr.out 3
        have p9 := cells_of HPr.out 9
        simp only [List.getElem?_toArray, List.getElem?_cons_zero, List.getElem?_cons_succ] at p0 p1 p2 p3 p9
        simp only at y0 y1 y2 y3
        clear hyr hy hmin htk
        by_cases hyb : (⟨yi, yl, yh, yc⟩ : Way) = ⟨bi, bl, bh, bc⟩
        · simp only [Way.mk.injEq] at hyb
          obtain ⟨rfl, rfl, rfl, rfl⟩ := hyb
          cases b
          all_goals
            go_wp2_with fail
            go_quiet (fail)
            go_wp2_with fail
            go_quiet (fail)
            go_wp2_with fail
            go_roundw
            case rel => exact ⟨k + 1, _, by omega, by go_num, rfl, fun _ => rfl, below_drewN BR.out _⟩
            case measure => simp [intOf]; omega
        · have HYB := Lib.hid hyb
          have hwe := way_neq ⟨yi, yl, yh, yc⟩ ⟨bi, bl, bh, bc⟩ hyb
          simp only at hwe
          clear hyb
          cases b
          · go_wp2_with fail
            go_quiet (fail)
            go_wp2_with fail
            go_quiet (fail)
            go_wp2_with fail
            go_roundw
            case rel => exact ⟨k + 1, _, by omega, by go_num, rfl, fun h => by
              rw [HTK.out] at h
              rcases List.mem_append.1 h with h | h
              · exact absurd (HB.out h) (by simp)
              · exact absurd (List.mem_singleton.1 h).symm HYB.out, below_drewN BR.out _⟩
            case measure => simp [intOf]; omega
          · go_wp2_with fail
            go_quiet (fail)
            go_wp2_with fail
            go_quiet (fail)
            go_wp2_with fail
            go_roundw
            case rel => exact ⟨k + 1, _, by omega, by go_num, rfl, fun _ => rfl, below_drewN BR.out _⟩
            case measure => simp [intOf]; omega
      · have hkl : k = Y.length := by omega
        subst hkl
        have hb := HB.out
        rw [List.take_length] at hb
        have hb2 := hb HBE.out.1
        subst hb2
        clear hb hlt
        have B13 := Lib.hid (B12.out.trans (BR.out.mono B12.out.size))
        have HTr := Lib.hid ((BR.out.block _ (lt_of_block HT12.out)).trans HT12.out)
        have HTVr := Lib.hid (HTV12.out.below BR.out)
        have HSMr := Lib.hid (HSM12.out.below BR.out)
        have HRr := Lib.hid (HR12.out.below BR.out)
        have HEr := Lib.hid (HE12.out.below BR.out)
        have t0 := cells_of HTr.out 0
        have t1 := cells_of HTr.out 1
        have t2 := cells_of HTr.out 2
        have t3 := cells_of HTr.out 3
        simp only [List.getElem?_toArray, List.getElem?_cons_zero, List.getElem?_cons_succ] at t0 t1 t2 t3
        go_wp2_with fail
        refine (row_any HTVr.out HRr.out HG.out.kind (by have := HG.out.c1; omega)).mono ?_
        rintro e w14 ⟨⟨rv, rfl, ar, cr, rfl, h2⟩, b14⟩
        obtain ⟨r, hre⟩ : ∃ r, r = rowV T R := ⟨_, rfl⟩
        rw [← hre] at h2 ⊢
        have HRW := Lib.hid h2
        have HRE := Lib.hid hre
        have HOK := Lib.hid (show RowOk T r from by rw [hre]; exact row_ok HG.out R)
        have B14 := Lib.hid (B13.out.trans (b14.mono B13.out.size))
        have HT14 := Lib.hid ((b14.block _ (lt_of_block HTr.out)).trans HTr.out)
        have HP14 := Lib.hid ((b14.block _ (lt_of_block HPr.out)).trans HPr.out)
        have HTV14 := Lib.hid (HTVr.out.below b14)
        have HSM14 := Lib.hid (HSMr.out.below b14)
        have HE14 := Lib.hid (HEr.out.below b14)
        clear h2 hre b14 t0 t1 t2 t3
        have t0 := cells_of HT14.out 0
        have t1 := cells_of HT14.out 1
        have t2 := cells_of HT14.out 2
        have t3 := cells_of HT14.out 3
        simp only [List.getElem?_toArray, List.getElem?_cons_zero, List.getElem?_cons_succ] at t0 t1 t2 t3
        go_wp2_with fail
        refine (rfits_any HTV14.out ar cr r HRW.out (fun v hv => by have := row_str HG.out R v (by rw [← HRE.out]; exact hv); omega) aM cM M HSM14.out).mono ?_
        rintro e w15 ⟨rfl, b15⟩
        have hfc : fitsR T r M = true → coversOf T ⟨bi, bl, bh, bc⟩ r = true := fun h => ways_cover S HOK.out HMI.out.2 h _ (by rw [← HYE.out]; exact HBE.out.1)
        generalize fitsR T r M = f at hfc ⊢
        have B15 := Lib.hid (B14.out.trans (b15.mono B14.out.size))
        have HT15 := Lib.hid ((b15.block _ (lt_of_block HT14.out)).trans HT14.out)
        have HP15 := Lib.hid ((b15.block _ (lt_of_block HP14.out)).trans HP14.out)
        have HTV15 := Lib.hid (HTV14.out.below b15)
        have HRW15 := Lib.hid (HRW.out.below b15)
        have HE15 := Lib.hid (HE14.out.below b15)
        have BX := Lib.hid (B1.out.trans (B15.out.mono B1.out.size))
        clear b15 t0 t1 t2 t3
        have p0 := cells_of HP15.out 0
        have p1 := cells_of HP15.out 1
        have p2 := cells_of HP15.out 2
        have p3 := cells_of HP15.out 3
        have p8 := cells_of HP15.out 8
        have p9 := cells_of HP15.out 9
        simp only [List.getElem?_toArray, List.getElem?_cons_zero, List.getElem?_cons_succ] at p0 p1 p2 p3 p8 p9
        cases f
        · clear hfc
          go_wp2_with fail
          go_ret
          exact ⟨rfl, BX.out⟩
        · have HCV := Lib.hid (hfc rfl)
          clear hfc
          have t0 := cells_of HT15.out 0
          have t1 := cells_of HT15.out 1
          have t2 := cells_of HT15.out 2
          have t3 := cells_of HT15.out 3
          simp only [List.getElem?_toArray, List.getElem?_cons_zero, List.getElem?_cons_succ] at t0 t1 t2 t3
          go_wp2_with fail
          refine (covers_any HTV15.out ⟨bi, bl, bh, bc⟩ _ ar cr r HRW15.out (fun v hv => (HOK.out.ok v hv).2) HE15.out ⟨_, _, _, rfl⟩).mono ?_
          rintro e w16 ⟨rfl, b16⟩
          rw [HCV.out]
          have BZ := Lib.hid (BX.out.trans (b16.mono BX.out.size))
          clear b16 t0 t1 t2 t3
          go_wp2_with fail
          go_ret
          exact ⟨rfl, BZ.out⟩
end Go.Proofs.YtajlngkakpjncaaDoor
