/- PlanCovers: the walk of the law. -/
import Derived.Test.YtajlngkakpjncaaDoorOrdWalk
import Derived.Test.YtajlngkakpjncaaDoorFitsPlain
namespace Go.Proofs.YtajlngkakpjncaaDoor
set_option linter.unusedVariables false
set_option linter.unusedSimpArgs false
open Go.RowKit

/-- a slice of slices of integers -/
def RowsV (w : World) (aR : Option Addr) (n : Nat) : Prop :=
  n = 0 ∨ ∃ b off, aR = some ⟨b, off, none⟩ ∧ b < w.heap.size ∧ ∀ i, i < n → ∃ a cap Z, w.cell? ⟨b, off + i, none⟩ = some (.slice a (List.length Z) cap) ∧ SlV intR (fun _ => True) w (.slice a Z.length cap) Z
theorem RowsV.below {w w' : World} {aR : Option Addr} {n : Nat} (h : RowsV w aR n) (hb : Below w.heap.size w w') : RowsV w' aR n := by
  rcases h with h | ⟨b, off, h1, h2, h3⟩
  · exact Or.inl h
  · refine Or.inr ⟨b, off, h1, Nat.lt_of_lt_of_le h2 hb.size, fun i hi => ?_⟩
    obtain ⟨a, cap, Z, h4, h5⟩ := h3 i hi
    exact ⟨a, cap, Z, (hb.cell (p := ⟨b, off + i, none⟩) h2).trans h4, h5.below hb⟩

theorem valOf_ok (n : Int) : rightB (valOf n) = true ∧ (valOf n).s.size ≤ 40 := by
  have h1 : ∀ z, (oneS z).size = 1 := fun _ => rfl
  have h2 : ∀ z, (longS ++ oneS z).size = 17 := fun z => by rw [ByteArray.size_append, h1]; rfl
  have h0 : noStr.size = 0 := rfl
  unfold valOf
  simp only
  split
  · simp [rightB, knownB, h0]
  · split
    · simp [rightB, knownB, h1]
    · split
      · simp [rightB, knownB, h2]
      · split
        · simp [rightB, knownB, h0]
        · simp [rightB, knownB, h0]
theorem rowV_ok (T : Tab) (Z : List Int) : ∀ v ∈ rowV T Z, rightB v = true ∧ v.s.size ≤ 40 := by
  intro v hv
  simp only [rowV, rowTo, List.mem_map, List.mem_range] at hv
  obtain ⟨i, hi, rfl⟩ := hv
  unfold rowOne
  split
  · exact valOf_ok _
  · split
    · exact valOf_ok _
    · exact ⟨by decide, by decide⟩
theorem row_str {T : Tab} (_ : GoodT false T) (Z : List Int) : ∀ v ∈ rowV T Z, v.s.size ≤ 40 := fun v hv => (rowV_ok T Z v hv).2
theorem row_ok {T : Tab} (hG : GoodT false T) (Z : List Int) : RowOk T (rowV T Z) := by
  refine ⟨by rw [rowV, rowTo_len], fun v hv => ⟨(rowV_ok T Z v hv).1, row_fine T Z hG.kind v hv⟩, fun c h0 h1 => ?_⟩
  obtain ⟨n, rfl⟩ : ∃ n : Nat, c = n := ⟨c.toNat, by omega⟩
  have hn : n < T.cols.length := by omega
  have hc1 := hG.c1
  have hnm : nameAt T n = T.cols[n].1 := by
    unfold nameAt
    rw [Int.toNat_natCast, List.getD_eq_getElem?_getD, List.getElem?_eq_getElem hn]
    rfl
  rw [hnm]
  unfold colOf
  refine idxOf_hit hn ((sEq_iff _ _).2 rfl) (fun t ht => ?_)
  cases h : sEq (T.cols[t]'(by omega)).1 T.cols[n].1
  · rfl
  · have e := (sEq_iff _ _).1 h
    rw [hG.name t (by omega), hG.name n hn] at e
    have hb : baseC false = 97 := rfl
    have := oneS_inj ⟨by rw [hb]; omega, by rw [hb]; omega⟩ ⟨by rw [hb]; omega, by rw [hb]; omega⟩ e
    exact absurd this (by omega)

set_option maxRecDepth 100000 in
set_option maxHeartbeats 16000000 in
theorem cov_walk {p1 p2 p3 : Nat → Prop} {aT aU aW aV aR : Option Addr} {nU nR cT cU cW cV cR : Nat} {LT LV LW : List Int} {r0 r1 : Int} {w : World} (hT : SlV intR p1 w (.slice aT LT.length cT) LT) (hV : SlV intR p2 w (.slice aV LV.length cV) LV) (hL : SlV intR p3 w (.slice aW LW.length cW) LW)
    (hf : ∀ x ∈ LW, -9223372036854775808 ≤ x ∧ x ≤ 9223372036854775807) (hR : RowsV w aR nR) (hn : nR ≤ 140737488355328) (he : Env w) :
    Calls Tryd.prog 5 #[.agg #[.slice aT LT.length cT, .slice aU nU cU, .slice aW LW.length cW, .slice aV LV.length cV, .int .i64 r0, .int .i64 r1], .slice aR nR cR] w
      fun e w' => e = .returned (.bool true) ∧ Below w.heap.size w w' := by
  obtain ⟨W1, hW1⟩ : ∃ W1, w.alloc (.cells #[.slice aT LT.length cT, .slice aU nU cU, .slice aW LW.length cW, .slice aV LV.length cV, .int .i64 r0, .int .i64 r1] 25) = W1 := ⟨_, rfl⟩
  have hb1 : Below w.heap.size w W1 := by rw [← hW1]; exact (Below.refl _ _).alloc (Nat.le_refl _) _
  have hq : W1.heap[w.heap.size]? = some (.cells #[.slice aT LT.length cT, .slice aU nU cU, .slice aW LW.length cW, .slice aV LV.length cV, .int .i64 r0, .int .i64 r1] 25 (0, 0)) := by rw [← hW1]; exact heap_alloc_new _ _
  have hsz : W1.heap.size = w.heap.size + 1 := by rw [← hW1]; simp
  have HT := Lib.hid (hT.below hb1)
  have HV := Lib.hid (hV.below hb1)
  have HL := Lib.hid (hL.below hb1)
  have HR := Lib.hid (hR.below hb1)
  have HE := Lib.hid (he.below hb1)
  have HF := Lib.hid hf
  have HQ := Lib.hid hq
  have B1 := Lib.hid hb1
  have S1 := Lib.hid hsz
  clear hT hV hL hR hf he hq hb1 hsz
  go_enter Tryd.func5, Tryd.ntmps5
  go_upto_region 1 with (fail)
  clear hW1
  go_wp2_with fail
  refine (sanity_any HE.out).mono ?_
  rintro e w2 ⟨rfl, b2⟩
  have B2 := Lib.hid b2
  have q0 := (b2.cell (p := ⟨w.heap.size, 0, none⟩) (by rw [S1.out]; exact Nat.lt_succ_self _)).trans (cells_of HQ.out 0)
  simp only [List.getElem?_toArray, List.getElem?_cons_zero] at q0
  clear b2
  go_wp2_with fail
  refine (table_any false (HT.out.below B2.out)).mono ?_
  rintro e w3 ⟨⟨T, tv, rfl, hTV, hG⟩, b3⟩
  obtain ⟨ac, cc, ai, ci, rfl, h1, h2⟩ := hTV
  have B3 := Lib.hid (B2.out.trans (b3.mono B2.out.size))
  have HTV := Lib.hid (show TabV (fun k => w2.heap.size ≤ k) w3 (.agg #[.int .i64 T.id, .string T.name, .slice ac T.cols.length cc, .slice ai T.idx.length ci]) T from ⟨ac, cc, ai, ci, rfl, h1, h2⟩)
  have HG := Lib.hid hG
  clear h1 h2 hG b3 q0
  go_upto_region 3 with (fail)
  generalize hW4 : World.alloc _ _ = W4
  have hb4 : Below w3.heap.size w3 W4 := by rw [← hW4]; exact (Below.refl _ _).alloc (Nat.le_refl _) _
  have hT4 : W4.heap[w3.heap.size]? = some (.cells #[.int .i64 T.id, .string T.name, .slice ac T.cols.length cc, .slice ai T.idx.length ci] 30 (0, 0)) := by rw [← hW4]; exact heap_alloc_new _ _
  have B4 := Lib.hid (B3.out.trans (hb4.mono B3.out.size))
  have HT4 := Lib.hid hT4
  have HTV4 := Lib.hid (HTV.out.below hb4)
  have HQ4 := Lib.hid ((B4.out.block w.heap.size (by rw [S1.out]; exact Nat.lt_succ_self _)).trans HQ.out)
  have q2 := cells_of HQ4.out 2
  simp only [List.getElem?_toArray, List.getElem?_cons_zero, List.getElem?_cons_succ] at q2
  obtain ⟨bt, hbt⟩ : ∃ bt, bt = w3.heap.size := ⟨_, rfl⟩
  rw [← hbt] at HT4 ⊢
  clear hW4 hb4 hT4 hbt
  go_wp2_with fail
  refine (where_any (HL.out.below B4.out) HF.out).mono ?_
  rintro e w5 ⟨⟨cv, rfl, aw, cw, rfl, hSL⟩, b5⟩
  obtain ⟨C, hC⟩ : ∃ C, C = wherV LW := ⟨_, rfl⟩
  rw [← hC] at hSL ⊢
  have B5 := Lib.hid (B4.out.trans (b5.mono B4.out.size))
  have HSL := Lib.hid hSL
  have HC := Lib.hid hC
  have HT5 := Lib.hid ((b5.block _ (lt_of_block HT4.out)).trans HT4.out)
  have HQ5 := Lib.hid ((b5.block _ (lt_of_block HQ4.out)).trans HQ4.out)
  have HTV5 := Lib.hid (HTV4.out.below b5)
  have HV5 := Lib.hid (HV.out.below B5.out)
  have HE5 := Lib.hid (HE.out.below B5.out)
  have HR5 := Lib.hid (HR.out.below B5.out)
  have hcl : C.length ≤ 6 := by rw [hC]; unfold wherV; rw [wherTo_len]; omega
  have HCF := Lib.hid (show ∀ c ∈ C, c.val.fine from fun c hc => by
    rw [hC] at hc
    simp only [wherV, wherTo, List.mem_map, List.mem_range] at hc
    obtain ⟨i, hi, rfl⟩ := hc
    refine valOf_fine _ ?_
    rw [List.getD_eq_getElem?_getD]
    cases h : LW[3 * i + 2]? with
    | none => exact ⟨by decide, by decide⟩
    | some x => exact HF.out x (List.mem_of_getElem? h))
  clear hSL b5 hC q2
  obtain ⟨S, hS⟩ : ∃ S : Sta, S = ⟨r0, LV.take 12⟩ := ⟨_, rfl⟩
  obtain ⟨nS, hnS⟩ : ∃ nS, (LV.take 12).length = nS := ⟨_, rfl⟩
  have HSTA := Lib.hid (show StaV p2 w5 (.agg #[.int .i64 r0, .slice aV nS cV]) S from by
    have hS5 := HV5.out.take (n := min 12 LV.length) (by omega)
    rw [show LV.take (min 12 LV.length) = LV.take 12 from by rw [List.take_eq_take_iff]; omega, hnS] at hS5
    rw [hS]
    exact staV_of (S := ⟨r0, LV.take 12⟩) hS5)
  have HNS := Lib.hid hnS
  clear hS hnS
  have h1i := HG.out.i1
  go_upto_region 4 with (fail)
  apply wp_region_grow [21, 22, 23, 24, 25, 26]
    [fun _ u _ => u = .agg #[.int .i64 T.id, .string T.name, .slice ac T.cols.length cc, .slice ai T.idx.length ci],
     fun _ u _ => u = .agg #[.slice aT LT.length cT, .slice aU nU cU, .slice aW LW.length cW, .slice aV LV.length cV, .int .i64 r0, .int .i64 r1],
     fun _ u _ => ∃ a n c, u = .agg #[.int .i64 r0, .slice aV nS cV, .int .i64 r1, .slice a n c],
     fun _ u _ => u = .agg #[.int .i64 r0, .slice aV nS cV],
     fun _ u _ => u = .slice aw C.length cw,
     fun _ u w' => SlV wayR (fun k => w5.heap.size ≤ k) w' u (waysOf T S C)]
    (Below w5.heap.size w5)
  case hF =>
    intro v
    simp only [setAll, List.foldl_cons, List.foldl_nil, Act.put, List.setIfInBounds_toArray, List.set_cons_succ, List.set_cons_zero]
    exact rfl
  case hm => kernel_rfl
  case hB => kernel_rfl
  case hsz => kernel_rfl
  case hC => exact fun w1 w2 h b => h.trans (b.mono h.size)
  case hw => exact Below.drew (Below.refl _ _)
  case hS =>
    intro D hD v u
    simp only [List.mem_cons, List.not_mem_nil, or_false] at hD
    rcases hD with rfl | rfl | rfl | rfl | rfl | rfl
    · exact fun w1 w2 h _ => h
    · exact fun w1 w2 h _ => h
    · exact fun w1 w2 h _ => h
    · exact fun w1 w2 h _ => h
    · exact fun w1 w2 h _ => h
    · exact fun w1 w2 h hb => h.below hb
  case hob =>
    apply grow_cons
    · intro v w1 h1 hd
      clear hd
      have hk := (h1.block _ (lt_of_block HT5.out)).trans HT5.out
      have t0 := cells_of hk 0
      have t1 := cells_of hk 1
      have t2 := cells_of hk 2
      have t3 := cells_of hk 3
      simp only [List.getElem?_toArray, List.getElem?_cons_zero, List.getElem?_cons_succ] at t0 t1 t2 t3
      clear hk
      go_wp2_with fail
      exact Below.refl _ _
    apply grow_cons
    · intro v w1 h1 hd
      clear hd
      have hk := (h1.block _ (lt_of_block HQ5.out)).trans HQ5.out
      have t0 := cells_of hk 0
      have t1 := cells_of hk 1
      have t2 := cells_of hk 2
      have t3 := cells_of hk 3
      have t4 := cells_of hk 4
      have t5 := cells_of hk 5
      simp only [List.getElem?_toArray, List.getElem?_cons_zero, List.getElem?_cons_succ] at t0 t1 t2 t3 t4 t5
      clear hk
      go_wp2_with fail
      exact Below.refl _ _
    apply grow_cons
    · intro v w1 h1 hd
      have g : v 22 = .agg #[.slice aT LT.length cT, .slice aU nU cU, .slice aW LW.length cW, .slice aV LV.length cV, .int .i64 r0, .int .i64 r1] := hd 1 _ _ _ rfl rfl rfl rfl
      clear hd
      rw [g]
      have H1 := Lib.hid h1
      clear g h1
      go_wp2_with fail
      refine (stats_any (HV5.out.below H1.out)).mono ?_
      rintro e w6 ⟨⟨sa, sn, sc, rfl⟩, b6⟩
      rw [HNS.out]
      go_wp2_with fail
      all_goals exact b6
    apply grow_cons
    · intro v w1 h1 hd
      obtain ⟨sa, sn, sc, g⟩ : ∃ a n c, v 23 = .agg #[.int .i64 r0, .slice aV nS cV, .int .i64 r1, .slice a n c] := hd 2 _ _ _ rfl rfl rfl rfl
      clear hd
      rw [g]
      have hix := index_sta r0 r1 aV sa nS cV sn sc w1
      clear g
      go_wp2_with fail
      exact Below.refl _ _
    apply grow_cons
    · intro v w1 h1 hd
      clear hd
      go_wp2_with fail
      all_goals exact Below.refl _ _
    apply grow_cons
    · intro v w1 h1 hd
      have g1 : v 21 = .agg #[.int .i64 T.id, .string T.name, .slice ac T.cols.length cc, .slice ai T.idx.length ci] := hd 0 _ _ _ rfl rfl rfl rfl
      have g2 : v 24 = .agg #[.int .i64 r0, .slice aV nS cV] := hd 3 _ _ _ rfl rfl rfl rfl
      have g3 : v 25 = .slice aw C.length cw := hd 4 _ _ _ rfl rfl rfl rfl
      clear hd
      rw [g1, g2, g3]
      have H1 := Lib.hid h1
      clear g1 g2 g3 h1
      go_wp2_with fail
      refine (ways_any (HTV5.out.below H1.out) (HSTA.out.below H1.out) (HSL.out.below H1.out) HCF.out (HE5.out.below H1.out) (by omega)).mono ?_
      rintro e w6 ⟨⟨a, cap, rfl, h2⟩, h3⟩
      go_wp2_with fail
      first | exact h2.weaken fun _ h => Nat.le_trans H1.out.size h | exact ⟨h3, h2.weaken fun _ h => Nat.le_trans H1.out.size h⟩
    exact grow_nil
  case hend =>
    intro v w6 h1 hd o ho
    obtain rfl := Option.some.inj (ho : some _ = some o)
    obtain ⟨ay, cy, g26, hy⟩ := SlV.shape' (show SlV wayR (fun k => w5.heap.size ≤ k) w6 (v 26) (waysOf T S C) from hd 5 _ _ _ rfl rfl rfl)
    clear hd ho
    rw [g26]
    obtain ⟨Y, hY⟩ : ∃ Y, Y = waysOf T S C := ⟨_, rfl⟩
    rw [← hY] at hy ⊢
    have HY := Lib.hid hy
    have HYE := Lib.hid hY
    have B6 := Lib.hid h1
    clear g26 hy hY h1
    generalize v 21 = y21, v 22 = y22, v 23 = y23, v 24 = y24, v 25 = y25
    have hyl : Y.length = T.idx.length + 1 := by rw [HYE.out]; simp [waysOf]
    have HYL := Lib.hid hyl
    have hyl2 : Y.length ≤ 5 := by omega
    clear hyl
    go_wp2_with fail
    go_loopw [9] (fun i wr => ∃ k : Nat, k ≤ nR ∧ k ≤ 20 ∧ i = .int .i64 k ∧ Below w6.heap.size w6 wr) (fun i _ => nR - (intOf i).toNat)
    case atStart => exact ⟨0, by omega, by omega, rfl, Below.refl _ _⟩
    case round =>
      obtain ⟨k, hk, hk20, rfl, hbr⟩ := hrel
      have BR := Lib.hid (B6.out.trans (hbr.mono B6.out.size))
      have BR6 := Lib.hid hbr
      clear hbr
      by_cases hlt : k < nR ∧ k < 20
      · obtain ⟨hlt, hlt2⟩ := hlt
        have hRr := HR5.out.below BR.out
        obtain ⟨b, off, rfl, hbl, hel⟩ : ∃ b off, aR = some ⟨b, off, none⟩ ∧ b < wr.heap.size ∧ ∀ i, i < nR → ∃ a cap Z, wr.cell? ⟨b, off + i, none⟩ = some (.slice a (List.length Z) cap) ∧ SlV intR (fun _ => True) wr (.slice a Z.length cap) Z := by
          rcases hRr with h | h
          · omega
          · exact h
        obtain ⟨a, cap, Z, hz1, hz2⟩ := hel k hlt
        have HZ1 := Lib.hid hz1
        have HZ2 := Lib.hid hz2
        have HTr := Lib.hid ((BR.out.block _ (lt_of_block HT5.out)).trans HT5.out)
        clear hRr hel hz1 hz2
        go_upto_region 8 with (fail)
        apply wp_region_grow [37, 38, 39, 40, 41, 42]
          [fun _ u _ => u = .agg #[.int .i64 T.id, .string T.name, .slice ac T.cols.length cc, .slice ai T.idx.length ci],
           fun _ u _ => u = .slice (some ⟨b, off, none⟩) nR cR,
           fun _ u _ => u = .int .i64 k,
           fun _ u _ => u = .pointer (some ⟨b, off + k, none⟩),
           fun _ u _ => u = .slice a Z.length cap,
           fun _ u w' => SlV valR (fun k => wr.heap.size ≤ k) w' u (rowV T Z)]
          (Below wr.heap.size wr)
        case hF =>
          intro v
          simp only [setAll, List.foldl_cons, List.foldl_nil, Act.put, List.setIfInBounds_toArray, List.set_cons_succ, List.set_cons_zero]
          exact rfl
        case hm => kernel_rfl
        case hB => kernel_rfl
        case hsz => kernel_rfl
        case hC => exact fun w1 w2 h b => h.trans (b.mono h.size)
        case hw => exact Below.drew (Below.refl _ _)
        case hS =>
          intro D hD v u
          simp only [List.mem_cons, List.not_mem_nil, or_false] at hD
          rcases hD with rfl | rfl | rfl | rfl | rfl | rfl
          · exact fun w1 w2 h _ => h
          · exact fun w1 w2 h _ => h
          · exact fun w1 w2 h _ => h
          · exact fun w1 w2 h _ => h
          · exact fun w1 w2 h _ => h
          · exact fun w1 w2 h hb => h.below hb
        case hob =>
          apply grow_cons
          · intro v w1 h1 hd
            clear hd
            have hk := (h1.block _ (lt_of_block HTr.out)).trans HTr.out
            have t0 := cells_of hk 0
            have t1 := cells_of hk 1
            have t2 := cells_of hk 2
            have t3 := cells_of hk 3
            simp only [List.getElem?_toArray, List.getElem?_cons_zero, List.getElem?_cons_succ] at t0 t1 t2 t3
            clear hk
            go_wp2_with fail
            all_goals exact Below.refl _ _
          apply grow_cons
          · intro v w1 h1 hd
            clear hd
            go_wp2_with fail
            all_goals exact Below.refl _ _
          apply grow_cons
          · intro v w1 h1 hd
            clear hd
            go_wp2_with fail
            all_goals exact Below.refl _ _
          apply grow_cons
          · intro v w1 h1 hd
            have g1 : v 38 = .slice (some ⟨b, off, none⟩) nR cR := hd 1 _ _ _ rfl rfl rfl rfl
            have g2 : v 39 = .int .i64 k := hd 2 _ _ _ rfl rfl rfl rfl
            clear hd
            rw [g1, g2]
            clear g1 g2
            go_wp2_with fail
            all_goals exact Below.refl _ _
          apply grow_cons
          · intro v w1 h1 hd
            have g1 : v 40 = .pointer (some ⟨b, off + k, none⟩) := hd 3 _ _ _ rfl rfl rfl rfl
            clear hd
            rw [g1]
            have z1 := (h1.cell (p := ⟨b, off + k, none⟩) hbl).trans HZ1.out
            clear g1
            go_wp2_with fail
            all_goals exact Below.refl _ _
          apply grow_cons
          · intro v w1 h1 hd
            have g1 : v 37 = .agg #[.int .i64 T.id, .string T.name, .slice ac T.cols.length cc, .slice ai T.idx.length ci] := hd 0 _ _ _ rfl rfl rfl rfl
            have g2 : v 41 = .slice a Z.length cap := hd 4 _ _ _ rfl rfl rfl rfl
            clear hd
            rw [g1, g2]
            have H1 := Lib.hid h1
            clear g1 g2 h1
            go_wp2_with fail
            refine (row_any (HTV5.out.below (BR.out.trans (H1.out.mono BR.out.size))) (HZ2.out.below H1.out) HG.out.kind (by have := HG.out.c1; omega)).mono ?_
            rintro e w7 ⟨⟨rv, rfl, ar, cr, rfl, h2⟩, h3⟩
            go_wp2_with fail
            first | exact h2.weaken fun _ h => Nat.le_trans H1.out.size h | exact ⟨h3, h2.weaken fun _ h => Nat.le_trans H1.out.size h⟩
          exact grow_nil
        case hend =>
          intro v w7 h1 hd o ho
          obtain rfl := Option.some.inj (ho : some _ = some o)
          obtain ⟨ar, cr, g42, hr⟩ := SlV.shape' (show SlV valR (fun k => wr.heap.size ≤ k) w7 (v 42) (rowV T Z) from hd 5 _ _ _ rfl rfl rfl)
          clear hd ho
          rw [g42]
          obtain ⟨r, hre⟩ : ∃ r, r = rowV T Z := ⟨_, rfl⟩
          rw [← hre] at hr ⊢
          have HRW := Lib.hid hr
          have HRE := Lib.hid hre
          have B7 := Lib.hid (BR.out.trans (h1.mono BR.out.size))
          have BR7 := Lib.hid (BR6.out.trans (h1.mono BR6.out.size))
          clear g42 hr hre h1
          generalize v 37 = y37, v 38 = y38, v 39 = y39, v 40 = y40, v 41 = y41
          have hok : RowOk T r := by rw [HRE.out]; exact row_ok HG.out Z
          have HOK := Lib.hid hok
          have hk7 := (B7.out.block _ (lt_of_block HT5.out)).trans HT5.out
          have t0 := cells_of hk7 0
          have t1 := cells_of hk7 1
          have t2 := cells_of hk7 2
          have t3 := cells_of hk7 3
          simp only [List.getElem?_toArray, List.getElem?_cons_zero, List.getElem?_cons_succ] at t0 t1 t2 t3
          clear hok hk7
          go_wp2_with fail
          refine (rfits_any (HTV5.out.below B7.out) ar cr r HRW.out (fun v hv => by have := row_str HG.out Z v (by rw [← HRE.out]; exact hv); omega) aw cw C (HSL.out.below B7.out)).mono ?_
          rintro e w8 ⟨rfl, b8⟩
          have hfc : fitsR T r C = true → ∀ x ∈ Y, coversOf T x r = true := fun h => by rw [HYE.out]; exact ways_cover S HOK.out HCF.out h
          generalize fitsR T r C = f at hfc ⊢
          have HFC := Lib.hid hfc
          have B8 := Lib.hid (B7.out.trans (b8.mono B7.out.size))
          have BR8 := Lib.hid (BR7.out.trans (b8.mono BR7.out.size))
          have HRW8 := Lib.hid (HRW.out.below b8)
          clear hfc b8 t0 t1 t2 t3
          obtain ⟨wo, hwo⟩ : ∃ wo, wo = wr := ⟨_, rfl⟩
          subst hwo
          go_wp2_with fail
          go_loopw [12] (fun i wr => ∃ j : Nat, j ≤ Y.length ∧ i = .int .i64 j ∧ Below w8.heap.size w8 wr) (fun i _ => Y.length - (intOf i).toNat)
          case atStart => exact ⟨0, by omega, rfl, Below.refl _ _⟩
          case round =>
            obtain ⟨j, hj, rfl, hbi⟩ := hrel
            have BI := Lib.hid hbi
            have B5I := Lib.hid (B8.out.trans (hbi.mono B8.out.size))
            have B6I := Lib.hid (BR8.out.trans (hbi.mono BR8.out.size))
            clear hbi
            by_cases hjl : j < Y.length
            · obtain ⟨_, _, _, hyr⟩ := (HY.out.below B6I.out).row
              obtain ⟨bY, oY, rfl, _, hbY⟩ := hyr.addr (by intro e; rw [e] at hjl; cases hjl)
              obtain ⟨y0, y1, y2, y3⟩ := hyr.way j hjl
              have hcv := fun h => HFC.out h Y[j] (List.getElem_mem hjl)
              obtain ⟨y, hy⟩ : ∃ y, y = Y[j] := ⟨_, rfl⟩
              rw [← hy] at y0 y1 y2 y3 hcv
              obtain ⟨yi, yl, yh, yc⟩ := y
              have Y0 := Lib.hid y0
              have Y1 := Lib.hid y1
              have Y2 := Lib.hid y2
              have Y3 := Lib.hid y3
              have HTI := Lib.hid ((B5I.out.block _ (lt_of_block HT5.out)).trans HT5.out)
              obtain ⟨cb, hcb⟩ : ∃ cb, coversOf T ⟨yi, yl, yh, yc⟩ r = cb := ⟨_, rfl⟩
              rw [hcb] at hcv
              have HCB := Lib.hid hcb
              have HCV := Lib.hid hcv
              clear hyr y0 y1 y2 y3 hy hcb hcv
              go_upto_region 13 with (fail)
              refine wp_region_class (Below wr.heap.size wr) (by kernel_rfl) (by kernel_rfl) (Below.drew (Below.refl _ _)) (fun ne => ?_)
              have hgo : ∀ x : Wld (Below wr.heap.size wr), Below w5.heap.size w5 x.val ∧ Below w8.heap.size w8 x.val := fun x => ⟨B5I.out.trans (x.good.mono B5I.out.size), BI.out.trans (x.good.mono BI.out.size)⟩
              have e0 := fun x : Wld (Below wr.heap.size wr) => (x.good.cell (p := ⟨bY, oY + j * 4, none⟩) hbY).trans Y0.out
              have e1 := fun x : Wld (Below wr.heap.size wr) => (x.good.cell (p := ⟨bY, oY + j * 4 + 1, none⟩) hbY).trans Y1.out
              have e2 := fun x : Wld (Below wr.heap.size wr) => (x.good.cell (p := ⟨bY, oY + j * 4 + 2, none⟩) hbY).trans Y2.out
              have e3 := fun x : Wld (Below wr.heap.size wr) => (x.good.cell (p := ⟨bY, oY + j * 4 + 3, none⟩) hbY).trans Y3.out
              have hkx : ∀ x : Wld (Below wr.heap.size wr), x.val.heap[bt]? = _ := fun x => (x.good.block _ (lt_of_block HTI.out)).trans HTI.out
              have d0 := fun x : Wld (Below wr.heap.size wr) => cells_of (hkx x) 0
              have d1 := fun x : Wld (Below wr.heap.size wr) => cells_of (hkx x) 1
              have d2 := fun x : Wld (Below wr.heap.size wr) => cells_of (hkx x) 2
              have d3 := fun x : Wld (Below wr.heap.size wr) => cells_of (hkx x) 3
              simp only [List.getElem?_toArray, List.getElem?_cons_zero, List.getElem?_cons_succ] at d0 d1 d2 d3
              have HGO := Lib.hid hgo
              clear hgo hkx
              repeat (go_big_quiet_step ((go_at_call 20; (refine Calls.mono (covers_any (HTV5.out.below (HGO.out _).1) ⟨yi, yl, yh, yc⟩ _ ar cr r (HRW8.out.below (HGO.out _).2) (fun v hv => (HOK.out.ok v hv).2) (HE5.out.below (HGO.out _).1) ⟨_, _, _, rfl⟩) ?_); rintro e w2 ⟨rfl, b2⟩; exact ⟨congrArg (fun q => Ending.returned (Value.bool q)) HCB.out, class_below _ b2 (Nat.le_refl _)⟩)))
              refine wpQuiet_nil ?_
              intro w9 b9
              clear e0 e1 e2 e3 d0 d1 d2 d3 ne HGO
              have BI9 := Lib.hid (BI.out.trans (b9.mono BI.out.size))
              have B59 := Lib.hid (B5I.out.trans (b9.mono B5I.out.size))
              have HTI9 := Lib.hid ((b9.block _ (lt_of_block HTI.out)).trans HTI.out)
              have Y0 := Lib.hid ((b9.cell (p := ⟨bY, oY + j * 4, none⟩) hbY).trans Y0.out)
              have Y1 := Lib.hid ((b9.cell (p := ⟨bY, oY + j * 4 + 1, none⟩) hbY).trans Y1.out)
              have Y2 := Lib.hid ((b9.cell (p := ⟨bY, oY + j * 4 + 2, none⟩) hbY).trans Y2.out)
              have Y3 := Lib.hid ((b9.cell (p := ⟨bY, oY + j * 4 + 3, none⟩) hbY).trans Y3.out)
              have hbY9 := Nat.lt_of_lt_of_le hbY b9.size
              clear b9
              go_upto_region 14 with (fail)
              refine wp_region_class (Below w9.heap.size w9) (by kernel_rfl) (by kernel_rfl) (Below.drew (Below.refl _ _)) (fun ne => ?_)
              have hgo : ∀ x : Wld (Below w9.heap.size w9), Below w5.heap.size w5 x.val ∧ Below w8.heap.size w8 x.val := fun x => ⟨B59.out.trans (x.good.mono B59.out.size), BI9.out.trans (x.good.mono BI9.out.size)⟩
              have e0 := fun x : Wld (Below w9.heap.size w9) => (x.good.cell (p := ⟨bY, oY + j * 4, none⟩) hbY9).trans Y0.out
              have e1 := fun x : Wld (Below w9.heap.size w9) => (x.good.cell (p := ⟨bY, oY + j * 4 + 1, none⟩) hbY9).trans Y1.out
              have e2 := fun x : Wld (Below w9.heap.size w9) => (x.good.cell (p := ⟨bY, oY + j * 4 + 2, none⟩) hbY9).trans Y2.out
              have e3 := fun x : Wld (Below w9.heap.size w9) => (x.good.cell (p := ⟨bY, oY + j * 4 + 3, none⟩) hbY9).trans Y3.out
              have hkx : ∀ x : Wld (Below w9.heap.size w9), x.val.heap[bt]? = _ := fun x => (x.good.block _ (lt_of_block HTI9.out)).trans HTI9.out
              have d0 := fun x : Wld (Below w9.heap.size w9) => cells_of (hkx x) 0
              have d1 := fun x : Wld (Below w9.heap.size w9) => cells_of (hkx x) 1
              have d2 := fun x : Wld (Below w9.heap.size w9) => cells_of (hkx x) 2
              have d3 := fun x : Wld (Below w9.heap.size w9) => cells_of (hkx x) 3
              simp only [List.getElem?_toArray, List.getElem?_cons_zero, List.getElem?_cons_succ] at d0 d1 d2 d3
              have HGO := Lib.hid hgo
              clear hgo hkx
              cases cb <;> cases f
              case false.true => exact absurd (HCV.out rfl) (by simp)
              all_goals
                repeat (go_big_quiet_step ((go_at_call 21; (refine Calls.mono (rcovers_any (HTV5.out.below (HGO.out _).1) ⟨yi, yl, yh, yc⟩ ar cr r (HRW8.out.below (HGO.out _).2) (fun v hv => (HOK.out.ok v hv).2)) ?_); rintro e w2 ⟨rfl, b2⟩; exact ⟨congrArg (fun q => Ending.returned (Value.bool q)) HCB.out, class_below _ b2 (Nat.le_refl _)⟩)))
                refine wpQuiet_nil ?_
                intro w10 b10
                clear e0 e1 e2 e3 d0 d1 d2 d3 ne HGO
                have BI10 := Lib.hid (BI9.out.trans (b10.mono BI9.out.size))
                clear b10
                go_wp2_with fail
                go_roundw
                case rel => exact ⟨j + 1, by omega, by go_num, BI10.out⟩
                case measure => simp [intOf]; omega
            · go_wp2_with fail
              go_roundw
              case rel => exact ⟨k + 1, by omega, by omega, by go_num, B6I.out⟩
              case measure => simp [intOf]; omega
      · have HTr := Lib.hid ((BR.out.block _ (lt_of_block HT5.out)).trans HT5.out)
        have t3 := cells_of HTr.out 3
        simp only [List.getElem?_toArray, List.getElem?_cons_zero, List.getElem?_cons_succ] at t3
        have BX := Lib.hid (show Below w.heap.size w wr from B1.out.trans ((B5.out.trans (BR.out.mono B5.out.size)).mono B1.out.size))
        have hq : ((Y.length : Int) == (T.idx.length : Int) + 1) = true := by simp; have := HYL.out; omega
        rcases (show ¬ k < nR ∨ (k < nR ∧ ¬ k < 20) by omega) with h | ⟨h, h'⟩
        · have g1 : ¬ ((k : Int) < (nR : Int)) := by omega
          clear hlt
          go_wp2_with fail
          go_ret
          exact ⟨rfl, BX.out⟩
        · have g1 : (k : Int) < (nR : Int) := by omega
          have g2 : ¬ ((k : Int) < 20) := by omega
          clear hlt
          go_wp2_with fail
          go_ret
          exact ⟨rfl, BX.out⟩
end Go.Proofs.YtajlngkakpjncaaDoor
