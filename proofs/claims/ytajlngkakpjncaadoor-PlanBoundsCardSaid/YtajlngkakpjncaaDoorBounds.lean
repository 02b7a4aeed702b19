/- PlanBounds: the walk of the law. -/
import Derived.Test.YtajlngkakpjncaaDoorBoundsPlain
import Derived.Test.YtajlngkakpjncaaDoorVCmp
import Derived.Test.YtajlngkakpjncaaDoorSanity
import Derived.Test.YtajlngkakpjncaaDoorCovers
namespace Go.Proofs.YtajlngkakpjncaaDoor
set_option linter.unusedVariables false
set_option linter.unusedSimpArgs false
open Go.RowKit

theorem intv_any (n : Int) (w : World) : Calls Tryd.prog 22 #[.int .i64 n] w fun e w' => e = .returned (.agg #[.int .i64 1, .int .i64 n, .string noStr]) ∧ Below w.heap.size w w' := by
  go_enter Tryd.func22, Tryd.ntmps22
  go_wp2_with fail
  refine bodyPost_ret (v := .agg #[.int .i64 1, .int .i64 n, .string noStr]) (by simp [results, Tryd.results22, go_sem]; try rfl) rfl ⟨rfl, (Below.refl _ _).alloc (Nat.le_refl _) _⟩

set_option maxRecDepth 100000 in
set_option maxHeartbeats 16000000 in
theorem bounds_walk {lo hi x : Int} {w : World} (h1 : (intV lo).fine) (h2 : (intV hi).fine) (h3 : (intV x).fine) (he : Env w) (hK : KindsAt w) :
    Calls Tryd.prog 8 #[.int .i64 lo, .int .i64 hi, .int .i64 x] w fun e w' => e = .returned (.bool true) ∧ Below w.heap.size w w' := by
  have HE := Lib.hid he
  have HK := Lib.hid hK
  have HF := Lib.hid (show _ ∧ _ ∧ _ from ⟨h1, h2, h3⟩)
  clear he hK h1 h2 h3
  go_enter Tryd.func8, Tryd.ntmps8
  go_upto_region 1 with (fail)
  go_wp2_with fail
  refine (sanity_any HE.out).mono ?_
  rintro e w1 ⟨rfl, b1⟩
  have B1 := Lib.hid b1
  clear b1
  go_upto_region 3 with (fail)
  generalize hW2 : World.alloc _ _ = W2
  have hA : allocs w1 [_, _, _, _] = W2 := hW2
  have k0 : W2.heap[w1.heap.size]? = some _ := allocs_get hA 0 rfl
  have k1 : W2.heap[w1.heap.size + 1]? = some _ := allocs_get hA 1 rfl
  have k2 : W2.heap[w1.heap.size + 1 + 1]? = some _ := allocs_get hA 2 rfl
  have k3 : W2.heap[w1.heap.size + 1 + 1 + 1]? = some _ := allocs_get hA 3 rfl
  have hb2 := allocs_self hA
  have B2 := Lib.hid (B1.out.trans (hb2.mono B1.out.size))
  have HTV := Lib.hid (show TabV (fun _ => True) W2 (.agg #[.int .i64 0, .string ⟨#[116]⟩, .slice (some ⟨w1.heap.size, 0, none⟩) 1 1, .slice (some ⟨w1.heap.size + 1 + 1, 0, none⟩) 1 1]) bT from
    tabV_of (T := bT) (sl_block bT.cols k0 trivial rfl rfl (by decide)) (ix_block (x := ⟨⟨#[105]⟩, [0], 0⟩) k2 trivial (int_block [0] k1 trivial rfl rfl (by decide)) rfl))
  have HT := Lib.hid k3
  obtain ⟨bc, hbc⟩ : ∃ b, b = w1.heap.size := ⟨_, rfl⟩
  obtain ⟨bi, hbi⟩ : ∃ b, b = w1.heap.size + 1 + 1 := ⟨_, rfl⟩
  obtain ⟨bt, hbt⟩ : ∃ b, b = w1.heap.size + 1 + 1 + 1 := ⟨_, rfl⟩
  rw [← hbi, ← hbc] at HTV
  rw [← hbt, ← hbi, ← hbc] at HT
  rw [← hbt, ← hbi, ← hbc]
  clear hW2 hA k0 k1 k2 k3 hb2 hbc hbi hbt
  go_wp2_with fail
  refine (intv_any lo _).mono ?_
  rintro e w3 ⟨rfl, b3⟩
  go_upto_region 4 with (fail)
  generalize hW : World.alloc _ _ = W4
  have hb : Below w3.heap.size w3 W4 := by rw [← hW]; exact (Below.refl _ _).alloc (Nat.le_refl _) _
  have hk : W4.heap[w3.heap.size]? = some (.cells #[.int .i64 1, .int .i64 lo, .string noStr] 41 (0, 0)) := by rw [← hW]; exact heap_alloc_new _ _
  have hbb := b3.trans (hb.mono b3.size)
  have B4 := Lib.hid (B2.out.trans (hbb.mono B2.out.size))
  have HTV := Lib.hid (HTV.out.below hbb)
  have HT := Lib.hid ((hbb.block _ (lt_of_block HT.out)).trans HT.out)
  obtain ⟨bN, hbn⟩ : ∃ b, b = w3.heap.size := ⟨_, rfl⟩
  rw [← hbn] at hk ⊢
  have HN := Lib.hid hk
  clear hW hb hk hbb b3 hbn
  go_wp2_with fail
  refine (intv_any hi _).mono ?_
  rintro e w5 ⟨rfl, b3⟩
  go_upto_region 5 with (fail)
  generalize hW : World.alloc _ _ = W6
  have hb : Below w5.heap.size w5 W6 := by rw [← hW]; exact (Below.refl _ _).alloc (Nat.le_refl _) _
  have hk : W6.heap[w5.heap.size]? = some (.cells #[.int .i64 1, .int .i64 hi, .string noStr] 41 (0, 0)) := by rw [← hW]; exact heap_alloc_new _ _
  have hbb := b3.trans (hb.mono b3.size)
  have B6 := Lib.hid (B4.out.trans (hbb.mono B4.out.size))
  have HTV := Lib.hid (HTV.out.below hbb)
  have HT := Lib.hid ((hbb.block _ (lt_of_block HT.out)).trans HT.out)
  have HN := Lib.hid ((hbb.block _ (lt_of_block HN.out)).trans HN.out)
  obtain ⟨bM, hbn⟩ : ∃ b, b = w5.heap.size := ⟨_, rfl⟩
  rw [← hbn] at hk ⊢
  have HM := Lib.hid hk
  clear hW hb hk hbb b3 hbn
  go_wp2_with fail
  refine (intv_any x _).mono ?_
  rintro e w7 ⟨rfl, b3⟩
  go_upto_region 6 with (fail)
  generalize hW : World.alloc _ _ = W8
  have hb : Below w7.heap.size w7 W8 := by rw [← hW]; exact (Below.refl _ _).alloc (Nat.le_refl _) _
  have hk : W8.heap[w7.heap.size]? = some (.cells #[.int .i64 1, .int .i64 x, .string noStr] 41 (0, 0)) := by rw [← hW]; exact heap_alloc_new _ _
  have hbb := b3.trans (hb.mono b3.size)
  have B8 := Lib.hid (B6.out.trans (hbb.mono B6.out.size))
  have HTV := Lib.hid (HTV.out.below hbb)
  have HT := Lib.hid ((hbb.block _ (lt_of_block HT.out)).trans HT.out)
  have HN := Lib.hid ((hbb.block _ (lt_of_block HN.out)).trans HN.out)
  have HM := Lib.hid ((hbb.block _ (lt_of_block HM.out)).trans HM.out)
  obtain ⟨bX, hbn⟩ : ∃ b, b = w7.heap.size := ⟨_, rfl⟩
  rw [← hbn] at hk ⊢
  have HX := Lib.hid hk
  clear hW hb hk hbb b3 hbn
  have n0 := cells_of HN.out 0
  have n1 := cells_of HN.out 1
  have n2 := cells_of HN.out 2
  have m0 := cells_of HM.out 0
  have m1 := cells_of HM.out 1
  have m2 := cells_of HM.out 2
  simp only [List.getElem?_toArray, List.getElem?_cons_zero, List.getElem?_cons_succ] at n0 n1 n2 m0 m1 m2
  go_upto_region 7 with (fail)
  generalize hW : World.alloc _ _ = W9
  have hb : Below W8.heap.size W8 W9 := by rw [← hW]; exact (Below.refl _ _).alloc (Nat.le_refl _) _
  have hk : W9.heap[W8.heap.size]? = some (.cells #[.string ⟨#[97]⟩, .int .i64 6, .int .i64 1, .int .i64 lo, .string noStr, .string ⟨#[97]⟩, .int .i64 4, .int .i64 1, .int .i64 hi, .string noStr] 44 (0, 0)) := by rw [← hW]; exact heap_alloc_new _ _
  have HSL := Lib.hid (show SlV condR (fun _ => True) W9 (.slice (some ⟨W8.heap.size, 0, none⟩) 2 2) (bW lo hi) from sl_block (enc := condEnc) (hl := fun _ => rfl) (bW lo hi) hk trivial rfl rfl (by simp [bW]))
  have B9 := Lib.hid (B8.out.trans (hb.mono B8.out.size))
  have HTV := Lib.hid (HTV.out.below hb)
  have HT := Lib.hid ((hb.block _ (lt_of_block HT.out)).trans HT.out)
  have HN := Lib.hid ((hb.block _ (lt_of_block HN.out)).trans HN.out)
  have HM := Lib.hid ((hb.block _ (lt_of_block HM.out)).trans HM.out)
  have HX := Lib.hid ((hb.block _ (lt_of_block HX.out)).trans HX.out)
  obtain ⟨bs, hbs⟩ : ∃ b, b = W8.heap.size := ⟨_, rfl⟩
  rw [← hbs] at HSL ⊢
  clear hW hb hk hbs n0 n1 n2 m0 m1 m2
  have HE9 := Lib.hid (HE.out.below B9.out)
  have t0 := cells_of HT.out 0
  have t1 := cells_of HT.out 1
  have t2 := cells_of HT.out 2
  have t3 := cells_of HT.out 3
  simp only [List.getElem?_toArray, List.getElem?_cons_zero, List.getElem?_cons_succ] at t0 t1 t2 t3
  go_wp2_with fail
  refine (ways_any (S := bS) HTV.out (q := fun _ => True) ⟨none, 0, rfl, sl_nil⟩ (C := bW lo hi) HSL.out (by
    intro c hc
    simp only [bW, List.mem_cons, List.not_mem_nil, or_false] at hc
    rcases hc with rfl | rfl
    · exact HF.out.1
    · exact HF.out.2.1) HE9.out (by decide)).mono ?_
  rintro e w10 ⟨⟨ay, cy, rfl, hy⟩, b10⟩
  obtain ⟨co, hco⟩ := bounds_ways lo hi
  have hy' : SlV wayR (fun k => W9.heap.size ≤ k) w10 (.slice ay 2 cy) [⟨-1, noStr, noStr, 1⟩, ⟨0, mkStr (keyV (intV lo)), mkStr (keyV (intV hi)), co⟩] := by rw [hco] at hy; exact hy
  rw [show (waysOf bT bS (bW lo hi)).length = 2 from by rw [hco]; rfl]
  have HCV := Lib.hid (bounds_cover lo hi x co HF.out.1 HF.out.2.1 HF.out.2.2)
  generalize mkStr (keyV (intV lo)) = kl at hy' HCV
  generalize mkStr (keyV (intV hi)) = kh at hy' HCV
  obtain ⟨_, _, _, hyr⟩ := hy'.row
  obtain ⟨bY, oY, rfl, _, hbY⟩ := hyr.addr (by simp)
  have y1 := hyr.way 0 (by simp)
  have y2 := hyr.way 1 (by simp)
  simp only [List.getElem_cons_zero, List.getElem_cons_succ, Nat.zero_mul, Nat.one_mul, Nat.add_zero] at y1 y2
  have Y1 := Lib.hid y1
  have Y2 := Lib.hid y2
  have B10 := Lib.hid (B9.out.trans (b10.mono B9.out.size))
  have HTV := Lib.hid (HTV.out.below b10)
  have HSL := Lib.hid (HSL.out.below b10)
  have HT := Lib.hid ((b10.block _ (lt_of_block HT.out)).trans HT.out)
  have HN := Lib.hid ((b10.block _ (lt_of_block HN.out)).trans HN.out)
  have HM := Lib.hid ((b10.block _ (lt_of_block HM.out)).trans HM.out)
  have HX := Lib.hid ((b10.block _ (lt_of_block HX.out)).trans HX.out)
  clear hy hco hy' hyr y1 y2 b10 t0 t1 t2 t3
  have n0 := cells_of HN.out 0
  have n1 := cells_of HN.out 1
  have n2 := cells_of HN.out 2
  have x0 := cells_of HX.out 0
  have x1 := cells_of HX.out 1
  have x2 := cells_of HX.out 2
  simp only [List.getElem?_toArray, List.getElem?_cons_zero, List.getElem?_cons_succ] at n0 n1 n2 x0 x1 x2
  go_wp2_with fail
  refine (vcmp_any (intV lo) (intV x) _ (HK.out.below B10.out)).mono ?_
  rintro e w11 ⟨rfl, b11⟩
  have hcb := cmp_between lo x
  have hcb2 := cmp_between x hi
  generalize cmpV (intV lo) (intV x) = c1 at hcb ⊢
  obtain ⟨c2, hc2⟩ : ∃ c2, cmpV (intV x) (intV hi) = c2 := ⟨_, rfl⟩
  rw [hc2] at hcb2
  have HC2 := Lib.hid hc2
  have B11 := Lib.hid (B10.out.trans (b11.mono B10.out.size))
  have HTV := Lib.hid (HTV.out.below b11)
  have HSL := Lib.hid (HSL.out.below b11)
  have HT := Lib.hid ((b11.block _ (lt_of_block HT.out)).trans HT.out)
  have HM := Lib.hid ((b11.block _ (lt_of_block HM.out)).trans HM.out)
  have HX := Lib.hid ((b11.block _ (lt_of_block HX.out)).trans HX.out)
  have Y1 := Lib.hid (show _ ∧ _ ∧ _ ∧ _ from ⟨(b11.cell (p := ⟨bY, oY, none⟩) hbY).trans Y1.out.1, (b11.cell (p := ⟨bY, oY + 1, none⟩) hbY).trans Y1.out.2.1, (b11.cell (p := ⟨bY, oY + 2, none⟩) hbY).trans Y1.out.2.2.1, (b11.cell (p := ⟨bY, oY + 3, none⟩) hbY).trans Y1.out.2.2.2⟩)
  have Y2 := Lib.hid (show _ ∧ _ ∧ _ ∧ _ from ⟨(b11.cell (p := ⟨bY, oY + 4, none⟩) hbY).trans Y2.out.1, (b11.cell (p := ⟨bY, oY + 4 + 1, none⟩) hbY).trans Y2.out.2.1, (b11.cell (p := ⟨bY, oY + 4 + 2, none⟩) hbY).trans Y2.out.2.2.1, (b11.cell (p := ⟨bY, oY + 4 + 3, none⟩) hbY).trans Y2.out.2.2.2⟩)
  have hbY := Nat.lt_of_lt_of_le hbY b11.size
  clear hc2 b11 n0 n1 n2 x0 x1 x2
  have m0 := cells_of HM.out 0
  have m1 := cells_of HM.out 1
  have m2 := cells_of HM.out 2
  have x0 := cells_of HX.out 0
  have x1 := cells_of HX.out 1
  have x2 := cells_of HX.out 2
  simp only [List.getElem?_toArray, List.getElem?_cons_zero, List.getElem?_cons_succ] at m0 m1 m2 x0 x1 x2
  obtain ⟨bo, hbo⟩ : ∃ bo, (decide (lo ≤ x) && decide (x ≤ hi)) = bo := ⟨_, rfl⟩
  rw [hbo] at HCV
  have hbo2 : (decide (c1 ≤ 0) && decide (c2 ≤ 0)) = bo := by rw [hcb, hcb2]; exact hbo
  clear hbo hcb hcb2
  by_cases hc1 : c1 ≤ 0
  · go_wp2_with fail
    refine (vcmp_any (intV x) (intV hi) _ (HK.out.below B11.out)).mono ?_
    rintro e w12 ⟨rfl, b12⟩
    rw [HC2.out]
    have BQ := Lib.hid (B11.out.trans (b12.mono B11.out.size))
    have HEQ := Lib.hid (HE.out.below BQ.out)
    have HTV := Lib.hid (HTV.out.below b12)
    have HSL := Lib.hid (HSL.out.below b12)
    have HT := Lib.hid ((b12.block _ (lt_of_block HT.out)).trans HT.out)
    have HX := Lib.hid ((b12.block _ (lt_of_block HX.out)).trans HX.out)
    have Y1 := Lib.hid (show _ ∧ _ ∧ _ ∧ _ from ⟨(b12.cell (p := ⟨bY, oY, none⟩) hbY).trans Y1.out.1, (b12.cell (p := ⟨bY, oY + 1, none⟩) hbY).trans Y1.out.2.1, (b12.cell (p := ⟨bY, oY + 2, none⟩) hbY).trans Y1.out.2.2.1, (b12.cell (p := ⟨bY, oY + 3, none⟩) hbY).trans Y1.out.2.2.2⟩)
    have Y2 := Lib.hid (show _ ∧ _ ∧ _ ∧ _ from ⟨(b12.cell (p := ⟨bY, oY + 4, none⟩) hbY).trans Y2.out.1, (b12.cell (p := ⟨bY, oY + 4 + 1, none⟩) hbY).trans Y2.out.2.1, (b12.cell (p := ⟨bY, oY + 4 + 2, none⟩) hbY).trans Y2.out.2.2.1, (b12.cell (p := ⟨bY, oY + 4 + 3, none⟩) hbY).trans Y2.out.2.2.2⟩)
    have hbY := Nat.lt_of_lt_of_le hbY b12.size
    clear b12 m0 m1 m2 x0 x1 x2
    by_cases hc2 : c2 ≤ 0
    · obtain rfl : bo = true := by rw [← hbo2]; simp [hc1, hc2]
      clear hbo2
      go_upto_region 11 with (fail)
      apply wp_region_grow [50, 51, 52, 53, 54, 55, 56, 57, 58, 59, 60, 61, 62, 63, 64, 65, 66, 67, 68, 69, 70, 71, 72]
        [fun _ u _ => u = .bool true,
         fun _ u _ => u = .bool true,
         fun _ u _ => u = .agg #[.int .i64 0, .string ⟨#[116]⟩, .slice (some ⟨bc, 0, none⟩) 1 1, .slice (some ⟨bi, 0, none⟩) 1 1],
         fun _ u _ => u = .slice (some ⟨bY, oY, none⟩) 2 cy,
         fun _ u _ => u = .pointer (some ⟨bY, oY + 4, none⟩),
         fun _ u _ => u = .agg #[.int .i64 0, .string kl, .string kh, .int .i64 co],
         fun _ u _ => u = .slice (some ⟨bs, 0, none⟩) 2 2,
         fun _ u _ => u = .agg #[.int .i64 1, .int .i64 x, .string noStr],
         fun _ u w' => SlV valR (fun _ => True) w' u [intV x],
         fun _ u _ => u = .bool true,
         fun _ u _ => u = .bool true,
         fun _ u _ => u = .bool true,
         fun _ u _ => u = .bool true,
         fun _ u _ => u = .bool true,
         fun _ u _ => u = .agg #[.int .i64 0, .string ⟨#[116]⟩, .slice (some ⟨bc, 0, none⟩) 1 1, .slice (some ⟨bi, 0, none⟩) 1 1],
         fun _ u _ => u = .slice (some ⟨bY, oY, none⟩) 2 cy,
         fun _ u _ => u = .pointer (some ⟨bY, oY, none⟩),
         fun _ u _ => u = .agg #[.int .i64 (-1), .string noStr, .string noStr, .int .i64 1],
         fun _ u _ => u = .slice (some ⟨bs, 0, none⟩) 2 2,
         fun _ u _ => u = .agg #[.int .i64 1, .int .i64 x, .string noStr],
         fun _ u w' => SlV valR (fun _ => True) w' u [intV x],
         fun _ u _ => u = .bool true,
         fun _ u _ => u = .bool true]
        (Below w12.heap.size w12)
      case hF =>
        intro v
        simp only [setAll, List.foldl_cons, List.foldl_nil, Act.put, List.setIfInBounds_toArray, List.set_cons_succ, List.set_cons_zero]
        exact rfl
      case hm => kernel_rfl
      case hB => kernel_rfl
      case hsz => kernel_rfl
      case hC => exact fun w1 w2 h b => h.trans (b.mono h.size)
      case hw => exact Below.drew (Below.refl _ _)
      case hS =>
        intro D hD v u
        simp only [List.mem_cons, List.not_mem_nil, or_false] at hD
        rcases hD with rfl | rfl | rfl | rfl | rfl | rfl | rfl | rfl | rfl | rfl | rfl | rfl | rfl | rfl | rfl | rfl | rfl | rfl | rfl | rfl | rfl | rfl | rfl
        · exact fun w1 w2 h _ => h
        · exact fun w1 w2 h _ => h
        · exact fun w1 w2 h _ => h
        · exact fun w1 w2 h _ => h
        · exact fun w1 w2 h _ => h
        · exact fun w1 w2 h _ => h
        · exact fun w1 w2 h _ => h
        · exact fun w1 w2 h _ => h
        · exact fun w1 w2 h hb => h.below hb
        · exact fun w1 w2 h _ => h
        · exact fun w1 w2 h _ => h
        · exact fun w1 w2 h _ => h
        · exact fun w1 w2 h _ => h
        · exact fun w1 w2 h _ => h
        · exact fun w1 w2 h _ => h
        · exact fun w1 w2 h _ => h
        · exact fun w1 w2 h _ => h
        · exact fun w1 w2 h _ => h
        · exact fun w1 w2 h _ => h
        · exact fun w1 w2 h _ => h
        · exact fun w1 w2 h hb => h.below hb
        · exact fun w1 w2 h _ => h
        · exact fun w1 w2 h _ => h
      case hob =>
        apply grow_cons
        · intro v w1 h1 hd
          clear hd
          have H1 := Lib.hid h1
          clear h1
          go_wp2_with fail
          all_goals exact Below.refl _ _
        apply grow_cons
        · intro v w1 h1 hd
          have g50 : v 50 = .bool true := hd 0 _ _ _ rfl rfl rfl rfl
          clear hd
          rw [g50]
          clear g50
          have H1 := Lib.hid h1
          clear h1
          go_wp2_with fail
          all_goals exact Below.refl _ _
        apply grow_cons
        · intro v w1 h1 hd
          have g51 : v 51 = .bool true := hd 1 _ _ _ rfl rfl rfl rfl
          clear hd
          rw [g51]
          clear g51
          have H1 := Lib.hid h1
          clear h1
          have hk := (H1.out.block _ (lt_of_block HT.out)).trans HT.out
          have t0 := cells_of hk 0
          have t1 := cells_of hk 1
          have t2 := cells_of hk 2
          have t3 := cells_of hk 3
          simp only [List.getElem?_toArray, List.getElem?_cons_zero, List.getElem?_cons_succ] at t0 t1 t2 t3
          clear hk
          go_wp2_with fail
          all_goals exact Below.refl _ _
        apply grow_cons
        · intro v w1 h1 hd
          have g51 : v 51 = .bool true := hd 1 _ _ _ rfl rfl rfl rfl
          clear hd
          rw [g51]
          clear g51
          have H1 := Lib.hid h1
          clear h1
          go_wp2_with fail
          all_goals exact Below.refl _ _
        apply grow_cons
        · intro v w1 h1 hd
          have g53 : v 53 = .slice (some ⟨bY, oY, none⟩) 2 cy := hd 3 _ _ _ rfl rfl rfl rfl
          have g51 : v 51 = .bool true := hd 1 _ _ _ rfl rfl rfl rfl
          clear hd
          rw [g53, g51]
          clear g53 g51
          have H1 := Lib.hid h1
          clear h1
          go_wp2_with fail
          all_goals exact Below.refl _ _
        apply grow_cons
        · intro v w1 h1 hd
          have g54 : v 54 = .pointer (some ⟨bY, oY + 4, none⟩) := hd 4 _ _ _ rfl rfl rfl rfl
          have g51 : v 51 = .bool true := hd 1 _ _ _ rfl rfl rfl rfl
          clear hd
          rw [g54, g51]
          clear g54 g51
          have H1 := Lib.hid h1
          clear h1
          have y0 := (H1.out.cell (p := ⟨bY, oY + 4, none⟩) hbY).trans Y2.out.1
          have y1 := (H1.out.cell (p := ⟨bY, oY + 4 + 1, none⟩) hbY).trans Y2.out.2.1
          have y2 := (H1.out.cell (p := ⟨bY, oY + 4 + 2, none⟩) hbY).trans Y2.out.2.2.1
          have y3 := (H1.out.cell (p := ⟨bY, oY + 4 + 3, none⟩) hbY).trans Y2.out.2.2.2
          go_wp2_with fail
          all_goals exact Below.refl _ _
        apply grow_cons
        · intro v w1 h1 hd
          have g51 : v 51 = .bool true := hd 1 _ _ _ rfl rfl rfl rfl
          clear hd
          rw [g51]
          clear g51
          have H1 := Lib.hid h1
          clear h1
          go_wp2_with fail
          all_goals exact Below.refl _ _
        apply grow_cons
        · intro v w1 h1 hd
          have g51 : v 51 = .bool true := hd 1 _ _ _ rfl rfl rfl rfl
          clear hd
          rw [g51]
          clear g51
          have H1 := Lib.hid h1
          clear h1
          have hk := (H1.out.block _ (lt_of_block HX.out)).trans HX.out
          have x0 := cells_of hk 0
          have x1 := cells_of hk 1
          have x2 := cells_of hk 2
          simp only [List.getElem?_toArray, List.getElem?_cons_zero, List.getElem?_cons_succ] at x0 x1 x2
          clear hk
          go_wp2_with fail
          all_goals exact Below.refl _ _
        apply grow_cons
        · intro v w1 h1 hd
          have g57 : v 57 = .agg #[.int .i64 1, .int .i64 x, .string noStr] := hd 7 _ _ _ rfl rfl rfl rfl
          have g51 : v 51 = .bool true := hd 1 _ _ _ rfl rfl rfl rfl
          clear hd
          rw [g57, g51]
          clear g57 g51
          have H1 := Lib.hid h1
          clear h1
          go_wp2_with fail
          all_goals exact ⟨(Below.refl _ _).alloc (Nat.le_refl _) _, sl_block (enc := valEnc) (hl := fun _ => rfl) [intV x] (heap_alloc_new _ _) trivial rfl rfl (by simp)⟩
        apply grow_cons
        · intro v w1 h1 hd
          have g52 : v 52 = .agg #[.int .i64 0, .string ⟨#[116]⟩, .slice (some ⟨bc, 0, none⟩) 1 1, .slice (some ⟨bi, 0, none⟩) 1 1] := hd 2 _ _ _ rfl rfl rfl rfl
          have g55 : v 55 = .agg #[.int .i64 0, .string kl, .string kh, .int .i64 co] := hd 5 _ _ _ rfl rfl rfl rfl
          have g56 : v 56 = .slice (some ⟨bs, 0, none⟩) 2 2 := hd 6 _ _ _ rfl rfl rfl rfl
          obtain ⟨ar, cr, g58, hr⟩ := SlV.shape' (show SlV valR (fun _ => True) w1 (v 58) [intV x] from hd 8 _ _ _ rfl rfl rfl rfl)
          have HR := Lib.hid hr
          clear hr
          have g51 : v 51 = .bool true := hd 1 _ _ _ rfl rfl rfl rfl
          clear hd
          rw [g52, g55, g56, g58, g51]
          clear g52 g55 g56 g58 g51
          have H1 := Lib.hid h1
          clear h1
          go_wp2_with fail
          refine (covers_any (HTV.out.below H1.out) ⟨0, kl, kh, co⟩ _ ar cr [intV x] HR.out (fun q hq => by rw [List.mem_singleton.1 hq]; exact HF.out.2.2) (HEQ.out.below H1.out) ⟨_, _, _, rfl⟩).mono ?_
          rintro e w6 ⟨rfl, b6⟩
          rw [HCV.out]
          go_wp2_with fail
          all_goals exact b6
        apply grow_cons
        · intro v w1 h1 hd
          have g51 : v 51 = .bool true := hd 1 _ _ _ rfl rfl rfl rfl
          clear hd
          rw [g51]
          clear g51
          have H1 := Lib.hid h1
          clear h1
          go_wp2_with fail
          all_goals exact Below.refl _ _
        apply grow_cons
        · intro v w1 h1 hd
          have g59 : v 59 = .bool true := hd 9 _ _ _ rfl rfl rfl rfl
          have g60 : v 60 = .bool true := hd 10 _ _ _ rfl rfl rfl rfl
          have g51 : v 51 = .bool true := hd 1 _ _ _ rfl rfl rfl rfl
          clear hd
          rw [g59, g60, g51]
          clear g59 g60 g51
          have H1 := Lib.hid h1
          clear h1
          go_wp2_with fail
          all_goals exact Below.refl _ _
        apply grow_cons
        · intro v w1 h1 hd
          have g51 : v 51 = .bool true := hd 1 _ _ _ rfl rfl rfl rfl
          have g61 : v 61 = .bool true := hd 11 _ _ _ rfl rfl rfl rfl
          clear hd
          rw [g51, g61]
          clear g51 g61
          have H1 := Lib.hid h1
          clear h1
          go_wp2_with fail
          all_goals exact Below.refl _ _
        apply grow_cons
        · intro v w1 h1 hd
          have g62 : v 62 = .bool true := hd 12 _ _ _ rfl rfl rfl rfl
          clear hd
          rw [g62]
          clear g62
          have H1 := Lib.hid h1
          clear h1
          go_wp2_with fail
          all_goals exact Below.refl _ _
        apply grow_cons
        · intro v w1 h1 hd
          have g63 : v 63 = .bool true := hd 13 _ _ _ rfl rfl rfl rfl
          clear hd
          rw [g63]
          clear g63
          have H1 := Lib.hid h1
          clear h1
          have hk := (H1.out.block _ (lt_of_block HT.out)).trans HT.out
          have t0 := cells_of hk 0
          have t1 := cells_of hk 1
          have t2 := cells_of hk 2
          have t3 := cells_of hk 3
          simp only [List.getElem?_toArray, List.getElem?_cons_zero, List.getElem?_cons_succ] at t0 t1 t2 t3
          clear hk
          go_wp2_with fail
          all_goals exact Below.refl _ _
        apply grow_cons
        · intro v w1 h1 hd
          have g63 : v 63 = .bool true := hd 13 _ _ _ rfl rfl rfl rfl
          clear hd
          rw [g63]
          clear g63
          have H1 := Lib.hid h1
          clear h1
          go_wp2_with fail
          all_goals exact Below.refl _ _
        apply grow_cons
        · intro v w1 h1 hd
          have g65 : v 65 = .slice (some ⟨bY, oY, none⟩) 2 cy := hd 15 _ _ _ rfl rfl rfl rfl
          have g63 : v 63 = .bool true := hd 13 _ _ _ rfl rfl rfl rfl
          clear hd
          rw [g65, g63]
          clear g65 g63
          have H1 := Lib.hid h1
          clear h1
          go_wp2_with fail
          all_goals exact Below.refl _ _
        apply grow_cons
        · intro v w1 h1 hd
          have g66 : v 66 = .pointer (some ⟨bY, oY, none⟩) := hd 16 _ _ _ rfl rfl rfl rfl
          have g63 : v 63 = .bool true := hd 13 _ _ _ rfl rfl rfl rfl
          clear hd
          rw [g66, g63]
          clear g66 g63
          have H1 := Lib.hid h1
          clear h1
          have y0 := (H1.out.cell (p := ⟨bY, oY, none⟩) hbY).trans Y1.out.1
          have y1 := (H1.out.cell (p := ⟨bY, oY + 1, none⟩) hbY).trans Y1.out.2.1
          have y2 := (H1.out.cell (p := ⟨bY, oY + 2, none⟩) hbY).trans Y1.out.2.2.1
          have y3 := (H1.out.cell (p := ⟨bY, oY + 3, none⟩) hbY).trans Y1.out.2.2.2
          go_wp2_with fail
          all_goals exact Below.refl _ _
        apply grow_cons
        · intro v w1 h1 hd
          have g63 : v 63 = .bool true := hd 13 _ _ _ rfl rfl rfl rfl
          clear hd
          rw [g63]
          clear g63
          have H1 := Lib.hid h1
          clear h1
          go_wp2_with fail
          all_goals exact Below.refl _ _
        apply grow_cons
        · intro v w1 h1 hd
          have g63 : v 63 = .bool true := hd 13 _ _ _ rfl rfl rfl rfl
          clear hd
          rw [g63]
          clear g63
          have H1 := Lib.hid h1
          clear h1
          have hk := (H1.out.block _ (lt_of_block HX.out)).trans HX.out
          have x0 := cells_of hk 0
          have x1 := cells_of hk 1
          have x2 := cells_of hk 2
          simp only [List.getElem?_toArray, List.getElem?_cons_zero, List.getElem?_cons_succ] at x0 x1 x2
          clear hk
          go_wp2_with fail
          all_goals exact Below.refl _ _
        apply grow_cons
        · intro v w1 h1 hd
          have g69 : v 69 = .agg #[.int .i64 1, .int .i64 x, .string noStr] := hd 19 _ _ _ rfl rfl rfl rfl
          have g63 : v 63 = .bool true := hd 13 _ _ _ rfl rfl rfl rfl
          clear hd
          rw [g69, g63]
          clear g69 g63
          have H1 := Lib.hid h1
          clear h1
          go_wp2_with fail
          all_goals exact ⟨(Below.refl _ _).alloc (Nat.le_refl _) _, sl_block (enc := valEnc) (hl := fun _ => rfl) [intV x] (heap_alloc_new _ _) trivial rfl rfl (by simp)⟩
        apply grow_cons
        · intro v w1 h1 hd
          have g64 : v 64 = .agg #[.int .i64 0, .string ⟨#[116]⟩, .slice (some ⟨bc, 0, none⟩) 1 1, .slice (some ⟨bi, 0, none⟩) 1 1] := hd 14 _ _ _ rfl rfl rfl rfl
          have g67 : v 67 = .agg #[.int .i64 (-1), .string noStr, .string noStr, .int .i64 1] := hd 17 _ _ _ rfl rfl rfl rfl
          have g68 : v 68 = .slice (some ⟨bs, 0, none⟩) 2 2 := hd 18 _ _ _ rfl rfl rfl rfl
          obtain ⟨ar, cr, g70, hr⟩ := SlV.shape' (show SlV valR (fun _ => True) w1 (v 70) [intV x] from hd 20 _ _ _ rfl rfl rfl rfl)
          have HR := Lib.hid hr
          clear hr
          have g63 : v 63 = .bool true := hd 13 _ _ _ rfl rfl rfl rfl
          clear hd
          rw [g64, g67, g68, g70, g63]
          clear g64 g67 g68 g70 g63
          have H1 := Lib.hid h1
          clear h1
          go_wp2_with fail
          refine (covers_any (HTV.out.below H1.out) ⟨-1, noStr, noStr, 1⟩ _ ar cr [intV x] HR.out (fun q hq => by rw [List.mem_singleton.1 hq]; exact HF.out.2.2) (HEQ.out.below H1.out) ⟨_, _, _, rfl⟩).mono ?_
          rintro e w6 ⟨rfl, b6⟩
          rw [show coversOf bT ⟨-1, noStr, noStr, 1⟩ [intV x] = true from by unfold coversOf; rw [if_pos (Or.inl (by decide))]]
          go_wp2_with fail
          all_goals exact b6
        apply grow_cons
        · intro v w1 h1 hd
          have g63 : v 63 = .bool true := hd 13 _ _ _ rfl rfl rfl rfl
          have g71 : v 71 = .bool true := hd 21 _ _ _ rfl rfl rfl rfl
          clear hd
          rw [g63, g71]
          clear g63 g71
          have H1 := Lib.hid h1
          clear h1
          go_wp2_with fail
          all_goals exact Below.refl _ _
        exact grow_nil
      case hend =>
        intro v w6 h1 hd o ho
        obtain rfl := Option.some.inj (ho : some _ = some o)
        have g72 : v 72 = .bool true := hd 22 _ _ _ rfl rfl rfl
        clear hd ho
        rw [g72]
        have BE := Lib.hid (BQ.out.trans (h1.mono BQ.out.size))
        clear g72 h1
        generalize v 50 = y50, v 51 = y51, v 52 = y52, v 53 = y53, v 54 = y54, v 55 = y55, v 56 = y56, v 57 = y57, v 58 = y58, v 59 = y59, v 60 = y60, v 61 = y61, v 62 = y62, v 63 = y63, v 64 = y64, v 65 = y65, v 66 = y66, v 67 = y67, v 68 = y68, v 69 = y69, v 70 = y70, v 71 = y71
        go_wp2_with fail
        go_ret
        exact ⟨rfl, BE.out⟩
    · obtain rfl : bo = false := by rw [← hbo2]; simp; omega
      clear hbo2
      go_upto_region 11 with (fail)
      apply wp_region_grow [50, 51, 52, 53, 54, 55, 56, 57, 58, 59, 60, 61, 62, 63, 64, 65, 66, 67, 68, 69, 70, 71, 72]
        [fun _ u _ => u = .bool true,
         fun _ u _ => u = .bool true,
         fun _ u _ => u = .agg #[.int .i64 0, .string ⟨#[116]⟩, .slice (some ⟨bc, 0, none⟩) 1 1, .slice (some ⟨bi, 0, none⟩) 1 1],
         fun _ u _ => u = .slice (some ⟨bY, oY, none⟩) 2 cy,
         fun _ u _ => u = .pointer (some ⟨bY, oY + 4, none⟩),
         fun _ u _ => u = .agg #[.int .i64 0, .string kl, .string kh, .int .i64 co],
         fun _ u _ => u = .slice (some ⟨bs, 0, none⟩) 2 2,
         fun _ u _ => u = .agg #[.int .i64 1, .int .i64 x, .string noStr],
         fun _ u w' => SlV valR (fun _ => True) w' u [intV x],
         fun _ u _ => u = .bool false,
         fun _ u _ => u = .bool false,
         fun _ u _ => u = .bool true,
         fun _ u _ => u = .bool true,
         fun _ u _ => u = .bool true,
         fun _ u _ => u = .agg #[.int .i64 0, .string ⟨#[116]⟩, .slice (some ⟨bc, 0, none⟩) 1 1, .slice (some ⟨bi, 0, none⟩) 1 1],
         fun _ u _ => u = .slice (some ⟨bY, oY, none⟩) 2 cy,
         fun _ u _ => u = .pointer (some ⟨bY, oY, none⟩),
         fun _ u _ => u = .agg #[.int .i64 (-1), .string noStr, .string noStr, .int .i64 1],
         fun _ u _ => u = .slice (some ⟨bs, 0, none⟩) 2 2,
         fun _ u _ => u = .agg #[.int .i64 1, .int .i64 x, .string noStr],
         fun _ u w' => SlV valR (fun _ => True) w' u [intV x],
         fun _ u _ => u = .bool true,
         fun _ u _ => u = .bool true]
        (Below w12.heap.size w12)
      case hF =>
        intro v
        simp only [setAll, List.foldl_cons, List.foldl_nil, Act.put, List.setIfInBounds_toArray, List.set_cons_succ, List.set_cons_zero]
        exact rfl
      case hm => kernel_rfl
      case hB => kernel_rfl
      case hsz => kernel_rfl
      case hC => exact fun w1 w2 h b => h.trans (b.mono h.size)
      case hw => exact Below.drew (Below.refl _ _)
      case hS =>
        intro D hD v u
        simp only [List.mem_cons, List.not_mem_nil, or_false] at hD
        rcases hD with rfl | rfl | rfl | rfl | rfl | rfl | rfl | rfl | rfl | rfl | rfl | rfl | rfl | rfl | rfl | rfl | rfl | rfl | rfl | rfl | rfl | rfl | rfl
        · exact fun w1 w2 h _ => h
        · exact fun w1 w2 h _ => h
        · exact fun w1 w2 h _ => h
        · exact fun w1 w2 h _ => h
        · exact fun w1 w2 h _ => h
        · exact fun w1 w2 h _ => h
        · exact fun w1 w2 h _ => h
        · exact fun w1 w2 h _ => h
        · exact fun w1 w2 h hb => h.below hb
        · exact fun w1 w2 h _ => h
        · exact fun w1 w2 h _ => h
        · exact fun w1 w2 h _ => h
        · exact fun w1 w2 h _ => h
        · exact fun w1 w2 h _ => h
        · exact fun w1 w2 h _ => h
        · exact fun w1 w2 h _ => h
        · exact fun w1 w2 h _ => h
        · exact fun w1 w2 h _ => h
        · exact fun w1 w2 h _ => h
        · exact fun w1 w2 h _ => h
        · exact fun w1 w2 h hb => h.below hb
        · exact fun w1 w2 h _ => h
        · exact fun w1 w2 h _ => h
      case hob =>
        apply grow_cons
        · intro v w1 h1 hd
          clear hd
          have H1 := Lib.hid h1
          clear h1
          go_wp2_with fail
          all_goals exact Below.refl _ _
        apply grow_cons
        · intro v w1 h1 hd
          have g50 : v 50 = .bool true := hd 0 _ _ _ rfl rfl rfl rfl
          clear hd
          rw [g50]
          clear g50
          have H1 := Lib.hid h1
          clear h1
          go_wp2_with fail
          all_goals exact Below.refl _ _
        apply grow_cons
        · intro v w1 h1 hd
          have g51 : v 51 = .bool true := hd 1 _ _ _ rfl rfl rfl rfl
          clear hd
          rw [g51]
          clear g51
          have H1 := Lib.hid h1
          clear h1
          have hk := (H1.out.block _ (lt_of_block HT.out)).trans HT.out
          have t0 := cells_of hk 0
          have t1 := cells_of hk 1
          have t2 := cells_of hk 2
          have t3 := cells_of hk 3
          simp only [List.getElem?_toArray, List.getElem?_cons_zero, List.getElem?_cons_succ] at t0 t1 t2 t3
          clear hk
          go_wp2_with fail
          all_goals exact Below.refl _ _
        apply grow_cons
        · intro v w1 h1 hd
          have g51 : v 51 = .bool true := hd 1 _ _ _ rfl rfl rfl rfl
          clear hd
          rw [g51]
          clear g51
          have H1 := Lib.hid h1
          clear h1
          go_wp2_with fail
          all_goals exact Below.refl _ _
        apply grow_cons
        · intro v w1 h1 hd
          have g53 : v 53 = .slice (some ⟨bY, oY, none⟩) 2 cy := hd 3 _ _ _ rfl rfl rfl rfl
          have g51 : v 51 = .bool true := hd 1 _ _ _ rfl rfl rfl rfl
          clear hd
          rw [g53, g51]
          clear g53 g51
          have H1 := Lib.hid h1
          clear h1
          go_wp2_with fail
          all_goals exact Below.refl _ _
        apply grow_cons
        · intro v w1 h1 hd
          have g54 : v 54 = .pointer (some ⟨bY, oY + 4, none⟩) := hd 4 _ _ _ rfl rfl rfl rfl
          have g51 : v 51 = .bool true := hd 1 _ _ _ rfl rfl rfl rfl
          clear hd
          rw [g54, g51]
          clear g54 g51
          have H1 := Lib.hid h1
          clear h1
          have y0 := (H1.out.cell (p := ⟨bY, oY + 4, none⟩) hbY).trans Y2.out.1
          have y1 := (H1.out.cell (p := ⟨bY, oY + 4 + 1, none⟩) hbY).trans Y2.out.2.1
          have y2 := (H1.out.cell (p := ⟨bY, oY + 4 + 2, none⟩) hbY).trans Y2.out.2.2.1
          have y3 := (H1.out.cell (p := ⟨bY, oY + 4 + 3, none⟩) hbY).trans Y2.out.2.2.2
          go_wp2_with fail
          all_goals exact Below.refl _ _
        apply grow_cons
        · intro v w1 h1 hd
          have g51 : v 51 = .bool true := hd 1 _ _ _ rfl rfl rfl rfl
          clear hd
          rw [g51]
          clear g51
          have H1 := Lib.hid h1
          clear h1
          go_wp2_with fail
          all_goals exact Below.refl _ _
        apply grow_cons
        · intro v w1 h1 hd
          have g51 : v 51 = .bool true := hd 1 _ _ _ rfl rfl rfl rfl
          clear hd
          rw [g51]
          clear g51
          have H1 := Lib.hid h1
          clear h1
          have hk := (H1.out.block _ (lt_of_block HX.out)).trans HX.out
          have x0 := cells_of hk 0
          have x1 := cells_of hk 1
          have x2 := cells_of hk 2
          simp only [List.getElem?_toArray, List.getElem?_cons_zero, List.getElem?_cons_succ] at x0 x1 x2
          clear hk
          go_wp2_with fail
          all_goals exact Below.refl _ _
        apply grow_cons
        · intro v w1 h1 hd
          have g57 : v 57 = .agg #[.int .i64 1, .int .i64 x, .string noStr] := hd 7 _ _ _ rfl rfl rfl rfl
          have g51 : v 51 = .bool true := hd 1 _ _ _ rfl rfl rfl rfl
          clear hd
          rw [g57, g51]
          clear g57 g51
          have H1 := Lib.hid h1
          clear h1
          go_wp2_with fail
          all_goals exact ⟨(Below.refl _ _).alloc (Nat.le_refl _) _, sl_block (enc := valEnc) (hl := fun _ => rfl) [intV x] (heap_alloc_new _ _) trivial rfl rfl (by simp)⟩
        apply grow_cons
        · intro v w1 h1 hd
          have g52 : v 52 = .agg #[.int .i64 0, .string ⟨#[116]⟩, .slice (some ⟨bc, 0, none⟩) 1 1, .slice (some ⟨bi, 0, none⟩) 1 1] := hd 2 _ _ _ rfl rfl rfl rfl
          have g55 : v 55 = .agg #[.int .i64 0, .string kl, .string kh, .int .i64 co] := hd 5 _ _ _ rfl rfl rfl rfl
          have g56 : v 56 = .slice (some ⟨bs, 0, none⟩) 2 2 := hd 6 _ _ _ rfl rfl rfl rfl
          obtain ⟨ar, cr, g58, hr⟩ := SlV.shape' (show SlV valR (fun _ => True) w1 (v 58) [intV x] from hd 8 _ _ _ rfl rfl rfl rfl)
          have HR := Lib.hid hr
          clear hr
          have g51 : v 51 = .bool true := hd 1 _ _ _ rfl rfl rfl rfl
          clear hd
          rw [g52, g55, g56, g58, g51]
          clear g52 g55 g56 g58 g51
          have H1 := Lib.hid h1
          clear h1
          go_wp2_with fail
          refine (covers_any (HTV.out.below H1.out) ⟨0, kl, kh, co⟩ _ ar cr [intV x] HR.out (fun q hq => by rw [List.mem_singleton.1 hq]; exact HF.out.2.2) (HEQ.out.below H1.out) ⟨_, _, _, rfl⟩).mono ?_
          rintro e w6 ⟨rfl, b6⟩
          rw [HCV.out]
          go_wp2_with fail
          all_goals exact b6
        apply grow_cons
        · intro v w1 h1 hd
          have g51 : v 51 = .bool true := hd 1 _ _ _ rfl rfl rfl rfl
          clear hd
          rw [g51]
          clear g51
          have H1 := Lib.hid h1
          clear h1
          go_wp2_with fail
          all_goals exact Below.refl _ _
        apply grow_cons
        · intro v w1 h1 hd
          have g59 : v 59 = .bool false := hd 9 _ _ _ rfl rfl rfl rfl
          have g60 : v 60 = .bool false := hd 10 _ _ _ rfl rfl rfl rfl
          have g51 : v 51 = .bool true := hd 1 _ _ _ rfl rfl rfl rfl
          clear hd
          rw [g59, g60, g51]
          clear g59 g60 g51
          have H1 := Lib.hid h1
          clear h1
          go_wp2_with fail
          all_goals exact Below.refl _ _
        apply grow_cons
        · intro v w1 h1 hd
          have g51 : v 51 = .bool true := hd 1 _ _ _ rfl rfl rfl rfl
          have g61 : v 61 = .bool true := hd 11 _ _ _ rfl rfl rfl rfl
          clear hd
          rw [g51, g61]
          clear g51 g61
          have H1 := Lib.hid h1
          clear h1
          go_wp2_with fail
          all_goals exact Below.refl _ _
        apply grow_cons
        · intro v w1 h1 hd
          have g62 : v 62 = .bool true := hd 12 _ _ _ rfl rfl rfl rfl
          clear hd
          rw [g62]
          clear g62
          have H1 := Lib.hid h1
          clear h1
          go_wp2_with fail
          all_goals exact Below.refl _ _
        apply grow_cons
        · intro v w1 h1 hd
          have g63 : v 63 = .bool true := hd 13 _ _ _ rfl rfl rfl rfl
          clear hd
          rw [g63]
          clear g63
          have H1 := Lib.hid h1
          clear h1
          have hk := (H1.out.block _ (lt_of_block HT.out)).trans HT.out
          have t0 := cells_of hk 0
          have t1 := cells_of hk 1
          have t2 := cells_of hk 2
          have t3 := cells_of hk 3
          simp only [List.getElem?_toArray, List.getElem?_cons_zero, List.getElem?_cons_succ] at t0 t1 t2 t3
          clear hk
          go_wp2_with fail
          all_goals exact Below.refl _ _
        apply grow_cons
        · intro v w1 h1 hd
          have g63 : v 63 = .bool true := hd 13 _ _ _ rfl rfl rfl rfl
          clear hd
          rw [g63]
          clear g63
          have H1 := Lib.hid h1
          clear h1
          go_wp2_with fail
          all_goals exact Below.refl _ _
        apply grow_cons
        · intro v w1 h1 hd
          have g65 : v 65 = .slice (some ⟨bY, oY, none⟩) 2 cy := hd 15 _ _ _ rfl rfl rfl rfl
          have g63 : v 63 = .bool true := hd 13 _ _ _ rfl rfl rfl rfl
          clear hd
          rw [g65, g63]
          clear g65 g63
          have H1 := Lib.hid h1
          clear h1
          go_wp2_with fail
          all_goals exact Below.refl _ _
        apply grow_cons
        · intro v w1 h1 hd
          have g66 : v 66 = .pointer (some ⟨bY, oY, none⟩) := hd 16 _ _ _ rfl rfl rfl rfl
          have g63 : v 63 = .bool true := hd 13 _ _ _ rfl rfl rfl rfl
          clear hd
          rw [g66, g63]
          clear g66 g63
          have H1 := Lib.hid h1
          clear h1
          have y0 := (H1.out.cell (p := ⟨bY, oY, none⟩) hbY).trans Y1.out.1
          have y1 := (H1.out.cell (p := ⟨bY, oY + 1, none⟩) hbY).trans Y1.out.2.1
          have y2 := (H1.out.cell (p := ⟨bY, oY + 2, none⟩) hbY).trans Y1.out.2.2.1
          have y3 := (H1.out.cell (p := ⟨bY, oY + 3, none⟩) hbY).trans Y1.out.2.2.2
          go_wp2_with fail
          all_goals exact Below.refl _ _
        apply grow_cons
        · intro v w1 h1 hd
          have g63 : v 63 = .bool true := hd 13 _ _ _ rfl rfl rfl rfl
          clear hd
          rw [g63]
          clear g63
          have H1 := Lib.hid h1
          clear h1
          go_wp2_with fail
          all_goals exact Below.refl _ _
        apply grow_cons
        · intro v w1 h1 hd
          have g63 : v 63 = .bool true := hd 13 _ _ _ rfl rfl rfl rfl
          clear hd
          rw [g63]
          clear g63
          have H1 := Lib.hid h1
          clear h1
          have hk := (H1.out.block _ (lt_of_block HX.out)).trans HX.out
          have x0 := cells_of hk 0
          have x1 := cells_of hk 1
          have x2 := cells_of hk 2
          simp only [List.getElem?_toArray, List.getElem?_cons_zero, List.getElem?_cons_succ] at x0 x1 x2
          clear hk
          go_wp2_with fail
          all_goals exact Below.refl _ _
        apply grow_cons
        · intro v w1 h1 hd
          have g69 : v 69 = .agg #[.int .i64 1, .int .i64 x, .string noStr] := hd 19 _ _ _ rfl rfl rfl rfl
          have g63 : v 63 = .bool true := hd 13 _ _ _ rfl rfl rfl rfl
          clear hd
          rw [g69, g63]
          clear g69 g63
          have H1 := Lib.hid h1
          clear h1
          go_wp2_with fail
          all_goals exact ⟨(Below.refl _ _).alloc (Nat.le_refl _) _, sl_block (enc := valEnc) (hl := fun _ => rfl) [intV x] (heap_alloc_new _ _) trivial rfl rfl (by simp)⟩
        apply grow_cons
        · intro v w1 h1 hd
          have g64 : v 64 = .agg #[.int .i64 0, .string ⟨#[116]⟩, .slice (some ⟨bc, 0, none⟩) 1 1, .slice (some ⟨bi, 0, none⟩) 1 1] := hd 14 _ _ _ rfl rfl rfl rfl
          have g67 : v 67 = .agg #[.int .i64 (-1), .string noStr, .string noStr, .int .i64 1] := hd 17 _ _ _ rfl rfl rfl rfl
          have g68 : v 68 = .slice (some ⟨bs, 0, none⟩) 2 2 := hd 18 _ _ _ rfl rfl rfl rfl
          obtain ⟨ar, cr, g70, hr⟩ := SlV.shape' (show SlV valR (fun _ => True) w1 (v 70) [intV x] from hd 20 _ _ _ rfl rfl rfl rfl)
          have HR := Lib.hid hr
          clear hr
          have g63 : v 63 = .bool true := hd 13 _ _ _ rfl rfl rfl rfl
          clear hd
          rw [g64, g67, g68, g70, g63]
          clear g64 g67 g68 g70 g63
          have H1 := Lib.hid h1
          clear h1
          go_wp2_with fail
          refine (covers_any (HTV.out.below H1.out) ⟨-1, noStr, noStr, 1⟩ _ ar cr [intV x] HR.out (fun q hq => by rw [List.mem_singleton.1 hq]; exact HF.out.2.2) (HEQ.out.below H1.out) ⟨_, _, _, rfl⟩).mono ?_
          rintro e w6 ⟨rfl, b6⟩
          rw [show coversOf bT ⟨-1, noStr, noStr, 1⟩ [intV x] = true from by unfold coversOf; rw [if_pos (Or.inl (by decide))]]
          go_wp2_with fail
          all_goals exact b6
        apply grow_cons
        · intro v w1 h1 hd
          have g63 : v 63 = .bool true := hd 13 _ _ _ rfl rfl rfl rfl
          have g71 : v 71 = .bool true := hd 21 _ _ _ rfl rfl rfl rfl
          clear hd
          rw [g63, g71]
          clear g63 g71
          have H1 := Lib.hid h1
          clear h1
          go_wp2_with fail
          all_goals exact Below.refl _ _
        exact grow_nil
      case hend =>
        intro v w6 h1 hd o ho
        obtain rfl := Option.some.inj (ho : some _ = some o)
        have g72 : v 72 = .bool true := hd 22 _ _ _ rfl rfl rfl
        clear hd ho
        rw [g72]
        have BE := Lib.hid (BQ.out.trans (h1.mono BQ.out.size))
        clear g72 h1
        generalize v 50 = y50, v 51 = y51, v 52 = y52, v 53 = y53, v 54 = y54, v 55 = y55, v 56 = y56, v 57 = y57, v 58 = y58, v 59 = y59, v 60 = y60, v 61 = y61, v 62 = y62, v 63 = y63, v 64 = y64, v 65 = y65, v 66 = y66, v 67 = y67, v 68 = y68, v 69 = y69, v 70 = y70, v 71 = y71
        go_wp2_with fail
        go_ret
        exact ⟨rfl, BE.out⟩
  · obtain rfl : bo = false := by rw [← hbo2]; simp; omega
    clear hbo2 m0 m1 m2 x0 x1 x2
    have BQ := Lib.hid B11.out
    have HEQ := Lib.hid (HE.out.below BQ.out)
    go_upto_region 11 with (fail)
    apply wp_region_grow [50, 51, 52, 53, 54, 55, 56, 57, 58, 59, 60, 61, 62, 63, 64, 65, 66, 67, 68, 69, 70, 71, 72]
      [fun _ u _ => u = .bool true,
       fun _ u _ => u = .bool true,
       fun _ u _ => u = .agg #[.int .i64 0, .string ⟨#[116]⟩, .slice (some ⟨bc, 0, none⟩) 1 1, .slice (some ⟨bi, 0, none⟩) 1 1],
       fun _ u _ => u = .slice (some ⟨bY, oY, none⟩) 2 cy,
       fun _ u _ => u = .pointer (some ⟨bY, oY + 4, none⟩),
       fun _ u _ => u = .agg #[.int .i64 0, .string kl, .string kh, .int .i64 co],
       fun _ u _ => u = .slice (some ⟨bs, 0, none⟩) 2 2,
       fun _ u _ => u = .agg #[.int .i64 1, .int .i64 x, .string noStr],
       fun _ u w' => SlV valR (fun _ => True) w' u [intV x],
       fun _ u _ => u = .bool false,
       fun _ u _ => u = .bool false,
       fun _ u _ => u = .bool true,
       fun _ u _ => u = .bool true,
       fun _ u _ => u = .bool true,
       fun _ u _ => u = .agg #[.int .i64 0, .string ⟨#[116]⟩, .slice (some ⟨bc, 0, none⟩) 1 1, .slice (some ⟨bi, 0, none⟩) 1 1],
       fun _ u _ => u = .slice (some ⟨bY, oY, none⟩) 2 cy,
       fun _ u _ => u = .pointer (some ⟨bY, oY, none⟩),
       fun _ u _ => u = .agg #[.int .i64 (-1), .string noStr, .string noStr, .int .i64 1],
       fun _ u _ => u = .slice (some ⟨bs, 0, none⟩) 2 2,
       fun _ u _ => u = .agg #[.int .i64 1, .int .i64 x, .string noStr],
       fun _ u w' => SlV valR (fun _ => True) w' u [intV x],
       fun _ u _ => u = .bool true,
       fun _ u _ => u = .bool true]
      (Below w11.heap.size w11)
    case hF =>
      intro v
      simp only [setAll, List.foldl_cons, List.foldl_nil, Act.put, List.setIfInBounds_toArray, List.set_cons_succ, List.set_cons_zero]
      exact rfl
    case hm => kernel_rfl
    case hB => kernel_rfl
    case hsz => kernel_rfl
    case hC => exact fun w1 w2 h b => h.trans (b.mono h.size)
    case hw => exact Below.drew (Below.refl _ _)
    case hS =>
      intro D hD v u
      simp only [List.mem_cons, List.not_mem_nil, or_false] at hD
      rcases hD with rfl | rfl | rfl | rfl | rfl | rfl | rfl | rfl | rfl | rfl | rfl | rfl | rfl | rfl | rfl | rfl | rfl | rfl | rfl | rfl | rfl | rfl | rfl
      · exact fun w1 w2 h _ => h
      · exact fun w1 w2 h _ => h
      · exact fun w1 w2 h _ => h
      · exact fun w1 w2 h _ => h
      · exact fun w1 w2 h _ => h
      · exact fun w1 w2 h _ => h
      · exact fun w1 w2 h _ => h
      · exact fun w1 w2 h _ => h
      · exact fun w1 w2 h hb => h.below hb
      · exact fun w1 w2 h _ => h
      · exact fun w1 w2 h _ => h
      · exact fun w1 w2 h _ => h
      · exact fun w1 w2 h _ => h
      · exact fun w1 w2 h _ => h
      · exact fun w1 w2 h _ => h
      · exact fun w1 w2 h _ => h
      · exact fun w1 w2 h _ => h
      · exact fun w1 w2 h _ => h
      · exact fun w1 w2 h _ => h
      · exact fun w1 w2 h _ => h
      · exact fun w1 w2 h hb => h.below hb
      · exact fun w1 w2 h _ => h
      · exact fun w1 w2 h _ => h
    case hob =>
      apply grow_cons
      · intro v w1 h1 hd
        clear hd
        have H1 := Lib.hid h1
        clear h1
        go_wp2_with fail
        all_goals exact Below.refl _ _
      apply grow_cons
      · intro v w1 h1 hd
        have g50 : v 50 = .bool true := hd 0 _ _ _ rfl rfl rfl rfl
        clear hd
        rw [g50]
        clear g50
        have H1 := Lib.hid h1
        clear h1
        go_wp2_with fail
        all_goals exact Below.refl _ _
      apply grow_cons
      · intro v w1 h1 hd
        have g51 : v 51 = .bool true := hd 1 _ _ _ rfl rfl rfl rfl
        clear hd
        rw [g51]
        clear g51
        have H1 := Lib.hid h1
        clear h1
        have hk := (H1.out.block _ (lt_of_block HT.out)).trans HT.out
        have t0 := cells_of hk 0
        have t1 := cells_of hk 1
        have t2 := cells_of hk 2
        have t3 := cells_of hk 3
        simp only [List.getElem?_toArray, List.getElem?_cons_zero, List.getElem?_cons_succ] at t0 t1 t2 t3
        clear hk
        go_wp2_with fail
        all_goals exact Below.refl _ _
      apply grow_cons
      · intro v w1 h1 hd
        have g51 : v 51 = .bool true := hd 1 _ _ _ rfl rfl rfl rfl
        clear hd
        rw [g51]
        clear g51
        have H1 := Lib.hid h1
        clear h1
        go_wp2_with fail
        all_goals exact Below.refl _ _
      apply grow_cons
      · intro v w1 h1 hd
        have g53 : v 53 = .slice (some ⟨bY, oY, none⟩) 2 cy := hd 3 _ _ _ rfl rfl rfl rfl
        have g51 : v 51 = .bool true := hd 1 _ _ _ rfl rfl rfl rfl
        clear hd
        rw [g53, g51]
        clear g53 g51
        have H1 := Lib.hid h1
        clear h1
        go_wp2_with fail
        all_goals exact Below.refl _ _
      apply grow_cons
      · intro v w1 h1 hd
        have g54 : v 54 = .pointer (some ⟨bY, oY + 4, none⟩) := hd 4 _ _ _ rfl rfl rfl rfl
        have g51 : v 51 = .bool true := hd 1 _ _ _ rfl rfl rfl rfl
        clear hd
        rw [g54, g51]
        clear g54 g51
        have H1 := Lib.hid h1
        clear h1
        have y0 := (H1.out.cell (p := ⟨bY, oY + 4, none⟩) hbY).trans Y2.out.1
        have y1 := (H1.out.cell (p := ⟨bY, oY + 4 + 1, none⟩) hbY).trans Y2.out.2.1
        have y2 := (H1.out.cell (p := ⟨bY, oY + 4 + 2, none⟩) hbY).trans Y2.out.2.2.1
        have y3 := (H1.out.cell (p := ⟨bY, oY + 4 + 3, none⟩) hbY).trans Y2.out.2.2.2
        go_wp2_with fail
        all_goals exact Below.refl _ _
      apply grow_cons
      · intro v w1 h1 hd
        have g51 : v 51 = .bool true := hd 1 _ _ _ rfl rfl rfl rfl
        clear hd
        rw [g51]
        clear g51
        have H1 := Lib.hid h1
        clear h1
        go_wp2_with fail
        all_goals exact Below.refl _ _
      apply grow_cons
      · intro v w1 h1 hd
        have g51 : v 51 = .bool true := hd 1 _ _ _ rfl rfl rfl rfl
        clear hd
        rw [g51]
        clear g51
        have H1 := Lib.hid h1
        clear h1
        have hk := (H1.out.block _ (lt_of_block HX.out)).trans HX.out
        have x0 := cells_of hk 0
        have x1 := cells_of hk 1
        have x2 := cells_of hk 2
        simp only [List.getElem?_toArray, List.getElem?_cons_zero, List.getElem?_cons_succ] at x0 x1 x2
        clear hk
        go_wp2_with fail
        all_goals exact Below.refl _ _
      apply grow_cons
      · intro v w1 h1 hd
        have g57 : v 57 = .agg #[.int .i64 1, .int .i64 x, .string noStr] := hd 7 _ _ _ rfl rfl rfl rfl
        have g51 : v 51 = .bool true := hd 1 _ _ _ rfl rfl rfl rfl
        clear hd
        rw [g57, g51]
        clear g57 g51
        have H1 := Lib.hid h1
        clear h1
        go_wp2_with fail
        all_goals exact ⟨(Below.refl _ _).alloc (Nat.le_refl _) _, sl_block (enc := valEnc) (hl := fun _ => rfl) [intV x] (heap_alloc_new _ _) trivial rfl rfl (by simp)⟩
      apply grow_cons
      · intro v w1 h1 hd
        have g52 : v 52 = .agg #[.int .i64 0, .string ⟨#[116]⟩, .slice (some ⟨bc, 0, none⟩) 1 1, .slice (some ⟨bi, 0, none⟩) 1 1] := hd 2 _ _ _ rfl rfl rfl rfl
        have g55 : v 55 = .agg #[.int .i64 0, .string kl, .string kh, .int .i64 co] := hd 5 _ _ _ rfl rfl rfl rfl
        have g56 : v 56 = .slice (some ⟨bs, 0, none⟩) 2 2 := hd 6 _ _ _ rfl rfl rfl rfl
        obtain ⟨ar, cr, g58, hr⟩ := SlV.shape' (show SlV valR (fun _ => True) w1 (v 58) [intV x] from hd 8 _ _ _ rfl rfl rfl rfl)
        have HR := Lib.hid hr
        clear hr
        have g51 : v 51 = .bool true := hd 1 _ _ _ rfl rfl rfl rfl
        clear hd
        rw [g52, g55, g56, g58, g51]
        clear g52 g55 g56 g58 g51
        have H1 := Lib.hid h1
        clear h1
        go_wp2_with fail
        refine (covers_any (HTV.out.below H1.out) ⟨0, kl, kh, co⟩ _ ar cr [intV x] HR.out (fun q hq => by rw [List.mem_singleton.1 hq]; exact HF.out.2.2) (HEQ.out.below H1.out) ⟨_, _, _, rfl⟩).mono ?_
        rintro e w6 ⟨rfl, b6⟩
        rw [HCV.out]
        go_wp2_with fail
        all_goals exact b6
      apply grow_cons
      · intro v w1 h1 hd
        have g51 : v 51 = .bool true := hd 1 _ _ _ rfl rfl rfl rfl
        clear hd
        rw [g51]
        clear g51
        have H1 := Lib.hid h1
        clear h1
        go_wp2_with fail
        all_goals exact Below.refl _ _
      apply grow_cons
      · intro v w1 h1 hd
        have g59 : v 59 = .bool false := hd 9 _ _ _ rfl rfl rfl rfl
        have g60 : v 60 = .bool false := hd 10 _ _ _ rfl rfl rfl rfl
        have g51 : v 51 = .bool true := hd 1 _ _ _ rfl rfl rfl rfl
        clear hd
        rw [g59, g60, g51]
        clear g59 g60 g51
        have H1 := Lib.hid h1
        clear h1
        go_wp2_with fail
        all_goals exact Below.refl _ _
      apply grow_cons
      · intro v w1 h1 hd
        have g51 : v 51 = .bool true := hd 1 _ _ _ rfl rfl rfl rfl
        have g61 : v 61 = .bool true := hd 11 _ _ _ rfl rfl rfl rfl
        clear hd
        rw [g51, g61]
        clear g51 g61
        have H1 := Lib.hid h1
        clear h1
        go_wp2_with fail
        all_goals exact Below.refl _ _
      apply grow_cons
      · intro v w1 h1 hd
        have g62 : v 62 = .bool true := hd 12 _ _ _ rfl rfl rfl rfl
        clear hd
        rw [g62]
        clear g62
        have H1 := Lib.hid h1
        clear h1
        go_wp2_with fail
        all_goals exact Below.refl _ _
      apply grow_cons
      · intro v w1 h1 hd
        have g63 : v 63 = .bool true := hd 13 _ _ _ rfl rfl rfl rfl
        clear hd
        rw [g63]
        clear g63
        have H1 := Lib.hid h1
        clear h1
        have hk := (H1.out.block _ (lt_of_block HT.out)).trans HT.out
        have t0 := cells_of hk 0
        have t1 := cells_of hk 1
        have t2 := cells_of hk 2
        have t3 := cells_of hk 3
        simp only [List.getElem?_toArray, List.getElem?_cons_zero, List.getElem?_cons_succ] at t0 t1 t2 t3
        clear hk
        go_wp2_with fail
        all_goals exact Below.refl _ _
      apply grow_cons
      · intro v w1 h1 hd
        have g63 : v 63 = .bool true := hd 13 _ _ _ rfl rfl rfl rfl
        clear hd
        rw [g63]
        clear g63
        have H1 := Lib.hid h1
        clear h1
        go_wp2_with fail
        all_goals exact Below.refl _ _
      apply grow_cons
      · intro v w1 h1 hd
        have g65 : v 65 = .slice (some ⟨bY, oY, none⟩) 2 cy := hd 15 _ _ _ rfl rfl rfl rfl
        have g63 : v 63 = .bool true := hd 13 _ _ _ rfl rfl rfl rfl
        clear hd
        rw [g65, g63]
        clear g65 g63
        have H1 := Lib.hid h1
        clear h1
        go_wp2_with fail
        all_goals exact Below.refl _ _
      apply grow_cons
      · intro v w1 h1 hd
        have g66 : v 66 = .pointer (some ⟨bY, oY, none⟩) := hd 16 _ _ _ rfl rfl rfl rfl
        have g63 : v 63 = .bool true := hd 13 _ _ _ rfl rfl rfl rfl
        clear hd
        rw [g66, g63]
        clear g66 g63
        have H1 := Lib.hid h1
        clear h1
        have y0 := (H1.out.cell (p := ⟨bY, oY, none⟩) hbY).trans Y1.out.1
        have y1 := (H1.out.cell (p := ⟨bY, oY + 1, none⟩) hbY).trans Y1.out.2.1
        have y2 := (H1.out.cell (p := ⟨bY, oY + 2, none⟩) hbY).trans Y1.out.2.2.1
        have y3 := (H1.out.cell (p := ⟨bY, oY + 3, none⟩) hbY).trans Y1.out.2.2.2
        go_wp2_with fail
        all_goals exact Below.refl _ _
      apply grow_cons
      · intro v w1 h1 hd
        have g63 : v 63 = .bool true := hd 13 _ _ _ rfl rfl rfl rfl
        clear hd
        rw [g63]
        clear g63
        have H1 := Lib.hid h1
        clear h1
        go_wp2_with fail
        all_goals exact Below.refl _ _
      apply grow_cons
      · intro v w1 h1 hd
        have g63 : v 63 = .bool true := hd 13 _ _ _ rfl rfl rfl rfl
        clear hd
        rw [g63]
        clear g63
        have H1 := Lib.hid h1
        clear h1
        have hk := (H1.out.block _ (lt_of_block HX.out)).trans HX.out
        have x0 := cells_of hk 0
        have x1 := cells_of hk 1
        have x2 := cells_of hk 2
        simp only [List.getElem?_toArray, List.getElem?_cons_zero, List.getElem?_cons_succ] at x0 x1 x2
        clear hk
        go_wp2_with fail
        all_goals exact Below.refl _ _
      apply grow_cons
      · intro v w1 h1 hd
        have g69 : v 69 = .agg #[.int .i64 1, .int .i64 x, .string noStr] := hd 19 _ _ _ rfl rfl rfl rfl
        have g63 : v 63 = .bool true := hd 13 _ _ _ rfl rfl rfl rfl
        clear hd
        rw [g69, g63]
        clear g69 g63
        have H1 := Lib.hid h1
        clear h1
        go_wp2_with fail
        all_goals exact ⟨(Below.refl _ _).alloc (Nat.le_refl _) _, sl_block (enc := valEnc) (hl := fun _ => rfl) [intV x] (heap_alloc_new _ _) trivial rfl rfl (by simp)⟩
      apply grow_cons
      · intro v w1 h1 hd
        have g64 : v 64 = .agg #[.int .i64 0, .string ⟨#[116]⟩, .slice (some ⟨bc, 0, none⟩) 1 1, .slice (some ⟨bi, 0, none⟩) 1 1] := hd 14 _ _ _ rfl rfl rfl rfl
        have g67 : v 67 = .agg #[.int .i64 (-1), .string noStr, .string noStr, .int .i64 1] := hd 17 _ _ _ rfl rfl rfl rfl
        have g68 : v 68 = .slice (some ⟨bs, 0, none⟩) 2 2 := hd 18 _ _ _ rfl rfl rfl rfl
        obtain ⟨ar, cr, g70, hr⟩ := SlV.shape' (show SlV valR (fun _ => True) w1 (v 70) [intV x] from hd 20 _ _ _ rfl rfl rfl rfl)
        have HR := Lib.hid hr
        clear hr
        have g63 : v 63 = .bool true := hd 13 _ _ _ rfl rfl rfl rfl
        clear hd
        rw [g64, g67, g68, g70, g63]
        clear g64 g67 g68 g70 g63
        have H1 := Lib.hid h1
        clear h1
        go_wp2_with fail
        refine (covers_any (HTV.out.below H1.out) ⟨-1, noStr, noStr, 1⟩ _ ar cr [intV x] HR.out (fun q hq => by rw [List.mem_singleton.1 hq]; exact HF.out.2.2) (HEQ.out.below H1.out) ⟨_, _, _, rfl⟩).mono ?_
        rintro e w6 ⟨rfl, b6⟩
        rw [show coversOf bT ⟨-1, noStr, noStr, 1⟩ [intV x] = true from by unfold coversOf; rw [if_pos (Or.inl (by decide))]]
        go_wp2_with fail
        all_goals exact b6
      apply grow_cons
      · intro v w1 h1 hd
        have g63 : v 63 = .bool true := hd 13 _ _ _ rfl rfl rfl rfl
        have g71 : v 71 = .bool true := hd 21 _ _ _ rfl rfl rfl rfl
        clear hd
        rw [g63, g71]
        clear g63 g71
        have H1 := Lib.hid h1
        clear h1
        go_wp2_with fail
        all_goals exact Below.refl _ _
      exact grow_nil
    case hend =>
      intro v w6 h1 hd o ho
      obtain rfl := Option.some.inj (ho : some _ = some o)
      have g72 : v 72 = .bool true := hd 22 _ _ _ rfl rfl rfl
      clear hd ho
      rw [g72]
      have BE := Lib.hid (BQ.out.trans (h1.mono BQ.out.size))
      clear g72 h1
      generalize v 50 = y50, v 51 = y51, v 52 = y52, v 53 = y53, v 54 = y54, v 55 = y55, v 56 = y56, v 57 = y57, v 58 = y58, v 59 = y59, v 60 = y60, v 61 = y61, v 62 = y62, v 63 = y63, v 64 = y64, v 65 = y65, v 66 = y66, v 67 = y67, v 68 = y68, v 69 = y69, v 70 = y70, v 71 = y71
      go_wp2_with fail
      go_ret
      exact ⟨rfl, BE.out⟩
end Go.Proofs.YtajlngkakpjncaaDoor
