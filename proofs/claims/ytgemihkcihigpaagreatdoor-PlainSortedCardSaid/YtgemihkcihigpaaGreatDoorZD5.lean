/- The reference's equality of lists of rows, and of answers. -/
import Derived.Test.YtgemihkcihigpaaGreatDoorZB29
import Derived.Test.YtgemihkcihigpaaGreatDoorZD2
import Derived.Test.YtgemihkcihigpaaGreatDoorZD3
set_option linter.unusedVariables false
set_option linter.unusedSimpArgs false
namespace Go.Proofs.YtgemihkcihigpaaGreatDoor
open Go.Lib (hid)
section
open Go.RowKit
def FineL (L : List (List Val)) : Prop := ∀ r ∈ L, FineR r
theorem sameR_miss {x y : List Val} {t : Nat} (ht : t < x.length) (h : sameV (vAt x t) (vAt y t) = false) : sameR x y = false := by
 unfold sameR
 rw [allN_miss ht h, Bool.and_false]
theorem sameR_hit {x y : List Val} (hl : x.length = y.length) (h : ∀ t, t < x.length -> sameV (vAt x t) (vAt y t) = true) : sameR x y = true := by
 unfold sameR
 rw [decide_eq_true hl, allN_hit h]
 rfl
theorem sameR_len {x y : List Val} (hl : x.length ≠ y.length) : sameR x y = false := by
 unfold sameR
 rw [decide_eq_false hl]
 rfl
theorem sameL_miss {x y : List (List Val)} {t : Nat} (ht : t < x.length) (h : sameR (rAt x t) (rAt y t) = false) : sameRows x y = false := by
 unfold sameRows
 rw [allN_miss ht h, Bool.and_false]
theorem sameL_hit {x y : List (List Val)} (hl : x.length = y.length) (h : ∀ t, t < x.length -> sameR (rAt x t) (rAt y t) = true) : sameRows x y = true := by
 unfold sameRows
 rw [decide_eq_true hl, allN_hit h]
 rfl
set_option maxRecDepth 100000 in
set_option maxHeartbeats 8000000 in
theorem rrs_any {p q : Nat -> Prop} {a a' : Option Addr} {c c' : Nat} {x y : List (List Val)} {w : World} (hx : SlV rowR p w (.slice a x.length c) x) (hy : SlV rowR q w (.slice a' y.length c') y) (hs : FineL x) :
 Calls Tryz.prog 50 #[.slice a x.length c, .slice a' y.length c'] w fun e w' => e = .returned (.bool (sameRows x y)) /\ Below w.heap.size w w' := by
 have HX := hid hx
 have HY := hid hy
 have HS := hid hs
 by_cases hne : x.length = y.length
 · have HNE := hid hne
   have hnl := hx.row.2.2.1
   obtain ⟨n, hn⟩ : ∃ n, x.length = n := ⟨_, rfl⟩
   have hm : y.length = n := by omega
   have HN := hid hn
   have HM := hid hm
   rw [hn] at hnl ⊢
   rw [hm]
   clear hx hy hs hne hn hm
   go_enter Tryz.func50, Tryz.ntmps50
   go_wp2_with fail
   go_loopw [5] (fun i wr => ∃ k : Nat, k <= n /\ i = .int .i64 k /\ Hid (∀ t, t < k -> sameR (rAt x t) (rAt y t) = true) /\ Hid (Below w.heap.size w wr)) (fun i _ => n - (intOf i).toNat)
   case atStart => exact ⟨0, Nat.zero_le _, rfl, (fun t ht => by omega), Below.refl _ _⟩
   case round =>
   obtain ⟨k, hk, rfl, HF, HB⟩ := hrel
   by_cases hlt : k < n
   · have hkx : k < x.length := by rw [HN.out]; exact hlt
     have hky : k < y.length := by rw [HM.out]; exact hlt
     have rx := HX.out.row.2.2.2
     have ry := HY.out.row.2.2.2
     obtain ⟨b, off, rfl, _, hbl⟩ := rx.addr (by intro e; rw [e] at hkx; cases hkx)
     obtain ⟨b', off', rfl, _, hbl'⟩ := ry.addr (by intro e; rw [e] at hky; cases hky)
     obtain ⟨ra, rc, c0, hr⟩ := rx.lst k hkx
     obtain ⟨ra', rc', c0', hr'⟩ := ry.lst k hky
     have e1 := rAt_eq hkx
     have e2 := rAt_eq hky
     have hfr := HS.out _ (List.getElem_mem hkx)
     obtain ⟨u, hu⟩ : ∃ u, x[k] = u := ⟨_, rfl⟩
     obtain ⟨v, hv⟩ : ∃ v, y[k] = v := ⟨_, rfl⟩
     rw [hu] at hr c0 e1 hfr
     rw [hv] at hr' c0' e2
     have HR := hid hr
     have HR' := hid hr'
     have HC := hid (show _ /\ _ /\ _ /\ _ from ⟨c0, c0', hbl, hbl'⟩)
     have HE := hid (show _ /\ _ from ⟨e1, e2⟩)
     have HFR := hid hfr
     have HKX := hid hkx
     have hul := hr.row.2.2.1
     have hvl := hr'.row.2.2.1
     clear rx ry hr hr' c0 c0' e1 e2 hfr hu hv hkx hky hbl hbl'
     go_upto_region 6 with (fail)
     refine wp_region_class (Below wr.heap.size wr) (by kernel_rfl) (by kernel_rfl) (Below.drew b0R) (fun ne => ?_)
     have z0 := fun z : Wld (Below wr.heap.size wr) => ((HB.out.trans (z.good.mono HB.out.size)).cell (p := ⟨b, off + k, none⟩) HC.out.2.2.1).trans HC.out.1
     have z1 := fun z : Wld (Below wr.heap.size wr) => ((HB.out.trans (z.good.mono HB.out.size)).cell (p := ⟨b', off' + k, none⟩) HC.out.2.2.2).trans HC.out.2.1
     repeat (go_big_quiet_step (fail))
     refine wpQuiet_nil ?_
     intro w3 b3
     have B3 := hid (HB.out.trans (b3.mono HB.out.size))
     clear b3 z0 z1 ne
     by_cases hlen : u.length = v.length
     · obtain ⟨m, hm⟩ : ∃ m, u.length = m := ⟨_, rfl⟩
       have hm' : v.length = m := by omega
       rw [hm] at hul ⊢
       rw [hm']
       have HMU := hid hm
       have HMV := hid hm'
       clear hlen hm hm' hvl
       go_wp2_with fail
       go_loopw [6] (fun i wq => ∃ j : Nat, j <= m /\ i = .int .i64 j /\ Hid (∀ t, t < j -> sameV (vAt u t) (vAt v t) = true) /\ Hid (Below w.heap.size w wq)) (fun i _ => m - (intOf i).toNat)
       case atStart => exact ⟨0, Nat.zero_le _, rfl, (fun t ht => by omega), B3.out⟩
       case round =>
        obtain ⟨j, hj, rfl, HG, HD⟩ := hrel
        have cz := (HD.out.cell (p := ⟨b, off + k, none⟩) HC.out.2.2.1).trans HC.out.1
        have cz' := (HD.out.cell (p := ⟨b', off' + k, none⟩) HC.out.2.2.2).trans HC.out.2.1
        rw [HMU.out] at cz
        rw [HMV.out] at cz'
        by_cases hjm : j < m
        · have hju : j < u.length := by rw [HMU.out]; exact hjm
          have hjv : j < v.length := by rw [HMV.out]; exact hjm
          have ru := HR.out.row.2.2.2
          have rv := HR'.out.row.2.2.2
          obtain ⟨bu, ou, rfl, _, hbu⟩ := ru.addr (by intro e; rw [e] at hju; cases hju)
          obtain ⟨bv, ov, rfl, _, hbv⟩ := rv.addr (by intro e; rw [e] at hjv; cases hjv)
          obtain ⟨g0, g1, g2⟩ := ru.val j hju
          obtain ⟨h0, h1, h2⟩ := rv.val j hjv
          have e1 := vAt_eq hju
          have e2 := vAt_eq hjv
          have hfx := HFR.out _ (List.getElem_mem hju)
          obtain ⟨xu, hxu⟩ : ∃ z, u[j] = z := ⟨_, rfl⟩
          obtain ⟨yv, hyv⟩ : ∃ z, v[j] = z := ⟨_, rfl⟩
          rw [hxu] at g0 g1 g2 e1 hfx
          rw [hyv] at h0 h1 h2 e2
          have HL := hid (show b < wr.heap.size /\ b' < wr.heap.size /\ bu < wr.heap.size /\ bv < wr.heap.size from ⟨Nat.lt_of_lt_of_le HC.out.2.2.1 HD.out.size, Nat.lt_of_lt_of_le HC.out.2.2.2 HD.out.size, Nat.lt_of_lt_of_le hbu HD.out.size, Nat.lt_of_lt_of_le hbv HD.out.size⟩)
          have HUV := hid (show (_ /\ _ /\ _) /\ _ /\ _ /\ _ from ⟨⟨(HD.out.cell (p := ⟨bu, ou + j * 3, none⟩) hbu).trans g0, (HD.out.cell (p := ⟨bu, ou + j * 3 + 1, none⟩) hbu).trans g1, (HD.out.cell (p := ⟨bu, ou + j * 3 + 2, none⟩) hbu).trans g2⟩, (HD.out.cell (p := ⟨bv, ov + j * 3, none⟩) hbv).trans h0, (HD.out.cell (p := ⟨bv, ov + j * 3 + 1, none⟩) hbv).trans h1, (HD.out.cell (p := ⟨bv, ov + j * 3 + 2, none⟩) hbv).trans h2⟩)
          have HVE := hid (show sameV (vAt u j) (vAt v j) = (decide (xu.kind = yv.kind) && decide (cmpV xu yv = 0)) by rw [e1, e2]; rfl)
          have HFX := hid hfx
          have HJU := hid hju
          obtain ⟨d, hd⟩ : ∃ d, cmpV xu yv = d := ⟨_, rfl⟩
          have HCV := hid hd
          clear ru rv g0 g1 g2 h0 h1 h2 e1 e2 hfx hxu hyv hju hjv hbu hbv hd
          by_cases hkk : xu.kind = yv.kind
          · have k1 : (xu.kind != yv.kind) = false := by simpa using hkk
            have HKK := hid hkk
            clear hkk
            by_cases hd0 : d = 0
            · subst hd0
              have HW := hid (show sameV (vAt u j) (vAt v j) = true by rw [HVE.out, HCV.out, HKK.out]; simp)
              go_upto_region 11 with (fail)
              refine wp_region_class (Below wr.heap.size wr) (by kernel_rfl) (by kernel_rfl) (Below.drew b0R) (fun ne => ?_)
              have z0 := fun z : Wld (Below wr.heap.size wr) => (z.good.cell (p := ⟨b, off + k, none⟩) HL.out.1).trans cz
              have z1 := fun z : Wld (Below wr.heap.size wr) => (z.good.cell (p := ⟨b', off' + k, none⟩) HL.out.2.1).trans cz'
              have p0 := fun z : Wld (Below wr.heap.size wr) => (z.good.cell (p := ⟨bu, ou + j * 3, none⟩) HL.out.2.2.1).trans HUV.out.1.1
              have p1 := fun z : Wld (Below wr.heap.size wr) => (z.good.cell (p := ⟨bu, ou + j * 3 + 1, none⟩) HL.out.2.2.1).trans HUV.out.1.2.1
              have p2 := fun z : Wld (Below wr.heap.size wr) => (z.good.cell (p := ⟨bu, ou + j * 3 + 2, none⟩) HL.out.2.2.1).trans HUV.out.1.2.2
              have q0 := fun z : Wld (Below wr.heap.size wr) => (z.good.cell (p := ⟨bv, ov + j * 3, none⟩) HL.out.2.2.2).trans HUV.out.2.1
              have q1 := fun z : Wld (Below wr.heap.size wr) => (z.good.cell (p := ⟨bv, ov + j * 3 + 1, none⟩) HL.out.2.2.2).trans HUV.out.2.2.1
              have q2 := fun z : Wld (Below wr.heap.size wr) => (z.good.cell (p := ⟨bv, ov + j * 3 + 2, none⟩) HL.out.2.2.2).trans HUV.out.2.2.2
              repeat (go_big_quiet_step ((go_at_call 115; (refine Calls.mono (rcompare_any xu yv HFX.out _) ?_); rintro e w2 ⟨rfl, b2⟩; exact ⟨congrArg (fun q => Ending.returned (Value.int .i64 q)) HCV.out, class_below _ b2 (Nat.le_refl _)⟩)))
              refine wpQuiet_nil ?_
              intro w4 b4
              have B4 := hid (HD.out.trans (b4.mono HD.out.size))
              clear b4 z0 z1 p0 p1 p2 q0 q1 q2 ne
              go_wp2_with fail
              go_roundw
              case rel => exact ⟨j + 1, by omega, by go_num, (fun t ht => by
               rcases Nat.lt_or_eq_of_le (Nat.le_of_lt_succ ht) with h | rfl
               · exact HG.out t h
               · exact HW.out), B4⟩
              case measure => simp [intOf]; omega
            · have HZ := hid (sameL_miss (y := y) HKX.out (by rw [HE.out.1, HE.out.2]; exact sameR_miss HJU.out (by rw [HVE.out, HCV.out, decide_eq_false hd0, Bool.and_false])))
              have d1 : (d != 0) = true := by simpa using hd0
              go_upto_region 11 with (fail)
              refine wp_region_class (Below wr.heap.size wr) (by kernel_rfl) (by kernel_rfl) (Below.drew b0R) (fun ne => ?_)
              have z0 := fun z : Wld (Below wr.heap.size wr) => (z.good.cell (p := ⟨b, off + k, none⟩) HL.out.1).trans cz
              have z1 := fun z : Wld (Below wr.heap.size wr) => (z.good.cell (p := ⟨b', off' + k, none⟩) HL.out.2.1).trans cz'
              have p0 := fun z : Wld (Below wr.heap.size wr) => (z.good.cell (p := ⟨bu, ou + j * 3, none⟩) HL.out.2.2.1).trans HUV.out.1.1
              have p1 := fun z : Wld (Below wr.heap.size wr) => (z.good.cell (p := ⟨bu, ou + j * 3 + 1, none⟩) HL.out.2.2.1).trans HUV.out.1.2.1
              have p2 := fun z : Wld (Below wr.heap.size wr) => (z.good.cell (p := ⟨bu, ou + j * 3 + 2, none⟩) HL.out.2.2.1).trans HUV.out.1.2.2
              have q0 := fun z : Wld (Below wr.heap.size wr) => (z.good.cell (p := ⟨bv, ov + j * 3, none⟩) HL.out.2.2.2).trans HUV.out.2.1
              have q1 := fun z : Wld (Below wr.heap.size wr) => (z.good.cell (p := ⟨bv, ov + j * 3 + 1, none⟩) HL.out.2.2.2).trans HUV.out.2.2.1
              have q2 := fun z : Wld (Below wr.heap.size wr) => (z.good.cell (p := ⟨bv, ov + j * 3 + 2, none⟩) HL.out.2.2.2).trans HUV.out.2.2.2
              repeat (go_big_quiet_step ((go_at_call 115; (refine Calls.mono (rcompare_any xu yv HFX.out _) ?_); rintro e w2 ⟨rfl, b2⟩; exact ⟨congrArg (fun q => Ending.returned (Value.int .i64 q)) HCV.out, class_below _ b2 (Nat.le_refl _)⟩)))
              refine wpQuiet_nil ?_
              intro w4 b4
              have B4 := hid (HD.out.trans (b4.mono HD.out.size))
              clear b4 z0 z1 p0 p1 p2 q0 q1 q2 ne
              go_wp2_with fail
              go_ret
              exact ⟨by rw [HZ.out]; rfl, B4.out⟩
          · have k1 : (xu.kind != yv.kind) = true := by simpa using hkk
            have HZ := hid (sameL_miss (y := y) HKX.out (by rw [HE.out.1, HE.out.2]; exact sameR_miss HJU.out (by rw [HVE.out, decide_eq_false hkk, Bool.false_and])))
            go_upto_region 11 with (fail)
            refine wp_region_class (Below wr.heap.size wr) (by kernel_rfl) (by kernel_rfl) (Below.drew b0R) (fun ne => ?_)
            have z0 := fun z : Wld (Below wr.heap.size wr) => (z.good.cell (p := ⟨b, off + k, none⟩) HL.out.1).trans cz
            have z1 := fun z : Wld (Below wr.heap.size wr) => (z.good.cell (p := ⟨b', off' + k, none⟩) HL.out.2.1).trans cz'
            have p0 := fun z : Wld (Below wr.heap.size wr) => (z.good.cell (p := ⟨bu, ou + j * 3, none⟩) HL.out.2.2.1).trans HUV.out.1.1
            have p1 := fun z : Wld (Below wr.heap.size wr) => (z.good.cell (p := ⟨bu, ou + j * 3 + 1, none⟩) HL.out.2.2.1).trans HUV.out.1.2.1
            have p2 := fun z : Wld (Below wr.heap.size wr) => (z.good.cell (p := ⟨bu, ou + j * 3 + 2, none⟩) HL.out.2.2.1).trans HUV.out.1.2.2
            have q0 := fun z : Wld (Below wr.heap.size wr) => (z.good.cell (p := ⟨bv, ov + j * 3, none⟩) HL.out.2.2.2).trans HUV.out.2.1
            have q1 := fun z : Wld (Below wr.heap.size wr) => (z.good.cell (p := ⟨bv, ov + j * 3 + 1, none⟩) HL.out.2.2.2).trans HUV.out.2.2.1
            have q2 := fun z : Wld (Below wr.heap.size wr) => (z.good.cell (p := ⟨bv, ov + j * 3 + 2, none⟩) HL.out.2.2.2).trans HUV.out.2.2.2
            repeat (go_big_quiet_step (fail))
            refine wpQuiet_nil ?_
            intro w4 b4
            have B4 := hid (HD.out.trans (b4.mono HD.out.size))
            clear b4 z0 z1 p0 p1 p2 q0 q1 q2 ne
            go_wp2_with fail
            go_ret
            exact ⟨by rw [HZ.out]; rfl, B4.out⟩
        · have hjm' : j = m := by omega
          subst hjm'
          have HW := hid (sameR_hit (x := u) (y := v) (by rw [HMU.out, HMV.out]) (by rw [HMU.out]; exact HG.out))
          go_wp2_with fail
          go_roundw
          case rel => exact ⟨k + 1, by omega, by go_num, (fun t ht => by
           rcases Nat.lt_or_eq_of_le (Nat.le_of_lt_succ ht) with h | rfl
           · exact HF.out t h
           · rw [HE.out.1, HE.out.2]; exact HW.out), HD.out⟩
          case measure => simp [intOf]; omega
     · have HZ := hid (sameL_miss (y := y) HKX.out (by rw [HE.out.1, HE.out.2]; exact sameR_len hlen))
       have d1 : ((u.length : Int) != (v.length : Int)) = true := by simp; omega
       go_wp2_with fail
       go_ret
       exact ⟨by rw [HZ.out]; rfl, B3.out⟩
   · obtain rfl : k = n := by omega
     have HZ := hid (sameL_hit HNE.out (by rw [HN.out]; exact HF.out))
     go_wp2_with fail
     go_ret
     exact ⟨by rw [HZ.out]; rfl, HB.out⟩
 · have HZ := hid (show sameRows x y = false by unfold sameRows; rw [decide_eq_false hne]; rfl)
   clear hx hy hs
   go_enter Tryz.func50, Tryz.ntmps50
   go_wp2_with fail
   go_ret
   exact ⟨by rw [HZ.out]; rfl, Below.refl _ _⟩
set_option maxRecDepth 100000 in
set_option maxHeartbeats 4000000 in
theorem rsame_any {p q : Nat -> Prop} {a a' : Option Addr} {c c' : Nat} {ex ey nx ny : Int} {x y : List (List Val)} {w : World} (hx : SlV rowR p w (.slice a x.length c) x) (hy : SlV rowR q w (.slice a' y.length c') y) (hs : FineL x) :
 Calls Tryz.prog 17 #[.agg #[.int .i64 ex, .slice a x.length c, .int .i64 nx], .agg #[.int .i64 ey, .slice a' y.length c', .int .i64 ny]] w fun e w' => e = .returned (.bool (sameA ⟨ex, x, nx⟩ ⟨ey, y, ny⟩)) /\ Below w.heap.size w w' := by
 obtain ⟨W1, hW1⟩ : ∃ W1, w.alloc (.cells #[.int .i64 ex, .slice a x.length c, .int .i64 nx] 43) = W1 := ⟨_, rfl⟩
 obtain ⟨W2, hW2⟩ : ∃ W2, W1.alloc (.cells #[.int .i64 ey, .slice a' y.length c', .int .i64 ny] 43) = W2 := ⟨_, rfl⟩
 have hb1 : Below w.heap.size w W1 := by rw [<- hW1]; exact (b0R).alloc (Nat.le_refl _) _
 have h1s : W1.heap.size = w.heap.size + 1 := by rw [<- hW1]; exact Array.size_push _
 have hb2 : Below w.heap.size w W2 := by rw [<- hW2]; exact hb1.alloc (by omega) _
 have hp : W1.heap[w.heap.size]? = some (.cells #[.int .i64 ex, .slice a x.length c, .int .i64 nx] 43 (0, 0)) := by rw [<- hW1]; exact heap_alloc_new _ _
 have hb12 : Below W1.heap.size W1 W2 := by rw [<- hW2]; exact (b0R).alloc (Nat.le_refl _) _
 have hp2 := (hb12.block _ (lt_of_block hp)).trans hp
 have hq2 : W2.heap[w.heap.size + 1]? = some (.cells #[.int .i64 ey, .slice a' y.length c', .int .i64 ny] 43 (0, 0)) := by rw [<- hW2, <- h1s]; exact heap_alloc_new _ _
 have x0 := cells_of hp2 0
 have x1 := cells_of hp2 1
 have x2 := cells_of hp2 2
 have y0 := cells_of hq2 0
 have y1 := cells_of hq2 1
 have y2 := cells_of hq2 2
 simp only [gT, gZ, gS] at x0 x1 x2 y0 y1 y2
 have con := rrs_any (hx.below hb2) (hy.below hb2) hs
 have HF := hid (show sameA ⟨ex, x, nx⟩ ⟨ey, y, ny⟩ = (decide (ex = ey) && decide (nx = ny) && sameRows x y) from rfl)
 generalize sameRows x y = f at con HF
 have B2 := hid hb2
 clear hx hy hs hb1 hb2 hb12 hp hp2 hq2
 by_cases he : ex = ey
 · subst he
   by_cases hn : nx = ny
   · have HE := hid (show sameA ⟨ex, x, nx⟩ ⟨ex, y, ny⟩ = f by rw [HF.out, hn]; simp)
     subst hn
     go_enter Tryz.func17, Tryz.ntmps17
     go_upto_region 1 with (fail)
     clear hW1 hW2 h1s
     go_wp2_with fail
     refine con.mono ?_
     rintro e w2 ⟨rfl, b2⟩
     have B3 := hid (B2.out.trans (b2.mono B2.out.size))
     clear b2 con
     go_wp2_with fail
     go_ret
     exact ⟨by rw [HE.out]; rfl, B3.out⟩
   · have HE := hid (show sameA ⟨ex, x, nx⟩ ⟨ex, y, ny⟩ = false by rw [HF.out]; simp [hn])
     have d1 : (nx == ny) = false := by simpa using hn
     clear con
     go_enter Tryz.func17, Tryz.ntmps17
     go_upto_region 1 with (fail)
     clear hW1 hW2 h1s
     go_wp2_with fail
     go_ret
     exact ⟨by rw [HE.out]; rfl, B2.out⟩
 · have HE := hid (show sameA ⟨ex, x, nx⟩ ⟨ey, y, ny⟩ = false by rw [HF.out]; simp [he])
   have d1 : (ex == ey) = false := by simpa using he
   clear con
   go_enter Tryz.func17, Tryz.ntmps17
   go_upto_region 1 with (fail)
   clear hW1 hW2 h1s
   go_wp2_with fail
   go_ret
   exact ⟨by rw [HE.out]; rfl, B2.out⟩
end
end Go.Proofs.YtgemihkcihigpaaGreatDoor
