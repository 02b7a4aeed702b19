/- PlanRaw: the walk of the law. -/
import Derived.Test.YtajlngkakpjncaaDoorRTable
import Derived.Test.YtajlngkakpjncaaDoorSanity
import Derived.Test.YtajlngkakpjncaaDoorRCovers
namespace Go.Proofs.YtajlngkakpjncaaDoor
set_option linter.unusedVariables false
set_option linter.unusedSimpArgs false
open Go.RowKit

theorem RowAt.take {α : Type} {R : Rep α} {p : Nat → Prop} {w : World} {a : Option Addr} {L : List α} (h : RowAt R p w a L) (n : Nat) : RowAt R p w a (L.take n) := by
  rcases h with rfl | ⟨b, off, ha, hp, hb, h⟩
  · exact Or.inl (by simp)
  · refine Or.inr ⟨b, off, ha, hp, hb, fun t ht => ?_⟩
    have h1 : t < L.length := by simp at ht; omega
    rw [List.getElem_take]
    exact h t h1
theorem SlV.take {α : Type} {R : Rep α} {p : Nat → Prop} {w : World} {a : Option Addr} {cap : Nat} {L : List α} (h : SlV R p w (.slice a L.length cap) L) (n : Nat) (hn : n ≤ L.length) : SlV R p w (.slice a (L.take n).length cap) (L.take n) := by
  obtain ⟨_, h1, h2, h3⟩ := h.row
  have e : (L.take n).length = n := by simp; omega
  exact ⟨a, cap, rfl, by omega, by omega, h3.take n⟩
theorem valOf_fine (n : Int) (hn : -9223372036854775808 ≤ n ∧ n ≤ 9223372036854775807) : (valOf n).fine := by
  unfold valOf Val.fine
  simp only
  split
  · simp only; omega
  · split
    · simp only; omega
    · split
      · simp only; omega
      · split
        · exact hn
        · simp only; omega
theorem row_fine (T : Tab) (s : List Int) (hk : ∀ c ∈ T.cols, 1 ≤ c.2 ∧ c.2 ≤ 2) : ∀ v ∈ rowV T s, v.fine := by
  intro v hv
  simp only [rowV, rowTo, List.mem_map, List.mem_range] at hv
  obtain ⟨i, hi, rfl⟩ := hv
  rw [List.getD_eq_getElem?_getD, List.getElem?_eq_getElem hi]
  have h1 := hk T.cols[i] (List.getElem_mem hi)
  have h2 := takeV_bd s i 4000 (by decide)
  have h3 := takeV_bd s i 16 (by decide)
  simp only [Option.getD_some]
  unfold rowOne
  split
  · exact valOf_fine _ ⟨by omega, by omega⟩
  · split
    · exact valOf_fine _ ⟨by omega, by omega⟩
    · exact ⟨by decide, by decide⟩

set_option maxRecDepth 100000 in
set_option maxHeartbeats 16000000 in
theorem raw_walk {p1 p2 : Nat → Prop} {aT aU aW aV aR : Option Addr} {nU nW nV cT cU cW cV cR : Nat} {LT R : List Int} {r0 r1 wi wc : Int} {wl wh : ByteArray} {w : World} (hT : SlV intR p1 w (.slice aT LT.length cT) LT) (hR : SlV intR p2 w (.slice aR R.length cR) R)
    (hl : wl.size ≤ 140737488351232) (hh : wh.size ≤ 140737488351232) (he : Env w) :
    Calls Tryd.prog 6 #[.agg #[.slice aT LT.length cT, .slice aU nU cU, .slice aW nW cW, .slice aV nV cV, .int .i64 r0, .int .i64 r1], .slice aR R.length cR, .agg #[.int .i64 wi, .string wl, .string wh, .int .i64 wc]] w
      fun e w' => e = .returned (.bool true) ∧ Below w.heap.size w w' := by
  have h1lt : 1 < w.heap.size := World.block_lt_of_cell? w _ he.choose_spec
  obtain ⟨W1, hW1⟩ : ∃ W1, (w.alloc (.cells #[.slice aT LT.length cT, .slice aU nU cU, .slice aW nW cW, .slice aV nV cV, .int .i64 r0, .int .i64 r1] 25)).alloc (.cells #[.int .i64 wi, .string wl, .string wh, .int .i64 wc] 52) = W1 := ⟨_, rfl⟩
  have hA : allocs w [_, _] = W1 := hW1
  have hb1 : Below w.heap.size w W1 := allocs_self hA
  have hq : W1.heap[w.heap.size]? = some _ := allocs_get hA 0 rfl
  have hw : W1.heap[w.heap.size + 1]? = some _ := allocs_get hA 1 rfl
  have hsz : W1.heap.size = w.heap.size + 2 := by rw [← hA, allocs_size]; rfl
  have HT := Lib.hid (hT.below hb1)
  have HR := Lib.hid (hR.below hb1)
  have HE := Lib.hid (he.below hb1)
  have HQ := Lib.hid hq
  have HW := Lib.hid hw
  have B1 := Lib.hid hb1
  have S1 := Lib.hid hsz
  clear hT hR he hq hw hb1 hsz hA
  go_enter Tryd.func6, Tryd.ntmps6
  go_upto_region 1 with (fail)
  clear hW1
  go_wp2_with fail
  refine (sanity_any HE.out).mono ?_
  rintro e w2 ⟨rfl, b2⟩
  have q0 := (b2.cell (p := ⟨w.heap.size, 0, none⟩) (by rw [S1.out]; exact Nat.lt_add_of_pos_right (by decide))).trans (cells_of HQ.out 0)
  simp only [List.getElem?_toArray, List.getElem?_cons_zero] at q0
  have B2 := Lib.hid b2
  clear b2
  go_wp2_with fail
  refine (table_any false (HT.out.below B2.out)).mono ?_
  rintro e w3 ⟨⟨T, tv, rfl, hTV, hG⟩, b3⟩
  obtain ⟨ac, cc, ai, ci, rfl, h1, h2⟩ := hTV
  have B3 := Lib.hid (B2.out.trans (b3.mono B2.out.size))
  have HTV := Lib.hid (show TabV (fun k => w2.heap.size ≤ k) w3 (.agg #[.int .i64 T.id, .string T.name, .slice ac T.cols.length cc, .slice ai T.idx.length ci]) T from ⟨ac, cc, ai, ci, rfl, h1, h2⟩)
  have HG := Lib.hid hG
  clear h1 h2 hG b3 q0
  go_upto_region 3 with (fail)
  generalize hW4 : World.alloc _ _ = W4
  have hb4 : Below w3.heap.size w3 W4 := by rw [← hW4]; exact (Below.refl _ _).alloc (Nat.le_refl _) _
  have hT4 : W4.heap[w3.heap.size]? = some (.cells #[.int .i64 T.id, .string T.name, .slice ac T.cols.length cc, .slice ai T.idx.length ci] 30 (0, 0)) := by rw [← hW4]; exact heap_alloc_new _ _
  have B4 := Lib.hid (B3.out.trans (hb4.mono B3.out.size))
  have HT4 := Lib.hid hT4
  have HTV4 := Lib.hid (HTV.out.below hb4)
  have t0 := cells_of hT4 0
  have t1 := cells_of hT4 1
  have t2 := cells_of hT4 2
  have t3 := cells_of hT4 3
  simp only [List.getElem?_toArray, List.getElem?_cons_zero, List.getElem?_cons_succ] at t0 t1 t2 t3
  obtain ⟨bt, hbt⟩ : ∃ bt, bt = w3.heap.size := ⟨_, rfl⟩
  rw [← hbt] at HT4 t0 t1 t2 t3 ⊢
  have hbt1 : W1.heap.size ≤ bt := by have := B3.out.size; omega
  clear hW4 hb4 hT4 hbt
  go_wp2_with fail
  refine (row_any HTV4.out (HR.out.below B4.out) HG.out.kind (by have := HG.out.c1; omega)).mono ?_
  rintro e w5 ⟨⟨rv, rfl, ar, cr, rfl, hrow⟩, b5⟩
  obtain ⟨r, hr⟩ : ∃ r, r = rowV T R := ⟨_, rfl⟩
  rw [← hr] at hrow ⊢
  have hrl : r.length = T.cols.length := by rw [hr, rowV, rowTo_len]
  have hrf : ∀ v ∈ r, v.fine := by rw [hr]; exact row_fine T R HG.out.kind
  have B5 := Lib.hid (B4.out.trans (b5.mono B4.out.size))
  have HRL := Lib.hid hrl
  have HROW := Lib.hid hrow
  have HRF := Lib.hid hrf
  have HTV5 := Lib.hid (HTV4.out.below b5)
  have HT5 := Lib.hid ((b5.block _ (lt_of_block HT4.out)).trans HT4.out)
  have hw5 := (B5.out.block (w.heap.size + 1) (by have := S1.out; omega)).trans HW.out
  have e0 := cells_of hw5 0
  have e1 := cells_of hw5 1
  have e2 := cells_of hw5 2
  have e3 := cells_of hw5 3
  have f0 := free_of hw5 0
  have f1 := free_of hw5 1
  have f2 := free_of hw5 2
  have f3 := free_of hw5 3
  simp only [List.getElem?_toArray, List.getElem?_cons_zero, List.getElem?_cons_succ] at e0 e1 e2 e3
  have HW5 := Lib.hid hw5
  clear hr hrow hrf hrl b5 t0 t1 t2 t3 hw5
  go_upto_region 6 with (fail)
  obtain ⟨lo, hlo⟩ : ∃ lo, lo = wl.extract 0 (min (wl.size : Int) 20).toNat := ⟨_, rfl⟩
  obtain ⟨hi, hhi⟩ : ∃ hi, hi = wh.extract 0 (min (wh.size : Int) 20).toNat := ⟨_, rfl⟩
  rw [← hlo, ← hhi]
  generalize hW6 : World.setCell _ _ _ = W6
  have hw6 : W6.heap[w.heap.size + 1]? = some (.cells #[.int .i64 wi, .string lo, .string hi, .int .i64 wc] 52 (0, 0)) := by rw [← hW6]; exact block_set (block_set HW5.out)
  have keep : ∀ k, k ≠ w.heap.size + 1 → W6.heap[k]? = w5.heap[k]? := fun k hk => by
    rw [← hW6]
    exact (Below.heap_setCell _ ⟨w.heap.size + 1, 2, none⟩ _ k (fun e => hk e)).trans (Below.heap_setCell _ ⟨w.heap.size + 1, 1, none⟩ _ k (fun e => hk e))
  have hb6 : Below w.heap.size w W6 := by
    rw [← hW6]
    exact ((B1.out.trans (B5.out.mono B1.out.size)).setCell (p := ⟨w.heap.size + 1, 1, none⟩) (Nat.le_succ _) _).setCell (p := ⟨w.heap.size + 1, 2, none⟩) (Nat.le_succ _) _
  have hbtk : bt ≠ w.heap.size + 1 := by have := S1.out; omega
  have HW6 := Lib.hid hw6
  have HT6 := Lib.hid ((keep bt hbtk).trans HT5.out)
  have HTV6 := Lib.hid (HTV5.out.keep fun k hk _ => keep k (by have := B2.out.size; have := S1.out; omega))
  have HROW6 := Lib.hid (HROW.out.keep fun k hk _ => keep k (by have := B4.out.size; have := S1.out; omega))
  have HE6 := Lib.hid (show Env W6 from by
    obtain ⟨m, hm⟩ := HE.out.below B5.out
    exact ⟨m, (World.cell?_of_block (keep 1 (by omega))).trans hm⟩)
  have B6 := Lib.hid hb6
  clear hW6 hw6 keep hb6 e0 e1 e2 e3 f0 f1 f2 f3 HW5 hlo hhi hl hh
  have e0 := cells_of HW6.out 0
  have e1 := cells_of HW6.out 1
  have e2 := cells_of HW6.out 2
  have e3 := cells_of HW6.out 3
  simp only [List.getElem?_toArray, List.getElem?_cons_zero, List.getElem?_cons_succ] at e0 e1 e2 e3
  go_upto_region 7 with (fail)
  generalize hW7 : World.alloc _ _ = W7
  have hb7 : Below W6.heap.size W6 W7 := by rw [← hW7]; exact (Below.refl _ _).alloc (Nat.le_refl _) _
  have hv7 : W7.heap[W6.heap.size]? = some (.cells #[.int .i64 wi, .string lo, .string hi, .int .i64 wc] 52 (0, 0)) := by rw [← hW7]; exact heap_alloc_new _ _
  have hw7 := (hb7.block _ (lt_of_block HW6.out)).trans HW6.out
  have ht7 := (hb7.block _ (lt_of_block HT6.out)).trans HT6.out
  clear hW7 e0 e1 e2 e3
  have e0 := cells_of hw7 0
  have e3 := cells_of hw7 3
  have t3 := cells_of ht7 3
  have v0 := cells_of hv7 0
  have f0 := free_of hv7 0
  simp only [List.getElem?_toArray, List.getElem?_cons_zero, List.getElem?_cons_succ] at e0 e3 t3 v0
  have HB7 := Lib.hid hb7
  have HV7 := Lib.hid hv7
  have HW7 := Lib.hid hw7
  have HT7 := Lib.hid ht7
  have hi1 := HG.out.i1
  obtain ⟨x, hx, hx0, hx1⟩ : ∃ x, restOf wi ((T.idx.length : Int) + 2) = x ∧ 0 ≤ x ∧ x < (T.idx.length : Int) + 2 := ⟨_, rfl, by unfold restOf; exact Int.emod_nonneg _ (by omega), by unfold restOf; exact Int.emod_lt_of_pos _ (by omega)⟩
  have HX := Lib.hid hx
  clear hx hb7 hv7 hw7 ht7
  go_wp2_with fail
  refine (rest_any wi _ (by omega) (by omega) _).mono ?_
  rintro e w8 ⟨rfl, rfl⟩
  rw [HX.out]
  go_upto_region 8 with (fail)
  generalize hW8 : World.setCell _ _ _ = W8
  have hs6 : W6.heap.size ≤ w8.heap.size := HB7.out.size
  have keep : ∀ k, k ≠ W6.heap.size → W8.heap[k]? = w8.heap[k]? := fun k hk => by
    rw [← hW8]
    exact Below.heap_setCell _ ⟨W6.heap.size, 0, none⟩ _ k (fun e => hk e)
  have hv8 : W8.heap[W6.heap.size]? = some (.cells #[.int .i64 (x - 1), .string lo, .string hi, .int .i64 wc] 52 (0, 0)) := by rw [← hW8]; exact block_set HV7.out
  have hw8 := (keep _ (Nat.ne_of_lt (lt_of_block HW6.out))).trans HW7.out
  have ht8 := (keep _ (Nat.ne_of_lt (lt_of_block HT6.out))).trans HT7.out
  have HTV8 := Lib.hid ((HTV6.out.bound.below HB7.out).keep fun k hk _ => keep k (Nat.ne_of_lt hk.2))
  have hrow8 := (HROW6.out.bound.below HB7.out).keep fun k hk _ => keep k (Nat.ne_of_lt hk.2)
  have HROW8 := Lib.hid hrow8
  have HE8 := Lib.hid (show Env W8 from by
    obtain ⟨m, hm⟩ := HE6.out.below HB7.out
    exact ⟨m, (World.cell?_of_block (keep 1 (Nat.ne_of_lt (Nat.lt_of_lt_of_le h1lt B6.out.size)))).trans hm⟩)
  have B8 := Lib.hid (show Below w.heap.size w W8 from by
    rw [← hW8]
    exact (B6.out.trans (HB7.out.mono B6.out.size)).setCell (p := ⟨W6.heap.size, 0, none⟩) B6.out.size _)
  have HW8 := Lib.hid hw8
  have HT8 := Lib.hid ht8
  have HV8 := Lib.hid hv8
  have e3 := cells_of hw8 3
  simp only [List.getElem?_toArray, List.getElem?_cons_zero, List.getElem?_cons_succ] at e3
  obtain ⟨_, hcr, _, _⟩ := hrow8.row
  obtain ⟨y, hy, hy1⟩ : ∃ y : Nat, restOf wc ((r.length : Int) + 1) = y ∧ y ≤ r.length := by
    have h1 : 0 ≤ restOf wc ((r.length : Int) + 1) := Int.emod_nonneg _ (by omega)
    have h2 : restOf wc ((r.length : Int) + 1) < (r.length : Int) + 1 := Int.emod_lt_of_pos _ (by omega)
    exact ⟨(restOf wc ((r.length : Int) + 1)).toNat, by omega, by omega⟩
  have HY := Lib.hid hy
  have hr6 : r.length ≤ 6 := by have := HRL.out; have := HG.out.c1; omega
  obtain ⟨r2, hr2, hl2⟩ : ∃ r2, r2 = r.take y ∧ r2.length = y := ⟨_, rfl, by simp; omega⟩
  have HFEW := Lib.hid (show SlV valR (fun k => (fun k => W4.heap.size ≤ k) k ∧ k < W6.heap.size) W8 (.slice ar r2.length cr) r2 from by rw [hr2]; exact hrow8.take y hy1)
  have HF2 := Lib.hid (show ∀ v ∈ r2, v.fine from fun v hv => HRF.out v (by rw [hr2] at hv; exact List.mem_of_mem_take hv))
  subst hl2
  clear hW8 keep hv8 hw8 ht8 hrow8 hy hr2 e0 t3 v0 f0
  go_wp2_with fail
  refine (rest_any wc _ (by omega) (by omega) _).mono ?_
  rintro e w9 ⟨rfl, rfl⟩
  rw [HY.out]
  go_upto_region 9 with (fail)
  have a0 := fun z : Wld (Below w9.heap.size w9) => cells_of ((z.good.block _ (lt_of_block HW8.out)).trans HW8.out) 0
  have a1 := fun z : Wld (Below w9.heap.size w9) => cells_of ((z.good.block _ (lt_of_block HW8.out)).trans HW8.out) 1
  have a2 := fun z : Wld (Below w9.heap.size w9) => cells_of ((z.good.block _ (lt_of_block HW8.out)).trans HW8.out) 2
  have a3 := fun z : Wld (Below w9.heap.size w9) => cells_of ((z.good.block _ (lt_of_block HW8.out)).trans HW8.out) 3
  have t0 := fun z : Wld (Below w9.heap.size w9) => cells_of ((z.good.block _ (lt_of_block HT8.out)).trans HT8.out) 0
  have t1 := fun z : Wld (Below w9.heap.size w9) => cells_of ((z.good.block _ (lt_of_block HT8.out)).trans HT8.out) 1
  have t2 := fun z : Wld (Below w9.heap.size w9) => cells_of ((z.good.block _ (lt_of_block HT8.out)).trans HT8.out) 2
  have t3 := fun z : Wld (Below w9.heap.size w9) => cells_of ((z.good.block _ (lt_of_block HT8.out)).trans HT8.out) 3
  have v0 := fun z : Wld (Below w9.heap.size w9) => cells_of ((z.good.block _ (lt_of_block HV8.out)).trans HV8.out) 0
  have v1 := fun z : Wld (Below w9.heap.size w9) => cells_of ((z.good.block _ (lt_of_block HV8.out)).trans HV8.out) 1
  have v2 := fun z : Wld (Below w9.heap.size w9) => cells_of ((z.good.block _ (lt_of_block HV8.out)).trans HV8.out) 2
  have v3 := fun z : Wld (Below w9.heap.size w9) => cells_of ((z.good.block _ (lt_of_block HV8.out)).trans HV8.out) 3
  simp only [List.getElem?_toArray, List.getElem?_cons_zero, List.getElem?_cons_succ] at a0 a1 a2 a3 t0 t1 t2 t3 v0 v1 v2 v3
  refine wp_region_class (Below w9.heap.size w9) (by kernel_rfl) (by kernel_rfl) (Below.drew (Below.refl _ _)) (fun ne => ?_)
  repeat (go_big_quiet_step (first
    | ((go_at_call 20; first
      | (with_reducible refine Calls.mono (covers_any (HTV8.out.below (Wld.good _)) ⟨wi, lo, hi, wc⟩ _ _ _ r (HROW8.out.below (Wld.good _)) HRF.out (HE8.out.below (Wld.good _)) ⟨none, 0, 0, rfl⟩) ?_)
      | (with_reducible refine Calls.mono (covers_any (HTV8.out.below (Wld.good _)) ⟨x - 1, lo, hi, wc⟩ _ _ _ r (HROW8.out.below (Wld.good _)) HRF.out (HE8.out.below (Wld.good _)) ⟨none, 0, 0, rfl⟩) ?_)
      | (with_reducible refine Calls.mono (covers_any (HTV8.out.below (Wld.good _)) ⟨x - 1, lo, hi, wc⟩ _ _ _ r2 (HFEW.out.below (Wld.good _)) HF2.out (HE8.out.below (Wld.good _)) ⟨none, 0, 0, rfl⟩) ?_)); rintro e w2 ⟨rfl, b2⟩; exact ⟨rfl, class_below _ b2 (Nat.le_refl _)⟩)
    | ((go_at_call 21; first
      | (with_reducible refine Calls.mono (rcovers_any (HTV8.out.below (Wld.good _)) ⟨wi, lo, hi, wc⟩ _ _ r (HROW8.out.below (Wld.good _)) HRF.out) ?_)
      | (with_reducible refine Calls.mono (rcovers_any (HTV8.out.below (Wld.good _)) ⟨x - 1, lo, hi, wc⟩ _ _ r (HROW8.out.below (Wld.good _)) HRF.out) ?_)
      | (with_reducible refine Calls.mono (rcovers_any (HTV8.out.below (Wld.good _)) ⟨x - 1, lo, hi, wc⟩ _ _ r2 (HFEW.out.below (Wld.good _)) HF2.out) ?_)); rintro e w2 ⟨rfl, b2⟩; exact ⟨rfl, class_below _ b2 (Nat.le_refl _)⟩)))
  refine wpQuiet_nil ?_
  intro w10 b10
  have B10 := Lib.hid (B8.out.trans (b10.mono B8.out.size))
  clear b10 a0 a1 a2 a3 t0 t1 t2 t3 v0 v1 v2 v3
  go_wp2_with fail
  go_ret
  exact ⟨rfl, B10.out⟩
end Go.Proofs.YtajlngkakpjncaaDoor
