/- PlanOrder: the walk of the law. -/
import Derived.Test.YtajlngkakpjncaaDoorAskStats
import Derived.Test.YtajlngkakpjncaaDoorOrderPlain
namespace Go.Proofs.YtajlngkakpjncaaDoor
set_option linter.unusedVariables false
set_option linter.unusedSimpArgs false
open Go.RowKit

theorem tdiv_rng (x : Int) (h : -9223372036854775808 ≤ x ∧ x ≤ 9223372036854775807) : -9223372036854775808 ≤ x.tdiv 6 ∧ x.tdiv 6 ≤ 9223372036854775807 := by
  have h1 : (x.tdiv 6).natAbs = x.natAbs / 6 := Int.natAbs_tdiv x 6
  omega
theorem index_sta (x y : Int) (a a' : Option Addr) (n c n' c' : Nat) (w : World) : (Instr.index 34 (.agg #[.int .i64 x, .slice a n c, .int .i64 y, .slice a' n' c']) (.int .i64 0)).run Tryd.prog w = .ok (.agg #[.int .i64 x, .slice a n c]) w := by kernel_rfl
theorem RowAt.drop {α : Type} {R : Rep α} {p : Nat → Prop} {w : World} {b off : Nat} {L : List α} (h : RowAt R p w (some ⟨b, off, none⟩) L) (n : Nat) : RowAt R p w (some ⟨b, off + n * R.sz, none⟩) (L.drop n) := by
  rcases h with rfl | ⟨b', off', ha, hp, hb, h⟩
  · exact Or.inl (by simp)
  · simp only [Option.some.injEq, Addr.mk.injEq] at ha
    obtain ⟨rfl, rfl, _⟩ := ha
    refine Or.inr ⟨b, _, rfl, hp, hb, fun t ht => ?_⟩
    have h1 : n + t < L.length := by simp at ht; omega
    obtain ⟨cs, h2, h3⟩ := h (n + t) h1
    refine ⟨cs, fun j hj => ?_, by rw [List.getElem_drop]; exact h3⟩
    rw [← h2 j hj]
    congr 2
    rw [Nat.add_mul]
    omega

theorem wpSegs_assign_v {P : Program} {l : List Oper} {Q : Act → World → Prop} {I C : World → Prop} {j : Nat} {a : Act} {o : Oper} {x : Operand} (v : Value) (hv : a.eval x = v) (hC : Stable C) (hCI : ∀ w, C w → I w)
    (ho : l[j]? = some o) (hop : o.op = .assign x) (hw : Region.wanted o (yielded l.toArray a.tmps) = true) (hj : j = l.length - 1)
    (hrest : ∀ w, C w → Q (a.put o.dst v) w) : wpSegs P l Q I [([], j)] a C := wpSegs_assign hC hCI ho hop hw hj fun w h => by rw [hv]; exact hrest w h
theorem OneAt.grow {B : Nat} {W0 : World} {e : TypeId} {sz : Nat} {v v' : Value} {n m : Nat} {xs ys : List Value} {w w1 : World} (h : OneAt B W0 e sz v n xs w) (hB : B ≤ w.heap.size) (ho : w1.ownsRow B e sz v' m ys) (hg : w.grownBy w1 v.ownBlock) : OneAt B W0 e sz v' m ys w1 :=
  ⟨ho, h.b.grown hg hB (fun k hk => (h.m.lt k hk).1)⟩
set_option maxRecDepth 100000 in
set_option maxHeartbeats 16000000 in
theorem order_walk {p1 p2 p3 : Nat → Prop} {aT aU aW aV aR : Option Addr} {nU nW cT cU cW cV cR : Nat} {LT LV R : List Int} {r0 r1 by_ : Int} {w : World} (hT : SlV intR p1 w (.slice aT LT.length cT) LT) (hV : SlV intR p2 w (.slice aV LV.length cV) LV) (hR : SlV intR p3 w (.slice aR R.length cR) R)
    (hf : ∀ x ∈ R, -9223372036854775808 ≤ x ∧ x ≤ 9223372036854775807) (he : Env w) :
    Calls Tryd.prog 3 #[.agg #[.slice aT LT.length cT, .slice aU nU cU, .slice aW nW cW, .slice aV LV.length cV, .int .i64 r0, .int .i64 r1], .slice aR R.length cR, .int .i64 by_] w
      fun e w' => e = .returned (.bool true) ∧ Below w.heap.size w w' := by
  obtain ⟨i0, hi, hz0, hz1, hz2⟩ := info_parts info_cond
  obtain ⟨W1, hW1⟩ : ∃ W1, w.alloc (.cells #[.slice aT LT.length cT, .slice aU nU cU, .slice aW nW cW, .slice aV LV.length cV, .int .i64 r0, .int .i64 r1] 25) = W1 := ⟨_, rfl⟩
  have hb1 : Below w.heap.size w W1 := by rw [← hW1]; exact (Below.refl _ _).alloc (Nat.le_refl _) _
  have hq : W1.heap[w.heap.size]? = some (.cells #[.slice aT LT.length cT, .slice aU nU cU, .slice aW nW cW, .slice aV LV.length cV, .int .i64 r0, .int .i64 r1] 25 (0, 0)) := by rw [← hW1]; exact heap_alloc_new _ _
  have hsz : W1.heap.size = w.heap.size + 1 := by rw [← hW1]; simp
  have HT := Lib.hid (hT.below hb1)
  have HV := Lib.hid (hV.below hb1)
  have HR := Lib.hid (hR.below hb1)
  have HE := Lib.hid (he.below hb1)
  have HF := Lib.hid hf
  have HQ := Lib.hid hq
  have B1 := Lib.hid hb1
  have S1 := Lib.hid hsz
  clear hT hV hR hf he hq hb1 hsz
  go_enter Tryd.func3, Tryd.ntmps3
  go_upto_region 1 with (fail)
  clear hW1
  go_wp2_with fail
  refine (sanity_any HE.out).mono ?_
  rintro e w2 ⟨rfl, b2⟩
  have B2 := Lib.hid b2
  have q0 := (b2.cell (p := ⟨w.heap.size, 0, none⟩) (by rw [S1.out]; exact Nat.lt_succ_self _)).trans (cells_of HQ.out 0)
  simp only [List.getElem?_toArray, List.getElem?_cons_zero] at q0
  clear b2
  go_wp2_with fail
  refine (table_any false (HT.out.below B2.out)).mono ?_
  rintro e w3 ⟨⟨T, tv, rfl, hTV, hG⟩, b3⟩
  obtain ⟨ac, cc, ai, ci, rfl, h1, h2⟩ := hTV
  have B3 := Lib.hid (B2.out.trans (b3.mono B2.out.size))
  have HTV := Lib.hid (show TabV (fun k => w2.heap.size ≤ k) w3 (.agg #[.int .i64 T.id, .string T.name, .slice ac T.cols.length cc, .slice ai T.idx.length ci]) T from ⟨ac, cc, ai, ci, rfl, h1, h2⟩)
  have HG := Lib.hid hG
  clear h1 h2 hG b3 q0
  go_upto_region 3 with (fail)
  generalize hW4 : World.alloc _ _ = W4
  have hb4 : Below w3.heap.size w3 W4 := by rw [← hW4]; exact (Below.refl _ _).alloc (Nat.le_refl _) _
  have hT4 : W4.heap[w3.heap.size]? = some (.cells #[.int .i64 T.id, .string T.name, .slice ac T.cols.length cc, .slice ai T.idx.length ci] 30 (0, 0)) := by rw [← hW4]; exact heap_alloc_new _ _
  have B4 := Lib.hid (B3.out.trans (hb4.mono B3.out.size))
  have HT4 := Lib.hid hT4
  have HTV4 := Lib.hid (HTV.out.below hb4)
  have hq4 := (B4.out.block w.heap.size (by rw [S1.out]; exact Nat.lt_succ_self _)).trans HQ.out
  have q0 := cells_of hq4 0
  have q1 := cells_of hq4 1
  have q2 := cells_of hq4 2
  have q3 := cells_of hq4 3
  have q4 := cells_of hq4 4
  have q5 := cells_of hq4 5
  simp only [List.getElem?_toArray, List.getElem?_cons_zero, List.getElem?_cons_succ] at q0 q1 q2 q3 q4 q5
  clear hW4 hb4 hT4 hq4
  go_wp2_with fail
  refine (stats_any (HV.out.below B4.out)).mono ?_
  rintro e w5 ⟨⟨sa, sn, sc, rfl⟩, b5⟩
  have hS5 := (HV.out.below (B4.out.trans (b5.mono B4.out.size))).take (n := min 12 LV.length) (by omega)
  rw [show LV.take (min 12 LV.length) = LV.take 12 from by rw [List.take_eq_take_iff]; omega] at hS5
  have hsta : StaV p2 w5 (.agg #[.int .i64 r0, .slice aV (LV.take 12).length cV]) ⟨r0, LV.take 12⟩ := staV_of (S := ⟨r0, LV.take 12⟩) hS5
  obtain ⟨S, hS⟩ : ∃ S : Sta, S = ⟨r0, LV.take 12⟩ := ⟨_, rfl⟩
  rw [← hS] at hsta
  obtain ⟨nS, hnS⟩ : ∃ nS, (LV.take 12).length = nS := ⟨_, rfl⟩
  rw [hnS] at hsta ⊢
  have B5 := Lib.hid (B4.out.trans (b5.mono B4.out.size))
  have HT5 := Lib.hid ((b5.block _ (lt_of_block HT4.out)).trans HT4.out)
  have HTV5 := Lib.hid (HTV4.out.below b5)
  have HSTA := Lib.hid hsta
  have hbt1 : w3.heap.size < w5.heap.size := lt_of_block HT5.out
  clear hS5 b5 q0 q1 q2 q3 q4 q5 hS hnS hsta
  have hix := index_sta r0 r1 aV sa nS cV sn sc w5
  go_upto_region 4 with (fail)
  clear hix
  generalize hW6 : World.alloc _ _ = W6
  have hb6 : Below w5.heap.size w5 W6 := by rw [← hW6]; exact (Below.refl _ _).alloc (Nat.le_refl _) _
  have hs6 : W6.heap[w5.heap.size]? = some (.cells #[.int .i64 r0, .slice aV nS cV] 33 (0, 0)) := by rw [← hW6]; exact heap_alloc_new _ _
  have B6 := Lib.hid (B5.out.trans (hb6.mono B5.out.size))
  have HT6 := Lib.hid ((hb6.block _ (lt_of_block HT5.out)).trans HT5.out)
  have HTV6 := Lib.hid (HTV5.out.below hb6)
  have HSTA6 := Lib.hid (HSTA.out.below hb6)
  have HS6 := Lib.hid hs6
  have HE6 := Lib.hid (HE.out.below B6.out)
  have HR6 := Lib.hid (HR.out.below B6.out)
  obtain ⟨bt, hbt⟩ : ∃ bt, bt = w3.heap.size := ⟨_, rfl⟩
  obtain ⟨bs, hbs⟩ : ∃ bs, bs = w5.heap.size := ⟨_, rfl⟩
  rw [← hbt] at HT6 ⊢
  rw [← hbs] at HS6 ⊢
  clear hW6 hb6 hs6 hbt hbs
  obtain ⟨n, hn, hn1, hn2⟩ : ∃ n, n = min T.cols.length R.length ∧ n ≤ T.cols.length ∧ n ≤ R.length := ⟨_, rfl, by omega, by omega⟩
  have hn6 : n ≤ 6 := by have := HG.out.c1; omega
  go_upto_block 0 with (fail)
  go_cut [10] from 26 to 60 (fun s10 wx => OneAt W6.heap.size W6 44 5 s10 n ((ordTo T R n).flatMap condEnc) wx)
  case first =>
    go_wp2_with fail
    go_loopw [10, 11] (fun x ii wr => ∃ (k : Nat) (v : Value), k ≤ n ∧ ii = .int .i64 k ∧ v = x ∧ OneAt W6.heap.size W6 44 5 v k ((ordTo T R k).flatMap condEnc) wr) (fun _ ii _ => n - (intOf ii).toNat)
    case atStart => exact ⟨0, _, Nat.zero_le _, rfl, rfl, World.ownsRow_nil _ _ _ _, Below.refl _ _⟩
    case round =>
      obtain ⟨k, v, hk, rfl, rfl, hO⟩ := hrel
      have OW := Lib.hid hO
      have hB := hO.b.size
      have t2 := cells_of ((hO.b.block _ (lt_of_block HT6.out)).trans HT6.out) 2
      simp only [List.getElem?_toArray, List.getElem?_cons_zero, List.getElem?_cons_succ] at t2
      clear hO
      by_cases hlt : k < n
      · have hlc : k < T.cols.length := by omega
        have hlr : k < R.length := by omega
        obtain ⟨_, _, _, hcr⟩ := (show SlV colR (fun k => w2.heap.size ≤ k) W6 (.slice ac T.cols.length cc) T.cols from by
          obtain ⟨_, _, _, _, e, h, _⟩ := HTV6.out
          simp only [Value.agg.injEq, Array.mk.injEq, List.cons.injEq, Value.slice.injEq, and_true, true_and] at e
          obtain ⟨⟨rfl, rfl⟩, _⟩ := e
          exact h).row
        obtain ⟨_, _, _, hrr⟩ := HR6.out.row
        obtain ⟨bc, oc, rfl, _, hbc⟩ := hcr.addr (by intro e; rw [e] at hlc; cases hlc)
        obtain ⟨bR, oR, rfl, _, hbR⟩ := hrr.addr (by intro e; rw [e] at hlr; cases hlr)
        have cN := (hcr.col k hlc).1
        have cX := hrr.int k hlr
        obtain ⟨nm, hnm⟩ : ∃ nm, nm = T.cols[k].1 := ⟨_, rfl⟩
        obtain ⟨x, hx⟩ : ∃ x, x = R[k] := ⟨_, rfl⟩
        have hxr := HF.out x (by rw [hx]; exact List.getElem_mem hlr)
        have hxt := tdiv_rng x hxr
        have HONE := Lib.hid (show ordOne T R k = ⟨nm, 1 + restOf x 6, valOf (x.tdiv 6)⟩ by
          unfold ordOne
          rw [List.getD_eq_getElem?_getD, List.getD_eq_getElem?_getD, List.getElem?_eq_getElem hlc, List.getElem?_eq_getElem hlr, hnm, hx]
          rfl)
        rw [← hnm] at cN
        rw [← hx] at cX
        obtain ⟨z, hz, hz0', hz1'⟩ : ∃ z, restOf x 6 = z ∧ 0 ≤ z ∧ z < 6 := ⟨_, rfl, by unfold restOf; omega, by unfold restOf; omega⟩
        rw [hz] at HONE
        have HZ := Lib.hid hz
        have CN := Lib.hid cN
        have CX := Lib.hid cX
        have TF := Lib.hid (show ∀ w', Below W6.heap.size W6 w' → w'.cell? ⟨bt, 2, none⟩ = some (.slice (some ⟨bc, oc, none⟩) T.cols.length cc) ∧ w'.cell? ⟨bc, oc + k * 2, none⟩ = some (.string nm) ∧ w'.cell? ⟨bR, oR + k, none⟩ = some (.int .i64 x) from fun w' hb =>
          ⟨cells_of ((hb.block _ (lt_of_block HT6.out)).trans HT6.out) 2, (hb.cell (p := ⟨bc, oc + k * 2, none⟩) hbc).trans CN.out, (hb.cell (p := ⟨bR, oR + k, none⟩) hbR).trans CX.out⟩)
        clear hnm hx hz cN cX hcr hrr
        go_upto_region 8 with (fail)
        clear t2
        refine wp_region_loose2 [([0, 1, 2, 3, 4, 5, 6, 7, 8, 9, 10, 11, 12, 13, 14, 15, 16, 17, 18, 19], 20), ([], 21), ([], 22)] (Below W6.heap.size W6) (Below wr.heap.size wr) (by kernel_rfl) (by kernel_rfl) (by kernel_rfl) (fun w1 w2 h b => h.trans (b.mono h.size)) (Below.drew (Below.refl _ _)) ?_
        apply wpSegs_cons (Below W6.heap.size W6) (NewCond wr ⟨nm, 1 + z, valOf (x.tdiv 6)⟩) (fun _ h => h) (fun _ h => OW.out.b.trans (h.mono hB))
        case hq =>
          intro w0 hw0
          have ne : Nonempty (Wld (Below w0.heap.size w0)) := ⟨⟨w0, Below.refl _ _⟩⟩
          have yy := fun x : Wld (Below w0.heap.size w0) => TF.out _ (hw0.trans (x.good.mono hw0.size))
          have y0 := fun x => (yy x).1
          have y1 := fun x => (yy x).2.1
          have y2 := fun x => (yy x).2.2
          clear yy
          simp only [pickOps, List.getElem?_cons_zero, List.getElem?_cons_succ]
          apply quiet_hide
          intro KE hKE
          repeat (go_big_quiet_step (first | ((go_at_call 13; (with_reducible refine Calls.mono (rest_any x 6 (by decide) (by decide) _) ?_); rintro e w2 ⟨rfl, rfl⟩; exact ⟨congrArg (fun q => Ending.returned (Value.int .i64 q)) HZ.out, class_below _ (Below.refl _ _) (Nat.le_refl _)⟩)) | ((go_at_call 14; (with_reducible refine Calls.mono (value_any (x.tdiv 6) hxt _) ?_); rintro e w2 ⟨rfl, b2⟩; exact ⟨rfl, class_below _ b2 (Nat.le_refl _)⟩))))
          refine wpQuiet_nil ?_
          exact hKE _ rfl
        case ho => rfl
        case hop => rfl
        case hw => kernel_rfl
        case hDJ => exact (fun _ _ _ h => OW.out.b.trans (h.choose_spec.2.2.mono hB))
        case hD => exact fun u w1 w2 h hb => h.below hb
        case hlo =>
          intro wa ba
          go_wp2_with fail
          exact ⟨wa.heap.size, rfl, heap_alloc_new _ _, ba.alloc ba.size _⟩
        case hrest =>
          rintro u2 w2 ⟨b2, rfl, -, -⟩
          simp only [Act.put, List.setIfInBounds_toArray, List.set_cons_succ, List.set_cons_zero]
          refine wpSegs_cons0 (fun u w' => OneAt W6.heap.size W6 44 5 u (k + 1) ((ordTo T R (k + 1)).flatMap condEnc) w') ?sub3 rfl rfl ?want3 ?stable3 ?di3 ?lo3 ?on3
          case sub3 =>
            rintro w' ⟨_, _, _, h2⟩
            exact OW.out.b.trans (h2.mono hB)
          case want3 => kernel_rfl
          case stable3 => exact fun u w1 w2 h hb => h.below hb h.b.size
          case di3 => exact fun _ _ _ h => h.b
          case lo3 =>
            rintro wa ⟨b', e, h1, ba⟩
            obtain rfl : b2 = b' := by simpa using e
            clear e
            refine wpList_append_own_at _ rfl _ _ 36 rfl W6.heap.size 44 i0 _ 5 56 Tryd.underlying36 hi hz0 hz1 hz2 rfl (by decide) v k _ rfl (OW.out.below ba hB).m ⟨b2, 0, none⟩ 1 1 (condEnc ⟨nm, 1 + z, valOf (x.tdiv 6)⟩) rfl rfl (fun j u hj => by rw [addr_add, cells_of h1]; simpa using hj) (cond_cells _) (by unfold maxLen; omega) (by omega) (Nat.le_trans hB ba.size) ?_
            intro v1 w3 o1 g1 hx1 at1
            refine wpList_nil ⟨rfl, v1, rfl, (OW.out.below ba hB).push (Nat.le_trans hB ba.size) ?_ g1⟩
            rw [ordTo_succ, List.flatMap_append, HONE.out]
            simpa using o1
          case on3 =>
            rintro u3 w3 -
            simp only [Act.put, List.setIfInBounds_toArray, List.set_cons_succ, List.set_cons_zero]
            refine wpSegs_assign (fun w1 w2 h hb => h.below hb h.b.size) (fun _ h => h.b) rfl rfl (by kernel_rfl) rfl (fun w' h => ?_)
            have H := Lib.hid h
            clear h
            simp only [Act.put, List.setIfInBounds_toArray, List.set_cons_succ, List.set_cons_zero]
            go_wp2_with fail
            go_roundw
            case rel => exact ⟨k + 1, _, by omega, by go_num, rfl, H.out⟩
            case measure => simp [intOf]; omega
      · have hkn : k = n := by omega
        subst hkn
        rcases (show ¬ k < T.cols.length ∨ (k < T.cols.length ∧ ¬ k < R.length) by omega) with h | ⟨h, h'⟩
        · have q1 : ¬ ((k : Int) < (T.cols.length : Int)) := by omega
          clear hn hlt
          go_wp2_with fail
          go_meet
          exact OW.out
        · have q1 : (k : Int) < (T.cols.length : Int) := by omega
          have q2 : ¬ ((k : Int) < (R.length : Int)) := by omega
          clear hn hlt
          go_wp2_with fail
          go_meet
          exact OW.out
  case rest =>
    obtain ⟨W7, hW7⟩ : ∃ W7, W7 = wc := ⟨_, rfl⟩
    rw [← hW7] at hcut ⊢
    have O7 := Lib.hid hcut
    have B7 := Lib.hid (B6.out.trans (hcut.b.mono B6.out.size))
    have hs7 := hcut.b.size
    have HN1 := Lib.hid hn1
    clear hW7 hn hn1 hn2
    rcases hcut.m.2 with ⟨rfl, hn0⟩ | ⟨g, cap, cur, rfl, hgB, hg, hcap, _, _, _⟩
    · subst hn0
      clear hcut
      have BW := Lib.hid (B1.out.trans (B7.out.mono B1.out.size))
      go_wp2_with fail
      go_ret
      exact ⟨rfl, BW.out⟩
    clear hcut
    by_cases hn0 : n = 0
    · subst hn0
      have BW := Lib.hid (B1.out.trans (B7.out.mono B1.out.size))
      go_wp2_with fail
      go_ret
      exact ⟨rfl, BW.out⟩
    have q0 : ¬ ((n : Int) = 0) := by omega
    obtain ⟨kk, hkk, hkk1⟩ : ∃ kk : Nat, restOf by_ (n : Int) = kk ∧ kk < n := by
      have h1 : 0 ≤ restOf by_ (n : Int) := Int.emod_nonneg _ (by omega)
      have h2 : restOf by_ (n : Int) < n := Int.emod_lt_of_pos _ (by omega)
      exact ⟨(restOf by_ (n : Int)).toNat, by omega, by omega⟩
    have HKK := Lib.hid hkk
    have hkc : kk ≤ cap := by omega
    have hkc2 : cap ≠ kk := by omega
    clear hkk hg
    go_wp2_with fail
    refine (rest_any by_ _ (by omega) (by omega) _).mono ?_
    rintro e w8 ⟨rfl, rfl⟩
    rw [HKK.out]
    go_upto_region 12 with (fail)
    have hrowv : RowAt condR (fun _ => True) w8 (some ⟨g, 0, none⟩) (ordTo T R n) := by
      have hm := O7.out.m
      rw [← ordTo_len T R n] at hm
      rw [ordTo_len T R n] at hm
      obtain ⟨a', c', e, _, h2, _⟩ := RowAt.of_owns_flat (enc := condEnc) (sz := 5) (hl := fun _ => rfl) (p := fun _ => True) (L := ordTo T R n) (by rw [ordTo_len]; exact hm) (fun _ _ => trivial)
      simp only [Value.slice.injEq] at e
      obtain ⟨rfl, _⟩ := e
      exact h2
    have hlD : ((ordTo T R n).drop kk).length = n - kk := by rw [List.length_drop, ordTo_len]
    have hlT : ((ordTo T R n).take kk).length = kk := by rw [List.length_take, ordTo_len]; omega
    have HD := Lib.hid (show RowAt condR (fun _ => True) w8 (some ⟨g, kk * 5, none⟩) ((ordTo T R n).drop kk) from by
      have h := hrowv.drop kk
      rw [Nat.zero_add] at h
      exact h)
    have HTk := Lib.hid (hrowv.take kk)
    obtain ⟨D1, hD1⟩ : ∃ D1, D1 = (ordTo T R n).drop kk := ⟨_, rfl⟩
    obtain ⟨T1, hT1⟩ : ∃ T1, T1 = (ordTo T R n).take kk := ⟨_, rfl⟩
    rw [← hD1] at HD hlD
    rw [← hT1] at HTk hlT
    have HSLV := Lib.hid (show SlV condR (fun _ => True) w8 (.slice (some ⟨g, 0, none⟩) n cap) (ordTo T R n) from ⟨_, _, by rw [ordTo_len], by rw [ordTo_len]; exact hcap, by rw [ordTo_len]; omega, hrowv⟩)
    have HD1 := Lib.hid hD1
    have HT1 := Lib.hid hT1
    clear hrowv hD1 hT1
    have hB8 : ∀ w', Below w8.heap.size w8 w' → w8.heap.size ≤ w'.heap.size := fun _ h => h.size
    refine wp_region_loose2 [([1, 2, 3, 5, 6, 7], 0), ([], 4), ([], 8), ([], 9)] (Below w8.heap.size w8) (Below w8.heap.size w8) (by kernel_rfl) (by kernel_rfl) (by kernel_rfl) (fun w1 w2 h b => h.trans (b.mono h.size)) (Below.drew (Below.refl _ _)) ?_
    apply wpSegs_cons (Below w8.heap.size w8) (fun u w' => OneAt w8.heap.size w8 44 5 u 0 [] w') (fun _ h => h) (fun _ h => h)
    case hq =>
      intro w0 hw0
      have ne : Nonempty (Wld (Below w0.heap.size w0)) := ⟨⟨w0, Below.refl _ _⟩⟩
      simp only [pickOps, List.getElem?_cons_zero, List.getElem?_cons_succ]
      apply quiet_hide
      intro KE hKE
      repeat (go_big_quiet_step (fail))
      refine wpQuiet_nil ?_
      exact hKE _ rfl
    case ho => rfl
    case hop => rfl
    case hw => kernel_rfl
    case hDJ => exact fun _ _ _ h => h.b
    case hD => exact fun u w1 w2 h hb => h.below hb h.b.size
    case hlo =>
      intro wa ba
      go_wp2_with fail
      exact ⟨⟨rfl, Or.inr ⟨wa.heap.size, 0, #[], rfl, ba.size, heap_alloc_new _ _, Nat.le_refl _, by decide, rfl, rfl⟩⟩, ba.alloc ba.size _⟩
    case hrest =>
      rintro u0 w1 -
      simp only [Act.put, List.setIfInBounds_toArray, List.set_cons_succ, List.set_cons_zero]
      refine wpSegs_cons0 (fun u w' => OneAt w8.heap.size w8 44 5 u (n - kk) (D1.flatMap condEnc) w') (fun _ h => h.b) rfl rfl (by kernel_rfl) (fun u w1 w2 h hb => h.below hb h.b.size) (fun _ _ _ h => h.b) ?lo4 ?on4
      case lo4 =>
        intro wa h
        refine wpList_append_flat rfl _ _ 36 rfl w8.heap.size 44 i0 _ 5 56 Tryd.underlying36 hi hz0 hz1 hz2 rfl (by decide) u0 0 [] rfl h.m (enc := condEnc) (hl := fun _ => rfl) D1 (some ⟨g, kk * 5, none⟩) (cap - kk) (by rw [hlD]; rfl) (HD.out.below h.b) (fun e => by cases e) cond_cells (by unfold maxLen; omega) (by omega) h.b.size ?_
        intro v1 w3 o1 g1
        refine wpList_nil ⟨rfl, v1, rfl, h.grow h.b.size ?_ g1⟩
        simpa [hlD] using o1
      case on4 =>
        rintro u1 w2' -
        simp only [Act.put, List.setIfInBounds_toArray, List.set_cons_succ, List.set_cons_zero]
        refine wpSegs_cons0 (fun u w' => OneAt w8.heap.size w8 44 5 u n ((D1 ++ T1).flatMap condEnc) w') (fun _ h => h.b) rfl rfl (by kernel_rfl) (fun u w1 w2 h hb => h.below hb h.b.size) (fun _ _ _ h => h.b) ?lo8 ?on8
        case lo8 =>
          intro wa h
          refine wpList_append_flat rfl _ _ 36 rfl w8.heap.size 44 i0 _ 5 56 Tryd.underlying36 hi hz0 hz1 hz2 rfl (by decide) u1 (n - kk) (D1.flatMap condEnc) rfl h.m (enc := condEnc) (hl := fun _ => rfl) T1 (some ⟨g, 0, none⟩) cap (by rw [hlT]; rfl) (HTk.out.below h.b) (fun e => by cases e) cond_cells (by unfold maxLen; omega) (by omega) h.b.size ?_
          intro v1 w3 o1 g1
          refine wpList_nil ⟨rfl, v1, rfl, h.grow h.b.size ?_ g1⟩
          have e : n - kk + T1.length = n := by omega
          rw [e] at o1
          rw [List.flatMap_append]
          exact o1
        case on8 =>
          rintro u2 w3' -
          simp only [Act.put, List.setIfInBounds_toArray, List.set_cons_succ, List.set_cons_zero]
          refine wpSegs_assign_v u2 rfl (fun w1 w2 h hb => h.below hb h.b.size) (fun _ h => h.b) rfl rfl (by kernel_rfl) rfl (fun w9 h => ?_)
          have O9 := Lib.hid h
          clear h
          simp only [Act.put, List.setIfInBounds_toArray, List.set_cons_succ, List.set_cons_zero]
          have hB9 := O7.out.b.trans (O9.out.b.mono O7.out.b.size)
          have HB9 := Lib.hid hB9
          have hc0 := HG.out.c0
          obtain ⟨_, _, _, hcr⟩ := (show SlV colR (fun k => w2.heap.size ≤ k) W6 (.slice ac T.cols.length cc) T.cols from by
            obtain ⟨_, _, _, _, e, h, _⟩ := HTV6.out
            simp only [Value.agg.injEq, Array.mk.injEq, List.cons.injEq, Value.slice.injEq, and_true, true_and] at e
            obtain ⟨⟨rfl, rfl⟩, _⟩ := e
            exact h).row
          obtain ⟨bc, oc, rfl, _, hbc⟩ := hcr.addr (by intro e; rw [e] at hc0; cases hc0)
          have cN := (hB9.cell (p := ⟨bc, oc + 0 * 2, none⟩) hbc).trans (hcr.col 0 hc0).1
          rw [Nat.zero_mul, Nat.add_zero] at cN
          have hT9 := (hB9.block _ (lt_of_block HT6.out)).trans HT6.out
          have t2 := cells_of hT9 2
          simp only [List.getElem?_toArray, List.getElem?_cons_zero, List.getElem?_cons_succ] at t2
          obtain ⟨nm, hnm⟩ : ∃ nm, nm = T.cols[0].1 := ⟨_, rfl⟩
          rw [← hnm] at cN
          have HNM := Lib.hid (show (stmtO T (ordTo T R n)).names = [nm] ∧ (stmtO T (D1 ++ T1)).names = [nm] from by
            have : (T.cols.getD 0 default).1 = nm := by rw [hnm, List.getD_eq_getElem?_getD, List.getElem?_eq_getElem hc0]; rfl
            exact ⟨by simp only [stmtO, this], by simp only [stmtO, this]⟩)
          have HT9 := Lib.hid hT9
          have hs9 := (hB9.block _ (lt_of_block HS6.out)).trans HS6.out
          have HS9 := Lib.hid hs9
          have HTV9 := Lib.hid ((HTV6.out.below hB9).bound)
          have HSTA9 := Lib.hid ((HSTA6.out.below hB9).bound)
          have HSLV9 := Lib.hid ((HSLV.out.below O9.out.b).bound)
          have HE9 := Lib.hid (HE6.out.below hB9)
          have hcT : (0 : Int) < (T.cols.length : Int) := by omega
          rcases O9.out.m.2 with ⟨_, hn00⟩ | ⟨g2, cap2, cur2, rfl, hg2B, hg2, hcap2, hcapm2, _, _⟩
          · omega
          have hrow2 : SlV condR (fun k => w8.heap.size ≤ k) w9 (.slice (some ⟨g2, 0, none⟩) n cap2) (D1 ++ T1) := by
            have hlen : (D1 ++ T1).length = n := by rw [List.length_append]; omega
            have hm := O9.out.m
            obtain ⟨a', c', e, h1, h2, _⟩ := RowAt.of_owns_flat (enc := condEnc) (sz := 5) (hl := fun _ => rfl) (p := fun k => w8.heap.size ≤ k) (L := D1 ++ T1) (by rw [hlen]; exact hm) (fun _ h => h)
            simp only [Value.slice.injEq] at e
            obtain ⟨rfl, _, rfl⟩ := e
            exact ⟨_, _, by rw [hlen], by rw [hlen]; exact hcap2, by rw [hlen]; omega, h2⟩
          have HROW2 := Lib.hid hrow2.bound
          clear hnm hcr hT9 hs9 hrow2 hB9 hg2
          go_upto_region 14 with (fail)
          generalize hW10 : World.alloc _ _ = W10
          have hA := (show allocs w9 [_, _] = W10 from hW10)
          have hb10 := allocs_self hA
          have k0 : W10.heap[w9.heap.size]? = some _ := allocs_get hA 0 rfl
          have k1 : W10.heap[w9.heap.size + 1]? = some _ := allocs_get hA 1 rfl
          have hNm : SlV strF (fun k => k = w9.heap.size) W10 (.slice (some ⟨w9.heap.size, 0, none⟩) 1 1) [nm] := sl_block (enc := strEnc) (hl := fun _ => rfl) [nm] k0 rfl rfl rfl (by simp)
          clear hW10 hA t2 cN hcT
          have hPl := plan_ord HG.out S R n HN1.out kk
          rw [← HD1.out, ← HT1.out] at hPl
          obtain ⟨P, hP⟩ : ∃ P, planOf T tab0 S sta0 (stmtO T (ordTo T R n)) = (P, 0) := ⟨(planOf T tab0 S sta0 (stmtO T (ordTo T R n))).1, Prod.ext rfl hPl.2⟩
          have HP1 := Lib.hid hP
          have HP2 := Lib.hid (hPl.1.trans hP)
          obtain ⟨⟨pi, plo, phi, pc⟩, ⟨ji, jlo, jhi, jc⟩, mg, cost⟩ := P
          clear hPl hP
          have hBt := hb10
          have cT := (hb10.block _ (lt_of_block HT9.out)).trans HT9.out
          have cS := (hb10.block _ (lt_of_block HS9.out)).trans HS9.out
          have t0 := cells_of cT 0
          have t1 := cells_of cT 1
          have t2 := cells_of cT 2
          have t3 := cells_of cT 3
          have s0 := cells_of cS 0
          have s1 := cells_of cS 1
          have m0 := cells_of k1 0
          have m1 := cells_of k1 1
          have m2 := cells_of k1 2
          have m3 := cells_of k1 3
          have m4 := cells_of k1 4
          have m5 := cells_of k1 5
          have m6 := cells_of k1 6
          have m7 := cells_of k1 7
          have m8 := cells_of k1 8
          have m9 := cells_of k1 9
          have m10 := cells_of k1 10
          have m11 := cells_of k1 11
          have m12 := cells_of k1 12
          have m13 := cells_of k1 13
          have m14 := cells_of k1 14
          simp only [List.getElem?_toArray, List.getElem?_cons_zero, List.getElem?_cons_succ] at t0 t1 t2 t3 s0 s1 m0 m1 m2 m3 m4 m5 m6 m7 m8 m9 m10 m11 m12 m13 m14
          have K1 := Lib.hid k1
          have B10 := Lib.hid hb10
          have HTV10 := Lib.hid (HTV9.out.below hb10)
          have HSTA10 := Lib.hid (HSTA9.out.below hb10)
          have HSLV10 := Lib.hid (HSLV9.out.below hb10)
          have HROW10 := Lib.hid (HROW2.out.below hb10)
          have HE10 := Lib.hid (HE9.out.below hb10)
          have HNm10 := Lib.hid hNm
          have hfine : ∀ c ∈ ordTo T R n, c.val.fine := fun c hc => by
            simp only [ordTo, List.mem_map, List.mem_range] at hc
            obtain ⟨i, hi, rfl⟩ := hc
            refine valOf_fine _ (tdiv_rng _ ?_)
            rw [List.getD_eq_getElem?_getD]
            cases h : R[i]? with
            | none => exact ⟨by decide, by decide⟩
            | some x => exact HF.out x (List.mem_of_getElem? h)
          have HFI := Lib.hid hfine
          have hi1 := HG.out.i1
          clear k0 k1 cT cS hBt hNm hb10 hfine
          go_wp2_with fail
          refine (plan_any (p2 := fun _ => True) (p4 := fun _ => True) HTV10.out tabV_zero HSTA10.out staV_zero (stmtV_of (p := fun _ => True) (s := stmtO T (ordTo T R n)) rfl rfl rfl (by rw [HNM.out.1]; exact HNm10.out.weaken fun _ _ => trivial) (fun _ _ e => by cases e) sl_nil (fun _ _ e => by cases e; rfl) (HSLV10.out.weaken fun _ _ => trivial))
            ⟨by rw [HNM.out.1]; simp, by simp [stmtO, stmt0], by simp [stmtO, stmt0], by simp only [stmtO, ordTo_len]; omega⟩ HFI.out HE10.out (by omega) (by simp [tab0])).mono ?_
          rintro e w11 ⟨rfl, b11⟩
          rw [HP1.out]
          rw [show planR (⟨⟨pi, plo, phi, pc⟩, ⟨ji, jlo, jhi, jc⟩, mg, cost⟩, 0) = .tuple #[.agg #[.int .i64 pi, .string plo, .string phi, .int .i64 pc, .int .i64 ji, .string jlo, .string jhi, .int .i64 jc, .bool mg, .int .i64 cost], .int .i64 0] from rfl]
          have B11 := Lib.hid (B10.out.trans (b11.mono B10.out.size))
          have BW10 := Lib.hid b11
          have K11 := Lib.hid ((b11.block _ (lt_of_block K1.out)).trans K1.out)
          clear b11 t0 t1 t2 t3 s0 s1 m0 m1 m2 m3 m4 m5 m6 m7 m8 m9 m10 m11 m12 m13 m14
          go_upto_region 15 with (fail)
          generalize hW12 : World.alloc _ _ = W12
          have hb12 : Below w11.heap.size w11 W12 := by rw [← hW12]; exact (Below.refl _ _).alloc (Nat.le_refl _) _
          have hp12 : W12.heap[w11.heap.size]? = some (.cells #[.int .i64 pi, .string plo, .string phi, .int .i64 pc, .int .i64 ji, .string jlo, .string jhi, .int .i64 jc, .bool mg, .int .i64 cost] 54 (0, 0)) := by rw [← hW12]; exact heap_alloc_new _ _
          have BX := Lib.hid (B11.out.trans (hb12.mono B11.out.size))
          have BB12 := BW10.out.trans (hb12.mono BW10.out.size)
          have hk12 := (hb12.block _ (lt_of_block K11.out)).trans K11.out
          have m7 := cells_of hk12 7
          have f7 := free_of hk12 7
          simp only [List.getElem?_toArray, List.getElem?_cons_zero, List.getElem?_cons_succ] at m7
          have HP12 := Lib.hid hp12
          have K12 := Lib.hid hk12
          have hlt1 := lt_of_block K1.out
          have hlt2 := B11.out.size
          have hlt3 := lt_of_block K11.out
          clear hW12 hb12 hp12 hk12
          go_upto_region 16 with (fail)
          generalize hW13 : World.setCell _ _ _ = W13
          have keep : ∀ k, k ≠ w9.heap.size + 1 → W13.heap[k]? = W12.heap[k]? := fun k hk => by
            rw [← hW13]
            exact Below.heap_setCell _ ⟨w9.heap.size + 1, 7, none⟩ _ k (fun e => hk e)
          have K13 := Lib.hid (show W13.heap[w9.heap.size + 1]? = some _ from by rw [← hW13]; exact block_set K12.out)
          have HP13 := Lib.hid ((keep w11.heap.size (by omega)).trans HP12.out)
          have HTV13 := Lib.hid ((HTV9.out.below BX.out).keep fun k hk _ => keep k (by have := hk.2; omega))
          have HSTA13 := Lib.hid ((HSTA9.out.below BX.out).keep fun k hk _ => keep k (by have := hk.2; omega))
          have HROW13 := Lib.hid ((HROW2.out.below BX.out).keep fun k hk _ => keep k (by have := hk.2; omega))
          have HNm13 := Lib.hid ((HNm10.out.below ((show Below W10.heap.size W10 W12 from BB12))).keep fun k hk _ => keep k (by omega))
          have cT := (keep bt (by have := lt_of_block HT9.out; omega)).trans ((BX.out.block _ (lt_of_block HT9.out)).trans HT9.out)
          have cS := (keep bs (by have := lt_of_block HS9.out; omega)).trans ((BX.out.block _ (lt_of_block HS9.out)).trans HS9.out)
          have HE13 := Lib.hid (show Env W13 from by
            obtain ⟨m, hm⟩ := HE9.out.below BX.out
            have h1 : 1 < w9.heap.size := World.block_lt_of_cell? w9 _ HE9.out.choose_spec
            exact ⟨m, (World.cell?_of_block (keep 1 (by omega))).trans hm⟩)
          have B13 := Lib.hid (show Below w.heap.size w W13 from by
            rw [← hW13]
            have h1 := B1.out.trans (B6.out.mono B1.out.size)
            have h2 := h1.trans (HB9.out.mono h1.size)
            exact (h2.trans (BX.out.mono h2.size)).setCell (p := ⟨w9.heap.size + 1, 7, none⟩) (by have := h2.size; simp; omega) _)
          have t0 := cells_of cT 0
          have t1 := cells_of cT 1
          have t2 := cells_of cT 2
          have t3 := cells_of cT 3
          have s0 := cells_of cS 0
          have s1 := cells_of cS 1
          have m0 := cells_of K13.out 0
          have m1 := cells_of K13.out 1
          have m2 := cells_of K13.out 2
          have m3 := cells_of K13.out 3
          have m4 := cells_of K13.out 4
          have m5 := cells_of K13.out 5
          have m6 := cells_of K13.out 6
          have m7 := cells_of K13.out 7
          have m8 := cells_of K13.out 8
          have m9 := cells_of K13.out 9
          have m10 := cells_of K13.out 10
          have m11 := cells_of K13.out 11
          have m12 := cells_of K13.out 12
          have m13 := cells_of K13.out 13
          have m14 := cells_of K13.out 14
          simp only [List.getElem?_toArray, List.getElem?_cons_zero, List.getElem?_cons_succ] at t0 t1 t2 t3 s0 s1 m0 m1 m2 m3 m4 m5 m6 m7 m8 m9 m10 m11 m12 m13 m14
          clear hW13 keep cT cS f7
          go_wp2_with fail
          refine (plan_any (p2 := fun _ => True) (p4 := fun _ => True) HTV13.out tabV_zero HSTA13.out staV_zero (stmtV_of (p := fun _ => True) (s := stmtO T (D1 ++ T1)) rfl rfl rfl (by rw [HNM.out.2]; exact HNm13.out.weaken fun _ _ => trivial) (fun _ _ e => by cases e) sl_nil (fun _ _ e => by cases e; rfl) (HROW13.out.weaken fun _ _ => trivial))
            ⟨by rw [HNM.out.2]; simp, by simp [stmtO, stmt0], by simp [stmtO, stmt0], by simp only [stmtO, List.length_append]; omega⟩ (fun c hc => HFI.out c (by
              have hc' : c ∈ D1 ++ T1 := hc
              rw [HD1.out, HT1.out] at hc'
              rcases List.mem_append.1 hc' with h | h
              · exact List.mem_of_mem_drop h
              · exact List.mem_of_mem_take h)) HE13.out (by omega) (by simp [tab0])).mono ?_
          rintro e w14 ⟨rfl, b14⟩
          rw [HP2.out]
          rw [show planR (⟨⟨pi, plo, phi, pc⟩, ⟨ji, jlo, jhi, jc⟩, mg, cost⟩, 0) = .tuple #[.agg #[.int .i64 pi, .string plo, .string phi, .int .i64 pc, .int .i64 ji, .string jlo, .string jhi, .int .i64 jc, .bool mg, .int .i64 cost], .int .i64 0] from rfl]
          have B14 := Lib.hid (B13.out.trans (b14.mono B13.out.size))
          have HP14 := Lib.hid ((b14.block _ (lt_of_block HP13.out)).trans HP13.out)
          clear b14 t0 t1 t2 t3 s0 s1 m0 m1 m2 m3 m4 m5 m6 m7 m8 m9 m10 m11 m12 m13 m14
          go_upto_region 17 with (fail)
          generalize hW15 : World.alloc _ _ = W15
          have hb15 : Below w14.heap.size w14 W15 := by rw [← hW15]; exact (Below.refl _ _).alloc (Nat.le_refl _) _
          have hp15 : W15.heap[w14.heap.size]? = some (.cells #[.int .i64 pi, .string plo, .string phi, .int .i64 pc, .int .i64 ji, .string jlo, .string jhi, .int .i64 jc, .bool mg, .int .i64 cost] 54 (0, 0)) := by rw [← hW15]; exact heap_alloc_new _ _
          have hp1 := (hb15.block _ (lt_of_block HP14.out)).trans HP14.out
          have B15 := Lib.hid (B14.out.trans (hb15.mono B14.out.size))
          have a0 := cells_of hp1 0
          have c0 := cells_of hp15 0
          have a1 := cells_of hp1 1
          have c1 := cells_of hp15 1
          have a2 := cells_of hp1 2
          have c2 := cells_of hp15 2
          have a3 := cells_of hp1 3
          have c3 := cells_of hp15 3
          have a4 := cells_of hp1 4
          have c4 := cells_of hp15 4
          have a5 := cells_of hp1 5
          have c5 := cells_of hp15 5
          have a6 := cells_of hp1 6
          have c6 := cells_of hp15 6
          have a7 := cells_of hp1 7
          have c7 := cells_of hp15 7
          have a8 := cells_of hp1 8
          have c8 := cells_of hp15 8
          have a9 := cells_of hp1 9
          have c9 := cells_of hp15 9
          simp only [List.getElem?_toArray, List.getElem?_cons_zero, List.getElem?_cons_succ] at a0 c0 a1 c1 a2 c2 a3 c3 a4 c4 a5 c5 a6 c6 a7 c7 a8 c8 a9 c9
          clear hW15 hb15 hp15 hp1
          go_wp2_with fail
          go_ret
          exact ⟨rfl, B15.out⟩
end Go.Proofs.YtajlngkakpjncaaDoor
