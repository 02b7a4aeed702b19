/- plain.Alike: two states hold the same tables and the same rows, in any order. -/
import Derived.Laws.EntriesVeiled
import Derived.Test.YtgemihkcihigpaaGreatDoorZB34
import Derived.Test.YtgemihkcihigpaaGreatDoorZD4
import Derived.Test.YtgemihkcihigpaaGreatDoorZD7
set_option linter.unusedVariables false
set_option linter.unusedSimpArgs false
namespace Go.Proofs.YtgemihkcihigpaaGreatDoor
section
open Go.RowKit
def eqX (x y : Ix) : Bool := (x.name.toList == y.name.toList) && eqInts x.cols y.cols
def eqIdx (x y : List Ix) : Bool := decide (x.length = y.length) && allN (fun t => eqX (ixAt x t) (ixAt y t)) x.length
def eqT (x y : Tab) : Bool := (x.id == y.id) && ((x.name.toList == y.name.toList) && (eqCols x.cols y.cols && eqIdx x.idx y.idx))
def eqTabs (x y : List Tab) : Bool := decide (x.length = y.length) && allN (fun t => eqT (tabAtN x t) (tabAtN y t)) x.length
def eqRs (x y : List (List Val)) : Bool := sameRows (sortBy cmpR x) (sortBy cmpR y)
def rsAt (L : List (List (List Val))) (t : Nat) : List (List Val) := (L[t]?).getD []
def eqAll (x y : List (List (List Val))) : Bool := decide (x.length = y.length) && allN (fun t => eqRs (rsAt x t) (rsAt y t)) x.length
def alikeV (s t : StV) : Bool := eqTabs s.tabs t.tabs && eqAll s.rows t.rows
end
section
open Go Go.RowKit
theorem sameR_refl (x : List Val) : sameR x x = true := by
 unfold sameR
 rw [decide_eq_true rfl, Bool.true_and]
 refine allN_hit fun t _ => ?_
 unfold sameV
 rw [decide_eq_true rfl, decide_eq_true (tot_cmpV.refl _)]
 rfl
theorem sameRows_refl (x : List (List Val)) : sameRows x x = true := by
 unfold sameRows
 rw [decide_eq_true rfl, Bool.true_and]
 exact allN_hit fun t _ => sameR_refl _
end
section
open Go Go.RowKit Go.Sort
def srtL (N : List Int) (L : List (List Val)) : List (List Val) := sortBy (fun A B => cmpBy A B N) L
theorem sort_pair {α : Type} {f : α -> α -> Int} (hf : Tot f) (L : List α) : (sortBy f L).Pairwise fun a b => f a b <= 0 := by
 have h := List.pairwise_mergeSort (le := fun a b => decide (f a b <= 0)) (fun a b c h1 h2 => by
  have h1' : f a b <= 0 := by simpa using h1
  have h2' : f b c <= 0 := by simpa using h2
  have := hf.trans a b c h1' h2'
  simpa using this) (fun a b => by
  have := hf.anti a b
  have : f a b <= 0 \/ f b a <= 0 := by omega
  simpa using this) L
 exact h.imp fun h => by simpa using h
theorem sort_mem {α : Type} {f : α -> α -> Int} {L : List α} {x : α} : x ∈ sortBy f L ↔ x ∈ L := (List.mergeSort_perm _ _).mem_iff
theorem sort_idem {α : Type} {f : α -> α -> Int} (hf : Tot f) (L : List α) : sortBy f (sortBy f L) = sortBy f L := by
 have h := sort_pair hf L
 exact List.mergeSort_of_pairwise (h.imp fun h => by simpa using h)
theorem srtL_idem (N : List Int) (L : List (List Val)) : srtL N (srtL N L) = srtL N L := sort_idem (tot_cmpBy N) L
theorem srtL_fine {N : List Int} {L : List (List Val)} (h : FineL L) : FineL (srtL N L) := fun r hr => h r (sort_mem.1 hr)
theorem srtL_small {N : List Int} {L : List (List Val)} {n : Nat} (h : ∀ x ∈ L, x.length <= n) : ∀ x ∈ srtL N L, x.length <= n := fun r hr => h r (sort_mem.1 hr)
theorem srtL_step {L : List (List Val)} {i : Nat} (h : i + 1 < (srtL [] L).length) : cmpR (srtL [] L)[i] (srtL [] L)[i + 1] <= 0 := by
 have := List.pairwise_iff_getElem.1 (sort_pair (tot_cmpBy []) L) i (i + 1) (by unfold srtL at h; omega) h (by omega)
 exact this
theorem cutV_fine {L : List (List Val)} (h : FineL L) : FineL (cutV L) := fun r hr v hv => by
 obtain ⟨_, x, hx, hvx⟩ := cutV_row hr
 exact h x hx v (hvx v hv)
theorem cutV_small (L : List (List Val)) : (cutV L).length <= 1000000 /\ ∀ x ∈ cutV L, x.length <= 1000000 :=
 ⟨by rw [cutV_len]; omega, fun x hx => by have := (cutV_row hx).1; omega⟩
theorem sameA_refl (x : AnsV) : sameA x x = true := by
 unfold sameA
 rw [decide_eq_true rfl, decide_eq_true rfl, sameRows_refl]
 rfl
theorem st_keep {α : Type} {R : Rep α} {p : Nat -> Prop} {w U : World} {v x : Value} {L : List α} {q o : Nat} (h : SlV R p w v L) (hA : w.setCell ⟨q, o, none⟩ x = U) (hp : ∀ k, p k -> k ≠ q) : SlV R p U v L :=
 h.keep fun k hk _ => by rw [<- hA]; exact heap_setCell_other _ _ _ _ (hp k hk)
theorem st_heap {w U : World} {x : Value} {q o k : Nat} {c : Obj} (h : w.heap[k]? = some c) (hA : w.setCell ⟨q, o, none⟩ x = U) (hne : k ≠ q) : U.heap[k]? = some c := by
 rw [<- hA]
 exact (heap_setCell_other _ _ _ _ hne).trans h
theorem row_takeI {α : Type} {R : Rep α} {p : Nat -> Prop} {w : World} {a : Option Addr} {X : List α} (m : Nat) (h : RowAt R p w a X) : RowAt R p w a (X.take m) := by
 rcases h with rfl | ⟨b, off, ha, hp, hb, hc⟩
 · exact Or.inl (by simp)
 · refine Or.inr ⟨b, off, ha, hp, hb, fun t ht => ?_⟩
   have ht' : t < X.length := by rw [List.length_take] at ht; omega
   obtain ⟨cs, h1, h2⟩ := hc t ht'
   exact ⟨cs, h1, by rw [List.getElem_take]; exact h2⟩
end
open Go.Lib (hid)
section
open Go.RowKit
set_option maxRecDepth 100000 in
set_option maxHeartbeats 32000000 in
theorem srt_walk {p q r s : Nat -> Prop} {al ay a0 a1 : Option Addr} {cl cz c0 c1 : Nat} {l L0 L1 : List (List Val)} {N : List Int} {e0 k0 e1 k1 : Int} {w : World}
 (hl : SlV rowR p w (.slice al l.length cl) l) (fl : FineL l) (hN : SlV intR q w (.slice ay N.length cz) N) (h0 : SlV rowR r w (.slice a0 L0.length c0) L0) (f0 : FineL L0) (h1 : SlV rowR s w (.slice a1 L1.length c1) L1) (f1 : FineL L1) (hK : KindsAt w) :
 Calls Tryz.prog 8 #[.slice al l.length cl, .slice ay N.length cz, .agg #[.int .i64 e0, .slice a0 L0.length c0, .int .i64 k0, .int .i64 e1, .slice a1 L1.length c1, .int .i64 k1]] w fun e w' => e = .returned (.bool true) /\ Below w.heap.size w w' := by
 have HK := hid hK
 have SL := hid hl
 have FL := hid fl
 have SN := hid hN
 have S0 := hid h0
 have F0 := hid f0
 have S1 := hid h1
 have F1 := hid f1
 obtain ⟨M, hM⟩ : ∃ M, N.take 5 = M := ⟨_, rfl⟩
 have hmN : M.length <= N.length := by rw [<- hM, List.length_take]; omega
 have hmi : min (N.length : Int) 5 = (M.length : Int) := by rw [<- hM, List.length_take]; omega
 have hmc : M.length <= cz := Nat.le_trans hmN hN.row.2.1
 have SM := hid (show SlV intR q w (.slice ay M.length cz) M from ⟨ay, cz, rfl, hmc, Nat.le_trans hmN hN.row.2.2.1, by rw [<- hM]; exact row_takeI 5 hN.row.2.2.2⟩)
 obtain ⟨AL, hAL⟩ : ∃ X, cutV l = X := ⟨_, rfl⟩
 obtain ⟨A0, hA0⟩ : ∃ X, cutV L0 = X := ⟨_, rfl⟩
 obtain ⟨A1, hA1⟩ : ∃ X, cutV L1 = X := ⟨_, rfl⟩
 have HAL := hid (show (AL.length <= 1000000 /\ ∀ x ∈ AL, x.length <= 1000000) /\ FineL AL /\ cutV l = AL by rw [<- hAL]; exact ⟨cutV_small l, cutV_fine fl, rfl⟩)
 have HA0 := hid (show (A0.length <= 1000000 /\ ∀ x ∈ A0, x.length <= 1000000) /\ FineL A0 /\ cutV L0 = A0 by rw [<- hA0]; exact ⟨cutV_small L0, cutV_fine f0, rfl⟩)
 have HA1 := hid (show (A1.length <= 1000000 /\ ∀ x ∈ A1, x.length <= 1000000) /\ FineL A1 /\ cutV L1 = A1 by rw [<- hA1]; exact ⟨cutV_small L1, cutV_fine f1, rfl⟩)
 clear hK hl fl hN h0 f0 h1 f1 hM hAL hA0 hA1 hmN
 go_enter Tryz.func8, Tryz.ntmps8
 go_upto_region 1 with (fail)
 generalize hX : World.alloc _ _ = W1
 have b1 : Below w.heap.size w W1 := by rw [<- hX]; exact (b0R).alloc (Nat.le_refl _) _
 have G5 := hid (show W1.heap[w.heap.size]? = some (.cells #[.int .i64 e0, .slice a0 L0.length c0, .int .i64 k0, .int .i64 e1, .slice a1 L1.length c1, .int .i64 k1] 66 (0, 0)) by rw [<- hX]; exact heap_alloc_new _ _)
 have BW := hid b1
 obtain ⟨q5, hq5⟩ : ∃ q, w.heap.size = q := ⟨_, rfl⟩
 rw [hq5] at G5 ⊢
 have HQ5 := hid hq5
 replace SL := hid (SL.out.below b1)
 replace SM := hid (SM.out.below b1)
 replace S0 := hid (S0.out.below b1)
 replace S1 := hid (S1.out.below b1)
 clear hX b1 hq5
 go_wp2_with fail
 refine (sanity_any W1 (HK.out.below BW.out)).mono ?_
 rintro e w2 ⟨rfl, b2⟩
 replace SL := hid (SL.out.below b2)
 replace SM := hid (SM.out.below b2)
 replace S0 := hid (S0.out.below b2)
 replace S1 := hid (S1.out.below b2)
 replace G5 := cy b2 G5
 replace BW := hid (BW.out.trans (b2.mono BW.out.size))
 clear b2
 go_wp2_with fail
 refine (lrows_any SL.out).mono ?_
 rintro e w3 ⟨ra, rc, rfl, b3, s3⟩
 replace SL := hid (SL.out.below b3)
 replace SM := hid (SM.out.below b3)
 replace S0 := hid (S0.out.below b3)
 replace S1 := hid (S1.out.below b3)
 replace G5 := cy b3 G5
 replace BW := hid (BW.out.trans (b3.mono BW.out.size))
 rw [HAL.out.2.2] at s3 ⊢
 have SR := hid s3
 clear b3 s3 SL
 go_wp2_with fail
 have con := sorted_any SR.out SM.out HAL.out.1.1 HAL.out.1.2 (HK.out.below BW.out)
 refine con.mono ?_
 rintro e w4 ⟨ga, gc, G, rfl, b4, gl, s4, st4⟩
 obtain rfl : G = srtL M AL := stab_eq (tot_cmpBy M) st4
 obtain ⟨GV, hGV⟩ : ∃ G, srtL M AL = G := ⟨_, rfl⟩
 rw [hGV] at s4 gl
 have HLG := hid gl
 have SG := hid s4
 have HGV := hid hGV
 replace SM := hid (SM.out.below b4)
 replace S0 := hid (S0.out.below b4)
 replace S1 := hid (S1.out.below b4)
 replace G5 := cy b4 G5
 replace SR := hid (SR.out.below b4)
 replace BW := hid (BW.out.trans (b4.mono BW.out.size))
 clear con b4 s4 st4 gl hGV
 go_wp2_with fail
 have con := rsorted_any SR.out SM.out HAL.out.1.1 HAL.out.1.2 HAL.out.2.1
 refine con.mono ?_
 rintro e w5 ⟨ha, hc, rfl, b5, s5⟩
 rw [show sortBy (fun A B => cmpBy A B M) AL = GV from HGV.out] at s5
 have SH := hid s5
 have FG := hid (show FineL GV by rw [<- HGV.out]; exact srtL_fine HAL.out.2.1)
 replace SM := hid (SM.out.below b5)
 replace S0 := hid (S0.out.below b5)
 replace S1 := hid (S1.out.below b5)
 replace G5 := cy b5 G5
 replace SR := hid (SR.out.below b5)
 replace SG := hid (SG.out.below b5)
 replace BW := hid (BW.out.trans (b5.mono BW.out.size))
 clear con b5 s5
 clear SR SM
 obtain ⟨V0, hV0⟩ : ∃ W, W = w5 := ⟨_, rfl⟩
 subst hV0
 have x0 := cells_of G5.out 0
 have x1 := cells_of G5.out 1
 have x2 := cells_of G5.out 2
 simp only [gT, gZ, gS] at x0 x1 x2
 go_upto_region 7 with (fail)
 generalize hX : World.alloc _ _ = V6
 have b6 : Below V0.heap.size V0 V6 := by rw [<- hX]; exact (b0R).alloc (Nat.le_refl _) _
 have G12 := hid (show V6.heap[V0.heap.size]? = some (.cells #[.int .i64 e0, .slice a0 L0.length c0, .int .i64 k0] 43 (0, 0)) by rw [<- hX]; exact heap_alloc_new _ _)
 obtain ⟨q12, hq12⟩ : ∃ q, V0.heap.size = q := ⟨_, rfl⟩
 rw [hq12] at G12 ⊢
 have HQ12 := hid hq12
 have G56 := cy b6 G5
 have BV := hid b6
 clear hX b6 hq12 x0 x1 x2
 have x3 := cells_of G56.out 3
 have x4 := cells_of G56.out 4
 have x5 := cells_of G56.out 5
 simp only [gT, gZ, gS] at x3 x4 x5
 go_upto_region 8 with (fail)
 generalize hX : World.alloc _ _ = V7
 have b7 : Below V6.heap.size V6 V7 := by rw [<- hX]; exact (b0R).alloc (Nat.le_refl _) _
 have G13 := hid (show V7.heap[V6.heap.size]? = some (.cells #[.int .i64 e1, .slice a1 L1.length c1, .int .i64 k1] 43 (0, 0)) by rw [<- hX]; exact heap_alloc_new _ _)
 obtain ⟨q13, hq13⟩ : ∃ q, V6.heap.size = q := ⟨_, rfl⟩
 have HQ13 := hid (show q12 < q13 by rw [<- hq13]; exact lt_of_block G12.out)
 rw [hq13] at G13 ⊢
 replace G12 := cy b7 G12
 replace BV := hid (BV.out.trans (b7.mono BV.out.size))
 clear hX b7 hq13 x3 x4 x5 G56
 have LV7 := hid (lt_of_block G13.out)
 have m1 := cells_of G12.out 1
 simp only [gT, gZ, gS] at m1
 go_wp2_with fail
 have con := lrows_any (S0.out.below BV.out)
 refine con.mono ?_
 rintro e w8 ⟨ra0, rc0, rfl, b8, s8⟩
 rw [HA0.out.2.2] at s8 ⊢
 have LB := hid (lt_of_block G12.out)
 replace G12 := cy b8 G12
 replace G13 := cy b8 G13
 replace BV := hid (BV.out.trans (b8.mono BV.out.size))
 clear con b8 m1
 have m1 := cells_of G12.out 1
 have n1 := free_of G12.out 1
 simp only [gT, gZ, gS] at m1
 go_upto_region 9 with (fail)
 generalize hA : World.setCell _ _ _ = U8
 have SA := hid (st_keep s8 hA (fun k hk e => Nat.lt_irrefl _ (Nat.lt_of_lt_of_le (by rw [e]; exact LB.out) hk))).bound
 replace G13 := hid (st_heap G13.out hA (Nat.ne_of_gt HQ13.out))
 replace G12 := hid (show U8.heap[q12]? = some (.cells #[.int .i64 e0, .slice ra0 A0.length rc0, .int .i64 k0] 43 (0, 0)) by
  rw [<- hA]
  exact (heap_setCell_same _ _ _ _ _ _ G12.out).trans rfl)
 replace BV := hid (show Below V0.heap.size V0 U8 by rw [<- hA]; exact BV.out.setCell (p := ⟨q12, 1, none⟩) (Nat.le_of_eq HQ12.out) _)
 clear hA m1 n1 s8 LB
 have m1 := cells_of G13.out 1
 simp only [gT, gZ, gS] at m1
 go_wp2_with fail
 have con := lrows_any (S1.out.below BV.out)
 refine con.mono ?_
 rintro e w9 ⟨rb0, sc0, rfl, b8, s8⟩
 rw [HA1.out.2.2] at s8 ⊢
 have LB := hid (lt_of_block G13.out)
 replace G13 := cy b8 G13
 replace G12 := cy b8 G12
 replace SA := hid (SA.out.below b8)
 replace BV := hid (BV.out.trans (b8.mono BV.out.size))
 clear con b8 m1
 have m1 := cells_of G13.out 1
 have n1 := free_of G13.out 1
 simp only [gT, gZ, gS] at m1
 go_upto_region 10 with (fail)
 generalize hA : World.setCell _ _ _ = U9
 have SC := hid (st_keep s8 hA (fun k hk e => Nat.lt_irrefl _ (Nat.lt_of_lt_of_le (by rw [e]; exact LB.out) hk))).bound
 replace SA := hid (st_keep SA.out hA (fun k hk e => Nat.lt_irrefl _ (Nat.lt_of_lt_of_le (by rw [e]; exact LV7.out) hk.1))).bound
 replace G12 := hid (st_heap G12.out hA (Nat.ne_of_lt HQ13.out))
 replace G13 := hid (show U9.heap[q13]? = some (.cells #[.int .i64 e1, .slice rb0 A1.length sc0, .int .i64 k1] 43 (0, 0)) by
  rw [<- hA]
  exact (heap_setCell_same _ _ _ _ _ _ G13.out).trans rfl)
 replace BV := hid (show Below V0.heap.size V0 U9 by rw [<- hA]; exact BV.out.setCell (p := ⟨q13, 1, none⟩) (show V0.heap.size <= q13 by have h1 := HQ12.out; have h2 := HQ13.out; omega) _)
 clear hA m1 n1 s8 LB
 have x0 := cells_of G12.out 0
 have x1 := cells_of G12.out 1
 have x2 := cells_of G12.out 2
 simp only [gT, gZ, gS] at x0 x1 x2
 go_upto_region 11 with (fail)
 generalize hX : World.alloc _ _ = V10
 have b10 : Below U9.heap.size U9 V10 := by rw [<- hX]; exact (b0R).alloc (Nat.le_refl _) _
 have G14 := hid (show V10.heap[U9.heap.size]? = some (.cells #[.int .i64 e0, .slice ra0 A0.length rc0, .int .i64 k0] 43 (0, 0)) by rw [<- hX]; exact heap_alloc_new _ _)
 have Lq14 := hid (show q12 < U9.heap.size /\ q13 < U9.heap.size from ⟨lt_of_block G12.out, lt_of_block G13.out⟩)
 obtain ⟨q14, hq14⟩ : ∃ q, U9.heap.size = q := ⟨_, rfl⟩
 rw [hq14] at G14 Lq14 ⊢
 have Hq14 := hid hq14
 have Bq14 := hid (show V0.heap.size <= q14 by rw [<- hq14]; exact BV.out.size)
 replace G12 := cy b10 G12
 replace G13 := cy b10 G13
 replace SA := hid (SA.out.below b10)
 replace SC := hid (SC.out.below b10)
 replace BV := hid (BV.out.trans (b10.mono BV.out.size))
 clear hX b10 hq14 x0 x1 x2
 have m1 := cells_of G12.out 1
 simp only [gT, gZ, gS] at m1
 go_wp2_with fail
 have con := sorted_any (N := []) SA.out (nil_sl (p := fun _ => True)) HA0.out.1.1 HA0.out.1.2 (HK.out.below (BW.out.trans (BV.out.mono BW.out.size)))
 refine con.mono ?_
 rintro e w11 ⟨da, dc, D, rfl, b8, gl, s8, st8⟩
 obtain rfl : D = srtL [] A0 := stab_eq (tot_cmpBy []) st8
 obtain ⟨D, hD⟩ : ∃ D, srtL [] A0 = D := ⟨_, rfl⟩
 rw [hD] at s8 gl
 have HD := hid hD
 have HLD := hid gl
 clear hD gl st8
 have LB := hid (lt_of_block G14.out)
 replace G14 := cy b8 G14
 replace G12 := cy b8 G12
 replace G13 := cy b8 G13
 replace SA := hid (SA.out.below b8)
 replace SC := hid (SC.out.below b8)
 replace BV := hid (BV.out.trans (b8.mono BV.out.size))
 clear con b8 m1
 have m1 := cells_of G14.out 1
 have n1 := free_of G14.out 1
 simp only [gT, gZ, gS] at m1
 go_upto_region 12 with (fail)
 generalize hA : World.setCell _ _ _ = U11
 have SD := hid (st_keep s8 hA (fun k hk e => Nat.lt_irrefl _ (Nat.lt_of_lt_of_le (by rw [e]; exact LB.out) hk))).bound
 replace SA := hid (st_keep SA.out hA (fun k hk e => Nat.lt_irrefl _ (Nat.lt_of_lt_of_le hk.2 (by rw [e]; exact Nat.le_of_eq Hq14.out)))).bound
 replace SC := hid (st_keep SC.out hA (fun k hk e => Nat.lt_irrefl _ (Nat.lt_of_lt_of_le hk.2 (by rw [e]; exact Nat.le_of_eq Hq14.out)))).bound
 replace G12 := hid (st_heap G12.out hA (Nat.ne_of_lt Lq14.out.1))
 replace G13 := hid (st_heap G13.out hA (Nat.ne_of_lt Lq14.out.2))
 replace G14 := hid (show U11.heap[q14]? = some (.cells #[.int .i64 e0, .slice da A0.length dc, .int .i64 k0] 43 (0, 0)) by
  rw [<- hA]
  exact (heap_setCell_same _ _ _ _ _ _ G14.out).trans rfl)
 replace BV := hid (show Below V0.heap.size V0 U11 by rw [<- hA]; exact BV.out.setCell (p := ⟨q14, 1, none⟩) (Bq14.out) _)
 clear hA m1 n1 s8 LB
 have x0 := cells_of G12.out 0
 have x1 := cells_of G12.out 1
 have x2 := cells_of G12.out 2
 simp only [gT, gZ, gS] at x0 x1 x2
 go_upto_region 13 with (fail)
 generalize hX : World.alloc _ _ = V12
 have b10 : Below U11.heap.size U11 V12 := by rw [<- hX]; exact (b0R).alloc (Nat.le_refl _) _
 have G15 := hid (show V12.heap[U11.heap.size]? = some (.cells #[.int .i64 e0, .slice ra0 A0.length rc0, .int .i64 k0] 43 (0, 0)) by rw [<- hX]; exact heap_alloc_new _ _)
 have Lq15 := hid (show q12 < U11.heap.size /\ q13 < U11.heap.size /\ q14 < U11.heap.size from ⟨lt_of_block G12.out, lt_of_block G13.out, lt_of_block G14.out⟩)
 obtain ⟨q15, hq15⟩ : ∃ q, U11.heap.size = q := ⟨_, rfl⟩
 rw [hq15] at G15 Lq15 ⊢
 have Hq15 := hid hq15
 have Bq15 := hid (show V0.heap.size <= q15 by rw [<- hq15]; exact BV.out.size)
 replace G12 := cy b10 G12
 replace G13 := cy b10 G13
 replace G14 := cy b10 G14
 replace SA := hid (SA.out.below b10)
 replace SC := hid (SC.out.below b10)
 replace SD := hid (SD.out.below b10)
 replace BV := hid (BV.out.trans (b10.mono BV.out.size))
 clear hX b10 hq15 x0 x1 x2
 have m1 := cells_of G14.out 1
 simp only [gT, gZ, gS] at m1
 go_wp2_with fail
 have con := sorted_any (N := []) (show SlV rowR _ _ (.slice da D.length dc) D by rw [HLD.out]; exact SD.out) (nil_sl (p := fun _ => True)) (by rw [HLD.out]; exact HA0.out.1.1) (by rw [<- HD.out]; exact srtL_small HA0.out.1.2) (HK.out.below (BW.out.trans (BV.out.mono BW.out.size)))
 rw [HLD.out] at con
 refine con.mono ?_
 rintro e w13 ⟨ea, ec, E, rfl, b8, gl, s8, st8⟩
 obtain rfl : D = E := by
  refine Eq.symm ((stab_eq (tot_cmpBy []) st8).trans ?_)
  rw [<- HD.out]
  exact srtL_idem [] A0
 clear gl st8
 have LB := hid (lt_of_block G15.out)
 replace G15 := cy b8 G15
 replace G12 := cy b8 G12
 replace G13 := cy b8 G13
 replace G14 := cy b8 G14
 replace SA := hid (SA.out.below b8)
 replace SC := hid (SC.out.below b8)
 replace SD := hid (SD.out.below b8)
 replace BV := hid (BV.out.trans (b8.mono BV.out.size))
 clear con b8 m1
 have m1 := cells_of G15.out 1
 have n1 := free_of G15.out 1
 simp only [gT, gZ, gS] at m1
 go_upto_region 14 with (fail)
 generalize hA : World.setCell _ _ _ = U13
 have SE := hid (st_keep s8 hA (fun k hk e => Nat.lt_irrefl _ (Nat.lt_of_lt_of_le (by rw [e]; exact LB.out) hk))).bound
 replace SA := hid (st_keep SA.out hA (fun k hk e => Nat.lt_irrefl _ (Nat.lt_of_lt_of_le hk.2 (by rw [e]; exact Nat.le_of_eq Hq15.out)))).bound
 replace SC := hid (st_keep SC.out hA (fun k hk e => Nat.lt_irrefl _ (Nat.lt_of_lt_of_le hk.2 (by rw [e]; exact Nat.le_of_eq Hq15.out)))).bound
 replace SD := hid (st_keep SD.out hA (fun k hk e => Nat.lt_irrefl _ (Nat.lt_of_lt_of_le hk.2 (by rw [e]; exact Nat.le_of_eq Hq15.out)))).bound
 replace G12 := hid (st_heap G12.out hA (Nat.ne_of_lt Lq15.out.1))
 replace G13 := hid (st_heap G13.out hA (Nat.ne_of_lt Lq15.out.2.1))
 replace G14 := hid (st_heap G14.out hA (Nat.ne_of_lt Lq15.out.2.2))
 replace G15 := hid (show U13.heap[q15]? = some (.cells #[.int .i64 e0, .slice ea A0.length ec, .int .i64 k0] 43 (0, 0)) by
  rw [<- hA]
  exact (heap_setCell_same _ _ _ _ _ _ G15.out).trans rfl)
 replace BV := hid (show Below V0.heap.size V0 U13 by rw [<- hA]; exact BV.out.setCell (p := ⟨q15, 1, none⟩) (Bq15.out) _)
 clear hA m1 n1 s8 LB
 obtain ⟨U, hU⟩ : ∃ W, W = U13 := ⟨_, rfl⟩
 subst hU
 replace BW := hid (BW.out.trans (BV.out.mono BW.out.size))
 replace SG := hid (SG.out.below BV.out)
 replace SH := hid (SH.out.below BV.out)
 have HKU := hid (HK.out.below BW.out)
 clear BV Lq14 Lq15 Hq14 Hq15 Bq14 Bq15 LV7 HQ12 HQ13 S0 S1
 go_wp2_with fail
 go_loopw [16] (fun x16 wr => ∃ i : Nat, x16 = .int .i64 ((i : Int) + 1) /\ Hid (Below U.heap.size U wr)) (fun x16 _ => A0.length - (intOf x16).toNat)
 case atStart => exact ⟨0, rfl, Below.refl _ _⟩
 case round =>
  obtain ⟨i, rfl, HR⟩ := hrel
  have z1 := cells_of ((HR.out.block _ (lt_of_block G14.out)).trans G14.out) 1
  simp only [gT, gZ, gS] at z1
  by_cases hlt : i + 1 < A0.length
  · have hiD : i + 1 < D.length := by rw [HLD.out]; exact hlt
    have rz := SD.out.below HR.out
    obtain ⟨bd, od, rfl, _, hbd⟩ := rz.row.2.2.2.addr (by intro e; rw [e] at hiD; cases hiD)
    obtain ⟨ri, rci, ci, hri⟩ := rz.row.2.2.2.lst (i + 1) hiD
    obtain ⟨rj, rcj, cj, hrj⟩ := rz.row.2.2.2.lst i (by omega)
    obtain ⟨d, hd⟩ : ∃ d, cmpR (D[i]'(by omega)) D[i + 1] = d := ⟨_, rfl⟩
    have hle : d <= 0 := by
     rw [<- hd]
     have hst := HD.out
     subst hst
     exact srtL_step hiD
    have HD0 := hid (show _ /\ _ from ⟨ci, cj⟩)
    have HBD := hid hbd
    have HG14 := cy HR.out G14
    obtain ⟨X, hX⟩ : ∃ X, D[i + 1] = X := ⟨_, rfl⟩
    obtain ⟨Y, hY⟩ : ∃ Y, D[i]'(by omega) = Y := ⟨_, rfl⟩
    rw [hX, hY] at hd
    rw [hX] at ci hri
    rw [hY] at cj hrj
    have HC := hid (show _ /\ _ from ⟨ci, cj⟩)
    have HX := hid hri
    have HY := hid hrj
    have HKR := hid (HKU.out.below HR.out)
    have HCON := hid (fun z : Wld (Below wr.heap.size wr) => (by
     have h := rows_gr (HY.out.below z.good) (HX.out.below z.good) (HKR.out.below z.good)
     rw [hd] at h
     exact h.mono (fun e w' k => ⟨k.1, k.2.below⟩) : Calls Tryz.prog 25 #[.slice rj Y.length rcj, .slice ri X.length rci] z.val fun e w' => e = .returned (.int .i64 d) /\ Below z.val.heap.size z.val w'))
    have hA0l := HA0.out.1.1
    have hw0 : IntKind.i64.wrap ((i : Int) + 1 - 1) = (i : Int) := by rw [IntKind.wrap_i64]; omega
    have hw1 : IntKind.i64.wrap (i : Int) = (i : Int) := by rw [IntKind.wrap_i64]; omega
    have d1 : decide (d > 0) = false := by simp; omega
    have d2 : decide (0 < d) = false := by simp; omega
    clear rz hri hrj ci cj hX hY hd hle HD0
    go_upto_region 17 with (fail)
    refine wp_region_class (Below wr.heap.size wr) (by kernel_rfl) (by kernel_rfl) (Below.drew b0R) (fun ne => ?_)
    have c14 := fun z : Wld (Below wr.heap.size wr) => cells_of ((z.good.block _ (lt_of_block HG14.out)).trans HG14.out) 1
    have ci := fun z : Wld (Below wr.heap.size wr) => (z.good.cell (p := ⟨bd, od + (i + 1), none⟩) HBD.out).trans HC.out.1
    have cj := fun z : Wld (Below wr.heap.size wr) => (z.good.cell (p := ⟨bd, od + i, none⟩) HBD.out).trans HC.out.2
    simp only [gT, gZ, gS] at c14
    clear z1
    repeat (go_big_quiet_step ((go_at_call 25; (with_reducible refine Calls.mono (HCON.out _) ?_); rintro e w3 ⟨rfl, b3⟩; exact ⟨rfl, class_below _ b3 (Nat.le_refl _)⟩)))
    refine wpQuiet_nil ?_
    intro w3 b3
    have B3 := hid (HR.out.trans (b3.mono HR.out.size))
    clear b3 c14 ci cj ne HCON
    go_wp2_with fail
    go_roundw
    case rel => exact ⟨i + 1, by go_num, B3.out⟩
    case measure => simp [intOf]; omega
  · obtain ⟨W, hW⟩ : ∃ W, W = wr := ⟨_, rfl⟩
    subst hW
    replace BW := hid (BW.out.trans (HR.out.mono BW.out.size))
    replace G12 := cy HR.out G12
    replace G13 := cy HR.out G13
    replace G14 := cy HR.out G14
    replace G15 := cy HR.out G15
    replace SA := hid (SA.out.below HR.out)
    replace SC := hid (SC.out.below HR.out)
    replace SD := hid (SD.out.below HR.out)
    replace SE := hid (SE.out.below HR.out)
    replace SG := hid (SG.out.below HR.out)
    replace SH := hid (SH.out.below HR.out)
    have HKW := hid (HK.out.below BW.out)
    clear HR HKU
    obtain ⟨r1, hr1⟩ : ∃ b, sameA ⟨e0, A0, k0⟩ ⟨e1, A1, k1⟩ = b := ⟨_, rfl⟩
    obtain ⟨r2, hr2⟩ : ∃ b, sameA ⟨e0, A0, k0⟩ ⟨e0, D, k0⟩ = b := ⟨_, rfl⟩
    have HR1 := hid hr1
    have HR2 := hid hr2
    clear hr1 hr2
    have C1 := hid (fun z : Wld (Below W.heap.size W) => (by
     have h := rsame_any (ex := 0) (ey := 0) (nx := 0) (ny := 0) (show SlV rowR _ _ (.slice ga (List.length GV) gc) GV by rw [HLG.out]; exact SG.out.below z.good) (show SlV rowR _ _ (.slice ha (List.length GV) hc) GV by rw [HLG.out]; exact SH.out.below z.good) FG.out
     rw [HLG.out] at h
     rw [sameA_refl] at h
     exact h : Calls Tryz.prog 17 #[.agg #[.int .i64 0, .slice ga AL.length gc, .int .i64 0], .agg #[.int .i64 0, .slice ha AL.length hc, .int .i64 0]] z.val fun e w' => e = .returned (.bool true) /\ Below z.val.heap.size z.val w'))
    have C2 := hid (fun z : Wld (Below W.heap.size W) => (by
     have h := sameA_any (ex := e0) (ey := e1) (nx := k0) (ny := k1) (SA.out.below z.good) (SC.out.below z.good) (HKW.out.below z.good)
     rw [HR1.out] at h
     exact h : Calls Tryz.prog 29 #[.agg #[.int .i64 e0, .slice ra0 A0.length rc0, .int .i64 k0], .agg #[.int .i64 e1, .slice rb0 A1.length sc0, .int .i64 k1]] z.val fun e w' => e = .returned (.bool r1) /\ Below z.val.heap.size z.val w'))
    have C3 := hid (fun z : Wld (Below W.heap.size W) => (by
     have h := rsame_any (ex := e0) (ey := e1) (nx := k0) (ny := k1) (SA.out.below z.good) (SC.out.below z.good) HA0.out.2.1
     rw [HR1.out] at h
     exact h : Calls Tryz.prog 17 #[.agg #[.int .i64 e0, .slice ra0 A0.length rc0, .int .i64 k0], .agg #[.int .i64 e1, .slice rb0 A1.length sc0, .int .i64 k1]] z.val fun e w' => e = .returned (.bool r1) /\ Below z.val.heap.size z.val w'))
    have C4 := hid (fun z : Wld (Below W.heap.size W) => (by
     have h := sameA_any (ex := e0) (ey := e0) (nx := k0) (ny := k0) (SA.out.below z.good) (show SlV rowR _ _ (.slice da (List.length D) dc) D by rw [HLD.out]; exact SD.out.below z.good) (HKW.out.below z.good)
     rw [HLD.out] at h
     rw [HR2.out] at h
     exact h : Calls Tryz.prog 29 #[.agg #[.int .i64 e0, .slice ra0 A0.length rc0, .int .i64 k0], .agg #[.int .i64 e0, .slice da A0.length dc, .int .i64 k0]] z.val fun e w' => e = .returned (.bool r2) /\ Below z.val.heap.size z.val w'))
    have C5 := hid (fun z : Wld (Below W.heap.size W) => (by
     have h := rsame_any (ex := e0) (ey := e0) (nx := k0) (ny := k0) (SA.out.below z.good) (show SlV rowR _ _ (.slice da (List.length D) dc) D by rw [HLD.out]; exact SD.out.below z.good) HA0.out.2.1
     rw [HLD.out] at h
     rw [HR2.out] at h
     exact h : Calls Tryz.prog 17 #[.agg #[.int .i64 e0, .slice ra0 A0.length rc0, .int .i64 k0], .agg #[.int .i64 e0, .slice da A0.length dc, .int .i64 k0]] z.val fun e w' => e = .returned (.bool r2) /\ Below z.val.heap.size z.val w'))
    have C6 := hid (fun z : Wld (Below W.heap.size W) => (by
     have h := sameA_any (ex := e0) (ey := e0) (nx := k0) (ny := k0) (show SlV rowR _ _ (.slice da (List.length D) dc) D by rw [HLD.out]; exact SD.out.below z.good) (show SlV rowR _ _ (.slice ea (List.length D) ec) D by rw [HLD.out]; exact SE.out.below z.good) (HKW.out.below z.good)
     rw [HLD.out] at h
     rw [sameA_refl] at h
     exact h : Calls Tryz.prog 29 #[.agg #[.int .i64 e0, .slice da A0.length dc, .int .i64 k0], .agg #[.int .i64 e0, .slice ea A0.length ec, .int .i64 k0]] z.val fun e w' => e = .returned (.bool true) /\ Below z.val.heap.size z.val w'))
    have C7 := hid (fun z : Wld (Below W.heap.size W) => (by
     have h := sameA_any (ex := e0) (ey := e0) (nx := k0) (ny := k0) (SA.out.below z.good) (SA.out.below z.good) (HKW.out.below z.good)
     rw [sameA_refl] at h
     exact h : Calls Tryz.prog 29 #[.agg #[.int .i64 e0, .slice ra0 A0.length rc0, .int .i64 k0], .agg #[.int .i64 e0, .slice ra0 A0.length rc0, .int .i64 k0]] z.val fun e w' => e = .returned (.bool true) /\ Below z.val.heap.size z.val w'))
    go_upto_region 19 with (fail)
    clear z1
    refine wp_region_class_tail 36 (Below W.heap.size W) (by kernel_rfl) (by kernel_rfl) (Below.drew b0R) (fun ne => ?_)
    have c120 := fun z : Wld (Below W.heap.size W) => cells_of ((z.good.block _ (lt_of_block G12.out)).trans G12.out) 0
    have c121 := fun z : Wld (Below W.heap.size W) => cells_of ((z.good.block _ (lt_of_block G12.out)).trans G12.out) 1
    have c122 := fun z : Wld (Below W.heap.size W) => cells_of ((z.good.block _ (lt_of_block G12.out)).trans G12.out) 2
    have c130 := fun z : Wld (Below W.heap.size W) => cells_of ((z.good.block _ (lt_of_block G13.out)).trans G13.out) 0
    have c131 := fun z : Wld (Below W.heap.size W) => cells_of ((z.good.block _ (lt_of_block G13.out)).trans G13.out) 1
    have c132 := fun z : Wld (Below W.heap.size W) => cells_of ((z.good.block _ (lt_of_block G13.out)).trans G13.out) 2
    have c140 := fun z : Wld (Below W.heap.size W) => cells_of ((z.good.block _ (lt_of_block G14.out)).trans G14.out) 0
    have c141 := fun z : Wld (Below W.heap.size W) => cells_of ((z.good.block _ (lt_of_block G14.out)).trans G14.out) 1
    have c142 := fun z : Wld (Below W.heap.size W) => cells_of ((z.good.block _ (lt_of_block G14.out)).trans G14.out) 2
    have c150 := fun z : Wld (Below W.heap.size W) => cells_of ((z.good.block _ (lt_of_block G15.out)).trans G15.out) 0
    have c151 := fun z : Wld (Below W.heap.size W) => cells_of ((z.good.block _ (lt_of_block G15.out)).trans G15.out) 1
    have c152 := fun z : Wld (Below W.heap.size W) => cells_of ((z.good.block _ (lt_of_block G15.out)).trans G15.out) 2
    simp only [gT, gZ, gS] at c120 c121 c122 c130 c131 c132 c140 c141 c142 c150 c151 c152
    simp only [List.take_succ_cons, List.take_zero, List.drop_succ_cons, List.drop_zero]
    repeat (go_big_quiet_step (first | ((go_at_call 17; (with_reducible refine Calls.mono (C1.out _) ?_); rintro e w3 ⟨rfl, b3⟩; exact ⟨rfl, class_below _ b3 (Nat.le_refl _)⟩)) | ((go_at_call 29; (with_reducible refine Calls.mono (C2.out _) ?_); rintro e w3 ⟨rfl, b3⟩; exact ⟨rfl, class_below _ b3 (Nat.le_refl _)⟩)) | ((go_at_call 17; (with_reducible refine Calls.mono (C3.out _) ?_); rintro e w3 ⟨rfl, b3⟩; exact ⟨rfl, class_below _ b3 (Nat.le_refl _)⟩)) | ((go_at_call 29; (with_reducible refine Calls.mono (C4.out _) ?_); rintro e w3 ⟨rfl, b3⟩; exact ⟨rfl, class_below _ b3 (Nat.le_refl _)⟩)) | ((go_at_call 17; (with_reducible refine Calls.mono (C5.out _) ?_); rintro e w3 ⟨rfl, b3⟩; exact ⟨rfl, class_below _ b3 (Nat.le_refl _)⟩)) | ((go_at_call 29; (with_reducible refine Calls.mono (C6.out _) ?_); rintro e w3 ⟨rfl, b3⟩; exact ⟨rfl, class_below _ b3 (Nat.le_refl _)⟩)) | ((go_at_call 29; (with_reducible refine Calls.mono (C7.out _) ?_); rintro e w3 ⟨rfl, b3⟩; exact ⟨rfl, class_below _ b3 (Nat.le_refl _)⟩))))
    refine wpQuiet_nil ?_
    intro w3 b3
    have BE := hid (BW.out.trans (b3.mono BW.out.size))
    clear b3 C1 C2 C3 C4 C5 C6 C7 c120 c121 c122 c130 c131 c132 c140 c141 c142 c150 c151 c152
    go_wp2_with fail
    go_ret
    refine ⟨?_, BE.out⟩
    first | rfl | (cases r1 <;> cases r2 <;> rfl)
end
end Go.Proofs.YtgemihkcihigpaaGreatDoor
