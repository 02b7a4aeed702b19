/- PlainAggregates: the walk. -/
import Derived.Test.YtgemihkcihigpaaGreatDoorZA1
import Derived.Test.YtgemihkcihigpaaGreatDoorZB17
import Derived.Test.YtgemihkcihigpaaGreatDoorZB34
namespace Go.Proofs.YtgemihkcihigpaaGreatDoor
set_option linter.unusedVariables false
set_option linter.unusedSimpArgs false
open Go.RowKit

theorem selA_at {p : Nat → Prop} {g1 g2 : Nat} {v : Val} {w : World} (h1 : w.heap[g1]? = some (.cells #[.string sA] 9 (0, 0))) (h2 : w.heap[g2]? = some (.cells #[.string sA, .int .i64 4, .int .i64 v.kind, .int .i64 v.n, .string v.s] 60 (0, 0))) (p1 : p g1) (p2 : p g2) :
    StmtV p w (.agg #[.int .i64 7, .string sT, .string ⟨#[]⟩, .slice none 0 0, .slice (some ⟨g1, 0, none⟩) 1 1, .slice none 0 0, .slice none 0 0, .slice (some ⟨g2, 0, none⟩) 1 1, .string ⟨#[]⟩, .string ⟨#[]⟩, .string ⟨#[]⟩, .int .i64 0, .slice none 0 0, .int .i64 0, .int .i64 0]) (selA v) :=
  ⟨none, 0, some ⟨g1, 0, none⟩, 1, none, 0, none, 0, some ⟨g2, 0, none⟩, 1, none, 0, rfl, nil_sl, one_str h1 p1, nil_sl, nil_sl, one_cond (c := condA 4 v) h2 p2, nil_sl⟩
theorem aggS_at {p : Nat → Prop} {g2 n c : Nat} {a : Option Addr} {i : Int} {L : List ByteArray} {v : Val} {w : World} (h1 : SlV strF p w (.slice a n c) L) (h2 : w.heap[g2]? = some (.cells #[.string sA, .int .i64 4, .int .i64 v.kind, .int .i64 v.n, .string v.s] 60 (0, 0))) (p2 : p g2) :
    StmtV p w (.agg #[.int .i64 7, .string sT, .string ⟨#[]⟩, .slice none 0 0, .slice a n c, .slice none 0 0, .slice none 0 0, .slice (some ⟨g2, 0, none⟩) 1 1, .string ⟨#[]⟩, .string ⟨#[]⟩, .string ⟨#[]⟩, .int .i64 i, .slice none 0 0, .int .i64 0, .int .i64 0]) (aggS i L v) := by
  obtain ⟨rfl, _⟩ := h1.row
  exact ⟨none, 0, a, c, none, 0, none, 0, some ⟨g2, 0, none⟩, 1, none, 0, rfl, nil_sl, h1, nil_sl, nil_sl, one_cond (c := condA 4 v) h2 p2, nil_sl⟩
theorem sum_take {M : List (List Val)} {i : Nat} (hi : i < M.length) : sumN (M.take (i + 1)) = sumN (M.take i) + (valAt M[i] 0).n := by
  unfold sumN
  rw [List.take_succ_eq_append_getElem hi, List.map_append, List.sum_append]
  simp [firstN]
def NewOne (x : Val) (u : Value) (w : World) : Prop := ∃ g, u = .slice (some ⟨g, 0, none⟩) 1 1 ∧ w.heap[g]? = some (.cells #[.int .i64 x.kind, .int .i64 x.n, .string x.s] 55 (0, 0))
theorem NewOne.below {x : Val} {u : Value} {w w' : World} (h : NewOne x u w) (hb : Below w.heap.size w w') : NewOne x u w' := by
  obtain ⟨g, h1, h2⟩ := h
  exact ⟨g, h1, (hb.block _ (lt_of_block h2)).trans h2⟩
theorem one_val {p : Nat → Prop} {g : Nat} {x : Val} {w : World} (h : w.heap[g]? = some (.cells #[.int .i64 x.kind, .int .i64 x.n, .string x.s] 55 (0, 0))) (hp : p g) : SlV valR p w (.slice (some ⟨g, 0, none⟩) 1 1) [x] := by
  refine ⟨some ⟨g, 0, none⟩, 1, rfl, Nat.le_refl _, by simp, Or.inr ⟨g, 0, rfl, hp, lt_of_block h, fun i hi => ?_⟩⟩
  obtain rfl : i = 0 := by simp at hi; omega
  refine ⟨valEnc x, fun j hj => ?_, rfl⟩
  have e : valR.sz = 3 := rfl
  rw [e] at hj ⊢
  have := cells_of h j
  simp only [Nat.zero_mul, Nat.zero_add]
  rw [this]
  simp [valEnc]
/-- the names that an aggregate's statement holds -/
def NamesAt (w : World) (a : Option Addr) (n c i : Nat) : Prop := ∃ L, SlV strF (fun _ => True) w (.slice a n c) L ∧ ((i = 0 ∧ L = []) ∨ (i ≠ 0 ∧ L = [sA]))
set_option maxRecDepth 100000 in
set_option maxHeartbeats 16000000 in
theorem agg_walk {p : Nat → Prop} {al : Option Addr} {cl : Nat} {l : List Int} {n : Int} {w : World} (hl : SlV intR p w (.slice al l.length cl) l) (hK : KindsAt w) :
    Calls Tryz.prog 7 #[.slice al l.length cl, .int .i64 n] w fun e w' => e = .returned (.bool true) ∧ Below w.heap.size w w' := by
  have HK := Lib.hid hK
  have HL := Lib.hid hl
  have con := sanity_any w hK
  have hm := mask3 n
  clear hK hl
  go_enter Tryz.func7, Tryz.ntmps7
  go_wp2_with fail
  refine con.mono ?_
  rintro e w1 ⟨rfl, b1⟩
  have B1 := Lib.hid b1
  have con := filled_any (HL.out.below b1) (HK.out.below b1)
  clear b1
  go_wp2_with fail
  refine con.mono ?_
  rintro e w2 ⟨a1, c1, a2, c2, rfl, b2, t2⟩
  have B2 := Lib.hid (B1.out.trans (b2.mono B1.out.size))
  have HI := Lib.hid (fill_inv l (fillM l) (by unfold fillM; split <;> omega))
  have HA := Lib.hid (fillA_small l (fillM l))
  obtain ⟨A, hA⟩ : ∃ A, fillA l (fillM l) = A := ⟨_, rfl⟩
  obtain ⟨B, hB⟩ : ∃ B, fillB l (fillM l) = B := ⟨_, rfl⟩
  rw [hA, hB] at t2
  rw [hA, hB] at HI
  rw [hA] at HA
  have T2 := Lib.hid t2
  have HAL := Lib.hid (show A.length ≤ 48 from HI.out.many A (by simp [twoS]))
  clear con b2 t2 hA hB
  go_upto_region 3 with (fail)
  generalize hX : World.alloc _ _ = W3
  have b3 : Below w2.heap.size w2 W3 := by rw [← hX]; exact (Below.refl _ _).alloc (Nat.le_refl _) _
  have G6 := Lib.hid (show W3.heap[w2.heap.size]? = some (.cells #[.slice a1 2 c1, .slice a2 2 c2] 27 (0, 0)) by rw [← hX]; exact heap_alloc_new _ _)
  have T3 := Lib.hid (T2.out.below b3)
  have B3 := Lib.hid (B2.out.trans (b3.mono B2.out.size))
  obtain ⟨v, hv⟩ : ∃ v : Val, v = ⟨1, n % 8, noStr⟩ := ⟨_, rfl⟩
  have con := whole_any (n % 8) W3
  obtain ⟨q6, hq6⟩ : ∃ q, w2.heap.size = q := ⟨_, rfl⟩
  rw [hq6] at G6 ⊢
  clear hX b3 T2 B2 hq6
  go_wp2_with fail
  refine con.mono ?_
  rintro e w4 ⟨rfl, b4⟩
  have Q6 := Lib.hid ((b4.block _ (lt_of_block G6.out)).trans G6.out)
  have T4 := Lib.hid (T3.out.below b4)
  have B4 := Lib.hid (B3.out.trans (b4.mono B3.out.size))
  clear con b4 T3 B3 G6 hm
  go_upto_region 4 with (fail)
  generalize hX : World.alloc _ _ = W5
  have b5 : Below w4.heap.size w4 W5 := by rw [← hX]; exact (Below.refl _ _).alloc (Nat.le_refl _) _
  have G7 := Lib.hid (show W5.heap[w4.heap.size]? = some (.cells #[.string sA, .int .i64 4, .int .i64 v.kind, .int .i64 v.n, .string v.s] 60 (0, 0)) by rw [← hX, hv]; exact heap_alloc_new _ _)
  have G6 := Lib.hid ((b5.block _ (lt_of_block Q6.out)).trans Q6.out)
  have T5 := Lib.hid (T4.out.below b5)
  have B5 := Lib.hid (B4.out.trans (b5.mono B4.out.size))
  obtain ⟨q7, hq7⟩ : ∃ q, w4.heap.size = q := ⟨_, rfl⟩
  rw [hq7] at G7 ⊢
  clear hX b5 T4 B4 Q6 hv hq7
  have x0 := cells_of G6.out 0
  have x1 := cells_of G6.out 1
  simp only [List.getElem?_toArray, List.getElem?_cons_zero, List.getElem?_cons_succ] at x0 x1
  go_wp2_with fail
  generalize hX : World.alloc _ _ = X
  have bx : Below W5.heap.size W5 X := by rw [← hX]; exact (Below.refl _ _).alloc (Nat.le_refl _) _
  have q1 : X.heap[W5.heap.size]? = some (.cells #[.string sA] 9 (0, 0)) := by rw [← hX]; exact heap_alloc_new _ _
  have q2 := (bx.block _ (lt_of_block G7.out)).trans G7.out
  obtain ⟨M, hM⟩ : ∃ M, aM A v = M := ⟨_, rfl⟩
  have hsel := selA_law (A := A) (B := B) (v := v) HAL.out
  rw [hM] at hsel
  have HM := Lib.hid hM
  have BX := Lib.hid (B5.out.trans (bx.mono B5.out.size))
  have con := do_two (T5.out.below bx) (selA_at (p := fun _ => True) q1 q2 trivial trivial) HI.out (by decide) ⟨rfl, Nat.zero_le _, show 1 ≤ 500000 by decide, Nat.zero_le _, show 0 ≤ 500000 by decide⟩ (HK.out.below BX.out) (stepS_qry rfl) hsel rfl
  have GX6 := Lib.hid ((bx.block _ (lt_of_block G6.out)).trans G6.out)
  have GX7 := Lib.hid q2
  have TX := Lib.hid (T5.out.below bx)
  clear hX bx q1 q2 x0 x1 hsel hM G6 G7 T5 B5
  refine con.mono ?_
  rintro e w6 ⟨e1, e2, e3, e4, ra, rc, rfl, b6, _, r6⟩
  have B6 := Lib.hid (BX.out.trans (b6.mono BX.out.size))
  have G6 := Lib.hid ((b6.block _ (lt_of_block GX6.out)).trans GX6.out)
  have G7 := Lib.hid ((b6.block _ (lt_of_block GX7.out)).trans GX7.out)
  have T6 := Lib.hid (TX.out.below b6)
  have R6 := Lib.hid r6
  clear con b6 r6 GX6 GX7 TX BX
  go_upto_region 5 with (fail)
  generalize hA : World.alloc _ _ = Z
  have hZ : allocs w6 [_, _] = Z := hA
  have bz := allocs_self hZ
  have A9 := Lib.hid (show Z.heap[w6.heap.size + 1]? = some (.cells #[.int .i64 0, .slice ra M.length rc, .int .i64 M.length] 43 (0, 0)) from allocs_get hZ 1 rfl)
  have BZ := Lib.hid (B6.out.trans (bz.mono B6.out.size))
  have GZ6 := Lib.hid ((bz.block _ (lt_of_block G6.out)).trans G6.out)
  have GZ7 := Lib.hid ((bz.block _ (lt_of_block G7.out)).trans G7.out)
  have TZ := Lib.hid (T6.out.below bz)
  have RZ := Lib.hid (R6.out.below bz)
  have HKZ := Lib.hid (HK.out.below BZ.out)
  have HNM := Lib.hid (show ∀ x ∈ M, ∃ y, x = [y] ∧ Num y from fun x hx => by
    rw [← HM.out] at hx
    obtain ⟨y, h1, h2, _⟩ := aM_mem HA.out x hx
    exact ⟨y, h1, h2⟩)
  have HML := Lib.hid (show M.length ≤ 48 by
    rw [← HM.out, aM_len]
    exact Nat.le_trans (List.length_filter_le _ _) HAL.out)
  obtain ⟨q9, hq9⟩ : ∃ q, w6.heap.size + 1 = q := ⟨_, rfl⟩
  rw [hq9] at A9 ⊢
  obtain ⟨q8, hq8⟩ : ∃ q, w6.heap.size = q := ⟨_, rfl⟩
  rw [hq8]
  clear hA hZ bz hq9 hq8 G6 G7 T6 R6 B6
  obtain ⟨W, hW⟩ : ∃ W, W = Z := ⟨_, rfl⟩
  subst hW
  go_wp2_with fail
  go_loopw [10, 11] (fun x10 x11 wr => ∃ i : Nat, i ≤ M.length ∧ x11 = .int .i64 i ∧ x10 = .int .i64 (sumN (M.take i)) ∧ W = wr) (fun _ x11 _ => M.length - (intOf x11).toNat)
  case atStart => exact ⟨0, Nat.zero_le _, rfl, by simp [sumN], rfl⟩
  case round =>
    obtain ⟨i, hi, rfl, rfl, rfl⟩ := hrel
    have hML := HML.out
    have z1 := cells_of A9.out 1
    simp only [List.getElem?_toArray, List.getElem?_cons_zero, List.getElem?_cons_succ] at z1
    by_cases hlt : i < M.length
    · obtain ⟨ba, oa, rfl, _, _⟩ := RZ.out.row.2.2.2.addr (by intro e; rw [e] at hlt; cases hlt)
      obtain ⟨ra2, rc2, c0, hr2⟩ := RZ.out.row.2.2.2.lst i hlt
      obtain ⟨y, hy, hy1, hy2, hy3⟩ := HNM.out _ (List.getElem_mem hlt)
      have hlen : M[i].length = 1 := by rw [hy]; rfl
      obtain ⟨b2, o2, rfl, _, _⟩ := hr2.row.2.2.2.addr (by rw [hy]; simp)
      have v1 := (hr2.row.2.2.2.val 0 (by rw [hlen]; omega)).2.1
      rw [hlen] at c0
      have hz : M[i][0]'(by rw [hlen]; omega) = y := by simp [hy]
      rw [hz] at v1
      simp only [Nat.zero_mul, Nat.add_zero] at v1
      have hs1 := sum_take hlt
      have hs0 := sum_small (L := M.take i) (fun x hx => by obtain ⟨u, hu, hu2⟩ := HNM.out x (List.mem_of_mem_take hx); rw [hu]; exact hu2)
      rw [List.length_take] at hs0
      rw [hy] at hs1
      obtain ⟨s, hs⟩ : ∃ s, sumN (M.take i) = s := ⟨_, rfl⟩
      rw [hs] at hs0 hs1 ⊢
      have hs2 : 0 ≤ s ∧ s ≤ 192 := ⟨hs0.1, by omega⟩
      obtain ⟨hs3, hs4⟩ := hs2
      have HS := Lib.hid hs1
      clear hs0 hs1 hs hz hlen hy hr2 hy1
      go_wp2_with fail
      go_roundw
      case rel => exact ⟨i + 1, by omega, by go_num, by rw [HS.out]; rfl, trivial⟩
      case measure => simp [intOf]; omega
    · have hin : i = M.length := by omega
      subst hin
      rw [List.take_length]
      obtain ⟨s, hs⟩ : ∃ s, sumN M = s := ⟨_, rfl⟩
      have hs0 := sum_small (L := M) (fun x hx => by obtain ⟨u, hu, hu2⟩ := HNM.out x hx; rw [hu]; exact hu2)
      rw [hs] at hs0 ⊢
      have HS := Lib.hid (show sumN M = s from hs)
      clear hs hlt hi hs0
      have con := whole_any (M.length : Int) W
      go_wp2_with fail
      refine con.mono ?_
      rintro e w7 ⟨rfl, b7⟩
      have B7 := Lib.hid b7
      have con := whole_any s w7
      clear b7 z1
      go_wp2_with fail
      refine con.mono ?_
      rintro e w8 ⟨rfl, b8⟩
      have B8 := Lib.hid (B7.out.trans (b8.mono B7.out.size))
      clear b8 con B7
      go_upto_region 13 with (fail)
      generalize hX : World.alloc _ _ = Y
      have BY := Lib.hid (show Below w8.heap.size w8 Y by rw [← hX]; exact (Below.refl _ _).alloc (Nat.le_refl _) _)
      have G12 := Lib.hid (show Y.heap[w8.heap.size]? = some (.cells #[.int .i64 1, .int .i64 M.length, .string ⟨#[]⟩, .int .i64 1, .int .i64 s, .string ⟨#[]⟩, .int .i64 0, .int .i64 0, .string ⟨#[]⟩, .int .i64 0, .int .i64 0, .string ⟨#[]⟩] 63 (0, 0)) by rw [← hX]; exact heap_alloc_new _ _)
      have A98 := Lib.hid ((B8.out.block _ (lt_of_block A9.out)).trans A9.out)
      have R8 := Lib.hid (RZ.out.below B8.out)
      have G68 := Lib.hid ((B8.out.block _ (lt_of_block GZ6.out)).trans GZ6.out)
      have G78 := Lib.hid ((B8.out.block _ (lt_of_block GZ7.out)).trans GZ7.out)
      have T8 := Lib.hid (TZ.out.below B8.out)
      have HK8 := Lib.hid (HKZ.out.below B8.out)
      have BW8 := Lib.hid (BZ.out.trans (B8.out.mono BZ.out.size))
      obtain ⟨q12, hq12⟩ : ∃ q, w8.heap.size = q := ⟨_, rfl⟩
      have HQ12 := Lib.hid (show w8.heap.size ≤ q12 from Nat.le_of_eq hq12)
      rw [hq12] at G12 ⊢
      clear hX hq12 A9 RZ GZ6 GZ7 TZ HKZ B8 BZ
      have z1 := cells_of ((BY.out.block _ (lt_of_block A98.out)).trans A98.out) 1
      simp only [List.getElem?_toArray, List.getElem?_cons_zero, List.getElem?_cons_succ] at z1
      go_upto_if 69 with (fail)
      generalize hcb : ((M.length : Int) == 0) = cb
      have HCB := Lib.hid hcb
      clear hcb
      go_cut [] from 66 to 90 (fun wx => Hid (Below w8.heap.size w8 wx ∧ wx.heap[q12]? = some (.cells #[.int .i64 (wantV M 0).kind, .int .i64 (wantV M 0).n, .string (wantV M 0).s, .int .i64 (wantV M 1).kind, .int .i64 (wantV M 1).n, .string (wantV M 1).s, .int .i64 (wantV M 2).kind, .int .i64 (wantV M 2).n, .string (wantV M 2).s, .int .i64 (wantV M 3).kind, .int .i64 (wantV M 3).n, .string (wantV M 3).s] 63 (0, 0))))
      case first =>
        cases cb
        case true =>
          have h0 : M.length = 0 := by have := HCB.out; simpa using this
          have w0 : wantV M 0 = ⟨1, M.length, noStr⟩ := rfl
          have w1 : wantV M 1 = val0 := by unfold wantV; rw [if_neg (by decide), if_pos h0]
          have w2 : wantV M 2 = val0 := by unfold wantV; rw [if_neg (by decide), if_pos h0]
          have w3 : wantV M 3 = val0 := by unfold wantV; rw [if_neg (by decide), if_pos h0]
          have HWW := Lib.hid (show _ ∧ _ ∧ _ ∧ _ from ⟨w0, w1, w2, w3⟩)
          clear h0 w0 w1 w2 w3 z1
          have m3 := cells_of G12.out 3
          have m4 := cells_of G12.out 4
          have m5 := cells_of G12.out 5
          have n3 := free_of G12.out 3
          have n4 := free_of G12.out 4
          have n5 := free_of G12.out 5
          simp only [List.getElem?_toArray, List.getElem?_cons_zero, List.getElem?_cons_succ] at m3 m4 m5
          go_wp2_with fail
          go_meet
          refine ⟨((BY.out.setCell (p := ⟨q12, 3, none⟩) HQ12.out _).setCell (p := ⟨q12, 4, none⟩) HQ12.out _).setCell (p := ⟨q12, 5, none⟩) HQ12.out _, ?_⟩
          rw [HWW.out.1, HWW.out.2.1, HWW.out.2.2.1, HWW.out.2.2.2]
          exact (heap_setCell_same _ _ _ _ _ _ ((heap_setCell_same _ _ _ _ _ _ ((heap_setCell_same _ _ _ _ _ _ G12.out).trans rfl)).trans rfl)).trans rfl
        case false =>
          have h0 : 0 < M.length := by
            have h := HCB.out
            rcases Nat.eq_zero_or_pos M.length with e | e
            · rw [e] at h; cases h
            · exact e
          obtain ⟨k, hk⟩ : ∃ k, M.length = k + 1 := ⟨M.length - 1, by omega⟩
          have hRY := R8.out
          have hlk : k < M.length := by omega
          obtain ⟨ba, oa, rfl, _, hba⟩ := hRY.row.2.2.2.addr (by intro e; rw [e] at h0; cases h0)
          obtain ⟨ra0, rc0, c0, hr0⟩ := hRY.row.2.2.2.lst 0 h0
          obtain ⟨y0, hy0, _⟩ := HNM.out _ (List.getElem_mem h0)
          obtain ⟨b0, o0, rfl, _, hb0⟩ := hr0.row.2.2.2.addr (by rw [hy0]; simp)
          obtain ⟨v00, v01, v02⟩ := hr0.row.2.2.2.val 0 (by rw [hy0]; simp)
          obtain ⟨rak, rck, ck, hrk⟩ := hRY.row.2.2.2.lst k hlk
          obtain ⟨yk, hyk, _⟩ := HNM.out _ (List.getElem_mem hlk)
          obtain ⟨bk, ok, rfl, _, hbk⟩ := hrk.row.2.2.2.addr (by rw [hyk]; simp)
          obtain ⟨vk0, vk1, vk2⟩ := hrk.row.2.2.2.val 0 (by rw [hyk]; simp)
          have e0 : M[0].length = 1 := by rw [hy0]; rfl
          have ek : M[k].length = 1 := by rw [hyk]; rfl
          have f0 : M[0][0]'(by rw [e0]; omega) = y0 := by simp [hy0]
          have fk : M[k][0]'(by rw [ek]; omega) = yk := by simp [hyk]
          rw [e0] at c0
          rw [ek] at ck
          rw [f0] at v00 v01 v02
          rw [fk] at vk0 vk1 vk2
          simp only [Nat.zero_mul, Nat.add_zero] at c0 v00 v01 v02 vk0 vk1 vk2
          have w0 : wantV M 0 = ⟨1, M.length, noStr⟩ := rfl
          have w1 : wantV M 1 = ⟨1, s, noStr⟩ := by unfold wantV; rw [if_neg (by decide), if_neg (by omega), if_pos rfl, HS.out]
          have w2 : wantV M 2 = y0 := by
            unfold wantV
            rw [if_neg (by decide), if_neg (by omega), if_neg (by decide), if_pos rfl]
            obtain ⟨x, L, hML⟩ : ∃ x L, M = x :: L := by
              cases M with
              | nil => cases h0
              | cons x L => exact ⟨x, L, rfl⟩
            subst hML
            have : x = [y0] := hy0
            rw [this]
            rfl
          have w3 : wantV M 3 = yk := by
            unfold wantV
            rw [if_neg (by decide), if_neg (by omega), if_neg (by decide), if_neg (by decide), List.getLastD_eq_getLast?, List.getLast?_eq_getElem?]
            have : M.length - 1 = k := by omega
            rw [this, List.getElem?_eq_getElem hlk, hyk]
            rfl
          have HWW := Lib.hid (show _ ∧ _ ∧ _ ∧ _ from ⟨w0, w1, w2, w3⟩)
          have HC := Lib.hid (show (_ ∧ _ ∧ _ ∧ _ ∧ _ ∧ _) from ⟨ck, vk0, vk1, vk2, hba, hbk⟩)
          replace c0 := (BY.out.cell (p := ⟨ba, oa, none⟩) hba).trans c0
          replace v00 := (BY.out.cell (p := ⟨b0, o0, none⟩) hb0).trans v00
          replace v01 := (BY.out.cell (p := ⟨b0, o0 + 1, none⟩) hb0).trans v01
          replace v02 := (BY.out.cell (p := ⟨b0, o0 + 2, none⟩) hb0).trans v02
          have HKK := Lib.hid hk
          clear w0 w1 w2 w3 e0 ek f0 fk hyk hy0 hr0 hrk hRY ck vk0 vk1 vk2 hbk hba
          have m6 := cells_of G12.out 6
          have m7 := cells_of G12.out 7
          have m8 := cells_of G12.out 8
          have n6 := free_of G12.out 6
          have n7 := free_of G12.out 7
          have n8 := free_of G12.out 8
          simp only [List.getElem?_toArray, List.getElem?_cons_zero, List.getElem?_cons_succ] at m6 m7 m8
          clear hk hlk
          go_upto_region 16 with (fail)
          generalize hA : World.setCell _ _ _ = U
          have hU : ((Y.setCell ⟨q12, 6, none⟩ (.int .i64 y0.kind)).setCell ⟨q12, 7, none⟩ (.int .i64 y0.n)).setCell ⟨q12, 8, none⟩ (.string y0.s) = U := hA
          have bU : Below w8.heap.size w8 U := by
            rw [← hU]
            exact ((BY.out.setCell (p := ⟨q12, 6, none⟩) HQ12.out _).setCell (p := ⟨q12, 7, none⟩) HQ12.out _).setCell (p := ⟨q12, 8, none⟩) HQ12.out _
          have hG : U.heap[q12]? = some (.cells #[.int .i64 1, .int .i64 M.length, .string ⟨#[]⟩, .int .i64 1, .int .i64 s, .string ⟨#[]⟩, .int .i64 y0.kind, .int .i64 y0.n, .string y0.s, .int .i64 0, .int .i64 0, .string ⟨#[]⟩] 63 (0, 0)) := by
            rw [← hU]
            exact (heap_setCell_same _ _ _ _ _ _ ((heap_setCell_same _ _ _ _ _ _ ((heap_setCell_same _ _ _ _ _ _ G12.out).trans rfl)).trans rfl)).trans rfl
          have HG := Lib.hid hG
          have HB := Lib.hid bU
          obtain ⟨ck, vk0, vk1, vk2, hba, hbk⟩ := HC.out
          have ck' := (bU.cell (p := ⟨ba, oa + k, none⟩) hba).trans ck
          have vk0' := (bU.cell (p := ⟨bk, ok, none⟩) hbk).trans vk0
          have vk1' := (bU.cell (p := ⟨bk, ok + 1, none⟩) hbk).trans vk1
          have vk2' := (bU.cell (p := ⟨bk, ok + 2, none⟩) hbk).trans vk2
          rw [show k = M.length - 1 by have := HKK.out; omega] at ck'
          have z1 := cells_of ((bU.block _ (lt_of_block A98.out)).trans A98.out) 1
          have m9 := cells_of hG 9
          have m10 := cells_of hG 10
          have m11 := cells_of hG 11
          have n9 := free_of hG 9
          have n10 := free_of hG 10
          have n11 := free_of hG 11
          simp only [List.getElem?_toArray, List.getElem?_cons_zero, List.getElem?_cons_succ] at z1 m9 m10 m11
          clear hU hA hG bU ck vk0 vk1 vk2 hba hbk hb0 c0 v00 v01 v02 m6 m7 m8 n6 n7 n8
          go_wp2_with fail
          go_meet
          refine ⟨((HB.out.setCell (p := ⟨q12, 9, none⟩) HQ12.out _).setCell (p := ⟨q12, 10, none⟩) HQ12.out _).setCell (p := ⟨q12, 11, none⟩) HQ12.out _, ?_⟩
          rw [HWW.out.1, HWW.out.2.1, HWW.out.2.2.1, HWW.out.2.2.2]
          exact (heap_setCell_same _ _ _ _ _ _ ((heap_setCell_same _ _ _ _ _ _ ((heap_setCell_same _ _ _ _ _ _ HG.out).trans rfl)).trans rfl)).trans rfl
      case rest =>
        have GV12 := Lib.hid hcut.out.2
        have BV := Lib.hid hcut.out.1
        obtain ⟨V, hV⟩ : ∃ V, V = wc := ⟨_, rfl⟩
        subst hV
        have GV6 := Lib.hid ((BV.out.block _ (lt_of_block G68.out)).trans G68.out)
        have GV7 := Lib.hid ((BV.out.block _ (lt_of_block G78.out)).trans G78.out)
        have TV := Lib.hid (T8.out.below BV.out)
        have HKV0 := Lib.hid (HK8.out.below BV.out)
        have BWV := Lib.hid (BW8.out.trans (BV.out.mono BW8.out.size))
        have HWL := Lib.hid (fun i hi => want_law (v := v) HA.out HAL.out i hi)
        clear hcut G68 G78 T8 HK8 BW8 BV BY A98 R8 G12 HQ12 z1 HCB HNM HML HS
        go_wp2_with fail
        go_loopw [13] (fun x13 wr => ∃ i : Nat, i ≤ 4 ∧ x13 = .int .i64 i ∧ Hid (Below V.heap.size V wr)) (fun x13 _ => 4 - (intOf x13).toNat)
        case atStart => exact ⟨0, by omega, rfl, Below.refl _ _⟩
        case round =>
          obtain ⟨i, hi, rfl, HB⟩ := hrel
          by_cases hlt : i < 4
          · go_upto_if 100 with (fail)
            generalize hA : World.alloc _ _ = Y
            have hY : allocs wr [_, _] = Y := hA
            have bY := allocs_self hY
            have S1 := Lib.hid (show Y.heap[wr.heap.size]? = some (.cells #[.string sA] 9 (0, 0)) from allocs_get hY 0 rfl)
            have S2 := Lib.hid (show Y.heap[wr.heap.size + 1]? = some (.cells #[.int .i64 7, .string sT, .string ⟨#[]⟩, .slice none 0 0, .slice (some ⟨wr.heap.size, 0, none⟩) 1 1, .slice none 0 0, .slice none 0 0, .slice (some ⟨q7, 0, none⟩) 1 1, .string ⟨#[]⟩, .string ⟨#[]⟩, .string ⟨#[]⟩, .int .i64 ((i : Int) + 1), .slice none 0 0, .int .i64 0, .int .i64 0] 39 (0, 0)) from allocs_get hY 1 rfl)
            have BY := Lib.hid bY
            obtain ⟨q14, hq14⟩ : ∃ q, wr.heap.size + 1 = q := ⟨_, rfl⟩
            have HQ14 := Lib.hid (show wr.heap.size ≤ q14 by omega)
            rw [hq14] at S2 ⊢
            generalize hcb : ((i : Int) == 0) = cb
            have HCB := Lib.hid hcb
            clear hcb hA hY bY hq14
            go_cut [] from 99 to 102 (fun wx => Hid (Below wr.heap.size wr wx ∧ ∃ a n c, wx.heap[q14]? = some (.cells #[.int .i64 7, .string sT, .string ⟨#[]⟩, .slice none 0 0, .slice a n c, .slice none 0 0, .slice none 0 0, .slice (some ⟨q7, 0, none⟩) 1 1, .string ⟨#[]⟩, .string ⟨#[]⟩, .string ⟨#[]⟩, .int .i64 ((i : Int) + 1), .slice none 0 0, .int .i64 0, .int .i64 0] 39 (0, 0)) ∧ NamesAt wx a n c i))
            case first =>
              cases cb
              case true =>
                have hi0 : i = 0 := by have := HCB.out; simpa using this
                have m4 := cells_of S2.out 4
                have n4 := free_of S2.out 4
                simp only [List.getElem?_toArray, List.getElem?_cons_zero, List.getElem?_cons_succ] at m4
                have HI0 := Lib.hid hi0
                clear hi0
                go_wp2_with fail
                go_meet
                exact ⟨BY.out.setCell (p := ⟨q14, 4, none⟩) HQ14.out _, none, 0, 0, (heap_setCell_same _ _ _ _ _ _ S2.out).trans rfl, [], nil_sl, Or.inl ⟨HI0.out, rfl⟩⟩
              case false =>
                have hi0 : i ≠ 0 := by have := HCB.out; simpa using this
                have HI0 := Lib.hid hi0
                clear hi0
                go_wp2_with fail
                go_meet
                exact ⟨BY.out, _, _, _, S2.out, [sA], one_str S1.out trivial, Or.inr ⟨HI0.out, rfl⟩⟩
            case rest =>
              obtain ⟨bc, na, nn, nc, S3, L, hL, hLi⟩ := hcut.out
              have B3 := Lib.hid (HB.out.trans (bc.mono HB.out.size))
              have G63 := Lib.hid ((B3.out.block _ (lt_of_block GV6.out)).trans GV6.out)
              have G73 := Lib.hid ((B3.out.block _ (lt_of_block GV7.out)).trans GV7.out)
              have G123 := Lib.hid ((B3.out.block _ (lt_of_block GV12.out)).trans GV12.out)
              have T3 := Lib.hid (TV.out.below B3.out)
              have HK3 := Lib.hid (HKV0.out.below B3.out)
              have x0 := cells_of G63.out 0
              have x1 := cells_of G63.out 1
              have s0 := cells_of S3 0
              have s1 := cells_of S3 1
              have s2 := cells_of S3 2
              have s3 := cells_of S3 3
              have s4 := cells_of S3 4
              have s5 := cells_of S3 5
              have s6 := cells_of S3 6
              have s7 := cells_of S3 7
              have s8 := cells_of S3 8
              have s9 := cells_of S3 9
              have s10 := cells_of S3 10
              have s11 := cells_of S3 11
              have s12 := cells_of S3 12
              have s13 := cells_of S3 13
              have s14 := cells_of S3 14
              simp only [List.getElem?_toArray, List.getElem?_cons_zero, List.getElem?_cons_succ] at x0 x1 s0 s1 s2 s3 s4 s5 s6 s7 s8 s9 s10 s11 s12 s13 s14
              have hag := aggS_law (A := A) (B := B) (v := v) (i := (i : Int) + 1) (L := L) (by rcases hLi with ⟨h1, h2⟩ | ⟨h1, h2⟩
                                                                                                · exact Or.inl ⟨by omega, h2⟩
                                                                                                · exact Or.inr ⟨by omega, by omega, h2⟩)
              have hLl : L.length ≤ 1 := by rcases hLi with ⟨_, h2⟩ | ⟨_, h2⟩ <;> rw [h2] <;> decide
              have con := do_two T3.out (aggS_at (p := fun _ => True) (i := (i : Int) + 1) hL G73.out trivial) HI.out (by decide) ⟨rfl, Nat.zero_le _, Nat.le_trans hLl (by decide), Nat.zero_le _, show 0 ≤ 500000 by decide⟩ HK3.out (stepS_qry rfl) hag rfl
              have hwl := HWL.out i hlt
              rw [HM.out] at hwl
              obtain ⟨x, hx⟩ : ∃ x, aggV ((i : Int) + 1) (aF A v) [0] = x := ⟨_, rfl⟩
              obtain ⟨ut, hu⟩ : ∃ ut, wantV M i = ut := ⟨_, rfl⟩
              rw [hx] at con hwl
              rw [hu] at hwl
              have HCMP := Lib.hid hwl
              have HUU := Lib.hid (show wantV M i = ut from hu)
              clear hx hu hwl hag hLl hL hLi S3 bc hcut HCB S1 S2 BY HQ14
              go_wp2_with fail
              refine con.mono ?_
              rintro e w10 ⟨f1, f2, f3, f4, f5, f6, rfl, b10, _, r10⟩
              have B10 := Lib.hid (B3.out.trans (b10.mono B3.out.size))
              have R10 := Lib.hid r10
              clear con b10 r10 x0 x1 s0 s1 s2 s3 s4 s5 s6 s7 s8 s9 s10 s11 s12 s13 s14
              go_upto_region 24 with (fail)
              generalize hA : World.alloc _ _ = V10
              have hZ : allocs w10 [_, _] = V10 := hA
              have bz := allocs_self hZ
              have hA16 : V10.heap[w10.heap.size + 1]? = some (.cells #[.int .i64 0, .slice f5 1 f6, .int .i64 1] 43 (0, 0)) := allocs_get hZ 1 rfl
              have BZ := Lib.hid (B10.out.trans (bz.mono B10.out.size))
              have rz := R10.out.below bz
              obtain ⟨rb, ro, rfl, _, hrb⟩ := rz.row.2.2.2.addr (by simp)
              obtain ⟨rr, rrc, h0, hrr⟩ := rz.row.2.2.2.lst 0 (by simp)
              have HR0 := Lib.hid (show rb < V10.heap.size ∧ V10.cell? ⟨rb, ro, none⟩ = some (.slice rr 1 rrc) from ⟨hrb, by simpa using h0⟩)
              have HRR := Lib.hid (show SlV valR _ V10 (.slice rr 1 rrc) [x] from hrr)
              have A16 := Lib.hid hA16
              have GQ := (BZ.out.block _ (lt_of_block GV12.out)).trans GV12.out
              have HU := Lib.hid (show q12 < V10.heap.size ∧ V10.cell? ⟨q12, i * 3, none⟩ = some (.int .i64 ut.kind) ∧ V10.cell? ⟨q12, i * 3 + 1, none⟩ = some (.int .i64 ut.n) ∧ V10.cell? ⟨q12, i * 3 + 2, none⟩ = some (.string ut.s) by
                rw [← HUU.out]
                refine ⟨lt_of_block GQ, ?_⟩
                rcases (show i = 0 ∨ i = 1 ∨ i = 2 ∨ i = 3 by omega) with rfl | rfl | rfl | rfl <;> exact ⟨cells_of GQ _, cells_of GQ _, cells_of GQ _⟩)
              have HKV := Lib.hid (HKV0.out.below BZ.out)
              obtain ⟨qa, hqa⟩ : ∃ q, w10.heap.size + 1 = q := ⟨_, rfl⟩
              rw [hqa] at A16 ⊢
              clear hA hZ bz hA16 rz hrr h0 hrb GQ hqa R10 B10 B3 G63 G73 G123 T3 HK3
              apply wp_region_growt 25 [108, 109, 110, 111, 112, 113, 114, 115, 116, 117, 118, 119, 120, 121, 122, 123, 124, 125, 126, 127, 128, 129, 130, 131, 132]
                [fun _ u _ => u = .pointer (some ⟨qa, 0, none⟩),
                 fun _ u _ => u = .int .i64 0,
                 fun _ u _ => u = .bool false,
                 fun _ u _ => u = .bool false,
                 fun _ u _ => u = .pointer (some ⟨qa, 2, none⟩),
                 fun _ u _ => u = .int .i64 1,
                 fun _ u _ => u = .bool false,
                 fun _ u _ => u = .bool false,
                 fun _ u _ => u = .bool false,
                 fun _ u _ => u = .pointer (some ⟨qa, 1, none⟩),
                 fun _ u _ => u = .slice (some ⟨rb, ro, none⟩) 1 f6,
                 fun _ u _ => u = .int .i64 1,
                 fun _ u _ => u = .bool false,
                 fun _ u _ => u = .bool false,
                 fun _ u _ => u = .bool false,
                 fun _ u _ => u = .pointer (some ⟨qa, 1, none⟩),
                 fun _ u _ => u = .slice (some ⟨rb, ro, none⟩) 1 f6,
                 fun _ u _ => u = .pointer (some ⟨rb, ro, none⟩),
                 fun _ u _ => u = .slice rr 1 rrc,
                 fun _ u _ => u = .int .i64 (i : Int),
                 fun _ u _ => u = .pointer (some ⟨q12, i * 3, none⟩),
                 fun _ u _ => u = .agg #[.int .i64 (ut).kind, .int .i64 (ut).n, .string (ut).s],
                 fun _ y w' => NewOne ut y w',
                 fun _ u _ => u = .int .i64 0,
                 fun _ u _ => u = .bool false]
                (Below V10.heap.size V10)
              case hF =>
                intro v
                simp only [setAll, List.foldl_cons, List.foldl_nil, Act.put, List.setIfInBounds_toArray, List.set_cons_succ, List.set_cons_zero]
                exact rfl
              case hm => kernel_rfl
              case hB => kernel_rfl
              case hsz => kernel_rfl
              case hC => exact fun w1 w2 h b => h.trans (b.mono h.size)
              case hw => exact Below.drew (Below.refl _ _)
              case hS =>
                intro D hD v u
                simp only [List.mem_cons, List.not_mem_nil, or_false] at hD
                rcases hD with rfl | rfl | rfl | rfl | rfl | rfl | rfl | rfl | rfl | rfl | rfl | rfl | rfl | rfl | rfl | rfl | rfl | rfl | rfl | rfl | rfl | rfl | rfl | rfl | rfl
                · exact fun w1 w2 h _ => h
                · exact fun w1 w2 h _ => h
                · exact fun w1 w2 h _ => h
                · exact fun w1 w2 h _ => h
                · exact fun w1 w2 h _ => h
                · exact fun w1 w2 h _ => h
                · exact fun w1 w2 h _ => h
                · exact fun w1 w2 h _ => h
                · exact fun w1 w2 h _ => h
                · exact fun w1 w2 h _ => h
                · exact fun w1 w2 h _ => h
                · exact fun w1 w2 h _ => h
                · exact fun w1 w2 h _ => h
                · exact fun w1 w2 h _ => h
                · exact fun w1 w2 h _ => h
                · exact fun w1 w2 h _ => h
                · exact fun w1 w2 h _ => h
                · exact fun w1 w2 h _ => h
                · exact fun w1 w2 h _ => h
                · exact fun w1 w2 h _ => h
                · exact fun w1 w2 h _ => h
                · exact fun w1 w2 h _ => h
                · exact fun w1 w2 h hb => h.below hb
                · exact fun w1 w2 h _ => h
                · exact fun w1 w2 h _ => h
              case hob =>
                simp only [List.take_succ_cons, List.take_zero]
                apply growt_cons
                · intro v w1 h1 hd
                  clear hd
                  clear h1
                  go_wp2_with fail
                  first | exact Below.refl _ _ | exact ⟨Below.refl _ _, rfl⟩ | exact ⟨rfl, Below.refl _ _⟩
                apply growt_cons
                · intro v w1 h1 hd
                  have g108 : v 108 = .pointer (some ⟨qa, 0, none⟩) := hd 0 _ _ _ rfl rfl rfl rfl
                  clear hd
                  rw [g108]
                  have y0 := cells_of ((h1.block _ (lt_of_block A16.out)).trans A16.out) 0
                  simp only [List.getElem?_toArray, List.getElem?_cons_zero, List.getElem?_cons_succ] at y0
                  clear g108 h1
                  go_wp2_with fail
                  first | exact Below.refl _ _ | exact ⟨Below.refl _ _, rfl⟩ | exact ⟨rfl, Below.refl _ _⟩
                apply growt_cons
                · intro v w1 h1 hd
                  have g109 : v 109 = .int .i64 0 := hd 1 _ _ _ rfl rfl rfl rfl
                  clear hd
                  rw [g109]
                  clear g109 h1
                  go_wp2_with fail
                  first | exact Below.refl _ _ | exact ⟨Below.refl _ _, rfl⟩ | exact ⟨rfl, Below.refl _ _⟩
                apply growt_cons
                · intro v w1 h1 hd
                  have g110 : v 110 = .bool false := hd 2 _ _ _ rfl rfl rfl rfl
                  clear hd
                  rw [g110]
                  clear g110 h1
                  go_wp2_with fail
                  first | exact Below.refl _ _ | exact ⟨Below.refl _ _, rfl⟩ | exact ⟨rfl, Below.refl _ _⟩
                apply growt_cons
                · intro v w1 h1 hd
                  have g111 : v 111 = .bool false := hd 3 _ _ _ rfl rfl rfl rfl
                  clear hd
                  rw [g111]
                  clear g111 h1
                  go_wp2_with fail
                  first | exact Below.refl _ _ | exact ⟨Below.refl _ _, rfl⟩ | exact ⟨rfl, Below.refl _ _⟩
                apply growt_cons
                · intro v w1 h1 hd
                  have g111 : v 111 = .bool false := hd 3 _ _ _ rfl rfl rfl rfl
                  have g112 : v 112 = .pointer (some ⟨qa, 2, none⟩) := hd 4 _ _ _ rfl rfl rfl rfl
                  clear hd
                  rw [g111, g112]
                  have y2 := cells_of ((h1.block _ (lt_of_block A16.out)).trans A16.out) 2
                  simp only [List.getElem?_toArray, List.getElem?_cons_zero, List.getElem?_cons_succ] at y2
                  clear g111 g112 h1
                  go_wp2_with fail
                  first | exact Below.refl _ _ | exact ⟨Below.refl _ _, rfl⟩ | exact ⟨rfl, Below.refl _ _⟩
                apply growt_cons
                · intro v w1 h1 hd
                  have g111 : v 111 = .bool false := hd 3 _ _ _ rfl rfl rfl rfl
                  have g113 : v 113 = .int .i64 1 := hd 5 _ _ _ rfl rfl rfl rfl
                  clear hd
                  rw [g111, g113]
                  clear g111 g113 h1
                  go_wp2_with fail
                  first | exact Below.refl _ _ | exact ⟨Below.refl _ _, rfl⟩ | exact ⟨rfl, Below.refl _ _⟩
                apply growt_cons
                · intro v w1 h1 hd
                  have g111 : v 111 = .bool false := hd 3 _ _ _ rfl rfl rfl rfl
                  have g114 : v 114 = .bool false := hd 6 _ _ _ rfl rfl rfl rfl
                  clear hd
                  rw [g111, g114]
                  clear g111 g114 h1
                  go_wp2_with fail
                  first | exact Below.refl _ _ | exact ⟨Below.refl _ _, rfl⟩ | exact ⟨rfl, Below.refl _ _⟩
                apply growt_cons
                · intro v w1 h1 hd
                  have g115 : v 115 = .bool false := hd 7 _ _ _ rfl rfl rfl rfl
                  clear hd
                  rw [g115]
                  clear g115 h1
                  go_wp2_with fail
                  first | exact Below.refl _ _ | exact ⟨Below.refl _ _, rfl⟩ | exact ⟨rfl, Below.refl _ _⟩
                apply growt_cons
                · intro v w1 h1 hd
                  have g116 : v 116 = .bool false := hd 8 _ _ _ rfl rfl rfl rfl
                  clear hd
                  rw [g116]
                  clear g116 h1
                  go_wp2_with fail
                  first | exact Below.refl _ _ | exact ⟨Below.refl _ _, rfl⟩ | exact ⟨rfl, Below.refl _ _⟩
                apply growt_cons
                · intro v w1 h1 hd
                  have g116 : v 116 = .bool false := hd 8 _ _ _ rfl rfl rfl rfl
                  have g117 : v 117 = .pointer (some ⟨qa, 1, none⟩) := hd 9 _ _ _ rfl rfl rfl rfl
                  clear hd
                  rw [g116, g117]
                  have y1 := cells_of ((h1.block _ (lt_of_block A16.out)).trans A16.out) 1
                  simp only [List.getElem?_toArray, List.getElem?_cons_zero, List.getElem?_cons_succ] at y1
                  clear g116 g117 h1
                  go_wp2_with fail
                  first | exact Below.refl _ _ | exact ⟨Below.refl _ _, rfl⟩ | exact ⟨rfl, Below.refl _ _⟩
                apply growt_cons
                · intro v w1 h1 hd
                  have g116 : v 116 = .bool false := hd 8 _ _ _ rfl rfl rfl rfl
                  have g118 : v 118 = .slice (some ⟨rb, ro, none⟩) 1 f6 := hd 10 _ _ _ rfl rfl rfl rfl
                  clear hd
                  rw [g116, g118]
                  clear g116 g118 h1
                  go_wp2_with fail
                  first | exact Below.refl _ _ | exact ⟨Below.refl _ _, rfl⟩ | exact ⟨rfl, Below.refl _ _⟩
                apply growt_cons
                · intro v w1 h1 hd
                  have g116 : v 116 = .bool false := hd 8 _ _ _ rfl rfl rfl rfl
                  have g119 : v 119 = .int .i64 1 := hd 11 _ _ _ rfl rfl rfl rfl
                  clear hd
                  rw [g116, g119]
                  clear g116 g119 h1
                  go_wp2_with fail
                  first | exact Below.refl _ _ | exact ⟨Below.refl _ _, rfl⟩ | exact ⟨rfl, Below.refl _ _⟩
                apply growt_cons
                · intro v w1 h1 hd
                  have g116 : v 116 = .bool false := hd 8 _ _ _ rfl rfl rfl rfl
                  have g120 : v 120 = .bool false := hd 12 _ _ _ rfl rfl rfl rfl
                  clear hd
                  rw [g116, g120]
                  clear g116 g120 h1
                  go_wp2_with fail
                  first | exact Below.refl _ _ | exact ⟨Below.refl _ _, rfl⟩ | exact ⟨rfl, Below.refl _ _⟩
                apply growt_cons
                · intro v w1 h1 hd
                  have g121 : v 121 = .bool false := hd 13 _ _ _ rfl rfl rfl rfl
                  clear hd
                  rw [g121]
                  clear g121 h1
                  go_wp2_with fail
                  first | exact Below.refl _ _ | exact ⟨Below.refl _ _, rfl⟩ | exact ⟨rfl, Below.refl _ _⟩
                apply growt_cons
                · intro v w1 h1 hd
                  have g122 : v 122 = .bool false := hd 14 _ _ _ rfl rfl rfl rfl
                  clear hd
                  rw [g122]
                  clear g122 h1
                  go_wp2_with fail
                  first | exact Below.refl _ _ | exact ⟨Below.refl _ _, rfl⟩ | exact ⟨rfl, Below.refl _ _⟩
                apply growt_cons
                · intro v w1 h1 hd
                  have g122 : v 122 = .bool false := hd 14 _ _ _ rfl rfl rfl rfl
                  have g123 : v 123 = .pointer (some ⟨qa, 1, none⟩) := hd 15 _ _ _ rfl rfl rfl rfl
                  clear hd
                  rw [g122, g123]
                  have y1 := cells_of ((h1.block _ (lt_of_block A16.out)).trans A16.out) 1
                  simp only [List.getElem?_toArray, List.getElem?_cons_zero, List.getElem?_cons_succ] at y1
                  clear g122 g123 h1
                  go_wp2_with fail
                  first | exact Below.refl _ _ | exact ⟨Below.refl _ _, rfl⟩ | exact ⟨rfl, Below.refl _ _⟩
                apply growt_cons
                · intro v w1 h1 hd
                  have g122 : v 122 = .bool false := hd 14 _ _ _ rfl rfl rfl rfl
                  have g124 : v 124 = .slice (some ⟨rb, ro, none⟩) 1 f6 := hd 16 _ _ _ rfl rfl rfl rfl
                  clear hd
                  rw [g122, g124]
                  clear g122 g124 h1
                  go_wp2_with fail
                  first | exact Below.refl _ _ | exact ⟨Below.refl _ _, rfl⟩ | exact ⟨rfl, Below.refl _ _⟩
                apply growt_cons
                · intro v w1 h1 hd
                  have g122 : v 122 = .bool false := hd 14 _ _ _ rfl rfl rfl rfl
                  have g125 : v 125 = .pointer (some ⟨rb, ro, none⟩) := hd 17 _ _ _ rfl rfl rfl rfl
                  clear hd
                  rw [g122, g125]
                  have y3 := (h1.cell (p := ⟨rb, ro, none⟩) HR0.out.1).trans HR0.out.2
                  clear g122 g125 h1
                  go_wp2_with fail
                  first | exact Below.refl _ _ | exact ⟨Below.refl _ _, rfl⟩ | exact ⟨rfl, Below.refl _ _⟩
                apply growt_cons
                · intro v w1 h1 hd
                  have g122 : v 122 = .bool false := hd 14 _ _ _ rfl rfl rfl rfl
                  clear hd
                  rw [g122]
                  clear g122 h1
                  go_wp2_with fail
                  first | exact Below.refl _ _ | exact ⟨Below.refl _ _, rfl⟩ | exact ⟨rfl, Below.refl _ _⟩
                apply growt_cons
                · intro v w1 h1 hd
                  have g122 : v 122 = .bool false := hd 14 _ _ _ rfl rfl rfl rfl
                  have g127 : v 127 = .int .i64 (i : Int) := hd 19 _ _ _ rfl rfl rfl rfl
                  clear hd
                  rw [g122, g127]
                  clear g122 g127 h1
                  go_wp2_with fail
                  first | exact Below.refl _ _ | exact ⟨Below.refl _ _, rfl⟩ | exact ⟨rfl, Below.refl _ _⟩
                apply growt_cons
                · intro v w1 h1 hd
                  have g122 : v 122 = .bool false := hd 14 _ _ _ rfl rfl rfl rfl
                  have g128 : v 128 = .pointer (some ⟨q12, i * 3, none⟩) := hd 20 _ _ _ rfl rfl rfl rfl
                  clear hd
                  rw [g122, g128]
                  have y4 := (h1.cell (p := ⟨q12, i * 3, none⟩) HU.out.1).trans HU.out.2.1
                  have y5 := (h1.cell (p := ⟨q12, i * 3 + 1, none⟩) HU.out.1).trans HU.out.2.2.1
                  have y6 := (h1.cell (p := ⟨q12, i * 3 + 2, none⟩) HU.out.1).trans HU.out.2.2.2
                  clear g122 g128 h1
                  go_wp2_with fail
                  first | exact Below.refl _ _ | exact ⟨Below.refl _ _, rfl⟩ | exact ⟨rfl, Below.refl _ _⟩
                apply growt_cons
                · intro v w1 h1 hd
                  have g122 : v 122 = .bool false := hd 14 _ _ _ rfl rfl rfl rfl
                  have g129 : v 129 = .agg #[.int .i64 (ut).kind, .int .i64 (ut).n, .string (ut).s] := hd 21 _ _ _ rfl rfl rfl rfl
                  clear hd
                  rw [g122, g129]
                  clear g122 g129 h1
                  go_wp2_with fail
                  have hb3 : Below w1.heap.size w1 (w1.alloc (.cells #[.int .i64 ut.kind, .int .i64 ut.n, .string ut.s] 55)) := (Below.refl _ _).alloc (Nat.le_refl _) _
                  first | exact ⟨hb3, w1.heap.size, rfl, heap_alloc_new _ _⟩ | exact ⟨⟨w1.heap.size, rfl, heap_alloc_new _ _⟩, hb3⟩
                apply growt_cons
                · intro v w1 h1 hd
                  have g122 : v 122 = .bool false := hd 14 _ _ _ rfl rfl rfl rfl
                  have g126 : v 126 = .slice rr 1 rrc := hd 18 _ _ _ rfl rfl rfl rfl
                  obtain ⟨g, g130, hg⟩ : NewOne ut (v 130) w1 := hd 22 _ _ _ rfl rfl rfl rfl
                  clear hd
                  rw [g122, g126, g130]
                  have con : Calls Tryz.prog 25 #[.slice rr 1 rrc, .slice (some ⟨g, 0, none⟩) 1 1] w1 (fun e w' => e = .returned (.int .i64 (cmpR [x] [ut])) ∧ Gr w1 w') := rows_gr (A := [x]) (B := [ut]) (HRR.out.below h1) (one_val (p := fun _ => True) hg trivial) (HKV.out.below h1)
                  rw [HCMP.out] at con
                  clear g122 g126 g130 hg h1
                  go_wp2_with fail
                  refine con.mono ?_
                  rintro e w2 ⟨rfl, b2⟩
                  have B2 := Lib.hid b2.below
                  clear con b2
                  go_wp2_with fail
                  first | exact ⟨B2.out, rfl⟩ | exact ⟨rfl, B2.out⟩ | exact B2.out
                apply growt_cons
                · intro v w1 h1 hd
                  have g122 : v 122 = .bool false := hd 14 _ _ _ rfl rfl rfl rfl
                  have g131 : v 131 = .int .i64 0 := hd 23 _ _ _ rfl rfl rfl rfl
                  clear hd
                  rw [g122, g131]
                  clear g122 g131 h1
                  go_wp2_with fail
                  first | exact Below.refl _ _ | exact ⟨Below.refl _ _, rfl⟩ | exact ⟨rfl, Below.refl _ _⟩
                exact growt_nil
              case hend =>
                intro z w9 h1 hd
                have g132 : z 132 = .bool false := hd 24 _ _ _ rfl rfl rfl
                have g122 : z 122 = .bool false := hd 14 _ _ _ rfl rfl rfl
                clear hd
                rw [g132, g122]
                have BE := Lib.hid (BZ.out.trans (h1.mono BZ.out.size))
                clear g132 g122 h1
                generalize z 108 = y108, z 109 = y109, z 110 = y110, z 111 = y111, z 112 = y112, z 113 = y113, z 114 = y114, z 115 = y115, z 116 = y116, z 117 = y117, z 118 = y118, z 119 = y119, z 120 = y120, z 121 = y121, z 123 = y123, z 124 = y124, z 125 = y125, z 126 = y126, z 127 = y127, z 128 = y128, z 129 = y129, z 130 = y130, z 131 = y131
                simp only [List.drop_succ_cons, List.drop_zero, List.drop_nil]
                go_wp2_with fail
                go_roundw
                case rel => exact ⟨i + 1, by omega, by go_num, BE.out⟩
                case measure => simp [intOf]; omega
          · have hin : i = 4 := by omega
            subst hin
            have BF := Lib.hid (BWV.out.trans (HB.out.mono BWV.out.size))
            clear hlt hi HB
            go_wp2_with fail
            go_ret
            exact ⟨rfl, BF.out⟩
end Go.Proofs.YtgemihkcihigpaaGreatDoor
