/- PlanMerges: the walk of the law. -/
import Derived.Test.YtajlngkakpjncaaDoorSanity
import Derived.Test.YtajlngkakpjncaaDoorMergesPlain
namespace Go.Proofs.YtajlngkakpjncaaDoor
set_option linter.unusedVariables false
open Go.RowKit

/-- the two tables of the law and their boxes -/
structure MB (B : Nat) (k1 : Int) (b2 b4 : Bool) (w : World) : Prop where
  c1 : w.heap[B]? = some (.cells #[.string ⟨#[97]⟩, .int .i64 (1 + k1), .string ⟨#[98]⟩, .int .i64 2] 38 (0, 0))
  c2 : w.heap[B + 1 + 1]? = some (.cells #[.string ⟨#[99]⟩, .int .i64 1, .string ⟨#[100]⟩, .int .i64 2] 38 (0, 0))
  t : ∃ a n, w.heap[B + 1]? = some (.cells #[.int .i64 0, .string ⟨#[116]⟩, .slice (some ⟨B, 0, none⟩) 2 2, .slice a n n] 30 (0, 0)) ∧ SlV ixR (fun k => B + 4 ≤ k) w (.slice a n n) (tabM k1 b2).idx
  u : ∃ a n, w.heap[B + 1 + 1 + 1]? = some (.cells #[.int .i64 0, .string ⟨#[117]⟩, .slice (some ⟨B + 1 + 1, 0, none⟩) 2 2, .slice a n n] 30 (0, 0)) ∧ SlV ixR (fun k => B + 4 ≤ k) w (.slice a n n) (tabN b4).idx
theorem MB.below {B : Nat} {k1 : Int} {b2 b4 : Bool} {w w' : World} (h : MB B k1 b2 b4 w) (hb : Below w.heap.size w w') : MB B k1 b2 b4 w' := by
  obtain ⟨h1, h2, ⟨a, n, h3, h4⟩, ⟨a', n', h5, h6⟩⟩ := h
  exact ⟨(hb.block _ (lt_of_block h1)).trans h1, (hb.block _ (lt_of_block h2)).trans h2, ⟨a, n, (hb.block _ (lt_of_block h3)).trans h3, h4.below hb⟩, ⟨a', n', (hb.block _ (lt_of_block h5)).trans h5, h6.below hb⟩⟩
theorem heap_other (w : World) (b o : Nat) (v : Value) {c : Nat} (h : c ≠ b) : (w.setCell ⟨b, o, none⟩ v).heap[c]? = w.heap[c]? := Below.heap_setCell w ⟨b, o, none⟩ v c (fun e => h e)
theorem MB.setT {B : Nat} {k1 : Int} {b2 b4 : Bool} {w : World} (h : MB B k1 b2 b4 w) {a : Option Addr} {n : Nat} (hs : SlV ixR (fun k => B + 4 ≤ k) w (.slice a n n) (tabM k1 true).idx) : MB B k1 true b4 (w.setCell ⟨B + 1, 3, none⟩ (.slice a n n)) := by
  obtain ⟨h1, h2, ⟨a0, n0, h3, h4⟩, ⟨a', n', h5, h6⟩⟩ := h
  refine ⟨(heap_other _ _ _ _ (by omega)).trans h1, (heap_other _ _ _ _ (by omega)).trans h2, ⟨a, n, block_set h3, ?_⟩, ⟨a', n', (heap_other _ _ _ _ (by omega)).trans h5, ?_⟩⟩
  · exact hs.keep fun k hk _ => heap_other _ _ _ _ (by omega)
  · exact h6.keep fun k hk _ => heap_other _ _ _ _ (by omega)
theorem MB.setU {B : Nat} {k1 : Int} {b2 b4 : Bool} {w : World} (h : MB B k1 b2 b4 w) {a : Option Addr} {n : Nat} (hs : SlV ixR (fun k => B + 4 ≤ k) w (.slice a n n) (tabN true).idx) : MB B k1 b2 true (w.setCell ⟨B + 1 + 1 + 1, 3, none⟩ (.slice a n n)) := by
  obtain ⟨h1, h2, ⟨a0, n0, h3, h4⟩, ⟨a', n', h5, h6⟩⟩ := h
  refine ⟨(heap_other _ _ _ _ (by omega)).trans h1, (heap_other _ _ _ _ (by omega)).trans h2, ⟨a0, n0, (heap_other _ _ _ _ (by omega)).trans h3, ?_⟩, ⟨a, n, block_set h5, ?_⟩⟩
  · exact h4.keep fun k hk _ => heap_other _ _ _ _ (by omega)
  · exact hs.keep fun k hk _ => heap_other _ _ _ _ (by omega)
theorem MB.box {B : Nat} {k1 : Int} {b2 b4 : Bool} {w : World} (h : MB B k1 b2 b4 w) : TabBox (fun _ => True) w (B + 1) (tabM k1 b2) ∧ TabBox (fun _ => True) w (B + 1 + 1 + 1) (tabN b4) := by
  obtain ⟨h1, h2, ⟨a, n, h3, h4⟩, ⟨a', n', h5, h6⟩⟩ := h
  obtain ⟨e1, _⟩ := h4.row
  obtain ⟨e2, _⟩ := h6.row
  subst e1 e2
  exact ⟨⟨_, _, _, _, h3, sl_block (tabM k1 b2).cols h1 trivial rfl rfl (by simp [tabM]), h4.weaken fun _ _ => trivial⟩, ⟨_, _, _, _, h5, sl_block (tabN b4).cols h2 trivial rfl rfl (by simp [tabN]), h6.weaken fun _ _ => trivial⟩⟩

set_option maxRecDepth 100000 in
set_option maxHeartbeats 16000000 in
theorem merges_walk (bits r0 r1 vals : Int) (w : World) (he : Env w) :
    Calls Tryd.prog 4 #[.int .i64 bits, .agg #[.int .i64 r0, .int .i64 r1], .int .i64 vals] w fun e w' => e = .returned (.bool true) ∧ Below w.heap.size w w' := by
  obtain ⟨k1, k2, k4, x1, x2, x4, x7, hk1, hk2, hk4⟩ := and_bits bits
  have hk1a : 0 ≤ k1 := by omega
  have hk1b : k1 ≤ 1 := by omega
  have h1lt : 1 < w.heap.size := World.block_lt_of_cell? w _ he.choose_spec
  go_enter Tryd.func4, Tryd.ntmps4
  go_wp2_with fail
  refine (sanity_any (he.below ((Below.refl _ _).alloc (Nat.le_refl _) _))).mono ?_
  rintro e w1 ⟨rfl, b1⟩
  have hb1 : Below w.heap.size w w1 := ((Below.refl _ _).alloc (Nat.le_refl _) _).trans (b1.mono (by simp))
  have hs0 : w.heap.size < w1.heap.size := by have := b1.size; simp at this; omega
  have hrow := (b1.block w.heap.size (by simp)).trans (heap_alloc_new w _)
  clear b1
  go_upto_region 4 with (fail)
  generalize hW : World.alloc _ _ = W
  have hA : allocs w1 [_, _, _, _] = W := hW
  have hs1 : Below w1.heap.size w1 W := allocs_self hA
  have hMB : MB w1.heap.size k1 false false W := ⟨allocs_get hA 0 rfl, allocs_get hA 2 rfl, ⟨none, 0, allocs_get hA 1 rfl, sl_nil⟩, ⟨none, 0, allocs_get hA 3 rfl, sl_nil⟩⟩
  have hsz : w1.heap.size + 4 ≤ W.heap.size := by rw [← hA, allocs_size]; simp
  have HR := Lib.hid (cells_of ((hs1.block _ (lt_of_block hrow)).trans hrow))
  have BW := Lib.hid (hb1.trans (hs1.mono hb1.size))
  have EW := Lib.hid ((he.below hb1).below hs1)
  have M1 := Lib.hid hMB
  clear hA hW hs1 hMB hrow hb1 he
  go_upto_if 33 with (fail)
  go_cut [] from 34 to 37 (fun wx => MB w1.heap.size k1 (decide (k2 = 2)) false wx ∧ W.heap.size ≤ wx.heap.size ∧ Below w1.heap.size W wx)
  case first =>
    rcases hk2 with rfl | rfl
    · go_wp2_with fail
      go_meet
      exact ⟨M1.out, Nat.le_refl _, Below.refl _ _⟩
    · obtain ⟨a, n, h3, _⟩ := M1.out.t
      have b2 : Below W.heap.size W ((W.alloc (.cells #[.int .i64 0] 3)).alloc (.cells #[.string ⟨#[105]⟩, .slice (some ⟨W.heap.size, 0, none⟩) 1 1, .int .i64 0] 60)) := ((Below.refl _ _).alloc (Nat.le_refl _) _).alloc (by simp) _
      have h4 := (b2.block _ (lt_of_block h3)).trans h3
      have e3 := cells_of h4 3
      have f3 := free_of h4 3
      simp only [List.getElem?_toArray, List.getElem?_cons_zero, List.getElem?_cons_succ] at e3
      have BB := Lib.hid b2
      clear h3 h4 b2
      go_wp2_with fail
      go_meet
      have b2 := BB.out
      refine ⟨(M1.out.below b2).setT (ix_block (T := 60) (x := ⟨⟨#[105]⟩, [0], 0⟩) (sl := .slice (some ⟨W.heap.size, 0, none⟩) 1 1) ?_ (by omega) (int_block (T := 3) [0] ?_ hsz rfl rfl (by decide)) rfl), by simp; omega, (b2.mono (by omega)).setCell (p := ⟨w1.heap.size + 1, 3, none⟩) (by simp) _⟩
      · rw [show W.heap.size + 1 = (W.alloc (.cells #[.int .i64 0] 3)).heap.size by simp]
        exact heap_alloc_new _ _
      · exact (heap_alloc_old _ _ (by simp)).trans (heap_alloc_new _ _)
  case rest =>
    obtain ⟨hM2, hsize, hb2⟩ := hcut
    obtain ⟨W2, hWW⟩ : ∃ W2, W2 = wc := ⟨_, rfl⟩
    rw [← hWW] at hM2 hb2 ⊢
    have hsz2 : w1.heap.size + 4 ≤ W2.heap.size := by rw [hWW]; omega
    clear hWW hsize
    have M2 := Lib.hid hM2
    have B2 := Lib.hid hb2
    clear hM2 hb2
    go_upto_if 40 with (fail)
    go_cut [] from 41 to 44 (fun wx => MB w1.heap.size k1 (decide (k2 = 2)) (decide (k4 = 4)) wx ∧ Below w1.heap.size W wx)
    case first =>
      rcases hk4 with rfl | rfl
      · go_wp2_with fail
        go_meet
        exact ⟨M2.out, B2.out⟩
      · obtain ⟨a, n, h3, _⟩ := M2.out.u
        have b2 : Below W2.heap.size W2 ((W2.alloc (.cells #[.int .i64 0, .int .i64 1] 3)).alloc (.cells #[.string ⟨#[106]⟩, .slice (some ⟨W2.heap.size, 0, none⟩) 2 2, .int .i64 0] 60)) := ((Below.refl _ _).alloc (Nat.le_refl _) _).alloc (by simp) _
        have h4 := (b2.block _ (lt_of_block h3)).trans h3
        have e3 := cells_of h4 3
        have f3 := free_of h4 3
        simp only [List.getElem?_toArray, List.getElem?_cons_zero, List.getElem?_cons_succ] at e3
        have BB := Lib.hid b2
        clear h3 h4 b2
        go_wp2_with fail
        go_meet
        have b2 := BB.out
        refine ⟨(M2.out.below b2).setU (ix_block (T := 60) (x := ⟨⟨#[106]⟩, [0, 1], 0⟩) (sl := .slice (some ⟨W2.heap.size, 0, none⟩) 2 2) ?_ (by omega) (int_block (T := 3) [0, 1] ?_ hsz2 rfl rfl (by decide)) rfl), (B2.out.trans (b2.mono (by omega))).setCell (p := ⟨w1.heap.size + 1 + 1 + 1, 3, none⟩) (by simp; omega) _⟩
        · rw [show W2.heap.size + 1 = (W2.alloc (.cells #[.int .i64 0, .int .i64 1] 3)).heap.size by simp]
          exact heap_alloc_new _ _
        · exact (heap_alloc_old _ _ (by simp)).trans (heap_alloc_new _ _)
    case rest =>
      obtain ⟨hM3, hb3⟩ := hcut
      obtain ⟨W3, hWW⟩ : ∃ W3, W3 = wc := ⟨_, rfl⟩
      rw [← hWW] at hM3 hb3 ⊢
      clear hWW
      have M3 := Lib.hid hM3
      have B3 := Lib.hid hb3
      clear hM3 hb3
      have q0 : W3.cell? ⟨w.heap.size, 0, none⟩ = some (.int .i64 r0) := (B3.out.cell (p := ⟨w.heap.size, 0, none⟩) hs0).trans (HR.out 0)
      have q1 : W3.cell? ⟨w.heap.size, 1, none⟩ = some (.int .i64 r1) := (B3.out.cell (p := ⟨w.heap.size, 1, none⟩) hs0).trans (HR.out 1)
      have E3 := Lib.hid (show Env W3 from by obtain ⟨m, hm⟩ := EW.out; exact ⟨m, (B3.out.cell (p := ⟨1, 0, none⟩) (Nat.lt_trans h1lt hs0)).trans hm⟩)
      obtain ⟨ac, cc, ai, ci, t0, t1, t2, t3, hTV⟩ := M3.out.box.1.cells
      obtain ⟨bc, dc, bi, di, u0, u1, u2, u3, hUV⟩ := M3.out.box.2.cells
      have HTV := Lib.hid hTV
      have HUV := Lib.hid hUV
      clear hTV hUV
      obtain ⟨n, hn, hn0, hn1⟩ : ∃ n, restOf r0 500 = n ∧ 0 ≤ n ∧ n < 500 := ⟨_, rfl, by unfold restOf; omega, by unfold restOf; omega⟩
      obtain ⟨m, hm, hm0, hm1⟩ : ∃ m, restOf r1 500 = m ∧ 0 ≤ m ∧ m < 500 := ⟨_, rfl, by unfold restOf; omega, by unfold restOf; omega⟩
      obtain ⟨u, hu, hu0, hu1⟩ : ∃ u, restOf vals 50 = u ∧ 0 ≤ u ∧ u < 50 := ⟨_, rfl, by unfold restOf; omega, by unfold restOf; omega⟩
      go_wp2_with fail
      refine (rest_any r0 500 (by decide) (by decide) _).mono ?_
      rintro e w2 ⟨rfl, rfl⟩
      rw [hn]
      go_wp2_with fail
      refine (rest_any r1 500 (by decide) (by decide) _).mono ?_
      rintro e w2 ⟨rfl, rfl⟩
      rw [hm]
      go_wp2_with fail
      refine (rest_any vals 50 (by decide) (by decide) _).mono ?_
      rintro e w2 ⟨rfl, rfl⟩
      rw [hu]
      obtain ⟨v, hv, hv0, hv1⟩ : ∃ v, 1 + u = v ∧ 1 ≤ v ∧ v ≤ 50 := ⟨_, rfl, by omega, by omega⟩
      clear hn hm hu
      go_wp2_with fail
      generalize hWC : World.alloc _ _ = WC
      have hC : allocs w2 [_, _, _] = WC := hWC
      have hbc : Below w2.heap.size w2 WC := allocs_self hC
      have k0 : WC.heap[w2.heap.size]? = some _ := allocs_get hC 0 rfl
      have k1' : WC.heap[w2.heap.size + 1]? = some _ := allocs_get hC 1 rfl
      have k2' : WC.heap[w2.heap.size + 1 + 1]? = some _ := allocs_get hC 2 rfl
      have l1 : (tabM k1 (decide (k2 = 2))).idx.length ≤ 1000000 := by simp only [tabM]; split <;> simp
      have l2 : (tabN (decide (k4 = 4))).idx.length ≤ 1000000 := by simp only [tabN]; split <;> simp
      have hS1 : StaV (fun _ => True) WC (.agg #[.int .i64 n, .slice (some ⟨w2.heap.size, 0, none⟩) 2 2]) ⟨n, [v, v]⟩ := staV_of (S := ⟨n, [v, v]⟩) (int_block [v, v] k0 trivial rfl rfl (by simp))
      have hS2 : StaV (fun _ => True) WC (.agg #[.int .i64 m, .slice (some ⟨w2.heap.size + 1, 0, none⟩) 2 2]) ⟨m, [v, v]⟩ := staV_of (S := ⟨m, [v, v]⟩) (int_block [v, v] k1' trivial rfl rfl (by simp))
      have hNm : SlV strF (fun _ => True) WC (.slice (some ⟨w2.heap.size + 1 + 1, 0, none⟩) 2 2) stmtM.names := sl_block (enc := strEnc) (hl := fun _ => rfl) stmtM.names k2' trivial rfl rfl (by simp [stmtM])
      clear hWC hC
      refine (plan_any (HTV.out.below hbc) (HUV.out.below hbc) hS1 hS2 (stmtV_of (s := stmtM) rfl rfl rfl hNm (fun _ _ e => by cases e) sl_nil (fun _ _ e => by cases e; rfl) sl_nil) ⟨by decide, by decide, by decide, by decide⟩ (fun c hc => by cases hc) (E3.out.below hbc) l1 l2).mono ?_
      rintro e w5 ⟨rfl, b5⟩
      have B5 := Lib.hid (((BW.out.trans (B3.out.mono (Nat.le_of_lt hs0))).trans (hbc.mono (by have := BW.out.size; have := B3.out.size; omega))).trans (b5.mono (by have := BW.out.size; have := B3.out.size; have := hbc.size; omega)))
      obtain ⟨P, hP, hPc, hPm, hPj⟩ := plan_M k1 n m v (decide (k2 = 2)) (decide (k4 = 4)) ⟨hn0, hn1⟩ ⟨hm0, hm1⟩ ⟨hv0, hv1⟩ hk1
      rw [hP]
      obtain ⟨⟨pi, plo, phi, pc⟩, ⟨ji, jlo, jhi, jc⟩, mg, cost⟩ := P
      simp only at hPc hPm hPj
      rw [show planR (⟨⟨pi, plo, phi, pc⟩, ⟨ji, jlo, jhi, jc⟩, mg, cost⟩, 0) = .tuple #[.agg #[.int .i64 pi, .string plo, .string phi, .int .i64 pc, .int .i64 ji, .string jlo, .string jhi, .int .i64 jc, .bool mg, .int .i64 cost], .int .i64 0] from rfl]
      clear hP b5 k0 k1' k2' hS1 hS2 hNm l1 l2 hbc q0 q1 t0 t1 t2 t3 u0 u1 u2 u3 x1 x2
      obtain ⟨z, hz, hz0, hz1, hzt⟩ : ∃ z, (m + v - 1) / v = z ∧ 0 ≤ z ∧ z ≤ 549 ∧ (m + v - 1).tdiv v = z := ⟨_, rfl, Int.ediv_nonneg (by omega) (by omega), Int.le_trans (Int.ediv_le_self _ (by omega)) (by omega), by rw [Int.tdiv_eq_ediv_of_nonneg (by omega)]⟩
      obtain ⟨A, hA, hA0, hA1⟩ : ∃ A, n * (1 + m) = A ∧ 0 ≤ A ∧ A ≤ 250000 := ⟨_, rfl, Int.mul_nonneg hn0 (by omega), Int.le_trans (Int.mul_le_mul (show n ≤ 500 by omega) (show 1 + m ≤ 500 by omega) (by omega) (by omega)) (by decide)⟩
      obtain ⟨Z, hZ, hZ0, hZ1⟩ : ∃ Z, n * (3 + 2 * z) = Z ∧ 0 ≤ Z ∧ Z ≤ 1000000 := ⟨_, rfl, Int.mul_nonneg hn0 (by omega), Int.le_trans (Int.mul_le_mul (show n ≤ 500 by omega) (show 3 + 2 * z ≤ 2000 by omega) (by omega) (by omega)) (by decide)⟩
      simp only [mayM, mergeM, probeM, hz, hA, hZ] at hPc hPm
      rcases hk4 with rfl | rfl
      · simp only [show decide ((0 : Int) = 4) = false from rfl, Bool.and_false, Bool.false_and, Bool.false_eq_true, if_false] at hPc hPm hPj
        subst hPc hPm
        have h6 : (Go.bits .and .i64 bits 7 == 6) = false := by rw [x7]; simp; omega
        clear x7
        go_wp2_with fail
        go_ret
        exact ⟨rfl, B5.out.alloc B5.out.size _⟩
      · simp only [decide_true, Bool.and_true, if_true] at hPc hPm hPj
        by_cases hmay : k1 = 0 ∧ k2 = 2
        · obtain ⟨rfl, rfl⟩ := hmay
          have h6 : (Go.bits .and .i64 bits 7 == 6) = true := by rw [x7]; rfl
          simp only [decide_true, Bool.true_and] at hPc hPm
          by_cases hlt : 3 + 2 * n + 3 + 2 * m < 1 + n + Z
          · have hltb : decide (3 + 2 * n + 3 + 2 * m < 1 + n + Z) = true := by simpa using hlt
            rw [hltb] at hPc hPm
            rw [if_pos rfl] at hPc
            subst hPc hPm
            clear x7
            go_wp2_with fail
            go_ret
            exact ⟨rfl, B5.out.alloc B5.out.size _⟩
          · have hltb : decide (3 + 2 * n + 3 + 2 * m < 1 + n + Z) = false := by simpa using hlt
            rw [hltb] at hPc hPm
            rw [if_neg Bool.false_ne_true] at hPc
            subst hPc hPm
            clear x7
            go_wp2_with fail
            go_ret
            exact ⟨rfl, B5.out.alloc B5.out.size _⟩
        · have h6 : (Go.bits .and .i64 bits 7 == 6) = false := by rw [x7]; simp; omega
          have hno : (decide (k1 = 0) && decide (k2 = 2)) = false := by
            cases h : (decide (k1 = 0) && decide (k2 = 2)) with
            | false => rfl
            | true => simp at h; exact absurd h hmay
          rw [hno] at hPc hPm
          simp only [Bool.false_and, Bool.false_eq_true, if_false] at hPc hPm
          subst hPc hPm
          clear x7 hno hmay
          go_wp2_with fail
          go_ret
          exact ⟨rfl, B5.out.alloc B5.out.size _⟩
end Go.Proofs.YtajlngkakpjncaaDoor
