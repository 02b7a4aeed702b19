/- PlainParts: the walk. -/
import Derived.Test.YtgemihkcihigpaaGreatDoorZP34
namespace Go.Proofs.YtgemihkcihigpaaGreatDoor
set_option linter.unusedVariables false
set_option linter.unusedSimpArgs false
open Go.RowKit

theorem two_cond {p : Nat → Prop} {g : Nat} {c d : Cond} {w : World} (h : w.heap[g]? = some (.cells #[.string c.col, .int .i64 c.op, .int .i64 c.val.kind, .int .i64 c.val.n, .string c.val.s, .string d.col, .int .i64 d.op, .int .i64 d.val.kind, .int .i64 d.val.n, .string d.val.s] 60 (0, 0))) (hp : p g) : SlV condR p w (.slice (some ⟨g, 0, none⟩) 2 2) [c, d] := by
  refine ⟨some ⟨g, 0, none⟩, 2, rfl, Nat.le_refl _, by simp, Or.inr ⟨g, 0, rfl, hp, lt_of_block h, fun i hi => ?_⟩⟩
  have hi' : i < 2 := hi
  have e : condR.sz = 5 := rfl
  rcases (show i = 0 ∨ i = 1 by omega) with rfl | rfl
  · refine ⟨condEnc c, fun j hj => ?_, rfl⟩
    rw [e] at hj ⊢
    have := cells_of h j
    simp only [Nat.zero_mul, Nat.zero_add]
    rw [this]
    rcases (show j = 0 ∨ j = 1 ∨ j = 2 ∨ j = 3 ∨ j = 4 by omega) with rfl | rfl | rfl | rfl | rfl <;> rfl
  · refine ⟨condEnc d, fun j hj => ?_, rfl⟩
    rw [e] at hj ⊢
    have := cells_of h (5 + j)
    simp only [Nat.one_mul, Nat.zero_add]
    rw [this]
    rcases (show j = 0 ∨ j = 1 ∨ j = 2 ∨ j = 3 ∨ j = 4 by omega) with rfl | rfl | rfl | rfl | rfl <;> rfl
/-- the lists of rows of the two tables -/
theorem two_rows {p : Nat → Prop} {w : World} {a1 a2 : Option Addr} {c1 c2 : Nat} {A B : List (List Val)} (h : TwoAt p w a1 c1 a2 c2 A B) : ∃ b o ra rc, a2 = some ⟨b, o, none⟩ ∧ w.cell? ⟨b, o, none⟩ = some (.slice ra A.length rc) ∧ SlV rowR p w (.slice ra A.length rc) A := by
  obtain ⟨z1, z2, z3, z4, e, _, h4⟩ := h
  simp only [Value.agg.injEq, Array.mk.injEq, List.cons.injEq, Value.slice.injEq, and_true] at e
  obtain ⟨_, rfl, _, rfl⟩ := e
  obtain ⟨b, o, rfl, _, _⟩ := h4.row.2.2.2.addr (by simp [twoS])
  obtain ⟨ra, rc, h0, hr⟩ := h4.row.2.2.2.lst 0 (by simp [twoS])
  exact ⟨b, o, ra, rc, rfl, by simpa [twoS] using h0, hr⟩
theorem filt_take {α : Type} (f : α → Bool) {A : List α} {i : Nat} (hi : i < A.length) : ((A.take (i + 1)).filter f).length = ((A.take i).filter f).length + if f A[i] = true then 1 else 0 := by
  rw [List.take_succ_eq_append_getElem hi, List.filter_append, List.length_append]
  congr 1
  by_cases h : f A[i] = true
  · simp [h]
  · simp [h]
set_option maxRecDepth 100000 in
set_option maxHeartbeats 16000000 in
theorem parts_walk {p : Nat → Prop} {al : Option Addr} {cl : Nat} {l : List Int} {n k : Int} {w : World} (hl : SlV intR p w (.slice al l.length cl) l) (hk : 0 ≤ k ∧ k ≤ 255) (hK : KindsAt w) :
    Calls Tryz.prog 5 #[.slice al l.length cl, .int .i64 n, .int .u8 k] w fun e w' => e = .returned (.bool true) ∧ Below w.heap.size w w' := by
  have HK := Lib.hid hK
  have HL := Lib.hid hl
  have con := sanity_any w hK
  have hm := mask3 n
  obtain ⟨hk0, hk1⟩ := hk
  clear hK hl
  go_enter Tryz.func5, Tryz.ntmps5
  go_wp2_with fail
  refine con.mono ?_
  rintro e w1 ⟨rfl, b1⟩
  have B1 := Lib.hid b1
  have con := filled_any (HL.out.below b1) (HK.out.below b1)
  clear b1
  go_wp2_with fail
  refine con.mono ?_
  rintro e w2 ⟨a1, c1, a2, c2, rfl, b2, t2⟩
  have B2 := Lib.hid (B1.out.trans (b2.mono B1.out.size))
  have HI := Lib.hid (fill_inv l (fillM l) (by unfold fillM; split <;> omega))
  have HA := Lib.hid (fillA_row l (fillM l)).1
  obtain ⟨A, hA⟩ : ∃ A, fillA l (fillM l) = A := ⟨_, rfl⟩
  obtain ⟨B, hB⟩ : ∃ B, fillB l (fillM l) = B := ⟨_, rfl⟩
  rw [hA, hB] at t2
  rw [hA, hB] at HI
  rw [hA] at HA
  have T2 := Lib.hid t2
  have HAL := Lib.hid (show A.length ≤ 48 from HI.out.many A (by simp [twoS]))
  clear con b2 t2 hA hB
  go_upto_region 3 with (fail)
  generalize hX : World.alloc _ _ = W3
  have b3 : Below w2.heap.size w2 W3 := by rw [← hX]; exact (Below.refl _ _).alloc (Nat.le_refl _) _
  have G8 := Lib.hid (show W3.heap[w2.heap.size]? = some (.cells #[.slice a1 2 c1, .slice a2 2 c2] 27 (0, 0)) by rw [← hX]; exact heap_alloc_new _ _)
  have T3 := Lib.hid (T2.out.below b3)
  have B3 := Lib.hid (B2.out.trans (b3.mono B2.out.size))
  obtain ⟨v, hv⟩ : ∃ v : Val, v = ⟨1, n % 8, noStr⟩ := ⟨_, rfl⟩
  have con := whole_any (n % 8) W3
  clear hX b3 T2 B2
  go_wp2_with fail
  refine con.mono ?_
  rintro e w4 ⟨rfl, b4⟩
  have Q8 := Lib.hid ((b4.block _ (lt_of_block G8.out)).trans G8.out)
  have T4 := Lib.hid (T3.out.below b4)
  have B4 := Lib.hid (B3.out.trans (b4.mono B3.out.size))
  clear con b4 T3 B3 G8 hm
  go_upto_region 4 with (fail)
  generalize hX : World.alloc _ _ = W5
  have b5 : Below w4.heap.size w4 W5 := by rw [← hX]; exact (Below.refl _ _).alloc (Nat.le_refl _) _
  have G9 := Lib.hid (show W5.heap[w4.heap.size]? = some (.cells #[.int .i64 v.kind, .int .i64 v.n, .string v.s] 55 (0, 0)) by rw [← hX, hv]; exact heap_alloc_new _ _)
  have G8 := Lib.hid ((b5.block _ (lt_of_block Q8.out)).trans Q8.out)
  have T5 := Lib.hid (T4.out.below b5)
  have B5 := Lib.hid (B4.out.trans (b5.mono B4.out.size))
  have HV := Lib.hid (show v.kind = 1 by rw [hv])
  have e3 : Int.tmod k 3 = k % 3 := Int.tmod_eq_emod_of_nonneg hk0
  clear hX b5 T4 B4 Q8 hv
  go_cut [10] from 28 to 34 (fun x10 wx => ∃ (q : Nat) (u : Val), x10 = .pointer (some ⟨q, 0, none⟩) ∧ Hid (Below W5.heap.size W5 wx ∧ wx.heap[q]? = some (.cells #[.int .i64 u.kind, .int .i64 u.n, .string u.s] 55 (0, 0))))
  case first =>
    rcases (show k % 3 = 0 ∨ k % 3 = 1 ∨ k % 3 = 2 by omega) with hj | hj | hj
    · rw [hj] at e3
      have con := text_any ((⟨#[120, 121, 122]⟩ : ByteArray).extract 0 1) W5
      clear hj
      go_wp2_with fail
      refine con.mono ?_
      rintro e w6 ⟨rfl, b6⟩
      have B6 := Lib.hid b6
      clear con b6
      go_wp2_with fail
      have hb : Below w6.heap.size w6 (w6.alloc (.cells #[.int .i64 2, .int .i64 0, .string ((⟨#[120, 121, 122]⟩ : ByteArray).extract 0 1)] 55)) := (Below.refl _ _).alloc (Nat.le_refl _) _
      go_meet
      exact ⟨w6.heap.size, ⟨2, 0, (⟨#[120, 121, 122]⟩ : ByteArray).extract 0 1⟩, rfl, B6.out.trans (hb.mono B6.out.size), heap_alloc_new _ _⟩
    · rw [hj] at e3
      have con := text_any ((⟨#[120, 121, 122]⟩ : ByteArray).extract 1 2) W5
      clear hj
      go_wp2_with fail
      refine con.mono ?_
      rintro e w6 ⟨rfl, b6⟩
      have B6 := Lib.hid b6
      clear con b6
      go_wp2_with fail
      have hb : Below w6.heap.size w6 (w6.alloc (.cells #[.int .i64 2, .int .i64 0, .string ((⟨#[120, 121, 122]⟩ : ByteArray).extract 1 2)] 55)) := (Below.refl _ _).alloc (Nat.le_refl _) _
      go_meet
      exact ⟨w6.heap.size, ⟨2, 0, (⟨#[120, 121, 122]⟩ : ByteArray).extract 1 2⟩, rfl, B6.out.trans (hb.mono B6.out.size), heap_alloc_new _ _⟩
    · rw [hj] at e3
      have con := text_any ((⟨#[120, 121, 122]⟩ : ByteArray).extract 2 3) W5
      clear hj
      go_wp2_with fail
      refine con.mono ?_
      rintro e w6 ⟨rfl, b6⟩
      have B6 := Lib.hid b6
      clear con b6
      go_wp2_with fail
      have hb : Below w6.heap.size w6 (w6.alloc (.cells #[.int .i64 2, .int .i64 0, .string ((⟨#[120, 121, 122]⟩ : ByteArray).extract 2 3)] 55)) := (Below.refl _ _).alloc (Nat.le_refl _) _
      go_meet
      exact ⟨w6.heap.size, ⟨2, 0, (⟨#[120, 121, 122]⟩ : ByteArray).extract 2 3⟩, rfl, B6.out.trans (hb.mono B6.out.size), heap_alloc_new _ _⟩
  case rest =>
  obtain ⟨q10, u, rfl, HR⟩ := hcut
  obtain ⟨V, hV⟩ : ∃ V, V = wc := ⟨_, rfl⟩
  subst hV
  have G10 := Lib.hid HR.out.2
  have Q8 := Lib.hid ((HR.out.1.block _ (lt_of_block G8.out)).trans G8.out)
  have Q9 := Lib.hid ((HR.out.1.block _ (lt_of_block G9.out)).trans G9.out)
  have TV := Lib.hid (T5.out.below HR.out.1)
  have BV := Lib.hid (B5.out.trans (HR.out.1.mono B5.out.size))
  obtain ⟨q8, hq8⟩ : ∃ q, w2.heap.size = q := ⟨_, rfl⟩
  obtain ⟨q9, hq9⟩ : ∃ q, w4.heap.size = q := ⟨_, rfl⟩
  rw [hq8] at Q8
  rw [hq9] at Q9
  rw [hq8, hq9]
  have K0 := Lib.hid (Below.refl V.heap.size V)
  have HP := Lib.hid (parts_all (A := A) HA.out (v := v) (w := u) HV.out)
  clear e3 HR G8 G9 T5 B5 hq8 hq9 hk0 hk1
  have x0 := cells_of ((K0.out.block _ (lt_of_block Q8.out)).trans Q8.out) 0
  have x1 := cells_of ((K0.out.block _ (lt_of_block Q8.out)).trans Q8.out) 1
  simp only [List.getElem?_toArray, List.getElem?_cons_zero, List.getElem?_cons_succ] at x0 x1
  obtain ⟨nall, hnall⟩ : ∃ x : Nat, (A.filter (fitsW tT [])).length = x := ⟨_, rfl⟩
  have ha := (cnt_one (one_t A B) (W := []) (lacks_nil _)).2
  rw [hnall] at ha
  have Hnall := Lib.hid hnall
  clear hnall
  have con := count_any (TV.out.below K0.out) (W := []) (aw := none) (cw := 0) (p' := fun _ => True) nil_sl HI.out (by decide) (HK.out.below (BV.out.trans (K0.out.mono BV.out.size))) ha
  go_wp2_with fail
  refine con.mono ?_
  rintro e W1 ⟨rfl, bb⟩
  have K1 := Lib.hid (K0.out.trans (bb.mono K0.out.size))
  clear con bb ha x0 x1
  have x0 := cells_of ((K1.out.block _ (lt_of_block Q8.out)).trans Q8.out) 0
  have x1 := cells_of ((K1.out.block _ (lt_of_block Q8.out)).trans Q8.out) 1
  have y0 := cells_of ((K1.out.block _ (lt_of_block Q9.out)).trans Q9.out) 0
  have y1 := cells_of ((K1.out.block _ (lt_of_block Q9.out)).trans Q9.out) 1
  have y2 := cells_of ((K1.out.block _ (lt_of_block Q9.out)).trans Q9.out) 2
  simp only [List.getElem?_toArray, List.getElem?_cons_zero, List.getElem?_cons_succ] at x0 x1 y0 y1 y2
  obtain ⟨nlt, hnlt⟩ : ∃ x : Nat, (A.filter (fitsW tT [condA 3 v])).length = x := ⟨_, rfl⟩
  have ha := (cnt_one (one_t A B) (W := [condA 3 v]) (lacks_cons (by show 0 ≤ colOf tT sA; rw [col_ta]; decide) (lacks_nil _))).2
  rw [hnlt] at ha
  have Hnlt := Lib.hid hnlt
  clear hnlt
  go_wp2_with fail
  generalize hX : World.alloc _ _ = X
  have bx : Below W1.heap.size W1 X := by rw [← hX]; exact (Below.refl _ _).alloc (Nat.le_refl _) _
  have hx : X.heap[W1.heap.size]? = some (.cells #[.string sA, .int .i64 3, .int .i64 v.kind, .int .i64 v.n, .string v.s] 60 (0, 0)) := by rw [← hX]; exact heap_alloc_new _ _
  have bk := K1.out.trans (bx.mono K1.out.size)
  have con := count_any (TV.out.below bk) (one_cond (c := condA 3 v) (p := fun _ => True) hx trivial) HI.out (by decide) (HK.out.below (BV.out.trans (bk.mono BV.out.size))) ha
  have KX := Lib.hid bk
  clear hX bx hx bk ha x0 x1 y0 y1 y2
  refine con.mono ?_
  rintro e W2 ⟨rfl, bb⟩
  have K2 := Lib.hid (KX.out.trans (bb.mono KX.out.size))
  clear con bb KX
  have x0 := cells_of ((K2.out.block _ (lt_of_block Q8.out)).trans Q8.out) 0
  have x1 := cells_of ((K2.out.block _ (lt_of_block Q8.out)).trans Q8.out) 1
  have y0 := cells_of ((K2.out.block _ (lt_of_block Q9.out)).trans Q9.out) 0
  have y1 := cells_of ((K2.out.block _ (lt_of_block Q9.out)).trans Q9.out) 1
  have y2 := cells_of ((K2.out.block _ (lt_of_block Q9.out)).trans Q9.out) 2
  simp only [List.getElem?_toArray, List.getElem?_cons_zero, List.getElem?_cons_succ] at x0 x1 y0 y1 y2
  obtain ⟨neq, hneq⟩ : ∃ x : Nat, (A.filter (fitsW tT [condA 1 v])).length = x := ⟨_, rfl⟩
  have ha := (cnt_one (one_t A B) (W := [condA 1 v]) (lacks_cons (by show 0 ≤ colOf tT sA; rw [col_ta]; decide) (lacks_nil _))).2
  rw [hneq] at ha
  have Hneq := Lib.hid hneq
  clear hneq
  go_wp2_with fail
  generalize hX : World.alloc _ _ = X
  have bx : Below W2.heap.size W2 X := by rw [← hX]; exact (Below.refl _ _).alloc (Nat.le_refl _) _
  have hx : X.heap[W2.heap.size]? = some (.cells #[.string sA, .int .i64 1, .int .i64 v.kind, .int .i64 v.n, .string v.s] 60 (0, 0)) := by rw [← hX]; exact heap_alloc_new _ _
  have bk := K2.out.trans (bx.mono K2.out.size)
  have con := count_any (TV.out.below bk) (one_cond (c := condA 1 v) (p := fun _ => True) hx trivial) HI.out (by decide) (HK.out.below (BV.out.trans (bk.mono BV.out.size))) ha
  have KX := Lib.hid bk
  clear hX bx hx bk ha x0 x1 y0 y1 y2
  refine con.mono ?_
  rintro e W3 ⟨rfl, bb⟩
  have K3 := Lib.hid (KX.out.trans (bb.mono KX.out.size))
  clear con bb KX
  have x0 := cells_of ((K3.out.block _ (lt_of_block Q8.out)).trans Q8.out) 0
  have x1 := cells_of ((K3.out.block _ (lt_of_block Q8.out)).trans Q8.out) 1
  have y0 := cells_of ((K3.out.block _ (lt_of_block Q9.out)).trans Q9.out) 0
  have y1 := cells_of ((K3.out.block _ (lt_of_block Q9.out)).trans Q9.out) 1
  have y2 := cells_of ((K3.out.block _ (lt_of_block Q9.out)).trans Q9.out) 2
  simp only [List.getElem?_toArray, List.getElem?_cons_zero, List.getElem?_cons_succ] at x0 x1 y0 y1 y2
  obtain ⟨ngt, hngt⟩ : ∃ x : Nat, (A.filter (fitsW tT [condA 5 v])).length = x := ⟨_, rfl⟩
  have ha := (cnt_one (one_t A B) (W := [condA 5 v]) (lacks_cons (by show 0 ≤ colOf tT sA; rw [col_ta]; decide) (lacks_nil _))).2
  rw [hngt] at ha
  have Hngt := Lib.hid hngt
  clear hngt
  go_wp2_with fail
  generalize hX : World.alloc _ _ = X
  have bx : Below W3.heap.size W3 X := by rw [← hX]; exact (Below.refl _ _).alloc (Nat.le_refl _) _
  have hx : X.heap[W3.heap.size]? = some (.cells #[.string sA, .int .i64 5, .int .i64 v.kind, .int .i64 v.n, .string v.s] 60 (0, 0)) := by rw [← hX]; exact heap_alloc_new _ _
  have bk := K3.out.trans (bx.mono K3.out.size)
  have con := count_any (TV.out.below bk) (one_cond (c := condA 5 v) (p := fun _ => True) hx trivial) HI.out (by decide) (HK.out.below (BV.out.trans (bk.mono BV.out.size))) ha
  have KX := Lib.hid bk
  clear hX bx hx bk ha x0 x1 y0 y1 y2
  refine con.mono ?_
  rintro e W4 ⟨rfl, bb⟩
  have K4 := Lib.hid (KX.out.trans (bb.mono KX.out.size))
  clear con bb KX
  have x0 := cells_of ((K4.out.block _ (lt_of_block Q8.out)).trans Q8.out) 0
  have x1 := cells_of ((K4.out.block _ (lt_of_block Q8.out)).trans Q8.out) 1
  have y0 := cells_of ((K4.out.block _ (lt_of_block Q9.out)).trans Q9.out) 0
  have y1 := cells_of ((K4.out.block _ (lt_of_block Q9.out)).trans Q9.out) 1
  have y2 := cells_of ((K4.out.block _ (lt_of_block Q9.out)).trans Q9.out) 2
  simp only [List.getElem?_toArray, List.getElem?_cons_zero, List.getElem?_cons_succ] at x0 x1 y0 y1 y2
  obtain ⟨nne, hnne⟩ : ∃ x : Nat, (A.filter (fitsW tT [condA 2 v])).length = x := ⟨_, rfl⟩
  have ha := (cnt_one (one_t A B) (W := [condA 2 v]) (lacks_cons (by show 0 ≤ colOf tT sA; rw [col_ta]; decide) (lacks_nil _))).2
  rw [hnne] at ha
  have Hnne := Lib.hid hnne
  clear hnne
  go_wp2_with fail
  generalize hX : World.alloc _ _ = X
  have bx : Below W4.heap.size W4 X := by rw [← hX]; exact (Below.refl _ _).alloc (Nat.le_refl _) _
  have hx : X.heap[W4.heap.size]? = some (.cells #[.string sA, .int .i64 2, .int .i64 v.kind, .int .i64 v.n, .string v.s] 60 (0, 0)) := by rw [← hX]; exact heap_alloc_new _ _
  have bk := K4.out.trans (bx.mono K4.out.size)
  have con := count_any (TV.out.below bk) (one_cond (c := condA 2 v) (p := fun _ => True) hx trivial) HI.out (by decide) (HK.out.below (BV.out.trans (bk.mono BV.out.size))) ha
  have KX := Lib.hid bk
  clear hX bx hx bk ha x0 x1 y0 y1 y2
  refine con.mono ?_
  rintro e W5 ⟨rfl, bb⟩
  have K5 := Lib.hid (KX.out.trans (bb.mono KX.out.size))
  clear con bb KX
  have x0 := cells_of ((K5.out.block _ (lt_of_block Q8.out)).trans Q8.out) 0
  have x1 := cells_of ((K5.out.block _ (lt_of_block Q8.out)).trans Q8.out) 1
  have y0 := cells_of ((K5.out.block _ (lt_of_block Q9.out)).trans Q9.out) 0
  have y1 := cells_of ((K5.out.block _ (lt_of_block Q9.out)).trans Q9.out) 1
  have y2 := cells_of ((K5.out.block _ (lt_of_block Q9.out)).trans Q9.out) 2
  simp only [List.getElem?_toArray, List.getElem?_cons_zero, List.getElem?_cons_succ] at x0 x1 y0 y1 y2
  obtain ⟨nle, hnle⟩ : ∃ x : Nat, (A.filter (fitsW tT [condA 4 v])).length = x := ⟨_, rfl⟩
  have ha := (cnt_one (one_t A B) (W := [condA 4 v]) (lacks_cons (by show 0 ≤ colOf tT sA; rw [col_ta]; decide) (lacks_nil _))).2
  rw [hnle] at ha
  have Hnle := Lib.hid hnle
  clear hnle
  go_wp2_with fail
  generalize hX : World.alloc _ _ = X
  have bx : Below W5.heap.size W5 X := by rw [← hX]; exact (Below.refl _ _).alloc (Nat.le_refl _) _
  have hx : X.heap[W5.heap.size]? = some (.cells #[.string sA, .int .i64 4, .int .i64 v.kind, .int .i64 v.n, .string v.s] 60 (0, 0)) := by rw [← hX]; exact heap_alloc_new _ _
  have bk := K5.out.trans (bx.mono K5.out.size)
  have con := count_any (TV.out.below bk) (one_cond (c := condA 4 v) (p := fun _ => True) hx trivial) HI.out (by decide) (HK.out.below (BV.out.trans (bk.mono BV.out.size))) ha
  have KX := Lib.hid bk
  clear hX bx hx bk ha x0 x1 y0 y1 y2
  refine con.mono ?_
  rintro e W6 ⟨rfl, bb⟩
  have K6 := Lib.hid (KX.out.trans (bb.mono KX.out.size))
  clear con bb KX
  have x0 := cells_of ((K6.out.block _ (lt_of_block Q8.out)).trans Q8.out) 0
  have x1 := cells_of ((K6.out.block _ (lt_of_block Q8.out)).trans Q8.out) 1
  have y0 := cells_of ((K6.out.block _ (lt_of_block Q9.out)).trans Q9.out) 0
  have y1 := cells_of ((K6.out.block _ (lt_of_block Q9.out)).trans Q9.out) 1
  have y2 := cells_of ((K6.out.block _ (lt_of_block Q9.out)).trans Q9.out) 2
  simp only [List.getElem?_toArray, List.getElem?_cons_zero, List.getElem?_cons_succ] at x0 x1 y0 y1 y2
  obtain ⟨nge, hnge⟩ : ∃ x : Nat, (A.filter (fitsW tT [condA 6 v])).length = x := ⟨_, rfl⟩
  have ha := (cnt_one (one_t A B) (W := [condA 6 v]) (lacks_cons (by show 0 ≤ colOf tT sA; rw [col_ta]; decide) (lacks_nil _))).2
  rw [hnge] at ha
  have Hnge := Lib.hid hnge
  clear hnge
  go_wp2_with fail
  generalize hX : World.alloc _ _ = X
  have bx : Below W6.heap.size W6 X := by rw [← hX]; exact (Below.refl _ _).alloc (Nat.le_refl _) _
  have hx : X.heap[W6.heap.size]? = some (.cells #[.string sA, .int .i64 6, .int .i64 v.kind, .int .i64 v.n, .string v.s] 60 (0, 0)) := by rw [← hX]; exact heap_alloc_new _ _
  have bk := K6.out.trans (bx.mono K6.out.size)
  have con := count_any (TV.out.below bk) (one_cond (c := condA 6 v) (p := fun _ => True) hx trivial) HI.out (by decide) (HK.out.below (BV.out.trans (bk.mono BV.out.size))) ha
  have KX := Lib.hid bk
  clear hX bx hx bk ha x0 x1 y0 y1 y2
  refine con.mono ?_
  rintro e W7 ⟨rfl, bb⟩
  have K7 := Lib.hid (KX.out.trans (bb.mono KX.out.size))
  clear con bb KX
  have x0 := cells_of ((K7.out.block _ (lt_of_block Q8.out)).trans Q8.out) 0
  have x1 := cells_of ((K7.out.block _ (lt_of_block Q8.out)).trans Q8.out) 1
  have y0 := cells_of ((K7.out.block _ (lt_of_block Q9.out)).trans Q9.out) 0
  have y1 := cells_of ((K7.out.block _ (lt_of_block Q9.out)).trans Q9.out) 1
  have y2 := cells_of ((K7.out.block _ (lt_of_block Q9.out)).trans Q9.out) 2
  have z0 := cells_of ((K7.out.block _ (lt_of_block G10.out)).trans G10.out) 0
  have z1 := cells_of ((K7.out.block _ (lt_of_block G10.out)).trans G10.out) 1
  have z2 := cells_of ((K7.out.block _ (lt_of_block G10.out)).trans G10.out) 2
  simp only [List.getElem?_toArray, List.getElem?_cons_zero, List.getElem?_cons_succ] at x0 x1 y0 y1 y2 z0 z1 z2
  obtain ⟨nbo, hnbo⟩ : ∃ x : Nat, (A.filter (fitsW tT [condA 1 v, condB 1 u])).length = x := ⟨_, rfl⟩
  have ha := (cnt_one (one_t A B) (W := [condA 1 v, condB 1 u]) (lacks_cons (by show 0 ≤ colOf tT sA; rw [col_ta]; decide) (lacks_cons (by show 0 ≤ colOf tT sB; rw [col_tb]; decide) (lacks_nil _)))).2
  rw [hnbo] at ha
  have Hnbo := Lib.hid hnbo
  clear hnbo
  go_wp2_with fail
  generalize hX : World.alloc _ _ = X
  have bx : Below W7.heap.size W7 X := by rw [← hX]; exact (Below.refl _ _).alloc (Nat.le_refl _) _
  have hx : X.heap[W7.heap.size]? = some (.cells #[.string sA, .int .i64 1, .int .i64 v.kind, .int .i64 v.n, .string v.s, .string sB, .int .i64 1, .int .i64 u.kind, .int .i64 u.n, .string u.s] 60 (0, 0)) := by rw [← hX]; exact heap_alloc_new _ _
  have bk := K7.out.trans (bx.mono K7.out.size)
  have con := count_any (TV.out.below bk) (two_cond (c := condA 1 v) (d := condB 1 u) (p := fun _ => True) hx trivial) HI.out (by decide) (HK.out.below (BV.out.trans (bk.mono BV.out.size))) ha
  have KX := Lib.hid bk
  clear hX bx hx bk ha x0 x1 y0 y1 y2 z0 z1 z2
  refine con.mono ?_
  rintro e W8 ⟨rfl, bb⟩
  have K8 := Lib.hid (KX.out.trans (bb.mono KX.out.size))
  clear con bb KX
  have x0 := cells_of ((K8.out.block _ (lt_of_block Q8.out)).trans Q8.out) 0
  have x1 := cells_of ((K8.out.block _ (lt_of_block Q8.out)).trans Q8.out) 1
  simp only [List.getElem?_toArray, List.getElem?_cons_zero, List.getElem?_cons_succ] at x0 x1
  obtain ⟨nnu, hnnu⟩ : ∃ x : Nat, (A.filter (fitsW tT [condA 1 val0])).length = x := ⟨_, rfl⟩
  have ha := (cnt_one (one_t A B) (W := [condA 1 val0]) (lacks_cons (by show 0 ≤ colOf tT sA; rw [col_ta]; decide) (lacks_nil _))).2
  rw [hnnu] at ha
  have Hnnu := Lib.hid hnnu
  clear hnnu
  go_wp2_with fail
  generalize hX : World.alloc _ _ = X
  have bx : Below W8.heap.size W8 X := by rw [← hX]; exact (Below.refl _ _).alloc (Nat.le_refl _) _
  have hx : X.heap[W8.heap.size]? = some (.cells #[.string sA, .int .i64 1, .int .i64 val0.kind, .int .i64 val0.n, .string val0.s] 60 (0, 0)) := by rw [← hX]; exact heap_alloc_new _ _
  have bk := K8.out.trans (bx.mono K8.out.size)
  have con := count_any (TV.out.below bk) (one_cond (c := condA 1 val0) (p := fun _ => True) hx trivial) HI.out (by decide) (HK.out.below (BV.out.trans (bk.mono BV.out.size))) ha
  have KX := Lib.hid bk
  clear hX bx hx bk ha x0 x1
  refine con.mono ?_
  rintro e W9 ⟨rfl, bb⟩
  have K9 := Lib.hid (KX.out.trans (bb.mono KX.out.size))
  clear con bb KX
  obtain ⟨br, orr, ra, rc, rfl, hr0, hrow⟩ := two_rows (TV.out.below K9.out)
  have HR := Lib.hid hrow
  have x0 := cells_of ((K9.out.block _ (lt_of_block Q8.out)).trans Q8.out) 0
  have x1 := cells_of ((K9.out.block _ (lt_of_block Q8.out)).trans Q8.out) 1
  simp only [List.getElem?_toArray, List.getElem?_cons_zero, List.getElem?_cons_succ] at x0 x1
  have BF := Lib.hid (BV.out.trans (K9.out.mono BV.out.size))
  obtain ⟨W, hW⟩ : ∃ W, W = W9 := ⟨_, rfl⟩
  subst hW
  clear hrow
  go_wp2_with fail
  go_loopw [20, 21] (fun x20 x21 wr => ∃ i : Nat, i ≤ A.length ∧ x21 = .int .i64 i ∧ x20 = .int .i64 ((A.take i).filter nullA).length ∧ W = wr) (fun _ x21 _ => A.length - (intOf x21).toNat)
  case atStart => exact ⟨0, Nat.zero_le _, rfl, by simp, rfl⟩
  case round =>
    obtain ⟨i, hi, rfl, rfl, rfl⟩ := hrel
    have hAL := HAL.out
    by_cases hlt : i < A.length
    · obtain ⟨ba, oa, rfl, _, _⟩ := HR.out.row.2.2.2.addr (by intro e; rw [e] at hlt; cases hlt)
      obtain ⟨ra2, rc2, c0, hr2⟩ := HR.out.row.2.2.2.lst i hlt
      obtain ⟨a, b, hab, _, _⟩ := HA.out _ (List.getElem_mem hlt)
      have hlen : A[i].length = 2 := by rw [hab]; rfl
      obtain ⟨b2, o2, rfl, _, _⟩ := hr2.row.2.2.2.addr (by rw [hab]; simp)
      have v0 := (hr2.row.2.2.2.val 0 (by rw [hlen]; omega)).1
      rw [hlen] at c0
      have hz : A[i][0]'(by rw [hlen]; omega) = a := by simp [hab]
      rw [hz] at v0
      simp only [Nat.zero_mul, Nat.add_zero] at v0
      have hf := filt_take nullA hlt
      have hn : nullA A[i] = decide (a.kind = 0) := by rw [hab]; rfl
      have HT := Lib.hid (show _ ∧ _ from ⟨hf, hn⟩)
      have hcnt : ((A.take i).filter nullA).length ≤ i := by
        have h1 := List.length_filter_le nullA (A.take i)
        rw [List.length_take] at h1
        omega
      obtain ⟨ct, hct⟩ : ∃ ct, ((A.take i).filter nullA).length = ct := ⟨_, rfl⟩
      rw [hct] at hcnt ⊢
      have HCT := Lib.hid hct
      clear hf hn hr2 hab hlen hz hct
      by_cases hk0 : a.kind = 0
      · have d0 : (a.kind == 0) = true := by simpa using hk0
        have HK0 := Lib.hid hk0
        clear hk0
        go_wp2_with fail
        go_roundw
        case rel => exact ⟨i + 1, by omega, by go_num, by rw [HT.out.1, HT.out.2, HCT.out, HK0.out]; simp, trivial⟩
        case measure => simp [intOf]; omega
      · have d0 : (a.kind == 0) = false := by simpa using hk0
        have HK0 := Lib.hid hk0
        clear hk0
        go_wp2_with fail
        go_roundw
        case rel => exact ⟨i + 1, by omega, by go_num, by rw [HT.out.1, HT.out.2, HCT.out, decide_eq_false HK0.out]; simp, trivial⟩
        case measure => simp [intOf]; omega
    · have hin : i = A.length := by omega
      have htk : (A.take i).filter nullA = A.filter nullA := by rw [hin, List.take_length]
      rw [htk]
      obtain ⟨h1, h2, h3, h4, h5, h6, h7⟩ := HP.out
      rw [Hnlt.out, Hneq.out, Hngt.out] at h1
      rw [Hnne.out, Hnlt.out, Hngt.out] at h2
      rw [Hnle.out, Hnlt.out, Hneq.out] at h3
      rw [Hnge.out, Hngt.out, Hneq.out] at h4
      rw [Hnbo.out, Hneq.out] at h5
      rw [Hnnu.out] at h6
      rw [Hnall.out] at h7
      obtain ⟨nn, hnn⟩ : ∃ nn, (A.filter nullA).length = nn := ⟨_, rfl⟩
      rw [hnn] at h1 ⊢
      have q1 : ((nall : Int) == (A.length : Int)) = true := by simp; omega
      have q2 : ((nlt : Int) + neq + ngt + nn == (nall : Int)) = true := by simp; omega
      have q3 : ((nne : Int) == (nlt : Int) + ngt) = true := by simp; omega
      have q4 : ((nle : Int) == (nlt : Int) + neq) = true := by simp; omega
      have q5 : ((nge : Int) == (ngt : Int) + neq) = true := by simp; omega
      have q6 : decide ((nbo : Int) ≥ 0) = true := by simp
      have q7 : decide (nbo ≤ neq) = true := by simp; omega
      have q8 : ((nnu : Int) == 0) = true := by simp; omega
      have i1 : (nlt : Int) ≤ 48 := by omega
      have i2 : (neq : Int) ≤ 48 := by omega
      have i3 : (ngt : Int) ≤ 48 := by omega
      have i4 : (nn : Int) ≤ 48 := by omega
      clear h1 h2 h3 h4 h5 h6 h7 hnn htk
      go_wp2_with fail
      go_ret
      exact ⟨rfl, BF.out⟩
end Go.Proofs.YtgemihkcihigpaaGreatDoor
