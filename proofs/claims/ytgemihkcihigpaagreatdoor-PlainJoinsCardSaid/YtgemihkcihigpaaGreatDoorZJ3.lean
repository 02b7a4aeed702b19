/- PlainJoins: the walk. -/
import Derived.Test.YtgemihkcihigpaaGreatDoorZB34
import Derived.Test.YtgemihkcihigpaaGreatDoorZJ1
import Derived.Test.YtgemihkcihigpaaGreatDoorZJ2
namespace Go.Proofs.YtgemihkcihigpaaGreatDoor
set_option linter.unusedVariables false
set_option linter.unusedSimpArgs false
open Go.RowKit

theorem strs_two {p : Nat → Prop} {g : Nat} {s t : ByteArray} {w : World} (h : w.heap[g]? = some (.cells #[.string s, .string t] 9 (0, 0))) (hp : p g) : SlV strF p w (.slice (some ⟨g, 0, none⟩) 2 2) [s, t] := by
  refine ⟨some ⟨g, 0, none⟩, 2, rfl, Nat.le_refl _, by simp, Or.inr ⟨g, 0, rfl, hp, lt_of_block h, fun i hi => ?_⟩⟩
  have hi' : i < 2 := hi
  have e : strF.sz = 1 := rfl
  have hc := fun o => cells_of h o
  rcases (show i = 0 ∨ i = 1 by omega) with rfl | rfl
  · refine ⟨strEnc s, fun j hj => ?_, rfl⟩
    rw [e] at hj
    obtain rfl : j = 0 := by omega
    exact (hc 0).trans rfl
  · refine ⟨strEnc t, fun j hj => ?_, rfl⟩
    rw [e] at hj
    obtain rfl : j = 0 := by omega
    exact (hc 1).trans rfl
theorem strs_three {p : Nat → Prop} {g : Nat} {s t r : ByteArray} {w : World} (h : w.heap[g]? = some (.cells #[.string s, .string t, .string r] 9 (0, 0))) (hp : p g) : SlV strF p w (.slice (some ⟨g, 0, none⟩) 3 3) [s, t, r] := by
  refine ⟨some ⟨g, 0, none⟩, 3, rfl, Nat.le_refl _, by simp, Or.inr ⟨g, 0, rfl, hp, lt_of_block h, fun i hi => ?_⟩⟩
  have hi' : i < 3 := hi
  have e : strF.sz = 1 := rfl
  have hc := fun o => cells_of h o
  rcases (show i = 0 ∨ i = 1 ∨ i = 2 by omega) with rfl | rfl | rfl
  · refine ⟨strEnc s, fun j hj => ?_, rfl⟩
    rw [e] at hj
    obtain rfl : j = 0 := by omega
    exact (hc 0).trans rfl
  · refine ⟨strEnc t, fun j hj => ?_, rfl⟩
    rw [e] at hj
    obtain rfl : j = 0 := by omega
    exact (hc 1).trans rfl
  · refine ⟨strEnc r, fun j hj => ?_, rfl⟩
    rw [e] at hj
    obtain rfl : j = 0 := by omega
    exact (hc 2).trans rfl
theorem joS_at {p : Nat → Prop} {g1 g2 : Nat} {w : World} (h1 : w.heap[g1]? = some (.cells #[.string sB, .string sA, .string sC] 9 (0, 0))) (h2 : w.heap[g2]? = some (.cells #[.string sC, .string sA] 9 (0, 0))) (p1 : p g1) (p2 : p g2) :
    StmtV p w (.agg #[.int .i64 7, .string sT, .string ⟨#[]⟩, .slice none 0 0, .slice (some ⟨g1, 0, none⟩) 3 3, .slice none 0 0, .slice none 0 0, .slice none 0 0, .string sU, .string sB, .string sB, .int .i64 0, .slice (some ⟨g2, 0, none⟩) 2 2, .int .i64 0, .int .i64 0]) joS :=
  ⟨none, 0, some ⟨g1, 0, none⟩, 3, none, 0, none, 0, none, 0, some ⟨g2, 0, none⟩, 2, rfl, nil_sl, strs_three h1 p1, nil_sl, nil_sl, nil_sl, strs_two h2 p2⟩
theorem badS_at {p : Nat → Prop} {g1 : Nat} {j l : ByteArray} {w : World} (h1 : w.heap[g1]? = some (.cells #[.string sB] 9 (0, 0))) (p1 : p g1) :
    StmtV p w (.agg #[.int .i64 7, .string sT, .string ⟨#[]⟩, .slice none 0 0, .slice (some ⟨g1, 0, none⟩) 1 1, .slice none 0 0, .slice none 0 0, .slice none 0 0, .string j, .string l, .string sB, .int .i64 0, .slice none 0 0, .int .i64 0, .int .i64 0]) (badS j l) :=
  ⟨none, 0, some ⟨g1, 0, none⟩, 1, none, 0, none, 0, none, 0, none, 0, rfl, nil_sl, one_str h1 p1, nil_sl, nil_sl, nil_sl, nil_sl⟩
def NewC (cs : Array Value) (T : TypeId) (u : Value) (w : World) : Prop := ∃ g, u = .slice (some ⟨g, 0, none⟩) 1 1 ∧ w.heap[g]? = some (.cells cs T (0, 0))
theorem NewC.below {cs : Array Value} {T : TypeId} {u : Value} {w w' : World} (h : NewC cs T u w) (hb : Below w.heap.size w w') : NewC cs T u w' := by
  obtain ⟨g, h1, h2⟩ := h
  exact ⟨g, h1, (hb.block _ (lt_of_block h2)).trans h2⟩
theorem pairs_le {A B : List (List Val)} (hA : A.length ≤ 48) (hB : B.length ≤ 48) : ∀ k, pairsTo A B k ≤ 2304 * k
  | 0 => Nat.le_refl _
  | k + 1 => by
    have h1 := pairs_le hA hB k
    have h2 : cA A k * cB B k ≤ 48 * 48 := Nat.mul_le_mul (Nat.le_trans (cA_le k) hA) (Nat.le_trans (cB_le k) hB)
    unfold pairsTo
    omega
set_option maxRecDepth 100000 in
set_option maxHeartbeats 16000000 in
theorem join_walk {p : Nat → Prop} {al : Option Addr} {cl : Nat} {l : List Int} {w : World} (hl : SlV intR p w (.slice al l.length cl) l) (hK : KindsAt w) :
    Calls Tryz.prog 6 #[.slice al l.length cl] w fun e w' => e = .returned (.bool true) ∧ Below w.heap.size w w' := by
  have HK := Lib.hid hK
  have HL := Lib.hid hl
  have con := sanity_any w hK
  clear hK hl
  go_enter Tryz.func6, Tryz.ntmps6
  go_wp2_with fail
  refine con.mono ?_
  rintro e w1 ⟨rfl, b1⟩
  have B1 := Lib.hid b1
  have con := filled_any (HL.out.below b1) (HK.out.below b1)
  clear b1
  go_wp2_with fail
  refine con.mono ?_
  rintro e w2 ⟨a1, c1, a2, c2, rfl, b2, t2⟩
  have B2 := Lib.hid (B1.out.trans (b2.mono B1.out.size))
  have HI := Lib.hid (fill_inv l (fillM l) (by unfold fillM; split <;> omega))
  have HA := Lib.hid (fillA_jv l (fillM l))
  have HB := Lib.hid (fillB_jv l (fillM l))
  obtain ⟨A, hA⟩ : ∃ A, fillA l (fillM l) = A := ⟨_, rfl⟩
  obtain ⟨B, hB⟩ : ∃ B, fillB l (fillM l) = B := ⟨_, rfl⟩
  rw [hA, hB] at t2
  rw [hA, hB] at HI
  rw [hA] at HA
  rw [hB] at HB
  have T2 := Lib.hid t2
  have HAL := Lib.hid (show A.length ≤ 48 from HI.out.many A (by simp [twoS]))
  have HBL := Lib.hid (show B.length ≤ 48 from HI.out.many B (by simp [twoS]))
  clear con b2 t2 hA hB
  go_upto_region 3 with (fail)
  generalize hX : World.alloc _ _ = V
  have b3 : Below w2.heap.size w2 V := by rw [← hX]; exact (Below.refl _ _).alloc (Nat.le_refl _) _
  have GV4 := Lib.hid (show V.heap[w2.heap.size]? = some (.cells #[.slice a1 2 c1, .slice a2 2 c2] 27 (0, 0)) by rw [← hX]; exact heap_alloc_new _ _)
  have TV := Lib.hid (T2.out.below b3)
  have BV := Lib.hid (B2.out.trans (b3.mono B2.out.size))
  have HKV := Lib.hid (HK.out.below BV.out)
  obtain ⟨q4, hq4⟩ : ∃ q, w2.heap.size = q := ⟨_, rfl⟩
  rw [hq4] at GV4 ⊢
  clear hX b3 T2 B2 hq4
  go_wp2_with fail
  go_loopw [5, 6] (fun x5 x6 wr => ∃ i : Nat, i ≤ 3 ∧ x6 = .int .i64 i ∧ x5 = .int .i64 (pairsTo A B i) ∧ Hid (Below V.heap.size V wr)) (fun _ x6 _ => 3 - (intOf x6).toNat)
  case atStart => exact ⟨0, by omega, rfl, rfl, Below.refl _ _⟩
  case round =>
    obtain ⟨i, hi, rfl, rfl, HR⟩ := hrel
    by_cases hlt : i < 3
    · obtain ⟨pi, hpi⟩ : ∃ n, pairsTo A B i = n := ⟨_, rfl⟩
      have hpl := pairs_le HAL.out HBL.out i
      rw [hpi] at hpl ⊢
      have HPI := Lib.hid hpi
      clear hpi
      go_upto_region 7 with (fail)
      go_cut [7] from 23 to 29 (fun x7 wx => ∃ (q : Nat) (ut : Val), x7 = .pointer (some ⟨q, 0, none⟩) ∧ Hid (Below wr.heap.size wr wx ∧ wx.heap[q]? = some (.cells #[.string sB, .int .i64 1, .int .i64 ut.kind, .int .i64 ut.n, .string ut.s] 60 (0, 0)) ∧ ut = tx (xyzB i)))
      case first =>
        rcases (show i = 0 ∨ i = 1 ∨ i = 2 by omega) with rfl | rfl | rfl
        · have con := text_any ((⟨#[120, 121, 122]⟩ : ByteArray).extract 0 1) wr
          clear hpl
          go_wp2_with fail
          refine con.mono ?_
          rintro e w6 ⟨rfl, b6⟩
          have B6 := Lib.hid b6
          clear con b6
          go_wp2_with fail
          have hb : Below w6.heap.size w6 (w6.alloc (.cells #[.string sB, .int .i64 1, .int .i64 2, .int .i64 0, .string ((⟨#[120, 121, 122]⟩ : ByteArray).extract 0 1)] 60)) := (Below.refl _ _).alloc (Nat.le_refl _) _
          go_meet
          exact ⟨w6.heap.size, tx (xyzB 0), rfl, B6.out.trans (hb.mono B6.out.size), heap_alloc_new _ _, rfl⟩
        · have con := text_any ((⟨#[120, 121, 122]⟩ : ByteArray).extract 1 2) wr
          clear hpl
          go_wp2_with fail
          refine con.mono ?_
          rintro e w6 ⟨rfl, b6⟩
          have B6 := Lib.hid b6
          clear con b6
          go_wp2_with fail
          have hb : Below w6.heap.size w6 (w6.alloc (.cells #[.string sB, .int .i64 1, .int .i64 2, .int .i64 0, .string ((⟨#[120, 121, 122]⟩ : ByteArray).extract 1 2)] 60)) := (Below.refl _ _).alloc (Nat.le_refl _) _
          go_meet
          exact ⟨w6.heap.size, tx (xyzB 1), rfl, B6.out.trans (hb.mono B6.out.size), heap_alloc_new _ _, rfl⟩
        · have con := text_any ((⟨#[120, 121, 122]⟩ : ByteArray).extract 2 3) wr
          clear hpl
          go_wp2_with fail
          refine con.mono ?_
          rintro e w6 ⟨rfl, b6⟩
          have B6 := Lib.hid b6
          clear con b6
          go_wp2_with fail
          have hb : Below w6.heap.size w6 (w6.alloc (.cells #[.string sB, .int .i64 1, .int .i64 2, .int .i64 0, .string ((⟨#[120, 121, 122]⟩ : ByteArray).extract 2 3)] 60)) := (Below.refl _ _).alloc (Nat.le_refl _) _
          go_meet
          exact ⟨w6.heap.size, tx (xyzB 2), rfl, B6.out.trans (hb.mono B6.out.size), heap_alloc_new _ _, rfl⟩
      case rest =>
        obtain ⟨q7, ut, rfl, HC⟩ := hcut
        obtain ⟨W, hW⟩ : ∃ W, W = wc := ⟨_, rfl⟩
        subst hW
        have BW := Lib.hid (HR.out.trans (HC.out.1.mono HR.out.size))
        have Q7 := Lib.hid HC.out.2.1
        have HU := Lib.hid HC.out.2.2
        have G4 := Lib.hid ((BW.out.block _ (lt_of_block GV4.out)).trans GV4.out)
        have TW := Lib.hid (TV.out.below BW.out)
        have HKW := Lib.hid (HKV.out.below BW.out)
        obtain ⟨ca, hca⟩ : ∃ n, cA A i = n := ⟨_, rfl⟩
        obtain ⟨cb, hcb⟩ : ∃ n, cB B i = n := ⟨_, rfl⟩
        have h1 := (cnt_one (one_t A B) (W := [condB 1 ut]) (lacks_b tT (by rw [col_tb]; decide) ut)).2
        have h2 := (cnt_one (one_u A B) (W := [condB 1 ut]) (lacks_b tU (by rw [col_ub]; decide) ut)).2
        rw [HU.out, cA_law HA.out, ← HU.out, hca] at h1
        rw [HU.out, cB_law HB.out, ← HU.out, hcb] at h2
        have H1 := Lib.hid h1
        have H2 := Lib.hid h2
        have hm : ca * cb ≤ 48 * 48 := Nat.mul_le_mul (by rw [← hca]; exact Nat.le_trans (cA_le i) HAL.out) (by rw [← hcb]; exact Nat.le_trans (cB_le i) HBL.out)
        have HCC := Lib.hid (show _ ∧ _ from ⟨hca, hcb⟩)
        have m0 : 0 ≤ (ca : Int) * (cb : Int) := by rw [← Int.natCast_mul]; omega
        have m1 : (ca : Int) * (cb : Int) ≤ 2304 := by rw [← Int.natCast_mul]; omega
        clear h1 h2 hca hcb hm HC HR
        go_upto_region 8 with (fail)
        apply wp_region_growu 11 [29, 30, 31, 32, 33, 34, 35, 36, 37, 38, 39]
          [fun _ u _ => u = .int .i64 (pi : Int),
           fun _ u _ => u = .agg #[.slice a1 2 c1, .slice a2 2 c2],
           fun _ u _ => u = .agg #[.string sB, .int .i64 1, .int .i64 ut.kind, .int .i64 ut.n, .string ut.s],
           fun _ y w' => NewC #[.string sB, .int .i64 1, .int .i64 ut.kind, .int .i64 ut.n, .string ut.s] 60 y w',
           fun _ u _ => u = .int .i64 (ca : Int),
           fun _ u _ => u = .agg #[.slice a1 2 c1, .slice a2 2 c2],
           fun _ u _ => u = .agg #[.string sB, .int .i64 1, .int .i64 ut.kind, .int .i64 ut.n, .string ut.s],
           fun _ y w' => NewC #[.string sB, .int .i64 1, .int .i64 ut.kind, .int .i64 ut.n, .string ut.s] 60 y w',
           fun _ u _ => u = .int .i64 (cb : Int),
           fun _ u _ => u = .int .i64 ((ca : Int) * (cb : Int)),
           fun _ u _ => u = .int .i64 ((pi : Int) + (ca : Int) * (cb : Int))]
          (Below W.heap.size W)
        case hF =>
          intro v
          simp only [setAll, List.foldl_cons, List.foldl_nil, Act.put, List.setIfInBounds_toArray, List.set_cons_succ, List.set_cons_zero]
          exact rfl
        case hm => kernel_rfl
        case hB => kernel_rfl
        case hsz => kernel_rfl
        case hC => exact fun w1 w2 h b => h.trans (b.mono h.size)
        case hw => exact Below.drew (Below.refl _ _)
        case hS =>
          intro D hD v u
          simp only [List.mem_cons, List.not_mem_nil, or_false] at hD
          rcases hD with rfl | rfl | rfl | rfl | rfl | rfl | rfl | rfl | rfl | rfl | rfl
          · exact fun w1 w2 h _ => h
          · exact fun w1 w2 h _ => h
          · exact fun w1 w2 h _ => h
          · exact fun w1 w2 h hb => h.below hb
          · exact fun w1 w2 h _ => h
          · exact fun w1 w2 h _ => h
          · exact fun w1 w2 h _ => h
          · exact fun w1 w2 h hb => h.below hb
          · exact fun w1 w2 h _ => h
          · exact fun w1 w2 h _ => h
          · exact fun w1 w2 h _ => h
        case hob =>
          simp only [List.take_succ_cons, List.take_zero]
          apply growt_cons
          · intro v w1 h1 hd
            clear hd
            clear h1
            go_wp2_with fail
            first | exact Below.refl _ _ | exact ⟨Below.refl _ _, rfl⟩ | exact ⟨rfl, Below.refl _ _⟩
          apply growt_cons
          · intro v w1 h1 hd
            clear hd
            have q0 := (h1.block _ (lt_of_block G4.out)).trans G4.out
            have x0 := cells_of q0 0
            have x1 := cells_of q0 1
            simp only [List.getElem?_toArray, List.getElem?_cons_zero, List.getElem?_cons_succ] at x0 x1
            clear q0
            clear h1
            go_wp2_with fail
            first | exact Below.refl _ _ | exact ⟨Below.refl _ _, rfl⟩ | exact ⟨rfl, Below.refl _ _⟩
          apply growt_cons
          · intro v w1 h1 hd
            clear hd
            have q0 := (h1.block _ (lt_of_block Q7.out)).trans Q7.out
            have x0 := cells_of q0 0
            have x1 := cells_of q0 1
            have x2 := cells_of q0 2
            have x3 := cells_of q0 3
            have x4 := cells_of q0 4
            simp only [List.getElem?_toArray, List.getElem?_cons_zero, List.getElem?_cons_succ] at x0 x1 x2 x3 x4
            clear q0
            clear h1
            go_wp2_with fail
            first | exact Below.refl _ _ | exact ⟨Below.refl _ _, rfl⟩ | exact ⟨rfl, Below.refl _ _⟩
          apply growt_cons
          · intro v w1 h1 hd
            have g31 : v 31 = .agg #[.string sB, .int .i64 1, .int .i64 ut.kind, .int .i64 ut.n, .string ut.s] := hd 2 _ _ _ rfl rfl rfl rfl
            clear hd
            rw [g31]
            clear g31 h1
            go_wp2_with fail
            have hb3 : Below w1.heap.size w1 (w1.alloc (.cells #[.string sB, .int .i64 1, .int .i64 ut.kind, .int .i64 ut.n, .string ut.s] 60)) := (Below.refl _ _).alloc (Nat.le_refl _) _
            first | exact ⟨hb3, w1.heap.size, rfl, heap_alloc_new _ _⟩ | exact ⟨⟨w1.heap.size, rfl, heap_alloc_new _ _⟩, hb3⟩
          apply growt_cons
          · intro v w1 h1 hd
            have g1 : v 30 = .agg #[.slice a1 2 c1, .slice a2 2 c2] := hd 1 _ _ _ rfl rfl rfl rfl
            obtain ⟨g, g2, hg⟩ : NewC #[.string sB, .int .i64 1, .int .i64 ut.kind, .int .i64 ut.n, .string ut.s] 60 (v 32) w1 := hd 3 _ _ _ rfl rfl rfl rfl
            clear hd
            rw [g1, g2]
            have con := count_any (TW.out.below h1) (one_cond (c := condB 1 ut) (p := fun _ => True) hg trivial) HI.out (by decide) (HKW.out.below h1) H1.out
            clear g1 g2 hg h1
            go_wp2_with fail
            refine con.mono ?_
            rintro e w2 ⟨rfl, b2⟩
            have B2 := Lib.hid b2
            clear con b2
            go_wp2_with fail
            first | exact ⟨B2.out, rfl⟩ | exact ⟨rfl, B2.out⟩ | exact B2.out
          apply growt_cons
          · intro v w1 h1 hd
            clear hd
            have q0 := (h1.block _ (lt_of_block G4.out)).trans G4.out
            have x0 := cells_of q0 0
            have x1 := cells_of q0 1
            simp only [List.getElem?_toArray, List.getElem?_cons_zero, List.getElem?_cons_succ] at x0 x1
            clear q0
            clear h1
            go_wp2_with fail
            first | exact Below.refl _ _ | exact ⟨Below.refl _ _, rfl⟩ | exact ⟨rfl, Below.refl _ _⟩
          apply growt_cons
          · intro v w1 h1 hd
            clear hd
            have q0 := (h1.block _ (lt_of_block Q7.out)).trans Q7.out
            have x0 := cells_of q0 0
            have x1 := cells_of q0 1
            have x2 := cells_of q0 2
            have x3 := cells_of q0 3
            have x4 := cells_of q0 4
            simp only [List.getElem?_toArray, List.getElem?_cons_zero, List.getElem?_cons_succ] at x0 x1 x2 x3 x4
            clear q0
            clear h1
            go_wp2_with fail
            first | exact Below.refl _ _ | exact ⟨Below.refl _ _, rfl⟩ | exact ⟨rfl, Below.refl _ _⟩
          apply growt_cons
          · intro v w1 h1 hd
            have g35 : v 35 = .agg #[.string sB, .int .i64 1, .int .i64 ut.kind, .int .i64 ut.n, .string ut.s] := hd 6 _ _ _ rfl rfl rfl rfl
            clear hd
            rw [g35]
            clear g35 h1
            go_wp2_with fail
            have hb3 : Below w1.heap.size w1 (w1.alloc (.cells #[.string sB, .int .i64 1, .int .i64 ut.kind, .int .i64 ut.n, .string ut.s] 60)) := (Below.refl _ _).alloc (Nat.le_refl _) _
            first | exact ⟨hb3, w1.heap.size, rfl, heap_alloc_new _ _⟩ | exact ⟨⟨w1.heap.size, rfl, heap_alloc_new _ _⟩, hb3⟩
          apply growt_cons
          · intro v w1 h1 hd
            have g1 : v 34 = .agg #[.slice a1 2 c1, .slice a2 2 c2] := hd 5 _ _ _ rfl rfl rfl rfl
            obtain ⟨g, g2, hg⟩ : NewC #[.string sB, .int .i64 1, .int .i64 ut.kind, .int .i64 ut.n, .string ut.s] 60 (v 36) w1 := hd 7 _ _ _ rfl rfl rfl rfl
            clear hd
            rw [g1, g2]
            have con := count_any (TW.out.below h1) (one_cond (c := condB 1 ut) (p := fun _ => True) hg trivial) HI.out (by decide) (HKW.out.below h1) H2.out
            clear g1 g2 hg h1
            go_wp2_with fail
            refine con.mono ?_
            rintro e w2 ⟨rfl, b2⟩
            have B2 := Lib.hid b2
            clear con b2
            go_wp2_with fail
            first | exact ⟨B2.out, rfl⟩ | exact ⟨rfl, B2.out⟩ | exact B2.out
          apply growt_cons
          · intro v w1 h1 hd
            have g33 : v 33 = .int .i64 (ca : Int) := hd 4 _ _ _ rfl rfl rfl rfl
            have g37 : v 37 = .int .i64 (cb : Int) := hd 8 _ _ _ rfl rfl rfl rfl
            clear hd
            rw [g33, g37]
            clear g33 g37 h1
            go_wp2_with fail
            first | exact Below.refl _ _ | exact ⟨Below.refl _ _, rfl⟩ | exact ⟨rfl, Below.refl _ _⟩
          apply growt_cons
          · intro v w1 h1 hd
            have g29 : v 29 = .int .i64 (pi : Int) := hd 0 _ _ _ rfl rfl rfl rfl
            have g38 : v 38 = .int .i64 ((ca : Int) * (cb : Int)) := hd 9 _ _ _ rfl rfl rfl rfl
            clear hd
            rw [g29, g38]
            clear g29 g38 h1
            go_wp2_with fail
            first | exact Below.refl _ _ | exact ⟨Below.refl _ _, rfl⟩ | exact ⟨rfl, Below.refl _ _⟩
          exact growt_nil
        case hend =>
          intro z w9 h1 hd
          have g39 : z 39 = .int .i64 ((pi : Int) + (ca : Int) * (cb : Int)) := hd 10 _ _ _ rfl rfl rfl
          clear hd
          rw [g39]
          have BE := Lib.hid (BW.out.trans (h1.mono BW.out.size))
          clear g39 h1
          generalize z 29 = y29, z 30 = y30, z 31 = y31, z 32 = y32, z 33 = y33, z 34 = y34, z 35 = y35, z 36 = y36, z 37 = y37, z 38 = y38
          simp only [List.drop_succ_cons, List.drop_zero, List.drop_nil]
          go_wp2_with fail
          go_roundw
          case rel =>
            refine ⟨i + 1, by omega, by go_num, ?_, BE.out⟩
            have e : pairsTo A B (i + 1) = pairsTo A B i + cA A i * cB B i := rfl
            rw [e, HPI.out, HCC.out.1, HCC.out.2, Int.natCast_add, Int.natCast_mul]
          case measure => simp [intOf]; omega
    · have hin : i = 3 := by omega
      subst hin
      rw [← joR_len HB.out A HA.out]
      obtain ⟨P, hP⟩ : ∃ P, (joR A B).length = P := ⟨_, rfl⟩
      have hp1 : P ≤ 6912 := by
        rw [← hP, joR_len HB.out A HA.out]
        exact pairs_le HAL.out HBL.out 3
      rw [hP]
      have HP := Lib.hid hP
      obtain ⟨V2, hV2⟩ : ∃ W, W = wr := ⟨_, rfl⟩
      subst hV2
      have G4 := Lib.hid ((HR.out.block _ (lt_of_block GV4.out)).trans GV4.out)
      have T4 := Lib.hid (TV.out.below HR.out)
      have B4 := Lib.hid (BV.out.trans (HR.out.mono BV.out.size))
      have x0 := cells_of G4.out 0
      have x1 := cells_of G4.out 1
      simp only [List.getElem?_toArray, List.getElem?_cons_zero, List.getElem?_cons_succ] at x0 x1
      clear hlt hi HR GV4 TV BV HKV hP
      go_wp2_with fail
      generalize hX : World.alloc _ _ = X
      have hX2 : allocs V2 [_, _] = X := hX
      have bx := allocs_self hX2
      have q1 : X.heap[V2.heap.size]? = some (.cells #[.string sB, .string sA, .string sC] 9 (0, 0)) := allocs_get hX2 0 rfl
      have q2 : X.heap[V2.heap.size + 1]? = some (.cells #[.string sC, .string sA] 9 (0, 0)) := allocs_get hX2 1 rfl
      have BX := Lib.hid (B4.out.trans (bx.mono B4.out.size))
      have GX := Lib.hid ((bx.block _ (lt_of_block G4.out)).trans G4.out)
      have TX := Lib.hid (T4.out.below bx)
      by_cases hm : 400 < P
      · have con := do_two TX.out (joS_at (p := fun _ => True) q1 q2 trivial trivial) HI.out (by decide) ⟨rfl, Nat.zero_le _, show 3 ≤ 500000 by decide, Nat.zero_le _, show 2 ≤ 500000 by decide⟩ (HK.out.below BX.out) (stepS_qry rfl) (jo_many (A := A) (B := B) (by rw [HP.out]; exact hm)) rfl
        clear hX hX2 bx q1 q2 x0 x1 G4 T4 B4
        refine con.mono ?_
        rintro e w6 ⟨e1, e2, e3, e4, ra, rc, rfl, b6, _, r6⟩
        have B6 := Lib.hid (BX.out.trans (b6.mono BX.out.size))
        clear con b6 r6 BX GX TX
        go_upto_region 10 with (fail)
        generalize hA : World.alloc _ _ = Z
        have hZ : allocs w6 [_, _] = Z := hA
        have bz := allocs_self hZ
        have A9 : Z.heap[w6.heap.size + 1]? = some (.cells #[.int .i64 2, .slice ra 0 rc, .int .i64 0] 43 (0, 0)) := allocs_get hZ 1 rfl
        have BZ := Lib.hid (B6.out.trans (bz.mono B6.out.size))
        have z0 := cells_of A9 0
        have z1 := cells_of A9 1
        have z2 := cells_of A9 2
        simp only [List.getElem?_toArray, List.getElem?_cons_zero, List.getElem?_cons_succ] at z0 z1 z2
        have d1 : decide ((P : Int) > 400) = true := by simp; omega
        have d2 : decide (400 < P) = true := by simp; omega
        clear hA hZ bz A9
        go_wp2_with fail
        go_ret
        exact ⟨rfl, BZ.out⟩
      · obtain ⟨M, hM⟩ : ∃ M, joM A B = M := ⟨_, rfl⟩
        have hsel := jo_law (A := A) (B := B) (by rw [HP.out]; exact hm)
        have hml : M.length = P := by rw [← hM, joM_len, HP.out]
        rw [hM, hml] at hsel
        have hrow := (joM_row HA.out HB.out).1
        rw [hM] at hrow
        have HM1 := Lib.hid hrow
        have HM2 := Lib.hid (show ∀ i (h : i + 1 < M.length), cmpV (valAt (M[i]'(by omega)) 2) (valAt M[i + 1] 2) ≤ 0 from by
          intro i h
          subst hM
          exact (joM_row HA.out HB.out).2 i h)
        have con := do_two TX.out (joS_at (p := fun _ => True) q1 q2 trivial trivial) HI.out (by decide) ⟨rfl, Nat.zero_le _, show 3 ≤ 500000 by decide, Nat.zero_le _, show 2 ≤ 500000 by decide⟩ (HK.out.below BX.out) (stepS_qry rfl) hsel hml
        have HML := Lib.hid hml
        clear hX hX2 bx q1 q2 x0 x1 G4 T4 B4 hrow hsel hM hml
        refine con.mono ?_
        rintro e w6 ⟨e1, e2, e3, e4, ra, rc, rfl, b6, _, r6⟩
        have B6 := Lib.hid (BX.out.trans (b6.mono BX.out.size))
        have G6 := Lib.hid ((b6.block _ (lt_of_block GX.out)).trans GX.out)
        have T6 := Lib.hid (TX.out.below b6)
        have R6 := Lib.hid r6
        clear con b6 r6 BX GX TX
        go_upto_region 10 with (fail)
        generalize hA : World.alloc _ _ = Z
        have hZ : allocs w6 [_, _] = Z := hA
        have bz := allocs_self hZ
        have A9 := Lib.hid (show Z.heap[w6.heap.size + 1]? = some (.cells #[.int .i64 0, .slice ra P rc, .int .i64 P] 43 (0, 0)) from allocs_get hZ 1 rfl)
        have BZ := Lib.hid (B6.out.trans (bz.mono B6.out.size))
        have GZ := Lib.hid ((bz.block _ (lt_of_block G6.out)).trans G6.out)
        have TZ := Lib.hid (T6.out.below bz)
        have RZ := Lib.hid (show SlV rowR _ Z (.slice ra M.length rc) M by rw [HML.out]; exact R6.out.below bz)
        have HKZ := Lib.hid (HK.out.below BZ.out)
        obtain ⟨q9, hq9⟩ : ∃ q, w6.heap.size + 1 = q := ⟨_, rfl⟩
        rw [hq9] at A9 ⊢
        obtain ⟨q8, hq8⟩ : ∃ q, w6.heap.size = q := ⟨_, rfl⟩
        rw [hq8]
        have d1 : decide ((P : Int) > 400) = false := by simp; omega
        have d2 : decide (400 < P) = false := by simp; omega
        clear hA hZ bz hq9 hq8 G6 T6 R6 B6
        go_wp2_with fail
        clear d1 d2
        go_loopw [10] (fun x10 wr => ∃ i : Nat, i ≤ P ∧ x10 = .int .i64 i ∧ Hid (Below Z.heap.size Z wr)) (fun x10 _ => P - (intOf x10).toNat)
        case atStart => exact ⟨0, Nat.zero_le _, rfl, Below.refl _ _⟩
        case round =>
          obtain ⟨i, hi, rfl, HR⟩ := hrel
          have z1 := cells_of ((HR.out.block _ (lt_of_block A9.out)).trans A9.out) 1
          simp only [List.getElem?_toArray, List.getElem?_cons_zero, List.getElem?_cons_succ] at z1
          by_cases hlt : i < P
          · have hlM : i < M.length := by rw [HML.out]; exact hlt
            have rz := RZ.out.below HR.out
            obtain ⟨ba, oa, rfl, _, hba⟩ := rz.row.2.2.2.addr (by intro e; rw [e] at hlM; cases hlM)
            obtain ⟨ri, rci, c0, hri⟩ := rz.row.2.2.2.lst i hlM
            obtain ⟨vb, va, vc, hv, hvk⟩ := HM1.out _ (List.getElem_mem hlM)
            have e3 : M[i].length = 3 := by rw [hv]; rfl
            obtain ⟨bi, oi, rfl, _, hbi⟩ := hri.row.2.2.2.addr (by rw [hv]; simp)
            have k0 := (hri.row.2.2.2.val 0 (by rw [e3]; omega)).1
            obtain ⟨k6, k7, k8⟩ := hri.row.2.2.2.val 2 (by rw [e3]; omega)
            have f0 : M[i][0]'(by rw [e3]; omega) = vb := by simp [hv]
            have f2 : M[i][2]'(by rw [e3]; omega) = vc := by simp [hv]
            rw [e3] at c0
            rw [f0, hvk] at k0
            rw [f2] at k6 k7 k8
            simp only [Nat.zero_mul, Nat.add_zero] at k0
            have HKR := Lib.hid (fun z : Wld (Below wr.heap.size wr) => HKZ.out.below (HR.out.trans (z.good.mono HR.out.size)))
            have HC := Lib.hid (show _ ∧ _ ∧ _ ∧ _ ∧ _ ∧ _ ∧ _ from ⟨c0, k0, k6, k7, k8, hba, hbi⟩)
            have HA9 := Lib.hid ((HR.out.block _ (lt_of_block A9.out)).trans A9.out)
            have HV := Lib.hid hv
            have RR := Lib.hid rz
            clear rz hri k0 k6 k7 k8 e3 f0 f2 hv hvk
            go_upto_region 16 with (fail)
            clear c0 z1
            rcases (show i = 0 ∨ ∃ j, i = j + 1 from by cases i with
              | zero => exact Or.inl rfl
              | succ j => exact Or.inr ⟨j, rfl⟩) with rfl | ⟨j, rfl⟩
            · refine wp_region_class (Below wr.heap.size wr) (by kernel_rfl) (by kernel_rfl) (Below.drew (Below.refl _ _)) (fun ne => ?_)
              have k0 := fun z : Wld (Below wr.heap.size wr) => (z.good.cell (p := ⟨bi, oi, none⟩) HC.out.2.2.2.2.2.2).trans HC.out.2.1
              repeat (go_big_quiet_step (fail))
              refine wpQuiet_nil ?_
              intro w3 b3
              have B3 := Lib.hid (HR.out.trans (b3.mono HR.out.size))
              clear b3 k0 ne
              go_wp2_with fail
              go_roundw
              case rel => exact ⟨0 + 1, by omega, by go_num, B3.out⟩
              case measure => simp [intOf]; omega
            · have hj : j < M.length := by omega
              obtain ⟨rj, rcj, c1, hrj⟩ := RR.out.row.2.2.2.lst j hj
              obtain ⟨ub, ua, uc, hu, _⟩ := HM1.out _ (List.getElem_mem hj)
              have e3 : M[j].length = 3 := by rw [hu]; rfl
              obtain ⟨bj, oj, rfl, _, hbj⟩ := hrj.row.2.2.2.addr (by rw [hu]; simp)
              obtain ⟨m6, m7, m8⟩ := hrj.row.2.2.2.val 2 (by rw [e3]; omega)
              have f2 : M[j][2]'(by rw [e3]; omega) = uc := by simp [hu]
              rw [e3] at c1
              rw [f2] at m6 m7 m8
              have hle := HM2.out j hlM
              rw [hu, HV.out] at hle
              have hle2 : cmpV uc vc ≤ 0 := hle
              obtain ⟨d, hd⟩ : ∃ d, cmpV uc vc = d := ⟨_, rfl⟩
              rw [hd] at hle2
              have HD := Lib.hid hd
              have HJ := Lib.hid (show _ ∧ _ ∧ _ ∧ _ ∧ _ from ⟨c1, m6, m7, m8, hbj⟩)
              have d1 : decide (d > 0) = false := by simp; omega
              have d2 : decide (0 < d) = false := by simp; omega
              clear hd hle hle2 hrj m6 m7 m8 c1 f2 e3 hu
              refine wp_region_class (Below wr.heap.size wr) (by kernel_rfl) (by kernel_rfl) (Below.drew (Below.refl _ _)) (fun ne => ?_)
              have z1 := fun z : Wld (Below wr.heap.size wr) => cells_of ((z.good.block _ (lt_of_block HA9.out)).trans HA9.out) 1
              simp only [List.getElem?_toArray, List.getElem?_cons_zero, List.getElem?_cons_succ] at z1
              have k0 := fun z : Wld (Below wr.heap.size wr) => (z.good.cell (p := ⟨bi, oi, none⟩) HC.out.2.2.2.2.2.2).trans HC.out.2.1
              have k6 := fun z : Wld (Below wr.heap.size wr) => (z.good.cell (p := ⟨bi, oi + 2 * 3, none⟩) HC.out.2.2.2.2.2.2).trans HC.out.2.2.1
              have k7 := fun z : Wld (Below wr.heap.size wr) => (z.good.cell (p := ⟨bi, oi + 2 * 3 + 1, none⟩) HC.out.2.2.2.2.2.2).trans HC.out.2.2.2.1
              have k8 := fun z : Wld (Below wr.heap.size wr) => (z.good.cell (p := ⟨bi, oi + 2 * 3 + 2, none⟩) HC.out.2.2.2.2.2.2).trans HC.out.2.2.2.2.1
              have c1 := fun z : Wld (Below wr.heap.size wr) => (z.good.cell (p := ⟨ba, oa + j, none⟩) HC.out.2.2.2.2.2.1).trans HJ.out.1
              have m6 := fun z : Wld (Below wr.heap.size wr) => (z.good.cell (p := ⟨bj, oj + 2 * 3, none⟩) HJ.out.2.2.2.2).trans HJ.out.2.1
              have m7 := fun z : Wld (Below wr.heap.size wr) => (z.good.cell (p := ⟨bj, oj + 2 * 3 + 1, none⟩) HJ.out.2.2.2.2).trans HJ.out.2.2.1
              have m8 := fun z : Wld (Below wr.heap.size wr) => (z.good.cell (p := ⟨bj, oj + 2 * 3 + 2, none⟩) HJ.out.2.2.2.2).trans HJ.out.2.2.2.1
              simp only [Nat.reduceMul, Nat.add_assoc, Nat.reduceAdd] at k6 k7 k8 m6 m7 m8
              repeat (go_big_quiet_step ((go_at_call 24; (refine Calls.mono (vcmp_any uc vc _ (HKR.out _)) ?_); rintro e w3 ⟨rfl, b3⟩; exact ⟨congrArg (fun q => Ending.returned (Value.int .i64 q)) HD.out, class_below _ b3 (Nat.le_refl _)⟩)))
              refine wpQuiet_nil ?_
              intro w3 b3
              have B3 := Lib.hid (HR.out.trans (b3.mono HR.out.size))
              clear b3 z1 k0 k6 k7 k8 c1 m6 m7 m8 ne
              go_wp2_with fail
              go_roundw
              case rel => exact ⟨j + 1 + 1, by omega, by go_num, B3.out⟩
              case measure => simp [intOf]; omega
          · have hin : i = P := by omega
            subst hin
            have GR := Lib.hid ((HR.out.block _ (lt_of_block GZ.out)).trans GZ.out)
            have AR := Lib.hid ((HR.out.block _ (lt_of_block A9.out)).trans A9.out)
            have TR := Lib.hid (TZ.out.below HR.out)
            have BR := Lib.hid (BZ.out.trans (HR.out.mono BZ.out.size))
            obtain ⟨U, hU⟩ : ∃ W, W = wr := ⟨_, rfl⟩
            subst hU
            clear hlt hi hm HR RZ A9 GZ TZ BZ HKZ HM1 HM2
            have x0 := cells_of GR.out 0
            have x1 := cells_of GR.out 1
            simp only [List.getElem?_toArray, List.getElem?_cons_zero, List.getElem?_cons_succ] at x0 x1
            go_wp2_with fail
            generalize hX : World.alloc _ _ = X1
            have bx : Below U.heap.size U X1 := by rw [← hX]; exact (Below.refl _ _).alloc (Nat.le_refl _) _
            have q1 : X1.heap[U.heap.size]? = some (.cells #[.string sB] 9 (0, 0)) := by rw [← hX]; exact heap_alloc_new _ _
            have BX := Lib.hid (BR.out.trans (bx.mono BR.out.size))
            have con := do_two (TR.out.below bx) (badS_at (p := fun _ => True) (j := sT) (l := sB) q1 trivial) HI.out (by decide) ⟨rfl, Nat.zero_le _, show 1 ≤ 500000 by decide, Nat.zero_le _, show 0 ≤ 500000 by decide⟩ (HK.out.below BX.out) (stepS_qry rfl) (bad_twice A B) rfl
            have GX := Lib.hid ((bx.block _ (lt_of_block GR.out)).trans GR.out)
            have AX := Lib.hid ((bx.block _ (lt_of_block AR.out)).trans AR.out)
            have TX := Lib.hid (TR.out.below bx)
            clear hX bx q1 x0 x1 GR AR TR BR z1
            refine con.mono ?_
            rintro e w7 ⟨f1, f2, f3, f4, f5, f6, rfl, b7, _, _⟩
            have B7 := Lib.hid (BX.out.trans (b7.mono BX.out.size))
            have G7 := Lib.hid ((b7.block _ (lt_of_block GX.out)).trans GX.out)
            have A7 := Lib.hid ((b7.block _ (lt_of_block AX.out)).trans AX.out)
            have T7 := Lib.hid (TX.out.below b7)
            clear con b7 GX AX TX BX
            go_upto_region 19 with (fail)
            generalize hA : World.alloc _ _ = Y
            have hY : allocs w7 [_, _] = Y := hA
            have bz := allocs_self hY
            have A13 := Lib.hid (show Y.heap[w7.heap.size + 1]? = some (.cells #[.int .i64 51, .slice f5 0 f6, .int .i64 0] 43 (0, 0)) from allocs_get hY 1 rfl)
            have BY := Lib.hid (B7.out.trans (bz.mono B7.out.size))
            have GY := Lib.hid ((bz.block _ (lt_of_block G7.out)).trans G7.out)
            have AY := Lib.hid ((bz.block _ (lt_of_block A7.out)).trans A7.out)
            have TY := Lib.hid (T7.out.below bz)
            obtain ⟨q13, hq13⟩ : ∃ q, w7.heap.size + 1 = q := ⟨_, rfl⟩
            rw [hq13] at A13 ⊢
            clear hA hY bz hq13 G7 A7 T7 B7
            have x0 := cells_of GY.out 0
            have x1 := cells_of GY.out 1
            simp only [List.getElem?_toArray, List.getElem?_cons_zero, List.getElem?_cons_succ] at x0 x1
            go_wp2_with fail
            generalize hX : World.alloc _ _ = X1
            have bx : Below Y.heap.size Y X1 := by rw [← hX]; exact (Below.refl _ _).alloc (Nat.le_refl _) _
            have q1 : X1.heap[Y.heap.size]? = some (.cells #[.string sB] 9 (0, 0)) := by rw [← hX]; exact heap_alloc_new _ _
            have BX := Lib.hid (BY.out.trans (bx.mono BY.out.size))
            have con := do_two (TY.out.below bx) (badS_at (p := fun _ => True) (j := sU) (l := sC) q1 trivial) HI.out (by decide) ⟨rfl, Nat.zero_le _, show 1 ≤ 500000 by decide, Nat.zero_le _, show 0 ≤ 500000 by decide⟩ (HK.out.below BX.out) (stepS_qry rfl) (bad_name A B) rfl
            have GX := Lib.hid ((bx.block _ (lt_of_block GY.out)).trans GY.out)
            have AX := Lib.hid ((bx.block _ (lt_of_block AY.out)).trans AY.out)
            have AX13 := Lib.hid ((bx.block _ (lt_of_block A13.out)).trans A13.out)
            have TX := Lib.hid (TY.out.below bx)
            clear hX bx q1 x0 x1 GY AY TY BY A13
            refine con.mono ?_
            rintro e w8 ⟨g1, g2, g3, g4, g5, g6, rfl, b8, _, _⟩
            have B8 := Lib.hid (BX.out.trans (b8.mono BX.out.size))
            have G8 := Lib.hid ((b8.block _ (lt_of_block GX.out)).trans GX.out)
            have A8 := Lib.hid ((b8.block _ (lt_of_block AX.out)).trans AX.out)
            have A138 := Lib.hid ((b8.block _ (lt_of_block AX13.out)).trans AX13.out)
            have T8 := Lib.hid (TX.out.below b8)
            clear con b8 GX AX TX BX AX13
            go_upto_region 20 with (fail)
            generalize hA : World.alloc _ _ = Q
            have hY : allocs w8 [_, _] = Q := hA
            have bz := allocs_self hY
            have A15 := Lib.hid (show Q.heap[w8.heap.size + 1]? = some (.cells #[.int .i64 50, .slice g5 0 g6, .int .i64 0] 43 (0, 0)) from allocs_get hY 1 rfl)
            have BQ := Lib.hid (B8.out.trans (bz.mono B8.out.size))
            have GQ := Lib.hid ((bz.block _ (lt_of_block G8.out)).trans G8.out)
            have AQ := Lib.hid ((bz.block _ (lt_of_block A8.out)).trans A8.out)
            have AQ13 := Lib.hid ((bz.block _ (lt_of_block A138.out)).trans A138.out)
            have TQ := Lib.hid (T8.out.below bz)
            obtain ⟨q15, hq15⟩ : ∃ q, w8.heap.size + 1 = q := ⟨_, rfl⟩
            rw [hq15] at A15 ⊢
            clear hA hY bz hq15 G8 A8 T8 B8 A138
            have hc := jo_count A B
            rw [HP.out] at hc
            have con := count_any (p' := fun _ => True) (aw := none) (cw := 0) (W := []) TQ.out nil_sl HI.out (by decide) (HK.out.below BQ.out) hc
            have x0 := cells_of GQ.out 0
            have x1 := cells_of GQ.out 1
            have y0 := cells_of AQ.out 0
            have y1 := cells_of AQ.out 1
            have y2 := cells_of AQ.out 2
            have s0 := cells_of AQ13.out 0
            have s1 := cells_of AQ13.out 1
            have s2 := cells_of AQ13.out 2
            have t0 := cells_of A15.out 0
            have t1 := cells_of A15.out 1
            have t2 := cells_of A15.out 2
            simp only [List.getElem?_toArray, List.getElem?_cons_zero, List.getElem?_cons_succ] at x0 x1 y0 y1 y2 s0 s1 s2 t0 t1 t2
            clear hc
            go_wp2_with fail
            refine con.mono ?_
            rintro e w9 ⟨rfl, b9⟩
            have BE := Lib.hid (BQ.out.trans (b9.mono BQ.out.size))
            have k1 := cells_of ((b9.block _ (lt_of_block AQ13.out)).trans AQ13.out) 0
            have k2 := cells_of ((b9.block _ (lt_of_block A15.out)).trans A15.out) 0
            simp only [List.getElem?_toArray, List.getElem?_cons_zero, List.getElem?_cons_succ] at k1 k2
            clear con b9 x0 x1 y0 y1 y2 s0 s1 s2 t0 t1 t2
            go_wp2_with fail
            go_ret
            exact ⟨rfl, BE.out⟩
end Go.Proofs.YtgemihkcihigpaaGreatDoor
