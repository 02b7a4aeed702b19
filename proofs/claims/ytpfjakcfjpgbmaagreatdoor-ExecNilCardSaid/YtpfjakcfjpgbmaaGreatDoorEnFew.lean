/- few: a statement with shorter lists. Printed by tools/enfew.py. -/
import Derived.Test.YtpfjakcfjpgbmaaGreatDoorEnBase
namespace Go.Proofs.YtpfjakcfjpgbmaaGreatDoor
set_option linter.unusedVariables false
set_option linter.unusedSimpArgs false
open Go.RowKit

set_option maxRecDepth 100000 in
set_option maxHeartbeats 16000000 in
theorem few_any {p : Nat → Prop} {w : World} {asc : Option Addr} {nsc csc : Nat} {sk sa sm sn : Int} {stb snm sj sl sr : ByteArray} {an : Option Addr} {cn : Nat} {Ln : List ByteArray} {ar : Option Addr} {cr : Nat} {Lr : List Val} {ax : Option Addr} {cx : Nat} {Lx : List SetV} {aw : Option Addr} {cw : Nat} {Lw : List Cond} {ao : Option Addr} {co : Nat} {Lo : List ByteArray}
    (hn : Ln.length ≤ cn ∧ RowAt strF p w an Ln) (hr : Lr.length ≤ cr ∧ RowAt valR p w ar Lr) (hx : Lx.length ≤ cx ∧ RowAt setR p w ax Lx) (hw : Lw.length ≤ cw ∧ RowAt condR p w aw Lw) (ho : Lo.length ≤ co ∧ RowAt strF p w ao Lo) :
    Calls Tryz.prog 15 #[.agg #[.int .i64 sk, .string stb, .string snm, .slice asc nsc csc, .slice an Ln.length cn, .slice ar Lr.length cr, .slice ax Lx.length cx, .slice aw Lw.length cw, .string sj, .string sl, .string sr, .int .i64 sa, .slice ao Lo.length co, .int .i64 sm, .int .i64 sn]] w fun e w' => (∃ vn vr vx vw vo, e = .returned (.agg #[.int .i64 sk, .string stb, .string snm, .slice asc nsc csc, vn, vr, vx, vw, .string sj, .string sl, .string sr, .int .i64 sa, vo, .int .i64 sm, .int .i64 sn]) ∧ NewSl vn ∧ NewSl vr ∧ NewSl vx ∧ NewSl vw ∧ NewSl vo) ∧ Below w.heap.size w w' := by
  obtain ⟨Pst, hPst⟩ : ∃ Pst, Pst = fun (e : Ending) (w' : World) => (∃ vn vr vx vw vo, e = .returned (.agg #[.int .i64 sk, .string stb, .string snm, .slice asc nsc csc, vn, vr, vx, vw, .string sj, .string sl, .string sr, .int .i64 sa, vo, .int .i64 sm, .int .i64 sn]) ∧ NewSl vn ∧ NewSl vr ∧ NewSl vx ∧ NewSl vw ∧ NewSl vo) ∧ Below w.heap.size w w' := ⟨_, rfl⟩
  have HPST := Lib.hid hPst
  rw [← hPst]
  obtain ⟨b, hb⟩ : ∃ b, b = w.heap.size := ⟨_, rfl⟩
  obtain ⟨q, hq⟩ : ∃ q, q = w.heap.size + 1 := ⟨_, rfl⟩
  obtain ⟨W0, hW0⟩ : ∃ W, (w.alloc (.cells #[.int .i64 sk, .string stb, .string snm, .slice asc nsc csc, .slice an Ln.length cn, .slice ar Lr.length cr, .slice ax Lx.length cx, .slice aw Lw.length cw, .string sj, .string sl, .string sr, .int .i64 sa, .slice ao Lo.length co, .int .i64 sm, .int .i64 sn] 34)).alloc (.cells #[.int .i64 0, .string ⟨#[]⟩, .string ⟨#[]⟩, .slice none 0 0, .slice none 0 0, .slice none 0 0, .slice none 0 0, .slice none 0 0, .string ⟨#[]⟩, .string ⟨#[]⟩, .string ⟨#[]⟩, .int .i64 0, .slice none 0 0, .int .i64 0, .int .i64 0] 34) = W := ⟨_, rfl⟩
  have hA : W0.heap[b]? = some (.cells #[.int .i64 sk, .string stb, .string snm, .slice asc nsc csc, .slice an Ln.length cn, .slice ar Lr.length cr, .slice ax Lx.length cx, .slice aw Lw.length cw, .string sj, .string sl, .string sr, .int .i64 sa, .slice ao Lo.length co, .int .i64 sm, .int .i64 sn] 34 (0, 0)) := by rw [← hW0, hb]; exact (heap_alloc_old _ _ (by simp)).trans (heap_alloc_new _ _)
  have hR : W0.heap[q]? = some (.cells #[.int .i64 0, .string ⟨#[]⟩, .string ⟨#[]⟩, .slice none 0 0, .slice none 0 0, .slice none 0 0, .slice none 0 0, .slice none 0 0, .string ⟨#[]⟩, .string ⟨#[]⟩, .string ⟨#[]⟩, .int .i64 0, .slice none 0 0, .int .i64 0, .int .i64 0] 34 (0, 0)) := by
    rw [← hW0, hq]
    rw [show w.heap.size + 1 = (w.alloc (.cells #[.int .i64 sk, .string stb, .string snm, .slice asc nsc csc, .slice an Ln.length cn, .slice ar Lr.length cr, .slice ax Lx.length cx, .slice aw Lw.length cw, .string sj, .string sl, .string sr, .int .i64 sa, .slice ao Lo.length co, .int .i64 sm, .int .i64 sn] 34)).heap.size by simp]
    exact heap_alloc_new _ _
  have s0 : W0.heap.size = w.heap.size + 2 := by rw [← hW0]; simp
  have b0 : Below w.heap.size w W0 := by rw [← hW0]; exact ((Below.refl _ _).alloc (Nat.le_refl _) _).alloc (by simp) _
  have HR := Lib.hid hR
  have B0 := Lib.hid b0
  have Hn := Lib.hid (show Ln.length ≤ cn ∧ RowAt strF (fun k => k < w.heap.size) W0 an Ln from ⟨hn.1, (hn.2.bound.weaken fun k hk => hk.2).keep fun k hk _ => b0.block k hk⟩)
  have Hr := Lib.hid (show Lr.length ≤ cr ∧ RowAt valR (fun k => k < w.heap.size) W0 ar Lr from ⟨hr.1, (hr.2.bound.weaken fun k hk => hk.2).keep fun k hk _ => b0.block k hk⟩)
  have Hx := Lib.hid (show Lx.length ≤ cx ∧ RowAt setR (fun k => k < w.heap.size) W0 ax Lx from ⟨hx.1, (hx.2.bound.weaken fun k hk => hk.2).keep fun k hk _ => b0.block k hk⟩)
  have Hw := Lib.hid (show Lw.length ≤ cw ∧ RowAt condR (fun k => k < w.heap.size) W0 aw Lw from ⟨hw.1, (hw.2.bound.weaken fun k hk => hk.2).keep fun k hk _ => b0.block k hk⟩)
  have Ho := Lib.hid (show Lo.length ≤ co ∧ RowAt strF (fun k => k < w.heap.size) W0 ao Lo from ⟨ho.1, (ho.2.bound.weaken fun k hk => hk.2).keep fun k hk _ => b0.block k hk⟩)
  have Q0 := Lib.hid (show FX b W0 #[.int .i64 sk, .string stb, .string snm, .slice asc nsc csc, .slice an Ln.length cn, .slice ar Lr.length cr, .slice ax Lx.length cx, .slice aw Lw.length cw, .string sj, .string sl, .string sr, .int .i64 sa, .slice ao Lo.length co, .int .i64 sm, .int .i64 sn] W0 from ⟨hA, grownBy_refl _ _⟩)
  have hbq : b + 1 = q := by omega
  have hqw : q < W0.heap.size := by omega
  have HB := Lib.hid (And.intro hb hq)
  have S0 := Lib.hid s0
  clear hPst hA hR b0 hn hr hx hw ho
  go_enter Tryz.func15, Tryz.ntmps15
  go_upto_region 1 with (fail)
  rw [← hq, ← hb]
  clear hW0 hb hq s0
  obtain ⟨i0, hi0, hz00, hz01, hz02⟩ := info_parts (show (Tryz.prog.info? 9).map (fun i => (i.zero, i.size, i.bytes)) = some (some (.string ByteArray.empty), 1, 16) by kernel_rfl)
  have hg0 := Q0.out.g.size
  have za := cells_of Q0.out.box 4
  simp only [List.getElem?_toArray, List.getElem?_cons_zero, List.getElem?_cons_succ] at za
  have zb := (World.block_lt_of_cell? _ _ za)
  obtain ⟨U0, hU0⟩ : ∃ W, W0.alloc (.cells #[] 9) = W := ⟨_, rfl⟩
  have bu : Below W0.heap.size W0 U0 := by rw [← hU0]; exact (Below.refl _ _).alloc (Nat.le_refl _) _
  have ou := Lib.hid (show U0.ownsRow W0.heap.size 9 1 (.slice (some ⟨W0.heap.size, 0, none⟩) 0 0) 0 [] from owns_mt7 1 (Nat.le_refl _) (by rw [← hU0]; exact heap_alloc_new _ _))
  have QU := Lib.hid (Q0.out.below bu)
  have zu := (bu.cell (p := ⟨b, 4, none⟩) zb).trans za
  have hv : RowAt strF (fun k => k < w.heap.size) U0 an Ln := Hn.out.2.keep fun k hk hlt => QU.out.g.block k hlt (fun e => by have := HB.out.1; simp at e; omega)
  have hrow := Lib.hid (row_take hv 8)
  have hcap := Hn.out.1
  have hmin := min_len8 Ln
  have htl : (Ln.take 8).length ≤ 8 := by rw [List.length_take]; exact Nat.min_le_left _ _
  have htc : (Ln.take 8).length ≤ cn := by rw [List.length_take]; omega
  obtain ⟨Z0, hZ0⟩ : ∃ Z, Z = Ln.take 8 := ⟨_, rfl⟩
  rw [← hZ0] at hrow hmin htl htc
  clear hZ0
  have hsu := bu.size
  have BU := Lib.hid bu
  clear za bu hv
  go_upto_region 2 with (at_builtin; go_loud (refine wpList_append_flat_at rfl _ _ 28 rfl W0.heap.size 9 i0 _ 1 16 Tryz.underlying28 hi0 hz00 hz01 hz02 rfl (by decide) (.slice (some ⟨W0.heap.size, 0, none⟩) 0 0) 0 [] rfl ou.out (hl := fun _ => rfl) Z0 _ _ rfl hrow.out (str_cells _) (by unfold maxLen; omega) (by omega) hsu ?_; intro v' w5 o5 g5 at5; clear at5; rw [Nat.zero_add, List.nil_append] at o5; obtain ⟨va0, vn0, vc0, rfl, nw0⟩ := new_shape o5; have R5 := Lib.hid (Q0.out.below (BU.out.trans ((Below.refl W0.heap.size U0).grown g5 hsu (fun q e => (ou.out.lt q e).1)))); have f5 := free_of R5.out.box 4; have z5 := cells_of R5.out.box 4; simp only [List.getElem?_toArray, List.getElem?_cons_zero, List.getElem?_cons_succ] at z5; clear o5 g5))
  obtain ⟨V1, hV1⟩ : ∃ W, w5.setCell ⟨b, 4, none⟩ (.slice va0 vn0 vc0) = W := ⟨_, rfl⟩
  rw [hV1]
  have NW0 := Lib.hid nw0
  have Q1 := Lib.hid (show FX b W0 #[.int .i64 sk, .string stb, .string snm, .slice asc nsc csc, .slice va0 vn0 vc0, .slice ar Lr.length cr, .slice ax Lx.length cx, .slice aw Lw.length cw, .string sj, .string sl, .string sr, .int .i64 sa, .slice ao Lo.length co, .int .i64 sm, .int .i64 sn] V1 by
    rw [← hV1]
    exact R5.out.put 4 _)
  clear R5 BU f5 z5 zu zb ou QU hrow hmin htl htc hsu hcap hV1 hU0 nw0
  obtain ⟨i1, hi1, hz10, hz11, hz12⟩ := info_parts (show (Tryz.prog.info? 101).map (fun i => (i.zero, i.size, i.bytes)) = some (some (.agg #[.int .i64 0, .int .i64 0, .string ByteArray.empty]), 3, 32) by kernel_rfl)
  have hg1 := Q1.out.g.size
  have za := cells_of Q1.out.box 5
  simp only [List.getElem?_toArray, List.getElem?_cons_zero, List.getElem?_cons_succ] at za
  have zb := (World.block_lt_of_cell? _ _ za)
  obtain ⟨U1, hU1⟩ : ∃ W, V1.alloc (.cells #[] 101) = W := ⟨_, rfl⟩
  have bu : Below V1.heap.size V1 U1 := by rw [← hU1]; exact (Below.refl _ _).alloc (Nat.le_refl _) _
  have ou := Lib.hid (show U1.ownsRow V1.heap.size 101 3 (.slice (some ⟨V1.heap.size, 0, none⟩) 0 0) 0 [] from owns_mt7 3 (Nat.le_refl _) (by rw [← hU1]; exact heap_alloc_new _ _))
  have QU := Lib.hid (Q1.out.below bu)
  have zu := (bu.cell (p := ⟨b, 5, none⟩) zb).trans za
  have hv : RowAt valR (fun k => k < w.heap.size) U1 ar Lr := Hr.out.2.keep fun k hk hlt => QU.out.g.block k hlt (fun e => by have := HB.out.1; simp at e; omega)
  have hrow := Lib.hid (row_take hv 8)
  have hcap := Hr.out.1
  have hmin := min_len8 Lr
  have htl : (Lr.take 8).length ≤ 8 := by rw [List.length_take]; exact Nat.min_le_left _ _
  have htc : (Lr.take 8).length ≤ cr := by rw [List.length_take]; omega
  obtain ⟨Z1, hZ1⟩ : ∃ Z, Z = Lr.take 8 := ⟨_, rfl⟩
  rw [← hZ1] at hrow hmin htl htc
  clear hZ1
  have hsu := bu.size
  have BU := Lib.hid bu
  clear za bu hv
  go_upto_region 3 with (at_builtin; go_loud (refine wpList_append_flat_at rfl _ _ 30 rfl V1.heap.size 101 i1 _ 3 32 Tryz.underlying30 hi1 hz10 hz11 hz12 rfl (by decide) (.slice (some ⟨V1.heap.size, 0, none⟩) 0 0) 0 [] rfl ou.out (hl := fun _ => rfl) Z1 _ _ rfl hrow.out (valL_cells _) (by unfold maxLen; omega) (by omega) hsu ?_; intro v' w5 o5 g5 at5; clear at5; rw [Nat.zero_add, List.nil_append] at o5; obtain ⟨va1, vn1, vc1, rfl, nw1⟩ := new_shape o5; have R5 := Lib.hid (Q1.out.below (BU.out.trans ((Below.refl V1.heap.size U1).grown g5 hsu (fun q e => (ou.out.lt q e).1)))); have f5 := free_of R5.out.box 5; have z5 := cells_of R5.out.box 5; simp only [List.getElem?_toArray, List.getElem?_cons_zero, List.getElem?_cons_succ] at z5; clear o5 g5))
  obtain ⟨V2, hV2⟩ : ∃ W, w5.setCell ⟨b, 5, none⟩ (.slice va1 vn1 vc1) = W := ⟨_, rfl⟩
  rw [hV2]
  have NW1 := Lib.hid nw1
  have Q2 := Lib.hid (show FX b W0 #[.int .i64 sk, .string stb, .string snm, .slice asc nsc csc, .slice va0 vn0 vc0, .slice va1 vn1 vc1, .slice ax Lx.length cx, .slice aw Lw.length cw, .string sj, .string sl, .string sr, .int .i64 sa, .slice ao Lo.length co, .int .i64 sm, .int .i64 sn] V2 by
    rw [← hV2]
    exact R5.out.put 5 _)
  clear R5 BU f5 z5 zu zb ou QU hrow hmin htl htc hsu hcap hV2 hU1 nw1
  obtain ⟨i2, hi2, hz20, hz21, hz22⟩ := info_parts (show (Tryz.prog.info? 152).map (fun i => (i.zero, i.size, i.bytes)) = some (some (.agg #[.string ByteArray.empty, .string ByteArray.empty, .int .i64 0, .int .i64 0, .string ByteArray.empty]), 5, 64) by kernel_rfl)
  have hg2 := Q2.out.g.size
  have za := cells_of Q2.out.box 6
  simp only [List.getElem?_toArray, List.getElem?_cons_zero, List.getElem?_cons_succ] at za
  have zb := (World.block_lt_of_cell? _ _ za)
  obtain ⟨U2, hU2⟩ : ∃ W, V2.alloc (.cells #[] 152) = W := ⟨_, rfl⟩
  have bu : Below V2.heap.size V2 U2 := by rw [← hU2]; exact (Below.refl _ _).alloc (Nat.le_refl _) _
  have ou := Lib.hid (show U2.ownsRow V2.heap.size 152 5 (.slice (some ⟨V2.heap.size, 0, none⟩) 0 0) 0 [] from owns_mt7 5 (Nat.le_refl _) (by rw [← hU2]; exact heap_alloc_new _ _))
  have QU := Lib.hid (Q2.out.below bu)
  have zu := (bu.cell (p := ⟨b, 6, none⟩) zb).trans za
  have hv : RowAt setR (fun k => k < w.heap.size) U2 ax Lx := Hx.out.2.keep fun k hk hlt => QU.out.g.block k hlt (fun e => by have := HB.out.1; simp at e; omega)
  have hrow := Lib.hid (row_take hv 8)
  have hcap := Hx.out.1
  have hmin := min_len8 Lx
  have htl : (Lx.take 8).length ≤ 8 := by rw [List.length_take]; exact Nat.min_le_left _ _
  have htc : (Lx.take 8).length ≤ cx := by rw [List.length_take]; omega
  obtain ⟨Z2, hZ2⟩ : ∃ Z, Z = Lx.take 8 := ⟨_, rfl⟩
  rw [← hZ2] at hrow hmin htl htc
  clear hZ2
  have hsu := bu.size
  have BU := Lib.hid bu
  clear za bu hv
  go_upto_region 4 with (at_builtin; go_loud (refine wpList_append_flat_at rfl _ _ 31 rfl V2.heap.size 152 i2 _ 5 64 Tryz.underlying31 hi2 hz20 hz21 hz22 rfl (by decide) (.slice (some ⟨V2.heap.size, 0, none⟩) 0 0) 0 [] rfl ou.out (hl := fun _ => rfl) Z2 _ _ rfl hrow.out (setL_cells _) (by unfold maxLen; omega) (by omega) hsu ?_; intro v' w5 o5 g5 at5; clear at5; rw [Nat.zero_add, List.nil_append] at o5; obtain ⟨va2, vn2, vc2, rfl, nw2⟩ := new_shape o5; have R5 := Lib.hid (Q2.out.below (BU.out.trans ((Below.refl V2.heap.size U2).grown g5 hsu (fun q e => (ou.out.lt q e).1)))); have f5 := free_of R5.out.box 6; have z5 := cells_of R5.out.box 6; simp only [List.getElem?_toArray, List.getElem?_cons_zero, List.getElem?_cons_succ] at z5; clear o5 g5))
  obtain ⟨V3, hV3⟩ : ∃ W, w5.setCell ⟨b, 6, none⟩ (.slice va2 vn2 vc2) = W := ⟨_, rfl⟩
  rw [hV3]
  have NW2 := Lib.hid nw2
  have Q3 := Lib.hid (show FX b W0 #[.int .i64 sk, .string stb, .string snm, .slice asc nsc csc, .slice va0 vn0 vc0, .slice va1 vn1 vc1, .slice va2 vn2 vc2, .slice aw Lw.length cw, .string sj, .string sl, .string sr, .int .i64 sa, .slice ao Lo.length co, .int .i64 sm, .int .i64 sn] V3 by
    rw [← hV3]
    exact R5.out.put 6 _)
  clear R5 BU f5 z5 zu zb ou QU hrow hmin htl htc hsu hcap hV3 hU2 nw2
  obtain ⟨i3, hi3, hz30, hz31, hz32⟩ := info_parts (show (Tryz.prog.info? 103).map (fun i => (i.zero, i.size, i.bytes)) = some (some (.agg #[.string ByteArray.empty, .int .i64 0, .int .i64 0, .int .i64 0, .string ByteArray.empty]), 5, 56) by kernel_rfl)
  have hg3 := Q3.out.g.size
  have za := cells_of Q3.out.box 7
  simp only [List.getElem?_toArray, List.getElem?_cons_zero, List.getElem?_cons_succ] at za
  have zb := (World.block_lt_of_cell? _ _ za)
  obtain ⟨U3, hU3⟩ : ∃ W, V3.alloc (.cells #[] 103) = W := ⟨_, rfl⟩
  have bu : Below V3.heap.size V3 U3 := by rw [← hU3]; exact (Below.refl _ _).alloc (Nat.le_refl _) _
  have ou := Lib.hid (show U3.ownsRow V3.heap.size 103 5 (.slice (some ⟨V3.heap.size, 0, none⟩) 0 0) 0 [] from owns_mt7 5 (Nat.le_refl _) (by rw [← hU3]; exact heap_alloc_new _ _))
  have QU := Lib.hid (Q3.out.below bu)
  have zu := (bu.cell (p := ⟨b, 7, none⟩) zb).trans za
  have hv : RowAt condR (fun k => k < w.heap.size) U3 aw Lw := Hw.out.2.keep fun k hk hlt => QU.out.g.block k hlt (fun e => by have := HB.out.1; simp at e; omega)
  have hrow := Lib.hid (row_take hv 8)
  have hcap := Hw.out.1
  have hmin := min_len8 Lw
  have htl : (Lw.take 8).length ≤ 8 := by rw [List.length_take]; exact Nat.min_le_left _ _
  have htc : (Lw.take 8).length ≤ cw := by rw [List.length_take]; omega
  obtain ⟨Z3, hZ3⟩ : ∃ Z, Z = Lw.take 8 := ⟨_, rfl⟩
  rw [← hZ3] at hrow hmin htl htc
  clear hZ3
  have hsu := bu.size
  have BU := Lib.hid bu
  clear za bu hv
  go_upto_region 5 with (at_builtin; go_loud (refine wpList_append_flat_at rfl _ _ 32 rfl V3.heap.size 103 i3 _ 5 56 Tryz.underlying32 hi3 hz30 hz31 hz32 rfl (by decide) (.slice (some ⟨V3.heap.size, 0, none⟩) 0 0) 0 [] rfl ou.out (hl := fun _ => rfl) Z3 _ _ rfl hrow.out (condL_cells _) (by unfold maxLen; omega) (by omega) hsu ?_; intro v' w5 o5 g5 at5; clear at5; rw [Nat.zero_add, List.nil_append] at o5; obtain ⟨va3, vn3, vc3, rfl, nw3⟩ := new_shape o5; have R5 := Lib.hid (Q3.out.below (BU.out.trans ((Below.refl V3.heap.size U3).grown g5 hsu (fun q e => (ou.out.lt q e).1)))); have f5 := free_of R5.out.box 7; have z5 := cells_of R5.out.box 7; simp only [List.getElem?_toArray, List.getElem?_cons_zero, List.getElem?_cons_succ] at z5; clear o5 g5))
  obtain ⟨V4, hV4⟩ : ∃ W, w5.setCell ⟨b, 7, none⟩ (.slice va3 vn3 vc3) = W := ⟨_, rfl⟩
  rw [hV4]
  have NW3 := Lib.hid nw3
  have Q4 := Lib.hid (show FX b W0 #[.int .i64 sk, .string stb, .string snm, .slice asc nsc csc, .slice va0 vn0 vc0, .slice va1 vn1 vc1, .slice va2 vn2 vc2, .slice va3 vn3 vc3, .string sj, .string sl, .string sr, .int .i64 sa, .slice ao Lo.length co, .int .i64 sm, .int .i64 sn] V4 by
    rw [← hV4]
    exact R5.out.put 7 _)
  clear R5 BU f5 z5 zu zb ou QU hrow hmin htl htc hsu hcap hV4 hU3 nw3
  obtain ⟨i4, hi4, hz40, hz41, hz42⟩ := info_parts (show (Tryz.prog.info? 9).map (fun i => (i.zero, i.size, i.bytes)) = some (some (.string ByteArray.empty), 1, 16) by kernel_rfl)
  have hg4 := Q4.out.g.size
  have za := cells_of Q4.out.box 12
  simp only [List.getElem?_toArray, List.getElem?_cons_zero, List.getElem?_cons_succ] at za
  have zb := (World.block_lt_of_cell? _ _ za)
  obtain ⟨U4, hU4⟩ : ∃ W, V4.alloc (.cells #[] 9) = W := ⟨_, rfl⟩
  have bu : Below V4.heap.size V4 U4 := by rw [← hU4]; exact (Below.refl _ _).alloc (Nat.le_refl _) _
  have ou := Lib.hid (show U4.ownsRow V4.heap.size 9 1 (.slice (some ⟨V4.heap.size, 0, none⟩) 0 0) 0 [] from owns_mt7 1 (Nat.le_refl _) (by rw [← hU4]; exact heap_alloc_new _ _))
  have QU := Lib.hid (Q4.out.below bu)
  have zu := (bu.cell (p := ⟨b, 12, none⟩) zb).trans za
  have hv : RowAt strF (fun k => k < w.heap.size) U4 ao Lo := Ho.out.2.keep fun k hk hlt => QU.out.g.block k hlt (fun e => by have := HB.out.1; simp at e; omega)
  have hrow := Lib.hid (row_take hv 8)
  have hcap := Ho.out.1
  have hmin := min_len8 Lo
  have htl : (Lo.take 8).length ≤ 8 := by rw [List.length_take]; exact Nat.min_le_left _ _
  have htc : (Lo.take 8).length ≤ co := by rw [List.length_take]; omega
  obtain ⟨Z4, hZ4⟩ : ∃ Z, Z = Lo.take 8 := ⟨_, rfl⟩
  rw [← hZ4] at hrow hmin htl htc
  clear hZ4
  have hsu := bu.size
  have BU := Lib.hid bu
  clear za bu hv
  go_upto_region 6 with (at_builtin; go_loud (refine wpList_append_flat_at rfl _ _ 28 rfl V4.heap.size 9 i4 _ 1 16 Tryz.underlying28 hi4 hz40 hz41 hz42 rfl (by decide) (.slice (some ⟨V4.heap.size, 0, none⟩) 0 0) 0 [] rfl ou.out (hl := fun _ => rfl) Z4 _ _ rfl hrow.out (str_cells _) (by unfold maxLen; omega) (by omega) hsu ?_; intro v' w5 o5 g5 at5; clear at5; rw [Nat.zero_add, List.nil_append] at o5; obtain ⟨va4, vn4, vc4, rfl, nw4⟩ := new_shape o5; have R5 := Lib.hid (Q4.out.below (BU.out.trans ((Below.refl V4.heap.size U4).grown g5 hsu (fun q e => (ou.out.lt q e).1)))); have f5 := free_of R5.out.box 12; have z5 := cells_of R5.out.box 12; simp only [List.getElem?_toArray, List.getElem?_cons_zero, List.getElem?_cons_succ] at z5; clear o5 g5))
  obtain ⟨V5, hV5⟩ : ∃ W, w5.setCell ⟨b, 12, none⟩ (.slice va4 vn4 vc4) = W := ⟨_, rfl⟩
  rw [hV5]
  have NW4 := Lib.hid nw4
  have Q5 := Lib.hid (show FX b W0 #[.int .i64 sk, .string stb, .string snm, .slice asc nsc csc, .slice va0 vn0 vc0, .slice va1 vn1 vc1, .slice va2 vn2 vc2, .slice va3 vn3 vc3, .string sj, .string sl, .string sr, .int .i64 sa, .slice va4 vn4 vc4, .int .i64 sm, .int .i64 sn] V5 by
    rw [← hV5]
    exact R5.out.put 12 _)
  clear R5 BU f5 z5 zu zb ou QU hrow hmin htl htc hsu hcap hV5 hU4 nw4
  have HRc := Lib.hid ((Q5.out.g.block q hqw (fun e => by simp at e; omega)).trans HR.out)
  have HB9 := Lib.hid Q5.out.box
  have hs9 := Q5.out.g.size
  have y0 := cells_of HB9.out 0
  have k0 := cells_of HRc.out 0
  have f0 := free_of HRc.out 0
  have y1 := cells_of HB9.out 1
  have k1 := cells_of HRc.out 1
  have f1 := free_of HRc.out 1
  have y2 := cells_of HB9.out 2
  have k2 := cells_of HRc.out 2
  have f2 := free_of HRc.out 2
  have y3 := cells_of HB9.out 3
  have k3 := cells_of HRc.out 3
  have f3 := free_of HRc.out 3
  have y4 := cells_of HB9.out 4
  have k4 := cells_of HRc.out 4
  have f4 := free_of HRc.out 4
  have y5 := cells_of HB9.out 5
  have k5 := cells_of HRc.out 5
  have f5 := free_of HRc.out 5
  have y6 := cells_of HB9.out 6
  have k6 := cells_of HRc.out 6
  have f6 := free_of HRc.out 6
  have y7 := cells_of HB9.out 7
  have k7 := cells_of HRc.out 7
  have f7 := free_of HRc.out 7
  have y8 := cells_of HB9.out 8
  have k8 := cells_of HRc.out 8
  have f8 := free_of HRc.out 8
  have y9 := cells_of HB9.out 9
  have k9 := cells_of HRc.out 9
  have f9 := free_of HRc.out 9
  have y10 := cells_of HB9.out 10
  have k10 := cells_of HRc.out 10
  have f10 := free_of HRc.out 10
  have y11 := cells_of HB9.out 11
  have k11 := cells_of HRc.out 11
  have f11 := free_of HRc.out 11
  have y12 := cells_of HB9.out 12
  have k12 := cells_of HRc.out 12
  have f12 := free_of HRc.out 12
  have y13 := cells_of HB9.out 13
  have k13 := cells_of HRc.out 13
  have f13 := free_of HRc.out 13
  have y14 := cells_of HB9.out 14
  have k14 := cells_of HRc.out 14
  have f14 := free_of HRc.out 14
  simp only [List.getElem?_toArray, List.getElem?_cons_zero, List.getElem?_cons_succ] at y0 k0 y1 k1 y2 k2 y3 k3 y4 k4 y5 k5 y6 k6 y7 k7 y8 k8 y9 k9 y10 k10 y11 k11 y12 k12 y13 k13 y14 k14
  go_wp2_with fail
  have ts9 := st_set HRc.out (.int .i64 sk) (.string stb) (.string snm) (.slice asc nsc csc) (.slice va0 vn0 vc0) (.slice va1 vn1 vc1) (.slice va2 vn2 vc2) (.slice va3 vn3 vc3) (.string sj) (.string sl) (.string sr) (.int .i64 sa) (.slice va4 vn4 vc4) (.int .i64 sm) (.int .i64 sn)
  refine bodyPost_ret (results_cell_row rfl _ _ q 34 _ (0, 0) _ rfl ts9.1 Tryz.underlying34 rfl (by kernel_rfl)) rfl ?_
  rw [HPST.out]
  refine ⟨⟨_, _, _, _, _, rfl, NW0.out, NW1.out, NW2.out, NW3.out, NW4.out⟩, ?_⟩
  have := HB.out
  exact (B0.out.grown Q5.out.g (by have := S0.out; omega) fun q e => by cases e; omega).grown ts9.2 (by have := S0.out; omega) fun q e => by cases e; omega
end Go.Proofs.YtpfjakcfjpgbmaaGreatDoor
