/- vintnerref19.Row: a row that numbers describe. -/
import Derived.Test.YtajlngkakpjncaaDoorRWhere
namespace Go.Proofs.YtajlngkakpjncaaDoor
set_option linter.unusedVariables false
set_option linter.unusedSimpArgs false
open Go.RowKit

def rowOne (kind : Int) (s : List Int) (i : Nat) : Val :=
  if (valOf (takeV s i 4000)).kind = kind then valOf (takeV s i 4000) else
  if (valOf (takeV s i 16 + 24 * (kind - 1))).kind = kind then valOf (takeV s i 16 + 24 * (kind - 1)) else ⟨0, 0, noStr⟩
def rowTo (T : Tab) (s : List Int) (k : Nat) : List Val := (List.range k).map fun i => rowOne (T.cols.getD i default).2 s i
def rowV (T : Tab) (s : List Int) : List Val := rowTo T s T.cols.length
theorem rowTo_succ (T : Tab) (s : List Int) (k : Nat) : rowTo T s (k + 1) = rowTo T s k ++ [rowOne (T.cols.getD k default).2 s k] := by
  unfold rowTo; rw [List.range_succ, List.map_append]; rfl
theorem rowTo_len (T : Tab) (s : List Int) (k : Nat) : (rowTo T s k).length = k := by simp [rowTo]
theorem info_val : (Tryd.prog.info? 41).map (fun i => (i.zero, i.size, i.bytes)) = some (some (.agg #[.int .i64 0, .int .i64 0, .string ⟨#[]⟩]), 3, 32) := by kernel_rfl
theorem val_cells (x : Val) : ∀ u ∈ valEnc x, u.oneCell' = true := by
  intro u hu
  simp [valEnc] at hu
  rcases hu with rfl | rfl | rfl <;> rfl
theorem grown_set (w : World) (b o : Nat) (v : Value) : w.grownBy (w.setCell ⟨b, o, none⟩ v) (some b) := by
  refine ⟨?_, ?_, ?_, by simp, fun k _ hk => Below.heap_setCell w ⟨b, o, none⟩ v k (fun e => hk (congrArg some e))⟩
  all_goals
    unfold World.setCell
    split <;> rfl
/-- the row so far, and the box of the value in the making -/
structure RB (B : Nat) (W0 : World) (v : Value) (n : Nat) (xs : List Value) (bx : Nat) (x : Val) (w : World) : Prop where
  o : OneAt B W0 41 3 v n xs w
  ne : v.ownBlock ≠ some bx
  ge : B ≤ bx
  h : w.heap[bx]? = some (.cells #[.int .i64 x.kind, .int .i64 x.n, .string x.s] 41 (0, 0))
theorem RB.below {B : Nat} {W0 : World} {v : Value} {n : Nat} {xs : List Value} {bx : Nat} {x : Val} {w w' : World} (h : RB B W0 v n xs bx x w) (hb : Below w.heap.size w w') : RB B W0 v n xs bx x w' :=
  ⟨h.o.below hb (Nat.le_trans h.ge (Nat.le_of_lt (lt_of_block h.h))), h.ne, h.ge, (hb.block _ (lt_of_block h.h)).trans h.h⟩
theorem RB.set {B : Nat} {W0 : World} {v : Value} {n : Nat} {xs : List Value} {bx : Nat} {x y : Val} {w : World} (h : RB B W0 v n xs bx x w) :
    RB B W0 v n xs bx y (((w.setCell ⟨bx, 0, none⟩ (.int .i64 y.kind)).setCell ⟨bx, 1, none⟩ (.int .i64 y.n)).setCell ⟨bx, 2, none⟩ (.string y.s)) := by
  have hne : v.ownBlock = none ∨ v.ownBlock ≠ some bx := Or.inr h.ne
  refine ⟨⟨((h.o.m.kept (grown_set _ _ _ _) hne).kept (grown_set _ _ _ _) hne).kept (grown_set _ _ _ _) hne, ((h.o.b.setCell (p := ⟨bx, 0, none⟩) h.ge _).setCell (p := ⟨bx, 1, none⟩) h.ge _).setCell (p := ⟨bx, 2, none⟩) h.ge _⟩, h.ne, h.ge, ?_⟩
  exact block_set (block_set (block_set h.h))

set_option maxRecDepth 100000 in
set_option maxHeartbeats 8000000 in
theorem row_any {p q : Nat → Prop} {tv : Value} {T : Tab} {a : Option Addr} {cap : Nat} {s : List Int} {w : World} (hT : TabV p w tv T) (hs : SlV intR q w (.slice a s.length cap) s) (hk : ∀ c ∈ T.cols, 1 ≤ c.2 ∧ c.2 ≤ 2) (hc : T.cols.length ≤ 1000) :
    Calls Tryd.prog 18 #[tv, .slice a s.length cap] w fun e w' => (∃ v, e = .returned v ∧ ∃ a' c', v = .slice a' (rowV T s).length c' ∧ SlV valR (fun k => w.heap.size ≤ k) w' (.slice a' (rowV T s).length c') (rowV T s)) ∧ Below w.heap.size w w' := by
  obtain ⟨ac, cc, ai, ci, rfl, h1, h2⟩ := hT
  obtain ⟨i0, hi, hz0, hz1, hz2⟩ := info_parts info_val
  obtain ⟨W1, hW1⟩ : ∃ W1, w.alloc (.cells #[.int .i64 T.id, .string T.name, .slice ac T.cols.length cc, .slice ai T.idx.length ci] 30) = W1 := ⟨_, rfl⟩
  have hb1 : Below w.heap.size w W1 := by rw [← hW1]; exact (Below.refl _ _).alloc (Nat.le_refl _) _
  have hbox : W1.heap[w.heap.size]? = some (.cells #[.int .i64 T.id, .string T.name, .slice ac T.cols.length cc, .slice ai T.idx.length ci] 30 (0, 0)) := by rw [← hW1]; exact heap_alloc_new _ _
  have hsz : W1.heap.size = w.heap.size + 1 := by rw [← hW1]; simp
  have HB := Lib.hid hbox
  have HC := Lib.hid (h1.below hb1).row.2.2.2
  have HS := Lib.hid (hs.below hb1)
  have HK := Lib.hid hk
  have B1 := Lib.hid hb1
  have S1 := Lib.hid hsz
  clear h1 h2 hs hk hbox hb1 hsz
  go_enter Tryd.func18, Tryd.ntmps18
  go_upto_region 1 with (fail)
  clear hW1
  go_wp2_with fail
  go_loopw [5, 6] (fun x i wr => ∃ (k : Nat) (v : Value), k ≤ T.cols.length ∧ i = .int .i64 k ∧ v = x ∧ OneAt W1.heap.size W1 41 3 v k ((rowTo T s k).flatMap valEnc) wr) (fun _ i _ => T.cols.length - (intOf i).toNat)
  case atStart => exact ⟨0, _, Nat.zero_le _, rfl, rfl, World.ownsRow_nil _ _ _ _, Below.refl _ _⟩
  case round =>
    obtain ⟨k, v, hk, rfl, rfl, hO⟩ := hrel
    have OW := Lib.hid hO
    have hB := hO.b.size
    have t2 := (hO.b.cell (p := ⟨w.heap.size, 2, none⟩) (by rw [S1.out]; exact Nat.lt_succ_self _)).trans (cells_of HB.out 2)
    simp only [List.getElem?_toArray, List.getElem?_cons_zero, List.getElem?_cons_succ] at t2
    clear hO
    by_cases hlt : k < T.cols.length
    · obtain ⟨bc, oc, rfl, _, hbc⟩ := HC.out.addr (by intro e; rw [e] at hlt; cases hlt)
      have cK := (HC.out.col k hlt).2
      have hkk := HK.out T.cols[k] (List.getElem_mem hlt)
      have HR1 := Lib.hid (show ∀ x, rowOne T.cols[k].2 s k = x → rowTo T s (k + 1) = rowTo T s k ++ [x] from fun x e => by rw [rowTo_succ, List.getD_eq_getElem?_getD, List.getElem?_eq_getElem hlt]; exact congrArg (fun y => rowTo T s k ++ [y]) e)
      obtain ⟨kk, hkk'⟩ : ∃ kk, kk = T.cols[k].2 := ⟨_, rfl⟩
      rw [← hkk'] at cK hkk HR1
      have CK := Lib.hid cK
      obtain ⟨t, ht, ht0, ht1⟩ : ∃ t, takeV s k 4000 = t ∧ 0 ≤ t ∧ t < 4000 := ⟨_, rfl, takeV_bd s _ 4000 (by decide)⟩
      obtain ⟨u, hu, hu0, hu1⟩ : ∃ u, takeV s k 16 = u ∧ 0 ≤ u ∧ u < 16 := ⟨_, rfl, takeV_bd s _ 16 (by decide)⟩
      have HT := Lib.hid ht
      have HU := Lib.hid hu
      clear hkk' cK ht hu
      go_wp2_with fail
      refine (take_any (HS.out.below OW.out.b) k 4000 (by decide) (by decide)).mono ?_
      rintro e w2 ⟨rfl, rfl⟩
      rw [HT.out]
      go_wp2_with fail
      refine (value_any t ⟨by omega, by omega⟩ _).mono ?_
      rintro e w3 ⟨rfl, b3⟩
      obtain ⟨v0, hv0⟩ : ∃ v0, v0 = valOf t := ⟨_, rfl⟩
      rw [← hv0]
      have HV0 := Lib.hid hv0
      have hO3 := OW.out.below b3 hB
      have hlo := b3.size
      clear b3 hv0 t2
      go_upto_region 6 with (fail)
      generalize hW4 : World.alloc _ _ = W4
      have hRB : RB W1.heap.size W1 v k ((rowTo T s k).flatMap valEnc) w3.heap.size v0 W4 := by
        refine ⟨?_, fun e => ?_, Nat.le_trans hB hlo, ?_⟩
        · rw [← hW4]
          exact hO3.below ((Below.refl _ _).alloc (Nat.le_refl _) _) (Nat.le_trans hB hlo)
        · have := (OW.out.m.lt _ e).2
          omega
        · rw [← hW4]
          exact heap_alloc_new _ _
      have R4 := Lib.hid hRB
      have TF := Lib.hid (show ∀ wx, Below W1.heap.size W1 wx → wx.cell? ⟨w.heap.size, 2, none⟩ = some (.slice (some ⟨bc, oc, none⟩) T.cols.length cc) ∧ wx.cell? ⟨bc, oc + k * 2 + 1, none⟩ = some (.int .i64 kk) from fun wx hb =>
        ⟨(hb.cell (p := ⟨w.heap.size, 2, none⟩) (by rw [S1.out]; exact Nat.lt_succ_self _)).trans (cells_of HB.out 2), (hb.cell (p := ⟨bc, oc + k * 2 + 1, none⟩) hbc).trans CK.out⟩)
      obtain ⟨bx, hbx⟩ : ∃ bx, bx = w3.heap.size := ⟨_, rfl⟩
      rw [← hbx] at R4 ⊢
      clear hW4 hRB hO3 hlo hbx
      have e0 := cells_of R4.out.h 0
      simp only [List.getElem?_toArray, List.getElem?_cons_zero] at e0
      obtain ⟨t2, cK⟩ := TF.out _ R4.out.o.b
      go_quiet (fail)
      clear e0 t2 cK
      obtain ⟨v1, hv1⟩ : ∃ v1, v1 = valOf (u + 24 * (kk - 1)) := ⟨_, rfl⟩
      go_upto_if 27 with (fail)
      go_cut [] from 28 to 40 (fun wx => RB W1.heap.size W1 v k ((rowTo T s k).flatMap valEnc) bx (if v0.kind = kk then v0 else v1) wx)
      case first =>
        by_cases hq : v0.kind = kk
        · have q1 : (v0.kind != kk) = false := by simpa using hq
          have R5 := Lib.hid (R4.out.below (below_drewN (Below.refl _ _) nq))
          have HQ := Lib.hid hq
          clear hq
          go_wp2_with fail
          go_meet
          rw [if_pos HQ.out]
          exact R5.out
        · have q1 : (v0.kind != kk) = true := by simpa using hq
          have hR5 := R4.out.below (below_drewN (Below.refl _ _) nq)
          have R5 := Lib.hid hR5
          have HQ := Lib.hid hq
          obtain ⟨W5, hW5⟩ : ∃ W5, W5 = W4.drewN nq := ⟨_, rfl⟩
          rw [← hW5] at R5 ⊢
          have t2 := fun x : Wld (Below W5.heap.size W5) => (TF.out _ (R5.out.o.b.trans (x.good.mono R5.out.o.b.size))).1
          have cK := fun x : Wld (Below W5.heap.size W5) => (TF.out _ (R5.out.o.b.trans (x.good.mono R5.out.o.b.size))).2
          have H5 := Lib.hid (HS.out.below R5.out.o.b)
          have hw1 : IntKind.i64.wrap (24 * (kk - 1)) = 24 * (kk - 1) := by rw [IntKind.wrap_i64]; omega
          have hw2 : IntKind.i64.wrap (u + 24 * (kk - 1)) = u + 24 * (kk - 1) := by rw [IntKind.wrap_i64]; omega
          clear hq hR5 hW5
          go_upto_region 7 with (fail)
          refine wp_region_class_tail 13 (Below W5.heap.size W5) (by kernel_rfl) (by kernel_rfl) (Below.drew (Below.refl _ _)) (fun ne => ?_)
          simp only [List.take_succ_cons, List.take_zero, List.drop_succ_cons, List.drop_zero]
          repeat (go_big_quiet_step (first | ((go_at_call 25; (with_reducible refine Calls.mono (take_any (H5.out.below (Wld.good _)) _ _ (by decide) (by decide)) ?_); rintro e w2 ⟨rfl, rfl⟩; exact ⟨congrArg (fun q => Ending.returned (Value.int .i64 q)) HU.out, class_below _ (Below.refl _ _) (Nat.le_refl _)⟩)) | ((go_at_call 14; (with_reducible refine Calls.mono (value_any (u + 24 * (kk - 1)) ⟨by omega, by omega⟩ _) ?_); rintro e w2 ⟨rfl, b2⟩; exact ⟨rfl, class_below _ b2 (Nat.le_refl _)⟩))))
          refine wpQuiet_nil ?_
          intro w7 b7
          have hR7 := R5.out.below b7
          have e0 := cells_of hR7.h 0
          have e1 := cells_of hR7.h 1
          have e2 := cells_of hR7.h 2
          have f0 := free_of hR7.h 0
          have f1 := free_of hR7.h 1
          have f2 := free_of hR7.h 2
          simp only [List.getElem?_toArray, List.getElem?_cons_zero, List.getElem?_cons_succ] at e0 e1 e2
          have R7 := Lib.hid hR7
          clear hR7 b7 t2 cK
          go_wp2_with fail
          go_meet
          rw [if_neg HQ.out, hv1]
          exact R7.out.set
      case rest =>
        obtain ⟨W8, hW8⟩ : ∃ W8, W8 = wc := ⟨_, rfl⟩
        rw [← hW8] at hcut ⊢
        obtain ⟨x1, hx1⟩ : ∃ x1, x1 = if v0.kind = kk then v0 else v1 := ⟨_, rfl⟩
        rw [← hx1] at hcut
        have hx2 : rowOne kk s k = if x1.kind = kk then x1 else ⟨0, 0, noStr⟩ := by
          unfold rowOne
          rw [HT.out, HU.out, ← HV0.out, ← hv1, hx1]
          by_cases hq : v0.kind = kk
          · rw [if_pos hq, if_pos hq, if_pos hq]
          · rw [if_neg hq, if_neg hq]
        have HX2 := Lib.hid hx2
        have R8 := Lib.hid hcut
        have e0 := cells_of R8.out.h 0
        have e1 := cells_of R8.out.h 1
        have e2 := cells_of R8.out.h 2
        have f0 := free_of R8.out.h 0
        have f1 := free_of R8.out.h 1
        have f2 := free_of R8.out.h 2
        simp only [List.getElem?_toArray, List.getElem?_cons_zero, List.getElem?_cons_succ] at e0 e1 e2
        obtain ⟨t2, cK⟩ := TF.out _ R8.out.o.b
        clear hcut hW8 hx1 hx2 hv1
        go_upto_region 8 with (fail)
        go_quiet (fail)
        go_upto_if 49 with (fail)
        go_cut [] from 50 to 50 (fun wx => RB W1.heap.size W1 v k ((rowTo T s k).flatMap valEnc) bx (if x1.kind = kk then x1 else ⟨0, 0, noStr⟩) wx)
        case first =>
          have R9 := Lib.hid (R8.out.below (below_drewN (Below.refl _ _) nq))
          by_cases hq : x1.kind = kk
          · have q1 : (x1.kind != kk) = false := by simpa using hq
            have HQ := Lib.hid hq
            clear hq
            go_wp2_with fail
            go_meet
            rw [if_pos HQ.out]
            exact R9.out
          · have q1 : (x1.kind != kk) = true := by simpa using hq
            have HQ := Lib.hid hq
            clear hq
            go_wp2_with fail
            go_meet
            rw [if_neg HQ.out]
            exact R9.out.set (y := ⟨0, 0, noStr⟩)
        case rest =>
          obtain ⟨W9, hW9⟩ : ∃ W9, W9 = wc := ⟨_, rfl⟩
          rw [← hW9] at hcut ⊢
          rw [← HX2.out] at hcut
          obtain ⟨x2, hx2⟩ : ∃ x2, x2 = rowOne kk s k := ⟨_, rfl⟩
          rw [← hx2] at hcut
          have HN := Lib.hid (HR1.out x2 hx2.symm)
          have R9 := Lib.hid hcut
          have g0 := cells_of R9.out.h 0
          have g1 := cells_of R9.out.h 1
          have g2 := cells_of R9.out.h 2
          have hs9 := Nat.le_trans R9.out.ge (Nat.le_of_lt (lt_of_block R9.out.h))
          simp only [List.getElem?_toArray, List.getElem?_cons_zero, List.getElem?_cons_succ] at g0 g1 g2
          clear hcut hW9 hx2 e0 e1 e2 f0 f1 f2 t2 cK
          go_wp2_with (at_builtin; go_loud (refine wpList_append_own_at _ rfl _ _ 47 rfl W1.heap.size 41 i0 _ 3 32 Tryd.underlying47 hi hz0 hz1 hz2 rfl (by decide) v k _ rfl (R9.out.o.m.alloc _) ⟨W9.heap.size, 0, none⟩ 1 1 (valEnc x2) rfl rfl (fun j u hj => by rw [addr_add, cells_of (heap_alloc_new _ _)]; simpa [valEnc] using hj) (val_cells _) (by unfold maxLen; omega) (by omega) (by simp; omega) ?_; intro v' w3' o1 h1' hx1' at1; clear hx1'; have N3 := Lib.hid ((R9.out.o.below ((Below.refl _ _).alloc (Nat.le_refl _) _) hs9).push (by simp; omega) o1 h1'); clear o1 h1' at1))
          go_roundw
          case rel => exact ⟨k + 1, _, by omega, by go_num, rfl, by rw [HN.out, List.flatMap_append]; simpa using N3.out⟩
          case measure => simp [intOf]; omega
    · have hk2 : k = T.cols.length := by omega
      have hO := OW.out
      have e0 : rowV T s = rowTo T s k := by unfold rowV; rw [← hk2]
      rw [show k = (rowTo T s k).length from (rowTo_len T s k).symm] at hO
      obtain ⟨a', c', hv, h1, h2, _⟩ := RowAt.of_owns_flat (enc := valEnc) (sz := 3) (hl := fun _ => rfl) (p := fun k => W1.heap.size ≤ k) (L := rowTo T s k) (by simpa [rowTo_len] using hO.m) (fun k h => h)
      have HV := Lib.hid hv
      have HRow := Lib.hid (show SlV valR (fun k => w.heap.size ≤ k) wr (.slice a' (rowV T s).length c') (rowV T s) from by rw [e0]; exact ⟨a', c', rfl, h1, by rw [rowTo_len]; omega, h2.weaken fun k hk => by have := S1.out; omega⟩)
      have E0 := Lib.hid e0
      have HBW := Lib.hid (B1.out.trans (OW.out.b.mono B1.out.size))
      have q1 : ¬ ((k : Int) < (T.cols.length : Int)) := by omega
      clear hO hv h1 h2 e0 hk2
      go_wp2_with fail
      go_ret
      exact ⟨⟨_, rfl, a', c', by rw [HV.out, E0.out]; rfl, HRow.out⟩, HBW.out⟩
end Go.Proofs.YtajlngkakpjncaaDoor
