/- vintnerref19.Where: conditions that numbers describe. vintnerref19.Row: a row that numbers describe. vintnerref19.Table: a table that numbers describe. -/
import Derived.Test.YtajlngkakpjncaaDoorZP24
import Derived.Test.YtajlngkakpjncaaDoorZP29
import Derived.Test.YtajlngkakpjncaaDoorZP5
import Derived.Test.YtajlngkakpjncaaDoorZP31
namespace Go.Proofs.YtajlngkakpjncaaDoor
set_option linter.unusedVariables false
set_option linter.unusedSimpArgs false
open Go.RowKit

/-- a row of the call's own -/
structure OneAt (B : Nat) (W0 : World) (e : TypeId) (sz : Nat) (v : Value) (n : Nat) (xs : List Value) (w : World) : Prop where
  m : w.ownsRow B e sz v n xs
  b : Below B W0 w
theorem OneAt.below {B : Nat} {W0 : World} {e : TypeId} {sz : Nat} {v : Value} {n : Nat} {xs : List Value} {w w' : World} (h : OneAt B W0 e sz v n xs w) (hb : Below w.heap.size w w') (hB : B ≤ w.heap.size) : OneAt B W0 e sz v n xs w' :=
  ⟨owns_below h.m hb, h.b.trans (hb.mono hB)⟩
theorem OneAt.push {B : Nat} {W0 : World} {e : TypeId} {sz : Nat} {v v' : Value} {n : Nat} {xs ys : List Value} {w w1 : World} (h : OneAt B W0 e sz v n xs w) (hB : B ≤ w.heap.size) (ho : w1.ownsRow B e sz v' (n + 1) ys) (hg : w.grownBy w1 v.ownBlock) : OneAt B W0 e sz v' (n + 1) ys w1 :=
  ⟨ho, h.b.grown hg hB (fun k hk => (h.m.lt k hk).1)⟩

def wherOne (s : List Int) (i : Nat) : Cond := ⟨oneS (97 + takeV s (3 * i) 8), 1 + takeV s (3 * i + 1) 6, valOf (s.getD (3 * i + 2) 0)⟩
def wherTo (s : List Int) (k : Nat) : List Cond := (List.range k).map (wherOne s)
def wherV (s : List Int) : List Cond := wherTo s (min (s.length / 3) 6)
theorem wherTo_succ (s : List Int) (k : Nat) : wherTo s (k + 1) = wherTo s k ++ [wherOne s k] := by
  unfold wherTo; rw [List.range_succ, List.map_append]; rfl
theorem wherTo_len (s : List Int) (k : Nat) : (wherTo s k).length = k := by simp [wherTo]

/-- a new row of one condition -/
def NewCond (W : World) (c : Cond) (u : Value) (w' : World) : Prop := ∃ b, u = .slice (some ⟨b, 0, none⟩) 1 1 ∧ w'.heap[b]? = some (.cells (condEnc c).toArray 44 (0, 0)) ∧ Below W.heap.size W w'
def NewByte (W : World) (z : Int) (u : Value) (w' : World) : Prop := ∃ b, u = .slice (some ⟨b, 0, none⟩) 1 1 ∧ W.heap.size ≤ b ∧ w'.heap[b]? = some (.cells #[.int .u8 z] 5 (0, 0)) ∧ Below W.heap.size W w'
theorem NewCond.below {W : World} {c : Cond} {u : Value} {w w' : World} (h : NewCond W c u w) (hb : Below w.heap.size w w') : NewCond W c u w' := by
  obtain ⟨b, rfl, h1, h2⟩ := h
  exact ⟨b, rfl, (hb.block _ (lt_of_block h1)).trans h1, h2.trans (hb.mono h2.size)⟩
theorem NewByte.below {W : World} {z : Int} {u : Value} {w w' : World} (h : NewByte W z u w) (hb : Below w.heap.size w w') : NewByte W z u w' := by
  obtain ⟨b, rfl, h0, h1, h2⟩ := h
  exact ⟨b, rfl, h0, (hb.block _ (lt_of_block h1)).trans h1, h2.trans (hb.mono h2.size)⟩
theorem back_at {w : World} {b : Nat} {z : Int} (h0 : 0 ≤ z) (h1 : z ≤ 255) (h : w.heap[b]? = some (.cells #[.int .u8 z] 5 (0, 0))) : (convert 82 9 (.slice (some ⟨b, 0, none⟩) 1 1)).run Tryd.prog w = .ok (.string (oneS z)) w := by
  have hz : ((UInt8.ofNat z.toNat).toNat : Int) = z := by
    rw [UInt8.toNat_ofNat']
    omega
  exact run_convert_bytes_back w 82 9 5 ⟨b, 0, none⟩ 1 [UInt8.ofNat z.toNat] Tryd.underlying82 Tryd.underlying5 Tryd.underlying9 (fun j hj => by
    have hj0 : j = 0 := by simpa using hj
    subst hj0
    rw [addr_zero, cells_of h]
    simp
    omega)

set_option maxRecDepth 100000 in
set_option maxHeartbeats 8000000 in
theorem where_any {p : Nat → Prop} {a : Option Addr} {cap : Nat} {s : List Int} {w : World} (hs : SlV intR p w (.slice a s.length cap) s) (hf : ∀ x ∈ s, -9223372036854775808 ≤ x ∧ x ≤ 9223372036854775807) :
    Calls Tryd.prog 16 #[.slice a s.length cap] w fun e w' => (∃ v, e = .returned v ∧ ∃ a' c', v = .slice a' (wherV s).length c' ∧ SlV condR (fun k => w.heap.size ≤ k) w' (.slice a' (wherV s).length c') (wherV s)) ∧ Below w.heap.size w w' := by
  obtain ⟨_, _, hL, hr⟩ := hs.row
  obtain ⟨i0, hi, hz0, hz1, hz2⟩ := info_parts info_cond
  have HS := Lib.hid hs
  have HR := Lib.hid hr
  have HF := Lib.hid hf
  clear hs hr hf
  go_enter Tryd.func16, Tryd.ntmps16
  go_wp2_with fail
  go_loopw [3, 4] (fun x i wr => ∃ (k : Nat) (v : Value), k ≤ min (s.length / 3) 6 ∧ i = .int .i64 ((3 * k : Nat) : Int) ∧ v = x ∧ OneAt w.heap.size w 44 5 v k ((wherTo s k).flatMap condEnc) wr) (fun _ i _ => 18 - (intOf i).toNat)
  case atStart => exact ⟨0, _, Nat.zero_le _, rfl, rfl, World.ownsRow_nil _ _ _ _, Below.refl _ _⟩
  case round =>
    obtain ⟨k, v, hk, rfl, rfl, hO⟩ := hrel
    have hk6 : k ≤ 6 := by omega
    have hk3 : 3 * k ≤ s.length := by omega
    have OW := Lib.hid hO
    have hB := hO.b.size
    clear hO
    by_cases hlt : k < min (s.length / 3) 6
    · have h1 : 3 * k + 2 < s.length := by omega
      have h2 : 3 * k < 18 := by omega
      obtain ⟨bs, os, rfl, _, hbs⟩ := HR.out.addr (by intro e; rw [e] at h1; cases h1)
      have cx := HR.out.int (3 * k + 2) h1
      obtain ⟨x, hx⟩ : ∃ x, x = s[3 * k + 2] := ⟨_, rfl⟩
      have hxf := HF.out x (by rw [hx]; exact List.getElem_mem h1)
      rw [← hx] at cx
      obtain ⟨z, hz, hz0', hz1'⟩ : ∃ z, takeV s (3 * k) 8 = z ∧ 0 ≤ z ∧ z < 8 := ⟨_, rfl, takeV_bd s _ 8 (by decide)⟩
      obtain ⟨y, hy, hy0, hy1⟩ : ∃ y, takeV s (3 * k + 1) 6 = y ∧ 0 ≤ y ∧ y < 6 := ⟨_, rfl, takeV_bd s _ 6 (by decide)⟩
      have hone : wherOne s k = ⟨oneS (97 + z), 1 + y, valOf x⟩ := by
        unfold wherOne
        rw [hz, hy, hx, List.getD_eq_getElem?_getD, List.getElem?_eq_getElem h1]
        rfl
      have HONE := Lib.hid hone
      have HX := Lib.hid cx
      clear cx hx hone
      go_upto_region 5 with (fail)
      have E1 := Lib.hid (show takeV s (3 * (k : Int)).toNat 8 = z by rw [show (3 * (k : Int)).toNat = 3 * k by omega]; exact hz)
      have E2 := Lib.hid (show takeV s (3 * (k : Int) + 1).toNat 6 = y by rw [show (3 * (k : Int) + 1).toNat = 3 * k + 1 by omega]; exact hy)
      clear hz hy
      refine wp_region_loose2 [([0, 1, 2, 3, 4, 5, 8, 9, 10, 11, 12, 13, 14, 15, 16, 17, 18], 6), ([7, 19], 20), ([], 21), ([], 22)] (Below w.heap.size w) (Below wr.heap.size wr) (by kernel_rfl) (by kernel_rfl) (by kernel_rfl) (fun w1 w2 h b => h.trans (b.mono h.size)) (Below.drew (Below.refl _ _)) ?_
      apply wpSegs_cons (Below w.heap.size w) (NewByte wr (97 + z)) (fun _ h => h) (fun _ h => OW.out.b.trans (h.mono hB))
      case hq =>
        intro w0 hw0
        have ne : Nonempty (Wld (Below w0.heap.size w0)) := ⟨⟨w0, Below.refl _ _⟩⟩
        have H0 := Lib.hid (HS.out.below hw0)
        have cx := fun x : Wld (Below w0.heap.size w0) => ((hw0.trans (x.good.mono hw0.size)).cell (p := ⟨bs, os + (3 * k + 2), none⟩) hbs).trans HX.out
        simp only [pickOps, List.getElem?_cons_zero, List.getElem?_cons_succ]
        apply quiet_hide
        intro KE hKE
        repeat (go_big_quiet_step (first | ((go_at_call 25; (with_reducible refine Calls.mono (take_at (H0.out.below (Wld.good _)) _ (by omega) _ (by decide) (by decide)) ?_); rintro e w2 ⟨rfl, rfl⟩; first | exact ⟨congrArg (fun q => Ending.returned (Value.int .i64 q)) E1.out, class_below _ (Below.refl _ _) (Nat.le_refl _)⟩ | exact ⟨congrArg (fun q => Ending.returned (Value.int .i64 q)) E2.out, class_below _ (Below.refl _ _) (Nat.le_refl _)⟩)) | ((go_at_call 14; (with_reducible refine Calls.mono (value_any x hxf _) ?_); rintro e w2 ⟨rfl, b2⟩; exact ⟨rfl, class_below _ b2 (Nat.le_refl _)⟩))))
        refine wpQuiet_nil ?_
        exact hKE _ rfl
      case ho => rfl
      case hop => rfl
      case hw => kernel_rfl
      case hDJ => exact (fun _ _ _ h => OW.out.b.trans (h.choose_spec.2.2.2.mono hB))
      case hD => exact fun u w1 w2 h hb => h.below hb
      case hlo =>
        intro wa ba
        go_wp2_with fail
        exact ⟨wa.heap.size, rfl, ba.size, heap_alloc_new _ _, ba.alloc ba.size _⟩
      case hrest =>
        rintro u w1 ⟨b, rfl, hb0, -, -⟩
        simp only [Act.put, List.setIfInBounds_toArray, List.set_cons_succ, List.set_cons_zero]
        apply wpSegs_cons (fun w' => Below w.heap.size w w' ∧ w'.heap[b]? = some (.cells #[.int .u8 (97 + z)] 5 (0, 0))) (fun u w' => NewCond wr ⟨oneS (97 + z), 1 + y, valOf x⟩ u w' ∧ w'.heap[b]? = some (.cells #[.int .u8 (97 + z)] 5 (0, 0))) (fun _ h => h.1) (fun _ h => by
          obtain ⟨b', e, _, h1, h2⟩ := h
          obtain rfl : b = b' := by simpa using e
          exact ⟨OW.out.b.trans (h2.mono hB), h1⟩)
        case hq =>
          rintro w0 ⟨hw0, hby⟩
          have ne : Nonempty (Wld (Below w0.heap.size w0)) := ⟨⟨w0, Below.refl _ _⟩⟩
          have cv := fun x : Wld (Below w0.heap.size w0) => back_at (z := 97 + z) (by omega) (by omega) ((x.good.block _ (lt_of_block hby)).trans hby)
          clear hby
          simp only [pickOps, List.getElem?_cons_zero, List.getElem?_cons_succ]
          apply quiet_hide
          intro KE hKE
          repeat (go_big_quiet_step (fail))
          refine wpQuiet_nil ?_
          exact hKE _ rfl
        case ho => rfl
        case hop => rfl
        case hw => kernel_rfl
        case hDJ => exact (fun _ _ _ h => ⟨OW.out.b.trans (h.1.choose_spec.2.2.mono hB), h.2⟩)
        case hD => exact fun u w1 w2 h hb => ⟨h.1.below hb, (hb.block _ (lt_of_block h.2)).trans h.2⟩
        case hlo =>
          rintro wa ⟨b', e, _, h1, ba⟩
          obtain rfl : b = b' := by simpa using e
          clear e
          have H1 := Lib.hid h1
          have BA := Lib.hid ba
          clear h1 ba
          go_wp2_with fail
          exact ⟨⟨wa.heap.size, rfl, heap_alloc_new _ _, BA.out.alloc BA.out.size _⟩, (heap_alloc_old _ _ (lt_of_block H1.out)).trans H1.out⟩
        case hrest =>
          rintro u2 w2 ⟨⟨b2, rfl, -, -⟩, -⟩
          simp only [Act.put, List.setIfInBounds_toArray, List.set_cons_succ, List.set_cons_zero]
          refine wpSegs_cons0 (fun u w' => OneAt w.heap.size w 44 5 u (k + 1) ((wherTo s (k + 1)).flatMap condEnc) w' ∧ w'.heap[b]? = some (.cells #[.int .u8 (97 + z)] 5 (0, 0))) ?sub3 rfl rfl ?want3 ?stable3 ?di3 ?lo3 ?on3
          case sub3 =>
            rintro w' ⟨⟨_, _, _, h2⟩, h'⟩
            exact ⟨OW.out.b.trans (h2.mono hB), h'⟩
          case want3 => kernel_rfl
          case stable3 =>
            rintro u w1 w2 ⟨h1, h2⟩ hb
            exact ⟨h1.below hb h1.b.size, (hb.block _ (lt_of_block h2)).trans h2⟩
          case di3 => exact fun _ _ _ h => ⟨h.1.b, h.2⟩
          case lo3 =>
            rintro wa ⟨⟨b', e, h1, ba⟩, hby⟩
            obtain rfl : b2 = b' := by simpa using e
            clear e
            refine wpList_append_own_at _ rfl _ _ 36 rfl w.heap.size 44 i0 _ 5 56 Tryd.underlying36 hi hz0 hz1 hz2 rfl (by decide) v k _ rfl (OW.out.below ba hB).m ⟨b2, 0, none⟩ 1 1 (condEnc ⟨oneS (97 + z), 1 + y, valOf x⟩) rfl rfl (fun j u hj => by rw [addr_add, cells_of h1]; simpa using hj) (cond_cells _) (by unfold maxLen; omega) (by omega) (Nat.le_trans hB ba.size) ?_
            intro v1 w3 o1 g1 hx1 at1
            refine wpList_nil ⟨rfl, v1, rfl, (OW.out.below ba hB).push (Nat.le_trans hB ba.size) ?_ g1, ?_⟩
            · rw [wherTo_succ, List.flatMap_append, HONE.out]
              simpa using o1
            · refine (g1.block b (lt_of_block hby) ?_).trans hby
              intro e
              have := (OW.out.m.lt b e.symm).2
              omega
          case on3 =>
            rintro u3 w3 ⟨-, -⟩
            simp only [Act.put, List.setIfInBounds_toArray, List.set_cons_succ, List.set_cons_zero]
            refine wpSegs_assign (fun w1 w2 h hb => ⟨h.1.below hb h.1.b.size, (hb.block _ (lt_of_block h.2)).trans h.2⟩) (fun _ h => ⟨h.1.b, h.2⟩) rfl rfl (by kernel_rfl) rfl (fun w' h => ?_)
            have H := Lib.hid h.1
            clear h
            simp only [Act.put, List.setIfInBounds_toArray, List.set_cons_succ, List.set_cons_zero]
            go_wp2_with fail
            go_roundw
            case rel => exact ⟨k + 1, _, by omega, by go_num, rfl, H.out⟩
            case measure => simp [intOf]; omega
    · have hk2 : k = min (s.length / 3) 6 := by omega
      have hO := OW.out
      have e0 : wherV s = wherTo s k := by unfold wherV; rw [← hk2]
      rw [show k = (wherTo s k).length from (wherTo_len s k).symm] at hO
      obtain ⟨a', c', hv, h1, h2, _⟩ := RowAt.of_owns_flat (enc := condEnc) (sz := 5) (hl := fun _ => rfl) (p := fun k => w.heap.size ≤ k) (L := wherTo s k) (by simpa [wherTo_len] using hO.m) (fun k h => h)
      have HV := Lib.hid hv
      have HRow := Lib.hid (show SlV condR (fun k => w.heap.size ≤ k) wr (.slice a' (wherV s).length c') (wherV s) from by rw [e0]; exact ⟨a', c', rfl, h1, by rw [wherTo_len]; omega, h2⟩)
      have E0 := Lib.hid e0
      clear hO hv h1 h2 e0 hk2
      rcases (show ¬ 3 * k + 2 < s.length ∨ (3 * k + 2 < s.length ∧ ¬ 3 * k < 18) by omega) with h | ⟨h, h'⟩
      · have q1 : ¬ (3 * (k : Int) + 2 < (s.length : Int)) := by omega
        go_wp2_with fail
        go_ret
        exact ⟨⟨_, rfl, a', c', by rw [HV.out, E0.out]; rfl, HRow.out⟩, OW.out.b⟩
      · have q1 : 3 * (k : Int) + 2 < (s.length : Int) := by omega
        have q2 : ¬ (3 * (k : Int) < 18) := by omega
        go_wp2_with fail
        go_ret
        exact ⟨⟨_, rfl, a', c', by rw [HV.out, E0.out]; rfl, HRow.out⟩, OW.out.b⟩
end Go.Proofs.YtajlngkakpjncaaDoor

namespace Go.Proofs.YtajlngkakpjncaaDoor
set_option linter.unusedVariables false
set_option linter.unusedSimpArgs false
open Go.RowKit

def rowOne (kind : Int) (s : List Int) (i : Nat) : Val :=
  if (valOf (takeV s i 4000)).kind = kind then valOf (takeV s i 4000) else
  if (valOf (takeV s i 16 + 24 * (kind - 1))).kind = kind then valOf (takeV s i 16 + 24 * (kind - 1)) else ⟨0, 0, noStr⟩
def rowTo (T : Tab) (s : List Int) (k : Nat) : List Val := (List.range k).map fun i => rowOne (T.cols.getD i default).2 s i
def rowV (T : Tab) (s : List Int) : List Val := rowTo T s T.cols.length
theorem rowTo_succ (T : Tab) (s : List Int) (k : Nat) : rowTo T s (k + 1) = rowTo T s k ++ [rowOne (T.cols.getD k default).2 s k] := by
  unfold rowTo; rw [List.range_succ, List.map_append]; rfl
theorem rowTo_len (T : Tab) (s : List Int) (k : Nat) : (rowTo T s k).length = k := by simp [rowTo]
theorem info_val : (Tryd.prog.info? 41).map (fun i => (i.zero, i.size, i.bytes)) = some (some (.agg #[.int .i64 0, .int .i64 0, .string ⟨#[]⟩]), 3, 32) := by kernel_rfl
theorem val_cells (x : Val) : ∀ u ∈ valEnc x, u.oneCell' = true := by
  intro u hu
  simp [valEnc] at hu
  rcases hu with rfl | rfl | rfl <;> rfl
theorem grown_set (w : World) (b o : Nat) (v : Value) : w.grownBy (w.setCell ⟨b, o, none⟩ v) (some b) := by
  refine ⟨?_, ?_, ?_, by simp, fun k _ hk => Below.heap_setCell w ⟨b, o, none⟩ v k (fun e => hk (congrArg some e))⟩
  all_goals
    unfold World.setCell
    split <;> rfl
/-- the row so far, and the box of the value in the making -/
structure RB (B : Nat) (W0 : World) (v : Value) (n : Nat) (xs : List Value) (bx : Nat) (x : Val) (w : World) : Prop where
  o : OneAt B W0 41 3 v n xs w
  ne : v.ownBlock ≠ some bx
  ge : B ≤ bx
  h : w.heap[bx]? = some (.cells #[.int .i64 x.kind, .int .i64 x.n, .string x.s] 41 (0, 0))
theorem RB.below {B : Nat} {W0 : World} {v : Value} {n : Nat} {xs : List Value} {bx : Nat} {x : Val} {w w' : World} (h : RB B W0 v n xs bx x w) (hb : Below w.heap.size w w') : RB B W0 v n xs bx x w' :=
  ⟨h.o.below hb (Nat.le_trans h.ge (Nat.le_of_lt (lt_of_block h.h))), h.ne, h.ge, (hb.block _ (lt_of_block h.h)).trans h.h⟩
theorem RB.set {B : Nat} {W0 : World} {v : Value} {n : Nat} {xs : List Value} {bx : Nat} {x y : Val} {w : World} (h : RB B W0 v n xs bx x w) :
    RB B W0 v n xs bx y (((w.setCell ⟨bx, 0, none⟩ (.int .i64 y.kind)).setCell ⟨bx, 1, none⟩ (.int .i64 y.n)).setCell ⟨bx, 2, none⟩ (.string y.s)) := by
  have hne : v.ownBlock = none ∨ v.ownBlock ≠ some bx := Or.inr h.ne
  refine ⟨⟨((h.o.m.kept (grown_set _ _ _ _) hne).kept (grown_set _ _ _ _) hne).kept (grown_set _ _ _ _) hne, ((h.o.b.setCell (p := ⟨bx, 0, none⟩) h.ge _).setCell (p := ⟨bx, 1, none⟩) h.ge _).setCell (p := ⟨bx, 2, none⟩) h.ge _⟩, h.ne, h.ge, ?_⟩
  exact block_set (block_set (block_set h.h))

set_option maxRecDepth 100000 in
set_option maxHeartbeats 8000000 in
theorem row_any {p q : Nat → Prop} {tv : Value} {T : Tab} {a : Option Addr} {cap : Nat} {s : List Int} {w : World} (hT : TabV p w tv T) (hs : SlV intR q w (.slice a s.length cap) s) (hk : ∀ c ∈ T.cols, 1 ≤ c.2 ∧ c.2 ≤ 2) (hc : T.cols.length ≤ 1000) :
    Calls Tryd.prog 18 #[tv, .slice a s.length cap] w fun e w' => (∃ v, e = .returned v ∧ ∃ a' c', v = .slice a' (rowV T s).length c' ∧ SlV valR (fun k => w.heap.size ≤ k) w' (.slice a' (rowV T s).length c') (rowV T s)) ∧ Below w.heap.size w w' := by
  obtain ⟨ac, cc, ai, ci, rfl, h1, h2⟩ := hT
  obtain ⟨i0, hi, hz0, hz1, hz2⟩ := info_parts info_val
  obtain ⟨W1, hW1⟩ : ∃ W1, w.alloc (.cells #[.int .i64 T.id, .string T.name, .slice ac T.cols.length cc, .slice ai T.idx.length ci] 30) = W1 := ⟨_, rfl⟩
  have hb1 : Below w.heap.size w W1 := by rw [← hW1]; exact (Below.refl _ _).alloc (Nat.le_refl _) _
  have hbox : W1.heap[w.heap.size]? = some (.cells #[.int .i64 T.id, .string T.name, .slice ac T.cols.length cc, .slice ai T.idx.length ci] 30 (0, 0)) := by rw [← hW1]; exact heap_alloc_new _ _
  have hsz : W1.heap.size = w.heap.size + 1 := by rw [← hW1]; simp
  have HB := Lib.hid hbox
  have HC := Lib.hid (h1.below hb1).row.2.2.2
  have HS := Lib.hid (hs.below hb1)
  have HK := Lib.hid hk
  have B1 := Lib.hid hb1
  have S1 := Lib.hid hsz
  clear h1 h2 hs hk hbox hb1 hsz
  go_enter Tryd.func18, Tryd.ntmps18
  go_upto_region 1 with (fail)
  clear hW1
  go_wp2_with fail
  go_loopw [5, 6] (fun x i wr => ∃ (k : Nat) (v : Value), k ≤ T.cols.length ∧ i = .int .i64 k ∧ v = x ∧ OneAt W1.heap.size W1 41 3 v k ((rowTo T s k).flatMap valEnc) wr) (fun _ i _ => T.cols.length - (intOf i).toNat)
  case atStart => exact ⟨0, _, Nat.zero_le _, rfl, rfl, World.ownsRow_nil _ _ _ _, Below.refl _ _⟩
  case round =>
    obtain ⟨k, v, hk, rfl, rfl, hO⟩ := hrel
    have OW := Lib.hid hO
    have hB := hO.b.size
    have t2 := (hO.b.cell (p := ⟨w.heap.size, 2, none⟩) (by rw [S1.out]; exact Nat.lt_succ_self _)).trans (cells_of HB.out 2)
    simp only [List.getElem?_toArray, List.getElem?_cons_zero, List.getElem?_cons_succ] at t2
    clear hO
    by_cases hlt : k < T.cols.length
    · obtain ⟨bc, oc, rfl, _, hbc⟩ := HC.out.addr (by intro e; rw [e] at hlt; cases hlt)
      have cK := (HC.out.col k hlt).2
      have hkk := HK.out T.cols[k] (List.getElem_mem hlt)
      have HR1 := Lib.hid (show ∀ x, rowOne T.cols[k].2 s k = x → rowTo T s (k + 1) = rowTo T s k ++ [x] from fun x e => by rw [rowTo_succ, List.getD_eq_getElem?_getD, List.getElem?_eq_getElem hlt]; exact congrArg (fun y => rowTo T s k ++ [y]) e)
      obtain ⟨kk, hkk'⟩ : ∃ kk, kk = T.cols[k].2 := ⟨_, rfl⟩
      rw [← hkk'] at cK hkk HR1
      have CK := Lib.hid cK
      obtain ⟨t, ht, ht0, ht1⟩ : ∃ t, takeV s k 4000 = t ∧ 0 ≤ t ∧ t < 4000 := ⟨_, rfl, takeV_bd s _ 4000 (by decide)⟩
      obtain ⟨u, hu, hu0, hu1⟩ : ∃ u, takeV s k 16 = u ∧ 0 ≤ u ∧ u < 16 := ⟨_, rfl, takeV_bd s _ 16 (by decide)⟩
      have HT := Lib.hid ht
      have HU := Lib.hid hu
      clear hkk' cK ht hu
      go_wp2_with fail
      refine (take_any (HS.out.below OW.out.b) k 4000 (by decide) (by decide)).mono ?_
      rintro e w2 ⟨rfl, rfl⟩
      rw [HT.out]
      go_wp2_with fail
      refine (value_any t ⟨by omega, by omega⟩ _).mono ?_
      rintro e w3 ⟨rfl, b3⟩
      obtain ⟨v0, hv0⟩ : ∃ v0, v0 = valOf t := ⟨_, rfl⟩
      rw [← hv0]
      have HV0 := Lib.hid hv0
      have hO3 := OW.out.below b3 hB
      have hlo := b3.size
      clear b3 hv0 t2
      go_upto_region 6 with (fail)
      generalize hW4 : World.alloc _ _ = W4
      have hRB : RB W1.heap.size W1 v k ((rowTo T s k).flatMap valEnc) w3.heap.size v0 W4 := by
        refine ⟨?_, fun e => ?_, Nat.le_trans hB hlo, ?_⟩
        · rw [← hW4]
          exact hO3.below ((Below.refl _ _).alloc (Nat.le_refl _) _) (Nat.le_trans hB hlo)
        · have := (OW.out.m.lt _ e).2
          omega
        · rw [← hW4]
          exact heap_alloc_new _ _
      have R4 := Lib.hid hRB
      have TF := Lib.hid (show ∀ wx, Below W1.heap.size W1 wx → wx.cell? ⟨w.heap.size, 2, none⟩ = some (.slice (some ⟨bc, oc, none⟩) T.cols.length cc) ∧ wx.cell? ⟨bc, oc + k * 2 + 1, none⟩ = some (.int .i64 kk) from fun wx hb =>
        ⟨(hb.cell (p := ⟨w.heap.size, 2, none⟩) (by rw [S1.out]; exact Nat.lt_succ_self _)).trans (cells_of HB.out 2), (hb.cell (p := ⟨bc, oc + k * 2 + 1, none⟩) hbc).trans CK.out⟩)
      obtain ⟨bx, hbx⟩ : ∃ bx, bx = w3.heap.size := ⟨_, rfl⟩
      rw [← hbx] at R4 ⊢
      clear hW4 hRB hO3 hlo hbx
      have e0 := cells_of R4.out.h 0
      simp only [List.getElem?_toArray, List.getElem?_cons_zero] at e0
      obtain ⟨t2, cK⟩ := TF.out _ R4.out.o.b
      go_quiet (fail)
      clear e0 t2 cK
      obtain ⟨v1, hv1⟩ : ∃ v1, v1 = valOf (u + 24 * (kk - 1)) := ⟨_, rfl⟩
      go_upto_if 27 with (fail)
      go_cut [] from 28 to 40 (fun wx => RB W1.heap.size W1 v k ((rowTo T s k).flatMap valEnc) bx (if v0.kind = kk then v0 else v1) wx)
      case first =>
        by_cases hq : v0.kind = kk
        · have q1 : (v0.kind != kk) = false := by simpa using hq
          have R5 := Lib.hid (R4.out.below (below_drewN (Below.refl _ _) nq))
          have HQ := Lib.hid hq
          clear hq
          go_wp2_with fail
          go_meet
          rw [if_pos HQ.out]
          exact R5.out
        · have q1 : (v0.kind != kk) = true := by simpa using hq
          have hR5 := R4.out.below (below_drewN (Below.refl _ _) nq)
          have R5 := Lib.hid hR5
          have HQ := Lib.hid hq
          obtain ⟨W5, hW5⟩ : ∃ W5, W5 = W4.drewN nq := ⟨_, rfl⟩
          rw [← hW5] at R5 ⊢
          have t2 := fun x : Wld (Below W5.heap.size W5) => (TF.out _ (R5.out.o.b.trans (x.good.mono R5.out.o.b.size))).1
          have cK := fun x : Wld (Below W5.heap.size W5) => (TF.out _ (R5.out.o.b.trans (x.good.mono R5.out.o.b.size))).2
          have H5 := Lib.hid (HS.out.below R5.out.o.b)
          have hw1 : IntKind.i64.wrap (24 * (kk - 1)) = 24 * (kk - 1) := by rw [IntKind.wrap_i64]; omega
          have hw2 : IntKind.i64.wrap (u + 24 * (kk - 1)) = u + 24 * (kk - 1) := by rw [IntKind.wrap_i64]; omega
          clear hq hR5 hW5
          go_upto_region 7 with (fail)
          refine wp_region_class_tail 13 (Below W5.heap.size W5) (by kernel_rfl) (by kernel_rfl) (Below.drew (Below.refl _ _)) (fun ne => ?_)
          simp only [List.take_succ_cons, List.take_zero, List.drop_succ_cons, List.drop_zero]
          repeat (go_big_quiet_step (first | ((go_at_call 25; (with_reducible refine Calls.mono (take_any (H5.out.below (Wld.good _)) _ _ (by decide) (by decide)) ?_); rintro e w2 ⟨rfl, rfl⟩; exact ⟨congrArg (fun q => Ending.returned (Value.int .i64 q)) HU.out, class_below _ (Below.refl _ _) (Nat.le_refl _)⟩)) | ((go_at_call 14; (with_reducible refine Calls.mono (value_any (u + 24 * (kk - 1)) ⟨by omega, by omega⟩ _) ?_); rintro e w2 ⟨rfl, b2⟩; exact ⟨rfl, class_below _ b2 (Nat.le_refl _)⟩))))
          refine wpQuiet_nil ?_
          intro w7 b7
          have hR7 := R5.out.below b7
          have e0 := cells_of hR7.h 0
          have e1 := cells_of hR7.h 1
          have e2 := cells_of hR7.h 2
          have f0 := free_of hR7.h 0
          have f1 := free_of hR7.h 1
          have f2 := free_of hR7.h 2
          simp only [List.getElem?_toArray, List.getElem?_cons_zero, List.getElem?_cons_succ] at e0 e1 e2
          have R7 := Lib.hid hR7
          clear hR7 b7 t2 cK
          go_wp2_with fail
          go_meet
          rw [if_neg HQ.out, hv1]
          exact R7.out.set
      case rest =>
        obtain ⟨W8, hW8⟩ : ∃ W8, W8 = wc := ⟨_, rfl⟩
        rw [← hW8] at hcut ⊢
        obtain ⟨x1, hx1⟩ : ∃ x1, x1 = if v0.kind = kk then v0 else v1 := ⟨_, rfl⟩
        rw [← hx1] at hcut
        have hx2 : rowOne kk s k = if x1.kind = kk then x1 else ⟨0, 0, noStr⟩ := by
          unfold rowOne
          rw [HT.out, HU.out, ← HV0.out, ← hv1, hx1]
          by_cases hq : v0.kind = kk
          · rw [if_pos hq, if_pos hq, if_pos hq]
          · rw [if_neg hq, if_neg hq]
        have HX2 := Lib.hid hx2
        have R8 := Lib.hid hcut
        have e0 := cells_of R8.out.h 0
        have e1 := cells_of R8.out.h 1
        have e2 := cells_of R8.out.h 2
        have f0 := free_of R8.out.h 0
        have f1 := free_of R8.out.h 1
        have f2 := free_of R8.out.h 2
        simp only [List.getElem?_toArray, List.getElem?_cons_zero, List.getElem?_cons_succ] at e0 e1 e2
        obtain ⟨t2, cK⟩ := TF.out _ R8.out.o.b
        clear hcut hW8 hx1 hx2 hv1
        go_upto_region 8 with (fail)
        go_quiet (fail)
        go_upto_if 49 with (fail)
        go_cut [] from 50 to 50 (fun wx => RB W1.heap.size W1 v k ((rowTo T s k).flatMap valEnc) bx (if x1.kind = kk then x1 else ⟨0, 0, noStr⟩) wx)
        case first =>
          have R9 := Lib.hid (R8.out.below (below_drewN (Below.refl _ _) nq))
          by_cases hq : x1.kind = kk
          · have q1 : (x1.kind != kk) = false := by simpa using hq
            have HQ := Lib.hid hq
            clear hq
            go_wp2_with fail
            go_meet
            rw [if_pos HQ.out]
            exact R9.out
          · have q1 : (x1.kind != kk) = true := by simpa using hq
            have HQ := Lib.hid hq
            clear hq
            go_wp2_with fail
            go_meet
            rw [if_neg HQ.out]
            exact R9.out.set (y := ⟨0, 0, noStr⟩)
        case rest =>
          obtain ⟨W9, hW9⟩ : ∃ W9, W9 = wc := ⟨_, rfl⟩
          rw [← hW9] at hcut ⊢
          rw [← HX2.out] at hcut
          obtain ⟨x2, hx2⟩ : ∃ x2, x2 = rowOne kk s k := ⟨_, rfl⟩
          rw [← hx2] at hcut
          have HN := Lib.hid (HR1.out x2 hx2.symm)
          have R9 := Lib.hid hcut
          have g0 := cells_of R9.out.h 0
          have g1 := cells_of R9.out.h 1
          have g2 := cells_of R9.out.h 2
          have hs9 := Nat.le_trans R9.out.ge (Nat.le_of_lt (lt_of_block R9.out.h))
          simp only [List.getElem?_toArray, List.getElem?_cons_zero, List.getElem?_cons_succ] at g0 g1 g2
          clear hcut hW9 hx2 e0 e1 e2 f0 f1 f2 t2 cK
          go_wp2_with (at_builtin; go_loud (refine wpList_append_own_at _ rfl _ _ 47 rfl W1.heap.size 41 i0 _ 3 32 Tryd.underlying47 hi hz0 hz1 hz2 rfl (by decide) v k _ rfl (R9.out.o.m.alloc _) ⟨W9.heap.size, 0, none⟩ 1 1 (valEnc x2) rfl rfl (fun j u hj => by rw [addr_add, cells_of (heap_alloc_new _ _)]; simpa [valEnc] using hj) (val_cells _) (by unfold maxLen; omega) (by omega) (by simp; omega) ?_; intro v' w3' o1 h1' hx1' at1; clear hx1'; have N3 := Lib.hid ((R9.out.o.below ((Below.refl _ _).alloc (Nat.le_refl _) _) hs9).push (by simp; omega) o1 h1'); clear o1 h1' at1))
          go_roundw
          case rel => exact ⟨k + 1, _, by omega, by go_num, rfl, by rw [HN.out, List.flatMap_append]; simpa using N3.out⟩
          case measure => simp [intOf]; omega
    · have hk2 : k = T.cols.length := by omega
      have hO := OW.out
      have e0 : rowV T s = rowTo T s k := by unfold rowV; rw [← hk2]
      rw [show k = (rowTo T s k).length from (rowTo_len T s k).symm] at hO
      obtain ⟨a', c', hv, h1, h2, _⟩ := RowAt.of_owns_flat (enc := valEnc) (sz := 3) (hl := fun _ => rfl) (p := fun k => W1.heap.size ≤ k) (L := rowTo T s k) (by simpa [rowTo_len] using hO.m) (fun k h => h)
      have HV := Lib.hid hv
      have HRow := Lib.hid (show SlV valR (fun k => w.heap.size ≤ k) wr (.slice a' (rowV T s).length c') (rowV T s) from by rw [e0]; exact ⟨a', c', rfl, h1, by rw [rowTo_len]; omega, h2.weaken fun k hk => by have := S1.out; omega⟩)
      have E0 := Lib.hid e0
      have HBW := Lib.hid (B1.out.trans (OW.out.b.mono B1.out.size))
      have q1 : ¬ ((k : Int) < (T.cols.length : Int)) := by omega
      clear hO hv h1 h2 e0 hk2
      go_wp2_with fail
      go_ret
      exact ⟨⟨_, rfl, a', c', by rw [HV.out, E0.out]; rfl, HRow.out⟩, HBW.out⟩
end Go.Proofs.YtajlngkakpjncaaDoor

namespace Go.Proofs.YtajlngkakpjncaaDoor
set_option linter.unusedVariables false
set_option linter.unusedSimpArgs false
open Go.RowKit

theorem info_col : (Tryd.prog.info? 38).map (fun i => (i.zero, i.size, i.bytes)) = some (some (.agg #[.string ⟨#[]⟩, .int .i64 0]), 2, 24) := by kernel_rfl
theorem info_int : (Tryd.prog.info? 3).map (fun i => (i.zero, i.size, i.bytes)) = some (some (.int .i64 0), 1, 8) := by kernel_rfl
theorem info_index : (Tryd.prog.info? 60).map (fun i => (i.zero, i.size, i.bytes)) = some (some (.agg #[.string ⟨#[]⟩, .slice none 0 0, .int .i64 0]), 3, 48) := by kernel_rfl
theorem col_cells (x : ByteArray × Int) : ∀ u ∈ colEnc x, u.oneCell' = true := by
  intro u hu
  simp [colEnc] at hu
  rcases hu with rfl | rfl <;> rfl
def baseC (o : Bool) : Int := if o then 99 else 97
def colsOne (o : Bool) (s : List Int) (i : Nat) : ByteArray × Int := (oneS (baseC o + i), 1 + takeV s (i + 1) 2)
def colsTo (o : Bool) (s : List Int) (k : Nat) : List (ByteArray × Int) := (List.range k).map (colsOne o s)
theorem colsTo_succ (o : Bool) (s : List Int) (k : Nat) : colsTo o s (k + 1) = colsTo o s k ++ [colsOne o s k] := by
  unfold colsTo; rw [List.range_succ, List.map_append]; rfl
theorem colsTo_len (o : Bool) (s : List Int) (k : Nat) : (colsTo o s k).length = k := by simp [colsTo]

/-- the table in the making -/
structure TB (B : Nat) (W0 : World) (bt : Nat) (v : Value) (n : Nat) (xs : List Value) (ix : Value) (w : World) : Prop where
  o : OneAt B W0 38 2 v n xs w
  ne : v.ownBlock ≠ some bt
  ge : B ≤ bt
  h : w.heap[bt]? = some (.cells #[.int .i64 1, .string ⟨#[116]⟩, v, ix] 30 (0, 0))
theorem TB.size {B : Nat} {W0 : World} {bt : Nat} {v : Value} {n : Nat} {xs : List Value} {ix : Value} {w : World} (h : TB B W0 bt v n xs ix w) : B ≤ w.heap.size := Nat.le_trans h.ge (Nat.le_of_lt (lt_of_block h.h))
theorem TB.below {B : Nat} {W0 : World} {bt : Nat} {v : Value} {n : Nat} {xs : List Value} {ix : Value} {w w' : World} (h : TB B W0 bt v n xs ix w) (hb : Below w.heap.size w w') : TB B W0 bt v n xs ix w' :=
  ⟨h.o.below hb h.size, h.ne, h.ge, (hb.block _ (lt_of_block h.h)).trans h.h⟩
/-- appended to, not yet stored -/
structure TA (B : Nat) (W0 : World) (bt : Nat) (v u : Value) (n : Nat) (xs : List Value) (ix : Value) (w : World) : Prop where
  o : OneAt B W0 38 2 u n xs w
  ne : u.ownBlock ≠ some bt
  ge : B ≤ bt
  h : w.heap[bt]? = some (.cells #[.int .i64 1, .string ⟨#[116]⟩, v, ix] 30 (0, 0))
theorem TA.below {B : Nat} {W0 : World} {bt : Nat} {v u : Value} {n : Nat} {xs : List Value} {ix : Value} {w w' : World} (h : TA B W0 bt v u n xs ix w) (hb : Below w.heap.size w w') : TA B W0 bt v u n xs ix w' :=
  ⟨h.o.below hb (Nat.le_trans h.ge (Nat.le_of_lt (lt_of_block h.h))), h.ne, h.ge, (hb.block _ (lt_of_block h.h)).trans h.h⟩
theorem TA.set {B : Nat} {W0 : World} {bt : Nat} {v u : Value} {n : Nat} {xs : List Value} {ix : Value} {w : World} (h : TA B W0 bt v u n xs ix w) : TB B W0 bt u n xs ix (w.setCell ⟨bt, 2, none⟩ u) :=
  ⟨⟨h.o.m.kept (grown_set _ _ _ _) (Or.inr h.ne), h.o.b.setCell (p := ⟨bt, 2, none⟩) h.ge _⟩, h.ne, h.ge, block_set h.h⟩

/-- the indexes so far: K, the blocks of their rows of columns -/
structure IxAt (B : Nat) (K : Nat → Prop) (iv : Value) (X : List Ix) (ys : List Value) (w : World) : Prop where
  i : w.ownsRow B 60 3 iv X.length ys
  k : ∀ k, K k → B ≤ k ∧ ∃ cs fz, w.heap[k]? = some (.cells cs 3 fz)
  x : ∀ t (ht : t < X.length), ixR.ok K w ((ys.drop (t * 3)).take 3) X[t]
theorem IxAt.below {B : Nat} {K : Nat → Prop} {iv : Value} {X : List Ix} {ys : List Value} {w w' : World} (h : IxAt B K iv X ys w) (hb : Below w.heap.size w w') : IxAt B K iv X ys w' := by
  refine ⟨owns_below h.i hb, fun k hk => ?_, fun t ht => ixR.keep (h.x t ht) fun k _ hk => hb.block k hk⟩
  obtain ⟨h1, cs, fz, h2⟩ := h.k k hk
  exact ⟨h1, cs, fz, (hb.block _ (lt_of_block h2)).trans h2⟩
/-- a change of one block that is not of the indexes' -/
theorem IxAt.kept {B : Nat} {K : Nat → Prop} {iv : Value} {X : List Ix} {ys : List Value} {w w' : World} {c : Nat} {cs : Array Value} {T : TypeId} {fz : Nat × Nat} (h : IxAt B K iv X ys w) (hg : w.grownBy w' (some c)) (hc : w.heap[c]? = some (.cells cs T fz)) (h1 : T ≠ 3) (h2 : T ≠ 60) : IxAt B K iv X ys w' := by
  have hkc : ∀ k, K k → k ≠ c := fun k hk e => by
    subst e
    obtain ⟨_, cs', fz', h3⟩ := h.k k hk
    rw [hc] at h3
    simp at h3
    exact h1 h3.2.1
  refine ⟨h.i.kept hg (Or.inr fun e => row_not hc h.i h2 e.symm), fun k hk => ?_, fun t ht => ixR.keep (h.x t ht) fun k hk hlt => hg.block k hlt fun e => hkc k hk (Option.some.inj e)⟩
  obtain ⟨h3, cs', fz', h4⟩ := h.k k hk
  exact ⟨h3, cs', fz', (hg.block k (lt_of_block h4) fun e => hkc k hk (Option.some.inj e)).trans h4⟩
/-- one index more -/
theorem IxAt.push {B : Nat} {K : Nat → Prop} {iv iv' : Value} {X : List Ix} {ys : List Value} {w w' : World} {x : Ix} {a : Option Addr} {cap g : Nat} {cs : Array Value} {fz : Nat × Nat} (h : IxAt B K iv X ys w) (hg : w.grownBy w' iv.ownBlock)
    (ho : w'.ownsRow B 60 3 iv' (X.length + 1) (ys ++ [.string x.name, .slice a x.cols.length cap, .int .i64 x.root])) (hx : RowAt intR (fun k => k = g) w a x.cols) (hcap : x.cols.length ≤ cap) (hlen : x.cols.length ≤ 140737488355328) (hgB : B ≤ g) (hgt : w.heap[g]? = some (.cells cs 3 fz)) :
    IxAt B (fun k => K k ∨ k = g) iv' (X ++ [x]) (ys ++ [.string x.name, .slice a x.cols.length cap, .int .i64 x.root]) w' := by
  have keepK : ∀ k, (∃ cs fz, w.heap[k]? = some (Obj.cells cs 3 fz)) → w'.heap[k]? = w.heap[k]? := fun k ⟨cs', fz', hk⟩ => hg.block k (lt_of_block hk) (row_not hk h.i (by decide))
  have hys : ys.length = X.length * 3 := h.i.1
  refine ⟨by simpa using ho, fun k hk => ?_, fun t ht => ?_⟩
  · rcases hk with hk | rfl
    · obtain ⟨h1, cs', fz', h2⟩ := h.k k hk
      exact ⟨h1, cs', fz', (keepK k ⟨cs', fz', h2⟩).trans h2⟩
    · exact ⟨hgB, cs, fz, (keepK k ⟨cs, fz, hgt⟩).trans hgt⟩
  · by_cases hlt : t < X.length
    · have e1 : (X ++ [x])[t] = X[t] := List.getElem_append_left hlt
      have e2 : List.take 3 (List.drop (t * 3) (ys ++ [.string x.name, .slice a x.cols.length cap, .int .i64 x.root])) = List.take 3 (List.drop (t * 3) ys) := by
        rw [List.drop_append_of_le_length (by omega), List.take_append_of_le_length (by rw [List.length_drop]; omega)]
      rw [e1, e2]
      exact ixR.keep (ixR.weaken (h.x t hlt) fun k hk => Or.inl hk) fun k hk _ => by
        rcases hk with hk | rfl
        · exact keepK k (h.k k hk).2
        · exact keepK k ⟨cs, fz, hgt⟩
    · have e0 : t = X.length := by simp at ht; omega
      subst e0
      have e1 : (X ++ [x])[X.length] = x := by simp
      have e2 : List.take 3 (List.drop (X.length * 3) (ys ++ [.string x.name, .slice a x.cols.length cap, .int .i64 x.root])) = [.string x.name, .slice a x.cols.length cap, .int .i64 x.root] := by
        rw [← hys, List.drop_left]; rfl
      rw [e1, e2]
      exact ⟨a, cap, rfl, hcap, hlen, (hx.weaken fun k hk => Or.inr hk).keep fun k hk _ => by
        rcases hk with hk | rfl
        · exact keepK k (h.k k hk).2
        · exact keepK k ⟨cs, fz, hgt⟩⟩

def GoodIx (n : Nat) (X : List Ix) : Prop := ∀ x ∈ X, 1 ≤ x.cols.length ∧ x.cols.length ≤ 3 ∧ ∀ c ∈ x.cols, 0 ≤ c ∧ c < n
structure GoodT (o : Bool) (T : Tab) : Prop where
  c0 : 1 ≤ T.cols.length
  c1 : T.cols.length ≤ 6
  name : ∀ i (h : i < T.cols.length), T.cols[i].1 = oneS (baseC o + i)
  kind : ∀ c ∈ T.cols, 1 ≤ c.2 ∧ c.2 ≤ 2
  i1 : T.idx.length ≤ 4
  ix : GoodIx T.cols.length T.idx

/-- the table and its indexes so far -/
structure TI (B : Nat) (W0 : World) (bt : Nat) (v : Value) (n : Nat) (xs : List Value) (iv : Value) (K : Nat → Prop) (X : List Ix) (ys : List Value) (w : World) : Prop where
  tb : TB B W0 bt v n xs iv w
  ne : iv.ownBlock ≠ some bt
  ix : IxAt B K iv X ys w
theorem TI.below {B : Nat} {W0 : World} {bt : Nat} {v : Value} {n : Nat} {xs : List Value} {iv : Value} {K : Nat → Prop} {X : List Ix} {ys : List Value} {w w' : World} (h : TI B W0 bt v n xs iv K X ys w) (hb : Below w.heap.size w w') : TI B W0 bt v n xs iv K X ys w' :=
  ⟨h.tb.below hb, h.ne, h.ix.below hb⟩
theorem own_ne {w : World} {B B' : Nat} {e e' : TypeId} {sz sz' : Nat} {v v' : Value} {n n' : Nat} {xs ys : List Value} (h : w.ownsRow B e sz v n xs) (h' : w.ownsRow B' e' sz' v' n' ys) (he : e ≠ e') : v.ownBlock = none ∨ v.ownBlock ≠ v'.ownBlock := by
  rcases h.2 with ⟨rfl, _⟩ | ⟨g, cap, cur, rfl, _, hg, _⟩
  · exact Or.inl rfl
  · exact Or.inr fun e' => row_not hg h' he (by simpa [Value.ownBlock] using e')
theorem TI.push {B : Nat} {W0 : World} {bt : Nat} {v : Value} {n : Nat} {xs : List Value} {iv iv' : Value} {K : Nat → Prop} {X : List Ix} {ys : List Value} {w w' : World} {x : Ix} {a : Option Addr} {cap g : Nat} {cs : Array Value} {fz : Nat × Nat} (h : TI B W0 bt v n xs iv K X ys w) (hg : w.grownBy w' iv.ownBlock)
    (ho : w'.ownsRow B 60 3 iv' (X.length + 1) (ys ++ [.string x.name, .slice a x.cols.length cap, .int .i64 x.root])) (hat : iv'.ownBlock = iv.ownBlock ∨ iv'.ownBlock = some w.heap.size) (hx : RowAt intR (fun k => k = g) w a x.cols) (hcap : x.cols.length ≤ cap) (hlen : x.cols.length ≤ 140737488355328) (hgB : B ≤ g) (hgt : w.heap[g]? = some (.cells cs 3 fz)) :
    TI B W0 bt v n xs iv' (fun k => K k ∨ k = g) (X ++ [x]) (ys ++ [.string x.name, .slice a x.cols.length cap, .int .i64 x.root]) (w'.setCell ⟨bt, 3, none⟩ iv') := by
  have hbt := (hg.block _ (lt_of_block h.tb.h) (fun e => h.ne e.symm)).trans h.tb.h
  have hne : iv'.ownBlock ≠ some bt := by
    intro e
    rcases hat with h1 | h1
    · exact h.ne (h1 ▸ e)
    · rw [h1] at e
      have := lt_of_block h.tb.h
      simp at e
      omega
  exact ⟨⟨⟨(h.tb.o.m.kept hg (own_ne h.tb.o.m h.ix.i (by decide))).kept (grown_set _ _ _ _) (Or.inr h.tb.ne), (h.tb.o.b.grown hg h.tb.size (fun k hk => (h.ix.i.lt k hk).1)).setCell (p := ⟨bt, 3, none⟩) h.tb.ge _⟩, h.tb.ne, h.tb.ge, block_set hbt⟩, hne,
    (h.ix.push hg ho hx hcap hlen hgB hgt).kept (grown_set _ _ _ _) hbt (by decide) (by decide)⟩
/-- an index in the making -/
structure XB (S : Nat) (WS : World) (bx : Nat) (root : Int) (xc : Value) (n : Nat) (xs : List Value) (w : World) : Prop where
  o : OneAt S WS 3 1 xc n xs w
  ne : xc.ownBlock ≠ some bx
  ge : S ≤ bx
  h : w.heap[bx]? = some (.cells #[.string ⟨#[105]⟩, xc, .int .i64 root] 60 (0, 0))
theorem XB.size {S : Nat} {WS : World} {bx : Nat} {root : Int} {xc : Value} {n : Nat} {xs : List Value} {w : World} (h : XB S WS bx root xc n xs w) : S ≤ w.heap.size := Nat.le_trans h.ge (Nat.le_of_lt (lt_of_block h.h))
theorem XB.below {S : Nat} {WS : World} {bx : Nat} {root : Int} {xc : Value} {n : Nat} {xs : List Value} {w w' : World} (h : XB S WS bx root xc n xs w) (hb : Below w.heap.size w w') : XB S WS bx root xc n xs w' :=
  ⟨h.o.below hb h.size, h.ne, h.ge, (hb.block _ (lt_of_block h.h)).trans h.h⟩
structure XA (S : Nat) (WS : World) (bx : Nat) (root : Int) (xc u : Value) (n : Nat) (xs : List Value) (w : World) : Prop where
  o : OneAt S WS 3 1 u n xs w
  ne : u.ownBlock ≠ some bx
  ge : S ≤ bx
  h : w.heap[bx]? = some (.cells #[.string ⟨#[105]⟩, xc, .int .i64 root] 60 (0, 0))
theorem XA.below {S : Nat} {WS : World} {bx : Nat} {root : Int} {xc u : Value} {n : Nat} {xs : List Value} {w w' : World} (h : XA S WS bx root xc u n xs w) (hb : Below w.heap.size w w') : XA S WS bx root xc u n xs w' :=
  ⟨h.o.below hb (Nat.le_trans h.ge (Nat.le_of_lt (lt_of_block h.h))), h.ne, h.ge, (hb.block _ (lt_of_block h.h)).trans h.h⟩
theorem XA.set {S : Nat} {WS : World} {bx : Nat} {root : Int} {xc u : Value} {n : Nat} {xs : List Value} {w : World} (h : XA S WS bx root xc u n xs w) : XB S WS bx root u n xs (w.setCell ⟨bx, 1, none⟩ u) :=
  ⟨⟨h.o.m.kept (grown_set _ _ _ _) (Or.inr h.ne), h.o.b.setCell (p := ⟨bx, 1, none⟩) h.ge _⟩, h.ne, h.ge, block_set h.h⟩
theorem int_row {w : World} {S : Nat} {v : Value} {L : List Int} (h : w.ownsRow S 3 1 v L.length (L.map fun x => Value.int .i64 x)) (hL : 0 < L.length) :
    ∃ g cap cs, v = .slice (some ⟨g, 0, none⟩) L.length cap ∧ S ≤ g ∧ w.heap[g]? = some (.cells cs 3 (0, 0)) ∧ L.length ≤ cap ∧ RowAt intR (fun k => k = g) w (some ⟨g, 0, none⟩) L := by
  obtain ⟨_, ⟨_, h0⟩ | ⟨g, cap, cur, rfl, hb, hg, hn, _, hsz, htk⟩⟩ := h
  · omega
  · refine ⟨g, cap, cur, rfl, hb, hg, hn, Or.inr ⟨g, 0, rfl, rfl, lt_of_block hg, fun t ht => ⟨[.int .i64 L[t]], fun j hj => ?_, rfl⟩⟩⟩
    have hj0 : j = 0 := by simp [intR] at hj; exact hj
    subst hj0
    have h1 : (cur.toList.take (L.length * 1))[t]? = some (.int .i64 L[t]) := by rw [htk]; simp [ht]
    rw [List.getElem?_take_of_lt (by omega)] at h1
    rw [cells_of hg, ← Array.getElem?_toList]
    simpa [intR] using h1

theorem owns_form {w : World} {B : Nat} {e : TypeId} {sz : Nat} {v : Value} {n : Nat} {xs : List Value} (h : w.ownsRow B e sz v n xs) : ∃ a n c, v = .slice a n c := by
  rcases h.2 with ⟨rfl, _⟩ | ⟨g, cap, cur, rfl, _⟩
  · exact ⟨_, _, _, rfl⟩
  · exact ⟨_, _, _, rfl⟩

def NewInt (W : World) (y : Int) (u : Value) (w' : World) : Prop := ∃ b, u = .slice (some ⟨b, 0, none⟩) 1 1 ∧ w'.heap[b]? = some (.cells #[.int .i64 y] 3 (0, 0)) ∧ Below W.heap.size W w'
theorem NewInt.below {W : World} {y : Int} {u : Value} {w w' : World} (h : NewInt W y u w) (hb : Below w.heap.size w w') : NewInt W y u w' := by
  obtain ⟨b, rfl, h1, h2⟩ := h
  exact ⟨b, rfl, (hb.block _ (lt_of_block h1)).trans h1, h2.trans (hb.mono h2.size)⟩
def NewCol (W : World) (c : ByteArray × Int) (u : Value) (w' : World) : Prop := ∃ b, u = .slice (some ⟨b, 0, none⟩) 1 1 ∧ w'.heap[b]? = some (.cells (colEnc c).toArray 38 (0, 0)) ∧ Below W.heap.size W w'
theorem NewCol.below {W : World} {c : ByteArray × Int} {u : Value} {w w' : World} (h : NewCol W c u w) (hb : Below w.heap.size w w') : NewCol W c u w' := by
  obtain ⟨b, rfl, h1, h2⟩ := h
  exact ⟨b, rfl, (hb.block _ (lt_of_block h1)).trans h1, h2.trans (hb.mono h2.size)⟩

set_option maxRecDepth 100000 in
set_option maxHeartbeats 16000000 in
theorem table_any {q : Nat → Prop} {a : Option Addr} {cap : Nat} {s : List Int} {w : World} (o : Bool) (hs : SlV intR q w (.slice a s.length cap) s) :
    Calls Tryd.prog 11 #[.slice a s.length cap, .bool o] w fun e w' => (∃ T v, e = .returned v ∧ TabV (fun k => w.heap.size ≤ k) w' v T ∧ GoodT o T) ∧ Below w.heap.size w w' := by
  obtain ⟨i0, hi, hz0, hz1, hz2⟩ := info_parts info_col
  obtain ⟨W1, hW1⟩ : ∃ W1, w.alloc (.cells #[.int .i64 0, .string ⟨#[]⟩, .slice none 0 0, .slice none 0 0] 30) = W1 := ⟨_, rfl⟩
  have hb1 : Below w.heap.size w W1 := by rw [← hW1]; exact (Below.refl _ _).alloc (Nat.le_refl _) _
  have hres : W1.heap[w.heap.size]? = some (.cells #[.int .i64 0, .string ⟨#[]⟩, .slice none 0 0, .slice none 0 0] 30 (0, 0)) := by rw [← hW1]; exact heap_alloc_new _ _
  have hsz : W1.heap.size = w.heap.size + 1 := by rw [← hW1]; simp
  have HS := Lib.hid (hs.below hb1)
  have HRES := Lib.hid hres
  have B1 := Lib.hid hb1
  have S1 := Lib.hid hsz
  clear hs hb1 hres hsz
  obtain ⟨n0, hn0, hn1, hn2⟩ : ∃ n0 : Nat, takeV s 0 6 = n0 ∧ 0 ≤ n0 ∧ n0 < 6 := by
    have := takeV_bd s 0 6 (by decide)
    exact ⟨(takeV s 0 6).toNat, by omega, by omega, by omega⟩
  have HN := Lib.hid hn0
  clear hn0
  go_enter Tryd.func11, Tryd.ntmps11
  go_upto_region 1 with (fail)
  clear hW1
  go_wp2_with fail
  refine (take_at HS.out 0 (by decide) 6 (by decide) (by decide)).mono ?_
  rintro e w2 ⟨rfl, rfl⟩
  rw [show takeV s (0 : Int).toNat 6 = n0 from HN.out]
  go_upto_region 4 with (fail)
  generalize hW2 : World.alloc _ _ = W2
  have hT2 : TB w2.heap.size w2 w2.heap.size (.slice none 0 0) 0 [] (.slice none 0 0) W2 := by
    rw [← hW2]
    exact ⟨⟨World.ownsRow_nil _ _ _ _, (Below.refl _ _).alloc (Nat.le_refl _) _⟩, by simp [Value.ownBlock], Nat.le_refl _, heap_alloc_new _ _⟩
  clear hW2
  go_wp2_with fail
  go_loopw [5, 8] (fun x5 i wr => ∃ (k : Nat) (v : Value), k ≤ n0 + 1 ∧ x5 = .int .i64 k ∧ i = .int .i64 k ∧ TB w2.heap.size w2 w2.heap.size v k ((colsTo o s k).flatMap colEnc) (.slice none 0 0) wr) (fun _ i _ => 10 - (intOf i).toNat)
  case atStart => exact ⟨0, _, Nat.zero_le _, rfl, rfl, hT2⟩
  case round =>
    obtain ⟨k, v, hk, rfl, rfl, hTB⟩ := hrel
    have TBr := Lib.hid hTB
    clear hTB hT2
    by_cases hlt : k < n0 + 1
    · go_upto_if 30 with (fail)
      go_cut [9] from 31 to 33 (fun s9 wx => s9 = .int .u8 (baseC o + k) ∧ wr = wx)
      case first =>
        cases o
        · go_wp2_with fail
          go_meet
          exact ⟨rfl, rfl⟩
        · go_wp2_with fail
          go_meet
          exact ⟨rfl, rfl⟩
      case rest =>
        obtain ⟨rfl, rfl⟩ := hcut
        obtain ⟨z, hz, hz0', hz1'⟩ : ∃ z, baseC o + k = z ∧ 0 ≤ z ∧ z ≤ 255 := ⟨_, rfl, by unfold baseC; split <;> omega, by unfold baseC; split <;> omega⟩
        rw [hz]
        obtain ⟨y, hy, hy0, hy1⟩ : ∃ y, takeV s (k + 1) 2 = y ∧ 0 ≤ y ∧ y < 2 := ⟨_, rfl, takeV_bd s _ 2 (by decide)⟩
        have HONE := Lib.hid (show colsOne o s k = (oneS z, 1 + y) by unfold colsOne; rw [hz, hy])
        have E1 := Lib.hid (show takeV s ((k : Int) + 1).toNat 2 = y by rw [show ((k : Int) + 1).toNat = k + 1 by omega]; exact hy)
        clear hz hy
        go_upto_region 11 with (fail)
        refine wp_region_loose2 [([0, 1, 2, 5, 6, 7, 8], 3), ([4, 9], 10), ([], 11), ([12], 13)] (fun w' => Below w2.heap.size w2 w' ∧ w'.heap[w2.heap.size]? = some (.cells #[.int .i64 1, .string ⟨#[116]⟩, v, .slice none 0 0] 30 (0, 0))) (Below wr.heap.size wr) (by kernel_rfl) (by kernel_rfl) (by kernel_rfl) (fun w1 w2 h b => h.trans (b.mono h.size)) (Below.drew (Below.refl _ _)) ?_
        have toI : ∀ w', Below wr.heap.size wr w' → Below w2.heap.size w2 w' ∧ w'.heap[w2.heap.size]? = some (.cells #[.int .i64 1, .string ⟨#[116]⟩, v, .slice none 0 0] 30 (0, 0)) := fun w' h => ⟨TBr.out.o.b.trans (h.mono TBr.out.size), (h.block _ (lt_of_block TBr.out.h)).trans TBr.out.h⟩
        have TI := Lib.hid toI
        clear toI
        apply wpSegs_cons (fun w' => Below w2.heap.size w2 w' ∧ w'.heap[w2.heap.size]? = some (.cells #[.int .i64 1, .string ⟨#[116]⟩, v, .slice none 0 0] 30 (0, 0))) (NewByte wr z) (fun _ h => h) TI.out
        case hq =>
          rintro w0 ⟨hw0, hbx⟩
          have ne : Nonempty (Wld (Below w0.heap.size w0)) := ⟨⟨w0, Below.refl _ _⟩⟩
          have H0 := Lib.hid (HS.out.below hw0)
          have cx := fun x : Wld (Below w0.heap.size w0) => cells_of ((x.good.block _ (lt_of_block hbx)).trans hbx) 2
          simp only [List.getElem?_toArray, List.getElem?_cons_zero, List.getElem?_cons_succ] at cx
          clear hbx
          simp only [pickOps, List.getElem?_cons_zero, List.getElem?_cons_succ]
          apply quiet_hide
          intro KE hKE
          repeat (go_big_quiet_step ((go_at_call 25; (with_reducible refine Calls.mono (take_at (H0.out.below (Wld.good _)) _ (by omega) _ (by decide) (by decide)) ?_); rintro e w2 ⟨rfl, rfl⟩; exact ⟨congrArg (fun q => Ending.returned (Value.int .i64 q)) E1.out, class_below _ (Below.refl _ _) (Nat.le_refl _)⟩)))
          refine wpQuiet_nil ?_
          exact hKE _ rfl
        case ho => rfl
        case hop => rfl
        case hw => kernel_rfl
        case hDJ => exact fun _ _ _ h => TI.out _ h.choose_spec.2.2.2
        case hD => exact fun u w1 w2 h hb => h.below hb
        case hlo =>
          intro wa ba
          go_wp2_with fail
          exact ⟨wa.heap.size, rfl, ba.size, heap_alloc_new _ _, ba.alloc ba.size _⟩
        case hrest =>
          rintro u w1 ⟨b, rfl, hb0, -, -⟩
          simp only [Act.put, List.setIfInBounds_toArray, List.set_cons_succ, List.set_cons_zero]
          apply wpSegs_cons (fun w' => (Below w2.heap.size w2 w' ∧ w'.heap[w2.heap.size]? = some (.cells #[.int .i64 1, .string ⟨#[116]⟩, v, .slice none 0 0] 30 (0, 0))) ∧ w'.heap[b]? = some (.cells #[.int .u8 z] 5 (0, 0))) (fun u w' => NewCol wr (oneS z, 1 + y) u w' ∧ w'.heap[b]? = some (.cells #[.int .u8 z] 5 (0, 0))) (fun _ h => h.1) (fun _ h => by
            obtain ⟨b', e, _, h1, h2⟩ := h
            obtain rfl : b = b' := by simpa using e
            exact ⟨TI.out _ h2, h1⟩)
          case hq =>
            rintro w0 ⟨_, hby⟩
            have ne : Nonempty (Wld (Below w0.heap.size w0)) := ⟨⟨w0, Below.refl _ _⟩⟩
            have cv := fun x : Wld (Below w0.heap.size w0) => back_at (z := z) hz0' hz1' ((x.good.block _ (lt_of_block hby)).trans hby)
            clear hby
            simp only [pickOps, List.getElem?_cons_zero, List.getElem?_cons_succ]
            apply quiet_hide
            intro KE hKE
            repeat (go_big_quiet_step (fail))
            refine wpQuiet_nil ?_
            exact hKE _ rfl
          case ho => rfl
          case hop => rfl
          case hw => kernel_rfl
          case hDJ => exact (fun _ _ _ h => ⟨TI.out _ h.1.choose_spec.2.2, h.2⟩)
          case hD => exact fun u w1 w2 h hb => ⟨h.1.below hb, (hb.block _ (lt_of_block h.2)).trans h.2⟩
          case hlo =>
            rintro wa ⟨b', e, _, h1, ba⟩
            obtain rfl : b = b' := by simpa using e
            clear e
            have H1 := Lib.hid h1
            have BA := Lib.hid ba
            clear h1 ba
            go_wp2_with fail
            exact ⟨⟨wa.heap.size, rfl, heap_alloc_new _ _, BA.out.alloc BA.out.size _⟩, (heap_alloc_old _ _ (lt_of_block H1.out)).trans H1.out⟩
          case hrest =>
            rintro u2 w3 ⟨⟨b2, rfl, -, -⟩, -⟩
            simp only [Act.put, List.setIfInBounds_toArray, List.set_cons_succ, List.set_cons_zero]
            refine wpSegs_cons0 (fun u w' => TA w2.heap.size w2 w2.heap.size v u (k + 1) ((colsTo o s (k + 1)).flatMap colEnc) (.slice none 0 0) w' ∧ w'.heap[b]? = some (.cells #[.int .u8 z] 5 (0, 0))) ?sub3 rfl rfl ?want3 ?stable3 ?di3 ?lo3 ?on3
            case sub3 =>
              rintro w' ⟨⟨_, _, _, h2⟩, h'⟩
              exact ⟨TI.out _ h2, h'⟩
            case want3 => kernel_rfl
            case stable3 =>
              rintro u w1 w2 ⟨h1, h2⟩ hb
              exact ⟨h1.below hb, (hb.block _ (lt_of_block h2)).trans h2⟩
            case di3 => exact fun _ _ _ h => ⟨⟨h.1.o.b, h.1.h⟩, h.2⟩
            case lo3 =>
              rintro wa ⟨⟨b', e, h1, ba⟩, hby⟩
              obtain rfl : b2 = b' := by simpa using e
              clear e
              have hTa := TBr.out.below ba
              refine wpList_append_own_at _ rfl _ _ 27 rfl w2.heap.size 38 i0 _ 2 24 Tryd.underlying27 hi hz0 hz1 hz2 rfl (by decide) v k _ rfl hTa.o.m ⟨b2, 0, none⟩ 1 1 (colEnc (oneS z, 1 + y)) rfl rfl (fun j u hj => by rw [addr_add, cells_of h1]; simpa using hj) (col_cells _) (by unfold maxLen; omega) (by omega) hTa.size ?_
              intro v1 w3 o1 g1 hx1 at1
              refine wpList_nil ⟨rfl, v1, rfl, ⟨hTa.o.push hTa.size ?_ g1, ?_, hTa.ge, ?_⟩, ?_⟩
              · rw [colsTo_succ, List.flatMap_append, HONE.out]
                simpa using o1
              · intro e
                rcases at1 with h | h
                · exact hTa.ne (h ▸ e)
                · rw [h] at e
                  have := lt_of_block hTa.h
                  simp at e
                  omega
              · exact (g1.block _ (lt_of_block hTa.h) (fun e => hTa.ne e.symm)).trans hTa.h
              · refine (g1.block b (lt_of_block hby) ?_).trans hby
                intro e
                have := (TBr.out.o.m.lt b e.symm).2
                omega
            case on3 =>
              rintro u3 w4 ⟨-, -⟩
              simp only [Act.put, List.setIfInBounds_toArray, List.set_cons_succ, List.set_cons_zero]
              apply wpSegs_cons (fun w' => (Below w2.heap.size w2 w' ∧ w'.heap[w2.heap.size]? = some (.cells #[.int .i64 1, .string ⟨#[116]⟩, v, .slice none 0 0] 30 (0, 0))) ∧ w'.heap[b]? = some (.cells #[.int .u8 z] 5 (0, 0))) (fun _ w' => TB w2.heap.size w2 w2.heap.size u3 (k + 1) ((colsTo o s (k + 1)).flatMap colEnc) (.slice none 0 0) w') (fun _ h => h) (fun _ h => ⟨⟨h.1.o.b, h.1.h⟩, h.2⟩)
              case hq =>
                rintro w0 -
                have ne : Nonempty (Wld (Below w0.heap.size w0)) := ⟨⟨w0, Below.refl _ _⟩⟩
                simp only [pickOps, List.getElem?_cons_zero, List.getElem?_cons_succ]
                apply quiet_hide
                intro KE hKE
                repeat (go_big_quiet_step (fail))
                refine wpQuiet_nil ?_
                exact hKE _ rfl
              case ho => rfl
              case hop => rfl
              case hw => kernel_rfl
              case hDJ => exact fun h => absurd rfl h
              case hD => exact fun u w1 w2 h hb => h.below hb
              case hlo =>
                rintro wa ⟨hTa, -⟩
                have e2 := cells_of hTa.h 2
                have f2 := free_of hTa.h 2
                simp only [List.getElem?_toArray, List.getElem?_cons_zero, List.getElem?_cons_succ] at e2
                have HTA := Lib.hid hTa
                obtain ⟨ua, un, uc, hu3⟩ := owns_form hTa.o.m
                subst hu3
                clear hTa
                go_wp2_with fail
                exact HTA.out.set
              case hrest =>
                rintro u4 w5 -
                simp only [Act.put, List.setIfInBounds_toArray, List.set_cons_succ, List.set_cons_zero]
                refine wpSegs_nil ?_
                intro w' h
                have H := Lib.hid h
                clear h
                go_wp2_with fail
                go_roundw
                case rel => exact ⟨k + 1, _, by omega, by go_num, by go_num, H.out⟩
                case measure => simp [intOf]; omega
    · have hk2 : k = n0 + 1 := by omega
      subst hk2
      obtain ⟨kk, hkk, hkk1⟩ : ∃ kk : Nat, takeV s (n0 + 1 + 1) 5 = kk ∧ kk < 5 := by
        have := takeV_bd s (n0 + 1 + 1) 5 (by decide)
        exact ⟨(takeV s (n0 + 1 + 1) 5).toNat, by omega, by omega⟩
      have HKK := Lib.hid hkk
      have hsl := TBr.out.size
      obtain ⟨i1, hi1, hz01, hz11, hz21⟩ := info_parts info_int
      obtain ⟨i2, hi2, hz02, hz12, hz22⟩ := info_parts info_index
      have q0 : ¬ (((n0 + 1 : Nat) : Int) < 1 + (n0 : Int)) := by omega
      clear hkk hk hlt
      go_upto_region 12 with (fail)
      clear q0
      go_wp2_with fail
      refine (take_at (HS.out.below TBr.out.o.b) _ (by omega) 5 (by decide) (by decide)).mono ?_
      rintro e w3 ⟨rfl, rfl⟩
      rw [show ((n0 : Int) + 1 + 1).toNat = n0 + 1 + 1 by omega, HKK.out]
      go_wp2_with fail
      obtain ⟨xs, hxs⟩ : ∃ xs, xs = (colsTo o s (n0 + 1)).flatMap colEnc := ⟨_, rfl⟩
      rw [← hxs] at TBr
      go_loopw [5, 11] (fun x5 ii wr => ∃ (A : Int) (i : Nat) (iv : Value) (K : Nat → Prop) (X : List Ix) (ys : List Value), i ≤ kk ∧ x5 = .int .i64 A ∧ ii = .int .i64 i ∧ 0 ≤ A ∧ A ≤ 8 + 4 * (i : Int) ∧ X.length = i ∧ GoodIx (n0 + 1) X ∧ TI w2.heap.size w2 w2.heap.size v (n0 + 1) xs iv K X ys wr) (fun _ ii _ => 10 - (intOf ii).toNat)
      case atStart => exact ⟨_, 0, _, fun _ => False, [], [], Nat.zero_le _, rfl, rfl, by omega, by omega, rfl, fun _ h => by simp at h, TBr.out, by simp [Value.ownBlock], World.ownsRow_nil _ _ _ _, fun _ h => h.elim, fun t ht => by simp at ht⟩
      case round =>
        obtain ⟨A, i, iv, K, X, ys, hi0, rfl, rfl, hA0, hA1, hX, hG, hTI⟩ := hrel
        obtain ⟨wo, hwo⟩ : ∃ wo, wo = wr := ⟨_, rfl⟩
        rw [← hwo] at hTI ⊢
        clear hwo
        have TIr := Lib.hid hTI
        have GX := Lib.hid hG
        have hsr := hTI.tb.size
        clear hTI hG
        by_cases hlt : i < kk
        · obtain ⟨m0, hm0, hm1⟩ : ∃ m0 : Nat, takeV s (A + 1).toNat 3 = m0 ∧ m0 < 3 := by
            have := takeV_bd s (A + 1).toNat 3 (by decide)
            exact ⟨(takeV s (A + 1).toNat 3).toNat, by omega, by omega⟩
          have HM := Lib.hid hm0
          clear hm0
          go_upto_region 19 with (fail)
          generalize hW5 : World.alloc _ _ = W5
          have hXB : XB wo.heap.size wo wo.heap.size i (.slice none 0 0) 0 [] W5 := by
            rw [← hW5]
            exact ⟨⟨World.ownsRow_nil _ _ _ _, (Below.refl _ _).alloc (Nat.le_refl _) _⟩, by simp [Value.ownBlock], Nat.le_refl _, heap_alloc_new _ _⟩
          have XB5 := Lib.hid hXB
          clear hW5 hXB
          have HS5 := Lib.hid (HS.out.below (TIr.out.tb.o.b.trans (XB5.out.o.b.mono hsr)))
          go_wp2_with fail
          refine (take_at HS5.out _ (by omega) 3 (by decide) (by decide)).mono ?_
          rintro e w6 ⟨rfl, rfl⟩
          rw [HM.out]
          go_wp2_with fail
          go_loopw [5, 14] (fun x5 jj wr => ∃ (A' : Int) (j : Nat) (xc : Value) (Lc : List Int), j ≤ m0 + 1 ∧ x5 = .int .i64 A' ∧ jj = .int .i64 j ∧ 0 ≤ A' ∧ A' ≤ 9 + 4 * (i : Int) + j ∧ Lc.length = j ∧ (∀ c ∈ Lc, 0 ≤ c ∧ c < ((n0 + 1 : Nat) : Int)) ∧ XB wo.heap.size wo wo.heap.size i xc j (Lc.map fun x => Value.int .i64 x) wr) (fun _ jj _ => 10 - (intOf jj).toNat)
          case atStart => exact ⟨_, 0, _, [], Nat.zero_le _, rfl, rfl, by omega, by omega, rfl, fun _ h => by simp at h, XB5.out⟩
          case round =>
            obtain ⟨A', j, xc, Lc, hj0, rfl, rfl, hA0', hA1', hLc, hGc, hXq⟩ := hrel
            have XQ := Lib.hid hXq
            have hsq := hXq.size
            have GC := Lib.hid hGc
            clear hXq hGc HS5 XB5
            by_cases hltj : j < m0 + 1
            · obtain ⟨y, hy, hy0, hy1⟩ : ∃ y, takeV s (A' + 1).toNat (1 + (n0 : Int)) = y ∧ 0 ≤ y ∧ y < 1 + (n0 : Int) := ⟨_, rfl, takeV_bd s _ _ (by omega)⟩
              have E1 := Lib.hid hy
              clear hy
              have TI3 := Lib.hid (show ∀ w', Below wr.heap.size wr w' → Below wo.heap.size wo w' ∧ w'.heap[wo.heap.size]? = some (.cells #[.string ⟨#[105]⟩, xc, .int .i64 i] 60 (0, 0)) from fun w' h => ⟨XQ.out.o.b.trans (h.mono XQ.out.size), (h.block _ (lt_of_block XQ.out.h)).trans XQ.out.h⟩)
              go_upto_region 24 with (fail)
              refine wp_region_loose2 [([0, 1, 2, 3, 4, 5], 6), ([], 7), ([8], 9)] (fun w' => Below wo.heap.size wo w' ∧ w'.heap[wo.heap.size]? = some (.cells #[.string ⟨#[105]⟩, xc, .int .i64 i] 60 (0, 0))) (Below wr.heap.size wr) (by kernel_rfl) (by kernel_rfl) (by kernel_rfl) (fun w1 w2 h b => h.trans (b.mono h.size)) (Below.drew (Below.refl _ _)) ?_
              apply wpSegs_cons (fun w' => Below wo.heap.size wo w' ∧ w'.heap[wo.heap.size]? = some (.cells #[.string ⟨#[105]⟩, xc, .int .i64 i] 60 (0, 0))) (NewInt wr y) (fun _ h => h) TI3.out
              case hq =>
                rintro w0 ⟨hw0, hbx⟩
                have ne : Nonempty (Wld (Below w0.heap.size w0)) := ⟨⟨w0, Below.refl _ _⟩⟩
                have H0 := Lib.hid (HS.out.below (TIr.out.tb.o.b.trans (hw0.mono hsr)))
                have cx := fun x : Wld (Below w0.heap.size w0) => cells_of ((x.good.block _ (lt_of_block hbx)).trans hbx) 1
                simp only [List.getElem?_toArray, List.getElem?_cons_zero, List.getElem?_cons_succ] at cx
                clear hbx
                simp only [pickOps, List.getElem?_cons_zero, List.getElem?_cons_succ]
                apply quiet_hide
                intro KE hKE
                repeat (go_big_quiet_step ((go_at_call 25; (with_reducible refine Calls.mono (take_at (H0.out.below (Wld.good _)) _ (by omega) _ (by omega) (by omega)) ?_); rintro e w2 ⟨rfl, rfl⟩; exact ⟨congrArg (fun q => Ending.returned (Value.int .i64 q)) E1.out, class_below _ (Below.refl _ _) (Nat.le_refl _)⟩)))
                refine wpQuiet_nil ?_
                exact hKE _ rfl
              case ho => rfl
              case hop => rfl
              case hw => kernel_rfl
              case hDJ => exact fun _ _ _ h => TI3.out _ h.choose_spec.2.2
              case hD => exact fun u w1 w2 h hb => h.below hb
              case hlo =>
                intro wa ba
                go_wp2_with fail
                exact ⟨wa.heap.size, rfl, heap_alloc_new _ _, ba.alloc ba.size _⟩
              case hrest =>
                rintro u2 w3 ⟨b2, rfl, -, -⟩
                simp only [Act.put, List.setIfInBounds_toArray, List.set_cons_succ, List.set_cons_zero]
                refine wpSegs_cons0 (fun u w' => XA wo.heap.size wo wo.heap.size i xc u (j + 1) ((Lc ++ [y]).map fun x => Value.int .i64 x) w') ?sub3 rfl rfl ?want3 ?stable3 ?di3 ?lo3 ?on3
                case sub3 =>
                  rintro w' ⟨_, _, _, h2⟩
                  exact TI3.out _ h2
                case want3 => kernel_rfl
                case stable3 => exact fun u w1 w2 h hb => h.below hb
                case di3 => exact fun _ _ _ h => ⟨h.o.b, h.h⟩
                case lo3 =>
                  rintro wa ⟨b', e, h1, ba⟩
                  obtain rfl : b2 = b' := by simpa using e
                  clear e
                  have hTa := XQ.out.below ba
                  refine wpList_append_own_at _ rfl _ _ 22 rfl wo.heap.size 3 i1 _ 1 8 Tryd.underlying22 hi1 hz01 hz11 hz21 rfl (by decide) xc j _ rfl hTa.o.m ⟨b2, 0, none⟩ 1 1 [.int .i64 y] rfl rfl (fun j u hj => by rw [addr_add, cells_of h1]; simpa using hj) (fun u hu => by simp at hu; subst hu; rfl) (by unfold maxLen; omega) (by omega) hTa.size ?_
                  intro v1 w3 o1 g1 hx1 at1
                  refine wpList_nil ⟨rfl, v1, rfl, hTa.o.push hTa.size ?_ g1, ?_, hTa.ge, ?_⟩
                  · simpa using o1
                  · intro e
                    rcases at1 with h | h
                    · exact hTa.ne (h ▸ e)
                    · rw [h] at e
                      have := lt_of_block hTa.h
                      simp at e
                      omega
                  · exact (g1.block _ (lt_of_block hTa.h) (fun e => hTa.ne e.symm)).trans hTa.h
                case on3 =>
                  rintro u3 w4 -
                  simp only [Act.put, List.setIfInBounds_toArray, List.set_cons_succ, List.set_cons_zero]
                  apply wpSegs_cons (fun w' => Below wo.heap.size wo w' ∧ w'.heap[wo.heap.size]? = some (.cells #[.string ⟨#[105]⟩, xc, .int .i64 i] 60 (0, 0))) (fun _ w' => XB wo.heap.size wo wo.heap.size i u3 (j + 1) ((Lc ++ [y]).map fun x => Value.int .i64 x) w') (fun _ h => h) (fun _ h => ⟨h.o.b, h.h⟩)
                  case hq =>
                    rintro w0 -
                    have ne : Nonempty (Wld (Below w0.heap.size w0)) := ⟨⟨w0, Below.refl _ _⟩⟩
                    simp only [pickOps, List.getElem?_cons_zero, List.getElem?_cons_succ]
                    apply quiet_hide
                    intro KE hKE
                    repeat (go_big_quiet_step (fail))
                    refine wpQuiet_nil ?_
                    exact hKE _ rfl
                  case ho => rfl
                  case hop => rfl
                  case hw => kernel_rfl
                  case hDJ => exact fun h => absurd rfl h
                  case hD => exact fun u w1 w2 h hb => h.below hb
                  case hlo =>
                    intro wa hTa
                    have e1 := cells_of hTa.h 1
                    have f1 := free_of hTa.h 1
                    simp only [List.getElem?_toArray, List.getElem?_cons_zero, List.getElem?_cons_succ] at e1
                    have HTA := Lib.hid hTa
                    obtain ⟨ua, un, uc, hu3⟩ := owns_form hTa.o.m
                    subst hu3
                    clear hTa
                    go_wp2_with fail
                    have h := HTA.out.set
                    rw [List.map_append] at h
                    exact h
                  case hrest =>
                    rintro u4 w5 -
                    simp only [Act.put, List.setIfInBounds_toArray, List.set_cons_succ, List.set_cons_zero]
                    refine wpSegs_nil ?_
                    intro w' h
                    have H := Lib.hid h
                    clear h
                    have hG2 : ∀ c ∈ Lc ++ [y], 0 ≤ c ∧ c < ((n0 + 1 : Nat) : Int) := fun c hc => by
                      rcases List.mem_append.1 hc with h | h
                      · exact GC.out c h
                      · obtain rfl : c = y := by simpa using h
                        omega
                    have HG2 := Lib.hid hG2
                    clear hG2
                    go_wp2_with fail
                    go_roundw
                    case rel => exact ⟨_, j + 1, _, Lc ++ [y], by omega, rfl, by go_num, by omega, by omega, by simp [hLc], HG2.out, H.out⟩
                    case measure => simp [intOf]; omega
            · have hom := XQ.out.o.m
              rw [← hLc] at hom
              obtain ⟨g, capx, csx, rfl, hgS, hgt, hcapx, hrow⟩ := int_row hom (by omega)
              have hT := TIr.out.below XQ.out.o.b
              have hA := hT.below ((Below.refl _ _).alloc (Nat.le_refl _) (.cells #[.string ⟨#[105]⟩, .slice (some ⟨g, 0, none⟩) j capx, .int .i64 i] 60))
              have HA := Lib.hid hA
              have HRow := Lib.hid (show RowAt intR (fun k => k = g) (wr.alloc (.cells #[.string ⟨#[105]⟩, .slice (some ⟨g, 0, none⟩) j capx, .int .i64 i] 60)) (some ⟨g, 0, none⟩) Lc from hrow.below ((Below.refl _ _).alloc (Nat.le_refl _) _))
              have HGT := Lib.hid ((heap_alloc_old wr (.cells #[.string ⟨#[105]⟩, .slice (some ⟨g, 0, none⟩) j capx, .int .i64 i] 60) (lt_of_block hgt)).trans hgt)
              have e3 := cells_of hT.tb.h 3
              have x0 := cells_of XQ.out.h 0
              have x1 := cells_of XQ.out.h 1
              have x2 := cells_of XQ.out.h 2
              simp only [List.getElem?_toArray, List.getElem?_cons_zero, List.getElem?_cons_succ, hLc] at e3 x0 x1 x2
              have q0 : ¬ ((j : Int) < 1 + (m0 : Int)) := by omega
              have hjm : j ≤ 3 := by omega
              have hX5 : X.length ≤ 5 := by omega
              have hsB := hA.tb.size
              have hgB : w2.heap.size ≤ g := by omega
              have hcap' : Lc.length ≤ capx := hcapx
              have HG2 := Lib.hid (show GoodIx (n0 + 1) (X ++ [⟨⟨#[105]⟩, Lc, i⟩]) from fun x hx => by
                rcases List.mem_append.1 hx with h | h
                · exact GX.out x h
                · obtain rfl : x = ⟨⟨#[105]⟩, Lc, i⟩ := by simpa using h
                  exact ⟨by simp only; omega, by simp only; omega, fun c hc => GC.out c hc⟩)
              clear hom hgt hrow hA hT
              go_upto_region 25 with (fail)
              clear q0
              go_wp2_with (at_builtin; go_loud (refine wpList_append_own_at _ rfl _ _ 28 rfl w2.heap.size 60 i2 _ 3 48 Tryd.underlying28 hi2 hz02 hz12 hz22 rfl (by decide) iv X.length _ rfl HA.out.ix.i ⟨wr.heap.size, 0, none⟩ 1 1 [.string ⟨#[105]⟩, .slice (some ⟨g, 0, none⟩) j capx, .int .i64 i] rfl rfl (fun j u hj => by rw [addr_add, cells_of (heap_alloc_new _ _)]; simpa using hj) (fun u hu => by simp at hu; rcases hu with rfl | rfl | rfl <;> rfl) (by unfold maxLen; omega) (by omega) hsB ?_; intro v' w7 o1 g1 hx1 at1; clear hx1; have hb7 := (g1.block _ (lt_of_block HA.out.tb.h) (fun e => HA.out.ne e.symm)).trans HA.out.tb.h; have y3 := cells_of hb7 3; have f3 := free_of hb7 3; simp only [List.getElem?_toArray, List.getElem?_cons_zero, List.getElem?_cons_succ] at y3; have O1 := Lib.hid o1; have G1 := Lib.hid g1; have A1 := Lib.hid at1; obtain ⟨ua, un, uc, hv'⟩ := owns_form o1; subst hv'; clear hb7 o1 g1 at1))
              have N := TI.push (x := ⟨⟨#[105]⟩, Lc, i⟩) HA.out G1.out (by simpa [hLc] using O1.out) A1.out HRow.out hcap' (by simp only; omega) hgB HGT.out
              have NN := Lib.hid N
              clear N
              go_roundw
              case rel => exact ⟨_, i + 1, _, _, X ++ [⟨⟨#[105]⟩, Lc, i⟩], _, by omega, rfl, by go_num, by omega, by omega, by simp [hX], HG2.out, NN.out⟩
              case measure => simp [intOf]; omega
        · have hik : i = kk := by omega
          have hT := TIr.out
          obtain ⟨L, hL⟩ : ∃ L, L = colsTo o s (n0 + 1) := ⟨_, rfl⟩
          have hLl : L.length = n0 + 1 := by rw [hL, colsTo_len]
          have hmo := hT.tb.o.m
          rw [hxs, ← hL, ← hLl] at hmo
          obtain ⟨a', c', hv, h1, h2, _⟩ := RowAt.of_owns_flat (enc := colEnc) (sz := 2) (hl := fun _ => rfl) (p := fun k => w2.heap.size ≤ k) hmo (fun k h => h)
          obtain ⟨a'', c'', hiv, h3, h4, _⟩ := RowAt.of_owns (R := ixR) (p := fun k => w2.heap.size ≤ k) hT.ix.i (fun k h => h) (fun t ht => ixR.weaken (hT.ix.x t ht) fun k hk => (hT.ix.k k hk).1)
          subst hv hiv
          have HGT := Lib.hid (show GoodT o ⟨1, ⟨#[116]⟩, L, X⟩ from ⟨by simp only; omega, by simp only; omega, fun i h => by simp [hL, colsTo, colsOne], fun c hc => by
            simp only [hL, colsTo, List.mem_map, List.mem_range] at hc
            obtain ⟨t, _, rfl⟩ := hc
            have := takeV_bd s (t + 1) 2 (by decide)
            simp only [colsOne]
            omega, by simp only; omega, by simp only [hLl]; exact GX.out⟩)
          have hr := (hT.tb.o.b.block w.heap.size (by rw [S1.out]; exact Nat.lt_succ_self _)).trans HRES.out
          have e0 := cells_of hT.tb.h 0
          have e1 := cells_of hT.tb.h 1
          have e2 := cells_of hT.tb.h 2
          have e3 := cells_of hT.tb.h 3
          have r0 := cells_of hr 0
          have r1 := cells_of hr 1
          have r2 := cells_of hr 2
          have r3 := cells_of hr 3
          have f0 := free_of hr 0
          have f1 := free_of hr 1
          have f2 := free_of hr 2
          have f3 := free_of hr 3
          simp only [List.getElem?_toArray, List.getElem?_cons_zero, List.getElem?_cons_succ] at e0 e1 e2 e3 r0 r1 r2 r3
          have keep : ∀ k, w2.heap.size ≤ k → k < wo.heap.size → ((((wo.setCell ⟨w.heap.size, 0, none⟩ (.int .i64 1)).setCell ⟨w.heap.size, 1, none⟩ (.string ⟨#[116]⟩)).setCell ⟨w.heap.size, 2, none⟩ (.slice a' L.length c')).setCell ⟨w.heap.size, 3, none⟩ (.slice a'' X.length c'')).heap[k]? = wo.heap[k]? := fun k hk _ => other_set4 (by have := S1.out; omega)
          have HC := Lib.hid (show SlV colR (fun k => w.heap.size ≤ k) _ (.slice a' L.length c') L from ⟨a', c', rfl, h1, by omega, (h2.keep keep).weaken fun k hk => by have := S1.out; omega⟩)
          have HI := Lib.hid (show SlV ixR (fun k => w.heap.size ≤ k) _ (.slice a'' X.length c'') X from ⟨a'', c'', rfl, h3, by omega, (h4.keep keep).weaken fun k hk => by have := S1.out; omega⟩)
          have HB := Lib.hid (B1.out.trans (hT.tb.o.b.mono B1.out.size))
          have q0 : ¬ ((i : Int) < (kk : Int)) := by omega
          clear hT hmo h1 h2 h3 h4 hr hL hik keep hxs hLl hX
          go_upto_region 26 with (fail)
          clear q0
          go_wp2_with fail
          refine bodyPost_ret (v := .agg #[.int .i64 1, .string ⟨#[116]⟩, .slice a' L.length c', .slice a'' X.length c'']) (by simp [results, Tryd.results11, go_sem, r0, r1, r2, r3, f0, f1, f2, f3]) rfl ⟨⟨_, _, rfl, tabV_of (T := ⟨1, ⟨#[116]⟩, L, X⟩) HC.out HI.out, HGT.out⟩, below_set4 HB.out (Nat.le_refl _)⟩
end Go.Proofs.YtajlngkakpjncaaDoor
