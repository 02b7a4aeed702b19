/- vintnerref19.Where: conditions that numbers describe. -/
import Derived.Test.YtajlngkakpjncaaDoorRTake
import Derived.Test.YtajlngkakpjncaaDoorPlan0
import Derived.Test.YtajlngkakpjncaaDoorLoose2
import Derived.Test.YtajlngkakpjncaaDoorMake
namespace Go.Proofs.YtajlngkakpjncaaDoor
set_option linter.unusedVariables false
set_option linter.unusedSimpArgs false
open Go.RowKit

/-- a row of the call's own -/
structure OneAt (B : Nat) (W0 : World) (e : TypeId) (sz : Nat) (v : Value) (n : Nat) (xs : List Value) (w : World) : Prop where
  m : w.ownsRow B e sz v n xs
  b : Below B W0 w
theorem OneAt.below {B : Nat} {W0 : World} {e : TypeId} {sz : Nat} {v : Value} {n : Nat} {xs : List Value} {w w' : World} (h : OneAt B W0 e sz v n xs w) (hb : Below w.heap.size w w') (hB : B ≤ w.heap.size) : OneAt B W0 e sz v n xs w' :=
  ⟨owns_below h.m hb, h.b.trans (hb.mono hB)⟩
theorem OneAt.push {B : Nat} {W0 : World} {e : TypeId} {sz : Nat} {v v' : Value} {n : Nat} {xs ys : List Value} {w w1 : World} (h : OneAt B W0 e sz v n xs w) (hB : B ≤ w.heap.size) (ho : w1.ownsRow B e sz v' (n + 1) ys) (hg : w.grownBy w1 v.ownBlock) : OneAt B W0 e sz v' (n + 1) ys w1 :=
  ⟨ho, h.b.grown hg hB (fun k hk => (h.m.lt k hk).1)⟩

def wherOne (s : List Int) (i : Nat) : Cond := ⟨oneS (97 + takeV s (3 * i) 8), 1 + takeV s (3 * i + 1) 6, valOf (s.getD (3 * i + 2) 0)⟩
def wherTo (s : List Int) (k : Nat) : List Cond := (List.range k).map (wherOne s)
def wherV (s : List Int) : List Cond := wherTo s (min (s.length / 3) 6)
theorem wherTo_succ (s : List Int) (k : Nat) : wherTo s (k + 1) = wherTo s k ++ [wherOne s k] := by
  unfold wherTo; rw [List.range_succ, List.map_append]; rfl
theorem wherTo_len (s : List Int) (k : Nat) : (wherTo s k).length = k := by simp [wherTo]

/-- a new row of one condition -/
def NewCond (W : World) (c : Cond) (u : Value) (w' : World) : Prop := ∃ b, u = .slice (some ⟨b, 0, none⟩) 1 1 ∧ w'.heap[b]? = some (.cells (condEnc c).toArray 44 (0, 0)) ∧ Below W.heap.size W w'
def NewByte (W : World) (z : Int) (u : Value) (w' : World) : Prop := ∃ b, u = .slice (some ⟨b, 0, none⟩) 1 1 ∧ W.heap.size ≤ b ∧ w'.heap[b]? = some (.cells #[.int .u8 z] 5 (0, 0)) ∧ Below W.heap.size W w'
theorem NewCond.below {W : World} {c : Cond} {u : Value} {w w' : World} (h : NewCond W c u w) (hb : Below w.heap.size w w') : NewCond W c u w' := by
  obtain ⟨b, rfl, h1, h2⟩ := h
  exact ⟨b, rfl, (hb.block _ (lt_of_block h1)).trans h1, h2.trans (hb.mono h2.size)⟩
theorem NewByte.below {W : World} {z : Int} {u : Value} {w w' : World} (h : NewByte W z u w) (hb : Below w.heap.size w w') : NewByte W z u w' := by
  obtain ⟨b, rfl, h0, h1, h2⟩ := h
  exact ⟨b, rfl, h0, (hb.block _ (lt_of_block h1)).trans h1, h2.trans (hb.mono h2.size)⟩
theorem back_at {w : World} {b : Nat} {z : Int} (h0 : 0 ≤ z) (h1 : z ≤ 255) (h : w.heap[b]? = some (.cells #[.int .u8 z] 5 (0, 0))) : (convert 82 9 (.slice (some ⟨b, 0, none⟩) 1 1)).run Tryd.prog w = .ok (.string (oneS z)) w := by
  have hz : ((UInt8.ofNat z.toNat).toNat : Int) = z := by
    rw [UInt8.toNat_ofNat']
    omega
  exact run_convert_bytes_back w 82 9 5 ⟨b, 0, none⟩ 1 [UInt8.ofNat z.toNat] Tryd.underlying82 Tryd.underlying5 Tryd.underlying9 (fun j hj => by
    have hj0 : j = 0 := by simpa using hj
    subst hj0
    rw [addr_zero, cells_of h]
    simp
    omega)

set_option maxRecDepth 100000 in
set_option maxHeartbeats 8000000 in
theorem where_any {p : Nat → Prop} {a : Option Addr} {cap : Nat} {s : List Int} {w : World} (hs : SlV intR p w (.slice a s.length cap) s) (hf : ∀ x ∈ s, -9223372036854775808 ≤ x ∧ x ≤ 9223372036854775807) :
    Calls Tryd.prog 16 #[.slice a s.length cap] w fun e w' => (∃ v, e = .returned v ∧ ∃ a' c', v = .slice a' (wherV s).length c' ∧ SlV condR (fun k => w.heap.size ≤ k) w' (.slice a' (wherV s).length c') (wherV s)) ∧ Below w.heap.size w w' := by
  obtain ⟨_, _, hL, hr⟩ := hs.row
  obtain ⟨i0, hi, hz0, hz1, hz2⟩ := info_parts info_cond
  have HS := Lib.hid hs
  have HR := Lib.hid hr
  have HF := Lib.hid hf
  clear hs hr hf
  go_enter Tryd.func16, Tryd.ntmps16
  go_wp2_with fail
  go_loopw [3, 4] (fun x i wr => ∃ (k : Nat) (v : Value), k ≤ min (s.length / 3) 6 ∧ i = .int .i64 ((3 * k : Nat) : Int) ∧ v = x ∧ OneAt w.heap.size w 44 5 v k ((wherTo s k).flatMap condEnc) wr) (fun _ i _ => 18 - (intOf i).toNat)
  case atStart => exact ⟨0, _, Nat.zero_le _, rfl, rfl, World.ownsRow_nil _ _ _ _, Below.refl _ _⟩
  case round =>
    obtain ⟨k, v, hk, rfl, rfl, hO⟩ := hrel
    have hk6 : k ≤ 6 := by omega
    have hk3 : 3 * k ≤ s.length := by omega
    have OW := Lib.hid hO
    have hB := hO.b.size
    clear hO
    by_cases hlt : k < min (s.length / 3) 6
    · have h1 : 3 * k + 2 < s.length := by omega
      have h2 : 3 * k < 18 := by omega
      obtain ⟨bs, os, rfl, _, hbs⟩ := HR.out.addr (by intro e; rw [e] at h1; cases h1)
      have cx := HR.out.int (3 * k + 2) h1
      obtain ⟨x, hx⟩ : ∃ x, x = s[3 * k + 2] := ⟨_, rfl⟩
      have hxf := HF.out x (by rw [hx]; exact List.getElem_mem h1)
      rw [← hx] at cx
      obtain ⟨z, hz, hz0', hz1'⟩ : ∃ z, takeV s (3 * k) 8 = z ∧ 0 ≤ z ∧ z < 8 := ⟨_, rfl, takeV_bd s _ 8 (by decide)⟩
      obtain ⟨y, hy, hy0, hy1⟩ : ∃ y, takeV s (3 * k + 1) 6 = y ∧ 0 ≤ y ∧ y < 6 := ⟨_, rfl, takeV_bd s _ 6 (by decide)⟩
      have hone : wherOne s k = ⟨oneS (97 + z), 1 + y, valOf x⟩ := by
        unfold wherOne
        rw [hz, hy, hx, List.getD_eq_getElem?_getD, List.getElem?_eq_getElem h1]
        rfl
      have HONE := Lib.hid hone
      have HX := Lib.hid cx
      clear cx hx hone
      go_upto_region 5 with (fail)
      have E1 := Lib.hid (show takeV s (3 * (k : Int)).toNat 8 = z by rw [show (3 * (k : Int)).toNat = 3 * k by omega]; exact hz)
      have E2 := Lib.hid (show takeV s (3 * (k : Int) + 1).toNat 6 = y by rw [show (3 * (k : Int) + 1).toNat = 3 * k + 1 by omega]; exact hy)
      clear hz hy
      refine wp_region_loose2 [([0, 1, 2, 3, 4, 5, 8, 9, 10, 11, 12, 13, 14, 15, 16, 17, 18], 6), ([7, 19], 20), ([], 21), ([], 22)] (Below w.heap.size w) (Below wr.heap.size wr) (by kernel_rfl) (by kernel_rfl) (by kernel_rfl) (fun w1 w2 h b => h.trans (b.mono h.size)) (Below.drew (Below.refl _ _)) ?_
      apply wpSegs_cons (Below w.heap.size w) (NewByte wr (97 + z)) (fun _ h => h) (fun _ h => OW.out.b.trans (h.mono hB))
      case hq =>
        intro w0 hw0
        have ne : Nonempty (Wld (Below w0.heap.size w0)) := ⟨⟨w0, Below.refl _ _⟩⟩
        have H0 := Lib.hid (HS.out.below hw0)
        have cx := fun x : Wld (Below w0.heap.size w0) => ((hw0.trans (x.good.mono hw0.size)).cell (p := ⟨bs, os + (3 * k + 2), none⟩) hbs).trans HX.out
        simp only [pickOps, List.getElem?_cons_zero, List.getElem?_cons_succ]
        apply quiet_hide
        intro KE hKE
        repeat (go_big_quiet_step (first | ((go_at_call 25; (with_reducible refine Calls.mono (take_at (H0.out.below (Wld.good _)) _ (by omega) _ (by decide) (by decide)) ?_); rintro e w2 ⟨rfl, rfl⟩; first | exact ⟨congrArg (fun q => Ending.returned (Value.int .i64 q)) E1.out, class_below _ (Below.refl _ _) (Nat.le_refl _)⟩ | exact ⟨congrArg (fun q => Ending.returned (Value.int .i64 q)) E2.out, class_below _ (Below.refl _ _) (Nat.le_refl _)⟩)) | ((go_at_call 14; (with_reducible refine Calls.mono (value_any x hxf _) ?_); rintro e w2 ⟨rfl, b2⟩; exact ⟨rfl, class_below _ b2 (Nat.le_refl _)⟩))))
        refine wpQuiet_nil ?_
        exact hKE _ rfl
      case ho => rfl
      case hop => rfl
      case hw => kernel_rfl
      case hDJ => exact (fun _ _ _ h => OW.out.b.trans (h.choose_spec.2.2.2.mono hB))
      case hD => exact fun u w1 w2 h hb => h.below hb
      case hlo =>
        intro wa ba
        go_wp2_with fail
        exact ⟨wa.heap.size, rfl, ba.size, heap_alloc_new _ _, ba.alloc ba.size _⟩
      case hrest =>
        rintro u w1 ⟨b, rfl, hb0, -, -⟩
        simp only [Act.put, List.setIfInBounds_toArray, List.set_cons_succ, List.set_cons_zero]
        apply wpSegs_cons (fun w' => Below w.heap.size w w' ∧ w'.heap[b]? = some (.cells #[.int .u8 (97 + z)] 5 (0, 0))) (fun u w' => NewCond wr ⟨oneS (97 + z), 1 + y, valOf x⟩ u w' ∧ w'.heap[b]? = some (.cells #[.int .u8 (97 + z)] 5 (0, 0))) (fun _ h => h.1) (fun _ h => by
          obtain ⟨b', e, _, h1, h2⟩ := h
          obtain rfl : b = b' := by simpa using e
          exact ⟨OW.out.b.trans (h2.mono hB), h1⟩)
        case hq =>
          rintro w0 ⟨hw0, hby⟩
          have ne : Nonempty (Wld (Below w0.heap.size w0)) := ⟨⟨w0, Below.refl _ _⟩⟩
          have cv := fun x : Wld (Below w0.heap.size w0) => back_at (z := 97 + z) (by omega) (by omega) ((x.good.block _ (lt_of_block hby)).trans hby)
          clear hby
          simp only [pickOps, List.getElem?_cons_zero, List.getElem?_cons_succ]
          apply quiet_hide
          intro KE hKE
          repeat (go_big_quiet_step (fail))
          refine wpQuiet_nil ?_
          exact hKE _ rfl
        case ho => rfl
        case hop => rfl
        case hw => kernel_rfl
        case hDJ => exact (fun _ _ _ h => ⟨OW.out.b.trans (h.1.choose_spec.2.2.mono hB), h.2⟩)
        case hD => exact fun u w1 w2 h hb => ⟨h.1.below hb, (hb.block _ (lt_of_block h.2)).trans h.2⟩
        case hlo =>
          rintro wa ⟨b', e, _, h1, ba⟩
          obtain rfl : b = b' := by simpa using e
          clear e
          have H1 := Lib.hid h1
          have BA := Lib.hid ba
          clear h1 ba
          go_wp2_with fail
          exact ⟨⟨wa.heap.size, rfl, heap_alloc_new _ _, BA.out.alloc BA.out.size _⟩, (heap_alloc_old _ _ (lt_of_block H1.out)).trans H1.out⟩
        case hrest =>
          rintro u2 w2 ⟨⟨b2, rfl, -, -⟩, -⟩
          simp only [Act.put, List.setIfInBounds_toArray, List.set_cons_succ, List.set_cons_zero]
          refine wpSegs_cons0 (fun u w' => OneAt w.heap.size w 44 5 u (k + 1) ((wherTo s (k + 1)).flatMap condEnc) w' ∧ w'.heap[b]? = some (.cells #[.int .u8 (97 + z)] 5 (0, 0))) ?sub3 rfl rfl ?want3 ?stable3 ?di3 ?lo3 ?on3
          case sub3 =>
            rintro w' ⟨⟨_, _, _, h2⟩, h'⟩
            exact ⟨OW.out.b.trans (h2.mono hB), h'⟩
          case want3 => kernel_rfl
          case stable3 =>
            rintro u w1 w2 ⟨h1, h2⟩ hb
            exact ⟨h1.below hb h1.b.size, (hb.block _ (lt_of_block h2)).trans h2⟩
          case di3 => exact fun _ _ _ h => ⟨h.1.b, h.2⟩
          case lo3 =>
            rintro wa ⟨⟨b', e, h1, ba⟩, hby⟩
            obtain rfl : b2 = b' := by simpa using e
            clear e
            refine wpList_append_own_at _ rfl _ _ 36 rfl w.heap.size 44 i0 _ 5 56 Tryd.underlying36 hi hz0 hz1 hz2 rfl (by decide) v k _ rfl (OW.out.below ba hB).m ⟨b2, 0, none⟩ 1 1 (condEnc ⟨oneS (97 + z), 1 + y, valOf x⟩) rfl rfl (fun j u hj => by rw [addr_add, cells_of h1]; simpa using hj) (cond_cells _) (by unfold maxLen; omega) (by omega) (Nat.le_trans hB ba.size) ?_
            intro v1 w3 o1 g1 hx1 at1
            refine wpList_nil ⟨rfl, v1, rfl, (OW.out.below ba hB).push (Nat.le_trans hB ba.size) ?_ g1, ?_⟩
            · rw [wherTo_succ, List.flatMap_append, HONE.out]
              simpa using o1
            · refine (g1.block b (lt_of_block hby) ?_).trans hby
              intro e
              have := (OW.out.m.lt b e.symm).2
              omega
          case on3 =>
            rintro u3 w3 ⟨-, -⟩
            simp only [Act.put, List.setIfInBounds_toArray, List.set_cons_succ, List.set_cons_zero]
            refine wpSegs_assign (fun w1 w2 h hb => ⟨h.1.below hb h.1.b.size, (hb.block _ (lt_of_block h.2)).trans h.2⟩) (fun _ h => ⟨h.1.b, h.2⟩) rfl rfl (by kernel_rfl) rfl (fun w' h => ?_)
            have H := Lib.hid h.1
            clear h
            simp only [Act.put, List.setIfInBounds_toArray, List.set_cons_succ, List.set_cons_zero]
            go_wp2_with fail
            go_roundw
            case rel => exact ⟨k + 1, _, by omega, by go_num, rfl, H.out⟩
            case measure => simp [intOf]; omega
    · have hk2 : k = min (s.length / 3) 6 := by omega
      have hO := OW.out
      have e0 : wherV s = wherTo s k := by unfold wherV; rw [← hk2]
      rw [show k = (wherTo s k).length from (wherTo_len s k).symm] at hO
      obtain ⟨a', c', hv, h1, h2, _⟩ := RowAt.of_owns_flat (enc := condEnc) (sz := 5) (hl := fun _ => rfl) (p := fun k => w.heap.size ≤ k) (L := wherTo s k) (by simpa [wherTo_len] using hO.m) (fun k h => h)
      have HV := Lib.hid hv
      have HRow := Lib.hid (show SlV condR (fun k => w.heap.size ≤ k) wr (.slice a' (wherV s).length c') (wherV s) from by rw [e0]; exact ⟨a', c', rfl, h1, by rw [wherTo_len]; omega, h2⟩)
      have E0 := Lib.hid e0
      clear hO hv h1 h2 e0 hk2
      rcases (show ¬ 3 * k + 2 < s.length ∨ (3 * k + 2 < s.length ∧ ¬ 3 * k < 18) by omega) with h | ⟨h, h'⟩
      · have q1 : ¬ (3 * (k : Int) + 2 < (s.length : Int)) := by omega
        go_wp2_with fail
        go_ret
        exact ⟨⟨_, rfl, a', c', by rw [HV.out, E0.out]; rfl, HRow.out⟩, OW.out.b⟩
      · have q1 : 3 * (k : Int) + 2 < (s.length : Int) := by omega
        have q2 : ¬ (3 * (k : Int) < 18) := by omega
        go_wp2_with fail
        go_ret
        exact ⟨⟨_, rfl, a', c', by rw [HV.out, E0.out]; rfl, HRow.out⟩, OW.out.b⟩
end Go.Proofs.YtajlngkakpjncaaDoor
