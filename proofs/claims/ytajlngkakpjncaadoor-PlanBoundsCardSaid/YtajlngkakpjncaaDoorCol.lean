/- The small functions of package plan: col, led, rows, between, left. -/
import Derived.Test.YtajlngkakpjncaaDoorData
import Derived.LoopN
namespace Go.Proofs.YtajlngkakpjncaaDoor
set_option linter.unusedVariables false
set_option linter.unusedSimpArgs false
open Go.RowKit

theorem col1_any (c : ByteArray × Int) (name : ByteArray) (bn : Nat) (w : World) (hn : w.cell? ⟨bn, 0, none⟩ = some (.string name)) :
    Calls Tryd.prog 48 #[.agg #[.string c.1, .int .i64 c.2], .pointer (some ⟨bn, 0, none⟩)] w fun e w' => e = .returned (.bool (sEq c.1 name)) ∧ Below w.heap.size w w' := by
  have hbn := World.block_lt_of_cell? w _ hn
  simp only at hbn
  go_enter Tryd.func48, Tryd.ntmps48
  go_wp2_with fail
  go_ret
  exact ⟨rfl, by go_grown⟩

theorem ifcol_any (a : Option Addr) (cap : Nat) (L : List (ByteArray × Int)) (p : Nat → Prop) (name : ByteArray) (bn : Nat) (w : World) (h : RowAt colR p w a L) (hn : w.cell? ⟨bn, 0, none⟩ = some (.string name)) (hL : L.length ≤ 140737488355328) :
    Calls Tryd.prog 47 #[.slice a L.length cap, .func (.func 48) #[] #[.pointer (some ⟨bn, 0, none⟩)]] w fun e w' => e = .returned (.int .i64 (idxOf (fun c => sEq c.1 name) L)) ∧ Below w.heap.size w w' := by
  have H := Lib.hid h
  have HN := Lib.hid hn
  clear h hn
  go_enter Tryd.func47, Tryd.ntmps47
  go_wp2_with fail
  go_loopw [8] (fun i wr => ∃ k : Nat, k ≤ L.length ∧ i = .int .i64 k ∧ (∀ t (ht : t < L.length), t < k → sEq L[t].1 name = false) ∧ Below w.heap.size w wr) (fun i _ => L.length - (intOf i).toNat)
  case atStart => exact ⟨0, by omega, rfl, fun t _ ht => by omega, Below.refl _ _⟩
  case round =>
    obtain ⟨k, hk, rfl, hall, hb⟩ := hrel
    have HA := Lib.hid hall
    clear hall
    by_cases h1 : k < L.length
    · obtain ⟨b, off, rfl, _, hbl⟩ := H.out.addr (by intro e; rw [e] at h1; cases h1)
      obtain ⟨c0, c1⟩ := (H.out.below hb).col k h1
      have hn' := hb.cell (World.block_lt_of_cell? w _ HN.out)
      rw [HN.out] at hn'
      have HN' := Lib.hid hn'
      clear hn'
      have CC := Lib.hid hb
      clear hb
      go_wp2_with fail
      refine (col1_any L[k] name bn _ HN'.out).mono ?_
      rintro e w2 ⟨rfl, b2⟩
      have C2 := Lib.hid (CC.out.trans (b2.mono CC.out.size))
      clear b2
      cases hs : sEq L[k].1 name
      · go_wp2_with fail
        go_roundw
        case rel => exact ⟨k + 1, by omega, by go_num, fun t ht htk => by rcases (show t < k ∨ t = k by omega) with h | rfl; exact HA.out t ht h; exact hs, C2.out⟩
        case measure => simp [intOf]; omega
      · go_wp2_with fail
        go_ret
        exact ⟨by rw [idxOf_hit h1 hs (fun t ht => HA.out t (by omega) ht)]; rfl, C2.out⟩
    · have hkl : k = L.length := by omega
      subst hkl
      go_wp2_with fail
      go_ret
      exact ⟨by rw [idxOf_miss (fun t ht => HA.out t ht ht)]; rfl, hb⟩

theorem col_any {p : Nat → Prop} {tv : Value} {T : Tab} {w : World} (h : TabV p w tv T) (name : ByteArray) :
    Calls Tryd.prog 27 #[tv, .string name] w fun e w' => e = .returned (.int .i64 (colOf T name)) ∧ Below w.heap.size w w' := by
  obtain ⟨ac, cc, ai, ci, rfl, h1, _⟩ := h
  obtain ⟨_, _, hL, hr⟩ := h1.row
  have hr2 := hr.below (((Below.refl w.heap.size w).alloc (Nat.le_refl _) (.cells #[.int .i64 T.id, .string T.name, .slice ac T.cols.length cc, .slice ai T.idx.length ci] 30)).alloc (by simp) (.cells #[.string name] 9))
  have H := Lib.hid hr2
  clear hr2 hr h1
  go_enter Tryd.func27, Tryd.ntmps27
  go_wp2_with fail
  refine (ifcol_any ac cc T.cols p name (w.heap.size + 1) _ H.out (by go_cell) hL).mono ?_
  rintro e w2 ⟨rfl, b2⟩
  go_wp2_with fail
  go_ret
  exact ⟨rfl, ((((Below.refl _ _).alloc (Nat.le_refl _) _).alloc (by simp) _).trans (b2.mono (by simp; omega)))⟩
end Go.Proofs.YtajlngkakpjncaaDoor
