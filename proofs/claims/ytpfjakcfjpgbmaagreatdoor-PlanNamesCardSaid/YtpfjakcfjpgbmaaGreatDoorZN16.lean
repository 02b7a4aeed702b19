/- The small functions of package plan: led, rows, between, left; the reference's col. -/
import Derived.Test.YtpfjakcfjpgbmaaGreatDoorZN14
import Derived.Deep.QuietTactic
import Derived.BigQuiet
namespace Go.Proofs.YtpfjakcfjpgbmaaGreatDoor
set_option linter.unusedVariables false
set_option linter.unusedSimpArgs false
open Go.RowKit

theorem betw_any (lo n hi : Int) (w : World) : Calls Tryz.prog 112 #[.int .i64 lo, .int .i64 n, .int .i64 hi] w fun e w' => e = .returned (.int .i64 (clampI lo n hi)) ∧ w = w' := by
  have h1 : (if hi < n then hi else n) = min n hi := by rw [Int.min_def]; split <;> split <;> omega
  have h2 : (if lo < min n hi then min n hi else lo) = clampI lo n hi := by unfold clampI; rw [Int.max_def]; split <;> split <;> omega
  go_enter Tryz.func112, Tryz.ntmps112
  go_wp2_with fail
  go_ret
  exact ⟨rfl, rfl⟩

theorem led1_any (x : Ix) (a : Option Addr) (cap : Nat) (p : Nat → Prop) (c : Int) (bn : Nat) (w : World) (h : SlV intR p w (.slice a x.cols.length cap) x.cols) (hn : w.cell? ⟨bn, 0, none⟩ = some (.int .i64 c)) :
    Calls Tryz.prog 111 #[.agg #[.string x.name, .slice a x.cols.length cap, .int .i64 x.root], .pointer (some ⟨bn, 0, none⟩)] w
      fun e w' => e = .returned (.bool (decide (0 < x.cols.length) && (x.cols.getD 0 0 == c))) ∧ Below w.heap.size w w' := by
  obtain ⟨_, _, hL, hr⟩ := h.row
  have hbn := World.block_lt_of_cell? w _ hn
  simp only at hbn
  by_cases h0 : 0 < x.cols.length
  · have hx : decide (0 < x.cols.length) = true := by simpa using h0
    obtain ⟨b, off, rfl, _, hbl⟩ := hr.addr (by intro e; rw [e] at h0; cases h0)
    have c0 := hr.int 0 h0
    rw [Nat.add_zero] at c0
    have e0 : x.cols.getD 0 0 = x.cols[0] := by rw [List.getD_eq_getElem?_getD, List.getElem?_eq_getElem h0]; rfl
    have E0 := Lib.hid e0
    have HR := Lib.hid hr
    clear hr e0 h
    go_enter Tryz.func111, Tryz.ntmps111
    go_wp2_with fail
    go_quiet (fail)
    go_wp2_with fail
    go_ret
    exact ⟨by rw [E0.out, hx]; rfl, below_drewN ((Below.refl _ _).alloc (Nat.le_refl _) _) _⟩
  · have hx : decide (0 < x.cols.length) = false := by simpa using h0
    clear h hr
    go_enter Tryz.func111, Tryz.ntmps111
    go_wp2_with fail
    go_quiet (fail)
    go_wp2_with fail
    go_ret
    exact ⟨by rw [hx]; rfl, below_drewN ((Below.refl _ _).alloc (Nat.le_refl _) _) _⟩
theorem ifix_any (a : Option Addr) (cap : Nat) (L : List Ix) (p : Nat → Prop) (c : Int) (bn : Nat) (w : World) (h : RowAt ixR p w a L) (hn : w.cell? ⟨bn, 0, none⟩ = some (.int .i64 c)) (hL : L.length ≤ 140737488355328) :
    Calls Tryz.prog 110 #[.slice a L.length cap, .func (.func 111) #[] #[.pointer (some ⟨bn, 0, none⟩)]] w
      fun e w' => e = .returned (.int .i64 (idxOf (fun x => decide (0 < x.cols.length) && (x.cols.getD 0 0 == c)) L)) ∧ Below w.heap.size w w' := by
  have H := Lib.hid h
  have HN := Lib.hid hn
  clear h hn
  go_enter Tryz.func110, Tryz.ntmps110
  go_wp2_with fail
  go_loopw [8] (fun i wr => ∃ k : Nat, k ≤ L.length ∧ i = .int .i64 k ∧ (∀ t (ht : t < L.length), t < k → (decide (0 < L[t].cols.length) && (L[t].cols.getD 0 0 == c)) = false) ∧ Below w.heap.size w wr) (fun i _ => L.length - (intOf i).toNat)
  case atStart => exact ⟨0, by omega, rfl, fun t _ ht => by omega, Below.refl _ _⟩
  case round =>
    obtain ⟨k, hk, rfl, hall, hb⟩ := hrel
    have HA := Lib.hid hall
    clear hall
    by_cases h1 : k < L.length
    · obtain ⟨b, off, rfl, _, hbl⟩ := H.out.addr (by intro e; rw [e] at h1; cases h1)
      obtain ⟨ai, ci, c0, c1, c2, hix⟩ := (H.out.below hb).ix k h1
      have hn' := hb.cell (World.block_lt_of_cell? w _ HN.out)
      rw [HN.out] at hn'
      have HN' := Lib.hid hn'
      have HIX := Lib.hid hix
      clear hn' hix
      have CC := Lib.hid hb
      clear hb
      go_wp2_with fail
      refine (led1_any L[k] ai ci p c bn _ HIX.out HN'.out).mono ?_
      rintro e w2 ⟨rfl, b2⟩
      have C2 := Lib.hid (CC.out.trans (b2.mono CC.out.size))
      clear b2
      cases hs : (decide (0 < L[k].cols.length) && (L[k].cols.getD 0 0 == c))
      · go_wp2_with fail
        go_roundw
        case rel => exact ⟨k + 1, by omega, by go_num, fun t ht htk => by rcases (show t < k ∨ t = k by omega) with h | rfl; exact HA.out t ht h; exact hs, C2.out⟩
        case measure => simp [intOf]; omega
      · go_wp2_with fail
        go_ret
        exact ⟨by rw [idxOf_hit (p := fun x : Ix => decide (0 < x.cols.length) && (x.cols.getD 0 0 == c)) h1 hs (fun t ht => HA.out t (by omega) ht)]; rfl, C2.out⟩
    · have hkl : k = L.length := by omega
      subst hkl
      go_wp2_with fail
      go_ret
      exact ⟨by rw [idxOf_miss (p := fun x : Ix => decide (0 < x.cols.length) && (x.cols.getD 0 0 == c)) (fun t ht => HA.out t ht ht)]; rfl, hb⟩

theorem led_any {p : Nat → Prop} {tv : Value} {T : Tab} {w : World} (h : TabV p w tv T) (c : Int) :
    Calls Tryz.prog 45 #[tv, .int .i64 c] w fun e w' => e = .returned (.int .i64 (ledOf T c)) ∧ Below w.heap.size w w' := by
  obtain ⟨ac, cc, ai, ci, rfl, _, h1⟩ := h
  obtain ⟨_, _, hL, hr⟩ := h1.row
  have hr2 := hr.below (((Below.refl w.heap.size w).alloc (Nat.le_refl _) (.cells #[.int .i64 T.id, .string T.name, .slice ac T.cols.length cc, .slice ai T.idx.length ci] 43)).alloc (by simp) (.cells #[.int .i64 c] 3))
  have H := Lib.hid hr2
  clear hr2 hr h1
  go_enter Tryz.func45, Tryz.ntmps45
  go_wp2_with fail
  refine (ifix_any ai ci T.idx p c (w.heap.size + 1) _ H.out (by go_cell) hL).mono ?_
  rintro e w2 ⟨rfl, b2⟩
  go_wp2_with fail
  go_ret
  exact ⟨rfl, ((((Below.refl _ _).alloc (Nat.le_refl _) _).alloc (by simp) _).trans (b2.mono (by simp; omega)))⟩

theorem rows_any {p : Nat → Prop} {sv : Value} {S : Sta} {w : World} (h : StaV p w sv S) :
    Calls Tryz.prog 47 #[sv] w fun e w' => e = .returned (.int .i64 (rowsOf S)) ∧ Below w.heap.size w w' := by
  obtain ⟨a, cap, rfl, _⟩ := h
  go_enter Tryz.func47, Tryz.ntmps47
  go_wp2_with fail
  refine (betw_any _ _ _ _).mono ?_
  rintro e w2 ⟨rfl, rfl⟩
  go_wp2_with fail
  go_ret
  exact ⟨rfl, by go_grown⟩

theorem left_any {p : Nat → Prop} {sv : Value} {S : Sta} {w : World} (h : StaV p w sv S) (n c : Int) (h0 : 0 ≤ n) (h1 : n ≤ 1000000) (hc : 0 ≤ c) :
    Calls Tryz.prog 46 #[.int .i64 n, sv, .int .i64 c] w fun e w' => e = .returned (.int .i64 (leftOf n S c)) ∧ Below w.heap.size w w' := by
  obtain ⟨a, cap, rfl, hs⟩ := h
  obtain ⟨_, _, hL, hr⟩ := hs.row
  obtain ⟨k, rfl⟩ : ∃ k : Nat, c = k := ⟨c.toNat, by omega⟩
  clear hc hs
  by_cases hlt : k < S.vals.length
  · obtain ⟨b, off, rfl, _, hbl⟩ := hr.addr (by intro e; rw [e] at hlt; cases hlt)
    have c0 := hr.int k hlt
    have hv := valsOf_bd S k
    have e0 : clampI 1 S.vals[k] 1000000 = valsOf S k := by
      unfold valsOf
      rw [if_pos (by omega)]
      congr 1
      simp [List.getElem?_eq_getElem hlt]
    have E0 := Lib.hid e0
    have HR := Lib.hid hr
    clear hr e0
    unfold leftOf
    go_enter Tryz.func46, Tryz.ntmps46
    go_wp2_with fail
    refine (betw_any _ _ _ _).mono ?_
    rintro e w2 ⟨rfl, rfl⟩
    rw [E0.out]
    go_wp2_with fail
    go_ret
    exact ⟨rfl, by go_grown⟩
  · have e0 : valsOf S k = 1 := by
      unfold valsOf
      rw [if_neg (by omega)]
    unfold leftOf
    rw [e0]
    clear e0 hr
    go_enter Tryz.func46, Tryz.ntmps46
    go_wp2_with fail
    go_ret
    exact ⟨ret_int (by omega), by go_grown⟩

end Go.Proofs.YtpfjakcfjpgbmaaGreatDoor
