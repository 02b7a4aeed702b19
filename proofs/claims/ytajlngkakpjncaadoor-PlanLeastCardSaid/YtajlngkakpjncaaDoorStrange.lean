/- 'is a name in no table': the closure of plan.Plan, and slices.ContainsFunc with it. -/
import Derived.Test.YtajlngkakpjncaaDoorNames
namespace Go.Proofs.YtajlngkakpjncaaDoor
set_option linter.unusedVariables false
set_option linter.unusedSimpArgs false
open Go.RowKit

/-- a table's box -/
def TabBox (p : Nat → Prop) (w : World) (b : Nat) (T : Tab) : Prop :=
  ∃ ac cc ai ci, w.heap[b]? = some (.cells #[.int .i64 T.id, .string T.name, .slice ac T.cols.length cc, .slice ai T.idx.length ci] 30 (0, 0)) ∧ SlV colR p w (.slice ac T.cols.length cc) T.cols ∧ SlV ixR p w (.slice ai T.idx.length ci) T.idx
theorem TabBox.below {p : Nat → Prop} {w w' : World} {b : Nat} {T : Tab} (h : TabBox p w b T) (hb : Below w.heap.size w w') : TabBox p w' b T := by
  obtain ⟨ac, cc, ai, ci, h0, h1, h2⟩ := h
  exact ⟨ac, cc, ai, ci, (hb.block _ (lt_of_block h0)).trans h0, h1.below hb, h2.below hb⟩
theorem TabBox.cells {p : Nat → Prop} {w : World} {b : Nat} {T : Tab} (h : TabBox p w b T) : ∃ ac cc ai ci, w.cell? ⟨b, 0, none⟩ = some (.int .i64 T.id) ∧ w.cell? ⟨b, 1, none⟩ = some (.string T.name) ∧ w.cell? ⟨b, 2, none⟩ = some (.slice ac T.cols.length cc) ∧ w.cell? ⟨b, 3, none⟩ = some (.slice ai T.idx.length ci) ∧
    TabV p w (.agg #[.int .i64 T.id, .string T.name, .slice ac T.cols.length cc, .slice ai T.idx.length ci]) T := by
  obtain ⟨ac, cc, ai, ci, h0, h1, h2⟩ := h
  exact ⟨ac, cc, ai, ci, cells_of h0 0, cells_of h0 1, cells_of h0 2, cells_of h0 3, ac, cc, ai, ci, rfl, h1, h2⟩
def BoolBox (w : World) (b : Nat) (x : Bool) : Prop := w.heap[b]? = some (.cells #[.bool x] 4 (0, 0))
theorem BoolBox.below {w w' : World} {b : Nat} {x : Bool} (h : BoolBox w b x) (hb : Below w.heap.size w w') : BoolBox w' b x := (hb.block _ (lt_of_block h)).trans h

set_option maxHeartbeats 1000000 in
theorem strange_any {p q : Nat → Prop} {w : World} {bt bu b2 : Nat} {T U : Tab} {two : Bool} (hT : TabBox p w bt T) (hU : TabBox q w bu U) (h2 : BoolBox w b2 two) (name : ByteArray) :
    Calls Tryd.prog 26 #[.string name, .pointer (some ⟨bt, 0, none⟩), .pointer (some ⟨b2, 0, none⟩), .pointer (some ⟨bu, 0, none⟩)] w fun e w' => e = .returned (.bool (strangeB T U two name)) ∧ Below w.heap.size w w' := by
  obtain ⟨ac, cc, ai, ci, t0, t1, t2, t3, hTV⟩ := hT.cells
  have HT := Lib.hid hTV
  have HU := Lib.hid hU
  have H2 := Lib.hid h2
  clear hT hU h2 hTV
  go_enter Tryd.func26, Tryd.ntmps26
  go_wp2_with fail
  refine (col_any HT.out name).mono ?_
  rintro e w1 ⟨rfl, b1⟩
  have B1 := Lib.hid b1
  have v2 := cells_of (H2.out.below b1) 0
  simp only [List.getElem?_toArray, List.getElem?_cons_zero] at v2
  obtain ⟨bc, dc, bi, di, u0, u1, u2, u3, hUV⟩ := (HU.out.below b1).cells
  have HUV := Lib.hid hUV
  clear b1 t0 t1 t2 t3 hUV
  by_cases hl : colOf T name < 0
  · cases two
    · go_wp2_with fail
      go_ret
      exact ⟨by simp [strangeB, hl], B1.out⟩
    · go_wp2_with fail
      refine (col_any HUV.out name).mono ?_
      rintro e w2 ⟨rfl, b2⟩
      have B2 := Lib.hid (B1.out.trans (b2.mono B1.out.size))
      clear b2
      go_wp2_with fail
      go_ret
      exact ⟨by simp [strangeB, hl], B2.out⟩
  · have hl2 : 0 ≤ colOf T name := by omega
    go_wp2_with fail
    go_ret
    exact ⟨by simp [strangeB]; omega, B1.out⟩

set_option maxHeartbeats 1000000 in
theorem ifs_any {p q r : Nat → Prop} {w : World} {bt bu b2 : Nat} {T U : Tab} {two : Bool} (hT : TabBox p w bt T) (hU : TabBox q w bu U) (h2 : BoolBox w b2 two) (a : Option Addr) (cap : Nat) (L : List ByteArray) (h : RowAt strF r w a L) (hL : L.length ≤ 140737488355328) :
    Calls Tryd.prog 49 #[.slice a L.length cap, .func (.func 26) #[] #[.pointer (some ⟨bt, 0, none⟩), .pointer (some ⟨b2, 0, none⟩), .pointer (some ⟨bu, 0, none⟩)]] w
      fun e w' => e = .returned (.int .i64 (idxOf (strangeB T U two) L)) ∧ Below w.heap.size w w' := by
  have H := Lib.hid h
  have HT := Lib.hid hT
  have HU := Lib.hid hU
  have H2 := Lib.hid h2
  clear h hT hU h2
  go_enter Tryd.func49, Tryd.ntmps49
  go_wp2_with fail
  go_loopw [8] (fun i wr => ∃ k : Nat, k ≤ L.length ∧ i = .int .i64 k ∧ (∀ t (ht : t < L.length), t < k → strangeB T U two L[t] = false) ∧ Below w.heap.size w wr) (fun i _ => L.length - (intOf i).toNat)
  case atStart => exact ⟨0, by omega, rfl, fun t _ ht => by omega, Below.refl _ _⟩
  case round =>
    obtain ⟨k, hk, rfl, hall, hb⟩ := hrel
    have HA := Lib.hid hall
    clear hall
    by_cases h1 : k < L.length
    · obtain ⟨b, off, rfl, _, hbl⟩ := H.out.addr (by intro e; rw [e] at h1; cases h1)
      have c0 : wr.cell? ⟨b, off + k, none⟩ = some (.string L[k]) := RowAt.str (H.out.below hb) k h1
      have CC := Lib.hid hb
      clear hb
      go_wp2_with fail
      refine (strange_any (HT.out.below CC.out) (HU.out.below CC.out) (H2.out.below CC.out) L[k]).mono ?_
      rintro e w2 ⟨rfl, b2⟩
      have C2 := Lib.hid (CC.out.trans (b2.mono CC.out.size))
      clear b2
      cases hs : strangeB T U two L[k]
      · go_wp2_with fail
        go_roundw
        case rel => exact ⟨k + 1, by omega, by go_num, fun t ht htk => by rcases (show t < k ∨ t = k by omega) with h | rfl; exact HA.out t ht h; exact hs, C2.out⟩
        case measure => simp [intOf]; omega
      · go_wp2_with fail
        go_ret
        exact ⟨by rw [idxOf_hit h1 hs (fun t ht => HA.out t (by omega) ht)]; rfl, C2.out⟩
    · have hkl : k = L.length := by omega
      subst hkl
      go_wp2_with fail
      go_ret
      exact ⟨by rw [idxOf_miss (fun t ht => HA.out t ht ht)]; rfl, hb⟩
theorem idxOf_any {α : Type} (p : α → Bool) (L : List α) : decide (0 ≤ idxOf p L) = L.any p := by
  cases h : L.any p
  · rw [List.any_eq_false] at h
    have : idxOf p L = -1 := idxOf_miss fun t ht => by simpa using h L[t] (List.getElem_mem ht)
    rw [this]; rfl
  · rw [decide_eq_true_eq]
    rcases (show idxOf p L < 0 ∨ 0 ≤ idxOf p L by omega) with h1 | h1
    · have := idxOf_neg p L h1
      rw [List.any_eq_true] at h
      obtain ⟨x, hx, hp⟩ := h
      rw [this x hx] at hp
      cases hp
    · exact h1
theorem contf_any {p q r : Nat → Prop} {w : World} {bt bu b2 : Nat} {T U : Tab} {two : Bool} (hT : TabBox p w bt T) (hU : TabBox q w bu U) (h2 : BoolBox w b2 two) (a : Option Addr) (cap : Nat) (L : List ByteArray) (h : RowAt strF r w a L) (hL : L.length ≤ 140737488355328) :
    Calls Tryd.prog 28 #[.slice a L.length cap, .func (.func 26) #[] #[.pointer (some ⟨bt, 0, none⟩), .pointer (some ⟨b2, 0, none⟩), .pointer (some ⟨bu, 0, none⟩)]] w
      fun e w' => e = .returned (.bool (L.any (strangeB T U two))) ∧ Below w.heap.size w w' := by
  rw [← idxOf_any]
  go_enter Tryd.func28, Tryd.ntmps28
  go_wp2_with fail
  refine (ifs_any hT hU h2 a cap L h hL).mono ?_
  rintro e w2 ⟨rfl, b2⟩
  go_wp2_with fail
  go_ret
  exact ⟨rfl, b2⟩
end Go.Proofs.YtajlngkakpjncaaDoor
