/- plan.best: the first access path of least cost. -/
import Derived.Test.YtajlngkakpjncaaDoorZP17
import Derived.Test.YtajlngkakpjncaaDoorZP4
import Derived.Test.YtajlngkakpjncaaDoorZP2
namespace Go.Proofs.YtajlngkakpjncaaDoor
set_option linter.unusedVariables false
set_option linter.unusedSimpArgs false
open Go.RowKit

def cmpI (a b : Int) : Int := if a < b then -1 else if b < a then 1 else 0
theorem nan_any (x : Int) (w : World) : Calls Tryd.prog 62 #[.int .i64 x] w fun e w' => e = .returned (.bool false) ∧ w = w' := by
  go_enter Tryd.func62, Tryd.ntmps62
  go_wp2_with fail
  go_ret
  exact ⟨rfl, rfl⟩
theorem cmp_any (x y : Int) (w : World) : Calls Tryd.prog 41 #[.int .i64 x, .int .i64 y] w fun e w' => e = .returned (.int .i64 (cmpI x y)) ∧ w = w' := by
  have h : x < y ∨ y < x ∨ x = y := by omega
  rcases h with h | h | h
  · go_enter Tryd.func41, Tryd.ntmps41
    go_wp2_with fail
    refine (nan_any _ _).mono ?_
    rintro e w1 ⟨rfl, rfl⟩
    go_wp2_with fail
    refine (nan_any _ _).mono ?_
    rintro e w1 ⟨rfl, rfl⟩
    go_wp2_with fail
    go_ret
    exact ⟨by unfold cmpI; rw [if_pos h]; rfl, rfl⟩
  · have h2 : ¬ x < y := by omega
    go_enter Tryd.func41, Tryd.ntmps41
    go_wp2_with fail
    refine (nan_any _ _).mono ?_
    rintro e w1 ⟨rfl, rfl⟩
    go_wp2_with fail
    refine (nan_any _ _).mono ?_
    rintro e w1 ⟨rfl, rfl⟩
    go_wp2_with fail
    go_ret
    exact ⟨by unfold cmpI; rw [if_neg (by omega), if_pos h]; rfl, rfl⟩
  · subst h
    go_enter Tryd.func41, Tryd.ntmps41
    go_wp2_with fail
    refine (nan_any _ _).mono ?_
    rintro e w1 ⟨rfl, rfl⟩
    go_wp2_with fail
    refine (nan_any _ _).mono ?_
    rintro e w1 ⟨rfl, rfl⟩
    go_wp2_with fail
    go_ret
    exact ⟨by unfold cmpI; rw [if_neg (by omega), if_neg (by omega)]; rfl, rfl⟩
theorem best1_any (x y : Way) (w : World) : Calls Tryd.prog 52 #[.agg #[.int .i64 x.index, .string x.lo, .string x.hi, .int .i64 x.cost], .agg #[.int .i64 y.index, .string y.lo, .string y.hi, .int .i64 y.cost]] w
    fun e w' => e = .returned (.int .i64 (cmpI x.cost y.cost)) ∧ Below w.heap.size w w' := by
  go_enter Tryd.func52, Tryd.ntmps52
  go_wp2_with fail
  refine (cmp_any _ _ _).mono ?_
  rintro e w1 ⟨rfl, rfl⟩
  go_wp2_with fail
  go_ret
  exact ⟨rfl, ((Below.refl _ _).alloc (Nat.le_refl _) _).alloc (by simp) _⟩

theorem bestGo_snoc : ∀ (l : List Way) (m x : Way), bestGo m (l ++ [x]) = if x.cost < (bestGo m l).cost then x else bestGo m l
  | [], m, x => rfl
  | y :: l, m, x => by
    rw [List.cons_append, bestGo, bestGo_snoc l]
    rfl
/-- the best of the first k, k at least 1 -/
def bestTo (L : List Way) (k : Nat) : Way := bestGo (L.getD 0 default) ((L.take k).drop 1)
theorem bestTo_one (L : List Way) : bestTo L 1 = L.getD 0 default := by
  cases L <;> rfl
theorem bestTo_succ (L : List Way) (k : Nat) (h1 : 1 ≤ k) (hk : k < L.length) : bestTo L (k + 1) = if L[k].cost < (bestTo L k).cost then L[k] else bestTo L k := by
  unfold bestTo
  rw [List.take_add_one, List.getElem?_eq_getElem hk]
  have e : (L.take k ++ (some L[k]).toList).drop 1 = (L.take k).drop 1 ++ [L[k]] := by
    rw [List.drop_append]
    have : 1 - (L.take k).length = 0 := by rw [List.length_take]; omega
    rw [this]
    rfl
  rw [e, bestGo_snoc]
theorem bestTo_all (L : List Way) (h : L ≠ []) : bestTo L L.length = bestOf L := by
  cases L with
  | nil => exact absurd rfl h
  | cons x L => simp [bestTo, bestOf]
theorem block_set {w : World} {b o : Nat} {c : Array Value} {T : TypeId} {v : Value} (h : w.heap[b]? = some (.cells c T (0, 0))) : (w.setCell ⟨b, o, none⟩ v).heap[b]? = some (.cells (c.setIfInBounds o v) T (0, 0)) := by
  have hlt := lt_of_block h
  have h' : w.heap[b] = .cells c T (0, 0) := by simpa [Array.getElem?_eq_getElem hlt] using h
  show (w.heap.modify b _)[b]? = _
  rw [Array.getElem?_eq_getElem (by simpa using hlt), Array.getElem_modify_self, h']
  rfl
theorem block_set4 {w : World} {b : Nat} {x y z u : Value} {T : TypeId} {x' y' z' u' : Value} (h : w.heap[b]? = some (.cells #[x, y, z, u] T (0, 0))) :
    ((((w.setCell ⟨b, 0, none⟩ x').setCell ⟨b, 1, none⟩ y').setCell ⟨b, 2, none⟩ z').setCell ⟨b, 3, none⟩ u').heap[b]? = some (.cells #[x', y', z', u'] T (0, 0)) :=
  block_set (block_set (block_set (block_set h)))
theorem below_set4 {B : Nat} {a w : World} {b : Nat} {x' y' z' u' : Value} (h : Below B a w) (hB : B ≤ b) : Below B a ((((w.setCell ⟨b, 0, none⟩ x').setCell ⟨b, 1, none⟩ y').setCell ⟨b, 2, none⟩ z').setCell ⟨b, 3, none⟩ u') :=
  (((h.setCell (p := ⟨b, 0, none⟩) hB _).setCell (p := ⟨b, 1, none⟩) hB _).setCell (p := ⟨b, 2, none⟩) hB _).setCell (p := ⟨b, 3, none⟩) hB _
theorem other_set4 {w : World} {b c : Nat} {x' y' z' u' : Value} (h : c ≠ b) : ((((w.setCell ⟨b, 0, none⟩ x').setCell ⟨b, 1, none⟩ y').setCell ⟨b, 2, none⟩ z').setCell ⟨b, 3, none⟩ u').heap[c]? = w.heap[c]? := by
  have e : ∀ (w : World) (o : Nat) (v : Value), (w.setCell ⟨b, o, none⟩ v).heap[c]? = w.heap[c]? := fun w o v => Below.heap_setCell w ⟨b, o, none⟩ v c (fun e => h e)
  rw [e, e, e, e]

/-- the box of the best access path so far -/
def MinAt (W1 : World) (m : Way) (wr : World) : Prop :=
  wr.heap[W1.heap.size]? = some (.cells #[.int .i64 m.index, .string m.lo, .string m.hi, .int .i64 m.cost] 52 (0, 0)) ∧ Below W1.heap.size W1 wr
set_option maxHeartbeats 2000000 in
theorem min_any {p : Nat → Prop} (a : Option Addr) (cap : Nat) (L : List Way) (w : World) (h : RowAt wayR p w a L) (h0 : L ≠ []) (hL : L.length ≤ 140737488355328) :
    Calls Tryd.prog 51 #[.slice a L.length cap, .func (.func 52) #[] #[]] w fun e w' => e = .returned (bestOf L).enc ∧ Below w.heap.size w w' := by
  obtain ⟨b, off, rfl, _, hbl⟩ := h.addr h0
  have hpos : 1 ≤ L.length := List.length_pos_iff.2 h0
  obtain ⟨W1, hW1⟩ : ∃ W1, w.alloc (.cells #[.int .i64 0, .string ⟨#[]⟩, .string ⟨#[]⟩, .int .i64 0] 52) = W1 := ⟨_, rfl⟩
  have hs1 : W1.heap.size = w.heap.size + 1 := by rw [← hW1]; simp
  have hb1 : Below w.heap.size w W1 := by rw [← hW1]; exact (Below.refl _ _).alloc (Nat.le_refl _) _
  have hk1 : W1.heap[w.heap.size]? = some (.cells #[.int .i64 0, .string ⟨#[]⟩, .string ⟨#[]⟩, .int .i64 0] 52 (0, 0)) := by rw [← hW1]; exact heap_alloc_new w _
  have K1 := Lib.hid hk1
  have B1 := Lib.hid hb1
  have S1 := Lib.hid hs1
  have H := Lib.hid (h.below hb1)
  have hg0 : L.getD 0 default = L[0] := by rw [List.getD_eq_getElem?_getD, List.getElem?_eq_getElem hpos]; rfl
  have G0 := Lib.hid hg0
  have HW1 := Lib.hid hW1
  have NE := Lib.hid h0
  obtain ⟨x0, x1, x2, x3⟩ := H.out.way 0 hpos
  simp only [Nat.zero_mul, Nat.add_zero] at x0 x1 x2 x3
  have hlo : ¬ L.length < 1 := by omega
  clear h hb1 hs1 hk1 hg0 hW1 h0
  go_enter Tryd.func51, Tryd.ntmps51
  go_upto_region 3 with (fail)
  rw [HW1.out]
  go_wp2_with fail
  clear x0 x1 x2 x3
  go_loopw [6] (fun i wr => ∃ k : Nat, 1 ≤ k ∧ k ≤ L.length ∧ i = .int .i64 k ∧ MinAt W1 (bestTo L k) wr) (fun i _ => L.length - (intOf i).toNat)
  case atStart => exact ⟨1, Nat.le_refl _, hpos, rfl, by rw [bestTo_one, G0.out]; exact ⟨heap_alloc_new W1 _, (Below.refl _ _).alloc (Nat.le_refl _) _⟩⟩
  case round =>
    obtain ⟨k, hk1, hk, rfl, hM⟩ := hrel
    have M0 := Lib.hid hM
    have hsz := lt_of_block hM.1
    clear hM
    by_cases hlt : k < L.length
    · have HT := Lib.hid (bestTo_succ L k hk1 hlt)
      have hcx : ∀ x : Wld (Below wr.heap.size wr), x.val.cell? ⟨b, off + k * 4, none⟩ = some (.int .i64 L[k].index) ∧ x.val.cell? ⟨b, off + k * 4 + 1, none⟩ = some (.string L[k].lo) ∧ x.val.cell? ⟨b, off + k * 4 + 2, none⟩ = some (.string L[k].hi) ∧ x.val.cell? ⟨b, off + k * 4 + 3, none⟩ = some (.int .i64 L[k].cost) :=
        fun x => (H.out.below (M0.out.2.trans (x.good.mono M0.out.2.size))).way k hlt
      have hmx : ∀ x : Wld (Below wr.heap.size wr), x.val.cell? ⟨W1.heap.size, 0, none⟩ = some (.int .i64 (bestTo L k).index) ∧ x.val.cell? ⟨W1.heap.size, 1, none⟩ = some (.string (bestTo L k).lo) ∧ x.val.cell? ⟨W1.heap.size, 2, none⟩ = some (.string (bestTo L k).hi) ∧ x.val.cell? ⟨W1.heap.size, 3, none⟩ = some (.int .i64 (bestTo L k).cost) := by
        intro x
        have hb := (x.good.block _ hsz).trans M0.out.1
        exact ⟨cells_of hb 0, cells_of hb 1, cells_of hb 2, cells_of hb 3⟩
      generalize hm : bestTo L k = m at *
      have HM := Lib.hid hm
      clear hm
      have c0 := fun x => (hcx x).1
      have c1 := fun x => (hcx x).2.1
      have c2 := fun x => (hcx x).2.2.1
      have c3 := fun x => (hcx x).2.2.2
      have m0 := fun x => (hmx x).1
      have m1 := fun x => (hmx x).2.1
      have m2 := fun x => (hmx x).2.2.1
      have m3 := fun x => (hmx x).2.2.2
      have HCX := Lib.hid hcx
      have HMX := Lib.hid hmx
      clear hcx hmx
      by_cases hc : L[k].cost < m.cost
      · have hcc : cmpI L[k].cost m.cost < 0 := by unfold cmpI; rw [if_pos hc]; decide
        have hcd : decide (cmpI L[k].cost m.cost < 0) = true := by simpa using hcc
        have HC := Lib.hid hc
        clear hc hcc
        go_wp2_with fail
        refine wp_region_class (Below wr.heap.size wr) (by kernel_rfl) (by kernel_rfl) (Below.drew (Below.refl _ _)) (fun ne => ?_)
        repeat (go_big_quiet_step ((go_at_call 52; refine (best1_any L[k] m _).mono ?_; rintro e w2 ⟨rfl, b2⟩; exact ⟨rfl, class_below _ b2 (Nat.le_refl _)⟩)))
        refine wpQuiet_nil ?_
        intro w4 b4
        have M4 := (b4.block _ hsz).trans M0.out.1
        have B4 := Lib.hid (M0.out.2.trans (b4.mono M0.out.2.size))
        obtain ⟨e0, e1, e2, e3⟩ : w4.cell? ⟨b, off + k * 4, none⟩ = some (.int .i64 L[k].index) ∧ w4.cell? ⟨b, off + k * 4 + 1, none⟩ = some (.string L[k].lo) ∧ w4.cell? ⟨b, off + k * 4 + 2, none⟩ = some (.string L[k].hi) ∧ w4.cell? ⟨b, off + k * 4 + 3, none⟩ = some (.int .i64 L[k].cost) := HCX.out ⟨w4, b4⟩
        have f0 := free_of M4 0
        have f1 := free_of M4 1
        have f2 := free_of M4 2
        have f3 := free_of M4 3
        have n0 := cells_of M4 0
        have n1 := cells_of M4 1
        have n2 := cells_of M4 2
        have n3 := cells_of M4 3
        simp only [List.getElem?_toArray, List.getElem?_cons_zero, List.getElem?_cons_succ] at n0 n1 n2 n3
        have M5 := Lib.hid M4
        clear M4 b4 c0 c1 c2 c3 m0 m1 m2 m3
        go_wp2_with fail
        go_roundw
        case rel => exact ⟨k + 1, by omega, by omega, by go_num, by rw [HT.out, if_pos HC.out]; exact ⟨block_set4 M5.out, below_set4 B4.out (Nat.le_refl _)⟩⟩
        case measure => simp [intOf]; omega
      · have hcc : ¬ cmpI L[k].cost m.cost < 0 := by unfold cmpI; rw [if_neg hc]; split <;> decide
        have hcd : decide (cmpI L[k].cost m.cost < 0) = false := by simpa using hcc
        have HC := Lib.hid hc
        clear hc hcc
        go_wp2_with fail
        refine wp_region_class (Below wr.heap.size wr) (by kernel_rfl) (by kernel_rfl) (Below.drew (Below.refl _ _)) (fun ne => ?_)
        repeat (go_big_quiet_step ((go_at_call 52; refine (best1_any L[k] m _).mono ?_; rintro e w2 ⟨rfl, b2⟩; exact ⟨rfl, class_below _ b2 (Nat.le_refl _)⟩)))
        refine wpQuiet_nil ?_
        intro w4 b4
        have M4 := Lib.hid (show MinAt W1 m w4 from ⟨(b4.block _ hsz).trans M0.out.1, M0.out.2.trans (b4.mono M0.out.2.size)⟩)
        clear b4 c0 c1 c2 c3 m0 m1 m2 m3
        go_wp2_with fail
        go_roundw
        case rel => exact ⟨k + 1, by omega, by omega, by go_num, by rw [HT.out, if_neg (by have := HC.out; omega)]; exact M4.out⟩
        case measure => simp [intOf]; omega
    · have hkl : k = L.length := by omega
      subst hkl
      have HT := 0
      have hba := bestTo_all L NE.out
      rw [hba] at M0
      clear HT hba
      obtain ⟨m, hm⟩ : ∃ m, m = bestOf L := ⟨_, rfl⟩
      rw [← hm] at M0
      have HM := Lib.hid hm
      clear hm
      have n0 := cells_of M0.out.1 0
      have n1 := cells_of M0.out.1 1
      have n2 := cells_of M0.out.1 2
      have n3 := cells_of M0.out.1 3
      have hk1 := (M0.out.2.block w.heap.size (by rw [S1.out]; omega)).trans K1.out
      have f0 := free_of hk1 0
      have f1 := free_of hk1 1
      have f2 := free_of hk1 2
      have f3 := free_of hk1 3
      have e0 := cells_of hk1 0
      have e1 := cells_of hk1 1
      have e2 := cells_of hk1 2
      have e3 := cells_of hk1 3
      simp only [List.getElem?_toArray, List.getElem?_cons_zero, List.getElem?_cons_succ] at n0 n1 n2 n3 e0 e1 e2 e3
      clear hk1
      go_wp2_with fail
      refine bodyPost_ret (v := .agg #[.int .i64 m.index, .string m.lo, .string m.hi, .int .i64 m.cost]) (by simp [results, Tryd.results51, go_sem, n0, n1, n2, n3, e0, e1, e2, e3, f0, f1, f2, f3]) rfl ⟨by rw [← HM.out]; rfl, ?_⟩
      exact below_set4 (B1.out.trans (M0.out.2.mono B1.out.size)) (Nat.le_refl _)
theorem best_any {p : Nat → Prop} (a : Option Addr) (cap : Nat) (L : List Way) (w : World) (h : RowAt wayR p w a L) (h0 : L ≠ []) (hL : L.length ≤ 140737488355328) :
    Calls Tryd.prog 30 #[.slice a L.length cap] w fun e w' => e = .returned (bestOf L).enc ∧ Below w.heap.size w w' := by
  have H := Lib.hid (h.below ((Below.refl w.heap.size w).alloc (Nat.le_refl _) (.cells #[.int .i64 0, .string ⟨#[]⟩, .string ⟨#[]⟩, .int .i64 0] 52)))
  have NE := Lib.hid h0
  clear h h0
  go_enter Tryd.func30, Tryd.ntmps30
  go_wp2_with fail
  refine (min_any a cap L _ H.out NE.out hL).mono ?_
  rintro e w1 ⟨rfl, b1⟩
  have hk1 := (b1.block w.heap.size (by simp)).trans (heap_alloc_new w _)
  have B1 := Lib.hid (((Below.refl w.heap.size w).alloc (Nat.le_refl _) (.cells #[.int .i64 0, .string ⟨#[]⟩, .string ⟨#[]⟩, .int .i64 0] 52)).trans (b1.mono (by simp)))
  obtain ⟨m, hm⟩ : ∃ m, m = bestOf L := ⟨_, rfl⟩
  rw [← hm]
  have HM := Lib.hid hm
  clear hm
  rw [show m.enc = .agg #[.int .i64 m.index, .string m.lo, .string m.hi, .int .i64 m.cost] from rfl]
  have f0 := free_of hk1 0
  have f1 := free_of hk1 1
  have f2 := free_of hk1 2
  have f3 := free_of hk1 3
  have e0 := cells_of hk1 0
  have e1 := cells_of hk1 1
  have e2 := cells_of hk1 2
  have e3 := cells_of hk1 3
  simp only [List.getElem?_toArray, List.getElem?_cons_zero, List.getElem?_cons_succ] at e0 e1 e2 e3
  clear hk1 b1
  go_wp2_with fail
  refine bodyPost_ret (v := .agg #[.int .i64 m.index, .string m.lo, .string m.hi, .int .i64 m.cost]) (by simp [results, Tryd.results30, go_sem, e0, e1, e2, e3, f0, f1, f2, f3]) rfl ⟨by rw [← HM.out]; rfl, ?_⟩
  exact below_set4 B1.out (Nat.le_refl _)
end Go.Proofs.YtajlngkakpjncaaDoor
