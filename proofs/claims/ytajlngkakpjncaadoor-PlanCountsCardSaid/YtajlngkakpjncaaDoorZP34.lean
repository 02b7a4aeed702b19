/- slices.CompactFunc of values, equal by value.Compare: a part of the slice, and nothing else has turned. catalog.Count: the number of rows, and for each column a number from 0 to that. PlanCounts: the walk of the law. -/
import Derived.Test.YtajlngkakpjncaaDoorZP27
import Derived.Test.YtajlngkakpjncaaDoorZP32
import Derived.Test.YtajlngkakpjncaaDoorZP5
import Derived.Lib.SliceRun
import Derived.Test.YtajlngkakpjncaaDoorZP20
import Derived.Test.YtajlngkakpjncaaDoorZP9
import Derived.Test.YtajlngkakpjncaaDoorZP31
namespace Go.Proofs.YtajlngkakpjncaaDoor
set_option linter.unusedVariables false
set_option linter.unusedSimpArgs false
open Go.RowKit

theorem eqf_any (a b : Val) (w : World) (hK : KindsAt w) : Calls Tryd.prog 46 #[a.enc, b.enc] w fun e w' => e = .returned (.bool (cmpV a b == 0)) ∧ Below w.heap.size w w' := by
  obtain ⟨c, hc⟩ : ∃ c, cmpV a b = c := ⟨_, rfl⟩
  have HC := Lib.hid hc
  rw [hc]
  clear hc
  have HK := Lib.hid hK
  clear hK
  obtain ⟨ak, an, as'⟩ := a
  obtain ⟨bk, bn, bs⟩ := b
  unfold Val.enc
  go_enter Tryd.func46, Tryd.ntmps46
  go_upto_region 1 with (fail)
  generalize hW : World.alloc _ _ = W
  have hA : allocs w [_, _] = W := hW
  have ka := allocs_get hA 0 rfl
  have kb := allocs_get hA 1 rfl
  have BW := Lib.hid (allocs_self hA)
  have k0 := cells_of ka 0
  have k1 := cells_of ka 1
  have k2 := cells_of ka 2
  have l0 := cells_of kb 0
  have l1 := cells_of kb 1
  have l2 := cells_of kb 2
  simp only [List.getElem?_toArray, List.getElem?_cons_zero, List.getElem?_cons_succ, Nat.add_zero] at k0 k1 k2 l0 l1 l2
  have con := vcmp_any ⟨ak, an, as'⟩ ⟨bk, bn, bs⟩ W (HK.out.below BW.out)
  rw [HC.out] at con
  unfold Val.enc at con
  simp only at con
  clear hW hA ka kb
  go_wp2_with fail
  refine con.mono ?_
  rintro e w1 ⟨rfl, b1⟩
  have B1 := Lib.hid (BW.out.trans (b1.mono BW.out.size))
  clear con b1 k0 k1 k2 l0 l1 l2
  go_wp2_with fail
  go_ret
  exact ⟨rfl, B1.out⟩

/-- a slice of values that lies at the head of a block of one's own -/
structure VOwn (B g n c : Nat) (W0 : World) (L : List Val) (w : World) : Prop where
  len : L.length = n
  own : w.ownsRow B 41 3 (.slice (some ⟨g, 0, none⟩) n c) n (L.flatMap valEnc)
  grown : W0.grownBy w (some g)
  kinds : KindsAt w
theorem VOwn.below {B g n c : Nat} {W0 : World} {L : List Val} {w w' : World} (h : VOwn B g n c W0 L w) (hb : Below w.heap.size w w') : VOwn B g n c W0 L w' :=
  ⟨h.len, owns_below h.own hb, ⟨hb.os.trans h.grown.os, hb.tape.trans h.grown.tape, hb.output.trans h.grown.output, Nat.le_trans h.grown.size hb.size, fun k hk hn => (hb.block k (Nat.lt_of_lt_of_le hk h.grown.size)).trans (h.grown.block k hk hn)⟩, h.kinds.below hb⟩
theorem VOwn.cells {B g n c : Nat} {W0 : World} {L : List Val} {w : World} (h : VOwn B g n c W0 L w) (t : Nat) (ht : t < L.length) : w.cell? ⟨g, t * 3, none⟩ = some (.int .i64 L[t].kind) ∧ w.cell? ⟨g, t * 3 + 1, none⟩ = some (.int .i64 L[t].n) ∧ w.cell? ⟨g, t * 3 + 2, none⟩ = some (.string L[t].s) := by
  have hl := h.len
  have key : ∀ j, j < 3 → w.cell? ⟨g, t * 3 + j, none⟩ = (valEnc L[t])[j]? := fun j hj => by
    rw [World.ownsRow.cellAt h.own (t * 3 + j) (by omega)]
    exact flat_at (sz := 3) (enc := valEnc) (fun _ => rfl) L t ht j hj
  exact ⟨key 0 (by decide), key 1 (by decide), key 2 (by decide)⟩
/-- one value more is written -/
theorem VOwn.set {B g n c : Nat} {W0 : World} {L : List Val} {w : World} (h : VOwn B g n c W0 L w) (t : Nat) (x : Val) (ht : t < L.length) (hne : 0 ≠ g) :
    VOwn B g n c W0 (L.set t x) (((w.setCell ⟨g, t * 3, none⟩ (.int .i64 x.kind)).setCell ⟨g, t * 3 + 1, none⟩ (.int .i64 x.n)).setCell ⟨g, t * 3 + 2, none⟩ (.string x.s)) := by
  have h1 := World.ownsRow.stored h.own (t * 3) (.int .i64 x.kind)
  have h2 := World.ownsRow.stored h1.1 (t * 3 + 1) (.int .i64 x.n)
  have h3 := World.ownsRow.stored h2.1 (t * 3 + 2) (.string x.s)
  have hl := h.len
  have e : (((L.flatMap valEnc).set (t * 3) (.int .i64 x.kind)).set (t * 3 + 1) (.int .i64 x.n)).set (t * 3 + 2) (.string x.s) = (L.set t x).flatMap valEnc := by
    clear h1 h2 h3 h hl
    induction L generalizing t with
    | nil => cases ht
    | cons y L ih =>
      cases t with
      | zero => simp [valEnc]
      | succ t =>
        have := ih t (by simpa using ht)
        simp only [List.flatMap_cons, List.set_cons_succ]
        rw [← this]
        simp [valEnc, Nat.add_mul, List.set_cons_succ]
  refine ⟨by rw [List.length_set]; exact h.len, by rw [← e]; exact h3.1, ?_, ?_⟩
  · have tr : ∀ {a b c : World}, a.grownBy b (some g) → b.grownBy c (some g) → a.grownBy c (some g) := fun h hb =>
      ⟨hb.os.trans h.os, hb.tape.trans h.tape, hb.output.trans h.output, Nat.le_trans h.size hb.size, fun k hk hn => (hb.block k (Nat.lt_of_lt_of_le hk h.size) hn).trans (h.block k hk hn)⟩
    exact tr (tr (tr h.grown h1.2) h2.2) h3.2
  · have hk : ∀ w : World, KindsAt w → ∀ p v, p.block = g → KindsAt (w.setCell p v) := fun w hw p v hp => hw.block (Below.heap_setCell _ p _ _ (by rw [hp]; exact hne))
    exact hk _ (hk _ (hk _ h.kinds _ _ rfl) _ _ rfl) _ _ rfl
theorem clear_grown (g : Nat) : ∀ (L : List Value) (o : Nat) (w : World), w.grownBy (w.setCells g o L) (some g)
  | [], _, w => ⟨rfl, rfl, rfl, Nat.le_refl _, fun _ _ _ => rfl⟩
  | x :: L, o, w => by
    have h1 := grown_set w g o x
    have h2 := clear_grown g L (o + 1) (w.setCell ⟨g, o, none⟩ x)
    exact ⟨h2.os.trans h1.os, h2.tape.trans h1.tape, h2.output.trans h1.output, Nat.le_trans h1.size h2.size, fun k hk hn => (h2.block k (Nat.lt_of_lt_of_le hk h1.size) hn).trans (h1.block k hk hn)⟩
/-- clear of a slice of structs -/
theorem run_clear_k {P : Program} (w : World) (t e ty : TypeId) (z : Value) (s : Nat) (ht : P.underlying t = some (.slice e)) (hv : ∀ w, (zeroValue e).run P w = .ok z w) (hz : z.cells.size = s) (h1 : ∀ v ∈ z.cells.toList, v.oneCell' = true) (b o n c : Nat) (hn : 0 < n)
    (hc : ∀ j, j < n * s → (w.cell? ⟨b, o + j, none⟩).isSome = true) (hf : ∀ j, j < n * s → w.frozen? ⟨b, o + j, none⟩ = false) :
    (Builtin.clear_ #[t] ty #[.slice (some ⟨b, o, none⟩) n c]).run P w = .ok (.tuple #[]) (w.setCells b o (Builtin.zeroCells z.cells n).toList) := by
  have hl : (Builtin.zeroCells z.cells n).toList.length = n * s := by rw [Array.length_toList, size_zeroCells, hz]
  have hst := run_storeCells_cells (P := P) b o (Builtin.zeroCells z.cells n).toList 0 w (by rw [hl]; simpa using hc) (by rw [hl]; simpa using hf) (by
    intro v hv'
    simp only [Builtin.zeroCells, Array.toList_map, List.mem_map] at hv'
    obtain ⟨i, hi, rfl⟩ := hv'
    have hi' : i < n * z.cells.size := by simpa using hi
    have hs : 0 < z.cells.size := by
      rcases Nat.eq_zero_or_pos z.cells.size with h | h
      · rw [h] at hi'; exact absurd hi' (Nat.not_lt_zero _)
      · exact h
    have hm := Nat.mod_lt i hs
    rw [getElem!_pos z.cells _ hm]
    exact h1 _ (by simp))
  simp only [Nat.add_zero] at hst
  obtain ⟨m, rfl⟩ : ∃ m, n = m + 1 := ⟨n - 1, by omega⟩
  simp [Builtin.clear_, run_underlying ht, hv, hst]

set_option maxRecDepth 100000 in
set_option maxHeartbeats 8000000 in
theorem compact_any {B g n c : Nat} {L : List Val} {w0 w : World} (h : VOwn B g n c w0 L w) (hn : n ≤ 1000000) (hne : 0 ≠ g) :
    Calls Tryd.prog 45 #[.slice (some ⟨g, 0, none⟩) n c, .func (.func 46) #[] #[]] w fun e w' => ∃ k : Nat, k ≤ n ∧ e = .returned (.slice (some ⟨g, 0, none⟩) k c) ∧ w0.grownBy w' (some g) ∧ KindsAt w' := by
  obtain ⟨i0, hi, hz0, hz1, hz2⟩ := info_parts info_val
  have eg : ∀ args w, (callFunc 46 args).run Tryd.prog w = .ok (.enter 46 args) w := enters_of Tryd.func46 (by kernel_rfl) rfl
  have hnc : n ≤ c := by
    rcases h.own.2 with ⟨e', _⟩ | ⟨g', cap, cur, e', _, _, h3, _⟩
    · cases e'
    · simp only [Value.slice.injEq] at e'
      obtain ⟨_, _, rfl⟩ := e'
      exact h3
  have H := Lib.hid h
  have HNE := Lib.hid hne
  clear h hne
  by_cases h2 : n < 2
  · have d : decide ((n : Int) < 2) = true := decide_eq_true (by omega)
    go_enter Tryd.func45, Tryd.ntmps45
    go_wp2_with fail
    go_ret
    exact ⟨n, Nat.le_refl _, rfl, H.out.grown, H.out.kinds⟩
  have d : decide ((n : Int) < 2) = false := decide_eq_false (by omega)
  go_enter Tryd.func45, Tryd.ntmps45
  go_wp2_with fail
  go_loopw [5] (fun x5 wr => ∃ (k : Nat) (M : List Val), 1 ≤ k ∧ k ≤ n ∧ x5 = .int .i64 k ∧ Hid (VOwn B g n c w0 M wr)) (fun x5 _ => n - (intOf x5).toNat)
  case atStart => exact ⟨1, L, Nat.le_refl _, by omega, rfl, H.out⟩
  case round =>
  obtain ⟨k, M, hk1, hkn, rfl, HM⟩ := hrel
  by_cases hlt : k < n
  · have hkM : k < M.length := by rw [HM.out.len]; exact hlt
    have hkM1 : k - 1 < M.length := by omega
    obtain ⟨k', rfl⟩ : ∃ k', k = k' + 1 := ⟨k - 1, by omega⟩
    simp only [Nat.add_sub_cancel] at hkM1
    have HX := Lib.hid (fun z : Wld (Below wr.heap.size wr) => (HM.out.below z.good).cells (k' + 1) hkM)
    have HY := Lib.hid (fun z : Wld (Below wr.heap.size wr) => (HM.out.below z.good).cells k' hkM1)
    obtain ⟨x, hx⟩ : ∃ x, M[k' + 1] = x := ⟨_, rfl⟩
    obtain ⟨y, hy⟩ : ∃ y, M[k'] = y := ⟨_, rfl⟩
    rw [hx] at HX
    rw [hy] at HY
    obtain ⟨xk, xn, xs⟩ := x
    obtain ⟨yk, yn, ys⟩ := y
    obtain ⟨f, hf⟩ : ∃ f, (cmpV ⟨xk, xn, xs⟩ ⟨yk, yn, ys⟩ == 0) = f := ⟨_, rfl⟩
    have HCON := Lib.hid (fun z : Wld (Below wr.heap.size wr) => (by
      have h := eqf_any ⟨xk, xn, xs⟩ ⟨yk, yn, ys⟩ z.val (HM.out.below z.good).kinds
      rw [hf] at h
      exact h : Calls Tryd.prog 46 #[.agg #[.int .i64 xk, .int .i64 xn, .string xs], .agg #[.int .i64 yk, .int .i64 yn, .string ys]] z.val fun e w' => e = .returned (.bool f) ∧ Below z.val.heap.size z.val w'))
    have hl1 : g < wr.heap.size := (World.ownsRow.lt HM.out.own g rfl).2
    clear hx hy hf hkM hkM1
    go_upto_region 6 with (fail)
    refine wp_region_class (Below wr.heap.size wr) (by kernel_rfl) (by kernel_rfl) (Below.drew (Below.refl _ _)) (fun ne => ?_)
    have x0 := fun z => (HX.out z).1
    have x1 := fun z => (HX.out z).2.1
    have x2 := fun z => (HX.out z).2.2
    have y0 := fun z => (HY.out z).1
    have y1 := fun z => (HY.out z).2.1
    have y2 := fun z => (HY.out z).2.2
    repeat (go_big_quiet_step ((go_at_call 46; (with_reducible refine Calls.mono (HCON.out _) ?_); rintro e w3 ⟨rfl, b3⟩; exact ⟨rfl, class_below _ b3 (Nat.le_refl _)⟩)))
    refine wpQuiet_nil ?_
    intro w2 b2
    have HM2 := Lib.hid (HM.out.below b2)
    clear x0 x1 x2 y0 y1 y2 HX HY HCON b2
    cases f
    case false =>
      go_wp2_with fail
      go_roundw
      case rel => exact ⟨k' + 1 + 1, M, by omega, by omega, by go_num, HM2.out⟩
      case measure => simp [intOf]; omega
    case true =>
      go_wp2_with fail
      have hz : ∀ w, (zeroValue 41).run Tryd.prog w = .ok (.agg #[.int .i64 0, .int .i64 0, .string ⟨#[]⟩]) w := fun w => by simp [zeroValue, typeInfo, hi, hz0]
      obtain ⟨m, hm⟩ : ∃ m, n - (k' + 1) = m := ⟨_, rfl⟩
      obtain ⟨o, ho⟩ : ∃ o, (k' + 1) * 3 = o := ⟨_, rfl⟩
      have hmn : k' + 1 + m = n := by omega
      rw [hm, ho]
      clear hm hlt
      go_loopw [5, 7] (fun x5 x7 wr => ∃ (j k : Nat) (M' : List Val), 1 ≤ j ∧ j ≤ m ∧ 1 ≤ k ∧ k < n ∧ k ≤ k' + j ∧ x7 = .int .i64 j ∧ x5 = .int .i64 k ∧ Hid (VOwn B g n c w0 M' wr)) (fun _ x7 _ => m - (intOf x7).toNat)
      case atStart => exact ⟨1, k' + 1, M, Nat.le_refl _, by omega, by omega, by omega, by omega, rfl, rfl, HM2.out⟩
      case round =>
        obtain ⟨j, k, N, hj1, hjm, hk1', hkn', hkj, rfl, rfl, HN⟩ := hrel
        by_cases hlt : j < m
        · have hlti : (j : Int) < m := by omega
          have hjN : k' + 1 + j < N.length := by rw [HN.out.len]; omega
          obtain ⟨j', rfl⟩ : ∃ j', j = j' + 1 := ⟨j - 1, by omega⟩
          have hjN1 : k' + 1 + j' < N.length := by omega
          have a1 : ∀ t d, o + t * 3 + d = (k' + 1 + t) * 3 + d := fun t d => by omega
          have HX := Lib.hid (fun z : Wld (Below wr.heap.size wr) => (HN.out.below z.good).cells (k' + 1 + (j' + 1)) hjN)
          have HY := Lib.hid (fun z : Wld (Below wr.heap.size wr) => (HN.out.below z.good).cells (k' + 1 + j') hjN1)
          obtain ⟨x, hx⟩ : ∃ x, N[k' + 1 + (j' + 1)] = x := ⟨_, rfl⟩
          obtain ⟨y, hy⟩ : ∃ y, N[k' + 1 + j'] = y := ⟨_, rfl⟩
          rw [hx] at HX
          rw [hy] at HY
          obtain ⟨xk, xn, xs⟩ := x
          obtain ⟨yk, yn, ys⟩ := y
          obtain ⟨f, hf⟩ : ∃ f, (cmpV ⟨xk, xn, xs⟩ ⟨yk, yn, ys⟩ == 0) = f := ⟨_, rfl⟩
          have HCON := Lib.hid (fun z : Wld (Below wr.heap.size wr) => (by
            have h := eqf_any ⟨xk, xn, xs⟩ ⟨yk, yn, ys⟩ z.val (HN.out.below z.good).kinds
            rw [hf] at h
            exact h : Calls Tryd.prog 46 #[.agg #[.int .i64 xk, .int .i64 xn, .string xs], .agg #[.int .i64 yk, .int .i64 yn, .string ys]] z.val fun e w' => e = .returned (.bool f) ∧ Below z.val.heap.size z.val w'))
          have hl1 : g < wr.heap.size := (World.ownsRow.lt HN.out.own g rfl).2
          have HA := Lib.hid a1
          clear hx hy hf hjN hjN1 a1
          go_upto_region 11 with (fail)
          refine wp_region_class (Below wr.heap.size wr) (by kernel_rfl) (by kernel_rfl) (Below.drew (Below.refl _ _)) (fun ne => ?_)
          have x0 : ∀ z : Wld (Below wr.heap.size wr), z.val.cell? ⟨g, o + (j' + 1) * 3, none⟩ = some (.int .i64 xk) := fun z => by rw [show o + (j' + 1) * 3 = (k' + 1 + (j' + 1)) * 3 from HA.out (j' + 1) 0]; exact (HX.out z).1
          have x1 : ∀ z : Wld (Below wr.heap.size wr), z.val.cell? ⟨g, o + (j' + 1) * 3 + 1, none⟩ = some (.int .i64 xn) := fun z => by rw [HA.out (j' + 1) 1]; exact (HX.out z).2.1
          have x2 : ∀ z : Wld (Below wr.heap.size wr), z.val.cell? ⟨g, o + (j' + 1) * 3 + 2, none⟩ = some (.string xs) := fun z => by rw [HA.out (j' + 1) 2]; exact (HX.out z).2.2
          have y0 : ∀ z : Wld (Below wr.heap.size wr), z.val.cell? ⟨g, o + j' * 3, none⟩ = some (.int .i64 yk) := fun z => by rw [show o + j' * 3 = (k' + 1 + j') * 3 from HA.out j' 0]; exact (HY.out z).1
          have y1 : ∀ z : Wld (Below wr.heap.size wr), z.val.cell? ⟨g, o + j' * 3 + 1, none⟩ = some (.int .i64 yn) := fun z => by rw [HA.out j' 1]; exact (HY.out z).2.1
          have y2 : ∀ z : Wld (Below wr.heap.size wr), z.val.cell? ⟨g, o + j' * 3 + 2, none⟩ = some (.string ys) := fun z => by rw [HA.out j' 2]; exact (HY.out z).2.2
          repeat (go_big_quiet_step ((go_at_call 46; (with_reducible refine Calls.mono (HCON.out _) ?_); rintro e w3 ⟨rfl, b3⟩; exact ⟨rfl, class_below _ b3 (Nat.le_refl _)⟩)))
          refine wpQuiet_nil ?_
          intro w3 b3
          have HN3 := Lib.hid (HN.out.below b3)
          have HX3 := Lib.hid (show w3.cell? ⟨g, o + (j' + 1) * 3, none⟩ = some (.int .i64 xk) ∧ w3.cell? ⟨g, o + (j' + 1) * 3 + 1, none⟩ = some (.int .i64 xn) ∧ w3.cell? ⟨g, o + (j' + 1) * 3 + 2, none⟩ = some (.string xs) from ⟨x0 ⟨w3, b3⟩, x1 ⟨w3, b3⟩, x2 ⟨w3, b3⟩⟩)
          clear x0 x1 x2 y0 y1 y2 HX HY HCON b3
          cases f
          case true =>
            go_wp2_with fail
            go_roundw
            case rel => exact ⟨j' + 1 + 1, k, N, by omega, by omega, hk1', hkn', by omega, by go_num, rfl, HN3.out⟩
            case measure => simp [intOf]; omega
          case false =>
            have hkN : k < N.length := by rw [HN3.out.len]; exact hkn'
            obtain ⟨z0, z1, z2⟩ := HN3.out.cells k hkN
            have f0 := World.ownsRow.frozenAt HN3.out.own (k * 3)
            have f1 := World.ownsRow.frozenAt HN3.out.own (k * 3 + 1)
            have f2 := World.ownsRow.frozenAt HN3.out.own (k * 3 + 2)
            obtain ⟨x0, x1, x2⟩ := HX3.out
            have hki : (k : Int) < n := by omega
            have HS := Lib.hid (HN3.out.set k ⟨xk, xn, xs⟩ hkN HNE.out)
            generalize N[k]'hkN = zz at z0 z1 z2
            clear hkN
            go_wp2_with fail
            go_roundw
            case rel => exact ⟨j' + 1 + 1, k + 1, _, by omega, by omega, by omega, by omega, by omega, by go_num, by go_num, HS.out⟩
            case measure => simp [intOf]; omega
        · have hcl : ∀ ty, (Builtin.clear_ #[46] ty #[.slice (some ⟨g, k * 3, none⟩) (n - k) (c - k)]).run Tryd.prog wr = .ok (.tuple #[]) (wr.setCells g (k * 3) (Builtin.zeroCells (Value.agg #[.int .i64 0, .int .i64 0, .string ⟨#[]⟩]).cells (n - k)).toList) :=
            fun ty => run_clear_k wr _ _ ty _ 3 Tryd.underlying46 hz rfl (fun v hv => by simp [Value.cells] at hv; rcases hv with rfl | rfl | rfl <;> rfl) g (k * 3) _ _ (by omega) (fun t ht => by
              rw [World.ownsRow.cellAt HN.out.own (k * 3 + t) (by omega)]
              have h := HN.out.own.1
              rw [List.getElem?_eq_getElem (by omega)]; rfl) (fun t _ => World.ownsRow.frozenAt HN.out.own _)
          have HG := Lib.hid (show w0.grownBy (wr.setCells g (k * 3) (Builtin.zeroCells (Value.agg #[.int .i64 0, .int .i64 0, .string ⟨#[]⟩]).cells (n - k)).toList) (some g) ∧ KindsAt (wr.setCells g (k * 3) (Builtin.zeroCells (Value.agg #[.int .i64 0, .int .i64 0, .string ⟨#[]⟩]).cells (n - k)).toList) from by
            have h := clear_grown g (Builtin.zeroCells (Value.agg #[.int .i64 0, .int .i64 0, .string ⟨#[]⟩]).cells (n - k)).toList (k * 3) wr
            have h0 := HN.out.grown
            exact ⟨⟨h.os.trans h0.os, h.tape.trans h0.tape, h.output.trans h0.output, Nat.le_trans h0.size h.size, fun t ht hne => (h.block t (Nat.lt_of_lt_of_le ht h0.size) hne).trans (h0.block t ht hne)⟩, HN.out.kinds.block (h.block _ (World.block_lt_of_cell? _ _ HN.out.kinds.1) (fun e => HNE.out (Option.some.inj e)))⟩)
          have hlti : ¬ (j : Int) < m := by omega
          have hkn3 : k ≤ n := by omega
          have hki3 : (k : Int) ≤ n := by omega
          go_wp2_with fail
          go_ret
          exact ⟨k, hkn3, rfl, HG.out⟩
  · have hkn2 : k = n := by omega
    go_wp2_with fail
    go_ret
    exact ⟨n, Nat.le_refl _, rfl, HM.out.grown, HM.out.kinds⟩
end Go.Proofs.YtajlngkakpjncaaDoor

namespace Go.Proofs.YtajlngkakpjncaaDoor
set_option linter.unusedVariables false
set_option linter.unusedSimpArgs false
open Go.RowKit

theorem RowAt.lst {α : Type} {R0 : Rep α} {p : Nat → Prop} {w : World} {b off : Nat} {L : List (List α)} (h : RowAt (sliceR R0) p w (some ⟨b, off, none⟩) L) (t : Nat) (ht : t < L.length) :
    ∃ ra rc, w.cell? ⟨b, off + t, none⟩ = some (.slice ra L[t].length rc) ∧ SlV R0 p w (.slice ra L[t].length rc) L[t] := by
  rcases h with rfl | ⟨b', off', e, hp, hb, h⟩
  · cases ht
  · cases e
    obtain ⟨cs, h1, ra, rc, rfl, h2, h3, h4⟩ := h t ht
    have := h1 0 (by show 0 < 1; decide)
    simp only [sliceR, Nat.mul_one, Nat.add_zero, List.getElem?_cons_zero] at this
    exact ⟨ra, rc, this, ra, rc, rfl, h2, h3, h4⟩
abbrev vrowR : Rep (List Val) := sliceR valR
theorem below_of_own {W w w' : World} {g : Nat} (h : Below W.heap.size W w) (hg : w.grownBy w' (some g)) (hb : W.heap.size ≤ g) : Below W.heap.size W w' :=
  h.grown hg h.size (fun k hk => by cases hk; exact hb)
/-- the statistics under way -/
structure CI (W0 : World) (q : Nat) (nr : Nat) (v : Value) (V : List Int) (w : World) : Prop where
  h : w.heap[q]? = some (.cells #[.int .i64 nr, v] 33 (0, 0))
  o : w.ownsRow W0.heap.size 3 1 v V.length (V.map fun x => Value.int .i64 x)
  b : Below W0.heap.size W0 w
  ge : W0.heap.size ≤ q
  bd : ∀ x ∈ V, 0 ≤ x ∧ x ≤ nr
theorem CI.below {W0 : World} {q nr : Nat} {v : Value} {V : List Int} {w w' : World} (h : CI W0 q nr v V w) (hb : Below w.heap.size w w') : CI W0 q nr v V w' :=
  ⟨(hb.block _ (lt_of_block h.h)).trans h.h, owns_below h.o hb, h.b.trans (hb.mono h.b.size), h.ge, h.bd⟩
theorem CI.push {W0 : World} {q nr : Nat} {v v' : Value} {V : List Int} {x : Int} {w w1 : World} (h : CI W0 q nr v V w) (hx : 0 ≤ x ∧ x ≤ nr) (o1 : w1.ownsRow W0.heap.size 3 1 v' (V.length + 1) ((V.map fun x => Value.int .i64 x) ++ [.int .i64 x])) (g1 : w.grownBy w1 v.ownBlock) :
    CI W0 q nr v' (V ++ [x]) (w1.setCell ⟨q, 1, none⟩ v') := by
  have hq1 : w1.heap[q]? = some (.cells #[.int .i64 nr, v] 33 (0, 0)) := (g1.block _ (lt_of_block h.h) (row_not h.h h.o (by decide))).trans h.h
  have hb1 : Below W0.heap.size W0 w1 := h.b.grown g1 h.b.size (fun k hk => (h.o.lt k hk).1)
  have hne := row_not hq1 o1 (by decide)
  refine ⟨heap_setCell_same _ _ _ _ _ _ hq1, ?_, hb1.setCell (p := ⟨q, 1, none⟩) h.ge _, h.ge, fun y hy => ?_⟩
  · have h2 : w1.grownBy (w1.setCell ⟨q, 1, none⟩ v') (some q) := grown_set _ _ _ _
    have h3 := o1.kept h2 (by
      cases hv : v'.ownBlock with
      | none => left; rfl
      | some g => right; exact fun e => hne (by rw [hv, ← e]))
    simpa using h3
  · rcases List.mem_append.1 hy with hy | hy
    · exact h.bd y hy
    · rw [List.mem_singleton.1 hy]; exact hx
set_option maxRecDepth 100000 in
set_option maxHeartbeats 4000000 in
theorem compact_nil (c : Nat) (f : Value) (w : World) : Calls Tryd.prog 45 #[.slice none 0 c, f] w fun e w' => e = .returned (.slice none 0 c) ∧ w = w' := by
  go_enter Tryd.func45, Tryd.ntmps45
  go_wp2_with fail
  go_ret
  exact ⟨rfl, rfl⟩
/-- the values of a column are sorted and made different from each other -/
theorem tidy_any {B n : Nat} {v : Value} {L : List Val} {w : World} (h : w.ownsRow B 41 3 v L.length (L.flatMap valEnc)) (hn : L.length ≤ n) (hn2 : n ≤ 1000000) (hK : KindsAt w) (hB : 0 < B) :
    Calls Tryd.prog 44 #[v, .func (.func 23) #[] #[]] w fun e w1 => e = .returned (.tuple #[]) ∧ Calls Tryd.prog 45 #[v, .func (.func 46) #[] #[]] w1 fun e w2 => ∃ (a : Option Addr) (k c : Nat), k ≤ n ∧ e = .returned (.slice a k c) ∧ w.grownBy w2 v.ownBlock ∧ KindsAt w2 := by
  rcases h.2 with ⟨rfl, h0⟩ | ⟨g, cap, cur, rfl, hg, _⟩
  · refine (sort_nil 0 w).mono ?_
    rintro e w1 ⟨rfl, rfl⟩
    refine ⟨rfl, (compact_nil 0 _ _).mono ?_⟩
    rintro e w2 ⟨rfl, rfl⟩
    exact ⟨none, 0, 0, Nat.zero_le _, rfl, grownBy_refl _ _, hK⟩
  · have hne : 0 ≠ g := by omega
    refine (sort_any h rfl (by omega) hK hne).mono ?_
    rintro e w1 ⟨rfl, L', hl, g1, o1⟩
    have hkl : 0 < w.heap.size := World.block_lt_of_cell? w _ hK.1
    have hk1 : KindsAt w1 := hK.block (g1.block _ hkl (fun e => hne (by simpa using e)))
    refine ⟨rfl, (compact_any (w0 := w) (L := L') ⟨hl, o1, g1, hk1⟩ (by omega) hne).mono ?_⟩
    rintro e w2 ⟨k, hk, rfl, g2, hk2⟩
    exact ⟨_, k, _, by omega, rfl, g2, hk2⟩
theorem owns_form3 {w : World} {B : Nat} {e : TypeId} {sz : Nat} {v : Value} {n : Nat} {xs : List Value} (h : w.ownsRow B e sz v n xs) : ∃ a c, v = .slice a n c ∧ (a = none → c = 0) := by
  rcases h.2 with ⟨rfl, rfl⟩ | ⟨g, cap, cur, rfl, _, _, h3, _⟩
  · exact ⟨none, 0, rfl, fun _ => rfl⟩
  · exact ⟨_, cap, rfl, fun e => by cases e⟩
theorem ints_sl {w : World} {S n : Nat} {a : Option Addr} {c : Nat} {L : List Int} (h : w.ownsRow S 3 1 (.slice a n c) n (L.map fun x => Value.int .i64 x)) (hn : L.length = n) (hs : n ≤ 1000) : SlV intR (fun k => S ≤ k) w (.slice a L.length c) L := by
  subst hn
  by_cases hL : 0 < L.length
  · obtain ⟨g, cap, cs, e, h1, _, h2, h3⟩ := int_row h hL
    simp only [Value.slice.injEq, true_and] at e
    obtain ⟨rfl, rfl⟩ := e
    exact ⟨_, _, rfl, h2, by omega, h3.weaken fun k hk => by rw [hk]; exact h1⟩
  · have e : L = [] := List.eq_nil_of_length_eq_zero (by omega)
    subst e
    exact ⟨a, c, rfl, Nat.zero_le _, Nat.zero_le _, Or.inl rfl⟩
/-- what catalog.Count makes -/
def CountP (nc nr : Nat) (w : World) (e : Ending) (w' : World) : Prop :=
  ∃ (a : Option Addr) (c : Nat) (V : List Int), V.length = nc ∧ (∀ x ∈ V, 0 ≤ x ∧ x ≤ nr) ∧ e = .returned (.agg #[.int .i64 nr, .slice a nc c]) ∧ Below w.heap.size w w' ∧ SlV intR (fun k => w.heap.size ≤ k) w' (.slice a V.length c) V ∧ (a = none → c = 0)

set_option maxRecDepth 100000 in
set_option maxHeartbeats 16000000 in
theorem count_any {p q : Nat → Prop} {tv : Value} {T : Tab} {ra : Option Addr} {rc : Nat} {R : List (List Val)} {w : World} (hT : TabV p w tv T) (hR : SlV vrowR q w (.slice ra R.length rc) R) (hr : R.length ≤ 1000) (hc : T.cols.length ≤ 1000) (hK : KindsAt w) :
    Calls Tryd.prog 24 #[tv, .slice ra R.length rc] w (CountP T.cols.length R.length w) := by
  obtain ⟨ac, cc, ai, ci, rfl, _, _⟩ := hT
  obtain ⟨_, _, _, hrow⟩ := hR.row
  obtain ⟨i1, h1, ia0, ia1, ia2⟩ := info_parts info_val
  obtain ⟨i2, h2, ib0, ib1, ib2⟩ := info_parts info_int
  obtain ⟨nr, hnr⟩ : ∃ n, R.length = n := ⟨_, rfl⟩
  obtain ⟨nc, hnc⟩ : ∃ n, T.cols.length = n := ⟨_, rfl⟩
  obtain ⟨ni, hni⟩ : ∃ n, T.idx.length = n := ⟨_, rfl⟩
  have HNR := Lib.hid hnr
  rw [hnr] at hr
  rw [hnc] at hc
  rw [hnr, hnc, hni]
  have HR := Lib.hid hrow
  have HK := Lib.hid hK
  clear hnr hnc hni hrow hK hR
  go_enter Tryd.func24, Tryd.ntmps24
  go_upto_region 2 with (fail)
  generalize hX : World.alloc _ _ = W1
  have hX' : allocs w [_, _, _] = W1 := hX
  have QT := Lib.hid (show W1.heap[w.heap.size]? = some (.cells #[.int .i64 T.id, .string T.name, .slice ac nc cc, .slice ai ni ci] 30 (0, 0)) from allocs_get hX' 0 rfl)
  have Q4 := Lib.hid (show W1.heap[w.heap.size + 1]? = some (.cells #[.int .i64 0, .slice none 0 0] 33 (0, 0)) from allocs_get hX' 1 rfl)
  have Q5 := Lib.hid (show W1.heap[w.heap.size + 1 + 1]? = some (.cells #[.int .i64 nr, .slice none 0 0] 33 (0, 0)) from allocs_get hX' 2 rfl)
  have B1 := Lib.hid (allocs_self hX')
  obtain ⟨q4, hq4⟩ : ∃ g, w.heap.size + 1 = g := ⟨_, rfl⟩
  obtain ⟨q5, hq5⟩ : ∃ g, q4 + 1 = g := ⟨_, rfl⟩
  rw [hq4] at Q4 Q5 ⊢
  rw [hq5] at Q5 ⊢
  have HQ := Lib.hid (show w.heap.size ≤ q4 ∧ w.heap.size ≤ q5 ∧ q4 ≠ q5 from ⟨by omega, by omega, by omega⟩)
  clear hX hX' hq4 hq5
  have t2 := cells_of QT.out 2
  simp only [List.getElem?_toArray, List.getElem?_cons_zero, List.getElem?_cons_succ] at t2
  have P0 := Lib.hid (show CI w q5 nr (.slice none 0 0) [] W1 from ⟨Q5.out, World.ownsRow_nil _ _ _ _, B1.out, HQ.out.2.1, fun x hx => by cases hx⟩)
  go_wp2_with fail
  clear t2
  go_loopw [16] (fun x16 wr => ∃ (i : Nat) (v : Value) (V : List Int), i ≤ nc ∧ x16 = .int .i64 i ∧ Hid (V.length = i) ∧ Hid (CI w q5 nr v V wr) ∧ Hid (wr.heap[q4]? = some (.cells #[.int .i64 0, .slice none 0 0] 33 (0, 0)))) (fun x16 _ => nc - (intOf x16).toNat)
  case atStart => exact ⟨0, _, [], Nat.zero_le _, rfl, rfl, P0.out, Q4.out⟩
  case round =>
    obtain ⟨i, v, V, hi, rfl, HVL, HC, HQ4⟩ := hrel
    obtain ⟨V0, hV0⟩ : ∃ W, W = wr := ⟨_, rfl⟩
    subst hV0
    clear P0
    have hsV := HC.out.b.size
    by_cases hlt : i < nc
    · have hlti : (i : Int) < nc := by omega
      go_wp2_with fail
      go_loopw [7, 21] (fun x7 x21 wr => ∃ (j : Nat) (u : Value) (L : List Val), j ≤ nr ∧ x21 = .int .i64 j ∧ u = x7 ∧ Hid (L.length ≤ j) ∧ Hid (OneAt V0.heap.size V0 41 3 u L.length (L.flatMap valEnc) wr)) (fun _ x21 _ => nr - (intOf x21).toNat)
      case atStart => exact ⟨0, _, [], Nat.zero_le _, rfl, rfl, Nat.zero_le _, World.ownsRow_nil _ _ _ _, Below.refl _ _⟩
      case round =>
        obtain ⟨j, u, L, hj, rfl, rfl, HL, HO⟩ := hrel
        have hsr := HO.out.b.size
        by_cases hjl : j < nr
        · have hjli : (j : Int) < nr := by omega
          have hjR : j < R.length := by rw [HNR.out]; exact hjl
          have BW := Lib.hid (HC.out.b.trans (HO.out.b.mono HC.out.b.size))
          obtain ⟨rb, ro, rfl, _, hrb⟩ := HR.out.addr (by intro e; rw [e] at hjR; cases hjR)
          obtain ⟨xa, xc, c0, hxr⟩ := HR.out.lst j hjR
          have c1 := (BW.out.cell (p := ⟨rb, ro + j, none⟩) hrb).trans c0
          obtain ⟨X, hX⟩ : ∃ X, R[j]'hjR = X := ⟨_, rfl⟩
          rw [hX] at c1 hxr
          obtain ⟨nx, hnx⟩ : ∃ n, X.length = n := ⟨_, rfl⟩
          have HXR := Lib.hid hxr.row.2.2.2
          rw [hnx] at c1
          clear c0 hxr hX hrb hjR
          by_cases hil : i < nx
          · have hili : (i : Int) < nx := by omega
            have hiX : i < X.length := by rw [hnx]; exact hil
            obtain ⟨xb, xo, rfl, _, hxb⟩ := HXR.out.addr (by intro e; rw [e] at hiX; cases hiX)
            obtain ⟨y0, y1, y2⟩ := HXR.out.val i hiX
            obtain ⟨x, hx⟩ : ∃ x, X[i]'hiX = x := ⟨_, rfl⟩
            rw [hx] at y0 y1 y2
            obtain ⟨xk, xn, xs⟩ := x
            have z0 := (BW.out.cell (p := ⟨xb, xo + i * 3, none⟩) hxb).trans y0
            have z1 := (BW.out.cell (p := ⟨xb, xo + i * 3 + 1, none⟩) hxb).trans y1
            have z2 := (BW.out.cell (p := ⟨xb, xo + i * 3 + 2, none⟩) hxb).trans y2
            simp only at z0 z1 z2
            obtain ⟨ln, hln⟩ : ∃ n, L.length = n := ⟨_, rfl⟩
            rw [hln] at HO
            have HLN := Lib.hid (show L.length = ln ∧ ln ≤ j from ⟨hln, by rw [← hln]; exact HL.out⟩)
            have hln2 : ln ≤ j := HLN.out.2
            clear hx y0 y1 y2 hxb hiX hnx hln
            obtain ⟨ua, uc, rfl, _⟩ := owns_form3 HO.out.m
            have bA : Below wr.heap.size wr (wr.alloc (.cells #[.int .i64 xk, .int .i64 xn, .string xs] 41)) := (Below.refl _ _).alloc (Nat.le_refl _) _
            go_wp2_with (at_builtin; go_loud (refine wpList_append_own_at _ rfl _ _ 46 rfl V0.heap.size 41 i1 _ 3 32 Tryd.underlying46 h1 ia0 ia1 ia2 rfl (by decide) (.slice ua ln uc) ln _ rfl (owns_below HO.out.m bA) ⟨wr.heap.size, 0, none⟩ 1 1 [.int .i64 xk, .int .i64 xn, .string xs] rfl rfl (fun t y hy => by rw [addr_add, cells_of (heap_alloc_new _ _)]; simpa using hy) (fun y hy => by simp only [List.mem_cons, List.not_mem_nil, or_false] at hy; rcases hy with rfl | rfl | rfl <;> rfl) (by unfold maxLen; omega) (by omega) (by simp; omega) ?_; intro v' w7 o7 g7 hx7 at7; clear hx7 at7; obtain ⟨va2, vc2, rfl, _⟩ := owns_form3 o7; have N7 := Lib.hid (show OneAt V0.heap.size V0 41 3 (.slice va2 (ln + 1) vc2) (L ++ [(⟨xk, xn, xs⟩ : Val)]).length ((L ++ [(⟨xk, xn, xs⟩ : Val)]).flatMap valEnc) w7 from by rw [List.length_append, HLN.out.1, List.flatMap_append]; exact (HO.out.below bA hsr).push (by simp; omega) o7 g7); clear o7 g7))
            go_roundw
            case rel => exact ⟨j + 1, _, L ++ [(⟨xk, xn, xs⟩ : Val)], by omega, by go_num, rfl, by have := HLN.out; simp; omega, N7.out⟩
            case measure => simp [intOf]; omega
          · have hili : decide ((i : Int) < nx) = false := decide_eq_false (by omega)
            go_wp2_with fail
            go_roundw
            case rel => exact ⟨j + 1, _, L, by omega, by go_num, rfl, Nat.le_succ_of_le HL.out, HO.out⟩
            case measure => simp [intOf]; omega
        · have hjn : j = nr := by omega
          have hL : L.length ≤ nr := by rw [← hjn]; exact HL.out
          have HKr := Lib.hid ((HK.out.below HC.out.b).below HO.out.b)
          have hKB : 0 < V0.heap.size := Nat.lt_of_lt_of_le (World.block_lt_of_cell? w _ HK.out.1) hsV
          have con := tidy_any HO.out.m hL (by omega) HKr.out hKB
          have HOO := Lib.hid HO.out
          obtain ⟨ln, hln⟩ : ∃ n, L.length = n := ⟨_, rfl⟩
          clear hL
          go_wp2_with fail
          refine con.mono ?_
          rintro e w3 ⟨rfl, con2⟩
          clear con
          go_wp2_with fail
          refine con2.mono ?_
          rintro e w4 ⟨a4, k4, c4, hk4, rfl, g4, _⟩
          clear con2
          have B4 := Lib.hid (show Below V0.heap.size V0 w4 from HOO.out.b.grown g4 hsr (fun k hk => (HOO.out.m.lt k hk).1))
          have HC4 := Lib.hid (HC.out.below B4.out)
          have HQ44 := Lib.hid ((B4.out.block _ (lt_of_block HQ4.out)).trans HQ4.out)
          have hs4 := HC4.out.b.size
          have HO4 := Lib.hid (show w4.ownsRow w.heap.size 3 1 v i (V.map fun x => Value.int .i64 x) by rw [← HVL.out]; exact HC4.out.o)
          have o0 := cells_of HC4.out.h 0
          have o1 := cells_of HC4.out.h 1
          have f1 := free_of HC4.out.h 1
          simp only [List.getElem?_toArray, List.getElem?_cons_zero, List.getElem?_cons_succ] at o0 o1
          obtain ⟨va, vc, rfl, _⟩ := owns_form3 HO4.out
          clear g4
          have bA : Below w4.heap.size w4 (w4.alloc (.cells #[.int .i64 k4] 3)) := (Below.refl _ _).alloc (Nat.le_refl _) _
          go_wp2_with (at_builtin; go_loud (refine wpList_append_own_at _ rfl _ _ 22 rfl w.heap.size 3 i2 _ 1 8 Tryd.underlying22 h2 ib0 ib1 ib2 rfl (by decide) (.slice va i vc) i _ rfl (owns_below HO4.out bA) ⟨w4.heap.size, 0, none⟩ 1 1 [.int .i64 k4] rfl rfl (fun t y hy => by rw [addr_add, cells_of (heap_alloc_new _ _)]; simpa using hy) (fun y hy => by rw [List.mem_singleton.1 hy]; rfl) (by unfold maxLen; omega) (by omega) (by simp; omega) ?_; intro v' w7 o7 g7 hx7 at7; clear hx7 at7; obtain ⟨va2, vc2, rfl, _⟩ := owns_form3 o7; have hq7 : w7.heap[q5]? = some (.cells #[.int .i64 nr, .slice va i vc] 33 (0, 0)) := (g7.block _ (Nat.lt_of_lt_of_le (lt_of_block HC4.out.h) bA.size) (row_not ((bA.block _ (lt_of_block HC4.out.h)).trans HC4.out.h) (owns_below HO4.out bA) (by decide))).trans ((bA.block _ (lt_of_block HC4.out.h)).trans HC4.out.h); have p1 := cells_of hq7 1; have e1 := free_of hq7 1; have N7 := Lib.hid ((HC4.out.below bA).push (x := k4) (v' := .slice va2 (i + 1) vc2) ⟨by omega, by omega⟩ (by rw [HVL.out]; exact o7) g7); have M7 := Lib.hid (show (w7.setCell ⟨q5, 1, none⟩ (.slice va2 (i + 1) vc2)).heap[q4]? = some (.cells #[.int .i64 0, .slice none 0 0] 33 (0, 0)) from (Below.heap_setCell _ ⟨q5, 1, none⟩ _ q4 (fun e => HQ.out.2.2 e)).trans ((g7.block _ (Nat.lt_of_lt_of_le (lt_of_block HQ44.out) bA.size) (row_not ((bA.block _ (lt_of_block HQ44.out)).trans HQ44.out) (owns_below HO4.out bA) (by decide))).trans ((bA.block _ (lt_of_block HQ44.out)).trans HQ44.out))); simp only [List.getElem?_toArray, List.getElem?_cons_zero, List.getElem?_cons_succ] at p1; clear o7 g7 hq7 o0 o1 f1))
          go_roundw
          case rel => exact ⟨i + 1, _, V ++ [(k4 : Int)], by omega, by go_num, by have := HVL.out; simp; omega, N7.out, M7.out⟩
          case measure => simp [intOf]; omega
    · have hin : i = nc := by omega
      have o0 := cells_of HC.out.h 0
      have o1 := cells_of HC.out.h 1
      have f0 := cells_of HQ4.out 0
      have f1 := cells_of HQ4.out 1
      have e0 := free_of HQ4.out 0
      have e1 := free_of HQ4.out 1
      simp only [List.getElem?_toArray, List.getElem?_cons_zero, List.getElem?_cons_succ] at o0 o1 f0 f1
      obtain ⟨va, vc, hv, hvn⟩ := owns_form3 HC.out.o
      have hvl : V.length = nc := by rw [← hin]; exact HVL.out
      rw [hvl] at hv
      subst hv
      have HVN := Lib.hid hvl
      have HNN := Lib.hid hvn
      clear hvl hvn
      go_wp2_with fail
      refine bodyPost_ret (results_cell_row rfl _ _ q4 33 #[.int .i64 nr, .slice va nc vc] (0, 0) _ rfl (block_set (block_set HQ4.out)) Tryd.underlying33 rfl (by kernel_rfl)) rfl ?_
      have bS : Below w.heap.size w ((V0.setCell ⟨q4, 0, none⟩ (.int .i64 nr)).setCell ⟨q4, 1, none⟩ (.slice va nc vc)) := (HC.out.b.setCell (p := ⟨q4, 0, none⟩) HQ.out.1 _).setCell (p := ⟨q4, 1, none⟩) HQ.out.1 _
      refine ⟨va, vc, V, HVN.out, HC.out.bd, rfl, bS, ints_sl ?_ HVN.out hc, HNN.out⟩
      have h0 : V0.ownsRow w.heap.size 3 1 (.slice va nc vc) nc (V.map fun x => Value.int .i64 x) := by rw [← HVN.out]; rw [HVN.out]; have h := HC.out.o; rw [HVN.out] at h; exact h
      have hne := row_not HQ4.out h0 (by decide)
      have keep : ∀ {a : World} (o : Nat) (u : Value), a.ownsRow w.heap.size 3 1 (.slice va nc vc) nc (V.map fun x => Value.int .i64 x) → (a.setCell ⟨q4, o, none⟩ u).ownsRow w.heap.size 3 1 (.slice va nc vc) nc (V.map fun x => Value.int .i64 x) := fun o u h => h.kept (grown_set _ q4 o u) (by
        cases hv : Value.ownBlock (.slice va nc vc) with
        | none => left; rfl
        | some g => right; exact fun e => hne (by rw [hv, ← e]))
      exact keep _ _ (keep _ _ h0)
end Go.Proofs.YtajlngkakpjncaaDoor

namespace Go.Proofs.YtajlngkakpjncaaDoor
set_option linter.unusedVariables false
set_option linter.unusedSimpArgs false
open Go.RowKit

theorem val_fine (n : Int) (hn : -9223372036854775808 ≤ n ∧ n ≤ 9223372036854775807) : (valOf n).fine := by
  unfold valOf Val.fine
  simp only
  split
  · simp only; omega
  · split
    · simp only; omega
    · split
      · simp only; omega
      · split
        · exact hn
        · simp only; omega
theorem info_row : (Tryd.prog.info? 47).map (fun i => (i.zero, i.size, i.bytes)) = some (some (.slice none 0 0), 1, 24) := by kernel_rfl
/-- rows of the call's own -/
structure LI (S : Nat) (W : World) (F : List (List Val)) (v : Value) (outs : List Value) (w : World) : Prop where
  o : w.ownsRow S 47 1 v F.length outs
  e : ∀ t (ht : t < F.length), ∃ a c, outs[t]? = some (.slice a F[t].length c) ∧ SlV valR (fun k => S ≤ k ∧ v.ownBlock ≠ some k) w (.slice a F[t].length c) F[t]
  b : Below S W w
  s : S ≤ w.heap.size
theorem LI.below {S : Nat} {W : World} {F : List (List Val)} {v : Value} {outs : List Value} {w w' : World} (h : LI S W F v outs w) (hb : Below w.heap.size w w') : LI S W F v outs w' :=
  ⟨owns_below h.o hb, fun t ht => by
    obtain ⟨a, c, h1, h2⟩ := h.e t ht
    exact ⟨a, c, h1, h2.below hb⟩, h.b.trans (hb.mono h.s), Nat.le_trans h.s hb.size⟩
theorem LI.push {S : Nat} {W : World} {F : List (List Val)} {X : List Val} {v v' : Value} {xa : Option Addr} {xc : Nat} {outs : List Value} {w w1 : World} (h : LI S W F v outs w) (hX : SlV valR (fun k => S ≤ k ∧ v.ownBlock ≠ some k) w (.slice xa X.length xc) X)
    (o1 : w1.ownsRow S 47 1 v' (F.length + 1) (outs ++ [.slice xa X.length xc])) (g1 : w.grownBy w1 v.ownBlock) (at1 : v'.ownBlock = v.ownBlock ∨ v'.ownBlock = some w.heap.size) : LI S W (F ++ [X]) v' (outs ++ [.slice xa X.length xc]) w1 := by
  have hl : (F ++ [X]).length = F.length + 1 := by simp
  have hol : outs.length = F.length := by have := h.o.1; omega
  have key : ∀ {a : Option Addr} {n c : Nat} {L : List Val}, SlV valR (fun k => S ≤ k ∧ v.ownBlock ≠ some k) w (.slice a n c) L → SlV valR (fun k => S ≤ k ∧ v'.ownBlock ≠ some k) w1 (.slice a n c) L := fun h0 => by
    have h1 := h0.bound.keep (w' := w1) (fun k hk hkl => g1.block k hkl (fun e => hk.1.2 e.symm))
    refine h1.weaken fun k hk => ⟨hk.1.1, ?_⟩
    rcases at1 with e | e
    · rw [e]; exact hk.1.2
    · rw [e]; intro e2; have := Option.some.inj e2; have := hk.2; omega
  refine ⟨by rw [hl]; exact o1, fun t ht => ?_, h.b.grown g1 h.s (fun k hk => (h.o.lt k hk).1), Nat.le_trans h.s g1.size⟩
  by_cases htl : t < F.length
  · obtain ⟨a, c, h1, h2⟩ := h.e t htl
    refine ⟨a, c, ?_, ?_⟩
    · rw [List.getElem?_append_left (by omega)]
      simp only [List.getElem_append_left htl]
      exact h1
    · simp only [List.getElem_append_left htl]
      exact key h2
  · have e : t = F.length := by rw [hl] at ht; omega
    subst e
    refine ⟨xa, xc, ?_, ?_⟩
    · rw [List.getElem?_append_right (by omega), hol]
      simp
    · simp only [List.getElem_append_right (Nat.le_refl _), Nat.sub_self, List.getElem_cons_zero]
      exact key hX
theorem LI.sl {S : Nat} {W : World} {F : List (List Val)} {v : Value} {outs : List Value} {w : World} (h : LI S W F v outs w) (hs : F.length ≤ 1000) : ∃ a c, v = .slice a F.length c ∧ SlV vrowR (fun k => S ≤ k) w (.slice a F.length c) F := by
  obtain ⟨a', c', hv', h5, h6, _⟩ := RowAt.of_owns (R := vrowR) (p := fun k => S ≤ k) h.o (fun _ h => h) (fun t ht => by
    show vrowR.ok _ w (List.take 1 (List.drop (t * 1) outs)) F[t]
    have hto : t < outs.length := by have := h.o.1; omega
    obtain ⟨a, c, k1, k2⟩ := h.e t ht
    have e : List.take 1 (List.drop (t * 1) outs) = [.slice a F[t].length c] := by
      rw [Nat.mul_one, List.drop_eq_getElem_cons hto]
      rw [List.getElem?_eq_getElem hto] at k1
      rw [Option.some.inj k1]
      rfl
    rw [e]
    obtain ⟨a2, c2, e2, k3, k4, k5⟩ := k2
    exact ⟨a2, c2, by rw [e2], k3, k4, k5.weaken fun k hk => hk.1⟩)
  exact ⟨a', c', hv', a', c', rfl, h5, by omega, h6⟩
theorem flat_ints : ∀ V : List Int, (V.flatMap fun x : Int => [Value.int .i64 x]) = V.map fun x => Value.int .i64 x
  | [] => rfl
  | x :: l => by rw [List.flatMap_cons, flat_ints l]; rfl
/-- a new box -/
def NewB (S : Nat) (T : TypeId) (cs : Array Value) (u : Value) (w : World) : Prop := ∃ q, u = .pointer (some ⟨q, 0, none⟩) ∧ S ≤ q ∧ w.heap[q]? = some (.cells cs T (0, 0))
theorem NewB.below {S : Nat} {T : TypeId} {cs : Array Value} {u : Value} {w w' : World} (h : NewB S T cs u w) (hb : Below w.heap.size w w') : NewB S T cs u w' := by
  obtain ⟨q, e, h1, h2⟩ := h
  exact ⟨q, e, h1, (hb.block _ (lt_of_block h2)).trans h2⟩
def NewZ (u : Value) : Prop := ∃ q, u = .slice (some ⟨q, 0, none⟩) 0 0
def OwnV (S n : Nat) (V : List Int) (u : Value) (w : World) : Prop := ∃ ua uc, u = .slice ua n uc ∧ w.ownsRow S 3 1 u n (V.map fun x => Value.int .i64 x)
theorem OwnV.below {S n : Nat} {V : List Int} {u : Value} {w w' : World} (h : OwnV S n V u w) (hb : Below w.heap.size w w') : OwnV S n V u w' := by
  obtain ⟨ua, uc, e, h1⟩ := h
  exact ⟨ua, uc, e, owns_below h1 hb⟩
def StaN (S n fl : Nat) (V : List Int) (u : Value) (w : World) : Prop := ∃ ua uc, u = .agg #[.int .i64 fl, .slice ua n uc] ∧ w.ownsRow S 3 1 (.slice ua n uc) n (V.map fun x => Value.int .i64 x)
theorem StaN.below {S n fl : Nat} {V : List Int} {u : Value} {w w' : World} (h : StaN S n fl V u w) (hb : Below w.heap.size w w') : StaN S n fl V u w' := by
  obtain ⟨ua, uc, e, h1⟩ := h
  exact ⟨ua, uc, e, owns_below h1 hb⟩
/-- append to a new slice without room: it only makes memory -/
theorem wpList_append_fresh {P : Program} {w : World} {ops : Array Oper} {rest : List Oper} {o : Oper} {a : Act} {Q : Exit → Act → World → Prop} (hgd : o.guard = none) (s x : Operand) (t : TypeId)
    (ho : o.op = .call { callee := .builtin .append, args := #[s, x], argTypes := #[t, t] })
    (base : Nat) (e : TypeId) (i : TypeInfo) (z : Value) (size bytes : Nat) (ht : P.underlying t = some (.slice e)) (hi : P.info? e = some i) (hz : i.zero = some z)
    (hsize : i.size = size) (hby : i.bytes = bytes) (hzs : z.cells.size = size) (_ : 0 < size)
    (q : Addr) (hs : a.eval s = .slice (some q) 0 0)
    (ad : Addr) (m c : Nat) (news : List Value) (hx : a.eval x = .slice (some ad) m c) (hl : news.length = m * size) (hnews : ∀ j u, news[j]? = some u → w.cell? (ad.add j) = some u)
    (hm : 0 < m) (h63 : m ≤ maxLen) (hbytes : m * bytes ≤ 140737488355328) (hbase : base ≤ w.heap.size)
    (h : ∀ v' w', w'.ownsRow base e size v' m news → Below w.heap.size w w' → wpList P ops Q rest (a.put o.dst v') w') :
    wpList P ops Q (o :: rest) a w := by
  subst hsize
  subst hby
  have hsmall : m ≤ 9223372036854775807 := by simp only [maxLen] at h63; omega
  have hr := run_append_grow (P := P) w t o.type e i z ht hi hz q 0 0 [] (by simp) (fun j v hj => by simp at hj) ad m c news hl hnews (by omega) (by omega) (growslice_fits (by omega) (by rw [Nat.zero_add]; exact hbytes))
  simp only [Nat.zero_add, List.nil_append] at hr
  have hge := grownCap_ge w m 0 e
  have hcm : grownCap w m 0 e ≤ maxLen := grownCap_le_maxLen w m 0 e h63
  refine wpList_plain hgd fun K hK => ?_
  unfold Oper.wp execOp
  simp only [ho, resolve, invoke, builtin, Sem.run_bind, Sem.run_pure, Result.andThen_ok, List.map_toArray, List.map_cons, List.map_nil, hs, hx, hr]
  refine hK _ _ (h _ _ ⟨hl, .inr ⟨w.heap.size, _, _, rfl, hbase, heap_alloc_new w.drew _, hge, hcm, ?_, ?_⟩⟩ ((Below.refl _ _).drew.alloc (Nat.le_refl _) _))
  · simp only [Array.size_append, List.size_toArray, size_zeroCells, hzs, hl, List.length_nil, Nat.zero_add, ← Nat.add_mul]
    congr 1
    omega
  · simp only [Array.toList_append, List.append_assoc, List.nil_append]
    rw [← hl]
    exact List.take_left
def addTo (V : List Int) (d : Int) (i : Nat) : List Int := (V.take i).map (· + d) ++ V.drop i
theorem addTo_zero (V : List Int) (d : Int) : addTo V d 0 = V := by simp [addTo]
theorem addTo_all (V : List Int) (d : Int) (n : Nat) (h : V.length = n) : addTo V d n = V.map (· + d) := by
  subst h
  simp [addTo]
theorem addTo_at (V : List Int) (d : Int) (i : Nat) (h : i < V.length) : ((addTo V d i).map fun x => Value.int .i64 x)[i]? = some (.int .i64 V[i]) := by
  have hl : ((V.take i).map (· + d)).length = i := by simp; omega
  unfold addTo
  rw [List.getElem?_map, List.getElem?_append_right (by omega), hl, Nat.sub_self, List.drop_eq_getElem_cons h]
  rfl
theorem addTo_succ (V : List Int) (d : Int) (i : Nat) (h : i < V.length) : (addTo V d (i + 1)).map (fun x => Value.int .i64 x) = ((addTo V d i).map fun x => Value.int .i64 x).set i (.int .i64 (V[i] + d)) := by
  have hl : ((V.take i).map (· + d)).length = i := by simp; omega
  unfold addTo
  rw [List.take_succ_eq_append_getElem h, List.drop_eq_getElem_cons h]
  simp only [List.map_append, List.map_cons, List.map_nil, List.append_assoc, List.singleton_append]
  rw [List.set_append_right _ _ (by simp; omega)]
  have : i - ((V.take i).map (· + d) |>.map fun x => Value.int .i64 x).length = 0 := by simp; omega
  rw [this]
  rfl
/-- the statistics that are made larger -/
structure BB (W7 : World) (qb fl nc ub uc : Nat) (V : List Int) (d : Int) (i : Nat) (w : World) : Prop where
  h : w.heap[qb]? = some (.cells #[.int .i64 fl, .slice (some ⟨ub, 0, none⟩) nc uc] 33 (0, 0))
  o : w.ownsRow W7.heap.size 3 1 (.slice (some ⟨ub, 0, none⟩) nc uc) nc ((addTo V d i).map fun x => Value.int .i64 x)
  b : Below W7.heap.size W7 w
theorem BB.below {W7 : World} {qb fl nc ub uc : Nat} {V : List Int} {d : Int} {i : Nat} {w w' : World} (h : BB W7 qb fl nc ub uc V d i w) (hb : Below w.heap.size w w') : BB W7 qb fl nc ub uc V d i w' :=
  ⟨(hb.block _ (lt_of_block h.h)).trans h.h, owns_below h.o hb, h.b.trans (hb.mono h.b.size)⟩
/-- a slice of one new cell -/
def NewC (B : Nat) (x : Value) (T : TypeId) (u : Value) (w : World) : Prop := ∃ q, u = .slice (some ⟨q, 0, none⟩) 1 1 ∧ B ≤ q ∧ w.heap[q]? = some (.cells #[x] T (0, 0))
theorem NewC.below {B : Nat} {x : Value} {T : TypeId} {u : Value} {w w' : World} (h : NewC B x T u w) (hb : Below w.heap.size w w') : NewC B x T u w' := by
  obtain ⟨q, e, h1, h2⟩ := h
  exact ⟨q, e, h1, (hb.block _ (lt_of_block h2)).trans h2⟩
set_option maxRecDepth 100000 in
set_option maxHeartbeats 16000000 in
theorem counts_walk {p1 p3 : Nat → Prop} {aT aU aW aV aR : Option Addr} {nU nR nV cT cU cW cV cR : Nat} {LT LW : List Int} {r0 r1 more : Int} {w : World} (hT : SlV intR p1 w (.slice aT LT.length cT) LT) (hL : SlV intR p3 w (.slice aW LW.length cW) LW)
    (hf : ∀ x ∈ LW, -9223372036854775808 ≤ x ∧ x ≤ 9223372036854775807) (hR : RowsV w aR nR) (hn : nR ≤ 140737488355328) (he : Env w) (hK : KindsAt w) :
    Calls Tryd.prog 9 #[.agg #[.slice aT LT.length cT, .slice aU nU cU, .slice aW LW.length cW, .slice aV nV cV, .int .i64 r0, .int .i64 r1], .slice aR nR cR, .int .i64 more] w
      fun e w' => e = .returned (.bool true) ∧ Below w.heap.size w w' := by
  obtain ⟨i6, h6, iw0, iw1, iw2⟩ := info_parts info_row
  obtain ⟨i2, h2, ib0, ib1, ib2⟩ := info_parts info_int
  obtain ⟨W1, hW1⟩ : ∃ W1, w.alloc (.cells #[.slice aT LT.length cT, .slice aU nU cU, .slice aW LW.length cW, .slice aV nV cV, .int .i64 r0, .int .i64 r1] 25) = W1 := ⟨_, rfl⟩
  have hb1 : Below w.heap.size w W1 := by rw [← hW1]; exact (Below.refl _ _).alloc (Nat.le_refl _) _
  have hq : W1.heap[w.heap.size]? = some (.cells #[.slice aT LT.length cT, .slice aU nU cU, .slice aW LW.length cW, .slice aV nV cV, .int .i64 r0, .int .i64 r1] 25 (0, 0)) := by rw [← hW1]; exact heap_alloc_new _ _
  have hsz : W1.heap.size = w.heap.size + 1 := by rw [← hW1]; simp
  have HT := Lib.hid (hT.below hb1)
  have HL := Lib.hid (hL.below hb1)
  have HR := Lib.hid (hR.below hb1)
  have HE := Lib.hid (he.below hb1)
  have HK := Lib.hid (hK.below hb1)
  have HF := Lib.hid hf
  have HQ := Lib.hid hq
  have B1 := Lib.hid hb1
  have S1 := Lib.hid hsz
  clear hT hL hR hf he hq hb1 hsz hK
  go_enter Tryd.func9, Tryd.ntmps9
  go_upto_region 1 with (fail)
  clear hW1
  go_wp2_with fail
  refine (sanity_any HE.out).mono ?_
  rintro e w2 ⟨rfl, b2⟩
  have B2 := Lib.hid b2
  have q0 := (b2.cell (p := ⟨w.heap.size, 0, none⟩) (by rw [S1.out]; exact Nat.lt_succ_self _)).trans (cells_of HQ.out 0)
  simp only [List.getElem?_toArray, List.getElem?_cons_zero] at q0
  clear b2
  go_wp2_with fail
  refine (table_any false (HT.out.below B2.out)).mono ?_
  rintro e w3 ⟨⟨T, tv, rfl, hTV, hG⟩, b3⟩
  obtain ⟨ac, cc, ai, ci, rfl, h1, h2'⟩ := hTV
  have B3 := Lib.hid (B2.out.trans (b3.mono B2.out.size))
  have HTV := Lib.hid (show TabV (fun k => w2.heap.size ≤ k) w3 (.agg #[.int .i64 T.id, .string T.name, .slice ac T.cols.length cc, .slice ai T.idx.length ci]) T from ⟨ac, cc, ai, ci, rfl, h1, h2'⟩)
  have HG := Lib.hid hG
  clear h1 h2' hG b3 q0
  go_upto_region 3 with (fail)
  generalize hW4 : World.alloc _ _ = W4
  have hb4 : Below w3.heap.size w3 W4 := by rw [← hW4]; exact (Below.refl _ _).alloc (Nat.le_refl _) _
  have hT4 : W4.heap[w3.heap.size]? = some (.cells #[.int .i64 T.id, .string T.name, .slice ac T.cols.length cc, .slice ai T.idx.length ci] 30 (0, 0)) := by rw [← hW4]; exact heap_alloc_new _ _
  have B4 := Lib.hid (B3.out.trans (hb4.mono B3.out.size))
  have HT4 := Lib.hid hT4
  have HTV4 := Lib.hid (HTV.out.below hb4)
  have HE4 := Lib.hid (HE.out.below B4.out)
  have HR4 := Lib.hid (HR.out.below B4.out)
  obtain ⟨bt, hbt⟩ : ∃ bt, bt = w3.heap.size := ⟨_, rfl⟩
  rw [← hbt] at HT4 ⊢
  clear hW4 hb4 hT4 hbt
  have hc1 := HG.out.c1
  have P0 := Lib.hid (show LI W4.heap.size W4 [] (.slice none 0 0) [] W4 from ⟨World.ownsRow_nil _ _ _ _, (fun t h => absurd h (Nat.not_lt_zero _)), Below.refl _ _, Nat.le_refl _⟩)
  go_upto_block 0 with (fail)
  go_cut [9] from 22 to 40 (fun x9 wx => ∃ (F : List (List Val)) (outs : List Value), F.length ≤ 20 ∧ LI W4.heap.size W4 F x9 outs wx)
  case first =>
    go_wp2_with fail
    go_loopw [9, 10] (fun x9 x10 wr => ∃ (i : Nat) (v : Value) (F : List (List Val)) (outs : List Value), i ≤ min nR 20 ∧ x10 = .int .i64 i ∧ v = x9 ∧ Hid (F.length = i) ∧ Hid (LI W4.heap.size W4 F v outs wr)) (fun _ x10 _ => 20 - (intOf x10).toNat)
    case atStart => exact ⟨0, _, [], [], Nat.zero_le _, rfl, rfl, rfl, P0.out⟩
    case round =>
      obtain ⟨i, v, F, outs, hi, rfl, rfl, HFL, HI⟩ := hrel
      obtain ⟨V, hV⟩ : ∃ W, W = wr := ⟨_, rfl⟩
      subst hV
      clear P0
      obtain ⟨la, lc, rfl, _⟩ := owns_form3 HI.out.o
      have hFi : F.length = i := HFL.out
      have HO := Lib.hid (show V.ownsRow W4.heap.size 47 1 (.slice la i lc) i outs by rw [← hFi]; exact HI.out.o)
      rw [hFi] at HI ⊢
      clear hFi
      have hi20 : i ≤ 20 := by omega
      have hsV := HI.out.s
      by_cases hlt : i < nR
      · have hlti : (i : Int) < nR := by omega
        by_cases hlt2 : i < 20
        · have hlti2 : (i : Int) < 20 := by omega
          obtain ⟨rb, ro, rfl, hrb, hrows⟩ := HR4.out.resolve_left (by omega)
          obtain ⟨za, zc, Z, hz1, hz2⟩ := hrows i hlt
          have HZ := Lib.hid (show W4.cell? ⟨rb, ro + i, none⟩ = some (.slice za Z.length zc) ∧ rb < W4.heap.size from ⟨hz1, hrb⟩)
          have HZS := Lib.hid hz2
          clear hrows hz1 hz2 hrb
          have HCON := Lib.hid (fun z : Wld (Below V.heap.size V) => row_any (HTV4.out.below (HI.out.b.trans (z.good.mono hsV))) (HZS.out.below (HI.out.b.trans (z.good.mono hsV))) HG.out.kind (by have := HG.out.c1; omega))
          obtain ⟨X, hX⟩ : ∃ X, rowV T Z = X := ⟨_, rfl⟩
          rw [hX] at HCON
          clear hX
          go_upto_region 7 with (fail)
          apply wp_region_growu 8 [32, 33, 34, 35, 36, 37, 38, 39]
            [fun _ u _ => u = .slice la i lc,
             fun _ u _ => u = .agg #[.int .i64 T.id, .string T.name, .slice ac T.cols.length cc, .slice ai T.idx.length ci],
             fun _ u _ => u = .slice (some ⟨rb, ro, none⟩) nR cR,
             fun _ u _ => u = .int .i64 (i : Int),
             fun _ u _ => u = .pointer (some ⟨rb, ro + i, none⟩),
             fun _ u _ => u = .slice za Z.length zc,
             fun _ u w' => ∃ a c, u = .slice a X.length c ∧ SlV valR (fun k => V.heap.size ≤ k) w' (.slice a X.length c) X,
             fun v u w' => NewC V.heap.size (v 38) 47 u w']
            (fun w' => Below V.heap.size V w')
          case hF =>
            intro v
            simp only [setAll, List.foldl_cons, List.foldl_nil, Act.put, List.setIfInBounds_toArray, List.set_cons_succ, List.set_cons_zero]
            exact rfl
          case hm => kernel_rfl
          case hB => kernel_rfl
          case hsz => kernel_rfl
          case hC => exact fun w1 w2 h b => h.trans (b.mono h.size)
          case hw => exact Below.drew (Below.refl _ _)
          case hS =>
            intro D hD v u
            simp only [List.mem_cons, List.not_mem_nil, or_false] at hD
            rcases hD with rfl | rfl | rfl | rfl | rfl | rfl | rfl | rfl
            · exact fun w1 w2 h _ => h
            · exact fun w1 w2 h _ => h
            · exact fun w1 w2 h _ => h
            · exact fun w1 w2 h _ => h
            · exact fun w1 w2 h _ => h
            · exact fun w1 w2 h _ => h
            · exact fun w1 w2 h hb => by obtain ⟨a, c, e, h⟩ := h; exact ⟨a, c, e, h.below hb⟩
            · exact fun w1 w2 h hb => h.below hb
          case hob =>
            simp only [List.take_succ_cons, List.take_zero]
            apply growt_cons
            · intro v w1 h1 hd
              clear hd
              clear h1
              go_wp2_with fail
              first | exact Below.refl _ _ | exact ⟨Below.refl _ _, rfl⟩ | exact ⟨rfl, Below.refl _ _⟩
            apply growt_cons
            · intro v w1 h1 hd
              clear hd
              have hk := (HI.out.b.trans (h1.mono hsV)).block _ (lt_of_block HT4.out) |>.trans HT4.out
              have t0 := cells_of hk 0
              have t1 := cells_of hk 1
              have t2 := cells_of hk 2
              have t3 := cells_of hk 3
              simp only [List.getElem?_toArray, List.getElem?_cons_zero, List.getElem?_cons_succ] at t0 t1 t2 t3
              clear hk
              clear h1
              go_wp2_with fail
              first | exact Below.refl _ _ | exact ⟨Below.refl _ _, rfl⟩ | exact ⟨rfl, Below.refl _ _⟩
            apply growt_cons
            · intro v w1 h1 hd
              clear hd
              clear h1
              go_wp2_with fail
              first | exact Below.refl _ _ | exact ⟨Below.refl _ _, rfl⟩ | exact ⟨rfl, Below.refl _ _⟩
            apply growt_cons
            · intro v w1 h1 hd
              clear hd
              clear h1
              go_wp2_with fail
              first | exact Below.refl _ _ | exact ⟨Below.refl _ _, rfl⟩ | exact ⟨rfl, Below.refl _ _⟩
            apply growt_cons
            · intro v w1 h1 hd
              have g34 : v 34 = .slice (some ⟨rb, ro, none⟩) nR cR := hd 2 _ _ _ rfl rfl rfl rfl
              have g35 : v 35 = .int .i64 (i : Int) := hd 3 _ _ _ rfl rfl rfl rfl
              clear hd
              rw [g34, g35]
              clear g34 g35 h1
              go_wp2_with fail
              first | exact Below.refl _ _ | exact ⟨Below.refl _ _, rfl⟩ | exact ⟨rfl, Below.refl _ _⟩
            apply growt_cons
            · intro v w1 h1 hd
              have g36 : v 36 = .pointer (some ⟨rb, ro + i, none⟩) := hd 4 _ _ _ rfl rfl rfl rfl
              clear hd
              rw [g36]
              have z0 := ((HI.out.b.trans (h1.mono hsV)).cell (p := ⟨rb, ro + i, none⟩) HZ.out.2).trans HZ.out.1
              clear g36 h1
              go_wp2_with fail
              first | exact Below.refl _ _ | exact ⟨Below.refl _ _, rfl⟩ | exact ⟨rfl, Below.refl _ _⟩
            apply growt_cons
            · intro v w1 h1 hd
              have g33 : v 33 = .agg #[.int .i64 T.id, .string T.name, .slice ac T.cols.length cc, .slice ai T.idx.length ci] := hd 1 _ _ _ rfl rfl rfl rfl
              have g37 : v 37 = .slice za Z.length zc := hd 5 _ _ _ rfl rfl rfl rfl
              clear hd
              rw [g33, g37]
              have HSW := Lib.hid h1.size
              have con := HCON.out ⟨w1, h1⟩
              simp only at con
              clear g33 g37 h1
              go_wp2_with fail
              refine con.mono ?_
              rintro e w5 ⟨⟨u5, rfl, a5, c5, rfl, h5⟩, b5⟩
              go_wp2_with fail
              have h5' := h5.weaken (q := fun k => V.heap.size ≤ k) (fun k hk => Nat.le_trans HSW.out hk)
              exact ⟨_, _, ⟨rfl, rfl⟩, h5'⟩
            apply growt_cons
            · intro v w1 h1 hd
              obtain ⟨a, c, g38, -⟩ : ∃ a c, v 38 = .slice a X.length c ∧ _ := hd 6 _ _ _ rfl rfl rfl rfl
              clear hd
              rw [g38]
              have HSW := Lib.hid h1.size
              have e38 := Lib.hid g38
              clear g38 h1
              go_wp2_with fail
              have hb3 : Below w1.heap.size w1 (w1.alloc (.cells #[.slice a X.length c] 47)) := (Below.refl _ _).alloc (Nat.le_refl _) _
              have hN : NewC V.heap.size (v 38) 47 (.slice (some ⟨w1.heap.size, 0, none⟩) 1 1) (w1.alloc (.cells #[.slice a X.length c] 47)) := ⟨w1.heap.size, rfl, HSW.out, by rw [e38.out]; exact heap_alloc_new _ _⟩
              first | exact ⟨hb3, hN⟩ | exact ⟨hN, hb3⟩
            exact growt_nil
          case hend =>
            intro v w4 h1 hd
            have gl : v 32 = .slice la i lc := hd 0 _ _ _ rfl rfl rfl
            obtain ⟨xa, xc, gx, hxs⟩ : ∃ a c, v 38 = .slice a X.length c ∧ SlV valR (fun k => V.heap.size ≤ k) w4 (.slice a X.length c) X := hd 6 _ _ _ rfl rfl rfl
            obtain ⟨q, gs, hq1, hq2⟩ : NewC V.heap.size (v 38) 47 (v 39) w4 := hd 7 _ _ _ rfl rfl rfl
            clear hd
            rw [gx] at hq2
            rw [gl, gx, gs]
            have BW4 := Lib.hid h1
            have HQ4 := Lib.hid hq2
            have HXS := Lib.hid hxs
            have HI4 := Lib.hid (HI.out.below h1)
            have HO4 := Lib.hid (owns_below HO.out h1)
            generalize v 33 = y1, v 34 = y2, v 35 = y3, v 36 = y4, v 37 = y5
            clear h1 gl gx gs hq1 hq2 hxs
            simp only [List.drop_succ_cons, List.drop_zero]
            have hS4 := HI4.out.s
            refine wpList_append_own_at _ rfl _ _ 76 rfl W4.heap.size 47 i6 _ 1 24 Tryd.underlying76 h6 iw0 iw1 iw2 rfl (by decide) (.slice la i lc) i _ rfl HO4.out ⟨q, 0, none⟩ 1 1 [.slice xa X.length xc] rfl rfl (fun j u hj => by rw [addr_add, cells_of HQ4.out]; simpa using hj) (fun u hu => by rw [List.mem_singleton.1 hu]; rfl) (by unfold maxLen; omega) (by omega) hS4 ?_
            intro v' w8 o1 g1 hx1 at1
            clear hx1
            obtain ⟨la2, lc2, hv', _⟩ := owns_form3 o1
            subst hv'
            have NI := Lib.hid (show LI W4.heap.size W4 (F ++ [X]) (.slice la2 (i + 1) lc2) (outs ++ [.slice xa X.length xc]) w8 from HI4.out.push (HXS.out.weaken fun k hk => ⟨Nat.le_trans hsV hk, fun e => by have := (HO.out.lt k e).2; omega⟩) (by rw [HFL.out]; exact o1) g1 at1)
            clear o1 g1 at1
            simp only [Act.put, List.setIfInBounds_toArray, List.set_cons_succ, List.set_cons_zero]
            go_wp2_with fail
            go_roundw
            case rel => exact ⟨i + 1, _, F ++ [X], _, by omega, by go_num, rfl, by have := HFL.out; simp; omega, NI.out⟩
            case measure => simp [intOf]; omega
        · have hn2 : ¬ (i : Int) < 20 := by omega
          have hF20 : F.length ≤ 20 := by rw [HFL.out]; exact hi20
          go_wp2_with fail
          go_meet
          exact ⟨F, outs, hF20, HI.out⟩
      · have hn2 : ¬ (i : Int) < nR := by omega
        have hF20 : F.length ≤ 20 := by rw [HFL.out]; exact hi20
        go_wp2_with fail
        go_meet
        exact ⟨F, outs, hF20, HI.out⟩
  case rest =>
  obtain ⟨F, outs, hF20, HI⟩ := hcut
  obtain ⟨V5, hV5⟩ : ∃ W, W = wc := ⟨_, rfl⟩
  subst hV5
  clear P0
  have hsV := HI.s
  obtain ⟨la, lc, rfl, hSL⟩ := HI.sl (by omega)
  have BV := Lib.hid (B4.out.trans (HI.b.mono B4.out.size))
  have BL := Lib.hid HI.b
  have HT5 := Lib.hid ((HI.b.block _ (lt_of_block HT4.out)).trans HT4.out)
  have HTV5 := Lib.hid (HTV4.out.below HI.b)
  obtain ⟨fl, hfl⟩ : ∃ n, F.length = n := ⟨_, rfl⟩
  obtain ⟨nc, hnc⟩ : ∃ n, T.cols.length = n := ⟨_, rfl⟩
  have con := count_any HTV5.out hSL (by omega) (by omega) (HK.out.below BV.out)
  rw [hfl, hnc] at con
  have HNC := Lib.hid (show T.cols.length = nc ∧ F.length = fl ∧ fl ≤ 20 ∧ 1 ≤ nc ∧ nc ≤ 6 from ⟨hnc, hfl, by omega, by rw [← hnc]; exact HG.out.c0, by omega⟩)
  rw [hnc] at HT5
  rw [hfl]
  clear hfl hnc HI hSL hF20
  have t0 := cells_of HT5.out 0
  have t1 := cells_of HT5.out 1
  have t2 := cells_of HT5.out 2
  have t3 := cells_of HT5.out 3
  simp only [List.getElem?_toArray, List.getElem?_cons_zero, List.getElem?_cons_succ] at t0 t1 t2 t3
  go_wp2_with fail
  refine con.mono ?_
  rintro e w6 ⟨a6, c6, V, hVl, hVb, rfl, b6, hVS, hVN⟩
  have B6 := Lib.hid (BV.out.trans (b6.mono BV.out.size))
  have HB56 := Lib.hid b6
  have HVS := Lib.hid hVS
  have HV := Lib.hid (show V.length = nc ∧ (∀ x ∈ V, 0 ≤ x ∧ x ≤ fl) ∧ (a6 = none → c6 = 0) from ⟨hVl, hVb, hVN⟩)
  have HT6 := Lib.hid ((b6.block _ (lt_of_block HT5.out)).trans HT5.out)
  clear con b6 hVl hVb hVS hVN t0 t1 t2 t3
  go_upto_region 9 with (fail)
  generalize hX : World.alloc _ _ = W7
  have b7 : Below w6.heap.size w6 W7 := by rw [← hX]; exact (Below.refl _ _).alloc (Nat.le_refl _) _
  have hq7 : W7.heap[w6.heap.size]? = some (.cells #[.int .i64 fl, .slice a6 nc c6] 33 (0, 0)) := by rw [← hX]; exact heap_alloc_new _ _
  have HA7 := Lib.hid hq7
  have B7 := Lib.hid (B6.out.trans (b7.mono B6.out.size))
  have B57 := Lib.hid (HB56.out.trans (b7.mono HB56.out.size))
  have HVS7 := Lib.hid (HVS.out.below b7)
  have HT7 := Lib.hid ((b7.block _ (lt_of_block HT6.out)).trans HT6.out)
  obtain ⟨qa, hqa⟩ : ∃ g, w6.heap.size = g := ⟨_, rfl⟩
  rw [hqa] at HA7 ⊢
  have HQA := Lib.hid (show W1.heap.size ≤ qa by rw [← hqa]; exact B6.out.size)
  clear hX b7 hq7 hqa
  have hc0 := HNC.out.2.2.2.1
  have hc6 := HNC.out.2.2.2.2
  have hVl := HV.out.1
  obtain ⟨vb, vo, rfl, _, hvb⟩ := HVS7.out.row.2.2.2.addr (by intro e; rw [e] at hVl; simp at hVl; omega)
  have HVC := Lib.hid (show ∀ j (h : j < V.length), W7.cell? ⟨vb, vo + j, none⟩ = some (.int .i64 V[j]) from fun j h => HVS7.out.row.2.2.2.int j h)
  have HVB := Lib.hid hvb
  clear hVl hvb
  apply wp_region_growt 8 [44, 45, 46, 47, 48, 49, 50, 12]
    [fun _ u _ => u = .pointer (some ⟨qa, 0, none⟩),
     fun _ u _ => u = .int .i64 (fl : Int),
     fun _ u _ => NewZ u,
     fun _ u _ => u = .pointer (some ⟨qa, 1, none⟩),
     fun _ u _ => u = .slice (some ⟨vb, vo, none⟩) nc c6,
     fun _ u w' => OwnV W7.heap.size nc V u w',
     fun _ u w' => StaN W7.heap.size nc fl V u w',
     fun _ u w' => NewB W7.heap.size 33 #[.int .i64 0, .slice none 0 0] u w']
    (fun w' => Below W7.heap.size W7 w')
  case hF =>
    intro v
    simp only [setAll, List.foldl_cons, List.foldl_nil, Act.put, List.setIfInBounds_toArray, List.set_cons_succ, List.set_cons_zero]
    exact rfl
  case hm => kernel_rfl
  case hB => kernel_rfl
  case hsz => kernel_rfl
  case hC => exact fun w1 w2 h b => h.trans (b.mono h.size)
  case hw => exact Below.drew (Below.refl _ _)
  case hS =>
    intro D hD v u
    simp only [List.mem_cons, List.not_mem_nil, or_false] at hD
    rcases hD with rfl | rfl | rfl | rfl | rfl | rfl | rfl | rfl
    · exact fun w1 w2 h _ => h
    · exact fun w1 w2 h _ => h
    · exact fun w1 w2 h _ => h
    · exact fun w1 w2 h _ => h
    · exact fun w1 w2 h _ => h
    · exact fun w1 w2 h hb => h.below hb
    · exact fun w1 w2 h hb => h.below hb
    · exact fun w1 w2 h hb => h.below hb
  case hob =>
    simp only [List.take_succ_cons, List.take_zero]
    apply growt_cons
    · intro v w1 h1 hd
      clear hd
      clear h1
      go_wp2_with fail
      first | exact Below.refl _ _ | exact ⟨Below.refl _ _, rfl⟩ | exact ⟨rfl, Below.refl _ _⟩
    apply growt_cons
    · intro v w1 h1 hd
      have g44 : v 44 = .pointer (some ⟨qa, 0, none⟩) := hd 0 _ _ _ rfl rfl rfl rfl
      clear hd
      rw [g44]
      have o0 := cells_of ((h1.block _ (lt_of_block HA7.out)).trans HA7.out) 0
      simp only [List.getElem?_toArray, List.getElem?_cons_zero] at o0
      clear g44 h1
      go_wp2_with fail
      first | exact Below.refl _ _ | exact ⟨Below.refl _ _, rfl⟩ | exact ⟨rfl, Below.refl _ _⟩
    apply growt_cons
    · intro v w1 h1 hd
      clear h1 hd
      go_wp2_with fail
      first | exact ⟨(Below.refl _ _).alloc (Nat.le_refl _) _, w1.heap.size, rfl⟩ | exact ⟨⟨w1.heap.size, rfl⟩, (Below.refl _ _).alloc (Nat.le_refl _) _⟩
    apply growt_cons
    · intro v w1 h1 hd
      clear hd
      clear h1
      go_wp2_with fail
      first | exact Below.refl _ _ | exact ⟨Below.refl _ _, rfl⟩ | exact ⟨rfl, Below.refl _ _⟩
    apply growt_cons
    · intro v w1 h1 hd
      have g47 : v 47 = .pointer (some ⟨qa, 1, none⟩) := hd 3 _ _ _ rfl rfl rfl rfl
      clear hd
      rw [g47]
      have o1 := cells_of ((h1.block _ (lt_of_block HA7.out)).trans HA7.out) 1
      simp only [List.getElem?_toArray, List.getElem?_cons_zero, List.getElem?_cons_succ] at o1
      clear g47 h1
      go_wp2_with fail
      first | exact Below.refl _ _ | exact ⟨Below.refl _ _, rfl⟩ | exact ⟨rfl, Below.refl _ _⟩
    apply growt_cons
    · intro v w1 h1 hd
      obtain ⟨q, g46⟩ : NewZ (v 46) := hd 2 _ _ _ rfl rfl rfl rfl
      have g48 : v 48 = .slice (some ⟨vb, vo, none⟩) nc c6 := hd 4 _ _ _ rfl rfl rfl rfl
      clear hd
      rw [g46, g48]
      have hs1 := h1.size
      have HH1 := Lib.hid h1
      have hvl := HV.out.1
      clear g46 g48 h1
      refine wpList_append_fresh rfl _ _ 22 rfl W7.heap.size 3 i2 _ 1 8 Tryd.underlying22 h2 ib0 ib1 ib2 rfl (by decide) ⟨q, 0, none⟩ rfl ⟨vb, vo, none⟩ nc c6 (V.map fun x => Value.int .i64 x) rfl (by simp [hvl]) (fun j u hj => by
        rw [addr_add]
        have hjl : j < V.length := by
          have h := (List.getElem?_eq_some_iff.1 hj).1
          simpa using h
        rw [List.getElem?_map, List.getElem?_eq_getElem hjl] at hj
        exact (HH1.out.cell (p := ⟨vb, vo + j, none⟩) HVB.out).trans ((HVC.out j hjl).trans hj)) (by omega) (by unfold maxLen; omega) (by omega) hs1 ?_
      intro v' w' o1 b1
      obtain ⟨ua, uc, rfl, _⟩ := owns_form3 o1
      exact wpList_nil ⟨rfl, _, rfl, b1, ua, uc, rfl, o1⟩
    apply growt_cons
    · intro v w1 h1 hd
      have g45 : v 45 = .int .i64 (fl : Int) := hd 1 _ _ _ rfl rfl rfl rfl
      obtain ⟨ua, uc, g49, ho⟩ : OwnV W7.heap.size nc V (v 49) w1 := hd 5 _ _ _ rfl rfl rfl rfl
      clear hd h1
      rw [g45, g49]
      rw [g49] at ho
      have HO := Lib.hid ho
      clear g45 g49 ho
      go_wp2_with fail
      have hN : StaN W7.heap.size nc fl V (.agg #[.int .i64 fl, .slice ua nc uc]) w1 := ⟨ua, uc, rfl, HO.out⟩
      first | exact ⟨Below.refl _ _, hN⟩ | exact ⟨hN, Below.refl _ _⟩
    apply growt_cons
    · intro v w1 h1 hd
      clear hd
      have HSW := Lib.hid h1.size
      clear h1
      go_wp2_with fail
      have hb3 : Below w1.heap.size w1 (w1.alloc (.cells #[.int .i64 0, .slice none 0 0] 33)) := (Below.refl _ _).alloc (Nat.le_refl _) _
      have hN : NewB W7.heap.size 33 #[.int .i64 0, .slice none 0 0] (.pointer (some ⟨w1.heap.size, 0, none⟩)) (w1.alloc (.cells #[.int .i64 0, .slice none 0 0] 33)) := ⟨w1.heap.size, rfl, HSW.out, heap_alloc_new _ _⟩
      first | exact ⟨hb3, hN⟩ | exact ⟨hN, hb3⟩
    exact growt_nil
  case hend =>
  intro v w12 h1 hd
  obtain ⟨ua, uc, g50, hO⟩ : StaN W7.heap.size nc fl V (v 50) w12 := hd 6 _ _ _ rfl rfl rfl
  obtain ⟨qb, g12, hqb, hqc⟩ : NewB W7.heap.size 33 #[.int .i64 0, .slice none 0 0] (v 12) w12 := hd 7 _ _ _ rfl rfl rfl
  clear hd
  rw [g50, g12]
  have BW := Lib.hid h1
  have HQB := Lib.hid hqc
  have HOV := Lib.hid hO
  have HLB := Lib.hid hqb
  generalize v 44 = y1, v 45 = y2, v 46 = y3, v 47 = y4, v 48 = y5, v 49 = y6
  clear h1 g50 g12 hqb hqc hO
  simp only [List.drop_succ_cons, List.drop_zero]
  have e0 := cells_of HQB.out 0
  have e1 := cells_of HQB.out 1
  have f0 := free_of HQB.out 0
  have f1 := free_of HQB.out 1
  simp only [List.getElem?_toArray, List.getElem?_cons_zero, List.getElem?_cons_succ] at e0 e1
  go_wp2_with fail
  generalize hX : World.setCell _ _ _ = W13
  obtain ⟨ub, rfl⟩ : ∃ ub, ua = some ⟨ub, 0, none⟩ := by
    rcases HOV.out.2 with ⟨_, e⟩ | ⟨g, cap, cur, e, _⟩
    · omega
    · simp only [Value.slice.injEq] at e
      exact ⟨g, e.1⟩
  have hne := row_not HQB.out HOV.out (by decide)
  have hk : ∀ {a : World} (o : Nat) (u : Value), a.ownsRow W7.heap.size 3 1 (.slice (some ⟨ub, 0, none⟩) nc uc) nc (V.map fun x => Value.int .i64 x) → (a.setCell ⟨qb, o, none⟩ u).ownsRow W7.heap.size 3 1 (.slice (some ⟨ub, 0, none⟩) nc uc) nc (V.map fun x => Value.int .i64 x) := fun o u h => h.kept (grown_set _ qb o u) (Or.inr fun e => hne e.symm)
  have P1 := Lib.hid (show BB W7 qb fl nc ub uc V (restOf more 30) 0 W13 from by
    rw [← hX]
    exact ⟨block_set (block_set HQB.out), by rw [addTo_zero]; exact hk _ _ (hk _ _ HOV.out), (BW.out.setCell (p := ⟨qb, 0, none⟩) HLB.out _).setCell (p := ⟨qb, 1, none⟩) HLB.out _⟩)
  obtain ⟨d, hd, hd0, hd30⟩ : ∃ d, restOf more 30 = d ∧ 0 ≤ d ∧ d < 30 := ⟨_, rfl, by unfold restOf; exact Int.emod_nonneg _ (by decide), by unfold restOf; exact Int.emod_lt_of_pos _ (by decide)⟩
  rw [hd] at P1
  have HD := Lib.hid hd
  clear hX hne hk e0 e1 f0 f1 hd
  go_wp2_with fail
  go_loopw [13] (fun x13 wr => ∃ i : Nat, i ≤ nc ∧ x13 = .int .i64 i ∧ Hid (BB W7 qb fl nc ub uc V d i wr)) (fun x13 _ => nc - (intOf x13).toNat)
  case atStart => exact ⟨0, Nat.zero_le _, rfl, P1.out⟩
  case round =>
  obtain ⟨i, hi, rfl, HB⟩ := hrel
  obtain ⟨U, hU⟩ : ∃ W, W = wr := ⟨_, rfl⟩
  subst hU
  clear P1
  have b1 := cells_of HB.out.h 1
  simp only [List.getElem?_toArray, List.getElem?_cons_zero, List.getElem?_cons_succ] at b1
  by_cases hlt : i < nc
  · have hlti : (i : Int) < nc := by omega
    have hiV : i < V.length := by rw [HV.out.1]; exact hlt
    have hx := HV.out.2.1 _ (List.getElem_mem hiV)
    have HC := Lib.hid (World.ownsRow.cellAt HB.out.o i (by omega))
    have HS := Lib.hid (addTo_succ V d i hiV)
    have HG := Lib.hid (addTo_at V d i hiV)
    obtain ⟨x, hxe⟩ : ∃ x, V[i]'hiV = x := ⟨_, rfl⟩
    rw [hxe] at hx HS HG
    have hfl := HNC.out.2.2.1
    have hx20 : x ≤ 20 := by omega
    have hx0 := hx.1
    have HCI := Lib.hid (show U.cell? ⟨ub, i, none⟩ = some (.int .i64 x) from HC.out.trans HG.out)
    have hul := (World.ownsRow.lt HB.out.o ub rfl).2
    clear hiV hxe hx HC HG
    go_upto_region 13 with (fail)
    clear b1
    apply wp_region_growt 11 [58, 59, 60, 61, 62, 63, 64, 65, 66, 67, 68]
      [fun _ u _ => u = .pointer (some ⟨qb, 1, none⟩),
       fun _ u _ => u = .slice (some ⟨ub, 0, none⟩) nc uc,
       fun _ u _ => u = .int .i64 (i : Int),
       fun _ u _ => u = .pointer (some ⟨qb, 1, none⟩),
       fun _ u _ => u = .slice (some ⟨ub, 0, none⟩) nc uc,
       fun _ u _ => u = .int .i64 (i : Int),
       fun _ u _ => u = .pointer (some ⟨ub, i, none⟩),
       fun _ u _ => u = .int .i64 x,
       fun _ u _ => u = .int .i64 more,
       fun _ u _ => u = .int .i64 d,
       fun _ u _ => u = .int .i64 (x + d)]
      (fun w' => Below U.heap.size U w')
    case hF =>
      intro v
      simp only [setAll, List.foldl_cons, List.foldl_nil, Act.put, List.setIfInBounds_toArray, List.set_cons_succ, List.set_cons_zero]
      exact rfl
    case hm => kernel_rfl
    case hB => kernel_rfl
    case hsz => kernel_rfl
    case hC => exact fun w1 w2 h b => h.trans (b.mono h.size)
    case hw => exact Below.drew (Below.refl _ _)
    case hS =>
      intro D hD v u
      simp only [List.mem_cons, List.not_mem_nil, or_false] at hD
      rcases hD with rfl | rfl | rfl | rfl | rfl | rfl | rfl | rfl | rfl | rfl | rfl
      · exact fun w1 w2 h _ => h
      · exact fun w1 w2 h _ => h
      · exact fun w1 w2 h _ => h
      · exact fun w1 w2 h _ => h
      · exact fun w1 w2 h _ => h
      · exact fun w1 w2 h _ => h
      · exact fun w1 w2 h _ => h
      · exact fun w1 w2 h _ => h
      · exact fun w1 w2 h _ => h
      · exact fun w1 w2 h _ => h
      · exact fun w1 w2 h _ => h
    case hob =>
      simp only [List.take_succ_cons, List.take_zero]
      apply growt_cons
      · intro v w1 h1 hd
        clear hd
        clear h1
        go_wp2_with fail
        first | exact Below.refl _ _ | exact ⟨Below.refl _ _, rfl⟩ | exact ⟨rfl, Below.refl _ _⟩
      apply growt_cons
      · intro v w1 h1 hd
        have g58 : v 58 = .pointer (some ⟨qb, 1, none⟩) := hd 0 _ _ _ rfl rfl rfl rfl
        clear hd
        rw [g58]
        have o1 := cells_of ((h1.block _ (lt_of_block HB.out.h)).trans HB.out.h) 1
        simp only [List.getElem?_toArray, List.getElem?_cons_zero, List.getElem?_cons_succ] at o1
        clear g58 h1
        go_wp2_with fail
        first | exact Below.refl _ _ | exact ⟨Below.refl _ _, rfl⟩ | exact ⟨rfl, Below.refl _ _⟩
      apply growt_cons
      · intro v w1 h1 hd
        clear hd
        clear h1
        go_wp2_with fail
        first | exact Below.refl _ _ | exact ⟨Below.refl _ _, rfl⟩ | exact ⟨rfl, Below.refl _ _⟩
      apply growt_cons
      · intro v w1 h1 hd
        clear hd
        clear h1
        go_wp2_with fail
        first | exact Below.refl _ _ | exact ⟨Below.refl _ _, rfl⟩ | exact ⟨rfl, Below.refl _ _⟩
      apply growt_cons
      · intro v w1 h1 hd
        have g61 : v 61 = .pointer (some ⟨qb, 1, none⟩) := hd 3 _ _ _ rfl rfl rfl rfl
        clear hd
        rw [g61]
        have o1 := cells_of ((h1.block _ (lt_of_block HB.out.h)).trans HB.out.h) 1
        simp only [List.getElem?_toArray, List.getElem?_cons_zero, List.getElem?_cons_succ] at o1
        clear g61 h1
        go_wp2_with fail
        first | exact Below.refl _ _ | exact ⟨Below.refl _ _, rfl⟩ | exact ⟨rfl, Below.refl _ _⟩
      apply growt_cons
      · intro v w1 h1 hd
        clear hd
        clear h1
        go_wp2_with fail
        first | exact Below.refl _ _ | exact ⟨Below.refl _ _, rfl⟩ | exact ⟨rfl, Below.refl _ _⟩
      apply growt_cons
      · intro v w1 h1 hd
        have g62 : v 62 = .slice (some ⟨ub, 0, none⟩) nc uc := hd 4 _ _ _ rfl rfl rfl rfl
        have g63 : v 63 = .int .i64 (i : Int) := hd 5 _ _ _ rfl rfl rfl rfl
        clear hd
        rw [g62, g63]
        clear g62 g63 h1
        go_wp2_with fail
        first | exact Below.refl _ _ | exact ⟨Below.refl _ _, rfl⟩ | exact ⟨rfl, Below.refl _ _⟩
      apply growt_cons
      · intro v w1 h1 hd
        have g64 : v 64 = .pointer (some ⟨ub, i, none⟩) := hd 6 _ _ _ rfl rfl rfl rfl
        clear hd
        rw [g64]
        have o1 := (h1.cell (p := ⟨ub, i, none⟩) hul).trans HCI.out
        clear g64 h1
        go_wp2_with fail
        first | exact Below.refl _ _ | exact ⟨Below.refl _ _, rfl⟩ | exact ⟨rfl, Below.refl _ _⟩
      apply growt_cons
      · intro v w1 h1 hd
        clear hd
        clear h1
        go_wp2_with fail
        first | exact Below.refl _ _ | exact ⟨Below.refl _ _, rfl⟩ | exact ⟨rfl, Below.refl _ _⟩
      apply growt_cons
      · intro v w1 h1 hd
        have g66 : v 66 = .int .i64 more := hd 8 _ _ _ rfl rfl rfl rfl
        clear hd h1
        rw [g66]
        clear g66
        go_wp2_with fail
        refine (rest_any more 30 (by decide) (by decide) _).mono ?_
        rintro e w2 ⟨rfl, rfl⟩
        go_wp2_with fail
        first | exact HD.out | exact ⟨Below.refl _ _, by rw [HD.out]⟩ | exact ⟨by rw [HD.out], Below.refl _ _⟩
      apply growt_cons
      · intro v w1 h1 hd
        have g65 : v 65 = .int .i64 x := hd 7 _ _ _ rfl rfl rfl rfl
        have g67 : v 67 = .int .i64 d := hd 9 _ _ _ rfl rfl rfl rfl
        clear hd
        rw [g65, g67]
        clear g65 g67 h1
        go_wp2_with fail
        first | exact Below.refl _ _ | exact ⟨Below.refl _ _, rfl⟩ | exact ⟨rfl, Below.refl _ _⟩
      exact growt_nil
    case hend =>
      intro v w4 h1 hd
      have g59 : v 59 = .slice (some ⟨ub, 0, none⟩) nc uc := hd 1 _ _ _ rfl rfl rfl
      have g60 : v 60 = .int .i64 (i : Int) := hd 2 _ _ _ rfl rfl rfl
      have g68 : v 68 = .int .i64 (x + d) := hd 10 _ _ _ rfl rfl rfl
      clear hd
      rw [g59, g60, g68]
      have HB4 := Lib.hid (HB.out.below h1)
      have HC4 := Lib.hid ((h1.cell (p := ⟨ub, i, none⟩) hul).trans HCI.out)
      generalize v 58 = y1, v 61 = y2, v 62 = y3, v 63 = y4, v 64 = y5, v 65 = y6, v 66 = y7, v 67 = y8
      clear h1 g59 g60 g68
      simp only [List.drop_succ_cons, List.drop_zero]
      have c4 := HC4.out
      have f4 := World.ownsRow.frozenAt HB4.out.o i
      have HST := Lib.hid (World.ownsRow.stored HB4.out.o i (.int .i64 (x + d)))
      have hne := row_not HB4.out.h HB4.out.o (by decide)
      have N4 := Lib.hid (show BB W7 qb fl nc ub uc V d (i + 1) (w4.setCell ⟨ub, i, none⟩ (.int .i64 (x + d))) from
        ⟨(Below.heap_setCell _ ⟨ub, i, none⟩ _ qb (fun e => hne (congrArg some e))).trans HB4.out.h, by rw [HS.out]; exact HST.out.1, below_of_own HB4.out.b HST.out.2 (World.ownsRow.lt HB4.out.o ub rfl).1⟩)
      clear hne
      go_wp2_with fail
      go_roundw
      case rel => exact ⟨i + 1, by omega, by go_num, N4.out⟩
      case measure => simp [intOf]; omega
  · have hin : i = nc := by omega
    have BZ := Lib.hid (B7.out.trans (HB.out.b.mono B7.out.size))
    have HQZ := Lib.hid ((BZ.out.block w.heap.size (by rw [S1.out]; exact Nat.lt_succ_self _)).trans HQ.out)
    have HAZ := Lib.hid ((HB.out.b.block _ (lt_of_block HA7.out)).trans HA7.out)
    have HTZ := Lib.hid ((HB.out.b.block _ (lt_of_block HT7.out)).trans HT7.out)
    have HBO := Lib.hid (show SlV intR (fun k => W7.heap.size ≤ k) U (.slice (some ⟨ub, 0, none⟩) (V.map (· + d)).length uc) (V.map (· + d)) from by
      have h := HB.out.o
      rw [hin, addTo_all V d nc HV.out.1] at h
      exact ints_sl h (by rw [List.length_map]; exact HV.out.1) (by have := HNC.out.2.2.2.2; omega))
    have HVZ := Lib.hid (HVS7.out.below HB.out.b)
    have HBH := Lib.hid HB.out.h
    have q2 := cells_of HQZ.out 2
    simp only [List.getElem?_toArray, List.getElem?_cons_zero, List.getElem?_cons_succ] at q2
    have con := where_any (HL.out.below BZ.out) HF.out
    obtain ⟨C, hC⟩ : ∃ C, wherV LW = C := ⟨_, rfl⟩
    rw [hC] at con
    have HC := Lib.hid hC
    clear hC
    go_wp2_with fail
    refine con.mono ?_
    rintro e w14 ⟨⟨cv, rfl, aw, cw, rfl, hSL⟩, b14⟩
    have B14 := Lib.hid (BZ.out.trans (b14.mono BZ.out.size))
    have HSL := Lib.hid hSL
    have HA14 := Lib.hid ((b14.block _ (lt_of_block HAZ.out)).trans HAZ.out)
    have HT14 := Lib.hid ((b14.block _ (lt_of_block HTZ.out)).trans HTZ.out)
    have HB14 := Lib.hid ((b14.block _ (lt_of_block HBH.out)).trans HBH.out)
    have HVA := Lib.hid (HVZ.out.below b14)
    have HVB := Lib.hid (HBO.out.below b14)
    have HTV14 := Lib.hid (show TabV (fun k => w2.heap.size ≤ k) w14 (.agg #[.int .i64 T.id, .string T.name, .slice ac nc cc, .slice ai T.idx.length ci]) T from by rw [← HNC.out.1]; exact ((((HTV5.out.below (show Below V5.heap.size V5 W7 from B57.out)).below HB.out.b).below b14)))
    have HCF := Lib.hid (show ∀ c ∈ C, c.val.fine from fun c hc => by
      rw [← HC.out] at hc
      simp only [wherV, wherTo, List.mem_map, List.mem_range] at hc
      obtain ⟨i, hi, rfl⟩ := hc
      refine val_fine _ ?_
      rw [List.getD_eq_getElem?_getD]
      cases h : LW[3 * i + 2]? with
      | none => exact ⟨by decide, by decide⟩
      | some x => exact HF.out x (List.mem_of_getElem? h))
    clear con hSL b14 q2 b1
    have hix := HG.out.i1
    obtain ⟨S, hS⟩ : ∃ S : Sta, (⟨fl, V⟩ : Sta) = S := ⟨_, rfl⟩
    obtain ⟨S', hS'⟩ : ∃ S : Sta, (⟨fl, V.map (· + d)⟩ : Sta) = S := ⟨_, rfl⟩
    have HMO := Lib.hid (show More S S' ∧ S.rows = fl from by
      rw [← hS, ← hS']
      refine ⟨⟨rfl, by simp, fun i h => ?_⟩, rfl⟩
      simp only [List.getElem_map]
      omega)
    have hsa : StaV (fun k => w6.heap.size ≤ k ∨ True) w14 (.agg #[.int .i64 fl, .slice (some ⟨vb, vo, none⟩) nc c6]) S := by
      have h := HVA.out
      rw [HV.out.1] at h
      rw [← hS]
      exact staV_of (S := ⟨fl, V⟩) (h.weaken fun _ _ => Or.inr trivial)
    have hsb : StaV (fun k => W7.heap.size ≤ k) w14 (.agg #[.int .i64 fl, .slice (some ⟨ub, 0, none⟩) nc uc]) S' := by
      have h := HVB.out
      rw [List.length_map, HV.out.1] at h
      rw [← hS']
      exact staV_of (S := ⟨fl, V.map (· + d)⟩) h
    have HSA := Lib.hid hsa
    have HSB := Lib.hid hsb
    clear hS hS' hsa hsb
    have t0 := cells_of HT14.out 0
    have t1 := cells_of HT14.out 1
    have t2 := cells_of HT14.out 2
    have t3 := cells_of HT14.out 3
    simp only [List.getElem?_toArray, List.getElem?_cons_zero, List.getElem?_cons_succ] at t0 t1 t2 t3
    have a0 := cells_of HA14.out 0
    have a1 := cells_of HA14.out 1
    simp only [List.getElem?_toArray, List.getElem?_cons_zero, List.getElem?_cons_succ] at a0 a1
    have con := ways_any HTV14.out HSA.out HSL.out HCF.out (HE.out.below B14.out) (by omega)
    obtain ⟨X, hX⟩ : ∃ X, waysOf T S C = X := ⟨_, rfl⟩
    rw [hX] at con
    have HX := Lib.hid hX
    clear hX
    go_wp2_with fail
    refine con.mono ?_
    rintro e w15 ⟨⟨xa, xc, rfl, hxs⟩, b15⟩
    have B15 := Lib.hid (B14.out.trans (b15.mono B14.out.size))
    have HXS := Lib.hid hxs
    have HT15 := Lib.hid ((b15.block _ (lt_of_block HT14.out)).trans HT14.out)
    have HB15 := Lib.hid ((b15.block _ (lt_of_block HB14.out)).trans HB14.out)
    have HA15 := Lib.hid ((b15.block _ (lt_of_block HA14.out)).trans HA14.out)
    have HTV15 := Lib.hid (HTV14.out.below b15)
    have HSB15 := Lib.hid (HSB.out.below b15)
    have HSL15 := Lib.hid (HSL.out.below b15)
    obtain ⟨nx, hnx⟩ : ∃ n, X.length = n := ⟨_, rfl⟩
    have HNX := Lib.hid hnx
    rw [hnx]
    clear con hxs b15 t0 t1 t2 t3 a0 a1 hnx
    have t0 := cells_of HT15.out 0
    have t1 := cells_of HT15.out 1
    have t2 := cells_of HT15.out 2
    have t3 := cells_of HT15.out 3
    simp only [List.getElem?_toArray, List.getElem?_cons_zero, List.getElem?_cons_succ] at t0 t1 t2 t3
    have a0 := cells_of HB15.out 0
    have a1 := cells_of HB15.out 1
    simp only [List.getElem?_toArray, List.getElem?_cons_zero, List.getElem?_cons_succ] at a0 a1
    have con := ways_any HTV15.out HSB15.out HSL15.out HCF.out (HE.out.below B15.out) (by omega)
    obtain ⟨Y, hY⟩ : ∃ Y, waysOf T S' C = Y := ⟨_, rfl⟩
    have HM := Lib.hid (ways_more T C HMO.out.1)
    rw [hY, HX.out] at HM
    rw [hY] at con
    rw [show Y.length = nx from HM.out.1.trans HNX.out] at con
    go_wp2_with fail
    refine con.mono ?_
    rintro e w16 ⟨⟨ya, yc, rfl, hys⟩, b16⟩
    have B16 := Lib.hid (B15.out.trans (b16.mono B15.out.size))
    have HYS := Lib.hid hys.row.2.2.2
    have HXS16 := Lib.hid ((HXS.out.below b16).row.2.2.2)
    have HA16 := Lib.hid ((b16.block _ (lt_of_block HA15.out)).trans HA15.out)
    have HBX := Lib.hid (B1.out.trans (B16.out.mono B1.out.size))
    have hnx1 : 1 ≤ nx := by rw [← HNX.out, ← HX.out]; simp [waysOf]
    have hnx5 : nx ≤ 5 := by rw [← HNX.out, ← HX.out]; simp [waysOf]; omega
    have hX0 : 0 < X.length := by rw [HNX.out]; exact hnx1
    have hY0 : 0 < Y.length := by rw [HM.out.1]; exact hX0
    have HX0 := Lib.hid (show (X.getD 0 way0).cost = 1 + fl from by rw [← HX.out, ways_first T S C (by rw [HMO.out.2]; have := HNC.out.2.2.1; omega), HMO.out.2])
    obtain ⟨xb, xo, rfl, _, hxb⟩ := HXS16.out.addr (by intro e; rw [e] at hX0; cases hX0)
    obtain ⟨yb, yo, rfl, _, hyb⟩ := HYS.out.addr (by intro e; rw [e] at hY0; cases hY0)
    clear con hys b16 t0 t1 t2 t3 a0 a1 hY hY0
    have a0 := cells_of HA16.out 0
    simp only [List.getElem?_toArray, List.getElem?_cons_zero, List.getElem?_cons_succ] at a0
    have ew : decide ((fl : Int) ≠ fl) = false := by simp
    go_wp2_with fail
    go_loopw [17] (fun x17 wr => ∃ k : Nat, k ≤ nx ∧ x17 = .int .i64 k ∧ Hid (Below w16.heap.size w16 wr)) (fun x17 _ => nx - (intOf x17).toNat)
    case atStart => exact ⟨0, Nat.zero_le _, rfl, Below.refl _ _⟩
    case round =>
    obtain ⟨k, hk, rfl, HR16⟩ := hrel
    by_cases hkl : k < nx
    · have hkli : (k : Int) < nx := by omega
      have hkX : k < X.length := by rw [HNX.out]; exact hkl
      have hkY : k < Y.length := by rw [HM.out.1]; exact hkX
      obtain ⟨m1, m2, m3, m4⟩ := HM.out.2 k hkX hkY
      obtain ⟨x0, x1, x2, x3⟩ := HXS16.out.way k hkX
      obtain ⟨y0, y1, y2, y3⟩ := HYS.out.way k hkY
      rw [m2] at y1
      rw [m3] at y2
      obtain ⟨xl, hxl⟩ : ∃ x, X[k].lo = x := ⟨_, rfl⟩
      obtain ⟨xh, hxh⟩ : ∃ x, X[k].hi = x := ⟨_, rfl⟩
      obtain ⟨xcst, hxc⟩ : ∃ x, X[k].cost = x := ⟨_, rfl⟩
      obtain ⟨ycst, hyc⟩ : ∃ x, Y[k].cost = x := ⟨_, rfl⟩
      rw [hxl] at x1 y1
      rw [hxh] at x2 y2
      rw [hxc] at x3 m4
      rw [hyc] at y3 m4
      have X1 := Lib.hid x1
      have X2 := Lib.hid x2
      have X3 := Lib.hid x3
      have Y1 := Lib.hid y1
      have Y2 := Lib.hid y2
      have Y3 := Lib.hid y3
      have hgt : ¬ (ycst > xcst) := by omega
      clear x0 x1 x2 x3 y0 y1 y2 y3 m1 m2 m3 hxl hxh hxc hyc hkX hkY m4
      go_upto_region 22 with (fail)
      refine wp_region_class (Below wr.heap.size wr) (by kernel_rfl) (by kernel_rfl) (Below.drew (Below.refl _ _)) (fun ne => ?_)
      have x1 := fun z : Wld (Below wr.heap.size wr) => ((HR16.out.trans (z.good.mono HR16.out.size)).cell (p := ⟨xb, xo + k * 4 + 1, none⟩) hxb).trans X1.out
      have x2 := fun z : Wld (Below wr.heap.size wr) => ((HR16.out.trans (z.good.mono HR16.out.size)).cell (p := ⟨xb, xo + k * 4 + 2, none⟩) hxb).trans X2.out
      have x3 := fun z : Wld (Below wr.heap.size wr) => ((HR16.out.trans (z.good.mono HR16.out.size)).cell (p := ⟨xb, xo + k * 4 + 3, none⟩) hxb).trans X3.out
      have y1 := fun z : Wld (Below wr.heap.size wr) => ((HR16.out.trans (z.good.mono HR16.out.size)).cell (p := ⟨yb, yo + k * 4 + 1, none⟩) hyb).trans Y1.out
      have y2 := fun z : Wld (Below wr.heap.size wr) => ((HR16.out.trans (z.good.mono HR16.out.size)).cell (p := ⟨yb, yo + k * 4 + 2, none⟩) hyb).trans Y2.out
      have y3 := fun z : Wld (Below wr.heap.size wr) => ((HR16.out.trans (z.good.mono HR16.out.size)).cell (p := ⟨yb, yo + k * 4 + 3, none⟩) hyb).trans Y3.out
      repeat (go_big_quiet_step (fail))
      refine wpQuiet_nil ?_
      intro w17 b17
      have HR17 := Lib.hid (HR16.out.trans (b17.mono HR16.out.size))
      clear b17 x1 x2 x3 y1 y2 y3
      go_wp2_with fail
      go_roundw
      case rel => exact ⟨k + 1, by omega, by go_num, HR17.out⟩
      case measure => simp [intOf]; omega
    · have hkn : k = nx := by omega
      obtain ⟨x0, x1, x2, x3⟩ := HXS16.out.way 0 hX0
      have hX0c : X[0].cost = 1 + fl := by
        have h := HX0.out
        rw [List.getD_eq_getElem?_getD, List.getElem?_eq_getElem hX0] at h
        exact h
      rw [hX0c] at x3
      have z3 := (HR16.out.cell (p := ⟨xb, xo + 0 * 4 + 3, none⟩) hxb).trans x3
      rw [Nat.zero_mul, Nat.add_zero] at z3
      have hfl := HNC.out.2.2.1
      have HBF := Lib.hid (HBX.out.trans (HR16.out.mono HBX.out.size))
      clear x0 x1 x2 x3 hX0c
      go_wp2_with fail
      go_ret
      exact ⟨by simp, HBF.out⟩
end Go.Proofs.YtajlngkakpjncaaDoor
