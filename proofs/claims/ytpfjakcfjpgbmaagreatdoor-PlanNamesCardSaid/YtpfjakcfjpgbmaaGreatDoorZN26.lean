/- plan.all and plan.Ways: the access paths of a table, by a range over a function. -/
import Derived.Test.YtpfjakcfjpgbmaaGreatDoorZN24
import Derived.Test.YtpfjakcfjpgbmaaGreatDoorZN9
import Derived.RangeFuncNested
import Derived.RangeFuncBound
import Derived.RangeFuncCalls
import Derived.RangeFuncLeaves
import Derived.RangeFuncBox
import Derived.Shelf.Abstract
import Derived.OwnWalkIn
import Derived.TacticsInMore
import Derived.LoopNIn
import Derived.LoopIn
import Derived.Maps.AppendAt
namespace Go.Proofs.YtpfjakcfjpgbmaaGreatDoor
set_option linter.unusedVariables false
set_option linter.unusedSimpArgs false
open Go.RowKit Go.Shelf

attribute [local go_sem] Oper.semAt_some

theorem abides_below {β : Type} {B : Nat} {J : β → World → Prop} (h : AbidesFrom B J) {s : β} {W W' : World} (hs : J s W) (hb : Below W.heap.size W W') : J s W' :=
  h s W W' none hs ⟨hb.os, hb.tape, hb.output, hb.size, fun k hk _ => hb.block k hk⟩ (fun r e => by cases e)
/-- what a round keeps: what lay below n₀, and the three boxes -/
def KpB (n₀ Bt : Nat) (W W' : World) : Prop := Below n₀ W W' ∧ ∀ k, Bt ≤ k → k < Bt + 3 → k < W.heap.size → W'.heap[k]? = W.heap[k]?
theorem KpB.trans {n₀ Bt : Nat} {A B C : World} (h : KpB n₀ Bt A B) (k : KpB n₀ Bt B C) : KpB n₀ Bt A C :=
  ⟨h.1.trans k.1, fun i h1 h2 h3 => (k.2 i h1 h2 (Nat.lt_of_lt_of_le h3 h.1.size)).trans (h.2 i h1 h2 h3)⟩
theorem KpB.of_below {n₀ Bt : Nat} {W W' : World} (hb : Below W.heap.size W W') (hn : n₀ ≤ W.heap.size) : KpB n₀ Bt W W' := ⟨hb.mono hn, fun k _ _ h => hb.block k h⟩
theorem KpB.put {n₀ Bt : Nat} {w : World} (hn : n₀ ≤ w.heap.size) (hB : Bt + 3 ≤ w.heap.size) (W : World) (l : Nat) (o o' : Obj) (hl : w.heap.size ≤ l) (h : W.heap[l]? = some o) (h1 : o.isCells = false) (h2 : o.isWalk = false) : KpB n₀ Bt W (W.putObj l o') :=
  ⟨belowK_b hn W l o o' hl h h1 h2, fun k _ h4 _ => World.putObj_heap_other (by omega)⟩
theorem KpB.boxes {n₀ Bt : Nat} {W W' : World} (h : KpB n₀ Bt W W') {T : Tab} {S : Sta} {ac ai av : Option Addr} {cc ci cv : Nat} (hB : Boxes Bt T S ac cc ai ci av cv W) : Boxes Bt T S ac cc ai ci av cv W' :=
  ⟨(h.2 Bt (Nat.le_refl _) (by omega) (lt_of_block hB.1)).trans hB.1, (h.2 (Bt + 1) (by omega) (by omega) (lt_of_block hB.2)).trans hB.2⟩
theorem KpB.box {n₀ Bt : Nat} {W W' : World} (h : KpB n₀ Bt W W') {t : TypeId} {v : Value} (hB : Boxed W (Bt + 1 + 1) t v) : Boxed W' (Bt + 1 + 1) t v := (h.2 (Bt + 1 + 1) (by omega) (by omega) hB.lt).trans hB
/-- the first k access paths -/
def waysTo (T : Tab) (S : Sta) (W : List Cond) (k : Nat) : List Way := scanOf S :: (List.range k).map (byIdx T S W)
theorem waysTo_succ (T : Tab) (S : Sta) (W : List Cond) (k : Nat) : waysTo T S W (k + 1) = waysTo T S W k ++ [byIdx T S W k] := by simp [waysTo, List.range_succ]
theorem waysTo_len (T : Tab) (S : Sta) (W : List Cond) (k : Nat) : (waysTo T S W k).length = k + 1 := by simp [waysTo]
theorem waysTo_all (T : Tab) (S : Sta) (W : List Cond) : waysTo T S W T.idx.length = waysOf T S W := rfl

set_option maxHeartbeats 1000000 in
theorem all_in (n : Nat) (tv : Value) (T : Tab) (sv : Value) (S : Sta) (aw : Option Addr) (nw cw : Nat) (w : World) (ac ai av : Option Addr) (cc ci cv : Nat) (ht : tv = .agg #[.int .i64 T.id, .string T.name, .slice ac T.cols.length cc, .slice ai T.idx.length ci])
    (hs : sv = .agg #[.int .i64 S.rows, .slice av S.vals.length cv]) :
    CallsIn Fence.wide n Tryz.prog 75 #[tv, sv, .slice aw nw cw] w fun e w' => e = .returned (.func (.func 156) #[] #[.pointer (some ⟨w.heap.size + 1, 0, none⟩), .pointer (some ⟨w.heap.size, 0, none⟩), .pointer (some ⟨w.heap.size + 1 + 1, 0, none⟩)]) ∧
      w' = ((w.alloc (.cells #[.int .i64 T.id, .string T.name, .slice ac T.cols.length cc, .slice ai T.idx.length ci] 43)).alloc (.cells #[.int .i64 S.rows, .slice av S.vals.length cv] 54)).alloc (.cells #[.slice aw nw cw] 32) := by
  subst ht hs
  refine callsIn_wide.2 ?_
  go_enter Tryz.func75, Tryz.ntmps75
  go_wp2_with fail
  go_ret
  exact ⟨rfl, rfl⟩

set_option maxRecDepth 100000 in
set_option maxHeartbeats 4000000 in
theorem all1_in {p q r0 : Nat → Prop} (n : Nat) (hn : 1 ≤ n) (l Bt n₀ : Nat) (T : Tab) (S : Sta) (C : List Cond) (ac ai av aw : Option Addr) (cc ci cv cw : Nat) (hf : ∀ c ∈ C, c.val.fine) (J Jx : List Way → World → Prop) (W : World) (hn₀ : n₀ ≤ W.heap.size)
    (hJ : AbidesFrom W.heap.size J)
    (hY : ∀ pre x W, J pre W → pre.length < T.idx.length + 1 → YieldAt Fence.wide (n - 1) Tryz.prog l #[x.enc] W fun e W' =>
      (e = .returned (.bool true) ∧ J (pre ++ [x]) W' ∧ KpB n₀ Bt W W') ∨ (e = .returned (.bool false) ∧ Jx (pre ++ [x]) W'))
    (hT : TabV p W (.agg #[.int .i64 T.id, .string T.name, .slice ac T.cols.length cc, .slice ai T.idx.length ci]) T) (hS : StaV q W (.agg #[.int .i64 S.rows, .slice av S.vals.length cv]) S) (hC : SlV condR r0 W (.slice aw C.length cw) C) (he : Env W)
    (hp : ∀ k, p k → k < n₀) (hq : ∀ k, q k → k < n₀) (hr : ∀ k, r0 k → k < n₀) (h1 : 2 < n₀)
    (hB : Boxes Bt T S ac cc ai ci av cv W) (hBw : Boxed W (Bt + 1 + 1) 32 (.slice aw C.length cw)) (h0 : J [] W) :
    CallsIn Fence.wide n Tryz.prog 156 #[.func (.yield l) #[] #[], .pointer (some ⟨Bt + 1, 0, none⟩), .pointer (some ⟨Bt, 0, none⟩), .pointer (some ⟨Bt + 1 + 1, 0, none⟩)] W fun e W' => (∃ v, e = .returned v) ∧
      ((∃ ys, ys = waysOf T S C ∧ J ys W') ∨ (∃ pre, (∃ k, k ≤ T.idx.length ∧ pre = waysTo T S C k) ∧ Jx pre W')) := by
  have HT := Lib.hid hT
  have HS := Lib.hid hS
  have HC := Lib.hid hC
  have HE := Lib.hid he
  have HB := Lib.hid hB
  have HBW := Lib.hid hBw
  have HJ := Lib.hid hJ
  have HY := Lib.hid hY
  obtain ⟨d2, d3, d4, d5⟩ := hB.cells
  have d0 := cells_of hB.1 0
  have d1 := cells_of hB.1 1
  simp only [List.getElem?_toArray, List.getElem?_cons_zero, List.getElem?_cons_succ] at d0 d1
  have hil : T.idx.length ≤ 140737488355328 := by
    obtain ⟨_, _, _, _, h, _, h2⟩ := hT
    simp only [Value.agg.injEq, Array.mk.injEq, List.cons.injEq, Value.slice.injEq] at h
    obtain ⟨_, _, _, ⟨rfl, _, rfl⟩, _⟩ := h
    exact h2.row.2.2.1
  have hro := rowsOf_bd S
  clear hT hS hC he hB hBw hJ hY
  refine callsIn_of_wp Tryz.func156 rfl trivial ?_ rfl
  simp only [Tryz.ntmps156, List.size_toArray, List.length_cons, List.length_nil, Nat.reduceAdd, Nat.reduceSub, Array.replicate_succ, Array.replicate_zero, List.push_toArray, List.append_toArray, List.nil_append, List.cons_append]
  gi_wp2_with fail
  refine ⟨trivial, ?_⟩
  refine (callsIn_wide.2 (rows_any HS.out)).mono ?_
  rintro e w1 ⟨rfl, b1⟩
  have J1 := Lib.hid (abides_below HJ.out h0 b1)
  have B1 := Lib.hid (KpB.of_below (Bt := Bt) b1 hn₀)
  obtain ⟨fn, tmps, assign, body, hy, hR⟩ := HY.out [] (scanOf S) w1 J1.out (by simp)
  have hy' : (Instr.yield l #[.agg #[.int .i64 (-1), .string ⟨#[]⟩, .string ⟨#[]⟩, .int .i64 (1 + rowsOf S)]]).run Tryz.prog w1 = _ := hy
  clear hy b1
  gi_wp2_with fail
  refine hR.mono ?_
  rintro e W3 (⟨rfl, hJ3, hk3⟩ | ⟨rfl, hJx3⟩)
  · have B3 := Lib.hid (B1.out.trans hk3)
    have J3 := Lib.hid hJ3
    clear hJ3 hk3 hR hy'
    have HB3 := B3.out.boxes HB.out
    have d3' := HB3.cells.2.1
    clear HB3 d0 d1 d2 d3 d4 d5
    gi_wp2_with fail
    gi_loopw [16] (fun i wr => ∃ k : Nat, k ≤ T.idx.length ∧ i = .int .i64 k ∧ J (waysTo T S C k) wr ∧ KpB n₀ Bt W wr) (fun i _ => T.idx.length - (intOf i).toNat)
    case atStart => exact ⟨0, Nat.zero_le _, rfl, J3.out, B3.out⟩
    case round =>
      obtain ⟨k, hk, rfl, hJs, hnx⟩ := hrel
      have C0 := Lib.hid hnx
      have JS := Lib.hid hJs
      have HBr := hnx.boxes HB.out
      obtain ⟨d2, d3, d4, d5⟩ := HBr.cells
      have d0 := cells_of HBr.1 0
      have d1 := cells_of HBr.1 1
      simp only [List.getElem?_toArray, List.getElem?_cons_zero, List.getElem?_cons_succ] at d0 d1
      have dw : wr.cell? ⟨Bt + 1 + 1, 0, none⟩ = some (.slice aw C.length cw) := (hnx.box HBW.out).cell
      have hsr : W.heap.size ≤ wr.heap.size := hnx.1.size
      clear hJs hnx HBr d3'
      by_cases hlt : k < T.idx.length
      · gi_wp2_with fail
        refine ⟨trivial, ?_⟩
        have keepT : ∀ {pp : Nat → Prop}, (∀ k, pp k → k < n₀) → ∀ k, pp k → k < W.heap.size → wr.heap[k]? = W.heap[k]? := fun h k hk _ => C0.out.1.block k (h k hk)
        refine (callsIn_wide.2 (index_any (HT.out.keep (keepT hp)) (HS.out.keep (keepT hq)) (HC.out.keep (keepT hr)) hf (by obtain ⟨m, hm⟩ := HE.out; exact ⟨m, (C0.out.1.cell (p := ⟨2, 0, none⟩) h1).trans hm⟩) k hlt)).mono ?_
        rintro e w4 ⟨rfl, b4⟩
        have J4 := Lib.hid (abides_below HJ.out JS.out b4)
        have C4 := Lib.hid (C0.out.trans (KpB.of_below b4 (Nat.le_trans hn₀ hsr)))
        obtain ⟨fn, tmps, assign, body, hy, hR⟩ := HY.out (waysTo T S C k) (byIdx T S C k) w4 J4.out (by rw [waysTo_len]; omega)
        clear b4 keepT d0 d1 d2 d3 d4 d5 dw
        gi_wp2_with fail
        refine hR.mono ?_
        rintro e W5 (⟨rfl, hJ5, hk5⟩ | ⟨rfl, hJx5⟩)
        · have J5 := Lib.hid hJ5
          have C5 := Lib.hid (C4.out.trans hk5)
          clear hJ5 hk5 hR hy
          gi_wp2_with fail
          go_roundw
          case rel => exact ⟨k + 1, by omega, by go_num, by rw [waysTo_succ]; exact J5.out, C5.out⟩
          case measure => simp [intOf]; omega
        · have J5 := Lib.hid hJx5
          clear hJx5 hR hy
          gi_wp2_with fail
          refine bodyPost_ret (results_none rfl _ _ _) rfl ?_
          exact ⟨⟨_, rfl⟩, .inr ⟨_, ⟨k + 1, by omega, (waysTo_succ _ _ _ _).symm⟩, J5.out⟩⟩
      · obtain rfl : k = T.idx.length := by omega
        gi_wp2_with fail
        go_end0
        exact ⟨⟨_, rfl⟩, .inl ⟨_, rfl, JS.out⟩⟩
  · have J3 := Lib.hid hJx3
    clear hJx3 hR hy'
    gi_wp2_with fail
    refine bodyPost_ret (results_none rfl _ _ _) rfl ?_
    exact ⟨⟨_, rfl⟩, .inr ⟨_, ⟨0, by omega, rfl⟩, J3.out⟩⟩
theorem all_stops {p q r0 : Nat → Prop} (n : Nat) (hn : 1 ≤ n) (Bt n₀ : Nat) (T : Tab) (S : Sta) (C : List Cond) (ac ai av aw : Option Addr) (cc ci cv cw : Nat) (hf : ∀ c ∈ C, c.val.fine) (w : World) (hn₀ : n₀ ≤ w.heap.size)
    (hT : TabV p w (.agg #[.int .i64 T.id, .string T.name, .slice ac T.cols.length cc, .slice ai T.idx.length ci]) T) (hS : StaV q w (.agg #[.int .i64 S.rows, .slice av S.vals.length cv]) S) (hC : SlV condR r0 w (.slice aw C.length cw) C) (he : Env w)
    (hp : ∀ k, p k → k < n₀) (hq : ∀ k, q k → k < n₀) (hr : ∀ k, r0 k → k < n₀) (h1 : 2 < n₀)
    (hB : Boxes Bt T S ac cc ai ci av cv w) (hBw : Boxed w (Bt + 1 + 1) 32 (.slice aw C.length cw)) :
    SeqStopsK Fence.wide n Tryz.prog 156 #[.pointer (some ⟨Bt + 1, 0, none⟩), .pointer (some ⟨Bt, 0, none⟩), .pointer (some ⟨Bt + 1 + 1, 0, none⟩)] (fun x : Way => #[.agg #[.int .i64 x.index, .string x.lo, .string x.hi, .int .i64 x.cost]]) (KpB n₀ Bt) (fun ys => ys = waysOf T S C)
      (fun pre => ∃ k, k ≤ T.idx.length ∧ pre = waysTo T S C k) (T.idx.length + 1) w := fun l J Jx W hW hJ _ hY h0 =>
  all1_in n hn l Bt n₀ T S C ac ai av aw cc ci cv cw hf J Jx W (Nat.le_trans hn₀ hW.size) hJ hY (hT.below hW) (hS.below hW) (hC.below hW) (he.below hW) hp hq hr h1
    ⟨(hW.block _ (lt_of_block hB.1)).trans hB.1, (hW.block _ (lt_of_block hB.2)).trans hB.2⟩ ((hW.block _ hBw.lt).trans hBw) h0

/-- a block of the four cells of an access path -/
def Boxed4 (W : World) (B : Nat) (x : Way) : Prop := W.heap[B]? = some (.cells #[.int .i64 x.index, .string x.lo, .string x.hi, .int .i64 x.cost] 47 (0, 0))
theorem block_own {β : Type} (B : Nat) (cs : β → Array Value) (t : TypeId) : Own (fun s W => W.heap[B]? = some (.cells (cs s) t (0, 0))) := fun s X Y row hs hg hrow =>
  (hg.block B (lt_of_block hs) (fun e => by obtain ⟨o, ho, hc⟩ := hrow B e.symm; rw [hs] at ho; cases ho; cases hc)).trans hs
theorem boxed4_own (B : Nat) (x : Way) : Own (fun (_ : Unit) W => Boxed4 W B x) := block_own B (fun _ => _) _
theorem boxes_own (B : Nat) (T : Tab) (S : Sta) (ac : Option Addr) (cc : Nat) (ai : Option Addr) (ci : Nat) (av : Option Addr) (cv : Nat) : Own (fun (_ : List Way) W => Boxes B T S ac cc ai ci av cv W) := fun s X Y row hs hg hrow =>
  ⟨block_own B (fun _ : List Way => _) _ s X Y row hs.1 hg hrow, block_own (B + 1) (fun _ : List Way => _) _ s X Y row hs.2 hg hrow⟩
theorem cells_new4 (w : World) (cs : List Value) (e : TypeId) : ∀ j u, cs[j]? = some u → (w.alloc (.cells cs.toArray e)).cell? ((⟨w.heap.size, 0, none⟩ : Addr).add j) = some u := by
  intro j u hj
  have e1 : (⟨w.heap.size, 0, none⟩ : Addr).add j = ⟨w.heap.size, j, none⟩ := by unfold Addr.add; split <;> simp_all
  rw [e1, cells_of (heap_alloc_new w _)]
  simpa using hj
theorem info_way : (Tryz.prog.info? 47).map (fun i => (i.zero, i.size, i.bytes)) = some (some (.agg #[.int .i64 0, .string ⟨#[]⟩, .string ⟨#[]⟩, .int .i64 0]), 4, 48) := by kernel_rfl
theorem way_cells (x : Way) : ∀ u ∈ wayEnc x, u.oneCell' = true := by
  intro u hu
  simp [wayEnc] at hu
  rcases hu with rfl | rfl | rfl | rfl <;> rfl

set_option maxRecDepth 100000 in
set_option maxHeartbeats 8000000 in
theorem ways_in {p q r0 : Nat → Prop} (n : Nat) (hn : 3 ≤ n) {tv sv : Value} {T : Tab} {S : Sta} {C : List Cond} {aw : Option Addr} {cw : Nat} {w : World} (hT : TabV p w tv T) (hS : StaV q w sv S) (hC : SlV condR r0 w (.slice aw C.length cw) C)
    (hf : ∀ c ∈ C, c.val.fine) (he : Env w) (hp : ∀ k, p k → k < w.heap.size) (hq : ∀ k, q k → k < w.heap.size) (hr : ∀ k, r0 k → k < w.heap.size) (h1 : 2 < w.heap.size) (hix : T.idx.length ≤ 1000000) :
    CallsIn Fence.wide n Tryz.prog 30 #[tv, sv, .slice aw C.length cw] w fun e W' => ∃ v, e = .returned v ∧ W'.ownsRow w.heap.size 47 4 v (waysOf T S C).length ((waysOf T S C).flatMap wayEnc) ∧ Below w.heap.size w W' := by
  have hn1 : 1 ≤ n := by omega
  obtain ⟨ac, cc, ai, ci, ht, hT2⟩ := id hT
  obtain ⟨av, cv, hs, hS2⟩ := id hS
  subst ht hs
  obtain ⟨i0, hi, hz0, hz1, hz2⟩ := info_parts info_way
  have HT := Lib.hid hT
  have HS := Lib.hid hS
  have HC := Lib.hid hC
  have HE := Lib.hid he
  clear hT hS hC he hT2 hS2
  refine callsIn_of_wp_marks Tryz.func30 rfl trivial ?_ rfl
  simp only [Tryz.ntmps30, List.size_toArray, List.length_cons, List.length_nil, Nat.reduceAdd, Nat.reduceSub, Array.replicate_succ, Array.replicate_zero, List.push_toArray, List.append_toArray, List.nil_append, List.cons_append]
  gi_wp2_with fail
  obtain ⟨W3, hW3⟩ : ∃ W3, ((w.alloc (.cells #[.int .i64 T.id, .string T.name, .slice ac T.cols.length cc, .slice ai T.idx.length ci] 43)).alloc (.cells #[.int .i64 S.rows, .slice av S.vals.length cv] 54)).alloc (.cells #[.slice none 0 0] 104) = W3 := ⟨_, rfl⟩
  have hsz3 : W3.heap.size = w.heap.size + 3 := by rw [← hW3]; simp
  have hb3 : Below w.heap.size w W3 := by rw [← hW3]; exact (((Below.refl _ w).alloc (Nat.le_refl _) _).alloc (by simp) _).alloc (by simp; omega) _
  have hbo : Boxed W3 (w.heap.size + 1 + 1) 104 (.slice none 0 0) := by
    rw [← hW3]
    have := Boxed.new ((w.alloc (.cells #[.int .i64 T.id, .string T.name, .slice ac T.cols.length cc, .slice ai T.idx.length ci] 43)).alloc (.cells #[.int .i64 S.rows, .slice av S.vals.length cv] 54)) 104 (.slice none 0 0)
    simpa only [World.size_alloc] using this
  rw [hW3]
  refine ⟨trivial, ?_⟩
  refine (all_in (n - 1) _ T _ S aw _ cw W3 ac ai av cc ci cv rfl rfl).mono ?_
  rintro e w' ⟨rfl, rfl⟩
  obtain ⟨W0, hW0⟩ : ∃ W0, ((W3.alloc (.cells #[.int .i64 T.id, .string T.name, .slice ac T.cols.length cc, .slice ai T.idx.length ci] 43)).alloc (.cells #[.int .i64 S.rows, .slice av S.vals.length cv] 54)).alloc (.cells #[.slice aw C.length cw] 32) = W0 := ⟨_, rfl⟩
  have hsz0 : W0.heap.size = w.heap.size + 6 := by rw [← hW0]; simp; omega
  have hb0 : Below W3.heap.size W3 W0 := by rw [← hW0]; exact (((Below.refl _ W3).alloc (Nat.le_refl _) _).alloc (by simp) _).alloc (by simp; omega) _
  have hB0 : Boxes W3.heap.size T S ac cc ai ci av cv W0 := by
    rw [← hW0]
    have e1 : W3.heap.size + 1 = (W3.alloc (.cells #[.int .i64 T.id, .string T.name, .slice ac T.cols.length cc, .slice ai T.idx.length ci] 43)).heap.size := by simp
    refine ⟨(heap_alloc_old _ _ (by simp only [World.size_alloc]; omega)).trans ((heap_alloc_old _ _ (by simp only [World.size_alloc]; omega)).trans (heap_alloc_new _ _)), (heap_alloc_old _ _ (by simp only [World.size_alloc]; omega)).trans ?_⟩
    rw [e1]
    exact heap_alloc_new _ _
  have hBw : Boxed W0 (W3.heap.size + 1 + 1) 32 (.slice aw C.length cw) := by
    rw [← hW0]
    have := Boxed.new ((W3.alloc (.cells #[.int .i64 T.id, .string T.name, .slice ac T.cols.length cc, .slice ai T.idx.length ci] 43)).alloc (.cells #[.int .i64 S.rows, .slice av S.vals.length cv] 54)) 32 (.slice aw C.length cw)
    simpa only [World.size_alloc] using this
  have hb6 : Below w.heap.size w W0 := hb3.trans (hb0.mono (by omega))
  have hbo0 : Boxed W0 (w.heap.size + 1 + 1) 104 (.slice none 0 0) := (hb0.block _ (by omega)).trans hbo
  rw [hW0]
  clear hW0 hW3 hb0 hbo hb3
  rw [hsz3] at hB0 hBw
  have HB0 := Lib.hid hB0
  have HBW := Lib.hid hBw
  have HBO := Lib.hid hbo0
  have HB6 := Lib.hid hb6
  have HS0 := Lib.hid hsz0
  clear hB0 hBw hbo0 hb6 hsz0
  gi_wp2_with fail
  refine wpIn_rangeFunc_ownH rfl hn1 (gf := 156) (lb := #[.pointer (some ⟨w.heap.size + 3 + 1, 0, none⟩), .pointer (some ⟨w.heap.size + 3, 0, none⟩), .pointer (some ⟨w.heap.size + 3 + 1 + 1, 0, none⟩)]) rfl trivial (enters_of Tryz.func156 (by kernel_rfl) rfl)
    (all_stops (n - 1) (by omega) (w.heap.size + 3) w.heap.size T S C ac ai av aw cc ci cv cw hf W0 (by have := HS0.out; omega) (HT.out.below HB6.out) (HS.out.below HB6.out) (HC.out.below HB6.out) (HE.out.below HB6.out) hp hq hr h1 HB0.out HBW.out)
    (fun h k => h.trans k) (KpB.put (by have := HS0.out; omega) (by have := HS0.out; omega)) (Below.refl _ _) (fun _ => rfl)
    (fun pre W => ((∃ v, Boxed W (w.heap.size + 1 + 1) 104 v ∧ W.ownsRow w.heap.size 47 4 v pre.length (pre.flatMap wayEnc) ∧ True) ∧ (Boxes (w.heap.size + 3) T S ac cc ai ci av cv W ∧ Boxed W (w.heap.size + 3 + 1 + 1) 32 (.slice aw C.length cw))) ∧ Below w.heap.size w W)
    (fun _ _ _ => False)
    (OwnFrom.and (OwnFrom.and (Own.from (holdsRow_own w.heap.size (w.heap.size + 1 + 1) 104 47 4 (fun pre : List Way => pre.length) (fun pre => pre.flatMap wayEnc) (fun _ _ => True)) _) (OwnFrom.and (Own.from (boxes_own _ _ _ _ _ _ _ _ _) _) (Own.from (boxed_own _ _ (fun _ : List Way => Value.slice aw C.length cw)) _))) (ownFrom_below (Nat.le_refl _) (by have := HS0.out; omega)))
    (fun _ _ _ _ _ hs _ _ => hs)
    ⟨⟨⟨_, HBO.out, World.ownsRow_nil _ _ _ _, trivial⟩, HB0.out, HBW.out⟩, HB6.out⟩
    (fun x a' W => ∃ Bx, Boxed4 W Bx x ∧ a' = { tmps := #[.agg #[.int .i64 T.id, .string T.name, .slice ac T.cols.length cc, .slice ai T.idx.length ci], .agg #[.int .i64 S.rows, .slice av S.vals.length cv], .slice aw C.length cw,
      .pointer (some ⟨w.heap.size, 0, none⟩), .pointer (some ⟨w.heap.size + 1, 0, none⟩), undef, .slice none 0 0, .pointer (some ⟨w.heap.size + 1 + 1, 0, none⟩), .pointer (some ⟨Bx, 0, none⟩),
      .agg #[.int .i64 T.id, .string T.name, .slice ac T.cols.length cc, .slice ai T.idx.length ci], .agg #[.int .i64 S.rows, .slice av S.vals.length cv], .slice aw C.length cw,
      .func (.func 156) #[] #[.pointer (some ⟨w.heap.size + 3 + 1, 0, none⟩), .pointer (some ⟨w.heap.size + 3, 0, none⟩), .pointer (some ⟨w.heap.size + 3 + 1 + 1, 0, none⟩)],
      .agg #[.int .i64 x.index, .string x.lo, .string x.hi, .int .i64 x.cost], undef, undef, undef, undef, undef], defers := [] })
    (fun x a' _ X Y row hs hg hr => by obtain ⟨Bx, h1, h2⟩ := hs; exact ⟨Bx, boxed4_own Bx x () X Y row h1 hg (fun r e => (hr r e).2), h2⟩)
    ?assign ?body ?done ?stop
  case assign =>
    rintro l pre x W K ⟨⟨⟨v, hv, hrow, _⟩, hBx, hBy⟩, hB⟩ hK
    gi_wp2
    exact hK _ _ ((KeepsOthers.alloc _ _).from _) (KpB.of_below ((Below.refl _ W).alloc (Nat.le_refl _) _) hB.size) ⟨⟨⟨v, hv.alloc _, hrow.alloc _, trivial⟩, hBx.below ((Below.refl _ W).alloc (Nat.le_refl _) _), hBy.alloc _⟩, hB.alloc hB.size _⟩ ⟨W.heap.size, heap_alloc_new W _, rfl⟩
  case body =>
    rintro l pre x a' W hl ⟨r, hr⟩ ⟨⟨⟨v, hv, hrow, _⟩, hBx, hBy⟩, hB⟩ ⟨Bx, b4, rfl⟩ hlt
    have hc := hv.cell
    have d0 := cells_of b4 0
    have d1 := cells_of b4 1
    have d2 := cells_of b4 2
    have d3 := cells_of b4 3
    simp only [List.getElem?_toArray, List.getElem?_cons_zero, List.getElem?_cons_succ] at d0 d1 d2 d3
    gi_wp2_with (gi_at_builtin; refine wpListIn_append_own _ rfl _ _ 104 rfl w.heap.size 47 i0 _ 4 48 Tryz.underlying104 hi hz0 hz1 hz2 rfl (by decide) _ _ _ rfl (hrow.alloc _) ⟨W.heap.size, 0, none⟩ 1 1 (wayEnc x) rfl rfl (cells_new4 _ _ _) (way_cells x) (by unfold maxLen; omega) (by omega) (by have := hB.size; simp; omega) ?_; intro v' w1 hown' hgrow _; obtain ⟨g', cap', rfl⟩ := ownsRow_succ hown'; obtain ⟨hv1, hv2, hr2, hk2, hb2⟩ := hv.appended (by decide) hrow hB.size (by omega) hown' hgrow; have hc1 := hv1.cell; have hf1 := hv1.frozen)
    have keep : ∀ (k : Nat) (cs : Array Value) (t : TypeId), W.heap[k]? = some (.cells cs t (0, 0)) → t ≠ 47 → k ≠ w.heap.size + 1 + 1 → (w1.setCell ⟨w.heap.size + 1 + 1, 0, none⟩ (.slice (some ⟨g', 0, none⟩) (pre.length + 1) cap')).heap[k]? = some (.cells cs t (0, 0)) := fun k cs t hk ht hne =>
      (Below.heap_setCell _ _ _ _ (fun e => hne e)).trans ((hgrow.block k (by have := lt_of_block hk; simp; omega) (row_not hk hrow ht)).trans ((heap_alloc_old _ _ (lt_of_block hk)).trans hk))
    have k0 := keep _ _ _ hBx.1 (by decide) (by omega)
    have k1 := keep _ _ _ hBx.2 (by decide) (by omega)
    have k2 := keep _ _ _ hBy (by decide) (by omega)
    refine ⟨hk2.from _, ⟨hb2, fun k h4 h5 h6 => ?_⟩, ⟨⟨⟨_, hv2, by simpa using hr2, trivial⟩, ⟨k0, k1⟩, k2⟩, hB.trans hb2⟩⟩
    rcases (show k = w.heap.size + 3 ∨ k = w.heap.size + 3 + 1 ∨ k = w.heap.size + 3 + 1 + 1 by omega) with rfl | rfl | rfl
    · exact k0.trans hBx.1.symm
    · exact k1.trans hBx.2.symm
    · exact k2.trans (show W.heap[w.heap.size + 3 + 1 + 1]? = _ from hBy).symm
  case done =>
    rintro D ys W hD rfl ⟨⟨⟨v, hv, hrow, _⟩, hBx, hBy⟩, hB⟩ hK
    have hc := hv.cell
    gi_wp2
    refine ⟨by simp, .inl ⟨_, _, rfl, run_takeDeferred hK, ?_⟩⟩
    exact ⟨_, results_tmp rfl _ _ _, v, rfl, ownsRow_putObj hrow _ hK rfl, hB.trans (belowK_b (w := w) (Nat.le_refl _) W D _ _ (by have := HS0.out; omega) hK rfl rfl)⟩
  case stop =>
    rintro D c pre W _ _ h _
    exact h.elim
/-- plan.Ways, called: the slice that it makes holds the access paths -/
theorem ways_any {p q r0 : Nat → Prop} {tv sv : Value} {T : Tab} {S : Sta} {C : List Cond} {aw : Option Addr} {cw : Nat} {w : World} (hT : TabV p w tv T) (hS : StaV q w sv S) (hC : SlV condR r0 w (.slice aw C.length cw) C)
    (hf : ∀ c ∈ C, c.val.fine) (he : Env w) (hix : T.idx.length ≤ 1000000) :
    Calls Tryz.prog 30 #[tv, sv, .slice aw C.length cw] w fun e W' => (∃ a cap, e = .returned (.slice a (waysOf T S C).length cap) ∧ SlV wayR (fun k => w.heap.size ≤ k) W' (.slice a (waysOf T S C).length cap) (waysOf T S C)) ∧ Below w.heap.size w W' := by
  refine ((callsIn_wide (n := 6)).1 (ways_in 6 (by omega) hT.bound hS.bound hC.bound hf he (fun _ h => h.2) (fun _ h => h.2) (fun _ h => h.2) (by obtain ⟨m, hm⟩ := he; exact World.block_lt_of_cell? w _ hm) hix)).mono ?_
  rintro e W' ⟨v, rfl, hown, hb⟩
  obtain ⟨a, cap, rfl, hle, hrow, _⟩ := RowAt.of_owns_flat (enc := wayEnc) (sz := 4) (hl := fun _ => rfl) (p := fun k => w.heap.size ≤ k) hown (fun k h => h)
  exact ⟨⟨a, cap, rfl, a, cap, rfl, hle, by rw [show (waysOf T S C).length = T.idx.length + 1 from waysTo_len T S C T.idx.length]; omega, hrow⟩, hb⟩
end Go.Proofs.YtpfjakcfjpgbmaaGreatDoor
