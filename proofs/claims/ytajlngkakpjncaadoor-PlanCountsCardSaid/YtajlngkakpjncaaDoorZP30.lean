/- plan.Plan. -/
import Derived.Test.YtajlngkakpjncaaDoorZP29
import Derived.Test.YtajlngkakpjncaaDoorZP5
import Derived.Deep.RegionHeld3
import Derived.StillTailTactics
import Derived.Deep.CutRange
import Derived.Deep.QuietTactic
import Derived.BigQuiet
import Derived.Outline
import Derived.Deep.MidRow
namespace Go.Proofs.YtajlngkakpjncaaDoor
set_option linter.unusedVariables false
set_option linter.unusedSimpArgs false
open Go.RowKit

theorem block_at0 (w : World) (o0 o1 o2 o3 o4 o5 : Obj) : ((((((w.alloc o0).alloc o1).alloc o2).alloc o3).alloc o4).alloc o5).heap[w.heap.size]? = some o0 := by
  have e : w.heap.size = w.heap.size := by simp only [World.size_alloc]
  rw [e]
  exact (heap_alloc_old _ _ (by simp only [World.size_alloc]; omega)).trans ((heap_alloc_old _ _ (by simp only [World.size_alloc]; omega)).trans ((heap_alloc_old _ _ (by simp only [World.size_alloc]; omega)).trans ((heap_alloc_old _ _ (by simp only [World.size_alloc]; omega)).trans ((heap_alloc_old _ _ (by simp only [World.size_alloc]; omega)).trans (heap_alloc_new _ _)))))
theorem block_at1 (w : World) (o0 o1 o2 o3 o4 o5 : Obj) : ((((((w.alloc o0).alloc o1).alloc o2).alloc o3).alloc o4).alloc o5).heap[w.heap.size + 1]? = some o1 := by
  have e : w.heap.size + 1 = (w.alloc o0).heap.size := by simp only [World.size_alloc]
  rw [e]
  exact (heap_alloc_old _ _ (by simp only [World.size_alloc]; omega)).trans ((heap_alloc_old _ _ (by simp only [World.size_alloc]; omega)).trans ((heap_alloc_old _ _ (by simp only [World.size_alloc]; omega)).trans ((heap_alloc_old _ _ (by simp only [World.size_alloc]; omega)).trans (heap_alloc_new _ _))))
theorem block_at2 (w : World) (o0 o1 o2 o3 o4 o5 : Obj) : ((((((w.alloc o0).alloc o1).alloc o2).alloc o3).alloc o4).alloc o5).heap[w.heap.size + 1 + 1]? = some o2 := by
  have e : w.heap.size + 1 + 1 = ((w.alloc o0).alloc o1).heap.size := by simp only [World.size_alloc]
  rw [e]
  exact (heap_alloc_old _ _ (by simp only [World.size_alloc]; omega)).trans ((heap_alloc_old _ _ (by simp only [World.size_alloc]; omega)).trans ((heap_alloc_old _ _ (by simp only [World.size_alloc]; omega)).trans (heap_alloc_new _ _)))
theorem block_at3 (w : World) (o0 o1 o2 o3 o4 o5 : Obj) : ((((((w.alloc o0).alloc o1).alloc o2).alloc o3).alloc o4).alloc o5).heap[w.heap.size + 1 + 1 + 1]? = some o3 := by
  have e : w.heap.size + 1 + 1 + 1 = (((w.alloc o0).alloc o1).alloc o2).heap.size := by simp only [World.size_alloc]
  rw [e]
  exact (heap_alloc_old _ _ (by simp only [World.size_alloc]; omega)).trans ((heap_alloc_old _ _ (by simp only [World.size_alloc]; omega)).trans (heap_alloc_new _ _))
theorem block_at4 (w : World) (o0 o1 o2 o3 o4 o5 : Obj) : ((((((w.alloc o0).alloc o1).alloc o2).alloc o3).alloc o4).alloc o5).heap[w.heap.size + 1 + 1 + 1 + 1]? = some o4 := by
  have e : w.heap.size + 1 + 1 + 1 + 1 = ((((w.alloc o0).alloc o1).alloc o2).alloc o3).heap.size := by simp only [World.size_alloc]
  rw [e]
  exact (heap_alloc_old _ _ (by simp only [World.size_alloc]; omega)).trans (heap_alloc_new _ _)
theorem block_at5 (w : World) (o0 o1 o2 o3 o4 o5 : Obj) : ((((((w.alloc o0).alloc o1).alloc o2).alloc o3).alloc o4).alloc o5).heap[w.heap.size + 1 + 1 + 1 + 1 + 1]? = some o5 := by
  have e : w.heap.size + 1 + 1 + 1 + 1 + 1 = (((((w.alloc o0).alloc o1).alloc o2).alloc o3).alloc o4).heap.size := by simp only [World.size_alloc]
  rw [e]
  exact heap_alloc_new _ _
def badK (s : Stmt) : Bool := decide (s.kind ≠ 5) && decide (s.kind ≠ 6) && decide (s.kind ≠ 7)
theorem planOf_arg {T U : Tab} {a b : Sta} {s : Stmt} (h : badK s = true) : planOf T U a b s = (plan0, 1) := by
  simp only [badK, Bool.and_eq_true, decide_eq_true_eq] at h
  unfold planOf
  rw [if_pos ⟨h.1.1, h.1.2, h.2⟩]
/-- the names are wrong -/
def badN (T U : Tab) (s : Stmt) : Bool := (namesOf s).any (strangeB T U (twoOf s)) || twoOf s && (decide (colOf T s.left < 0) || decide (colOf U s.right < 0))
theorem badK_no {s : Stmt} (h : badK s = false) : ¬ (s.kind ≠ 5 ∧ s.kind ≠ 6 ∧ s.kind ≠ 7) := by
  rintro ⟨h1, h2, h3⟩
  simp [badK, h1, h2, h3] at h
theorem planOf_name {T U : Tab} {a b : Sta} {s : Stmt} (h : badK s = false) (h2 : badN T U s = true) : planOf T U a b s = (plan0, 50) := by
  unfold planOf
  rw [if_neg (badK_no h)]
  simp only
  rw [if_pos (by simpa [badN] using h2)]
theorem planOf_one {T U : Tab} {a b : Sta} {s : Stmt} (h : badK s = false) (h2 : badN T U s = false) (h3 : twoOf s = false) :
    planOf T U a b s = (⟨bestOf (waysOf T a (mineOf T true s.wher)), way0, false, (bestOf (waysOf T a (mineOf T true s.wher))).cost⟩, 0) := by
  unfold planOf
  rw [if_neg (badK_no h)]
  simp only
  rw [if_neg (by unfold badN at h2; rw [h2]; exact Bool.false_ne_true), if_pos (by rw [h3]; rfl)]
theorem bestGo_mem : ∀ (L : List Way) (m : Way), bestGo m L = m ∨ bestGo m L ∈ L
  | [], m => Or.inl rfl
  | x :: L, m => by
    rw [bestGo]
    rcases bestGo_mem L (if x.cost < m.cost then x else m) with h | h
    · rw [h]
      split
      · exact Or.inr (List.mem_cons_self ..)
      · exact Or.inl rfl
    · exact Or.inr (List.mem_cons_of_mem _ h)
theorem bestOf_mem {L : List Way} {p : Way → Prop} (h : ∀ x ∈ L, p x) (hne : L ≠ []) : p (bestOf L) := by
  cases L with
  | nil => exact absurd rfl hne
  | cons x L =>
    rcases bestGo_mem L x with e | e
    · show p (bestGo x L)
      rw [e]; exact h x (List.mem_cons_self ..)
    · exact h _ (List.mem_cons_of_mem _ e)
theorem new_drew (W : World) (o : Obj) : (W.alloc o).drew.heap[W.heap.size]? = some o := heap_alloc_new W o
theorem drew_new (W : World) (o : Obj) : (W.drew.alloc o).heap[W.heap.size]? = some o := heap_alloc_new W.drew o
/-- the box of a plan -/
def PlBox (w : World) (b : Nat) (x : PlanV) : Prop := w.heap[b]? = some (.cells #[.int .i64 x.way.index, .string x.way.lo, .string x.way.hi, .int .i64 x.way.cost, .int .i64 x.join.index, .string x.join.lo, .string x.join.hi, .int .i64 x.join.cost, .bool x.merge, .int .i64 x.cost] 54 (0, 0))
def nestP (m Pr : Way) (r : Int) : PlanV := ⟨m, Pr, false, m.cost + r * Pr.cost⟩
/-- the plan's new box, still zero -/
def NewPl (W : World) (u : Value) (w' : World) : Prop := ∃ b, u = .pointer (some ⟨b, 0, none⟩) ∧ W.heap.size ≤ b ∧ b < w'.heap.size ∧ w'.heap[b]? = some (.cells #[.int .i64 0, .string ⟨#[]⟩, .string ⟨#[]⟩, .int .i64 0, .int .i64 0, .string ⟨#[]⟩, .string ⟨#[]⟩, .int .i64 0, .bool false, .int .i64 0] 54 (0, 0)) ∧ Below W.heap.size W w'
/-- the plan's new box, filled -/
def SetPl (W : World) (b : Nat) (x : PlanV) (w' : World) : Prop := PlBox w' b x ∧ Below W.heap.size W w'
theorem there_of {w : World} {b n : Nat} {c : Array Value} {T : TypeId} (h : w.heap[b]? = some (.cells c T (0, 0))) (hn : n = c.size) : w.there b 0 n := fun j hj => by
  subst hn
  rw [Nat.zero_add]
  refine ⟨?_, free_of h j⟩
  rw [cells_of h j]
  simp [hj]
theorem setCells_block {b : Nat} {T : TypeId} : ∀ (vs : List Value) (o : Nat) (w : World) (c : Array Value), w.heap[b]? = some (.cells c T (0, 0)) → (w.setCells b o vs).heap[b]? = some (.cells ((vs.zipIdx o).foldl (fun c x => c.setIfInBounds x.2 x.1) c) T (0, 0))
  | [], _, _, _, h => h
  | v :: r, o, w, c, h => setCells_block r (o + 1) _ _ (block_set h)
theorem setCells_below {B b : Nat} {a : World} (hB : B ≤ b) : ∀ (vs : List Value) (o : Nat) (w : World), Below B a w → Below B a (w.setCells b o vs)
  | [], _, _, h => h
  | v :: r, o, w, h => setCells_below hB r (o + 1) _ (h.setCell (p := ⟨b, o, none⟩) hB v)
theorem setPl_of {W w : World} {b B : Nat} {v0 v1 v2 v3 v4 v5 v6 v7 v8 v9 : Value} (h : w.heap[b]? = some (.cells #[v0, v1, v2, v3, v4, v5, v6, v7, v8, v9] 54 (0, 0))) (hB : Below B W w) (hb : B ≤ b) (x : PlanV) :
    PlBox (w.setCells b 0 [.int .i64 x.way.index, .string x.way.lo, .string x.way.hi, .int .i64 x.way.cost, .int .i64 x.join.index, .string x.join.lo, .string x.join.hi, .int .i64 x.join.cost, .bool x.merge, .int .i64 x.cost]) b x ∧
      Below B W (w.setCells b 0 [.int .i64 x.way.index, .string x.way.lo, .string x.way.hi, .int .i64 x.way.cost, .int .i64 x.join.index, .string x.join.lo, .string x.join.hi, .int .i64 x.join.cost, .bool x.merge, .int .i64 x.cost]) :=
  ⟨(setCells_block _ 0 _ _ h).trans (by kernel_rfl), setCells_below hb _ 0 _ hB⟩
def mrgB (T U : Tab) (s : Stmt) : Bool := decide (0 ≤ ledOf T (colOf T s.left)) && decide (0 ≤ ledOf U (colOf U s.right)) && decide ((T.cols.getD (colOf T s.left).toNat default).2 = 1) && decide ((U.cols.getD (colOf U s.right).toNat default).2 = 1)
theorem planOf_two {T U : Tab} {a b : Sta} {s : Stmt} (h : badK s = false) (h2 : badN T U s = false) (h3 : twoOf s = true) :
    planOf T U a b s = if mrgB T U s then
        if ((waysOf T a (mineOf T true s.wher)).getD (ledOf T (colOf T s.left) + 1).toNat default).cost + ((waysOf U b (mineOf T false s.wher)).getD (ledOf U (colOf U s.right) + 1).toNat default).cost < (nestP (bestOf (waysOf T a (mineOf T true s.wher))) (probeOf U b (colOf U s.right)) (rowsOf a)).cost then
          (⟨(waysOf T a (mineOf T true s.wher)).getD (ledOf T (colOf T s.left) + 1).toNat default, (waysOf U b (mineOf T false s.wher)).getD (ledOf U (colOf U s.right) + 1).toNat default, true, ((waysOf T a (mineOf T true s.wher)).getD (ledOf T (colOf T s.left) + 1).toNat default).cost + ((waysOf U b (mineOf T false s.wher)).getD (ledOf U (colOf U s.right) + 1).toNat default).cost⟩, 0)
        else (nestP (bestOf (waysOf T a (mineOf T true s.wher))) (probeOf U b (colOf U s.right)) (rowsOf a), 0)
      else (nestP (bestOf (waysOf T a (mineOf T true s.wher))) (probeOf U b (colOf U s.right)) (rowsOf a), 0) := by
  unfold planOf
  rw [if_neg (badK_no h)]
  simp only
  rw [if_neg (by unfold badN at h2; rw [h2]; exact Bool.false_ne_true), if_neg (by rw [h3]; exact Bool.false_ne_true)]
  rfl
theorem planOf_nest {T U : Tab} {a b : Sta} {s : Stmt} (h : badK s = false) (h2 : badN T U s = false) (h3 : twoOf s = true) (h4 : mrgB T U s = false) :
    planOf T U a b s = (nestP (bestOf (waysOf T a (mineOf T true s.wher))) (probeOf U b (colOf U s.right)) (rowsOf a), 0) := by
  rw [planOf_two h h2 h3, h4, if_neg Bool.false_ne_true]
theorem planOf_mrg {T U : Tab} {a b : Sta} {s : Stmt} {L O : List Way} {i k : Nat} {m Pr : Way} (h : badK s = false) (h2 : badN T U s = false) (h3 : twoOf s = true) (h4 : mrgB T U s = true)
    (hi : ledOf T (colOf T s.left) = i) (hk : ledOf U (colOf U s.right) = k) (hL : L = waysOf T a (mineOf T true s.wher)) (hO : O = waysOf U b (mineOf T false s.wher)) (h1 : i + 1 < L.length) (h5 : k + 1 < O.length)
    (hm : m = bestOf L) (hp : Pr = probeOf U b (colOf U s.right)) :
    planOf T U a b s = (if L[i + 1].cost + O[k + 1].cost < m.cost + rowsOf a * Pr.cost then ⟨L[i + 1], O[k + 1], true, L[i + 1].cost + O[k + 1].cost⟩ else nestP m Pr (rowsOf a), 0) := by
  have e1 : (waysOf T a (mineOf T true s.wher)).getD (ledOf T (colOf T s.left) + 1).toNat default = L[i + 1] := by
    rw [hi, ← hL, show ((i : Int) + 1).toNat = i + 1 by omega, List.getD_eq_getElem?_getD, List.getElem?_eq_getElem h1]; rfl
  have e2 : (waysOf U b (mineOf T false s.wher)).getD (ledOf U (colOf U s.right) + 1).toNat default = O[k + 1] := by
    rw [hk, ← hO, show ((k : Int) + 1).toNat = k + 1 by omega, List.getD_eq_getElem?_getD, List.getElem?_eq_getElem h5]; rfl
  rw [planOf_two h h2 h3, h4, if_pos rfl, e1, e2, ← hp, ← hL, ← hm]
  show (if L[i + 1].cost + O[k + 1].cost < m.cost + rowsOf a * Pr.cost then _ else _) = _
  split <;> rfl
theorem below_drewN_pl {w : World} {b : Nat} {x : PlanV} (h : PlBox w b x) (n : Nat) : PlBox (w.drewN n) b x := ((below_drewN (Below.refl _ _) n).block _ (lt_of_block h)).trans h
theorem badN_cols {T U : Tab} {s : Stmt} (h2 : badN T U s = false) (h3 : twoOf s = true) : 0 ≤ colOf T s.left ∧ 0 ≤ colOf U s.right := by
  simp only [badN, h3, Bool.true_and, Bool.or_eq_false_iff, decide_eq_false_iff_not] at h2
  omega

set_option maxRecDepth 100000 in
set_option maxHeartbeats 16000000 in
theorem plan_any {p1 p2 p3 p4 p5 : Nat → Prop} {tv uv av bv sv : Value} {T U : Tab} {a b : Sta} {s : Stmt} {w : World} (hT : TabV p1 w tv T) (hU : TabV p2 w uv U) (ha : StaV p3 w av a) (hb : StaV p4 w bv b) (hs : StmtV p5 w sv s) (hsh : s.short)
    (hf : ∀ c ∈ s.wher, c.val.fine) (he : Env w) (hiT : T.idx.length ≤ 1000000) (hiU : U.idx.length ≤ 1000000) :
    Calls Tryd.prog 15 #[tv, uv, av, bv, sv] w fun e w' => e = .returned (planR (planOf T U a b s)) ∧ Below w.heap.size w w' := by
  obtain ⟨ac, cc, ai, ci, rfl, hT1, hT2⟩ := hT
  obtain ⟨bc, dc, bi, di, rfl, hU1, hU2⟩ := hU
  obtain ⟨va, ca, rfl, ha⟩ := ha
  obtain ⟨vb, cb, rfl, hb⟩ := hb
  obtain ⟨a3, c3, a4, c4, a5, c5, a6, c6, a7, c7, a12, c12, rfl, hs1, hs2, hs3, hs4, hs5, hs6, hs7, hs8⟩ := hs
  obtain ⟨W1, hW1⟩ : ∃ W1, (((((w.alloc (.cells #[.int .i64 T.id, .string T.name, .slice ac T.cols.length cc, .slice ai T.idx.length ci] 30)).alloc (.cells #[.int .i64 U.id, .string U.name, .slice bc U.cols.length dc, .slice bi U.idx.length di] 30)).alloc
    (.cells #[.int .i64 a.rows, .slice va a.vals.length ca] 33)).alloc (.cells #[.int .i64 b.rows, .slice vb b.vals.length cb] 33)).alloc
    (.cells #[.int .i64 s.kind, .string s.table, .string s.name, .slice a3 s.cols.length c3, .slice a4 s.names.length c4, .slice a5 s.row.length c5, .slice a6 s.sets.length c6, .slice a7 s.wher.length c7, .string s.join, .string s.left, .string s.right, .int .i64 s.agg, .slice a12 s.order.length c12, .int .i64 s.mode, .int .i64 s.n] 50)).alloc
    (.cells #[.int .i64 0, .string ⟨#[]⟩, .string ⟨#[]⟩, .int .i64 0, .int .i64 0, .string ⟨#[]⟩, .string ⟨#[]⟩, .int .i64 0, .bool false, .int .i64 0] 54) = W1 := ⟨_, rfl⟩
  have hsz : W1.heap.size = w.heap.size + 6 := by rw [← hW1]; simp only [World.size_alloc]
  have hb1 : Below w.heap.size w W1 := by rw [← hW1]; exact (((((((Below.refl _ _).alloc (Nat.le_refl _) _).alloc (by simp) _).alloc (by simp only [World.size_alloc]; omega) _).alloc (by simp only [World.size_alloc]; omega) _).alloc (by simp only [World.size_alloc]; omega) _).alloc (by simp only [World.size_alloc]; omega) _)
  have hB : PBoxes p1 p2 p3 p4 p5 w.heap.size T U a b s W1 := by
    refine ⟨⟨ac, cc, ai, ci, ?_, hT1.below hb1, hT2.below hb1⟩, ⟨bc, dc, bi, di, ?_, hU1.below hb1, hU2.below hb1⟩, ⟨va, ca, ?_, ha.below hb1⟩, ⟨vb, cb, ?_, hb.below hb1⟩,
      ⟨a3, c3, a4, c4, a5, c5, a6, c6, a7, c7, a12, c12, ?_, hs1.below hb1, hs2.below hb1, hs3, hs4.below hb1, hs5.below hb1, hs6.below hb1, hs7.below hb1, hs8⟩, ?_⟩
    all_goals
      rw [← hW1]
      first
        | exact block_at5 _ _ _ _ _ _ _
        | exact block_at0 _ _ _ _ _ _ _
        | exact block_at1 _ _ _ _ _ _ _
        | exact block_at2 _ _ _ _ _ _ _
        | exact block_at3 _ _ _ _ _ _ _
        | exact block_at4 _ _ _ _ _ _ _
  have PB := Lib.hid hB
  have B1 := Lib.hid hb1
  have S1 := Lib.hid hsz
  have HW1 := Lib.hid hW1
  have HF := Lib.hid hf
  have HE := Lib.hid (he.below hb1)
  clear hT1 hT2 hU1 hU2 ha hb hs1 hs2 hs4 hs5 hs6 hs7 hB hb1 hsz hW1 hf he
  go_enter Tryd.func15, Tryd.ntmps15
  go_upto_region 1 with (fail)
  rw [HW1.out]
  clear HW1
  go_cut [40] from 28 to 40 (fun s40 wx => s40 = .bool (badK s) ∧ W1 = wx)
  case first =>
    obtain ⟨a3', c3', a4', c4', a5', c5', a6', c6', a7', c7', a12', c12', ⟨s0, _⟩, _⟩ := PB.out.s.cells
    rcases (show s.kind = 5 ∨ s.kind = 6 ∨ s.kind = 7 ∨ (s.kind ≠ 5 ∧ s.kind ≠ 6 ∧ s.kind ≠ 7) by omega) with h | h | h | ⟨h5, h6, h7⟩
    · have HK := Lib.hid (show badK s = false by simp [badK, h])
      have q0 : (s.kind != 5) = false := by simp [h]
      clear h
      go_wp2_with fail
      go_meet
      exact ⟨by rw [HK.out], rfl⟩
    · have HK := Lib.hid (show badK s = false by simp [badK, h])
      have q0 : (s.kind != 5) = true := by simp [h]
      have q1 : (s.kind != 6) = false := by simp [h]
      clear h
      go_wp2_with fail
      go_meet
      exact ⟨by rw [HK.out], rfl⟩
    · have HK := Lib.hid (show badK s = false by simp [badK, h])
      have q0 : (s.kind != 5) = true := by simp [h]
      have q1 : (s.kind != 6) = true := by simp [h]
      have q2 : (s.kind != 7) = false := by simp [h]
      clear h
      go_wp2_with fail
      go_meet
      exact ⟨by rw [HK.out], rfl⟩
    · have HK := Lib.hid (show badK s = true by simp [badK, h5, h6, h7])
      have q0 : (s.kind != 5) = true := by simp [h5, h6, h7]
      have q1 : (s.kind != 6) = true := by simp [h5, h6, h7]
      have q2 : (s.kind != 7) = true := by simp [h5, h6, h7]
      clear h5 h6 h7
      go_wp2_with fail
      go_meet
      exact ⟨by rw [HK.out], rfl⟩
  case rest =>
    obtain ⟨rfl, rfl⟩ := hcut
    cases hbad : badK s
    · go_upto_region 3 with (fail)
      go_cut [12] from 42 to 49 (fun s12 wx => s12 = .pointer (some ⟨W1.heap.size, 0, none⟩) ∧ W1.alloc (.cells #[.bool (twoOf s)] 4) = wx)
      case first =>
        obtain ⟨a3', c3', a4', c4', a5', c5', a6', c6', a7', c7', a12', c12', ⟨s0, s1, s2, s3, s4, s5, s6, s7, s8, _⟩, _⟩ := PB.out.s.cells
        by_cases h7 : s.kind = 7
        · have e7 : (s.kind == 7) = true := by simp [h7]
          cases hj : s.join.toList.isEmpty
          · have hj2 : (!s.join.toList.isEmpty) = true := by rw [hj]; rfl
            have HW := Lib.hid (show twoOf s = true by simp [twoOf, h7, hj])
            clear h7
            go_wp2_with fail
            go_meet
            exact ⟨rfl, by rw [HW.out]⟩
          · have hj2 : (!s.join.toList.isEmpty) = false := by rw [hj]; rfl
            have HW := Lib.hid (show twoOf s = false by simp [twoOf, hj])
            clear h7
            go_wp2_with fail
            go_meet
            exact ⟨rfl, by rw [HW.out]⟩
        · have e7 : (s.kind == 7) = false := by simp [h7]
          have HW := Lib.hid (show twoOf s = false by simp [twoOf, h7])
          clear h7
          go_wp2_with fail
          go_meet
          exact ⟨rfl, by rw [HW.out]⟩
      case rest =>
        obtain ⟨rfl, hW2⟩ := hcut
        obtain ⟨W2, hWW⟩ : ∃ W2, wc = W2 := ⟨_, rfl⟩
        subst hWW
        have hb2 : Below W1.heap.size W1 wc := by rw [← hW2]; exact (Below.refl _ _).alloc (Nat.le_refl _) _
        have hk2 : BoolBox wc W1.heap.size (twoOf s) := by rw [← hW2]; exact heap_alloc_new W1 _
        obtain ⟨W2, hWW⟩ : ∃ W2, W2 = wc := ⟨_, rfl⟩
        rw [← hWW] at hb2 hk2 ⊢
        have P2 := Lib.hid (PB.out.below hb2)
        have B2 := Lib.hid (B1.out.trans (hb2.mono B1.out.size))
        have T2 := Lib.hid hk2
        have E2 := Lib.hid (HE.out.below hb2)
        have HBAD := Lib.hid hbad
        clear hW2 hb2 hk2 hbad hWW
        go_upto_region 5 with (fail)
        go_cut [14, 15] from 51 to 58 (fun s14 s15 wx => s14 = .int .i64 (colOf T s.left) ∧ s15 = .int .i64 (colOf U s.right) ∧ Below W2.heap.size W2 wx)
        case first =>
          obtain ⟨a3', c3', a4', c4', a5', c5', a6', c6', a7', c7', a12', c12', ⟨s0, s1, s2, s3, s4, s5, s6, s7, s8, s9, s10, s11, s12, s13, s14⟩, hSV, hWV⟩ := P2.out.s.cells
          obtain ⟨qc, kc, qi, ki, t0, t1, t2, t3, hTV⟩ := P2.out.t.cells
          obtain ⟨rc, lc, ri, li, u0, u1, u2, u3, hUV⟩ := P2.out.u.cells
          have HTV := Lib.hid hTV
          have HUV := Lib.hid hUV
          have keep : ∀ (x : Wld (Below W2.heap.size W2)) {b o : Nat} {v : Value}, W2.cell? ⟨b, o, none⟩ = some v → x.val.cell? ⟨b, o, none⟩ = some v := fun x b o v h => (x.good.cell (p := ⟨b, o, none⟩) (World.block_lt_of_cell? W2 _ h)).trans h
          have x9 := fun x => keep x s9
          have x10 := fun x => keep x s10
          have y0 := fun x => keep x t0
          have y1 := fun x => keep x t1
          have y2 := fun x => keep x t2
          have y3 := fun x => keep x t3
          have z0 := fun x => keep x u0
          have z1 := fun x => keep x u1
          have z2 := fun x => keep x u2
          have z3 := fun x => keep x u3
          clear hTV hUV hSV hWV t0 t1 t2 t3 u0 u1 u2 u3 keep
          clear s0 s1 s2 s3 s4 s5 s6 s7 s8 s9 s10 s11 s12 s13 s14
          refine wp_region_class (Below W2.heap.size W2) (by kernel_rfl) (by kernel_rfl) (Below.drew (Below.refl _ _)) (fun ne => ?_)
          repeat (go_big_quiet_step ((go_at_call 27; first | ((with_reducible refine Calls.mono (col_any (HTV.out.below (Wld.good _)) _) ?_); rintro e w2 ⟨rfl, b2⟩; exact ⟨rfl, class_below _ b2 (Nat.le_refl _)⟩) | ((with_reducible refine Calls.mono (col_any (HUV.out.below (Wld.good _)) _) ?_); rintro e w2 ⟨rfl, b2⟩; exact ⟨rfl, class_below _ b2 (Nat.le_refl _)⟩))))
          refine wpQuiet_nil ?_
          intro w4 b4
          go_wp2_with fail
          go_meet
          exact ⟨rfl, rfl, b4⟩
        case rest =>
          obtain ⟨rfl, rfl, hb5⟩ := hcut
          have P5 := Lib.hid (P2.out.below hb5)
          have B5 := Lib.hid (B2.out.trans (hb5.mono B2.out.size))
          have T5 := Lib.hid (T2.out.below hb5)
          have E5 := Lib.hid (E2.out.below hb5)
          clear hb5 P2 B2 T2 E2
          obtain ⟨W5, hWW⟩ : ∃ W5, W5 = wc := ⟨_, rfl⟩
          rw [← hWW] at P5 B5 T5 E5 ⊢
          clear hWW
          go_upto_region 6 with (fail)
          go_cut [73] from 59 to 73 (fun s73 wx => s73 = .bool (badN T U s) ∧ Below W5.heap.size W5 wx)
          case first =>
            obtain ⟨a3', c3', a4', c4', a5', c5', a6', c6', a7', c7', a12', c12', ⟨s0, s1, s2, s3, s4, s5, s6, s7, s8, s9, s10, s11, s12, s13, s14⟩, hSV, hWV⟩ := P5.out.s.cells
            clear hWV
            go_wp2_with fail
            refine (names_any hSV hsh).mono ?_
            rintro e w6 ⟨⟨v6, rfl, o6⟩, b6⟩
            obtain ⟨a6, cap6, rfl, _, r6, _⟩ := RowAt.of_owns_flat (enc := strEnc) (sz := 1) (hl := fun _ => rfl) (p := fun k => W5.heap.size ≤ k) o6 (fun k h => h)
            have hln : (namesOf s).length ≤ 140737488355328 := by
              have h1 := headNames_len s hsh
              have h2 := hsh.2.2.2
              have h3 : namesOf s = headNames s ++ s.wher.map (·.col) := rfl
              rw [h3, List.length_append, List.length_map]
              omega
            have R6 := Lib.hid r6
            have C6 := Lib.hid b6
            have P6 := Lib.hid (P5.out.below b6)
            have T6 := Lib.hid (T5.out.below b6)
            clear s0 s1 s2 s3 s4 s5 s6 s7 s8 s9 s10 s11 s12 s13 s14
            clear hSV o6 r6 b6
            go_wp2_with fail
            refine (contf_any P6.out.t P6.out.u T6.out a6 cap6 (namesOf s) R6.out hln).mono ?_
            rintro e w7 ⟨rfl, b7⟩
            have C7 := Lib.hid (C6.out.trans (b7.mono C6.out.size))
            have v2 := cells_of (T6.out.below b7) 0
            simp only [List.getElem?_toArray, List.getElem?_cons_zero] at v2
            clear b7
            cases hany : (namesOf s).any (strangeB T U (twoOf s))
            · cases htwo : twoOf s
              · have HN := Lib.hid (show badN T U s = false by simp only [badN, hany, Bool.false_or]; rw [htwo]; rfl)
                rw [htwo] at v2
                clear hany htwo
                go_wp2_with fail
                go_meet
                exact ⟨by rw [HN.out], C7.out⟩
              · rw [htwo] at v2
                rcases (show colOf T s.left < 0 ∨ (0 ≤ colOf T s.left ∧ colOf U s.right < 0) ∨ (0 ≤ colOf T s.left ∧ 0 ≤ colOf U s.right) by omega) with h | ⟨h, h'⟩ | ⟨h, h'⟩
                · have HN := Lib.hid (show badN T U s = true by simp only [badN, hany, Bool.false_or]; rw [htwo]; simp [h])
                  clear hany htwo
                  go_wp2_with fail
                  go_meet
                  exact ⟨by rw [HN.out], C7.out⟩
                · have HN := Lib.hid (show badN T U s = true by simp only [badN, hany, Bool.false_or]; rw [htwo]; simp [h'])
                  clear hany htwo
                  have h1 : decide (colOf T s.left < 0) = false := by simpa using h
                  have h2 : decide (colOf U s.right < 0) = true := by simpa using h'
                  go_wp2_with fail
                  go_meet
                  exact ⟨by rw [HN.out], C7.out⟩
                · have HN := Lib.hid (show badN T U s = false by simp only [badN, hany, Bool.false_or]; rw [htwo]; simp; omega)
                  clear hany htwo
                  have h1 : decide (colOf T s.left < 0) = false := by simpa using h
                  have h2 : decide (colOf U s.right < 0) = false := by simpa using h'
                  go_wp2_with fail
                  go_meet
                  exact ⟨by rw [HN.out], C7.out⟩
            · have HN := Lib.hid (show badN T U s = true by simp only [badN, hany]; rfl)
              clear hany
              go_wp2_with fail
              go_meet
              exact ⟨by rw [HN.out], C7.out⟩
          case rest =>
            obtain ⟨rfl, hb7⟩ := hcut
            have P7 := Lib.hid (P5.out.below hb7)
            have B7 := Lib.hid (B5.out.trans (hb7.mono B5.out.size))
            have T7 := Lib.hid (T5.out.below hb7)
            have E7 := Lib.hid (E5.out.below hb7)
            clear hb7
            cases hbn : badN T U s
            · obtain ⟨W7, hWW⟩ : ∃ W7, W7 = wc := ⟨_, rfl⟩
              rw [← hWW] at P7 B7 T7 E7 ⊢
              have HBN := Lib.hid hbn
              clear hWW hbn
              obtain ⟨a3', c3', a4', c4', a5', c5', a6', c6', a7', c7', a12', c12', ⟨s0, s1, s2, s3, s4, s5, s6, s7, s8, s9, s10, s11, s12, s13, s14⟩, hSV, hWV⟩ := P7.out.s.cells
              clear hSV
              obtain ⟨_, _, _, hwr⟩ := hWV.row
              have RW := Lib.hid hwr
              obtain ⟨i0, hi, hz0, hz1, hz2⟩ := info_parts info_cond
              have hws := hsh.2.2.2
              clear hWV hwr
              go_wp2_with fail
              go_loopw [16, 17, 78] (fun x y i wr => ∃ (k : Nat) (v u : Value), k ≤ s.wher.length ∧ i = .int .i64 k ∧ v = x ∧ u = y ∧ TwoAt W7.heap.size W7 (mineOf T true (s.wher.take k)) (mineOf T false (s.wher.take k)) v u wr) (fun _ _ i _ => s.wher.length - (intOf i).toNat)
              case atStart => exact ⟨0, _, _, Nat.zero_le _, rfl, rfl, rfl, World.ownsRow_nil _ _ _ _, World.ownsRow_nil _ _ _ _, fun k hk => by simp [Value.ownBlock] at hk, Below.refl _ _⟩
              case round =>
                obtain ⟨k, v, u, hk, rfl, rfl, rfl, hTw⟩ := hrel
                have TW := Lib.hid hTw
                clear s0 s1 s2 s3 s4 s5 s6 s7 s8 s9 s10 s11 s12 s13 s14
                by_cases hlt : k < s.wher.length
                · obtain ⟨bw, ow, rfl, _, hbw⟩ := RW.out.addr (by intro e; rw [e] at hlt; cases hlt)
                  obtain ⟨c0, c1, c2, c3', c4'⟩ := (RW.out.below hTw.b).cond k hlt
                  obtain ⟨qc, kc, qi, ki, t0, t1, t2, t3, hTV⟩ := (P7.out.t.below hTw.b).cells
                  have hbt := World.block_lt_of_cell? wr _ t0
                  simp only at hbt
                  have HTV := Lib.hid (hTV.below ((Below.refl _ _).alloc (Nat.le_refl _) (.cells #[.string s.wher[k].col, .int .i64 s.wher[k].op, .int .i64 s.wher[k].val.kind, .int .i64 s.wher[k].val.n, .string s.wher[k].val.s] 44)))
                  have hm1 := mine_len T true (s.wher.take k)
                  have hm2 := mine_len T false (s.wher.take k)
                  have hlk : (s.wher.take k).length ≤ k := List.length_take_le _ _
                  have HT1 := Lib.hid (mine_take T true s.wher k hlt)
                  have HT2 := Lib.hid (mine_take T false s.wher k hlt)
                  obtain ⟨M, hM⟩ : ∃ M, mineOf T true (s.wher.take k) = M := ⟨_, rfl⟩
                  obtain ⟨N, hN⟩ : ∃ N, mineOf T false (s.wher.take k) = N := ⟨_, rfl⟩
                  rw [hM] at TW HT1 hm1
                  rw [hN] at TW HT2 hm2
                  have hsz := hTw.b.size
                  clear hTw hTV hM hN
                  go_wp2_with fail
                  refine (col_any HTV.out s.wher[k].col).mono ?_
                  rintro e w2 ⟨rfl, b2⟩
                  have d := b2.block wr.heap.size (by simp)
                  have hbk := d.trans (heap_alloc_new wr _)
                  have TW2 := Lib.hid ((TW.out.below ((Below.refl _ _).alloc (Nat.le_refl _) (.cells #[.string s.wher[k].col, .int .i64 s.wher[k].op, .int .i64 s.wher[k].val.kind, .int .i64 s.wher[k].val.n, .string s.wher[k].val.s] 44)) hsz).below b2 (by simp; omega))
                  have d0 := cells_of hbk 0
                  have d1 := cells_of hbk 1
                  have d2 := cells_of hbk 2
                  have d3 := cells_of hbk 3
                  have d4 := cells_of hbk 4
                  simp only [List.getElem?_toArray, List.getElem?_cons_zero, List.getElem?_cons_succ] at d0 d1 d2 d3 d4
                  clear d hbk b2 TW c0 c1 c2 c3' c4' t0 t1 t2 t3
                  by_cases hc : 0 ≤ colOf T s.wher[k].col
                  · rw [show decide (0 ≤ colOf T s.wher[k].col) = true by simpa using hc] at HT1 HT2
                    go_wp2_with (at_builtin; refine wpList_append_own_at _ rfl _ _ 36 rfl W7.heap.size 44 i0 _ 5 56 Tryd.underlying36 hi hz0 hz1 hz2 rfl (by decide) _ M.length _ rfl (TW2.out.m.alloc _) ⟨w2.heap.size, 0, none⟩ 1 1 (condEnc s.wher[k]) rfl rfl (cells_new5 _ _ _) (cond_cells _) (by unfold maxLen; omega) (by omega) (by have := TW2.out.b.size; simp; omega) ?_; intro v1 w3 o1 g1 hx1 at1; clear hx1; have N3 := Lib.hid (TW2.out.push TW2.out.b.size o1 g1 at1); clear o1 g1 at1)
                    go_roundw
                    case rel => exact ⟨k + 1, _, _, by omega, by go_num, rfl, rfl, by rw [HT1.out, HT2.out]; simpa using N3.out⟩
                    case measure => simp [intOf]; omega
                  · rw [show decide (0 ≤ colOf T s.wher[k].col) = false by simpa using hc] at HT1 HT2
                    go_wp2_with (at_builtin; refine wpList_append_own_at _ rfl _ _ 36 rfl W7.heap.size 44 i0 _ 5 56 Tryd.underlying36 hi hz0 hz1 hz2 rfl (by decide) _ N.length _ rfl (TW2.out.swap.m.alloc _) ⟨w2.heap.size, 0, none⟩ 1 1 (condEnc s.wher[k]) rfl rfl (cells_new5 _ _ _) (cond_cells _) (by unfold maxLen; omega) (by omega) (by have := TW2.out.b.size; simp; omega) ?_; intro v1 w3 o1 g1 hx1 at1; clear hx1; have N3 := Lib.hid (TW2.out.swap.push TW2.out.b.size o1 g1 at1); clear o1 g1 at1)
                    go_roundw
                    case rel => exact ⟨k + 1, _, _, by omega, by go_num, rfl, rfl, by rw [HT1.out, HT2.out]; simpa using N3.out.swap⟩
                    case measure => simp [intOf]; omega
                · have hkl : k = s.wher.length := by omega
                  subst hkl
                  rw [List.take_length] at TW
                  clear hTw
                  obtain ⟨M, hM⟩ : ∃ M, M = mineOf T true s.wher := ⟨_, rfl⟩
                  obtain ⟨N, hN⟩ : ∃ N, N = mineOf T false s.wher := ⟨_, rfl⟩
                  rw [← hM, ← hN] at TW
                  have hM1 : M.length ≤ 140737488355328 := by have := mine_len T true s.wher; rw [← hM] at this; omega
                  have hN1 : N.length ≤ 140737488355328 := by have := mine_len T false s.wher; rw [← hN] at this; omega
                  have fM := Lib.hid (show ∀ c ∈ M, c.val.fine from fun c hc => HF.out c (by rw [hM] at hc; exact (List.mem_filter.1 hc).1))
                  have fN := Lib.hid (show ∀ c ∈ N, c.val.fine from fun c hc => HF.out c (by rw [hN] at hc; exact (List.mem_filter.1 hc).1))
                  obtain ⟨⟨am, cm, rfl, hm⟩, ⟨an, cn, rfl, hn⟩⟩ := TW.out.rows hM1 hN1
                  have HM := Lib.hid hM
                  have HN := Lib.hid hN
                  have RM := Lib.hid hm
                  have RN := Lib.hid hn
                  have C8 := Lib.hid TW.out.b
                  have P8 := Lib.hid (P7.out.below C8.out)
                  have B8 := Lib.hid (B7.out.trans (C8.out.mono B7.out.size))
                  have T8 := Lib.hid (T7.out.below C8.out)
                  have E8 := Lib.hid (E7.out.below C8.out)
                  obtain ⟨qc, kc, qi, ki, t0, t1, t2, t3, hTV⟩ := P8.out.t.cells
                  obtain ⟨xa, xc, x0, x1, hAV⟩ := P8.out.a.cells
                  have HTV := Lib.hid hTV
                  have HAV := Lib.hid hAV
                  clear hM hN hm hn TW hTV hAV
                  go_wp2_with fail
                  refine (ways_any HTV.out HAV.out RM.out fM.out E8.out hiT).mono ?_
                  rintro e w9 ⟨⟨aw, cw, rfl, h9⟩, b9⟩
                  have P9 := Lib.hid (P8.out.below b9)
                  have B9 := Lib.hid (B8.out.trans (b9.mono B8.out.size))
                  have T9 := Lib.hid (T8.out.below b9)
                  have E9 := Lib.hid (E8.out.below b9)
                  have RN9 := Lib.hid (RN.out.below b9)
                  obtain ⟨L, hL⟩ : ∃ L, L = waysOf T a M := ⟨_, rfl⟩
                  rw [← hL] at h9 ⊢
                  have hLl : L.length = T.idx.length + 1 := by rw [hL]; exact waysTo_len T a M T.idx.length
                  have hLne : L ≠ [] := by intro e; rw [e] at hLl; simp at hLl
                  have hLl1 : L.length ≤ 1000001 := by omega
                  have hLl2 : T.idx.length + 1 ≤ L.length := by omega
                  have HL := Lib.hid hL
                  have HLC := Lib.hid (show ∀ x ∈ L, 0 ≤ x.cost ∧ x.cost ≤ 2000003 by rw [hL]; exact waysOf_cost T a M)
                  have R9 := Lib.hid h9
                  have NE := Lib.hid hLne
                  clear hL h9 b9 t0 t1 t2 t3 x0 x1 hLl hLne RM RN
                  go_wp2_with fail
                  refine (best_any aw cw L w9 R9.out.row.2.2.2 NE.out (by omega)).mono ?_
                  rintro e w10 ⟨rfl, b10⟩
                  obtain ⟨m, hm⟩ : ∃ m, m = bestOf L := ⟨_, rfl⟩
                  rw [← hm]
                  have hmc : 0 ≤ m.cost ∧ m.cost ≤ 2000003 := by rw [hm]; exact bestOf_mem HLC.out NE.out
                  have HMB := Lib.hid hm
                  clear hm
                  rw [show m.enc = .agg #[.int .i64 m.index, .string m.lo, .string m.hi, .int .i64 m.cost] from rfl]
                  have B10 := Lib.hid (B9.out.trans (b10.mono B9.out.size))
                  go_upto_region 18 with (fail)
                  obtain ⟨W11, hW11⟩ : ∃ W11, w10.alloc (.cells #[.int .i64 m.index, .string m.lo, .string m.hi, .int .i64 m.cost] 52) = W11 := ⟨_, rfl⟩
                  have hb11 : Below w10.heap.size w10 W11 := by rw [← hW11]; exact (Below.refl _ _).alloc (Nat.le_refl _) _
                  have hk11 : W11.heap[w10.heap.size]? = some (.cells #[.int .i64 m.index, .string m.lo, .string m.hi, .int .i64 m.cost] 52 (0, 0)) := by rw [← hW11]; exact heap_alloc_new _ _
                  rw [hW11]
                  have hb9 : Below w9.heap.size w9 W11 := b10.trans (hb11.mono b10.size)
                  have P11 := Lib.hid (P9.out.below hb9)
                  have B11 := Lib.hid (B9.out.trans (hb9.mono B9.out.size))
                  have T11 := Lib.hid (T9.out.below hb9)
                  have E11 := Lib.hid (E9.out.below hb9)
                  have RN11 := Lib.hid (RN9.out.below hb9)
                  have R11 := Lib.hid (R9.out.below hb9)
                  have M11 := Lib.hid hk11
                  have v2 := cells_of T11.out 0
                  simp only [List.getElem?_toArray, List.getElem?_cons_zero] at v2
                  clear b10 hb11 hb9 hW11 hk11
                  cases htwo : twoOf s
                  · rw [htwo] at v2
                    have HK := Lib.hid (planOf_one (T := T) (U := U) (a := a) (b := b) HBAD.out HBN.out htwo)
                    have hz := P11.out.z
                    have m0 := cells_of M11.out 0
                    have m1 := cells_of M11.out 1
                    have m2 := cells_of M11.out 2
                    have m3 := cells_of M11.out 3
                    have e0 := cells_of hz 0
                    have e1 := cells_of hz 1
                    have e2 := cells_of hz 2
                    have e3 := cells_of hz 3
                    have e4 := cells_of hz 4
                    have e5 := cells_of hz 5
                    have e6 := cells_of hz 6
                    have e7 := cells_of hz 7
                    have e8 := cells_of hz 8
                    have e9 := cells_of hz 9
                    have f0 := free_of hz 0
                    have f1 := free_of hz 1
                    have f2 := free_of hz 2
                    have f3 := free_of hz 3
                    have f4 := free_of hz 4
                    have f5 := free_of hz 5
                    have f6 := free_of hz 6
                    have f7 := free_of hz 7
                    have f8 := free_of hz 8
                    have f9 := free_of hz 9
                    simp only [List.getElem?_toArray, List.getElem?_cons_zero, List.getElem?_cons_succ] at e0 e1 e2 e3 e4 e5 e6 e7 e8 e9
                    simp only [List.getElem?_toArray, List.getElem?_cons_zero, List.getElem?_cons_succ] at m0 m1 m2 m3
                    clear hz htwo
                    go_wp2_with fail
                    refine bodyPost_ret (v := .tuple #[.agg #[.int .i64 m.index, .string m.lo, .string m.hi, .int .i64 m.cost, .int .i64 0, .string ⟨#[]⟩, .string ⟨#[]⟩, .int .i64 0, .bool false, .int .i64 m.cost], .int .i64 0]) (by simp [results, Tryd.results15, go_sem, PlanV.enc, plan0, way0, noStr, e0, e1, e2, e3, e4, e5, e6, e7, e8, e9, f0, f1, f2, f3, f4, f5, f6, f7, f8, f9]) rfl ⟨by rw [HK.out, ← HM.out, ← HL.out, ← HMB.out]; rfl, ?_⟩
                    exact below_set10 B11.out (by omega) _ _ _ _ _ _ _ _ _ _
                  · rw [htwo] at v2
                    have HTWO := Lib.hid htwo
                    clear htwo
                    obtain ⟨rc, lc, ri, li, u0, u1, u2, u3, hUV⟩ := P11.out.u.cells
                    obtain ⟨xb, yb, x0, x1, hBV⟩ := P11.out.b.cells
                    have HUV := Lib.hid hUV
                    have HBV := Lib.hid hBV
                    clear hUV hBV
                    go_wp2_with fail
                    refine (ways_any HUV.out HBV.out RN11.out fN.out E11.out hiU).mono ?_
                    rintro e w12 ⟨⟨ao, co, rfl, h12⟩, b12⟩
                    have P12 := Lib.hid (P11.out.below b12)
                    have B12 := Lib.hid (B11.out.trans (b12.mono B11.out.size))
                    have R12 := Lib.hid (R11.out.below b12)
                    have M12 := Lib.hid ((b12.block _ (lt_of_block M11.out)).trans M11.out)
                    have E12 := Lib.hid (E11.out.below b12)
                    obtain ⟨O, hO⟩ : ∃ O, O = waysOf U b N := ⟨_, rfl⟩
                    rw [← hO] at h12 ⊢
                    have hOl : O.length = U.idx.length + 1 := by rw [hO]; exact waysTo_len U b N U.idx.length
                    have hO1 : O.length ≤ 1000001 := by omega
                    have hO2 : U.idx.length + 1 ≤ O.length := by omega
                    have HO := Lib.hid hO
                    have HOC := Lib.hid (show ∀ x ∈ O, 0 ≤ x.cost ∧ x.cost ≤ 2000003 by rw [hO]; exact waysOf_cost U b N)
                    have O12 := Lib.hid h12
                    have HO0 := Lib.hid (show ∀ h0 : 0 < O.length, O[0] = scanOf b by subst hO; intro _; rfl)
                    clear hO hOl h12 b12 u0 u1 u2 u3 x0 x1 v2
                    obtain ⟨qc, kc, qi, ki, t0, t1, t2, t3, hTV⟩ := P12.out.t.cells
                    obtain ⟨rc, lc, ri, li, u0, u1, u2, u3, hUV⟩ := P12.out.u.cells
                    have HTV := Lib.hid hTV
                    have HUV := Lib.hid hUV
                    have keep : ∀ (x : Wld (Below w12.heap.size w12)) {b o : Nat} {v : Value}, w12.cell? ⟨b, o, none⟩ = some v → x.val.cell? ⟨b, o, none⟩ = some v := fun x b o v h => (x.good.cell (p := ⟨b, o, none⟩) (World.block_lt_of_cell? w12 _ h)).trans h
                    have y0 := fun x => keep x t0
                    have y1 := fun x => keep x t1
                    have y2 := fun x => keep x t2
                    have y3 := fun x => keep x t3
                    have z0 := fun x => keep x u0
                    have z1 := fun x => keep x u1
                    have z2 := fun x => keep x u2
                    have z3 := fun x => keep x u3
                    clear hTV hUV t0 t1 t2 t3 u0 u1 u2 u3 keep
                    go_upto_region 21 with (fail)
                    refine wp_region_class (Below w12.heap.size w12) (by kernel_rfl) (by kernel_rfl) (Below.drew (Below.refl _ _)) (fun ne => ?_)
                    repeat (go_big_quiet_step ((go_at_call 31; first | ((with_reducible refine Calls.mono (led_any (HTV.out.below (Wld.good _)) _) ?_); rintro e w2 ⟨rfl, b2⟩; exact ⟨rfl, class_below _ b2 (Nat.le_refl _)⟩) | ((with_reducible refine Calls.mono (led_any (HUV.out.below (Wld.good _)) _) ?_); rintro e w2 ⟨rfl, b2⟩; exact ⟨rfl, class_below _ b2 (Nat.le_refl _)⟩))))
                    refine wpQuiet_nil ?_
                    intro w13 b13
                    have P13 := Lib.hid (P12.out.below b13)
                    have B13 := Lib.hid (B12.out.trans (b13.mono B12.out.size))
                    have R13 := Lib.hid (R12.out.below b13)
                    have O13 := Lib.hid (O12.out.below b13)
                    have M13 := Lib.hid ((b13.block _ (lt_of_block M12.out)).trans M12.out)
                    have E13 := Lib.hid (E12.out.below b13)
                    clear b13 y0 y1 y2 y3 z0 z1 z2 z3
                    obtain ⟨bo, oo, hao, _⟩ := O13.out.row.2.2.2.addr (by intro e; rw [e] at hO2; simp at hO2)
                    subst hao
                    obtain ⟨o0, o1, o2, o3⟩ := O13.out.row.2.2.2.way 0 (by omega)
                    rw [HO0.out (by omega)] at o0 o1 o2 o3
                    simp only [Nat.zero_mul, Nat.add_zero, scanOf, noStr] at o0 o1 o2 o3
                    go_upto_region 23 with (fail)
                    obtain ⟨W14, hW14⟩ : ∃ W14, w13.alloc (.cells #[.int .i64 (-1), .string ⟨#[]⟩, .string ⟨#[]⟩, .int .i64 (1 + rowsOf b)] 52) = W14 := ⟨_, rfl⟩
                    have hb14 : Below w13.heap.size w13 W14 := by rw [← hW14]; exact (Below.refl _ _).alloc (Nat.le_refl _) _
                    have hk14 : W14.heap[w13.heap.size]? = some (.cells #[.int .i64 (-1), .string ⟨#[]⟩, .string ⟨#[]⟩, .int .i64 (1 + rowsOf b)] 52 (0, 0)) := by rw [← hW14]; exact heap_alloc_new _ _
                    rw [hW14]
                    have K14 := Lib.hid hk14
                    have C14 := Lib.hid hb14
                    have hcols := badN_cols HBN.out HTWO.out
                    clear hW14 hb14 hk14 o0 o1 o2 o3
                    go_upto_if 122 with (fail)
                    go_cut [] from 123 to 131 (fun wx => wx.heap[w13.heap.size]? = some (.cells #[.int .i64 (probeOf U b (colOf U s.right)).index, .string (probeOf U b (colOf U s.right)).lo, .string (probeOf U b (colOf U s.right)).hi, .int .i64 (probeOf U b (colOf U s.right)).cost] 52 (0, 0)) ∧ Below w13.heap.size w13 wx)
                    case first =>
                      by_cases hk : 0 ≤ ledOf U (colOf U s.right)
                      · have hpr := Lib.hid (show probeOf U b (colOf U s.right) = ⟨ledOf U (colOf U s.right), noStr, noStr, 3 + 2 * leftOf (rowsOf b) b (colOf U s.right)⟩ by unfold probeOf; rw [if_pos hk])
                        obtain ⟨xb', yb', x0, x1, hBV'⟩ := (P13.out.below C14.out).b.cells
                        have HBV' := Lib.hid hBV'
                        have keep : ∀ (x : Wld (Below W14.heap.size W14)) {b o : Nat} {v : Value}, W14.cell? ⟨b, o, none⟩ = some v → x.val.cell? ⟨b, o, none⟩ = some v := fun x b o v h => (x.good.cell (p := ⟨b, o, none⟩) (World.block_lt_of_cell? W14 _ h)).trans h
                        have y0 := fun x => keep x x0
                        have y1 := fun x => keep x x1
                        have hro := rowsOf_bd b
                        have hlb := leftOf_bd (rowsOf b) b (colOf U s.right) hro.1 hro.2
                        have hc0 := hcols.2
                        have hw1 : IntKind.i64.wrap (2 * leftOf (rowsOf b) b (colOf U s.right)) = 2 * leftOf (rowsOf b) b (colOf U s.right) := by rw [IntKind.wrap_i64]; omega
                        have hw2 : IntKind.i64.wrap (3 + 2 * leftOf (rowsOf b) b (colOf U s.right)) = 3 + 2 * leftOf (rowsOf b) b (colOf U s.right) := by rw [IntKind.wrap_i64]; omega
                        clear hBV' x0 x1 keep
                        go_wp2_with fail
                        refine wp_region_class_tail 9 (Below W14.heap.size W14) (by kernel_rfl) (by kernel_rfl) (Below.drew (Below.refl _ _)) (fun ne => ?_)
                        simp only [List.take_succ_cons, List.take_zero, List.drop_succ_cons, List.drop_zero]
                        repeat (go_big_quiet_step (first | ((go_at_call 33; (with_reducible refine Calls.mono (rows_any (HBV'.out.below (Wld.good _))) ?_); rintro e w2 ⟨rfl, b2⟩; exact ⟨rfl, class_below _ b2 (Nat.le_refl _)⟩)) | ((go_at_call 32; (with_reducible refine Calls.mono (left_any (HBV'.out.below (Wld.good _)) (rowsOf b) (colOf U s.right) hro.1 hro.2 hc0) ?_); rintro e w2 ⟨rfl, b2⟩; exact ⟨rfl, class_below _ b2 (Nat.le_refl _)⟩))))
                        refine wpQuiet_nil ?_
                        intro w15 b15
                        have hk15 := (b15.block w13.heap.size (lt_of_block K14.out)).trans K14.out
                        have g0 := cells_of hk15 0
                        have g1 := cells_of hk15 1
                        have g2 := cells_of hk15 2
                        have g3 := cells_of hk15 3
                        have h0 := free_of hk15 0
                        have h1 := free_of hk15 1
                        have h2 := free_of hk15 2
                        have h3 := free_of hk15 3
                        simp only [List.getElem?_toArray, List.getElem?_cons_zero, List.getElem?_cons_succ] at g0 g1 g2 g3
                        have H15 := Lib.hid hk15
                        have C15 := Lib.hid (C14.out.trans (b15.mono C14.out.size))
                        clear hk15 b15 y0 y1
                        go_wp2_with fail
                        go_meet
                        rw [hpr.out]
                        exact ⟨block_set4 H15.out, below_set4 C15.out (Nat.le_refl _)⟩
                      · have hpr := Lib.hid (show probeOf U b (colOf U s.right) = scanOf b by unfold probeOf; rw [if_neg hk])
                        have hk2 : ledOf U (colOf U s.right) < 0 := by omega
                        clear hk
                        go_wp2_with fail
                        go_meet
                        rw [hpr.out]
                        exact ⟨K14.out, C14.out⟩
                    case rest =>
                      obtain ⟨hpb, hb16⟩ := hcut
                      obtain ⟨W16, hWW⟩ : ∃ W16, W16 = wc := ⟨_, rfl⟩
                      rw [← hWW] at hpb hb16 ⊢
                      clear hWW
                      obtain ⟨Pr, hPr⟩ : ∃ Pr, Pr = probeOf U b (colOf U s.right) := ⟨_, rfl⟩
                      rw [← hPr] at hpb
                      have hpc : 0 ≤ Pr.cost ∧ Pr.cost ≤ 2000003 := by
                        rw [hPr]
                        have h1 := rowsOf_bd b
                        have h2 := leftOf_bd (rowsOf b) b (colOf U s.right) h1.1 h1.2
                        unfold probeOf
                        split
                        · simp only; omega
                        · simp only [scanOf]; omega
                      have HPR := Lib.hid hPr
                      have P16 := Lib.hid (P13.out.below hb16)
                      have B16 := Lib.hid (B13.out.trans (hb16.mono B13.out.size))
                      have R16 := Lib.hid (R13.out.below hb16)
                      have O16 := Lib.hid (O13.out.below hb16)
                      have M16 := Lib.hid ((hb16.block _ (lt_of_block M13.out)).trans M13.out)
                      have PR16 := Lib.hid hpb
                      have hroa := rowsOf_bd a
                      have hpm : 0 ≤ rowsOf a * Pr.cost ∧ rowsOf a * Pr.cost ≤ 2000003000000 := by
                        refine ⟨Int.mul_nonneg hroa.1 hpc.1, ?_⟩
                        have h1 := Int.mul_le_mul hroa.2 hpc.2 hpc.1 (by omega)
                        simpa using h1
                      have hw3 : IntKind.i64.wrap (rowsOf a * Pr.cost) = rowsOf a * Pr.cost := by rw [IntKind.wrap_i64]; omega
                      have hw4 : IntKind.i64.wrap (m.cost + rowsOf a * Pr.cost) = m.cost + rowsOf a * Pr.cost := by rw [IntKind.wrap_i64]; omega
                      obtain ⟨xa', ya', x0, x1, hAV'⟩ := P16.out.a.cells
                      have HAV' := Lib.hid hAV'
                      have SB := Lib.hid (show ∀ w', Below W16.heap.size W16 w' → ((w'.cell? ⟨w10.heap.size, 0, none⟩ = some (.int .i64 m.index) ∧ w'.cell? ⟨w10.heap.size, 1, none⟩ = some (.string m.lo) ∧ w'.cell? ⟨w10.heap.size, 2, none⟩ = some (.string m.hi) ∧ w'.cell? ⟨w10.heap.size, 3, none⟩ = some (.int .i64 m.cost)) ∧
                          (w'.cell? ⟨w13.heap.size, 0, none⟩ = some (.int .i64 Pr.index) ∧ w'.cell? ⟨w13.heap.size, 1, none⟩ = some (.string Pr.lo) ∧ w'.cell? ⟨w13.heap.size, 2, none⟩ = some (.string Pr.hi) ∧ w'.cell? ⟨w13.heap.size, 3, none⟩ = some (.int .i64 Pr.cost)) ∧
                          (w'.cell? ⟨w.heap.size + 1 + 1, 0, none⟩ = some (.int .i64 a.rows) ∧ w'.cell? ⟨w.heap.size + 1 + 1, 1, none⟩ = some (.slice xa' a.vals.length ya')) ∧ Below W16.heap.size W16 w') from fun w' hb => by
                        have k1 := (hb.block _ (lt_of_block M16.out)).trans M16.out
                        have k2 := (hb.block _ (lt_of_block PR16.out)).trans PR16.out
                        exact ⟨⟨cells_of k1 0, cells_of k1 1, cells_of k1 2, cells_of k1 3⟩, ⟨cells_of k2 0, cells_of k2 1, cells_of k2 2, cells_of k2 3⟩, ⟨(hb.cell (p := ⟨w.heap.size + 1 + 1, 0, none⟩) (World.block_lt_of_cell? W16 _ x0)).trans x0, (hb.cell (p := ⟨w.heap.size + 1 + 1, 1, none⟩) (World.block_lt_of_cell? W16 _ x1)).trans x1⟩, hb⟩)
                      clear hpb hb16 hPr hAV' x0 x1
                      go_upto_region 25 with (fail)
                      go_cut [26] from 132 to 142 (fun s26 wx => ∃ Bp, s26 = .pointer (some ⟨Bp, 0, none⟩) ∧ PlBox wx Bp (nestP m Pr (rowsOf a)) ∧ W16.heap.size ≤ Bp ∧ Below W16.heap.size W16 wx)
                      case first =>
                        refine wp_region_loose [([0, 1, 2, 3, 4, 5, 6, 7, 8, 9, 10], 11), ([], 12)] (Below W16.heap.size W16) (by kernel_rfl) (by kernel_rfl) (by kernel_rfl) (fun w1 w2 h b => h.trans (b.mono h.size)) (Below.drew (Below.refl _ _)) ?_
                        apply wpSegs_cons (Below W16.heap.size W16) (NewPl W16) (fun _ h => h) (fun _ h => h)
                        case hq =>
                          intro w0 hw0
                          have ne : Nonempty (Wld (Below w0.heap.size w0)) := ⟨⟨w0, Below.refl _ _⟩⟩
                          have HA0 := Lib.hid (HAV'.out.below hw0)
                          have y := fun x : Wld (Below w0.heap.size w0) => SB.out _ (hw0.trans (x.good.mono hw0.size))
                          have y0 := fun x => (y x).1.1
                          have y1 := fun x => (y x).1.2.1
                          have y2 := fun x => (y x).1.2.2.1
                          have y3 := fun x => (y x).1.2.2.2
                          have z0 := fun x => (y x).2.1.1
                          have z1 := fun x => (y x).2.1.2.1
                          have z2 := fun x => (y x).2.1.2.2.1
                          have z3 := fun x => (y x).2.1.2.2.2
                          have t0 := fun x => (y x).2.2.1.1
                          have t1 := fun x => (y x).2.2.1.2
                          clear y
                          simp only [pickOps, List.getElem?_cons_zero, List.getElem?_cons_succ]
                          apply quiet_hide
                          intro KE hKE
                          go_big_quiet_step ((go_at_call 33; (with_reducible refine Calls.mono (rows_any (HA0.out.below (Wld.good _))) ?_); rintro e w2 ⟨rfl, b2⟩; exact ⟨rfl, class_below _ b2 (Nat.le_refl _)⟩))
                          repeat (go_big_quiet_step ((go_at_call 33; (with_reducible refine Calls.mono (rows_any (HA0.out.below (Wld.good _))) ?_); rintro e w2 ⟨rfl, b2⟩; exact ⟨rfl, class_below _ b2 (Nat.le_refl _)⟩)))
                          refine wpQuiet_nil ?_
                          exact hKE _ rfl
                        case ho => rfl
                        case hop => rfl
                        case hw => kernel_rfl
                        case hDJ => exact (fun _ _ _ h => h.choose_spec.2.2.2.2)
                        case hD =>
                          rintro u w1 w2 ⟨b, rfl, h1, h2, h3, h4⟩ hb
                          exact ⟨b, rfl, h1, Nat.lt_of_lt_of_le h2 hb.size, (hb.block _ h2).trans h3, h4.trans (hb.mono h4.size)⟩
                        case hlo =>
                          intro wa ba
                          go_wp2_with fail
                          exact ⟨wa.heap.size, rfl, ba.size, by simp, heap_alloc_new _ _, ba.alloc ba.size _⟩
                        case hrest =>
                          rintro u w1 ⟨b, rfl, hb1, -, -, -⟩
                          simp only [Act.put, List.setIfInBounds_toArray, List.set_cons_succ, List.set_cons_zero]
                          refine wpSegs_cons0 (fun _ => SetPl W16 b (nestP m Pr (rowsOf a))) ?sub rfl rfl ?want2 ?stable2 (fun h => absurd rfl h) ?loose2 ?onw2
                          case sub =>
                            rintro w' ⟨b, _, _, _, _, h⟩
                            exact h
                          case want2 => kernel_rfl
                          case stable2 =>
                            rintro u w1 w2 ⟨h1, h2⟩ hb
                            exact ⟨(hb.block _ (lt_of_block h1)).trans h1, h2.trans (hb.mono h2.size)⟩
                          case loose2 =>
                            rintro wa ⟨b', e, h1, h2, hz, h4⟩
                            obtain rfl : b = b' := by simpa using e
                            clear e
                            refine wpList_plain rfl (fun K hK => wp_store_mid 54 _ _ rfl b 0 #[.int .i64 m.index, .string m.lo, .string m.hi, .int .i64 m.cost, .int .i64 Pr.index, .string Pr.lo, .string Pr.hi, .int .i64 Pr.cost, .bool false, .int .i64 (m.cost + rowsOf a * Pr.cost)] (by kernel_rfl) (by kernel_rfl) ?_ (by kernel_rfl) (by kernel_rfl) (hK _ _ (wpList_nil ⟨rfl, undef, rfl, ?_⟩)))
                            · exact there_of hz (by kernel_rfl)
                            · exact setPl_of hz h4 hb1 (nestP m Pr (rowsOf a))
                          case onw2 =>
                            rintro u w2 ⟨h1, h2⟩
                            refine wpSegs_nil ?_
                            intro w' h
                            simp only [Act.put]
                            go_wp2_with fail
                            go_meet
                            exact ⟨b, rfl, h.1, hb1, h.2⟩
                      case rest =>
                        obtain ⟨Bp, rfl, hpl, hBp, hb17⟩ := hcut
                        obtain ⟨W17, hWW⟩ : ∃ W17, W17 = wc := ⟨_, rfl⟩
                        rw [← hWW] at hpl hb17 ⊢
                        clear hWW SB hw3 hw4
                        have P17 := Lib.hid (P16.out.below hb17)
                        have B17 := Lib.hid (B16.out.trans (hb17.mono B16.out.size))
                        have C17 := Lib.hid hb17
                        have PL17 := Lib.hid hpl
                        have HBP := Lib.hid hBp
                        have R17 := Lib.hid (R16.out.below hb17)
                        have O17 := Lib.hid (O16.out.below hb17)
                        clear hb17 hpl hBp
                        obtain ⟨l, hl⟩ : ∃ l : Nat, colOf T s.left = l := ⟨(colOf T s.left).toNat, by omega⟩
                        obtain ⟨r, hr⟩ : ∃ r : Nat, colOf U s.right = r := ⟨(colOf U s.right).toNat, by omega⟩
                        have hl2 : l < T.cols.length := by have := (idxOf_bd (fun c : ByteArray × Int => sEq c.1 s.left) T.cols).2; unfold colOf at hl; omega
                        have hr2 : r < U.cols.length := by have := (idxOf_bd (fun c : ByteArray × Int => sEq c.1 s.right) U.cols).2; unfold colOf at hr; omega
                        rw [hl, hr]
                        rw [hr] at HPR
                        obtain ⟨i, hi⟩ : ∃ i : Int, ledOf T l = i := ⟨_, rfl⟩
                        obtain ⟨k, hk⟩ : ∃ k : Int, ledOf U r = k := ⟨_, rfl⟩
                        rw [hi, hk]
                        have hi2 : i < T.idx.length := by have := (idxOf_bd (fun x : Ix => decide (0 < x.cols.length) && (x.cols.getD 0 0 == (l : Int))) T.idx).2; unfold ledOf at hi; omega
                        have hk2 : k < U.idx.length := by have := (idxOf_bd (fun x : Ix => decide (0 < x.cols.length) && (x.cols.getD 0 0 == (r : Int))) U.idx).2; unfold ledOf at hk; omega
                        have PN := Lib.hid (show mrgB T U s = false → planOf T U a b s = (nestP m Pr (rowsOf a), 0) from fun h => (planOf_nest HBAD.out HBN.out HTWO.out h).trans (by rw [← HM.out, ← HL.out, ← HMB.out, hr, ← HPR.out]))
                        have PM := Lib.hid (show ∀ (i' k' : Nat) (_ : i = i') (_ : k = k') (_ : mrgB T U s = true) (h1 : i' + 1 < L.length) (h2 : k' + 1 < O.length), planOf T U a b s = (if L[i' + 1].cost + O[k' + 1].cost < m.cost + rowsOf a * Pr.cost then ⟨L[i' + 1], O[k' + 1], true, L[i' + 1].cost + O[k' + 1].cost⟩ else nestP m Pr (rowsOf a), 0) from
                          fun i' k' e1 e2 h h1 h2 => planOf_mrg HBAD.out HBN.out HTWO.out h (by rw [hl, hi, e1]) (by rw [hr, hk, e2]) (by rw [HL.out, HM.out]) (by rw [HO.out, HN.out]) h1 h2 HMB.out (by rw [hr]; exact HPR.out))
                        have hmrg : mrgB T U s = (decide (0 ≤ i) && decide (0 ≤ k) && decide (T.cols[l].2 = 1) && decide (U.cols[r].2 = 1)) := by
                          unfold mrgB
                          rw [hl, hr, hi, hk]
                          simp [List.getD_eq_getElem?_getD, List.getElem?_eq_getElem hl2, List.getElem?_eq_getElem hr2]
                        have HMRG := Lib.hid hmrg
                        clear hl hr hi hk hmrg hcols
                        go_upto_region 26 with (fail)
                        go_cut [166] from 143 to 166 (fun s166 wx => s166 = .bool (mrgB T U s) ∧ W17 = wx)
                        case first =>
                          obtain ⟨qt, kt, qi, ki, t0, t1, t2, t3, hTV⟩ := P17.out.t.cells
                          obtain ⟨qu, ku, qj, kj, u0, u1, u2, u3, hUV⟩ := P17.out.u.cells
                          obtain ⟨at1, ct1, at2, ct2, et, hT1, _⟩ := hTV
                          obtain ⟨au1, cu1, au2, cu2, eu, hU1, _⟩ := hUV
                          simp only [Value.agg.injEq, Array.mk.injEq, List.cons.injEq, Value.slice.injEq, and_true, true_and] at et eu
                          obtain ⟨⟨rfl, rfl⟩, -, -⟩ := et
                          obtain ⟨⟨rfl, rfl⟩, -, -⟩ := eu
                          have hT2 := hT1.row.2.2.2
                          have hU2 := hU1.row.2.2.2
                          obtain ⟨bt, ot, rfl, _, _⟩ := hT2.addr (by intro e; rw [e] at hl2; cases hl2)
                          obtain ⟨bu, ou, rfl, _, _⟩ := hU2.addr (by intro e; rw [e] at hr2; cases hr2)
                          have d1 := (hT2.col l hl2).2
                          have d2 := (hU2.col r hr2).2
                          clear t0 t1 t3 u0 u1 u3 hT1 hU1 hT2 hU2
                          obtain ⟨tk, htk⟩ : ∃ tk, tk = T.cols[l].2 := ⟨_, rfl⟩
                          obtain ⟨uk, huk⟩ : ∃ uk, uk = U.cols[r].2 := ⟨_, rfl⟩
                          rw [← htk] at d1 HMRG
                          rw [← huk] at d2 HMRG
                          clear htk huk
                          rcases (show i < 0 ∨ (0 ≤ i ∧ k < 0) ∨ (0 ≤ i ∧ 0 ≤ k ∧ tk ≠ 1) ∨ (0 ≤ i ∧ 0 ≤ k ∧ tk = 1 ∧ uk ≠ 1) ∨ (0 ≤ i ∧ 0 ≤ k ∧ tk = 1 ∧ uk = 1) by omega) with h | ⟨h, h2⟩ | ⟨h, h2, h3⟩ | ⟨h, h2, h3, h4⟩ | ⟨h, h2, h3, h4⟩
                          · have HG := Lib.hid (HMRG.out.trans (by simp [show ¬ 0 ≤ i by omega] : _ = false))
                            have q1 : decide (0 ≤ i) = false := by simpa using h
                            clear h
                            go_wp2_with fail
                            go_meet
                            exact ⟨by rw [HG.out], rfl⟩
                          · have HG := Lib.hid (HMRG.out.trans (by simp [show ¬ 0 ≤ k by omega] : _ = false))
                            have q1 : decide (0 ≤ i) = true := by simpa using h
                            have q2 : decide (0 ≤ k) = false := by simpa using h2
                            clear h h2
                            go_wp2_with fail
                            go_meet
                            exact ⟨by rw [HG.out], rfl⟩
                          · have HG := Lib.hid (HMRG.out.trans (by simp [h3] : _ = false))
                            have q1 : decide (0 ≤ i) = true := by simpa using h
                            have q2 : decide (0 ≤ k) = true := by simpa using h2
                            have q3 : (tk == 1) = false := by simpa using h3
                            clear h h2 h3
                            go_wp2_with fail
                            go_meet
                            exact ⟨by rw [HG.out], rfl⟩
                          · have HG := Lib.hid (HMRG.out.trans (by simp [h4] : _ = false))
                            have q1 : decide (0 ≤ i) = true := by simpa using h
                            have q2 : decide (0 ≤ k) = true := by simpa using h2
                            have q3 : (tk == 1) = true := by simpa using h3
                            have q4 : (uk == 1) = false := by simpa using h4
                            clear h h2 h3 h4
                            go_wp2_with fail
                            go_meet
                            exact ⟨by rw [HG.out], rfl⟩
                          · have HG := Lib.hid (HMRG.out.trans (by simp [h, h2, h3, h4] : _ = true))
                            have q1 : decide (0 ≤ i) = true := by simpa using h
                            have q2 : decide (0 ≤ k) = true := by simpa using h2
                            have q3 : (tk == 1) = true := by simpa using h3
                            have q4 : (uk == 1) = true := by simpa using h4
                            clear h h2 h3 h4
                            go_wp2_with fail
                            go_meet
                            exact ⟨by rw [HG.out], rfl⟩
                        case rest =>
                          obtain ⟨rfl, rfl⟩ := hcut
                          go_upto_if 166 with (fail)
                          go_cut [27] from 166 to 195 (fun _ wx => ∃ X, PlBox wx Bp X ∧ planOf T U a b s = (X, 0) ∧ Below W16.heap.size W16 wx)
                          case first =>
                            cases hm : mrgB T U s
                            · have HX := Lib.hid (PN.out hm)
                              clear hm
                              go_wp2_with fail
                              go_meet
                              exact ⟨_, PL17.out, HX.out, C17.out⟩
                            · have hik : 0 ≤ i ∧ 0 ≤ k := by have e := HMRG.out; rw [hm] at e; simp at e; exact ⟨e.1.1.1, e.1.1.2⟩
                              obtain ⟨i', rfl⟩ : ∃ i' : Nat, i = i' := ⟨i.toNat, by omega⟩
                              obtain ⟨k', rfl⟩ : ∃ k' : Nat, k = k' := ⟨k.toNat, by omega⟩
                              have h1 : i' + 1 < L.length := by omega
                              have h2 : k' + 1 < O.length := by omega
                              have hX := PM.out i' k' rfl rfl hm h1 h2
                              obtain ⟨bw, ow, rfl, _, _⟩ := R17.out.row.2.2.2.addr (by intro e; rw [e] at h1; simp at h1)
                              obtain ⟨c0, c1, c2, c3⟩ := R17.out.row.2.2.2.way (i' + 1) h1
                              obtain ⟨d0, d1, d2, d3⟩ := O17.out.row.2.2.2.way (k' + 1) h2
                              obtain ⟨x, hx⟩ : ∃ x, x = L[i' + 1] := ⟨_, rfl⟩
                              obtain ⟨y, hy⟩ : ∃ y, y = O[k' + 1] := ⟨_, rfl⟩
                              have hxc := HLC.out x (by rw [hx]; exact List.getElem_mem h1)
                              have hyc := HOC.out y (by rw [hy]; exact List.getElem_mem h2)
                              rw [← hx] at c0 c1 c2 c3 hX
                              rw [← hy] at d0 d1 d2 d3 hX
                              have hw5 : IntKind.i64.wrap (x.cost + y.cost) = x.cost + y.cost := by rw [IntKind.wrap_i64]; omega
                              have hpl : W17.heap[Bp]? = some (.cells #[.int .i64 m.index, .string m.lo, .string m.hi, .int .i64 m.cost, .int .i64 Pr.index, .string Pr.lo, .string Pr.hi, .int .i64 Pr.cost, .bool false, .int .i64 (m.cost + rowsOf a * Pr.cost)] 54 (0, 0)) := PL17.out
                              have n9 := cells_of hpl 9
                              simp only [List.getElem?_toArray, List.getElem?_cons_zero, List.getElem?_cons_succ] at n9
                              have SB := Lib.hid (show ∀ w', Below W17.heap.size W17 w' → ((w'.cell? ⟨bw, ow + (i' + 1) * 4, none⟩ = some (.int .i64 x.index) ∧ w'.cell? ⟨bw, ow + (i' + 1) * 4 + 1, none⟩ = some (.string x.lo) ∧ w'.cell? ⟨bw, ow + (i' + 1) * 4 + 2, none⟩ = some (.string x.hi) ∧ w'.cell? ⟨bw, ow + (i' + 1) * 4 + 3, none⟩ = some (.int .i64 x.cost)) ∧
                                  (w'.cell? ⟨bo, oo + (k' + 1) * 4, none⟩ = some (.int .i64 y.index) ∧ w'.cell? ⟨bo, oo + (k' + 1) * 4 + 1, none⟩ = some (.string y.lo) ∧ w'.cell? ⟨bo, oo + (k' + 1) * 4 + 2, none⟩ = some (.string y.hi) ∧ w'.cell? ⟨bo, oo + (k' + 1) * 4 + 3, none⟩ = some (.int .i64 y.cost))) from fun w' hb => by
                                have kp : ∀ {b o : Nat} {v : Value}, W17.cell? ⟨b, o, none⟩ = some v → w'.cell? ⟨b, o, none⟩ = some v := fun {b o v} h => (hb.cell (p := ⟨b, o, none⟩) (World.block_lt_of_cell? W17 _ h)).trans h
                                exact ⟨⟨kp c0, kp c1, kp c2, kp c3⟩, ⟨kp d0, kp d1, kp d2, kp d3⟩⟩)
                              have HPB := Lib.hid hpl
                              clear hx hy hm hik hpl c0 c1 c2 d0 d1 d2
                              go_upto_region 27 with (fail)
                              go_quiet (fail)
                              by_cases hlt : x.cost + y.cost < m.cost + rowsOf a * Pr.cost
                              · rw [if_pos hlt] at hX
                                have HX := Lib.hid hX
                                have q1 : decide (x.cost + y.cost < m.cost + rowsOf a * Pr.cost) = true := by simpa using hlt
                                clear hX
                                go_upto_region 29 with (fail)
                                have hbq : Below W17.heap.size W17 (W17.drewN nq) := below_drewN (Below.refl _ _) _
                                refine wp_region_loose [([0, 1, 2, 3, 4, 5, 6, 7, 8, 9, 10, 11], 12)] (Below W17.heap.size W17) (by kernel_rfl) (by kernel_rfl) (by kernel_rfl) (fun w1 w2 h b => h.trans (b.mono h.size)) (Below.drew hbq) ?_
                                apply wpSegs_cons (Below W17.heap.size W17) (fun _ => SetPl W16 Bp ⟨x, y, true, x.cost + y.cost⟩) (fun _ h => h) (fun _ h => h)
                                case hq =>
                                  intro w0 hw0
                                  have ne : Nonempty (Wld (Below w0.heap.size w0)) := ⟨⟨w0, Below.refl _ _⟩⟩
                                  have yy := fun x : Wld (Below w0.heap.size w0) => SB.out _ (x.good.mono hw0.size |> hw0.trans)
                                  have y0 := fun x => (yy x).1.1
                                  have y1 := fun x => (yy x).1.2.1
                                  have y2 := fun x => (yy x).1.2.2.1
                                  have y3 := fun x => (yy x).1.2.2.2
                                  have z0 := fun x => (yy x).2.1
                                  have z1 := fun x => (yy x).2.2.1
                                  have z2 := fun x => (yy x).2.2.2.1
                                  have z3 := fun x => (yy x).2.2.2.2
                                  clear yy
                                  simp only [pickOps, List.getElem?_cons_zero, List.getElem?_cons_succ]
                                  apply quiet_hide
                                  intro KE hKE
                                  repeat (go_big_quiet_step (fail))
                                  refine wpQuiet_nil ?_
                                  exact hKE _ rfl
                                case ho => rfl
                                case hop => rfl
                                case hw => kernel_rfl
                                case hDJ => exact fun h => absurd rfl h
                                case hD =>
                                  rintro u w1 w2 ⟨h1, h2⟩ hb
                                  exact ⟨(hb.block _ (lt_of_block h1)).trans h1, h2.trans (hb.mono h2.size)⟩
                                case hlo =>
                                  intro wa ba
                                  have hz := (ba.block _ (lt_of_block HPB.out)).trans HPB.out
                                  have h4 := C17.out.trans (ba.mono C17.out.size)
                                  refine wpList_plain rfl (fun K hK => wp_store_mid 54 _ _ rfl Bp 0 #[.int .i64 x.index, .string x.lo, .string x.hi, .int .i64 x.cost, .int .i64 y.index, .string y.lo, .string y.hi, .int .i64 y.cost, .bool true, .int .i64 (x.cost + y.cost)] (by kernel_rfl) (by kernel_rfl) ?_ (by kernel_rfl) (by kernel_rfl) (hK _ _ (wpList_nil ⟨rfl, undef, rfl, ?_⟩)))
                                  · exact there_of hz (by kernel_rfl)
                                  · exact setPl_of hz h4 HBP.out ⟨x, y, true, x.cost + y.cost⟩
                                case hrest =>
                                  rintro u w2 -
                                  refine wpSegs_nil ?_
                                  intro w' h
                                  simp only [Act.put]
                                  go_wp2_with fail
                                  go_meet
                                  exact ⟨_, h.1, HX.out, h.2⟩
                              · rw [if_neg hlt] at hX
                                have HX := Lib.hid hX
                                have q1 : decide (x.cost + y.cost < m.cost + rowsOf a * Pr.cost) = false := by simpa using hlt
                                clear hX
                                go_wp2_with fail
                                go_meet
                                exact ⟨_, below_drewN_pl PL17.out _, HX.out, below_drewN C17.out _⟩
                          case rest =>
                            obtain ⟨X, hpl, hX, hb18⟩ := hcut
                            obtain ⟨W18, hWW⟩ : ∃ W18, W18 = wc := ⟨_, rfl⟩
                            rw [← hWW] at hpl hb18 ⊢
                            clear hWW
                            have HX := Lib.hid hX
                            have hz := (P16.out.below hb18).z
                            have B18 := Lib.hid (B16.out.trans (hb18.mono B16.out.size))
                            have g0 := cells_of hpl 0
                            have g1 := cells_of hpl 1
                            have g2 := cells_of hpl 2
                            have g3 := cells_of hpl 3
                            have g4 := cells_of hpl 4
                            have g5 := cells_of hpl 5
                            have g6 := cells_of hpl 6
                            have g7 := cells_of hpl 7
                            have g8 := cells_of hpl 8
                            have g9 := cells_of hpl 9
                            simp only [List.getElem?_toArray, List.getElem?_cons_zero, List.getElem?_cons_succ] at g0 g1 g2 g3 g4 g5 g6 g7 g8 g9
                            have e0 := cells_of hz 0
                            have e1 := cells_of hz 1
                            have e2 := cells_of hz 2
                            have e3 := cells_of hz 3
                            have e4 := cells_of hz 4
                            have e5 := cells_of hz 5
                            have e6 := cells_of hz 6
                            have e7 := cells_of hz 7
                            have e8 := cells_of hz 8
                            have e9 := cells_of hz 9
                            have f0 := free_of hz 0
                            have f1 := free_of hz 1
                            have f2 := free_of hz 2
                            have f3 := free_of hz 3
                            have f4 := free_of hz 4
                            have f5 := free_of hz 5
                            have f6 := free_of hz 6
                            have f7 := free_of hz 7
                            have f8 := free_of hz 8
                            have f9 := free_of hz 9
                            simp only [List.getElem?_toArray, List.getElem?_cons_zero, List.getElem?_cons_succ] at e0 e1 e2 e3 e4 e5 e6 e7 e8 e9
                            clear hz hX hpl hb18
                            go_wp2_with fail
                            refine bodyPost_ret (v := .tuple #[X.enc, .int .i64 0]) (by simp [results, Tryd.results15, go_sem, PlanV.enc, plan0, way0, noStr, e0, e1, e2, e3, e4, e5, e6, e7, e8, e9, f0, f1, f2, f3, f4, f5, f6, f7, f8, f9]) rfl ⟨by rw [HX.out]; rfl, ?_⟩
                            exact below_set10 B18.out (by omega) _ _ _ _ _ _ _ _ _ _
            · have HK := Lib.hid (planOf_name (T := T) (U := U) (a := a) (b := b) HBAD.out hbn)
              have hz := P7.out.z
              have e0 := cells_of hz 0
              have e1 := cells_of hz 1
              have e2 := cells_of hz 2
              have e3 := cells_of hz 3
              have e4 := cells_of hz 4
              have e5 := cells_of hz 5
              have e6 := cells_of hz 6
              have e7 := cells_of hz 7
              have e8 := cells_of hz 8
              have e9 := cells_of hz 9
              have f0 := free_of hz 0
              have f1 := free_of hz 1
              have f2 := free_of hz 2
              have f3 := free_of hz 3
              have f4 := free_of hz 4
              have f5 := free_of hz 5
              have f6 := free_of hz 6
              have f7 := free_of hz 7
              have f8 := free_of hz 8
              have f9 := free_of hz 9
              simp only [List.getElem?_toArray, List.getElem?_cons_zero, List.getElem?_cons_succ] at e0 e1 e2 e3 e4 e5 e6 e7 e8 e9
              clear hbn hz
              go_wp2_with fail
              refine bodyPost_ret (v := .tuple #[plan0.enc, .int .i64 50]) (by simp [results, Tryd.results15, go_sem, PlanV.enc, plan0, way0, noStr, e0, e1, e2, e3, e4, e5, e6, e7, e8, e9, f0, f1, f2, f3, f4, f5, f6, f7, f8, f9]) rfl ⟨by rw [HK.out]; rfl, ?_⟩
              exact below_set10 B7.out (by omega) _ _ _ _ _ _ _ _ _ _
    · have HK := Lib.hid (planOf_arg (T := T) (U := U) (a := a) (b := b) hbad)
      have hz := PB.out.z
      have e0 := cells_of hz 0
      have e1 := cells_of hz 1
      have e2 := cells_of hz 2
      have e3 := cells_of hz 3
      have e4 := cells_of hz 4
      have e5 := cells_of hz 5
      have e6 := cells_of hz 6
      have e7 := cells_of hz 7
      have e8 := cells_of hz 8
      have e9 := cells_of hz 9
      have f0 := free_of hz 0
      have f1 := free_of hz 1
      have f2 := free_of hz 2
      have f3 := free_of hz 3
      have f4 := free_of hz 4
      have f5 := free_of hz 5
      have f6 := free_of hz 6
      have f7 := free_of hz 7
      have f8 := free_of hz 8
      have f9 := free_of hz 9
      simp only [List.getElem?_toArray, List.getElem?_cons_zero, List.getElem?_cons_succ] at e0 e1 e2 e3 e4 e5 e6 e7 e8 e9
      clear hbad hz
      go_wp2_with fail
      refine bodyPost_ret (v := .tuple #[plan0.enc, .int .i64 1]) (by simp [results, Tryd.results15, go_sem, PlanV.enc, plan0, way0, noStr, e0, e1, e2, e3, e4, e5, e6, e7, e8, e9, f0, f1, f2, f3, f4, f5, f6, f7, f8, f9]) rfl ⟨by rw [HK.out]; rfl, ?_⟩
      exact below_set10 B1.out (by omega) _ _ _ _ _ _ _ _ _ _
end Go.Proofs.YtajlngkakpjncaaDoor
