/- Data made by composite literals: what a new block holds, as a row of data. vintnerlaw19.rest and vintnerlaw19.sanity. -/
import Derived.Test.YtajlngkakpjncaaDoorZP30
import Derived.Test.YtajlngkakpjncaaDoorZP1
import Derived.Test.YtajlngkakpjncaaDoorZP5
namespace Go.Proofs.YtajlngkakpjncaaDoor
set_option linter.unusedVariables false
set_option linter.unusedSimpArgs false
open Go.RowKit

theorem flat_get {α : Type} {sz : Nat} {enc : α → List Value} (hl : ∀ x, (enc x).length = sz) : ∀ (L : List α) (t : Nat) (ht : t < L.length) (j : Nat), j < sz → (L.flatMap enc)[t * sz + j]? = (enc L[t])[j]?
  | [], t, ht, _, _ => by cases ht
  | x :: L, 0, _, j, hj => by
    rw [List.flatMap_cons, Nat.zero_mul, Nat.zero_add, List.getElem?_append_left (by rw [hl]; exact hj)]
    rfl
  | x :: L, t + 1, ht, j, hj => by
    rw [List.flatMap_cons, List.getElem?_append_right (by rw [hl, Nat.add_mul]; omega), hl, show (t + 1) * sz + j - sz = t * sz + j by rw [Nat.add_mul]; omega]
    exact flat_get hl L t (by simpa using ht) j hj
/-- a new block, as a row -/
theorem row_block {α : Type} {sz : Nat} {enc : α → List Value} {hl : ∀ x, (enc x).length = sz} {p : Nat → Prop} {w : World} {b : Nat} {c : Array Value} {T : TypeId} {L : List α} (hb : w.heap[b]? = some (.cells c T (0, 0))) (hp : p b) (hc : c.toList = L.flatMap enc) : RowAt (flatR sz enc hl) p w (some ⟨b, 0, none⟩) L :=
  Or.inr ⟨b, 0, rfl, hp, lt_of_block hb, fun t ht => ⟨enc L[t], fun j hj => by
    rw [← flat_get hl L t ht j hj, cells_of hb, ← hc, Array.getElem?_toList, Nat.zero_add]; rfl, rfl⟩⟩
theorem sl_block {α : Type} {sz : Nat} {enc : α → List Value} {hl : ∀ x, (enc x).length = sz} {p : Nat → Prop} {w : World} {b n : Nat} {c : Array Value} {T : TypeId} (L : List α) (hb : w.heap[b]? = some (.cells c T (0, 0))) (hp : p b) (hc : c.toList = L.flatMap enc) (hn : n = L.length) (hs : L.length ≤ 140737488355328) : SlV (flatR sz enc hl) p w (.slice (some ⟨b, 0, none⟩) n n) L := by
  subst hn
  exact ⟨_, _, rfl, Nat.le_refl _, hs, row_block hb hp hc⟩
theorem int_block {p : Nat → Prop} {w : World} {b n : Nat} {c : Array Value} {T : TypeId} (L : List Int) (hb : w.heap[b]? = some (.cells c T (0, 0))) (hp : p b) (hc : c.toList = L.map fun x => .int .i64 x) (hn : n = L.length) (hs : L.length ≤ 140737488355328) : SlV intR p w (.slice (some ⟨b, 0, none⟩) n n) L := by
  subst hn
  refine ⟨_, _, rfl, Nat.le_refl _, hs, Or.inr ⟨b, 0, rfl, hp, lt_of_block hb, fun t ht => ⟨[.int .i64 L[t]], fun j hj => ?_, rfl⟩⟩⟩
  have hj0 : j = 0 := by simp [intR] at hj; exact hj
  subst hj0
  rw [cells_of hb, ← Array.getElem?_toList, hc]
  simp [intR, ht]
theorem ix_block {p : Nat → Prop} {w : World} {b : Nat} {c : Array Value} {T : TypeId} {x : Ix} {sl : Value} (hb : w.heap[b]? = some (.cells c T (0, 0))) (hp : p b) (hx : SlV intR p w sl x.cols) (hc : c.toList = [.string x.name, sl, .int .i64 x.root]) : SlV ixR p w (.slice (some ⟨b, 0, none⟩) 1 1) [x] := by
  obtain ⟨a, cap, rfl, h1, h2, h3⟩ := hx
  refine ⟨_, _, rfl, Nat.le_refl _, by simp, Or.inr ⟨b, 0, rfl, hp, lt_of_block hb, fun t ht => ⟨[.string x.name, .slice a x.cols.length cap, .int .i64 x.root], fun j hj => ?_, ?_⟩⟩⟩
  · have ht0 : t = 0 := by simpa using ht
    subst ht0
    rw [cells_of hb, ← Array.getElem?_toList, hc]
    simp
  · have ht0 : t = 0 := by simpa using ht
    subst ht0
    exact ⟨a, cap, rfl, h1, h2, h3⟩
theorem sl_nil {α : Type} {R : Rep α} {p : Nat → Prop} {w : World} : SlV R p w (.slice none 0 0) [] := ⟨none, 0, rfl, Nat.le_refl _, by simp, RowAt.nil⟩
theorem tabV_of {p : Nat → Prop} {w : World} {T : Tab} {c i : Value} (hc : SlV colR p w c T.cols) (hi : SlV ixR p w i T.idx) : TabV p w (.agg #[.int .i64 T.id, .string T.name, c, i]) T := by
  obtain ⟨a, cap, rfl, h1⟩ := hc
  obtain ⟨a', cap', rfl, h2⟩ := hi
  exact ⟨a, cap, a', cap', rfl, ⟨a, cap, rfl, h1⟩, ⟨a', cap', rfl, h2⟩⟩
theorem staV_of {p : Nat → Prop} {w : World} {S : Sta} {v : Value} (hv : SlV intR p w v S.vals) : StaV p w (.agg #[.int .i64 S.rows, v]) S := by
  obtain ⟨a, cap, rfl, h1⟩ := hv
  exact ⟨a, cap, rfl, ⟨a, cap, rfl, h1⟩⟩
def tab0 : Tab := ⟨0, noStr, [], []⟩
def sta0 : Sta := ⟨0, []⟩
theorem tabV_zero {p : Nat → Prop} {w : World} : TabV p w (.agg #[.int .i64 0, .string ⟨#[]⟩, .slice none 0 0, .slice none 0 0]) tab0 := ⟨none, 0, none, 0, rfl, sl_nil, sl_nil⟩
theorem staV_zero {p : Nat → Prop} {w : World} : StaV p w (.agg #[.int .i64 0, .slice none 0 0]) sta0 := ⟨none, 0, rfl, sl_nil⟩
/-- a statement: the lists that a law gives -/
theorem stmtV_of {p : Nat → Prop} {w : World} {s : Stmt} {n7 n12 w4 : Value} (h3 : s.cols = []) (h5 : s.row = []) (h6 : s.sets = []) (hn : SlV strF p w w4 s.names) (hn0 : ∀ n c, w4 = .slice none n c → c = 0) (ho : SlV strF p w n12 s.order) (ho0 : ∀ n c, n12 = .slice none n c → c = 0) (hw : SlV condR p w n7 s.wher) :
    StmtV p w (.agg #[.int .i64 s.kind, .string s.table, .string s.name, .slice none 0 0, w4, .slice none 0 0, .slice none 0 0, n7, .string s.join, .string s.left, .string s.right, .int .i64 s.agg, n12, .int .i64 s.mode, .int .i64 s.n]) s := by
  obtain ⟨a, cap, rfl, h7⟩ := hn
  obtain ⟨a', cap', rfl, h8⟩ := ho
  obtain ⟨a'', cap'', rfl, h9⟩ := hw
  obtain ⟨k, tb, nm, cols, names, row, sets, wh, jn, lf, rt, ag, od, md, n⟩ := s
  simp only at h3 h5 h6
  subst h3 h5 h6
  exact ⟨none, 0, a, cap, none, 0, none, 0, a'', cap'', a', cap', rfl, sl_nil, ⟨a, cap, rfl, h7⟩, fun e => by subst e; exact hn0 _ _ rfl, sl_nil, sl_nil, ⟨a'', cap'', rfl, h9⟩, ⟨a', cap', rfl, h8⟩, fun e => by subst e; exact ho0 _ _ rfl⟩
end Go.Proofs.YtajlngkakpjncaaDoor

namespace Go.Proofs.YtajlngkakpjncaaDoor
set_option linter.unusedVariables false
set_option linter.unusedSimpArgs false
open Go.RowKit

def restOf (x n : Int) : Int := x % n
theorem rest_eq (x n : Int) (hn : 0 < n) (hn2 : n ≤ 1000000000) : Ending.returned (.int .i64 ((wrap64 (x.tmod n + n)).tmod n)) = Ending.returned (.int .i64 (restOf x n)) := by
  have h1 : (x.tmod n).natAbs < n.natAbs := by rw [Int.natAbs_tmod]; exact Nat.mod_lt _ (by omega)
  have h2 : wrap64 (x.tmod n + n) = x.tmod n + n := by
    have := IntKind.wrap_i64 (x.tmod n + n)
    simp only [wrap64]
    omega
  rw [h2, Int.tmod_eq_emod_of_nonneg (by omega), Int.add_emod_right]
  unfold restOf
  rw [Int.tmod_eq_emod]
  split
  · simp
  · rw [show ((n.natAbs : Nat) : Int) = n by omega]; simp
set_option maxHeartbeats 4000000 in
theorem rest_any (x n : Int) (hn : 0 < n) (hn2 : n ≤ 1000000000) (w : World) :
    Calls Tryd.prog 13 #[.int .i64 x, .int .i64 n] w fun e w' => e = .returned (.int .i64 (restOf x n)) ∧ w' = w := by
  go_enter Tryd.func13, Tryd.ntmps13
  go_wp2_with fail
  go_ret
  exact ⟨rest_eq x n hn hn2, rfl⟩

def colA : ByteArray := ⟨#[97]⟩
def colB : ByteArray := ⟨#[98]⟩
def tabS : Tab := ⟨0, noStr, [(colA, 1), (colB, 2)], [⟨⟨#[105]⟩, [0, 1], 0⟩]⟩
def staS : Sta := ⟨100, [10, 5]⟩
def condX : Cond := ⟨colA, 1, ⟨1, 1, noStr⟩⟩
def condY : Cond := ⟨colB, 1, ⟨2, 0, ⟨#[120]⟩⟩⟩
def condZ : Cond := ⟨colA, 5, ⟨1, 3, noStr⟩⟩
def sanC (i : Nat) : List Cond := [[condX], [condX, condY], [condZ], [condY]].getD i []
def sanN (i : Nat) : Int := [23, 7, 71, 203].getD i 0
theorem san_ways : ∀ i, i < 4 → ∃ x y, waysOf tabS staS (sanC i) = [x, y] ∧ x.cost = 101 ∧ y.cost = sanN i
  | 0, _ => ⟨_, _, rfl, by kernel_rfl, by kernel_rfl⟩
  | 1, _ => ⟨_, _, rfl, by kernel_rfl, by kernel_rfl⟩
  | 2, _ => ⟨_, _, rfl, by kernel_rfl, by kernel_rfl⟩
  | 3, _ => ⟨_, _, rfl, by kernel_rfl, by kernel_rfl⟩

theorem san_fine : ∀ i, i < 4 → ∀ c ∈ sanC i, c.val.fine
  | 0, _ => by intro c hc; simp [sanC] at hc; subst hc; exact ⟨by decide, by decide⟩
  | 1, _ => by intro c hc; simp [sanC] at hc; rcases hc with rfl | rfl; · exact ⟨by decide, by decide⟩
               exact ⟨by decide, by decide⟩
  | 2, _ => by intro c hc; simp [sanC] at hc; subst hc; exact ⟨by decide, by decide⟩
  | 3, _ => by intro c hc; simp [sanC] at hc; subst hc; exact ⟨by decide, by decide⟩
def NewAll (B : Nat) (u : Value) (w' : World) : Prop := ∃ b, u = .pointer (some ⟨b, 0, none⟩) ∧ B ≤ b ∧ w'.heap[b]? = some (.cells #[.slice none 0 0, .slice none 0 0, .slice none 0 0, .slice none 0 0] 79 (0, 0))
def stmtS : Stmt := { stmt0 with kind := 6, wher := [condX] }
theorem san_plan : ∃ p, planOf tabS tab0 staS sta0 stmtS = (p, 0) ∧ p.way.index = 0 ∧ p.cost = 23 := ⟨(planOf tabS tab0 staS sta0 stmtS).1, Prod.ext rfl (by kernel_rfl), by kernel_rfl, by kernel_rfl⟩
theorem san_at {w : World} {i : Nat} {s : Option Addr} {c : Nat} (h : SlV wayR (fun _ => True) w (.slice s 2 c) (waysOf tabS staS (sanC i))) (hi : i < 4) : ∃ b o, s = some ⟨b, o, none⟩ ∧ w.cell? ⟨b, o + 3, none⟩ = some (.int .i64 101) ∧ w.cell? ⟨b, o + 4 + 3, none⟩ = some (.int .i64 (sanN i)) := by
  obtain ⟨x, y, e, hx, hy⟩ := san_ways i hi
  rw [e] at h
  obtain ⟨_, _, _, hr⟩ := h.row
  obtain ⟨b, o, rfl, _⟩ := hr.addr (by simp)
  have h0 := (hr.way 0 (by simp)).2.2.2
  have h1 := (hr.way 1 (by simp)).2.2.2
  simp only [List.getElem_cons_zero, List.getElem_cons_succ, hx, hy, Nat.zero_mul, Nat.one_mul, Nat.add_zero] at h0 h1
  exact ⟨b, o, rfl, h0, h1⟩
theorem cells2 {w : World} {b : Nat} {v0 v1 : Value} {T : TypeId} (h : w.heap[b]? = some (.cells #[v0, v1] T (0, 0))) : w.cell? ⟨b, 0, none⟩ = some v0 ∧ w.cell? ⟨b, 1, none⟩ = some v1 := ⟨cells_of h 0, cells_of h 1⟩
theorem cells4 {w : World} {b : Nat} {v0 v1 v2 v3 : Value} {T : TypeId} (h : w.heap[b]? = some (.cells #[v0, v1, v2, v3] T (0, 0))) : w.cell? ⟨b, 0, none⟩ = some v0 ∧ w.cell? ⟨b, 1, none⟩ = some v1 ∧ w.cell? ⟨b, 2, none⟩ = some v2 ∧ w.cell? ⟨b, 3, none⟩ = some v3 := ⟨cells_of h 0, cells_of h 1, cells_of h 2, cells_of h 3⟩
theorem cells5 {w : World} {b : Nat} {v0 v1 v2 v3 v4 : Value} {T : TypeId} (h : w.heap[b]? = some (.cells #[v0, v1, v2, v3, v4] T (0, 0))) : w.cell? ⟨b, 0, none⟩ = some v0 ∧ w.cell? ⟨b, 1, none⟩ = some v1 ∧ w.cell? ⟨b, 2, none⟩ = some v2 ∧ w.cell? ⟨b, 3, none⟩ = some v3 ∧ w.cell? ⟨b, 4, none⟩ = some v4 := ⟨cells_of h 0, cells_of h 1, cells_of h 2, cells_of h 3, cells_of h 4⟩
theorem SlV.shape' {α : Type} {R : Rep α} {p : Nat → Prop} {w : World} {v : Value} {L : List α} (h : SlV R p w v L) : ∃ a cap, v = .slice a L.length cap ∧ SlV R p w (.slice a L.length cap) L := by
  obtain ⟨a, cap, h0, h1⟩ := h
  exact ⟨a, cap, h0, a, cap, rfl, h1⟩

theorem san_one {w1 W2 : World} {b i c : Nat} {a : Option Addr} (hk : w1.heap[b]? = some (.cells #[.slice none 0 0, .slice none 0 0, .slice none 0 0, .slice none 0 0] 79 (0, 0))) (hold : ∀ k, k < w1.heap.size → k ≠ b → W2.heap[k]? = w1.heap[k]?)
    (h : SlV wayR (fun _ => True) w1 (.slice a 2 c) (waysOf tabS staS (sanC i))) (hi : i < 4) : ∃ s o, a = some ⟨s, o, none⟩ ∧ W2.cell? ⟨s, o + 3, none⟩ = some (.int .i64 101) ∧ W2.cell? ⟨s, o + 4 + 3, none⟩ = some (.int .i64 (sanN i)) := by
  obtain ⟨s, o, rfl, h1, h2⟩ := san_at h hi
  have hne : s ≠ b := by
    rintro rfl
    rw [cells_of hk] at h1
    have : ∀ j : Nat, (#[Value.slice none 0 0, .slice none 0 0, .slice none 0 0, .slice none 0 0] : Array Value)[j]? ≠ some (.int .i64 101) := fun j => by
      rcases j with _ | _ | _ | _ | j <;> simp
    exact this _ h1
  have e := hold s (World.block_lt_of_cell? w1 _ h1) hne
  exact ⟨s, o, rfl, (World.cell?_of_block e).trans h1, (World.cell?_of_block e).trans h2⟩
def SanAt (b cb : Nat) (w' : World) : Prop := ∀ k, k < 4 → ∃ s o c, w'.cell? ⟨b, k, none⟩ = some (.slice (some ⟨s, o, none⟩) 2 c) ∧ w'.cell? ⟨s, o + 3, none⟩ = some (.int .i64 101) ∧ w'.cell? ⟨s, o + 4 + 3, none⟩ = some (.int .i64 (sanN k)) ∧ w'.cell? ⟨cb, k, none⟩ = some (.int .i64 (sanN k))
theorem SanAt.below {b cb : Nat} {w w' : World} (h : SanAt b cb w) (hb : Below w.heap.size w w') : SanAt b cb w' := fun k hk => by
  obtain ⟨s, o, c, h1, h2, h3, h4⟩ := h k hk
  have kp : ∀ {b o : Nat} {v : Value}, w.cell? ⟨b, o, none⟩ = some v → w'.cell? ⟨b, o, none⟩ = some v := fun {b o v} h => (hb.cell (p := ⟨b, o, none⟩) (World.block_lt_of_cell? w _ h)).trans h
  exact ⟨s, o, c, kp h1, kp h2, kp h3, kp h4⟩
theorem san_all {w1 W2 : World} {b cb c0 c1 c2 c3 : Nat} {a0 a1 a2 a3 : Option Addr} (hk : w1.heap[b]? = some (.cells #[.slice none 0 0, .slice none 0 0, .slice none 0 0, .slice none 0 0] 79 (0, 0))) (hold : ∀ k, k < w1.heap.size → k ≠ b → W2.heap[k]? = w1.heap[k]?)
    (hk2 : W2.heap[b]? = some (.cells #[.slice a0 2 c0, .slice a1 2 c1, .slice a2 2 c2, .slice a3 2 c3] 79 (0, 0))) (hk3 : W2.heap[cb]? = some (.cells #[.int .i64 23, .int .i64 7, .int .i64 71, .int .i64 203] 80 (0, 0)))
    (s0 : SlV wayR (fun _ => True) w1 (.slice a0 2 c0) (waysOf tabS staS (sanC 0))) (s1 : SlV wayR (fun _ => True) w1 (.slice a1 2 c1) (waysOf tabS staS (sanC 1))) (s2 : SlV wayR (fun _ => True) w1 (.slice a2 2 c2) (waysOf tabS staS (sanC 2))) (s3 : SlV wayR (fun _ => True) w1 (.slice a3 2 c3) (waysOf tabS staS (sanC 3))) : SanAt b cb W2 := by
  obtain ⟨x0, y0, rfl, p0, q0⟩ := san_one hk hold s0 (by decide)
  obtain ⟨x1, y1, rfl, p1, q1⟩ := san_one hk hold s1 (by decide)
  obtain ⟨x2, y2, rfl, p2, q2⟩ := san_one hk hold s2 (by decide)
  obtain ⟨x3, y3, rfl, p3, q3⟩ := san_one hk hold s3 (by decide)
  intro k hk4
  match k, hk4 with
  | 0, _ => exact ⟨x0, y0, c0, cells_of hk2 0, p0, q0, cells_of hk3 0⟩
  | 1, _ => exact ⟨x1, y1, c1, cells_of hk2 1, p1, q1, cells_of hk3 1⟩
  | 2, _ => exact ⟨x2, y2, c2, cells_of hk2 2, p2, q2, cells_of hk3 2⟩
  | 3, _ => exact ⟨x3, y3, c3, cells_of hk2 3, p3, q3, cells_of hk3 3⟩

set_option maxRecDepth 100000 in
set_option maxHeartbeats 16000000 in
theorem sanity_any {w : World} (he : Env w) : Calls Tryd.prog 10 #[] w fun e w' => e = .returned (.bool true) ∧ Below w.heap.size w w' := by
  go_enter Tryd.func10, Tryd.ntmps10
  go_upto_region 6 with (fail)
  generalize hW : World.alloc _ _ = W
  have hA : allocs w [_, _, _, _, _, _, _, _, _] = W := hW
  have b0 := allocs_get hA 0 rfl
  have b1 : W.heap[w.heap.size + 1]? = some _ := allocs_get hA 1 rfl
  have b2 : W.heap[w.heap.size + 1 + 1]? = some _ := allocs_get hA 2 rfl
  have b3 : W.heap[w.heap.size + 1 + 1 + 1]? = some _ := allocs_get hA 3 rfl
  have b4 : W.heap[w.heap.size + 1 + 1 + 1 + 1]? = some _ := allocs_get hA 4 rfl
  have b5 : W.heap[w.heap.size + 1 + 1 + 1 + 1 + 1]? = some _ := allocs_get hA 5 rfl
  have b6 : W.heap[w.heap.size + 1 + 1 + 1 + 1 + 1 + 1]? = some _ := allocs_get hA 6 rfl
  have b7 : W.heap[w.heap.size + 1 + 1 + 1 + 1 + 1 + 1 + 1]? = some _ := allocs_get hA 7 rfl
  have b8 : W.heap[w.heap.size + 1 + 1 + 1 + 1 + 1 + 1 + 1 + 1]? = some _ := allocs_get hA 8 rfl
  have hb := allocs_self hA
  have hT : TabV (fun _ => True) W (.agg #[.int .i64 0, .string ⟨#[]⟩, .slice (some ⟨w.heap.size, 0, none⟩) 2 2, .slice (some ⟨w.heap.size + 1 + 1, 0, none⟩) 1 1]) tabS :=
    tabV_of (T := tabS) (sl_block tabS.cols b0 trivial rfl rfl (by decide)) (ix_block (x := ⟨⟨#[105]⟩, [0, 1], 0⟩) b2 trivial (int_block [0, 1] b1 trivial rfl rfl (by decide)) rfl)
  have hS : StaV (fun _ => True) W (.agg #[.int .i64 100, .slice (some ⟨w.heap.size + 1 + 1 + 1 + 1, 0, none⟩) 2 2]) staS := staV_of (S := staS) (int_block [10, 5] b4 trivial rfl rfl (by decide))
  have TB := Lib.hid (fun (w' : World) (h : Below W.heap.size W w') => cells4 ((h.block _ (lt_of_block b3)).trans b3))
  have SB := Lib.hid (fun (w' : World) (h : Below W.heap.size W w') => cells2 ((h.block _ (lt_of_block b5)).trans b5))
  have XB := Lib.hid (fun (w' : World) (h : Below W.heap.size W w') => cells5 ((h.block _ (lt_of_block b6)).trans b6))
  have YB := Lib.hid (fun (w' : World) (h : Below W.heap.size W w') => cells5 ((h.block _ (lt_of_block b7)).trans b7))
  have ZB := Lib.hid (fun (w' : World) (h : Below W.heap.size W w') => cells5 ((h.block _ (lt_of_block b8)).trans b8))
  have HTV := Lib.hid hT
  have HSV := Lib.hid hS
  have HEV := Lib.hid (he.below hb)
  have HB := Lib.hid hb
  clear hA hW b0 b1 b2 b3 b4 b5 b6 b7 b8 hb hT hS he
  apply wp_region_grow [26, 27, 28, 29, 30, 31, 32, 33, 34, 35, 36, 37, 38, 39, 40, 41, 42, 43, 44, 45, 46, 47, 6]
    [fun _ u _ => u = .agg #[.int .i64 0, .string ⟨#[]⟩, .slice (some ⟨w.heap.size, 0, none⟩) 2 2, .slice (some ⟨w.heap.size + 1 + 1, 0, none⟩) 1 1],
          fun _ u _ => u = .agg #[.int .i64 100, .slice (some ⟨w.heap.size + 1 + 1 + 1 + 1, 0, none⟩) 2 2],
          fun _ u _ => u = .agg #[.string ⟨#[97]⟩, .int .i64 1, .int .i64 1, .int .i64 1, .string ⟨#[]⟩],
          fun _ u w' => SlV condR (fun _ => True) w' u (sanC 0),
          fun _ u w' => SlV wayR (fun _ => True) w' u (waysOf tabS staS (sanC 0)),
          fun _ u _ => u = .agg #[.int .i64 0, .string ⟨#[]⟩, .slice (some ⟨w.heap.size, 0, none⟩) 2 2, .slice (some ⟨w.heap.size + 1 + 1, 0, none⟩) 1 1],
          fun _ u _ => u = .agg #[.int .i64 100, .slice (some ⟨w.heap.size + 1 + 1 + 1 + 1, 0, none⟩) 2 2],
          fun _ u _ => u = .agg #[.string ⟨#[97]⟩, .int .i64 1, .int .i64 1, .int .i64 1, .string ⟨#[]⟩],
          fun _ u _ => u = .agg #[.string ⟨#[98]⟩, .int .i64 1, .int .i64 2, .int .i64 0, .string ⟨#[120]⟩],
          fun _ u w' => SlV condR (fun _ => True) w' u (sanC 1),
          fun _ u w' => SlV wayR (fun _ => True) w' u (waysOf tabS staS (sanC 1)),
          fun _ u _ => u = .agg #[.int .i64 0, .string ⟨#[]⟩, .slice (some ⟨w.heap.size, 0, none⟩) 2 2, .slice (some ⟨w.heap.size + 1 + 1, 0, none⟩) 1 1],
          fun _ u _ => u = .agg #[.int .i64 100, .slice (some ⟨w.heap.size + 1 + 1 + 1 + 1, 0, none⟩) 2 2],
          fun _ u _ => u = .agg #[.string ⟨#[97]⟩, .int .i64 5, .int .i64 1, .int .i64 3, .string ⟨#[]⟩],
          fun _ u w' => SlV condR (fun _ => True) w' u (sanC 2),
          fun _ u w' => SlV wayR (fun _ => True) w' u (waysOf tabS staS (sanC 2)),
          fun _ u _ => u = .agg #[.int .i64 0, .string ⟨#[]⟩, .slice (some ⟨w.heap.size, 0, none⟩) 2 2, .slice (some ⟨w.heap.size + 1 + 1, 0, none⟩) 1 1],
          fun _ u _ => u = .agg #[.int .i64 100, .slice (some ⟨w.heap.size + 1 + 1 + 1 + 1, 0, none⟩) 2 2],
          fun _ u _ => u = .agg #[.string ⟨#[98]⟩, .int .i64 1, .int .i64 2, .int .i64 0, .string ⟨#[120]⟩],
          fun _ u w' => SlV condR (fun _ => True) w' u (sanC 3),
          fun _ u w' => SlV wayR (fun _ => True) w' u (waysOf tabS staS (sanC 3)),
          fun _ u w' => ∃ a0 c0 a1 c1 a2 c2 a3 c3, u = .agg #[.slice a0 2 c0, .slice a1 2 c1, .slice a2 2 c2, .slice a3 2 c3] ∧ SlV wayR (fun _ => True) w' (.slice a0 2 c0) (waysOf tabS staS (sanC 0)) ∧ SlV wayR (fun _ => True) w' (.slice a1 2 c1) (waysOf tabS staS (sanC 1)) ∧ SlV wayR (fun _ => True) w' (.slice a2 2 c2) (waysOf tabS staS (sanC 2)) ∧ SlV wayR (fun _ => True) w' (.slice a3 2 c3) (waysOf tabS staS (sanC 3)),
          fun _ u w' => NewAll W.heap.size u w']
    (Below W.heap.size W)
  case hF =>
    intro v
    simp only [setAll, List.foldl_cons, List.foldl_nil, Act.put, List.setIfInBounds_toArray, List.set_cons_succ, List.set_cons_zero]
    exact rfl
  case hm => kernel_rfl
  case hB => kernel_rfl
  case hsz => kernel_rfl
  case hC => exact fun w1 w2 h b => h.trans (b.mono h.size)
  case hw => exact Below.drew (Below.refl _ _)
  case hS =>
    intro D hD
    simp only [List.mem_cons, List.not_mem_nil, or_false] at hD
    rcases hD with rfl | rfl | rfl | rfl | rfl | rfl | rfl | rfl | rfl | rfl | rfl | rfl | rfl | rfl | rfl | rfl | rfl | rfl | rfl | rfl | rfl | rfl | rfl
    · exact fun v u w1 w2 h _ => h
    · exact fun v u w1 w2 h _ => h
    · exact fun v u w1 w2 h _ => h
    · exact fun v u w1 w2 h hb => h.below hb
    · exact fun v u w1 w2 h hb => h.below hb
    · exact fun v u w1 w2 h _ => h
    · exact fun v u w1 w2 h _ => h
    · exact fun v u w1 w2 h _ => h
    · exact fun v u w1 w2 h _ => h
    · exact fun v u w1 w2 h hb => h.below hb
    · exact fun v u w1 w2 h hb => h.below hb
    · exact fun v u w1 w2 h _ => h
    · exact fun v u w1 w2 h _ => h
    · exact fun v u w1 w2 h _ => h
    · exact fun v u w1 w2 h hb => h.below hb
    · exact fun v u w1 w2 h hb => h.below hb
    · exact fun v u w1 w2 h _ => h
    · exact fun v u w1 w2 h _ => h
    · exact fun v u w1 w2 h _ => h
    · exact fun v u w1 w2 h hb => h.below hb
    · exact fun v u w1 w2 h hb => h.below hb
    · exact fun v u w1 w2 h hb => by obtain ⟨a0, c0, a1, c1, a2, c2, a3, c3, h0, h1, h2, h3, h4⟩ := h; exact ⟨a0, c0, a1, c1, a2, c2, a3, c3, h0, h1.below hb, h2.below hb, h3.below hb, h4.below hb⟩
    · exact fun v u w1 w2 h hb => by obtain ⟨b, h1, h2, h3⟩ := h; exact ⟨b, h1, h2, (hb.block _ (lt_of_block h3)).trans h3⟩
  case hob =>
    refine grow_cons ?_ ?_
    · intro v w1 h1 hd
      clear hd
      obtain ⟨c0, c1, c2, c3⟩ := TB.out w1 h1
      go_wp2_with fail
      exact Below.refl _ _
    refine grow_cons ?_ ?_
    · intro v w1 h1 hd
      clear hd
      obtain ⟨c0, c1⟩ := SB.out w1 h1
      go_wp2_with fail
      exact Below.refl _ _
    refine grow_cons ?_ ?_
    · intro v w1 h1 hd
      clear hd
      obtain ⟨c0, c1, c2, c3, c4⟩ := XB.out w1 h1
      go_wp2_with fail
      exact Below.refl _ _
    refine grow_cons ?_ ?_
    · intro v w1 h1 hd
      have g28 : v 28 = .agg #[.string ⟨#[97]⟩, .int .i64 1, .int .i64 1, .int .i64 1, .string ⟨#[]⟩] := hd 2 _ _ _ rfl rfl rfl rfl
      clear hd
      rw [g28]
      go_wp2_with fail
      exact ⟨(Below.refl _ _).alloc (Nat.le_refl _) _, sl_block (sanC 0) (heap_alloc_new _ _) trivial rfl rfl (by decide)⟩
    refine grow_cons ?_ ?_
    · intro v w1 h1 hd
      have g1 : v 26 = .agg #[.int .i64 0, .string ⟨#[]⟩, .slice (some ⟨w.heap.size, 0, none⟩) 2 2, .slice (some ⟨w.heap.size + 1 + 1, 0, none⟩) 1 1] := hd 0 _ _ _ rfl rfl rfl rfl
      have g2 : v 27 = .agg #[.int .i64 100, .slice (some ⟨w.heap.size + 1 + 1 + 1 + 1, 0, none⟩) 2 2] := hd 1 _ _ _ rfl rfl rfl rfl
      have g3 : SlV condR (fun _ => True) w1 (v 29) (sanC 0) := hd 3 _ _ _ rfl rfl rfl rfl
      clear hd
      obtain ⟨ac, cc, g4, g5⟩ := g3.shape'
      rw [g1, g2, g4]
      have HT := Lib.hid (HTV.out.below h1)
      have HS := Lib.hid (HSV.out.below h1)
      have HE := Lib.hid (HEV.out.below h1)
      clear g1 g2 g3 g4
      have G5 := Lib.hid g5
      clear g5
      go_wp2_with fail
      refine (ways_any HT.out HS.out G5.out (san_fine 0 (by decide)) HE.out (by decide)).mono ?_
      rintro e w2 ⟨⟨a, cap, rfl, h2⟩, h3⟩
      go_wp2_with fail
      first | exact h2.weaken fun _ _ => trivial | exact ⟨h3, h2.weaken fun _ _ => trivial⟩
    refine grow_cons ?_ ?_
    · intro v w1 h1 hd
      clear hd
      obtain ⟨c0, c1, c2, c3⟩ := TB.out w1 h1
      go_wp2_with fail
      exact Below.refl _ _
    refine grow_cons ?_ ?_
    · intro v w1 h1 hd
      clear hd
      obtain ⟨c0, c1⟩ := SB.out w1 h1
      go_wp2_with fail
      exact Below.refl _ _
    refine grow_cons ?_ ?_
    · intro v w1 h1 hd
      clear hd
      obtain ⟨c0, c1, c2, c3, c4⟩ := XB.out w1 h1
      go_wp2_with fail
      exact Below.refl _ _
    refine grow_cons ?_ ?_
    · intro v w1 h1 hd
      clear hd
      obtain ⟨c0, c1, c2, c3, c4⟩ := YB.out w1 h1
      go_wp2_with fail
      exact Below.refl _ _
    refine grow_cons ?_ ?_
    · intro v w1 h1 hd
      have g33 : v 33 = .agg #[.string ⟨#[97]⟩, .int .i64 1, .int .i64 1, .int .i64 1, .string ⟨#[]⟩] := hd 7 _ _ _ rfl rfl rfl rfl
      have g34 : v 34 = .agg #[.string ⟨#[98]⟩, .int .i64 1, .int .i64 2, .int .i64 0, .string ⟨#[120]⟩] := hd 8 _ _ _ rfl rfl rfl rfl
      clear hd
      rw [g33, g34]
      go_wp2_with fail
      exact ⟨(Below.refl _ _).alloc (Nat.le_refl _) _, sl_block (sanC 1) (heap_alloc_new _ _) trivial rfl rfl (by decide)⟩
    refine grow_cons ?_ ?_
    · intro v w1 h1 hd
      have g1 : v 31 = .agg #[.int .i64 0, .string ⟨#[]⟩, .slice (some ⟨w.heap.size, 0, none⟩) 2 2, .slice (some ⟨w.heap.size + 1 + 1, 0, none⟩) 1 1] := hd 5 _ _ _ rfl rfl rfl rfl
      have g2 : v 32 = .agg #[.int .i64 100, .slice (some ⟨w.heap.size + 1 + 1 + 1 + 1, 0, none⟩) 2 2] := hd 6 _ _ _ rfl rfl rfl rfl
      have g3 : SlV condR (fun _ => True) w1 (v 35) (sanC 1) := hd 9 _ _ _ rfl rfl rfl rfl
      clear hd
      obtain ⟨ac, cc, g4, g5⟩ := g3.shape'
      rw [g1, g2, g4]
      have HT := Lib.hid (HTV.out.below h1)
      have HS := Lib.hid (HSV.out.below h1)
      have HE := Lib.hid (HEV.out.below h1)
      clear g1 g2 g3 g4
      have G5 := Lib.hid g5
      clear g5
      go_wp2_with fail
      refine (ways_any HT.out HS.out G5.out (san_fine 1 (by decide)) HE.out (by decide)).mono ?_
      rintro e w2 ⟨⟨a, cap, rfl, h2⟩, h3⟩
      go_wp2_with fail
      first | exact h2.weaken fun _ _ => trivial | exact ⟨h3, h2.weaken fun _ _ => trivial⟩
    refine grow_cons ?_ ?_
    · intro v w1 h1 hd
      clear hd
      obtain ⟨c0, c1, c2, c3⟩ := TB.out w1 h1
      go_wp2_with fail
      exact Below.refl _ _
    refine grow_cons ?_ ?_
    · intro v w1 h1 hd
      clear hd
      obtain ⟨c0, c1⟩ := SB.out w1 h1
      go_wp2_with fail
      exact Below.refl _ _
    refine grow_cons ?_ ?_
    · intro v w1 h1 hd
      clear hd
      obtain ⟨c0, c1, c2, c3, c4⟩ := ZB.out w1 h1
      go_wp2_with fail
      exact Below.refl _ _
    refine grow_cons ?_ ?_
    · intro v w1 h1 hd
      have g39 : v 39 = .agg #[.string ⟨#[97]⟩, .int .i64 5, .int .i64 1, .int .i64 3, .string ⟨#[]⟩] := hd 13 _ _ _ rfl rfl rfl rfl
      clear hd
      rw [g39]
      go_wp2_with fail
      exact ⟨(Below.refl _ _).alloc (Nat.le_refl _) _, sl_block (sanC 2) (heap_alloc_new _ _) trivial rfl rfl (by decide)⟩
    refine grow_cons ?_ ?_
    · intro v w1 h1 hd
      have g1 : v 37 = .agg #[.int .i64 0, .string ⟨#[]⟩, .slice (some ⟨w.heap.size, 0, none⟩) 2 2, .slice (some ⟨w.heap.size + 1 + 1, 0, none⟩) 1 1] := hd 11 _ _ _ rfl rfl rfl rfl
      have g2 : v 38 = .agg #[.int .i64 100, .slice (some ⟨w.heap.size + 1 + 1 + 1 + 1, 0, none⟩) 2 2] := hd 12 _ _ _ rfl rfl rfl rfl
      have g3 : SlV condR (fun _ => True) w1 (v 40) (sanC 2) := hd 14 _ _ _ rfl rfl rfl rfl
      clear hd
      obtain ⟨ac, cc, g4, g5⟩ := g3.shape'
      rw [g1, g2, g4]
      have HT := Lib.hid (HTV.out.below h1)
      have HS := Lib.hid (HSV.out.below h1)
      have HE := Lib.hid (HEV.out.below h1)
      clear g1 g2 g3 g4
      have G5 := Lib.hid g5
      clear g5
      go_wp2_with fail
      refine (ways_any HT.out HS.out G5.out (san_fine 2 (by decide)) HE.out (by decide)).mono ?_
      rintro e w2 ⟨⟨a, cap, rfl, h2⟩, h3⟩
      go_wp2_with fail
      first | exact h2.weaken fun _ _ => trivial | exact ⟨h3, h2.weaken fun _ _ => trivial⟩
    refine grow_cons ?_ ?_
    · intro v w1 h1 hd
      clear hd
      obtain ⟨c0, c1, c2, c3⟩ := TB.out w1 h1
      go_wp2_with fail
      exact Below.refl _ _
    refine grow_cons ?_ ?_
    · intro v w1 h1 hd
      clear hd
      obtain ⟨c0, c1⟩ := SB.out w1 h1
      go_wp2_with fail
      exact Below.refl _ _
    refine grow_cons ?_ ?_
    · intro v w1 h1 hd
      clear hd
      obtain ⟨c0, c1, c2, c3, c4⟩ := YB.out w1 h1
      go_wp2_with fail
      exact Below.refl _ _
    refine grow_cons ?_ ?_
    · intro v w1 h1 hd
      have g44 : v 44 = .agg #[.string ⟨#[98]⟩, .int .i64 1, .int .i64 2, .int .i64 0, .string ⟨#[120]⟩] := hd 18 _ _ _ rfl rfl rfl rfl
      clear hd
      rw [g44]
      go_wp2_with fail
      exact ⟨(Below.refl _ _).alloc (Nat.le_refl _) _, sl_block (sanC 3) (heap_alloc_new _ _) trivial rfl rfl (by decide)⟩
    refine grow_cons ?_ ?_
    · intro v w1 h1 hd
      have g1 : v 42 = .agg #[.int .i64 0, .string ⟨#[]⟩, .slice (some ⟨w.heap.size, 0, none⟩) 2 2, .slice (some ⟨w.heap.size + 1 + 1, 0, none⟩) 1 1] := hd 16 _ _ _ rfl rfl rfl rfl
      have g2 : v 43 = .agg #[.int .i64 100, .slice (some ⟨w.heap.size + 1 + 1 + 1 + 1, 0, none⟩) 2 2] := hd 17 _ _ _ rfl rfl rfl rfl
      have g3 : SlV condR (fun _ => True) w1 (v 45) (sanC 3) := hd 19 _ _ _ rfl rfl rfl rfl
      clear hd
      obtain ⟨ac, cc, g4, g5⟩ := g3.shape'
      rw [g1, g2, g4]
      have HT := Lib.hid (HTV.out.below h1)
      have HS := Lib.hid (HSV.out.below h1)
      have HE := Lib.hid (HEV.out.below h1)
      clear g1 g2 g3 g4
      have G5 := Lib.hid g5
      clear g5
      go_wp2_with fail
      refine (ways_any HT.out HS.out G5.out (san_fine 3 (by decide)) HE.out (by decide)).mono ?_
      rintro e w2 ⟨⟨a, cap, rfl, h2⟩, h3⟩
      go_wp2_with fail
      first | exact h2.weaken fun _ _ => trivial | exact ⟨h3, h2.weaken fun _ _ => trivial⟩
    refine grow_cons ?_ ?_
    · intro v w1 h1 hd
      obtain ⟨a0, c0, g0, h2⟩ : ∃ a c, v 30 = .slice a 2 c ∧ SlV wayR (fun _ => True) w1 (.slice a 2 c) (waysOf tabS staS (sanC 0)) := SlV.shape' (hd 4 _ _ _ rfl rfl rfl rfl)
      obtain ⟨a1, c1, g1, h3⟩ : ∃ a c, v 36 = .slice a 2 c ∧ SlV wayR (fun _ => True) w1 (.slice a 2 c) (waysOf tabS staS (sanC 1)) := SlV.shape' (hd 10 _ _ _ rfl rfl rfl rfl)
      obtain ⟨a2, c2, g2, h4⟩ : ∃ a c, v 41 = .slice a 2 c ∧ SlV wayR (fun _ => True) w1 (.slice a 2 c) (waysOf tabS staS (sanC 2)) := SlV.shape' (hd 15 _ _ _ rfl rfl rfl rfl)
      obtain ⟨a3, c3, g3, h5⟩ : ∃ a c, v 46 = .slice a 2 c ∧ SlV wayR (fun _ => True) w1 (.slice a 2 c) (waysOf tabS staS (sanC 3)) := SlV.shape' (hd 20 _ _ _ rfl rfl rfl rfl)
      clear hd
      rw [g0, g1, g2, g3]
      have H := Lib.hid (show _ ∧ _ ∧ _ ∧ _ from ⟨h2, h3, h4, h5⟩)
      clear g0 g1 g2 g3 h2 h3 h4 h5
      go_wp2_with fail
      exact ⟨Below.refl _ _, a0, c0, a1, c1, a2, c2, a3, c3, ⟨⟨rfl, rfl⟩, ⟨rfl, rfl⟩, ⟨rfl, rfl⟩, rfl, rfl⟩, H.out⟩
    refine grow_cons ?_ ?_
    · intro v w1 h1 hd
      clear hd
      go_wp2_with fail
      exact ⟨(Below.refl _ _).alloc (Nat.le_refl _) _, w1.heap.size, rfl, h1.size, heap_alloc_new _ _⟩
    exact grow_nil
  case hend =>
    intro v w1 h1 hd o ho
    obtain rfl := Option.some.inj (ho : some _ = some o)
    obtain ⟨b, g6, hb6, hk6⟩ : NewAll W.heap.size (v 6) w1 := hd 22 _ _ _ rfl rfl rfl
    obtain ⟨a0, c0, a1, c1, a2, c2, a3, c3, g47, s0, s1, s2, s3⟩ : ∃ a0 c0 a1 c1 a2 c2 a3 c3, v 47 = .agg #[.slice a0 2 c0, .slice a1 2 c1, .slice a2 2 c2, .slice a3 2 c3] ∧ SlV wayR (fun _ => True) w1 (.slice a0 2 c0) (waysOf tabS staS (sanC 0)) ∧ SlV wayR (fun _ => True) w1 (.slice a1 2 c1) (waysOf tabS staS (sanC 1)) ∧ SlV wayR (fun _ => True) w1 (.slice a2 2 c2) (waysOf tabS staS (sanC 2)) ∧ SlV wayR (fun _ => True) w1 (.slice a3 2 c3) (waysOf tabS staS (sanC 3)) := hd 21 _ _ _ rfl rfl rfl
    clear hd ho
    rw [g6, g47]
    have e0 := cells_of hk6 0
    have e1 := cells_of hk6 1
    have e2 := cells_of hk6 2
    have e3 := cells_of hk6 3
    have f0 := free_of hk6 0
    have f1 := free_of hk6 1
    have f2 := free_of hk6 2
    have f3 := free_of hk6 3
    simp only [List.getElem?_toArray, List.getElem?_cons_zero, List.getElem?_cons_succ] at e0 e1 e2 e3
    have HK6 := Lib.hid hk6
    have hbd : b < w1.heap.size := lt_of_block hk6
    have HSL := Lib.hid (show _ ∧ _ ∧ _ ∧ _ ∧ _ from ⟨h1, s0, s1, s2, s3⟩)
    clear g6 g47 hk6 s0 s1 s2 s3 h1
    go_upto_region 8 with (fail)
    generalize hWS : World.setCell _ _ _ = WS
    generalize hW2 : World.alloc _ _ = W2
    have hk6 : WS.heap[b]? = some (.cells #[.slice a0 2 c0, .slice a1 2 c1, .slice a2 2 c2, .slice a3 2 c3] 79 (0, 0)) := by rw [← hWS]; exact block_set4 HK6.out
    have hss : WS.heap.size = w1.heap.size := by rw [← hWS]; simp
    have hbs : Below W.heap.size W WS := by rw [← hWS]; exact below_set4 HSL.out.1 hb6
    have hk2 : W2.heap[b]? = some (.cells #[.slice a0 2 c0, .slice a1 2 c1, .slice a2 2 c2, .slice a3 2 c3] 79 (0, 0)) := by rw [← hW2, ← hk6]; exact heap_alloc_old _ _ (by omega)
    have hk3 : W2.heap[w1.heap.size]? = some (.cells #[.int .i64 23, .int .i64 7, .int .i64 71, .int .i64 203] 80 (0, 0)) := by rw [← hW2, ← hss]; exact heap_alloc_new _ _
    have hb2 : Below W.heap.size W W2 := by rw [← hW2]; exact hbs.alloc hbs.size _
    have hold : ∀ k, k < w1.heap.size → k ≠ b → W2.heap[k]? = w1.heap[k]? := fun k hk hne => by
      rw [← hW2, heap_alloc_old _ _ (by omega), ← hWS]
      exact other_set4 hne
    have SA := Lib.hid (san_all HK6.out hold hk2 hk3 HSL.out.2.1 HSL.out.2.2.1 HSL.out.2.2.2.1 HSL.out.2.2.2.2)
    have B2 := Lib.hid hb2
    clear hWS hW2 hk6 hss hbs hk2 hk3 hb2 hold HK6 HSL e0 e1 e2 e3 f0 f1 f2 f3 hbd
    generalize v 26 = y26, v 27 = y27, v 28 = y28, v 29 = y29, v 30 = y30, v 31 = y31, v 32 = y32, v 33 = y33, v 34 = y34, v 35 = y35, v 36 = y36, v 37 = y37, v 38 = y38, v 39 = y39, v 40 = y40, v 41 = y41, v 42 = y42, v 43 = y43, v 44 = y44, v 45 = y45, v 46 = y46
    go_wp2_with fail
    go_loopw [8] (fun i wr => ∃ k : Nat, k ≤ 4 ∧ i = .int .i64 k ∧ Below W2.heap.size W2 wr) (fun i _ => 4 - (intOf i).toNat)
    case atStart => exact ⟨0, by omega, rfl, Below.refl _ _⟩
    case round =>
      obtain ⟨k, hk, rfl, hbr⟩ := hrel
      have BR := Lib.hid hbr
      by_cases hlt : k < 4
      · obtain ⟨s, o, c, q0, q1, q2, q3⟩ := (SA.out.below hbr) k hlt
        generalize sanN k = nk at q2 q3
        clear hbr
        go_wp2_with fail
        go_quiet (fail)
        go_wp2_with fail
        go_roundw
        case rel => exact ⟨k + 1, by omega, by go_num, below_drewN BR.out _⟩
        case measure => simp [intOf]; omega
      · have hk4 : k = 4 := by omega
        subst hk4
        clear hbr
        obtain ⟨t0, t1, t2, t3⟩ := TB.out wr (B2.out.trans (BR.out.mono B2.out.size))
        obtain ⟨u0, u1⟩ := SB.out wr (B2.out.trans (BR.out.mono B2.out.size))
        obtain ⟨x0, x1, x2, x3, x4⟩ := XB.out wr (B2.out.trans (BR.out.mono B2.out.size))
        have hbw : Below W.heap.size W (wr.alloc (.cells #[.string ⟨#[97]⟩, .int .i64 1, .int .i64 1, .int .i64 1, .string ⟨#[]⟩] 44)) := (B2.out.trans (BR.out.mono B2.out.size)).alloc ((B2.out.trans (BR.out.mono B2.out.size)).size) _
        have HT := Lib.hid (HTV.out.below hbw)
        have HS := Lib.hid (HSV.out.below hbw)
        have HE := Lib.hid (HEV.out.below hbw)
        have HB3 := Lib.hid (HB.out.trans (hbw.mono HB.out.size))
        have HSt := Lib.hid (stmtV_of (p := fun _ => True) (s := stmtS) rfl rfl rfl sl_nil (fun _ _ e => by cases e; rfl) sl_nil (fun _ _ e => by cases e; rfl) (sl_block (c := #[.string ⟨#[97]⟩, .int .i64 1, .int .i64 1, .int .i64 1, .string ⟨#[]⟩]) (T := 44) (w := wr.alloc (.cells #[.string ⟨#[97]⟩, .int .i64 1, .int .i64 1, .int .i64 1, .string ⟨#[]⟩] 44)) [condX] (heap_alloc_new _ _) trivial rfl rfl (by decide)))
        clear hbw hlt hk
        go_wp2_with fail
        refine (plan_any (p2 := fun _ => True) (p4 := fun _ => True) HT.out tabV_zero HS.out staV_zero HSt.out ⟨by decide, by decide, by decide, by decide⟩ (san_fine 0 (by decide)) HE.out (by decide) (by decide)).mono ?_
        rintro e w2 ⟨rfl, b2⟩
        obtain ⟨p, hp, hpi, hpc⟩ := san_plan
        rw [hp]
        obtain ⟨⟨pi, plo, phi, pc⟩, ⟨ji, jlo, jhi, jc⟩, mg, cost⟩ := p
        simp only at hpi hpc
        subst hpi hpc
        have B4 := Lib.hid (HB3.out.trans (b2.mono HB3.out.size))
        clear hp b2 t0 t1 t2 t3 u0 u1 x0 x1 x2 x3 x4
        rw [show planR (⟨⟨0, plo, phi, pc⟩, ⟨ji, jlo, jhi, jc⟩, mg, 23⟩, 0) = .tuple #[.agg #[.int .i64 0, .string plo, .string phi, .int .i64 pc, .int .i64 ji, .string jlo, .string jhi, .int .i64 jc, .bool mg, .int .i64 23], .int .i64 0] from rfl]
        go_wp2_with fail
        go_ret
        exact ⟨rfl, B4.out.alloc B4.out.size _⟩
end Go.Proofs.YtajlngkakpjncaaDoor
