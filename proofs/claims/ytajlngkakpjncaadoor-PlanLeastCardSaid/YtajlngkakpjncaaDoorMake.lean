/- Data made by composite literals: what a new block holds, as a row of data. -/
import Derived.Test.YtajlngkakpjncaaDoorPlan
import Derived.Test.YtajlngkakpjncaaDoorAllocs
import Derived.Test.YtajlngkakpjncaaDoorGrow
namespace Go.Proofs.YtajlngkakpjncaaDoor
set_option linter.unusedVariables false
set_option linter.unusedSimpArgs false
open Go.RowKit

theorem flat_get {α : Type} {sz : Nat} {enc : α → List Value} (hl : ∀ x, (enc x).length = sz) : ∀ (L : List α) (t : Nat) (ht : t < L.length) (j : Nat), j < sz → (L.flatMap enc)[t * sz + j]? = (enc L[t])[j]?
  | [], t, ht, _, _ => by cases ht
  | x :: L, 0, _, j, hj => by
    rw [List.flatMap_cons, Nat.zero_mul, Nat.zero_add, List.getElem?_append_left (by rw [hl]; exact hj)]
    rfl
  | x :: L, t + 1, ht, j, hj => by
    rw [List.flatMap_cons, List.getElem?_append_right (by rw [hl, Nat.add_mul]; omega), hl, show (t + 1) * sz + j - sz = t * sz + j by rw [Nat.add_mul]; omega]
    exact flat_get hl L t (by simpa using ht) j hj
/-- a new block, as a row -/
theorem row_block {α : Type} {sz : Nat} {enc : α → List Value} {hl : ∀ x, (enc x).length = sz} {p : Nat → Prop} {w : World} {b : Nat} {c : Array Value} {T : TypeId} {L : List α} (hb : w.heap[b]? = some (.cells c T (0, 0))) (hp : p b) (hc : c.toList = L.flatMap enc) : RowAt (flatR sz enc hl) p w (some ⟨b, 0, none⟩) L :=
  Or.inr ⟨b, 0, rfl, hp, lt_of_block hb, fun t ht => ⟨enc L[t], fun j hj => by
    rw [← flat_get hl L t ht j hj, cells_of hb, ← hc, Array.getElem?_toList, Nat.zero_add]; rfl, rfl⟩⟩
theorem sl_block {α : Type} {sz : Nat} {enc : α → List Value} {hl : ∀ x, (enc x).length = sz} {p : Nat → Prop} {w : World} {b n : Nat} {c : Array Value} {T : TypeId} (L : List α) (hb : w.heap[b]? = some (.cells c T (0, 0))) (hp : p b) (hc : c.toList = L.flatMap enc) (hn : n = L.length) (hs : L.length ≤ 140737488355328) : SlV (flatR sz enc hl) p w (.slice (some ⟨b, 0, none⟩) n n) L := by
  subst hn
  exact ⟨_, _, rfl, Nat.le_refl _, hs, row_block hb hp hc⟩
theorem int_block {p : Nat → Prop} {w : World} {b n : Nat} {c : Array Value} {T : TypeId} (L : List Int) (hb : w.heap[b]? = some (.cells c T (0, 0))) (hp : p b) (hc : c.toList = L.map fun x => .int .i64 x) (hn : n = L.length) (hs : L.length ≤ 140737488355328) : SlV intR p w (.slice (some ⟨b, 0, none⟩) n n) L := by
  subst hn
  refine ⟨_, _, rfl, Nat.le_refl _, hs, Or.inr ⟨b, 0, rfl, hp, lt_of_block hb, fun t ht => ⟨[.int .i64 L[t]], fun j hj => ?_, rfl⟩⟩⟩
  have hj0 : j = 0 := by simp [intR] at hj; exact hj
  subst hj0
  rw [cells_of hb, ← Array.getElem?_toList, hc]
  simp [intR, ht]
theorem ix_block {p : Nat → Prop} {w : World} {b : Nat} {c : Array Value} {T : TypeId} {x : Ix} {sl : Value} (hb : w.heap[b]? = some (.cells c T (0, 0))) (hp : p b) (hx : SlV intR p w sl x.cols) (hc : c.toList = [.string x.name, sl, .int .i64 x.root]) : SlV ixR p w (.slice (some ⟨b, 0, none⟩) 1 1) [x] := by
  obtain ⟨a, cap, rfl, h1, h2, h3⟩ := hx
  refine ⟨_, _, rfl, Nat.le_refl _, by simp, Or.inr ⟨b, 0, rfl, hp, lt_of_block hb, fun t ht => ⟨[.string x.name, .slice a x.cols.length cap, .int .i64 x.root], fun j hj => ?_, ?_⟩⟩⟩
  · have ht0 : t = 0 := by simpa using ht
    subst ht0
    rw [cells_of hb, ← Array.getElem?_toList, hc]
    simp
  · have ht0 : t = 0 := by simpa using ht
    subst ht0
    exact ⟨a, cap, rfl, h1, h2, h3⟩
theorem sl_nil {α : Type} {R : Rep α} {p : Nat → Prop} {w : World} : SlV R p w (.slice none 0 0) [] := ⟨none, 0, rfl, Nat.le_refl _, by simp, RowAt.nil⟩
theorem tabV_of {p : Nat → Prop} {w : World} {T : Tab} {c i : Value} (hc : SlV colR p w c T.cols) (hi : SlV ixR p w i T.idx) : TabV p w (.agg #[.int .i64 T.id, .string T.name, c, i]) T := by
  obtain ⟨a, cap, rfl, h1⟩ := hc
  obtain ⟨a', cap', rfl, h2⟩ := hi
  exact ⟨a, cap, a', cap', rfl, ⟨a, cap, rfl, h1⟩, ⟨a', cap', rfl, h2⟩⟩
theorem staV_of {p : Nat → Prop} {w : World} {S : Sta} {v : Value} (hv : SlV intR p w v S.vals) : StaV p w (.agg #[.int .i64 S.rows, v]) S := by
  obtain ⟨a, cap, rfl, h1⟩ := hv
  exact ⟨a, cap, rfl, ⟨a, cap, rfl, h1⟩⟩
def tab0 : Tab := ⟨0, noStr, [], []⟩
def sta0 : Sta := ⟨0, []⟩
theorem tabV_zero {p : Nat → Prop} {w : World} : TabV p w (.agg #[.int .i64 0, .string ⟨#[]⟩, .slice none 0 0, .slice none 0 0]) tab0 := ⟨none, 0, none, 0, rfl, sl_nil, sl_nil⟩
theorem staV_zero {p : Nat → Prop} {w : World} : StaV p w (.agg #[.int .i64 0, .slice none 0 0]) sta0 := ⟨none, 0, rfl, sl_nil⟩
/-- a statement: the lists that a law gives -/
theorem stmtV_of {p : Nat → Prop} {w : World} {s : Stmt} {n7 n12 w4 : Value} (h3 : s.cols = []) (h5 : s.row = []) (h6 : s.sets = []) (hn : SlV strF p w w4 s.names) (hn0 : ∀ n c, w4 = .slice none n c → c = 0) (ho : SlV strF p w n12 s.order) (ho0 : ∀ n c, n12 = .slice none n c → c = 0) (hw : SlV condR p w n7 s.wher) :
    StmtV p w (.agg #[.int .i64 s.kind, .string s.table, .string s.name, .slice none 0 0, w4, .slice none 0 0, .slice none 0 0, n7, .string s.join, .string s.left, .string s.right, .int .i64 s.agg, n12, .int .i64 s.mode, .int .i64 s.n]) s := by
  obtain ⟨a, cap, rfl, h7⟩ := hn
  obtain ⟨a', cap', rfl, h8⟩ := ho
  obtain ⟨a'', cap'', rfl, h9⟩ := hw
  obtain ⟨k, tb, nm, cols, names, row, sets, wh, jn, lf, rt, ag, od, md, n⟩ := s
  simp only at h3 h5 h6
  subst h3 h5 h6
  exact ⟨none, 0, a, cap, none, 0, none, 0, a'', cap'', a', cap', rfl, sl_nil, ⟨a, cap, rfl, h7⟩, fun e => by subst e; exact hn0 _ _ rfl, sl_nil, sl_nil, ⟨a'', cap'', rfl, h9⟩, ⟨a', cap', rfl, h8⟩, fun e => by subst e; exact ho0 _ _ rfl⟩
end Go.Proofs.YtajlngkakpjncaaDoor
