/- The lists that plan.Plan makes: the conditions of the one table and of the other. -/
import Derived.Test.YtajlngkakpjncaaDoorPlanBox
import Derived.Maps.AppendAt
namespace Go.Proofs.YtajlngkakpjncaaDoor
set_option linter.unusedVariables false
set_option linter.unusedSimpArgs false
open Go.RowKit

theorem cond_cells (x : Cond) : ∀ u ∈ condEnc x, u.oneCell' = true := by
  intro u hu
  simp [condEnc] at hu
  rcases hu with rfl | rfl | rfl | rfl | rfl <;> rfl
theorem info_cond : (Tryd.prog.info? 44).map (fun i => (i.zero, i.size, i.bytes)) = some (some (.agg #[.string ⟨#[]⟩, .int .i64 0, .int .i64 0, .int .i64 0, .string ⟨#[]⟩]), 5, 56) := by kernel_rfl
theorem cells_new5 (w : World) (cs : List Value) (e : TypeId) : ∀ j u, cs[j]? = some u → (w.alloc (.cells cs.toArray e)).cell? ((⟨w.heap.size, 0, none⟩ : Addr).add j) = some u := by
  intro j u hj
  rw [addr_add, cells_of (heap_alloc_new w _)]
  simpa using hj
/-- two rows of the call's own, apart from each other -/
structure TwoAt (B : Nat) (W0 : World) (M N : List Cond) (v u : Value) (w : World) : Prop where
  m : w.ownsRow B 44 5 v M.length (M.flatMap condEnc)
  n : w.ownsRow B 44 5 u N.length (N.flatMap condEnc)
  ne : ∀ k, v.ownBlock = some k → u.ownBlock ≠ some k
  b : Below B W0 w
theorem TwoAt.swap {B : Nat} {W0 : World} {M N : List Cond} {v u : Value} {w : World} (h : TwoAt B W0 M N v u w) : TwoAt B W0 N M u v w :=
  ⟨h.n, h.m, fun k hk hv => h.ne k hv hk, h.b⟩
theorem TwoAt.below {B : Nat} {W0 : World} {M N : List Cond} {v u : Value} {w w' : World} (h : TwoAt B W0 M N v u w) (hb : Below w.heap.size w w') (hB : B ≤ w.heap.size) : TwoAt B W0 M N v u w' :=
  ⟨owns_below h.m hb, owns_below h.n hb, h.ne, h.b.trans (hb.mono hB)⟩
theorem TwoAt.push {B : Nat} {W0 : World} {M N : List Cond} {v v' u : Value} {w w1 : World} {o : Obj} {x : Cond} (h : TwoAt B W0 M N v u w) (hB : B ≤ w.heap.size)
    (ho : w1.ownsRow B 44 5 v' (M.length + 1) (M.flatMap condEnc ++ condEnc x)) (hg : (w.alloc o).grownBy w1 v.ownBlock) (hat : v'.ownBlock = v.ownBlock ∨ v'.ownBlock = some (w.alloc o).heap.size) :
    TwoAt B W0 (M ++ [x]) N v' u w1 := by
  have hne : u.ownBlock = none ∨ u.ownBlock ≠ v.ownBlock := by
    cases hu : u.ownBlock with
    | none => exact Or.inl rfl
    | some k => exact Or.inr fun e => h.ne k e.symm hu
  refine ⟨by simpa using ho, (h.n.alloc o).kept hg hne, fun k hk hu => ?_, (h.b.alloc hB o).grown hg (by simp; omega) (fun k hk => (h.m.lt k hk).1)⟩
  rcases hat with e | e
  · exact h.ne k (e ▸ hk) hu
  · rw [e] at hk
    cases hk
    have := (h.n.lt _ hu).2
    simp at this
    omega
theorem mine_take (T : Tab) (own : Bool) (L : List Cond) (k : Nat) (h : k < L.length) : mineOf T own (L.take (k + 1)) = mineOf T own (L.take k) ++ (if decide (0 ≤ colOf T L[k].col) == own then [L[k]] else []) := by
  unfold mineOf
  rw [List.take_add_one, List.getElem?_eq_getElem h, List.filter_append]
  simp [List.filter_cons]
theorem mine_len (T : Tab) (own : Bool) (L : List Cond) : (mineOf T own L).length ≤ L.length := List.length_filter_le _ _
theorem TwoAt.rows {B : Nat} {W0 : World} {M N : List Cond} {v u : Value} {w : World} (h : TwoAt B W0 M N v u w) (hM : M.length ≤ 140737488355328) (hN : N.length ≤ 140737488355328) :
    (∃ a c, v = .slice a M.length c ∧ SlV condR (fun k => B ≤ k) w (.slice a M.length c) M) ∧ (∃ a c, u = .slice a N.length c ∧ SlV condR (fun k => B ≤ k) w (.slice a N.length c) N) := by
  obtain ⟨a, c, rfl, h1, h2, _⟩ := RowAt.of_owns_flat (enc := condEnc) (sz := 5) (hl := fun _ => rfl) (p := fun k => B ≤ k) h.m (fun k h => h)
  obtain ⟨a', c', rfl, h3, h4, _⟩ := RowAt.of_owns_flat (enc := condEnc) (sz := 5) (hl := fun _ => rfl) (p := fun k => B ≤ k) h.n (fun k h => h)
  exact ⟨⟨a, c, rfl, a, c, rfl, h1, hM, h2⟩, ⟨a', c', rfl, a', c', rfl, h3, hN, h4⟩⟩
end Go.Proofs.YtajlngkakpjncaaDoor
