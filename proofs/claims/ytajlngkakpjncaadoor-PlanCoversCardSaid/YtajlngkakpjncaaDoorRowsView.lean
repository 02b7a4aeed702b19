/- An argument that is a slice of slices of integers. -/
import Derived.Test.YtajlngkakpjncaaDoorAskView
import Derived.Test.YtajlngkakpjncaaDoorCov
namespace Go.Proofs.YtajlngkakpjncaaDoor
set_option linter.unusedVariables false
set_option linter.unusedSimpArgs false
open Go.ChangeShapes Go.WideShapes Go.ChangeAt Go.RowKit

theorem weightsAll_mem {H : Type} {P : Program} {e : TypeId} : ∀ {l : List (DataW H)} {d : DataW H}, d ∈ l → ∀ n ∈ d.weights P e, n ∈ DataW.weightsAll P e l
  | x :: l, d, h, n, hn => by
    simp only [DataW.weightsAll, List.mem_append]
    rcases List.mem_cons.1 h with rfl | h
    · exact Or.inl hn
    · exact Or.inr (weightsAll_mem h n hn)
set_option maxRecDepth 100000 in
theorem open_rows {H : Type} {enc : TypeId × Value → H} {w : World} {b0 : Nat} {v : Value} {d : DataW H} {p : List MemPlace} {ts : List TypeId} {ds : List (DataW H)} {j : Nat} (hv : Value.okWide Tryd.prog w .any b0 62 v) (h : DataW.Trod enc Tryd.prog w 0 (fun _ => true) true 62 v d p)
    (hw : (DataW.weightsEach Tryd.prog ts ds).all (· ≤ reachBytes) = true) (ht : ts[j]? = some 62) (hd : ds[j]? = some d) :
    ∃ a n cap, v = .slice a n cap ∧ RowsV w a n ∧ n ≤ 140737488355328 := by
  have c1 : Tryd.prog.cellsOf 22 = 1 := by kernel_rfl
  obtain ⟨a0, len, cap, rfl⟩ := okWide_slice Tryd.underlying62 hv
  obtain ⟨fuel, hf⟩ := h
  rcases Go.Deep.open_slice Tryd.underlying62 hf with ⟨hcs, hx⟩ | ⟨a, len', cap', m, n, D, Pl, hcs, hb, hl, hm, hmm, hx, hel⟩
  · simp [Value.cells] at hcs
    obtain ⟨rfl, rfl, rfl⟩ := hcs
    exact ⟨none, 0, 0, rfl, Or.inl rfl, by omega⟩
  · simp [Value.cells] at hcs
    obtain ⟨rfl, rfl, rfl⟩ := hcs
    simp only [Prod.mk.injEq] at hx
    have hmc : m = cap := by simpa using hmm
    have hdd := hx.1
    have hsl := sized_slice hw ht (by rw [← hdd]; exact hd) Tryd.underlying62
    rw [show Tryd.prog.bytesOf 22 = 24 from by kernel_rfl] at hsl
    simp only [List.length_map, List.length_range] at hsl
    have hrb : reachBytes = 140737488351232 := rfl
    refine ⟨some a, len, cap, rfl, ?_, by omega⟩
    rcases Nat.eq_zero_or_pos len with h0 | h0
    · exact Or.inl h0
    right
    obtain ⟨b, off, spot⟩ := a
    have hcell : ∀ i, i < len → ∃ c, w.cell? ((⟨b, off, spot⟩ : Addr).add i) = some c ∧ DataW.trod enc Tryd.prog w 0 (fun _ => true) true n 22 [c] = some (D i, Pl i) := by
      intro i hi
      obtain ⟨cs, h1, h2⟩ := hel i (by omega)
      rw [c1, Nat.mul_one] at h1
      obtain ⟨_, h3, h4⟩ := World.cells?_some h1
      match cs, h3 with
      | [c], _ =>
        have h5 := h4 0 (by omega)
        simp only [List.getElem?_cons_zero] at h5
        refine ⟨c, ?_, h2⟩
        rw [← h5]
        try rfl
        try (congr 1; unfold Addr.add; split <;> simp_all)
    have hspot : spot = none := by
      obtain ⟨c, h1, _⟩ := hcell 0 h0
      simpa [Addr.add] using World.cell?_spot h1
    subst hspot
    have hadd : ∀ i, (⟨b, off, none⟩ : Addr).add i = ⟨b, off + i, none⟩ := fun i => by unfold Addr.add; split <;> simp_all
    refine ⟨b, off, rfl, ?_, fun i hi => ?_⟩
    · obtain ⟨c, h1, _⟩ := hcell 0 h0
      exact World.block_lt_of_cell? w _ (by rw [hadd] at h1; exact h1)
    · obtain ⟨c, h1, h2⟩ := hcell i hi
      rw [hadd] at h1
      obtain ⟨az, cz, Z, rfl, hz, _⟩ := sl_of_trod (y := (D i, Pl i)) h2 (fun elems sp he => by
        have := List.all_eq_true.1 hw _ (DataW.weights_mem_each ht hd ((elems.length + sp.length) * Tryd.prog.bytesOf 3) (by
          rw [hdd]
          simp only [DataW.weights, Tryd.underlying62, List.mem_cons, List.mem_append]
          refine Or.inr (Or.inl (weightsAll_mem (List.mem_map.2 ⟨i, List.mem_range.2 hi, rfl⟩) _ ?_))
          rw [show D i = _ from he]
          simp [DataW.weights, Tryd.underlying22]))
        simpa using this)
      exact ⟨az, cz, Z, h1, hz⟩
end Go.Proofs.YtajlngkakpjncaaDoor
