/- What the arguments of the laws of layer 19 hold in memory. An argument that is a slice of slices of integers. -/
import Derived.Test.YtajlngkakpjncaaDoorZP12
import Derived.Test.YtajlngkakpjncaaDoorZP9
import Derived.Deep.Slices
import Derived.ChangeArms
namespace Go.Proofs.YtajlngkakpjncaaDoor
set_option linter.unusedVariables false
set_option linter.unusedSimpArgs false
open Go.ChangeShapes Go.WideShapes Go.ChangeAt Go.RowKit

section
variable {H : Type} {enc : TypeId × Value → H} {P : Program} {w : World} {spare : Nat → Bool} {held : Bool} {r : Reach} {b0 : Nat}

/-- what a slice argument is, element by element; 'Cell i b o': what is known of the cells of element i, that begin at ⟨b, o⟩ -/
theorem view_at {t e : TypeId} {v : Value} {d : DataW H} {p : List MemPlace} {sz bytes : Nat} (hs : P.underlying t = some (.slice e)) (hsz : P.cellsOf e = sz) (hpos : 0 < sz)
    (hby : P.bytesOf e = bytes) (hv : ∃ a0 len cap, v = .slice a0 len cap) (h : DataW.Trod enc P w 0 (fun _ => true) true t v d p)
    (hreach : ∀ elems sp, d = .slice elems sp → (elems.length + sp.length) * P.bytesOf e ≤ reachBytes) :
    ∃ (a : Option Addr) (n cap : Nat), v = .slice a n cap ∧ n ≤ cap ∧ cap * bytes ≤ 140737488351232 ∧
      (n = 0 ∨ ∃ b off, a = some ⟨b, off, none⟩ ∧ ∀ i, i < n → ∃ cs m y, cs.length = sz ∧ (∀ j, j < sz → w.cell? ⟨b, off + i * sz + j, none⟩ = cs[j]?) ∧ DataW.trod enc P w 0 (fun _ => true) true m e cs = some y) := by
  obtain ⟨a0, len, cap, rfl⟩ := hv
  obtain ⟨fuel, hf⟩ := h
  rcases Go.Deep.open_slice hs hf with ⟨hcs, hx⟩ | ⟨a, len', cap', m, n, D, Pl, hcs, hb, hl, hm, hmm, hx, hel⟩
  · simp [Value.cells] at hcs
    obtain ⟨rfl, rfl, rfl⟩ := hcs
    exact ⟨none, 0, 0, rfl, Nat.le_refl _, by omega, Or.inl rfl⟩
  · simp [Value.cells] at hcs
    obtain ⟨rfl, rfl, rfl⟩ := hcs
    simp only [Prod.mk.injEq] at hx
    have hmc : m = cap := by simpa using hmm
    have hr := hreach _ _ hx.1
    simp only [List.length_map, List.length_range] at hr
    have e1 : len + (m - len) = cap := by omega
    rw [e1, hby] at hr
    refine ⟨some a, len, cap, rfl, hl, hr, ?_⟩
    rcases Nat.eq_zero_or_pos len with h0 | h0
    · exact Or.inl h0
    right
    obtain ⟨b, off, spot⟩ := a
    have hcell : ∀ i, i < len → ∃ cs y, cs.length = sz ∧ (∀ j, j < sz → w.cell? ((((⟨b, off, spot⟩ : Addr).add (i * sz)).add j)) = cs[j]?) ∧ (∀ j, j < sz → cs[j]? ≠ none) ∧ DataW.trod enc P w 0 (fun _ => true) true n e cs = some y := by
      intro i hi
      obtain ⟨cs, h1, h2⟩ := hel i (by omega)
      rw [hsz] at h1
      obtain ⟨_, h3, h4⟩ := World.cells?_some h1
      refine ⟨cs, _, h3, fun j hj => h4 j hj, fun j hj => ?_, h2⟩
      rw [List.getElem?_eq_getElem (by omega)]
      simp
    have hspot : spot = none := by
      obtain ⟨cs, y, h1, h2, h3, _⟩ := hcell 0 h0
      have h4 := h2 0 hpos
      have h5 := h3 0 hpos
      cases hv0 : cs[0]? with
      | none => exact absurd hv0 h5
      | some v0 =>
        rw [hv0] at h4
        simpa [Addr.add] using World.cell?_spot h4
    subst hspot
    refine ⟨b, off, rfl, fun i hi => ?_⟩
    obtain ⟨cs, y, h1, h2, _, h4⟩ := hcell i hi
    refine ⟨cs, n, y, h1, fun j hj => ?_, h4⟩
    rw [← h2 j hj]
    congr 1
    have e1 : (⟨b, off, none⟩ : Addr).add (i * sz) = ⟨b, off + i * sz, none⟩ := by unfold Addr.add; split <;> simp_all
    have e2 : (⟨b, off + i * sz, none⟩ : Addr).add j = ⟨b, off + i * sz + j, none⟩ := by unfold Addr.add; split <;> simp_all
    rw [e1, e2]

/-- one function for the elements -/
theorem list_of {α : Type} [Inhabited α] {n : Nat} {p : Nat → α → Prop} (h : ∀ i, i < n → ∃ x, p i x) : ∃ l : List α, l.length = n ∧ ∀ i, i < n → p i (l.getD i default) := by
  obtain ⟨f, hf⟩ := Go.Deep.choose_lt h
  refine ⟨(List.range n).map f, by simp, fun i hi => ?_⟩
  have : ((List.range n).map f).getD i default = f i := by simp [List.getD, hi]
  rw [this]
  exact hf i hi

def IntsAt (w : World) (a : Option Addr) (Z : List Int) (n : Nat) : Prop :=
  Z.length = n ∧ (n = 0 ∨ ∃ b off, a = some ⟨b, off, none⟩ ∧ ∀ t, t < n → w.cell? ⟨b, off + t, none⟩ = some (.int .i64 (Z.getD t 0)))
theorem ints_at {t e : TypeId} {v : Value} {d : DataW H} {p : List MemPlace} (hs : P.underlying t = some (.slice e)) (he : P.underlying e = some (.int .i64)) (hc : P.cellsOf e = 1) (hby : P.bytesOf e = 8)
    (hv : ∃ a0 len cap, v = .slice a0 len cap) (h : DataW.Trod enc P w 0 (fun _ => true) true t v d p)
    (hreach : ∀ elems sp, d = .slice elems sp → (elems.length + sp.length) * P.bytesOf e ≤ reachBytes) :
    ∃ (a : Option Addr) (n cap : Nat) (Z : List Int), v = .slice a n cap ∧ IntsAt w a Z n ∧ (n ≤ cap ∧ cap * 8 ≤ 140737488351232) ∧ (∀ t, -9223372036854775808 ≤ Z.getD t 0 ∧ Z.getD t 0 ≤ 9223372036854775807) := by
  obtain ⟨a, n, cap, hv, hn, hb, hel⟩ := view_at hs hc (by omega) hby hv h hreach
  have each : ∀ i, i < n → ∃ x : Int, (∃ b off, a = some ⟨b, off, none⟩ ∧ w.cell? ⟨b, off + i, none⟩ = some (.int .i64 x)) ∧ -9223372036854775808 ≤ x ∧ x ≤ 9223372036854775807 := by
    intro i hi
    rcases hel with h0 | ⟨b, off, ha, hel⟩
    · omega
    obtain ⟨cs, m, y, h1, h2, h3⟩ := hel i hi
    obtain ⟨x, rfl, rfl, wx⟩ := DataW.trod_int he h3
    have h4 := h2 0 (by omega)
    simp only [Nat.mul_one, Nat.add_zero] at h4
    exact ⟨x, ⟨b, off, ha, h4⟩, by simpa [Lit.wf, IntKind.min, IntKind.max, IntKind.signed, IntKind.bits] using wx⟩
  obtain ⟨Z, hZ, hZ2⟩ := list_of each
  refine ⟨a, n, cap, Z, hv, ⟨hZ, ?_⟩, ⟨hn, hb⟩, fun t => ?_⟩
  · rcases Nat.eq_zero_or_pos n with h0 | h0
    · exact Or.inl h0
    · obtain ⟨⟨b, off, ha, _⟩, _⟩ := hZ2 0 h0
      refine Or.inr ⟨b, off, ha, fun t ht => ?_⟩
      obtain ⟨⟨b', off', ha', hc'⟩, _⟩ := hZ2 t ht
      rw [ha] at ha'
      simp only [Option.some.injEq, Addr.mk.injEq] at ha'
      obtain ⟨rfl, rfl, _⟩ := ha'
      exact hc'
  · rcases Nat.lt_or_ge t n with ht | ht
    · exact (hZ2 t ht).2
    · have e : Z.getD t 0 = 0 := by simp [List.getD, List.getElem?_eq_none (show Z.length ≤ t by omega)]
      rw [e]; omega

end
def Rng (x : Int) : Prop := -9223372036854775808 ≤ x ∧ x ≤ 9223372036854775807
/-- a slice of integers, out of its reading -/
theorem sl_of_trod {H : Type} {enc : TypeId × Value → H} {w : World} {fuel : Nat} {c : Value} {y : DataW H × List MemPlace} (hf : DataW.trod enc Tryd.prog w 0 (fun _ => true) true fuel 22 [c] = some y)
    (hreach : ∀ elems sp, y.1 = .slice elems sp → (elems.length + sp.length) * Tryd.prog.bytesOf 3 ≤ reachBytes) :
    ∃ a cap Z, c = .slice a Z.length cap ∧ SlV intR (fun _ => True) w (.slice a Z.length cap) Z ∧ ∀ x ∈ Z, Rng x := by
  have hform : ∃ a0 len cap, c = .slice a0 len cap := by
    rcases DataW.trod_slice Tryd.underlying22 hf with ⟨h, _⟩ | ⟨a, len, cap, _, _, _, _, h, _⟩
    · exact ⟨_, _, _, by simpa using h⟩
    · exact ⟨_, _, _, by simpa using h⟩
  obtain ⟨a0, len, cap, rfl⟩ := hform
  obtain ⟨a, n, cap', Z, hv, ⟨hl, hz⟩, ⟨hn, hb⟩, hr⟩ := ints_at (d := y.1) (p := y.2) Tryd.underlying22 Tryd.underlying3 (by kernel_rfl) (by kernel_rfl) ⟨a0, len, cap, rfl⟩ ⟨fuel, by simpa [Value.cells] using hf⟩ hreach
  subst hl
  refine ⟨a, cap', Z, hv, ⟨a, cap', rfl, hn, by omega, ?_⟩, fun x hx => ?_⟩
  · rcases hz with h0 | ⟨b, off, rfl, hc⟩
    · exact Or.inl (List.eq_nil_of_length_eq_zero h0)
    · rcases Nat.eq_zero_or_pos Z.length with h0 | h0
      · exact Or.inl (List.eq_nil_of_length_eq_zero h0)
      · refine Or.inr ⟨b, off, rfl, trivial, World.block_lt_of_cell? w _ (hc 0 h0), fun t ht => ⟨[.int .i64 Z[t]], fun j hj => ?_, rfl⟩⟩
        have hj0 : j = 0 := by simp [intR] at hj; exact hj
        subst hj0
        have := hc t ht
        rw [List.getD_eq_getElem?_getD, List.getElem?_eq_getElem ht] at this
        simpa [intR] using this
  · obtain ⟨t, ht, rfl⟩ := List.getElem_of_mem hx
    have := hr t
    rw [List.getD_eq_getElem?_getD, List.getElem?_eq_getElem ht] at this
    exact this
set_option maxRecDepth 100000 in
theorem open_ints {H : Type} {enc : TypeId × Value → H} {w : World} {b0 : Nat} {v : Value} {d : DataW H} {p : List MemPlace} {ts : List TypeId} {ds : List (DataW H)} {j : Nat} (hv : Value.okWide Tryd.prog w .any b0 22 v) (h : DataW.Trod enc Tryd.prog w 0 (fun _ => true) true 22 v d p)
    (hw : (DataW.weightsEach Tryd.prog ts ds).all (· ≤ reachBytes) = true) (ht : ts[j]? = some 22) (hd : ds[j]? = some d) :
    ∃ a cap Z, v = .slice a (List.length Z) cap ∧ SlV intR (fun _ => True) w (.slice a Z.length cap) Z ∧ ∀ x ∈ Z, Rng x := by
  obtain ⟨a0, len, cap, rfl⟩ := okWide_slice Tryd.underlying22 hv
  obtain ⟨fuel, hf⟩ := h
  exact sl_of_trod (y := (d, p)) (by simpa [Value.cells] using hf) (fun elems sp he => sized_slice hw ht (by rw [← show d = _ from he]; exact hd) Tryd.underlying22)
set_option maxRecDepth 100000 in
theorem open_ask {H : Type} {enc : TypeId × Value → H} {w : World} {b0 : Nat} {v : Value} {d : DataW H} {p : List MemPlace} {ts : List TypeId} {ds : List (DataW H)} {j : Nat} (hv : Value.okWide Tryd.prog w .any b0 25 v) (h : DataW.Trod enc Tryd.prog w 0 (fun _ => true) true 25 v d p)
    (hw : (DataW.weightsEach Tryd.prog ts ds).all (· ≤ reachBytes) = true) (ht : ts[j]? = some 25) (hd : ds[j]? = some d) :
    ∃ aT cT LT aU cU LU aW cW LW aV cV LV r0 r1, v = .agg #[.slice aT (List.length LT) cT, .slice aU (List.length LU) cU, .slice aW (List.length LW) cW, .slice aV (List.length LV) cV, .int .i64 r0, .int .i64 r1] ∧
      (SlV intR (fun _ => True) w (.slice aT LT.length cT) LT ∧ SlV intR (fun _ => True) w (.slice aU LU.length cU) LU ∧ SlV intR (fun _ => True) w (.slice aW LW.length cW) LW ∧ SlV intR (fun _ => True) w (.slice aV LV.length cV) LV) ∧
      (∀ x ∈ LT, Rng x) ∧ (∀ x ∈ LU, Rng x) ∧ (∀ x ∈ LW, Rng x) ∧ (∀ x ∈ LV, Rng x) ∧ Rng r0 ∧ Rng r1 := by
  have c1 : Tryd.prog.cellsOf 22 = 1 := by kernel_rfl
  have c2 : Tryd.prog.cellsOf 23 = 2 := by kernel_rfl
  have c3 : Tryd.prog.cellsOf 3 = 1 := by kernel_rfl
  have c6 : Tryd.prog.cellsOf 25 = 6 := by kernel_rfl
  unfold Value.okWide at hv
  rw [Tryd.underlying25] at hv
  obtain ⟨cs, rfl, hsz, _⟩ := hv
  rw [c6] at hsz
  obtain ⟨l⟩ := cs
  match l, hsz with
  | [e0, e1, e2, e3, e4, e5], _ =>
    obtain ⟨fuel, hf⟩ := h
    obtain ⟨xs, n, _, hx, _, hxl, hfs⟩ := DataW.trod_struct Tryd.underlying25 hf
    match xs, hxl with
    | [x0, x1, x2, x3, x4], _ =>
      have h0 := hfs 0 _ rfl
      have h1 := hfs 1 _ rfl
      have h2 := hfs 2 _ rfl
      have h3 := hfs 3 _ rfl
      have h4 := hfs 4 _ rfl
      simp [Value.cells, c1, c2] at h0 h1 h2 h3 h4
      simp only [Prod.mk.injEq] at hx
      have hdd := hx.1
      have reach : ∀ (y : DataW H × List MemPlace), y ∈ [x0, x1, x2, x3] → ∀ elems sp, y.1 = .slice elems sp → (elems.length + sp.length) * Tryd.prog.bytesOf 3 ≤ reachBytes := by
        intro y hy elems sp he
        have := List.all_eq_true.1 hw _ (DataW.weights_mem_each ht hd ((elems.length + sp.length) * Tryd.prog.bytesOf 3) (by
          rw [hdd]
          simp only [DataW.weights, Tryd.underlying25, List.map_cons, List.map_nil, DataW.weightsEach, List.mem_append]
          have hm : (elems.length + sp.length) * Tryd.prog.bytesOf 3 ∈ y.1.weights Tryd.prog 22 := by rw [he]; simp [DataW.weights, Tryd.underlying22]
          simp only [List.mem_cons, List.not_mem_nil, or_false] at hy
          rcases hy with rfl | rfl | rfl | rfl
          · exact Or.inl hm
          · exact Or.inr (Or.inl hm)
          · exact Or.inr (Or.inr (Or.inl hm))
          · exact Or.inr (Or.inr (Or.inr (Or.inl hm)))))
        simpa using this
      obtain ⟨a0, k0, Z0, rfl, s0, r0⟩ := sl_of_trod h0 (reach _ (by simp))
      obtain ⟨a1, k1, Z1, rfl, s1, r1⟩ := sl_of_trod h1 (reach _ (by simp))
      obtain ⟨a2, k2, Z2, rfl, s2, r2⟩ := sl_of_trod h2 (reach _ (by simp))
      obtain ⟨a3, k3, Z3, rfl, s3, r3⟩ := sl_of_trod h3 (reach _ (by simp))
      obtain ⟨zs, m, _, _, _, hlen, hall⟩ := DataW.trod_array Tryd.underlying23 h4
      match zs, hlen with
      | [z0, z1], _ =>
        have g0 := hall 0 (by omega)
        have g1 := hall 1 (by omega)
        rw [c3] at g0 g1
        simp at g0 g1
        obtain ⟨y0, q0, _, w0⟩ := DataW.trod_int Tryd.underlying3 g0
        obtain ⟨y1, q1, _, w1⟩ := DataW.trod_int Tryd.underlying3 g1
        simp at q0 q1
        subst q0 q1
        exact ⟨a0, k0, Z0, a1, k1, Z1, a2, k2, Z2, a3, k3, Z3, y0, y1, rfl, ⟨s0, s1, s2, s3⟩, r0, r1, r2, r3, by simpa [Rng, Lit.wf, IntKind.min, IntKind.max, IntKind.signed, IntKind.bits] using w0, by simpa [Rng, Lit.wf, IntKind.min, IntKind.max, IntKind.signed, IntKind.bits] using w1⟩
set_option maxRecDepth 100000 in
theorem open_way {H : Type} {enc : TypeId × Value → H} {w : World} {b0 : Nat} {v : Value} {d : DataW H} {p : List MemPlace} {ts : List TypeId} {ds : List (DataW H)} {j : Nat} (hv : Value.okWide Tryd.prog w .any b0 52 v) (h : DataW.Trod enc Tryd.prog w 0 (fun _ => true) true 52 v d p)
    (hw : (DataW.weightsEach Tryd.prog ts ds).all (· ≤ reachBytes) = true) (ht : ts[j]? = some 52) (hd : ds[j]? = some d) :
    ∃ i l u c, v = .agg #[.int .i64 i, .string l, .string u, .int .i64 c] ∧ Rng i ∧ Rng c ∧ l.size ≤ 140737488351232 ∧ u.size ≤ 140737488351232 := by
  have c1 : Tryd.prog.cellsOf 3 = 1 := by kernel_rfl
  have c2 : Tryd.prog.cellsOf 9 = 1 := by kernel_rfl
  have c6 : Tryd.prog.cellsOf 52 = 4 := by kernel_rfl
  unfold Value.okWide at hv
  rw [Tryd.underlying52] at hv
  obtain ⟨cs, rfl, hsz, _⟩ := hv
  rw [c6] at hsz
  obtain ⟨l⟩ := cs
  match l, hsz with
  | [e0, e1, e2, e3], _ =>
    obtain ⟨fuel, hf⟩ := h
    obtain ⟨xs, n, _, hx, _, hxl, hfs⟩ := DataW.trod_struct Tryd.underlying52 hf
    match xs, hxl with
    | [x0, x1, x2, x3], _ =>
      have h0 := hfs 0 _ rfl
      have h1 := hfs 1 _ rfl
      have h2 := hfs 2 _ rfl
      have h3 := hfs 3 _ rfl
      simp [Value.cells, c1, c2] at h0 h1 h2 h3
      simp only [Prod.mk.injEq] at hx
      have hdd := hx.1
      obtain ⟨y0, q0, _, w0⟩ := DataW.trod_int Tryd.underlying3 h0
      obtain ⟨y1, q1, hy1, _⟩ := DataW.trod_string Tryd.underlying9 h1
      obtain ⟨y2, q2, hy2, _⟩ := DataW.trod_string Tryd.underlying9 h2
      obtain ⟨y3, q3, _, w3⟩ := DataW.trod_int Tryd.underlying3 h3
      simp at q0 q1 q2 q3
      subst q0 q1 q2 q3
      have reach : ∀ (s : ByteArray), x1.1 = .lit (.string s.data.toList) ∨ x2.1 = .lit (.string s.data.toList) → s.size ≤ 140737488351232 := by
        intro s hs
        have := List.all_eq_true.1 hw _ (DataW.weights_mem_each ht hd s.data.toList.length (by
          rw [hdd]
          simp only [DataW.weights, Tryd.underlying52, List.map_cons, List.map_nil, DataW.weightsEach, List.mem_append]
          rcases hs with h | h
          · exact Or.inr (Or.inl (by rw [h]; simp [DataW.weights]))
          · exact Or.inr (Or.inr (Or.inl (by rw [h]; simp [DataW.weights])))))
        have e : s.data.toList.length = s.size := by rw [Array.length_toList]; rfl
        rw [e] at this
        have h : s.size ≤ reachBytes := by simpa using this
        exact h
      exact ⟨y0, y1, y2, y3, rfl, by simpa [Rng, Lit.wf, IntKind.min, IntKind.max, IntKind.signed, IntKind.bits] using w0, by simpa [Rng, Lit.wf, IntKind.min, IntKind.max, IntKind.signed, IntKind.bits] using w3, reach _ (Or.inl (by rw [hy1])), reach _ (Or.inr (by rw [hy2]))⟩
end Go.Proofs.YtajlngkakpjncaaDoor

namespace Go.Proofs.YtajlngkakpjncaaDoor
set_option linter.unusedVariables false
set_option linter.unusedSimpArgs false
open Go.ChangeShapes Go.WideShapes Go.ChangeAt Go.RowKit

theorem weightsAll_mem {H : Type} {P : Program} {e : TypeId} : ∀ {l : List (DataW H)} {d : DataW H}, d ∈ l → ∀ n ∈ d.weights P e, n ∈ DataW.weightsAll P e l
  | x :: l, d, h, n, hn => by
    simp only [DataW.weightsAll, List.mem_append]
    rcases List.mem_cons.1 h with rfl | h
    · exact Or.inl hn
    · exact Or.inr (weightsAll_mem h n hn)
set_option maxRecDepth 100000 in
theorem open_rows {H : Type} {enc : TypeId × Value → H} {w : World} {b0 : Nat} {v : Value} {d : DataW H} {p : List MemPlace} {ts : List TypeId} {ds : List (DataW H)} {j : Nat} (hv : Value.okWide Tryd.prog w .any b0 62 v) (h : DataW.Trod enc Tryd.prog w 0 (fun _ => true) true 62 v d p)
    (hw : (DataW.weightsEach Tryd.prog ts ds).all (· ≤ reachBytes) = true) (ht : ts[j]? = some 62) (hd : ds[j]? = some d) :
    ∃ a n cap, v = .slice a n cap ∧ RowsV w a n ∧ n ≤ 140737488355328 := by
  have c1 : Tryd.prog.cellsOf 22 = 1 := by kernel_rfl
  obtain ⟨a0, len, cap, rfl⟩ := okWide_slice Tryd.underlying62 hv
  obtain ⟨fuel, hf⟩ := h
  rcases Go.Deep.open_slice Tryd.underlying62 hf with ⟨hcs, hx⟩ | ⟨a, len', cap', m, n, D, Pl, hcs, hb, hl, hm, hmm, hx, hel⟩
  · simp [Value.cells] at hcs
    obtain ⟨rfl, rfl, rfl⟩ := hcs
    exact ⟨none, 0, 0, rfl, Or.inl rfl, by omega⟩
  · simp [Value.cells] at hcs
    obtain ⟨rfl, rfl, rfl⟩ := hcs
    simp only [Prod.mk.injEq] at hx
    have hmc : m = cap := by simpa using hmm
    have hdd := hx.1
    have hsl := sized_slice hw ht (by rw [← hdd]; exact hd) Tryd.underlying62
    rw [show Tryd.prog.bytesOf 22 = 24 from by kernel_rfl] at hsl
    simp only [List.length_map, List.length_range] at hsl
    have hrb : reachBytes = 140737488351232 := rfl
    refine ⟨some a, len, cap, rfl, ?_, by omega⟩
    rcases Nat.eq_zero_or_pos len with h0 | h0
    · exact Or.inl h0
    right
    obtain ⟨b, off, spot⟩ := a
    have hcell : ∀ i, i < len → ∃ c, w.cell? ((⟨b, off, spot⟩ : Addr).add i) = some c ∧ DataW.trod enc Tryd.prog w 0 (fun _ => true) true n 22 [c] = some (D i, Pl i) := by
      intro i hi
      obtain ⟨cs, h1, h2⟩ := hel i (by omega)
      rw [c1, Nat.mul_one] at h1
      obtain ⟨_, h3, h4⟩ := World.cells?_some h1
      match cs, h3 with
      | [c], _ =>
        have h5 := h4 0 (by omega)
        simp only [List.getElem?_cons_zero] at h5
        refine ⟨c, ?_, h2⟩
        rw [← h5]
        try rfl
        try (congr 1; unfold Addr.add; split <;> simp_all)
    have hspot : spot = none := by
      obtain ⟨c, h1, _⟩ := hcell 0 h0
      simpa [Addr.add] using World.cell?_spot h1
    subst hspot
    have hadd : ∀ i, (⟨b, off, none⟩ : Addr).add i = ⟨b, off + i, none⟩ := fun i => by unfold Addr.add; split <;> simp_all
    refine ⟨b, off, rfl, ?_, fun i hi => ?_⟩
    · obtain ⟨c, h1, _⟩ := hcell 0 h0
      exact World.block_lt_of_cell? w _ (by rw [hadd] at h1; exact h1)
    · obtain ⟨c, h1, h2⟩ := hcell i hi
      rw [hadd] at h1
      obtain ⟨az, cz, Z, rfl, hz, _⟩ := sl_of_trod (y := (D i, Pl i)) h2 (fun elems sp he => by
        have := List.all_eq_true.1 hw _ (DataW.weights_mem_each ht hd ((elems.length + sp.length) * Tryd.prog.bytesOf 3) (by
          rw [hdd]
          simp only [DataW.weights, Tryd.underlying62, List.mem_cons, List.mem_append]
          refine Or.inr (Or.inl (weightsAll_mem (List.mem_map.2 ⟨i, List.mem_range.2 hi, rfl⟩) _ ?_))
          rw [show D i = _ from he]
          simp [DataW.weights, Tryd.underlying22]))
        simpa using this)
      exact ⟨az, cz, Z, h1, hz⟩
end Go.Proofs.YtajlngkakpjncaaDoor
