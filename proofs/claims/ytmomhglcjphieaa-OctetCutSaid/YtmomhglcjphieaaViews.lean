/- What a slice that came in holds in memory: of integers, of strings, of pairs. -/
import Derived.Test.YtmomhglcjphieaaLaw
import Derived.Deep.Slices
namespace Go.Proofs.Ytmomhglcjphieaa
set_option linter.unusedVariables false
open Go.ChangeShapes Go.WideShapes Go.ChangeAt Go.RowKit

section
variable {H : Type} {enc : TypeId × Value → H} {P : Program} {w : World} {spare : Nat → Bool} {held : Bool} {r : Reach} {b0 : Nat}

/-- what a slice argument is, element by element; 'Cell i b o': what is known of the cells of element i, that begin at ⟨b, o⟩ -/
theorem open_view {t e : TypeId} {v : Value} {d : DataW H} {p : List MemPlace} {sz bytes : Nat} (hs : P.underlying t = some (.slice e)) (hsz : P.cellsOf e = sz) (hpos : 0 < sz)
    (hby : P.bytesOf e = bytes) (hv : Value.okWide P w r b0 t v) (h : DataW.Trod enc P w 0 (fun _ => true) true t v d p)
    (hreach : ∀ elems sp, d = .slice elems sp → (elems.length + sp.length) * P.bytesOf e ≤ reachBytes) :
    ∃ (a : Option Addr) (n cap : Nat), v = .slice a n cap ∧ n ≤ cap ∧ cap * bytes ≤ 140737488351232 ∧
      (n = 0 ∨ ∃ b off, a = some ⟨b, off, none⟩ ∧ ∀ i, i < n → ∃ cs m y, cs.length = sz ∧ (∀ j, j < sz → w.cell? ⟨b, off + i * sz + j, none⟩ = cs[j]?) ∧ DataW.trod enc P w 0 (fun _ => true) true m e cs = some y) := by
  obtain ⟨a0, len, cap, rfl⟩ := okWide_slice hs hv
  obtain ⟨fuel, hf⟩ := h
  rcases Go.Deep.open_slice hs hf with ⟨hcs, hx⟩ | ⟨a, len', cap', m, n, D, Pl, hcs, hb, hl, hm, hmm, hx, hel⟩
  · simp [Value.cells] at hcs
    obtain ⟨rfl, rfl, rfl⟩ := hcs
    exact ⟨none, 0, 0, rfl, Nat.le_refl _, by omega, Or.inl rfl⟩
  · simp [Value.cells] at hcs
    obtain ⟨rfl, rfl, rfl⟩ := hcs
    simp only [Prod.mk.injEq] at hx
    have hmc : m = cap := by simpa using hmm
    have hr := hreach _ _ hx.1
    simp only [List.length_map, List.length_range] at hr
    have e1 : len + (m - len) = cap := by omega
    rw [e1, hby] at hr
    refine ⟨some a, len, cap, rfl, hl, hr, ?_⟩
    rcases Nat.eq_zero_or_pos len with h0 | h0
    · exact Or.inl h0
    right
    obtain ⟨b, off, spot⟩ := a
    have hcell : ∀ i, i < len → ∃ cs y, cs.length = sz ∧ (∀ j, j < sz → w.cell? ((((⟨b, off, spot⟩ : Addr).add (i * sz)).add j)) = cs[j]?) ∧ (∀ j, j < sz → cs[j]? ≠ none) ∧ DataW.trod enc P w 0 (fun _ => true) true n e cs = some y := by
      intro i hi
      obtain ⟨cs, h1, h2⟩ := hel i (by omega)
      rw [hsz] at h1
      obtain ⟨_, h3, h4⟩ := World.cells?_some h1
      refine ⟨cs, _, h3, fun j hj => h4 j hj, fun j hj => ?_, h2⟩
      rw [List.getElem?_eq_getElem (by omega)]
      simp
    have hspot : spot = none := by
      obtain ⟨cs, y, h1, h2, h3, _⟩ := hcell 0 h0
      have h4 := h2 0 hpos
      have h5 := h3 0 hpos
      cases hv0 : cs[0]? with
      | none => exact absurd hv0 h5
      | some v0 =>
        rw [hv0] at h4
        simpa [Addr.add] using World.cell?_spot h4
    subst hspot
    refine ⟨b, off, rfl, fun i hi => ?_⟩
    obtain ⟨cs, y, h1, h2, _, h4⟩ := hcell i hi
    refine ⟨cs, n, y, h1, fun j hj => ?_, h4⟩
    rw [← h2 j hj]
    congr 1
    have e1 : (⟨b, off, none⟩ : Addr).add (i * sz) = ⟨b, off + i * sz, none⟩ := by unfold Addr.add; split <;> simp_all
    have e2 : (⟨b, off + i * sz, none⟩ : Addr).add j = ⟨b, off + i * sz + j, none⟩ := by unfold Addr.add; split <;> simp_all
    rw [e1, e2]

/-- one function for the elements -/
theorem list_of {α : Type} [Inhabited α] {n : Nat} {p : Nat → α → Prop} (h : ∀ i, i < n → ∃ x, p i x) : ∃ l : List α, l.length = n ∧ ∀ i, i < n → p i (l.getD i default) := by
  obtain ⟨f, hf⟩ := Go.Deep.choose_lt h
  refine ⟨(List.range n).map f, by simp, fun i hi => ?_⟩
  have : ((List.range n).map f).getD i default = f i := by simp [List.getD, hi]
  rw [this]
  exact hf i hi

def IntsAt (w : World) (a : Option Addr) (Z : List Int) (n : Nat) : Prop :=
  Z.length = n ∧ (n = 0 ∨ ∃ b off, a = some ⟨b, off, none⟩ ∧ ∀ t, t < n → w.cell? ⟨b, off + t, none⟩ = some (.int .i64 (Z.getD t 0)))
def StrsAt (w : World) (a : Option Addr) (Z : List ByteArray) (n : Nat) : Prop :=
  Z.length = n ∧ (n = 0 ∨ ∃ b off, a = some ⟨b, off, none⟩ ∧ ∀ t, t < n → w.cell? ⟨b, off + t, none⟩ = some (.string (Z.getD t ByteArray.empty)))

theorem open_ints_at {t e : TypeId} {v : Value} {d : DataW H} {p : List MemPlace} (hs : P.underlying t = some (.slice e)) (he : P.underlying e = some (.int .i64)) (hc : P.cellsOf e = 1) (hby : P.bytesOf e = 8)
    (hv : Value.okWide P w r b0 t v) (h : DataW.Trod enc P w 0 (fun _ => true) true t v d p)
    (hreach : ∀ elems sp, d = .slice elems sp → (elems.length + sp.length) * P.bytesOf e ≤ reachBytes) :
    ∃ (a : Option Addr) (n cap : Nat) (Z : List Int), v = .slice a n cap ∧ IntsAt w a Z n ∧ (n ≤ cap ∧ cap * 8 ≤ 140737488351232) ∧ (∀ t, -9223372036854775808 ≤ Z.getD t 0 ∧ Z.getD t 0 ≤ 9223372036854775807) := by
  obtain ⟨a, n, cap, hv, hn, hb, hel⟩ := open_view hs hc (by omega) hby hv h hreach
  have each : ∀ i, i < n → ∃ x : Int, (∃ b off, a = some ⟨b, off, none⟩ ∧ w.cell? ⟨b, off + i, none⟩ = some (.int .i64 x)) ∧ -9223372036854775808 ≤ x ∧ x ≤ 9223372036854775807 := by
    intro i hi
    rcases hel with h0 | ⟨b, off, ha, hel⟩
    · omega
    obtain ⟨cs, m, y, h1, h2, h3⟩ := hel i hi
    obtain ⟨x, rfl, rfl, wx⟩ := DataW.trod_int he h3
    have h4 := h2 0 (by omega)
    simp only [Nat.mul_one, Nat.add_zero] at h4
    exact ⟨x, ⟨b, off, ha, h4⟩, by simpa [Lit.wf, IntKind.min, IntKind.max, IntKind.signed, IntKind.bits] using wx⟩
  obtain ⟨Z, hZ, hZ2⟩ := list_of each
  refine ⟨a, n, cap, Z, hv, ⟨hZ, ?_⟩, ⟨hn, hb⟩, fun t => ?_⟩
  · rcases Nat.eq_zero_or_pos n with h0 | h0
    · exact Or.inl h0
    · obtain ⟨⟨b, off, ha, _⟩, _⟩ := hZ2 0 h0
      refine Or.inr ⟨b, off, ha, fun t ht => ?_⟩
      obtain ⟨⟨b', off', ha', hc'⟩, _⟩ := hZ2 t ht
      rw [ha] at ha'
      simp only [Option.some.injEq, Addr.mk.injEq] at ha'
      obtain ⟨rfl, rfl, _⟩ := ha'
      exact hc'
  · rcases Nat.lt_or_ge t n with ht | ht
    · exact (hZ2 t ht).2
    · have e : Z.getD t 0 = 0 := by simp [List.getD, List.getElem?_eq_none (show Z.length ≤ t by omega)]
      rw [e]; omega

theorem open_strs_at {t e : TypeId} {v : Value} {d : DataW H} {p : List MemPlace} (hs : P.underlying t = some (.slice e)) (he : P.underlying e = some .string) (hc : P.cellsOf e = 1) (hby : P.bytesOf e = 16)
    (hv : Value.okWide P w r b0 t v) (h : DataW.Trod enc P w 0 (fun _ => true) true t v d p)
    (hreach : ∀ elems sp, d = .slice elems sp → (elems.length + sp.length) * P.bytesOf e ≤ reachBytes) :
    ∃ (a : Option Addr) (n cap : Nat) (Z : List ByteArray), v = .slice a n cap ∧ StrsAt w a Z n ∧ (n ≤ cap ∧ cap * 16 ≤ 140737488351232) ∧ (∀ t, (Z.getD t ByteArray.empty).size ≤ maxLen) := by
  obtain ⟨a, n, cap, hv, hn, hb, hel⟩ := open_view hs hc (by omega) hby hv h hreach
  have each : ∀ i, i < n → ∃ x : ByteArray, (∃ b off, a = some ⟨b, off, none⟩ ∧ w.cell? ⟨b, off + i, none⟩ = some (.string x)) ∧ x.size ≤ maxLen := by
    intro i hi
    rcases hel with h0 | ⟨b, off, ha, hel⟩
    · omega
    obtain ⟨cs, m, y, h1, h2, h3⟩ := hel i hi
    obtain ⟨x, rfl, rfl, wx⟩ := DataW.trod_string he h3
    have h4 := h2 0 (by omega)
    simp only [Nat.mul_one, Nat.add_zero] at h4
    exact ⟨x, ⟨b, off, ha, h4⟩, wx⟩
  obtain ⟨Z, hZ, hZ2⟩ := list_of each
  refine ⟨a, n, cap, Z, hv, ⟨hZ, ?_⟩, ⟨hn, hb⟩, fun t => ?_⟩
  · rcases Nat.eq_zero_or_pos n with h0 | h0
    · exact Or.inl h0
    · obtain ⟨⟨b, off, ha, _⟩, _⟩ := hZ2 0 h0
      refine Or.inr ⟨b, off, ha, fun t ht => ?_⟩
      obtain ⟨⟨b', off', ha', hc'⟩, _⟩ := hZ2 t ht
      rw [ha] at ha'
      simp only [Option.some.injEq, Addr.mk.injEq] at ha'
      obtain ⟨rfl, rfl, _⟩ := ha'
      exact hc'
  · rcases Nat.lt_or_ge t n with ht | ht
    · exact (hZ2 t ht).2
    · have e : Z.getD t ByteArray.empty = ByteArray.empty := by simp [List.getD, List.getElem?_eq_none (show Z.length ≤ t by omega)]
      rw [e]; decide

end
end Go.Proofs.Ytmomhglcjphieaa
