/- Rows read off the tree heap, as data in memory; memory that a walk made, with a name. -/
import Derived.Test.YtpfjakcfjpgbmaaGreatDoorZN10
import Derived.Test.YtpfjakcfjpgbmaaGreatDoorZN14
namespace Go.Rx
set_option linter.unusedVariables false
set_option linter.unusedSimpArgs false
open Go.RowKit
section
variable {P : Program} {N0 b0 : Nat} {w0 : World} {ρ : Ren} {h : T AObj} {w : World}

/-- A walk made memory; a new block gets a name. -/
theorem Rel.made (r : Rel N0 b0 w0 ρ h w) {W : World} (b : Below w.heap.size w W) {i : Nat} (hi : N0 ≤ i) (hn : h.get i = none) (o : AObj) (L : Loc) (hL : w.heap.size ≤ L.blk)
    (hO : LiveObj (ρ.put i L) L W o) : Rel N0 b0 w0 (ρ.put i L) (h.set i o) W := by
  have hle : ρ.le (ρ.put i L) := Ren.le_put (r.new i hi hn)
  refine ⟨fun g hg => ?_, fun j oj hj => ?_, fun j k oj ok Lj Lk hj hk lj lk ej ek hb => ?_, fun j hj hjn => ?_, fun j oj M hoj lj hj e => ?_, fun j hj => ?_, Nat.le_trans r.b0le b.size, r.n0le, b.os.trans r.os, b.output.trans r.out⟩
  · obtain ⟨M, e, x⟩ := r.glob g hg
    exact ⟨M, hle _ _ e, x⟩
  · rw [T.get_set] at hj
    split at hj
    · cases hj
      subst_vars
      exact ⟨L, Ren.put_self, hO⟩
    · obtain ⟨M, e, x⟩ := r.obj j oj hj
      exact ⟨M, hle _ _ e, x.congr hle fun hl => b.block _ (x.lt hl)⟩
  · have lt : ∀ j oj Lj, h.get j = some oj → oj.live = true → ρ.put i L j = some Lj → i ≠ j → ρ j = some Lj ∧ Lj.blk < w.heap.size := fun j oj Lj hj lj ej hne => by
      obtain ⟨M, e, x⟩ := r.obj j oj hj
      have : ρ.put i L j = ρ j := if_neg (Ne.symm hne)
      rw [this] at ej
      rw [ej] at e
      cases e
      exact ⟨ej, x.lt lj⟩
    rw [T.get_set] at hj hk
    by_cases hij : i = j <;> by_cases hik : i = k
    · exact .inl (hij.symm.trans hik)
    · rw [if_neg hik] at hk
      subst hij
      rw [Ren.put_self] at ej
      cases ej
      have := (lt k ok Lk hk lk ek hik).2
      omega
    · rw [if_neg hij] at hj
      subst hik
      rw [Ren.put_self] at ek
      cases ek
      have := (lt j oj Lj hj lj ej hij).2
      omega
    · rw [if_neg hij] at hj
      rw [if_neg hik] at hk
      exact (r.apart j k oj ok Lj Lk hj hk lj lk (lt j oj Lj hj lj ej hij).1 (lt k ok Lk hk lk ek hik).1 hb).imp id fun x => x.mono fun m o hm _ => by
        rw [T.get_set, if_neg (fun e => by rw [← e, hn] at hm; cases hm)]; exact hm
  · rw [T.get_set] at hjn
    split at hjn
    · cases hjn
    · show (if j = i then some L else ρ j) = none
      rw [if_neg (by rintro rfl; contradiction)]
      exact r.new j hj hjn
  · by_cases hji : j = i
    · subst hji
      rw [Ren.put_self] at e
      cases e
      exact Nat.le_trans r.b0le hL
    · have : ρ.put i L j = ρ j := if_neg hji
      rw [this] at e
      rw [T.get_set, if_neg (Ne.symm hji)] at hoj
      exact r.fresh j oj M hoj lj hj e
  · exact (b.block j (Nat.lt_of_lt_of_le hj r.b0le)).trans (r.low j hj)

/-- A slice's cells. -/
noncomputable def rowX (sz : Nat) : Value → X (List Value)
  | .slice (some ⟨i, off, none⟩) n c => match Nat.ble n c with
    | true => match Nat.ble n 1048576 with
      | true => fN (n * sz) fun m => (X.rdc i off m).bind fun p => X.pure p.1
      | false => X.fail
    | false => X.fail
  | .slice none 0 0 => X.pure []
  | .slice none 0 1 => X.pure []
  | _ => X.fail
/-- l is what the slice x' holds -/
def RowOk (ρ : Ren) (w : World) (sz : Nat) (x' : Value) (l : List Value) : Prop := ∃ a n c, x' = .slice a n c ∧ n ≤ c ∧ n ≤ 1048576 ∧ l.length = n * sz ∧
  (n = 0 ∨ ∃ b off, a = some ⟨b, off, none⟩ ∧ b < w.heap.size ∧ ∀ q v, l[q]? = some v → ∃ v', w.cell? ⟨b, off + q, none⟩ = some v' ∧ VRel ρ v v')
theorem rowX_ok {sz : Nat} {x x' : Value} {s s' : St} {l : List Value} (r : Rel N0 b0 w0 ρ s.h w) (hx : VRel ρ x x') (hr : (rowX sz x).run s = some (l, s')) : s'.h = s.h ∧ s'.nx = s.nx ∧ RowOk ρ w sz x' l := by
  unfold rowX at hr
  split at hr
  · rename_i i off n c
    split at hr
    case h_2 => cases hr
    case h_1 h1 =>
      split at hr
      case h_2 => cases hr
      case h_1 h2 =>
        rw [fN_eq] at hr
        obtain ⟨⟨l0, tt, f0, f1, lo⟩, s1, g1, h'⟩ := X.bind_some hr
        obtain ⟨cc, g2, e0, hlen, g3, g4⟩ := X.rdc_some g1
        obtain ⟨rfl, rfl⟩ := X.pure_some h'
        obtain ⟨L2, u, hlive⟩ := r.obj i _ g2
        cases hx with
        | slice _ _ hL hok =>
          rename_i L cap'
          rw [hL] at u
          cases u
          refine ⟨g3, g4, _, _, _, rfl, Nat.le_trans (Nat.le_of_ble_eq_true h1) hok.le, Nat.le_of_ble_eq_true h2, hlen, .inr ⟨_, _, rfl, hlive.lt rfl, fun q v hq => ?_⟩⟩
          rw [e0] at hq
          have hq2 : (cc.drop off)[q]? = some v := by
            rw [List.getElem?_take] at hq
            split at hq
            · exact hq
            · cases hq
          rw [List.getElem?_drop] at hq2
          obtain ⟨v', e1, e2⟩ := cells_rel hlive hq2
          exact ⟨v', by rw [Nat.add_assoc]; exact e1, e2⟩
  · obtain ⟨rfl, rfl⟩ := X.pure_some hr
    cases hx
    exact ⟨rfl, rfl, _, _, _, rfl, Nat.le_refl _, by omega, by simp, .inl rfl⟩
  · obtain ⟨rfl, rfl⟩ := X.pure_some hr
    cases hx
    exact ⟨rfl, rfl, _, _, _, rfl, Nat.zero_le _, by omega, by simp, .inl rfl⟩
  · cases hr
theorem rowX_same {sz : Nat} {x : Value} {s s' : St} {l : List Value} (hr : (rowX sz x).run s = some (l, s')) : s'.h = s.h ∧ s'.nx = s.nx := by
  unfold rowX at hr
  split at hr
  · split at hr
    case h_2 => cases hr
    case h_1 h1 =>
      split at hr
      case h_2 => cases hr
      case h_1 h2 =>
        rw [fN_eq] at hr
        obtain ⟨⟨l0, tt, f0, f1, lo⟩, s1, g1, h'⟩ := X.bind_some hr
        obtain ⟨cc, g2, e0, hlen, g3, g4⟩ := X.rdc_some g1
        obtain ⟨rfl, rfl⟩ := X.pure_some h'
        exact ⟨g3, g4⟩
  · obtain ⟨rfl, rfl⟩ := X.pure_some hr
    exact ⟨rfl, rfl⟩
  · obtain ⟨rfl, rfl⟩ := X.pure_some hr
    exact ⟨rfl, rfl⟩
  · cases hr
end
end Go.Rx
namespace Go.Proofs.YtpfjakcfjpgbmaaGreatDoor
set_option linter.unusedVariables false
set_option linter.unusedSimpArgs false
open Go.RowKit Go.Rx
section
variable {N0 b0 : Nat} {w0 : World} {ρ : Ren} {w : World}

theorem flatX_at {α : Type} {enc : α → List Value} {sz : Nat} (hl : ∀ x, (enc x).length = sz) : ∀ (L : List α) (t : Nat) (ht : t < L.length) (j : Nat), j < sz → (L.flatMap enc)[t * sz + j]? = (enc L[t])[j]?
  | x :: L, 0, _, j, hj => by
    simp only [List.flatMap_cons, List.getElem_cons_zero]
    rw [Nat.zero_mul, Nat.zero_add, List.getElem?_append_left (by rw [hl]; exact hj)]
  | x :: L, t + 1, ht, j, hj => by
    simp only [List.flatMap_cons, List.getElem_cons_succ]
    have e : (t + 1) * sz + j = sz + (t * sz + j) := by rw [Nat.add_mul, Nat.one_mul]; omega
    rw [e, List.getElem?_append_right (by rw [hl]; omega), hl, Nat.add_sub_cancel_left]
    exact flatX_at hl L t (by simpa using ht) j hj
theorem flatX_len {α : Type} {enc : α → List Value} {sz : Nat} (hl : ∀ x, (enc x).length = sz) : ∀ (L : List α), (L.flatMap enc).length = L.length * sz
  | [] => by simp
  | x :: L => by
    have := flatX_len hl L
    simp only [List.flatMap_cons, List.length_append, hl, this, List.length_cons, Nat.add_mul, Nat.one_mul]
    omega
theorem plainL_get : ∀ {M : List Value}, plainL M = true → ∀ (j : Nat) (hj : j < M.length), plainV M[j] = true
  | [], _, j, hj => absurd hj (Nat.not_lt_zero j)
  | y :: M, h, 0, _ => by simp only [plainL, Bool.and_eq_true] at h; exact h.1
  | y :: M, h, j + 1, hj => by simp only [plainL, Bool.and_eq_true] at h; exact plainL_get h.2 j (by simpa using hj)
/-- rows of plain data -/
theorem rowX_flat {α : Type} {enc : α → List Value} {sz : Nat} (hl : ∀ x, (enc x).length = sz) (hp : ∀ x, plainL (enc x) = true) (hz : 0 < sz) {x' : Value} {L : List α} (h : RowOk ρ w sz x' (L.flatMap enc)) : SlV (flatR sz enc hl) (fun _ => True) w x' L := by
  obtain ⟨a, n, c, rfl, h1, h2, h3, h4⟩ := h
  rw [flatX_len hl] at h3
  have hn : L.length = n := Nat.eq_of_mul_eq_mul_right hz h3
  subst hn
  refine ⟨a, c, rfl, h1, by omega, ?_⟩
  rcases h4 with h4 | ⟨b, off, rfl, h5, h6⟩
  · exact .inl (List.eq_nil_of_length_eq_zero h4)
  · refine .inr ⟨b, off, rfl, trivial, h5, fun t ht => ⟨enc L[t], fun j hj => ?_, rfl⟩⟩
    have hj : j < sz := hj
    have e := flatX_at hl L t ht j hj
    have hlt : j < (enc L[t]).length := by rw [hl]; exact hj
    rw [List.getElem?_eq_getElem hlt] at e ⊢
    obtain ⟨v', e1, e2⟩ := h6 _ _ e
    have hpv : plainV (enc L[t])[j] = true := plainL_get (hp L[t]) j hlt
    rw [e2.plain_eq hpv] at e1
    rw [show off + t * (flatR sz enc hl).sz + j = off + (t * sz + j) from Nat.add_assoc _ _ _]
    exact e1
end
end Go.Proofs.YtpfjakcfjpgbmaaGreatDoor
