/- What a call that was run once gives, set into another run. -/
import Derived.Test.YtpfjakcfjpgbmaaGreatDoorRxC
namespace Go.Rx
set_option linter.unusedVariables false
set_option linter.unusedSimpArgs false

/-- What a call gives: its value, and the blocks that the value hangs on, under the names of the run that made them. -/
structure Ret where
  objs : List (Nat × AObj)
  v : Value

def newName : List (Nat × AObj) → Nat → Nat → Option Nat
  | [], _, _ => none
  | (i, _) :: l, n, j => match Nat.beq i j with
    | true => some n
    | false => newName l (n + 1) j
/-- A value under new names. -/
def ren1 (σ : Nat → Option Nat) : Value → Option Value
  | .bool b => some (.bool b)
  | .int k n => some (.int k n)
  | .string s => some (.string s)
  | .pointer none => some (.pointer none)
  | .pointer (some ⟨i, off, none⟩) => match σ i with
    | some j => some (.pointer (some ⟨j, off, none⟩))
    | none => none
  | .slice none l c => match l, c with
    | 0, 0 => some (.slice none 0 0)
    | 0, 1 => some (.slice none 0 1)
    | _, _ => none
  | .slice (some ⟨i, off, none⟩) l c => match σ i with
    | some j => some (.slice (some ⟨j, off, none⟩) l c)
    | none => none
  | .map none => some (.map none)
  | .nilFunc => some .nilFunc
  | .nilIface => some .nilIface
  | _ => none
def renL (σ : Nat → Option Nat) : List Value → Option (List Value)
  | [] => some []
  | v :: l => match ren1 σ v, renL σ l with
    | some v, some l => some (v :: l)
    | _, _ => none
def renV (σ : Nat → Option Nat) : Value → Option Value
  | .agg a => match renL σ a.toList with
    | some l => some (.agg ⟨l⟩)
    | none => none
  | v => ren1 σ v
def renVL (σ : Nat → Option Nat) : List Value → Option (List Value)
  | [] => some []
  | v :: l => match renV σ v, renVL σ l with
    | some v, some l => some (v :: l)
    | _, _ => none
def renR (σ : Nat → Option Nat) : Value → Option Value
  | .tuple a => match renVL σ a.toList with
    | some l => some (.tuple ⟨l⟩)
    | none => none
  | v => renV σ v
def renO (σ : Nat → Option Nat) : AObj → Option AObj
  | .cells c t f0 f1 lo => match Nat.ble f0 1048576 with
    | true => match renL σ c with
      | some c => some (.cells c t f0 f1 lo)
      | none => none
    | false => none
  | _ => none
def renOs (σ : Nat → Option Nat) : List (Nat × AObj) → Option (List AObj)
  | [] => some []
  | (_, o) :: l => match renO σ o, renOs σ l with
    | some o, some l => some (o :: l)
    | _, _ => none
noncomputable section
variable {σ : Nat → Option Nat} {ρ ρ' : Ren}
theorem ren1_rel (hσ : ∀ i j, σ i = some j → ∀ L, ρ i = some L → ρ' j = some L) {v u v' : Value} (h : ren1 σ v = some u) (r : VRel ρ v v') : VRel ρ' u v' := by
  unfold ren1 at h
  split at h <;> first
    | (cases h; cases r; constructor; done)
    | (cases h; done)
    | skip
  · split at h
    · rename_i hj
      cases h
      cases r with
      | ptr _ hL => exact .ptr _ (hσ _ _ hj _ hL)
    · cases h
  · split at h <;> first
      | (cases h; cases r; constructor; done)
      | (cases h; done)
  · split at h
    · rename_i hj
      cases h
      cases r with
      | slice _ _ hL hs => exact .slice _ _ (hσ _ _ hj _ hL) hs
    · cases h
theorem renL_rel (hσ : ∀ i j, σ i = some j → ∀ L, ρ i = some L → ρ' j = some L) : ∀ {l u l' : List Value}, renL σ l = some u → VRels ρ l l' → VRels ρ' u l'
  | [], _, _, h, r => by cases h; cases r; exact .nil
  | v :: l, u, l', h, r => by
    unfold renL at h
    split at h
    · rename_i h1 h2
      cases h
      cases r with
      | cons r1 r2 => exact .cons (ren1_rel hσ h1 r1) (renL_rel hσ h2 r2)
    · cases h
theorem renV_rel (hσ : ∀ i j, σ i = some j → ∀ L, ρ i = some L → ρ' j = some L) {v u v' : Value} (h : renV σ v = some u) (r : VRel ρ v v') : VRel ρ' u v' := by
  unfold renV at h
  split at h
  · split at h
    · rename_i h1
      cases h
      cases r with
      | agg r => exact .agg (renL_rel hσ h1 r)
    · cases h
  · exact ren1_rel hσ h r
theorem renVL_rel (hσ : ∀ i j, σ i = some j → ∀ L, ρ i = some L → ρ' j = some L) : ∀ {l u l' : List Value}, renVL σ l = some u → VRels ρ l l' → VRels ρ' u l'
  | [], _, _, h, r => by cases h; cases r; exact .nil
  | v :: l, u, l', h, r => by
    unfold renVL at h
    split at h
    · rename_i h1 h2
      cases h
      cases r with
      | cons r1 r2 => exact .cons (renV_rel hσ h1 r1) (renVL_rel hσ h2 r2)
    · cases h
theorem renR_rel (hσ : ∀ i j, σ i = some j → ∀ L, ρ i = some L → ρ' j = some L) {v u v' : Value} (h : renR σ v = some u) (r : VRel ρ v v') : VRel ρ' u v' := by
  unfold renR at h
  split at h
  · split at h
    · rename_i h1
      cases h
      cases r with
      | tuple r => exact .tuple (renVL_rel hσ h1 r)
    · cases h
  · exact renV_rel hσ h r
theorem renL_len : ∀ {l u : List Value}, renL σ l = some u → u.length = l.length
  | [], _, h => by cases h; rfl
  | v :: l, u, h => by
    unfold renL at h
    split at h
    · rename_i h1 h2; cases h; simp [renL_len h2]
    · cases h
theorem renO_rel {L : Loc} {w : World} (hσ : ∀ i j, σ i = some j → ∀ L, ρ i = some L → ρ' j = some L) {o u : AObj} (h : renO σ o = some u) (r : LiveObj ρ L w o) : LiveObj ρ' L w u := by
  unfold renO at h
  split at h
  · split at h
    case h_2 => cases h
    split at h
    · rename_i h1
      cases h
      obtain ⟨h0, cs, el, fr, q1, q2, q3, q4, q5, q6, q7⟩ := r
      have hl := renL_len h1
      exact ⟨h0, cs, el, fr, q1, q2, q3, by rw [hl]; exact q4, by rw [hl]; exact q5, by rw [hl]; exact renL_rel hσ h1 q6, q7⟩
    · cases h
  · cases h
theorem renOs_get {l : List (Nat × AObj)} : ∀ {us : List AObj} {k : Nat} {i : Nat} {o : AObj}, renOs σ l = some us → l[k]? = some (i, o) → ∃ u, us[k]? = some u ∧ renO σ o = some u := by
  induction l with
  | nil => intro us k i o _ hk; cases hk
  | cons q l ih =>
    obtain ⟨j, p⟩ := q
    intro us k i o h hk
    unfold renOs at h
    split at h
    · rename_i h1 h2
      cases h
      cases k with
      | zero => cases hk; exact ⟨_, rfl, h1⟩
      | succ k => obtain ⟨u, e1, e2⟩ := ih h2 hk; exact ⟨u, e1, e2⟩
    · cases h
theorem renOs_len : ∀ {l : List (Nat × AObj)} {us : List AObj}, renOs σ l = some us → us.length = l.length
  | [], _, h => by cases h; rfl
  | (j, p) :: l, us, h => by
    unfold renOs at h
    split at h
    · rename_i h1 h2; cases h; simp [renOs_len h2]
    · cases h
theorem newName_some : ∀ {l : List (Nat × AObj)} {n i j : Nat}, newName l n i = some j → ∃ k o, l[k]? = some (i, o) ∧ j = n + k
  | [], _, _, _, h => by cases h
  | (a, o) :: l, n, i, j, h => by
    unfold newName at h
    split at h
    · rename_i hb
      have := Nat.eq_of_beq_eq_true hb
      subst this
      cases h
      exact ⟨0, o, rfl, rfl⟩
    · obtain ⟨k, p, h1, h2⟩ := newName_some h
      exact ⟨k + 1, p, h1, by omega⟩
end

/-- New blocks one after the other. -/
noncomputable def X.news : List AObj → X Unit
  | [] => X.pure ()
  | o :: l => (X.new o).bind fun _ => X.news l
theorem X.news_some : ∀ {l : List AObj} {s s' : St}, (X.news l).run s = some ((), s') → s'.nx = s.nx + l.length ∧ (∀ k, k < l.length → s.h.get (s.nx + k) = none) ∧
    ∀ i, s'.h.get i = if s.nx ≤ i ∧ i < s.nx + l.length then l[i - s.nx]? else s.h.get i := by
  intro l
  induction l with
  | nil =>
    intro s s' h
    obtain ⟨_, rfl⟩ := X.pure_some h
    exact ⟨rfl, fun k hk => by simp at hk, fun i => by rw [if_neg (fun hh => by have h1 := hh.1; have h2 := hh.2; simp only [List.length_nil] at h2; omega)]⟩
  | cons o l ih =>
    intro s s' h
    obtain ⟨i0, s1, h1, h2⟩ := X.bind_some h
    obtain ⟨rfl, e1, e2, e3⟩ := X.new_some h1
    obtain ⟨f1, f2, f3⟩ := ih h2
    refine ⟨by rw [f1, e3]; simp; omega, fun k hk => ?_, fun i => ?_⟩
    · cases k with
      | zero => exact e1
      | succ k =>
        have := f2 k (by simp at hk; omega)
        rw [e2, e3, T.get_set] at this
        split at this
        · cases this
        · rw [show s.nx + (k + 1) = s.nx + 1 + k from by omega]; exact this
    · rw [f3, e3, e2, T.get_set]
      simp only [List.length_cons]
      by_cases h : s.nx = i
      · subst h
        rw [if_neg (by omega), if_pos rfl, if_pos (by omega)]
        simp
      · rw [if_neg h]
        by_cases h3 : s.nx + 1 ≤ i ∧ i < s.nx + 1 + l.length
        · rw [if_pos h3, if_pos (by omega), show i - s.nx = (i - (s.nx + 1)) + 1 from by omega]
          rfl
        · rw [if_neg h3, if_neg (by omega)]

noncomputable section
variable {P : Program} {N0 b0 : Nat} {w0 : World} {ρ ρ' : Ren} {w w' : World} {h h' : T AObj}
/-- A run from the world w, begun with nothing of its own, is set into the run that came to w. -/
theorem Rel.embed (r : Rel N0 b0 w0 ρ h w) (r' : Rel N0 w.heap.size w ρ' h' w') {nx : Nat} (hN : N0 ≤ nx) {l : List (Nat × AObj)} (hl : ∀ (k i : Nat) (o : AObj), l[k]? = some (i, o) → N0 ≤ i ∧ h'.get i = some o)
    (hnd : ∀ (k k' i : Nat) (o o' : AObj), l[k]? = some (i, o) → l[k']? = some (i, o') → k = k') {us : List AObj} (hus : renOs (newName l nx) l = some us) (hfree : ∀ k, k < us.length → h.get (nx + k) = none)
    {h2 : T AObj} (hh : ∀ i, h2.get i = if nx ≤ i ∧ i < nx + us.length then us[i - nx]? else h.get i) :
    ∃ ρ2, ρ.le ρ2 ∧ Rel N0 b0 w0 ρ2 h2 w' ∧ ∀ i j, newName l nx i = some j → ∀ L, ρ' i = some L → ρ2 j = some L := by
  have hlen := renOs_len hus
  let ρ2 : Ren := fun j => if nx ≤ j ∧ j < nx + us.length then (l[j - nx]?).bind fun p => ρ' p.1 else ρ j
  have hin : ∀ (k i : Nat) (o : AObj), l[k]? = some (i, o) → ρ2 (nx + k) = ρ' i := fun k i o hk => by
    have : k < l.length := (List.getElem?_eq_some_iff.1 hk).1
    show (if _ then _ else _) = _
    rw [if_pos ⟨by omega, by omega⟩, Nat.add_sub_cancel_left, hk]
    rfl
  have hout : ∀ j, ¬ (nx ≤ j ∧ j < nx + us.length) → ρ2 j = ρ j := fun j hj => if_neg hj
  have hle : ρ.le ρ2 := fun j L e => by
    by_cases hj : nx ≤ j ∧ j < nx + us.length
    · have := hfree (j - nx) (by omega)
      rw [show nx + (j - nx) = j from by omega] at this
      rw [r.new j (by omega) this] at e
      cases e
    · rw [hout j hj]; exact e
  have hσ : ∀ i j, newName l nx i = some j → ∀ L, ρ' i = some L → ρ2 j = some L := fun i j hj L hL => by
    obtain ⟨k, o, h1, rfl⟩ := newName_some hj
    rw [hin k i o h1]; exact hL
  have old : ∀ k, k < w.heap.size → w'.heap[k]? = w.heap[k]? := r'.low
  -- a block of the heap: an old one, or one that was set in
  have kind : ∀ j oj, h2.get j = some oj → (h.get j = some oj ∧ ρ2 j = ρ j) ∨ ∃ k i o, l[k]? = some (i, o) ∧ j = nx + k ∧ renO (newName l nx) o = some oj ∧ ρ2 j = ρ' i ∧ N0 ≤ i ∧ h'.get i = some o := fun j oj hj => by
    rw [hh] at hj
    split at hj
    · rename_i hr
      right
      have hk : j - nx < l.length := by omega
      obtain ⟨p, hp⟩ : ∃ p, l[j - nx]? = some p := ⟨l[j - nx], List.getElem?_eq_getElem hk⟩
      obtain ⟨i, o⟩ := p
      obtain ⟨u, h1, h3⟩ := renOs_get hus hp
      rw [hj] at h1
      cases h1
      obtain ⟨g1, g2⟩ := hl _ _ _ hp
      have e : j = nx + (j - nx) := by omega
      exact ⟨j - nx, i, o, hp, e, h3, by rw [e]; exact hin _ i o hp, g1, g2⟩
    · rename_i hr
      exact .inl ⟨hj, hout j hr⟩
  have notdead : ∀ {o u}, renO (newName l nx) o = some u → o.live = true ∧ u.live = true ∧ o.seal = false := fun h => by
    unfold renO at h
    split at h
    · split at h
      case h_2 => cases h
      case h_1 hf =>
        split at h
        · cases h
          exact ⟨rfl, rfl, not_seal (Nat.le_of_ble_eq_true hf)⟩
        · cases h
    · cases h
  refine ⟨ρ2, hle, ⟨fun g hg => ?_, fun j oj hj => ?_, fun i j oi oj Li Lj hi hj li lj ei ej hb => ?_, fun j hj hn => ?_, fun j oj L hoj lj hj e => ?_, fun j hj => ?_, ?_, r.n0le, r'.os.trans r.os, r'.out.trans r.out⟩, hσ⟩
  · obtain ⟨L, e, x⟩ := r.glob g hg
    exact ⟨L, hle _ _ e, x⟩
  · rcases kind j oj hj with ⟨h1, h3⟩ | ⟨k, i, o, _, _, h5, h6, _, h8⟩
    · obtain ⟨L, e, x⟩ := r.obj j oj h1
      exact ⟨L, hle _ _ e, x.congr hle fun hlv => old _ (x.lt hlv)⟩
    · obtain ⟨L, e, x⟩ := r'.obj i o h8
      exact ⟨L, h6.trans e, renO_rel hσ h5 x⟩
  · have place : ∀ j oj Lj, h2.get j = some oj → oj.live = true → ρ2 j = some Lj → (h.get j = some oj ∧ ρ j = some Lj ∧ Lj.blk < w.heap.size) ∨
        ∃ k i o, l[k]? = some (i, o) ∧ j = nx + k ∧ h'.get i = some o ∧ o.live = true ∧ ρ' i = some Lj ∧ w.heap.size ≤ Lj.blk ∧ o.seal = false := fun j oj Lj hj lj ej => by
      rcases kind j oj hj with ⟨h1, h3⟩ | ⟨k, i, o, h3, h4, h5, h6, h7, h8⟩
      · rw [h3] at ej
        obtain ⟨M, e, x⟩ := r.obj j oj h1
        rw [ej] at e
        cases e
        exact .inl ⟨h1, ej, x.lt lj⟩
      · rw [h6] at ej
        exact .inr ⟨k, i, o, h3, h4, h8, (notdead h5).1, ej, r'.fresh i o Lj h8 (notdead h5).1 h7 ej, (notdead h5).2.2⟩
    rcases place i oi Li hi li ei with ⟨a1, a2, a3⟩ | ⟨k, ii, o, a1, a2, a3, a4, a5, a6, a7⟩ <;> rcases place j oj Lj hj lj ej with ⟨c1, c2, c3⟩ | ⟨k', jj, o', c1, c2, c3, c4, c5, c6, c7⟩
    · refine (r.apart i j oi oj Li Lj a1 c1 li lj a2 c2 hb).imp id fun x => x.mono fun k o hk _ => ?_
      rw [hh, if_neg fun hr => ?_]
      · exact hk
      · have := hfree (k - nx) (by omega)
        rw [show nx + (k - nx) = k from by omega, hk] at this
        cases this
    · omega
    · omega
    · rcases r'.apart ii jj o o' Li Lj a3 c3 a4 c4 a5 c5 hb with this | this
      · subst this
        have := hnd k k' ii o o' a1 c1
        exact .inl (by omega)
      · exact absurd (a7.symm.trans this.si) (by simp)
  · rw [hh] at hn
    split at hn
    · rename_i hr
      have hk : j - nx < us.length := by omega
      rw [List.getElem?_eq_getElem hk] at hn
      cases hn
    · rename_i hr
      rw [hout j hr]
      exact r.new j hj hn
  · rcases kind j oj hoj with ⟨h1, h3⟩ | ⟨k, i, o, _, _, h5, h6, h7, h8⟩
    · rw [h3] at e
      exact r.fresh j oj L h1 lj hj e
    · rw [h6] at e
      have := r'.fresh i o L h8 (notdead h5).1 h7 e
      have := r.b0le
      omega
  · rw [old j (Nat.lt_of_lt_of_le hj r.b0le)]
    exact r.low j hj
  · exact Nat.le_trans r.b0le r'.b0le
end
end Go.Rx
