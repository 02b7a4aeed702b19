/- Slices: cutting, appending, copying, making; literals. -/
import Derived.Test.YtpfjakcfjpgbmaaGreatDoorRxP
namespace Go.Rx
set_option linter.unusedVariables false
set_option linter.unusedSimpArgs false
noncomputable section
variable {P : Program} {N0 b0 : Nat} {w0 : World} {ρ : Ren} {w : World}

def intArg : Option Value → Option (Option Nat)
  | none => some none
  | some (.int _ n) => match toN n with
    | some m => some (some m)
    | none => none
  | _ => none
/-- The bounds of a slice expression. -/
def bounds (len cap : Nat) (lo hi mx : Option Nat) : Option (Nat × Nat × Nat) :=
  let m := mx.getD cap
  let h := hi.getD len
  let l := lo.getD 0
  match Nat.ble m cap && Nat.ble h m && Nat.ble l h && (mx.isNone || hi.isSome) with
  | true => fN l fun l => fN h fun h => fN m fun m => some (l, h, m)
  | false => none
theorem bound_run {v : Value} {x : Option Nat} {n y : Nat} (h : intArg (some v) = some x) (hx : x = some n) (hy : n ≤ y) (c : BoundsCode) : (Instr.sliceBound v y c).run P w = .ok n w := by
  subst hx
  cases v <;> simp [intArg] at h
  split at h
  · rename_i m hm
    simp at h
    subst h
    have := toN_some hm
    subst this
    simp [Instr.sliceBound, asIntOf, hy]
  · cases h
theorem intArg_rel {v v' : Option Value} {x : Option Nat} (hv : ∀ a, v = some a → ∃ a', v' = some a' ∧ VRel ρ a a') (hn : v = none → v' = none) (h : intArg v = some x) : intArg v' = some x ∧ (v' = none ↔ x = none) := by
  cases v with
  | none => rw [hn rfl]; cases h; exact ⟨rfl, by simp⟩
  | some a =>
    obtain ⟨a', e, r⟩ := hv a rfl
    subst e
    cases a <;> simp [intArg] at h
    cases r
    refine ⟨by simpa [intArg] using h, ?_⟩
    split at h <;> simp_all
    subst h
    simp
theorem bounds_run {len cap l h m : Nat} {lo hi mx : Option Nat} {vl vh vm : Option Value} (e1 : intArg vl = some lo) (e2 : intArg vh = some hi) (e3 : intArg vm = some mx)
    (n1 : vl = none ↔ lo = none) (n2 : vh = none ↔ hi = none) (n3 : vm = none ↔ mx = none) (hb : bounds len cap lo hi mx = some (l, h, m)) (s : Bool) (cap' : Nat) (hc : cap ≤ cap') :
    (Instr.sliceBounds s len cap' vl vh vm).run P w = .ok (l, h, mx.getD cap') w ∧ l ≤ h ∧ h ≤ m ∧ m ≤ cap ∧ m = mx.getD cap := by
  unfold bounds at hb
  dsimp only at hb
  split at hb
  case h_2 => cases hb
  case h_1 hh =>
    rw [fN_eq, fN_eq, fN_eq] at hb
    cases hb
    simp only [Bool.and_eq_true, Bool.or_eq_true] at hh
    obtain ⟨⟨⟨h1, h2⟩, h3⟩, h4⟩ := hh
    have h1 := Nat.le_of_ble_eq_true h1
    have h2 := Nat.le_of_ble_eq_true h2
    have h3 := Nat.le_of_ble_eq_true h3
    refine ⟨?_, h3, h2, h1, rfl⟩
    have B : ∀ {v : Value} {n y : Nat}, intArg (some v) = some (some n) → n ≤ y → ∀ c, (Instr.sliceBound v y c).run P w = .ok n w := fun h hy c => bound_run h rfl hy c
    cases mx with
    | none =>
      have := n3.2 rfl
      subst this
      cases hi with
      | none =>
        have := n2.2 rfl
        subst this
        cases lo with
        | none =>
          have := n1.2 rfl
          subst this
          simp [Instr.sliceBounds]
        | some a =>
          obtain ⟨v, rfl⟩ : ∃ v, vl = some v := by cases vl with
            | none => exact absurd (n1.1 rfl) (by simp)
            | some v => exact ⟨v, rfl⟩
          simp only [Option.getD] at h1 h2 h3 ⊢
          simp [Instr.sliceBounds, B e1 h3]
      | some b =>
        obtain ⟨u, rfl⟩ : ∃ u, vh = some u := by cases vh with
            | none => exact absurd (n2.1 rfl) (by simp)
            | some v => exact ⟨v, rfl⟩
        simp only [Option.getD] at h1 h2 h3 ⊢
        have q := B e2 (Nat.le_trans h2 hc)
        cases lo with
        | none =>
          have := n1.2 rfl
          subst this
          simp [Instr.sliceBounds, q]
        | some a =>
          obtain ⟨v, rfl⟩ : ∃ v, vl = some v := by cases vl with
            | none => exact absurd (n1.1 rfl) (by simp)
            | some v => exact ⟨v, rfl⟩
          simp [Instr.sliceBounds, q, B e1 h3]
    | some c =>
      obtain ⟨t, rfl⟩ : ∃ t, vm = some t := by cases vm with
            | none => exact absurd (n3.1 rfl) (by simp)
            | some v => exact ⟨v, rfl⟩
      cases hi with
      | none => simp at h4
      | some b =>
        obtain ⟨u, rfl⟩ : ∃ u, vh = some u := by cases vh with
            | none => exact absurd (n2.1 rfl) (by simp)
            | some v => exact ⟨v, rfl⟩
        simp only [Option.getD] at h1 h2 h3 ⊢
        have q := B e2 h2
        have q3 := B e3 (Nat.le_trans h1 hc)
        cases lo with
        | none =>
          have := n1.2 rfl
          subst this
          simp [Instr.sliceBounds, q, q3]
        | some a =>
          obtain ⟨v, rfl⟩ : ∃ v, vl = some v := by cases vl with
            | none => exact absurd (n1.1 rfl) (by simp)
            | some v => exact ⟨v, rfl⟩
          simp [Instr.sliceBounds, q, q3, B e1 h3]

/-- A part of a string or of a slice. A part that begins at the end of a row that may be longer has no place that is told. -/
def xslice (P : Program) (t : TypeId) (x : Value) (lo hi mx : Option Value) : X Value := match intArg lo, intArg hi, intArg mx with
  | some lo, some hi, some mx => match P.underlying t, x with
    | some .string, .string s => match mx, bounds s.data.toList.length s.data.toList.length lo hi none with
      | none, some (l, h, _) => fS ((s.data.toList.drop l).take (h - l)) fun l => X.pure (.string ⟨⟨l⟩⟩)
      | _, _ => X.fail
    | some (.slice e), .slice (some ⟨i, off, none⟩) len cap => match P.info? e, bounds len cap lo hi mx with
      | some I, some (l, h, m) => (X.rdc i off 0).bind fun p => match p with
        | (_, _, _, _, lo) => match Nat.beq m l with
          | true => match mx, lo with
            | none, some _ => X.pure (.slice none 0 1)
            | _, _ => X.pure (.slice (some ⟨i, off, none⟩) 0 0)
          | false => match mx, lo with
            | none, some n => match Nat.beq n I.size with
              | true => fN (off + l * I.size) fun o => fN (h - l) fun h => fN (m - l) fun m => X.pure (.slice (some ⟨i, o, none⟩) h m)
              | false => X.fail
            | _, _ => fN (off + l * I.size) fun o => fN (h - l) fun h => fN (m - l) fun m => X.pure (.slice (some ⟨i, o, none⟩) h m)
      | _, _ => X.fail
    | some (.slice e), .slice none 0 0 => match P.info? e, bounds 0 0 lo hi mx with
      | some _, some _ => X.pure (.slice none 0 0)
      | _, _ => X.fail
    | _, _ => X.fail
  | _, _, _ => X.fail

def ORel (ρ : Ren) (v v' : Option Value) : Prop := (v = none ∧ v' = none) ∨ ∃ a a', v = some a ∧ v' = some a' ∧ VRel ρ a a'
theorem ORel.int {v v' : Option Value} {x : Option Nat} (h : ORel ρ v v') (e : intArg v = some x) : intArg v' = some x ∧ (v' = none ↔ x = none) := by
  rcases h with ⟨rfl, rfl⟩ | ⟨a, a', rfl, rfl, h⟩
  · cases e; exact ⟨rfl, by simp⟩
  · exact intArg_rel (ρ := ρ) (v := some a) (fun b hb => by cases hb; exact ⟨_, rfl, h⟩) (fun hb => by cases hb) e
theorem xslice_ok {t : TypeId} {x x' v : Value} {lo hi mx lo' hi' mx' : Option Value} {s s' : St} (r : Rel N0 b0 w0 ρ s.h w) (hx : VRel ρ x x') (h1 : ORel ρ lo lo') (h2 : ORel ρ hi hi') (h3 : ORel ρ mx mx')
    (h : (xslice P t x lo hi mx).run s = some (v, s')) : Good N0 b0 w0 ρ s' v ((Instr.sliceAt t x' lo' hi' mx').run P w) := by
  have hsl : ∀ d, P.underlying t = some d → (∀ n e, d ≠ .array n e) → (Instr.sliceAt t x' lo' hi' mx').run P w = (Instr.slice t x' lo' hi' mx').run P w := fun d hd hna => by
    simp only [Instr.sliceAt, Sem.run_bind, run_underlying hd, Result.andThen_ok]
    all_goals (cases d <;> first | rfl | exact absurd rfl (hna _ _))
  unfold xslice at h
  split at h
  case h_2 => cases h
  case h_1 l hh m e1 e2 e3 =>
    obtain ⟨f1, n1⟩ := h1.int e1
    obtain ⟨f2, n2⟩ := h2.int e2
    obtain ⟨f3, n3⟩ := h3.int e3
    split at h
    · rename_i s1 hd
      rw [hsl _ hd (by simp)]
      split at h
      · rename_i L H M hb
        rw [fS_eq] at h
        obtain ⟨rfl, rfl⟩ := X.pure_some h
        cases hx
        have := n3.2 rfl
        subst this
        obtain ⟨q, q1, q2, q3, _⟩ := bounds_run (P := P) (w := w) (vm := none) f1 f2 (mx := none) rfl n1 n2 (by simp) hb false _ (Nat.le_refl _)
        have hsz : s1.data.toList.length = s1.size := Array.length_toList
        rw [hsz] at q
        simp only [Instr.slice, Sem.run_bind, run_underlying hd, Result.andThen_ok, Option.isSome_none, Bool.false_eq_true, if_false, Sem.run_pure, q]
        refine Good.same r ?_
        have : (s1.extract L H) = ⟨⟨(s1.data.toList.drop L).take (H - L)⟩⟩ := by
          apply ByteArray.ext
          apply Array.ext'
          simp
        rw [this]
        exact .str _
      · cases h
    · rename_i e i off len cap hd
      rw [hsl _ hd (by simp)]
      split at h
      case h_2 => cases h
      case h_1 I l2 H2 M2 hI hb =>
        cases hx with
        | slice _ _ hL hok =>
          rename_i L cap'
          obtain ⟨⟨l0, tt, f0, ff1, loo⟩, s1, g1, h'⟩ := X.bind_some h
          clear h
          have h := h'
          clear h'
          obtain ⟨cc, g2, _, _, g3, _⟩ := X.rdc_some g1
          obtain ⟨L2, u, hlive⟩ := r.obj i _ g2
          dsimp only at h
          rw [hL] at u
          cases u
          obtain ⟨q, q1, q2, q3, q4⟩ := bounds_run (P := P) (w := w) f1 f2 f3 n1 n2 n3 hb true cap' hok.le
          simp only [Instr.slice, Sem.run_bind, run_underlying hd, Result.andThen_ok, q, run_sizeOf' hI, Sem.run_pure]
          · have hlo : L.loose = loo := hlive.1
            -- the real end
            have hreal : m = none → m.getD cap' = cap' ∧ M2 = cap := fun hm => by subst hm; exact ⟨rfl, by rw [q4]; rfl⟩
            have hmx : ∀ c, m = some c → m.getD cap' = M2 := fun c hm => by subst hm; rw [q4]; rfl
            split at h
            · rename_i hml
              have hml := Nat.eq_of_beq_eq_true hml
              subst hml
              have hH : H2 = M2 := by omega
              subst hH
              split at h
              · obtain ⟨rfl, rfl⟩ := X.pure_some h
                refine Good.same' r g3 ?_
                rw [Nat.sub_self]
                split <;> exact VRel.hid
              · rename_i hno
                obtain ⟨rfl, rfl⟩ := X.pure_some h
                refine Good.same' r g3 ?_
                have hcap : m.getD cap' = H2 := by
                  cases hm : m with
                  | some c => rw [← hm]; exact hmx c hm
                  | none =>
                    have h5 := hreal hm
                    cases hl : loo with
                    | some n => exact (hno n hm hl).elim
                    | none =>
                      rcases hok with e | ⟨n, e, _⟩
                      · rw [← hm, h5.1, e, h5.2]
                      · rw [hlo, hl] at e; cases e
                rw [if_pos hcap, hcap, Nat.sub_self]
                exact .slice _ _ hL (.inl rfl)
            · rename_i hml
              have hml : M2 ≠ l2 := fun e => by rw [e, Nat.beq_refl] at hml; cases hml
              have hge : M2 ≤ m.getD cap' := by
                cases hm : m with
                | some c => rw [← hm, hmx c hm]; exact Nat.le_refl _
                | none => rw [← hm, (hreal hm).1]; have := hok.le; omega
              have hne : ¬ (m.getD cap' = l2) := by omega
              have hadd : Option.map (fun x => x.add (l2 * I.size)) (some (⟨L.blk, L.sh + off, none⟩ : Addr)) = some ⟨L.blk, L.sh + (off + l2 * I.size), none⟩ := by
                simp [add_none, Nat.add_assoc]
              rw [if_neg hne, hadd]
              split at h
              · rename_i n
                split at h
                case h_2 => cases h
                case h_1 hn =>
                  have hn := Nat.eq_of_beq_eq_true hn
                  rw [fN_eq, fN_eq, fN_eq] at h
                  obtain ⟨rfl, rfl⟩ := X.pure_some h
                  refine Good.same' r g3 (.slice _ _ hL ?_)
                  have h5 := hreal rfl
                  rcases hok with e | ⟨k, e, e2, e4⟩
                  · exact .inl (by rw [h5.1, e, h5.2])
                  · refine .inr ⟨k, e, by rw [h5.1]; omega, ?_⟩
                    rw [hlo] at e
                    cases e
                    rw [h5.1, ← hn, Nat.sub_mul]
                    have hz : l2 ≤ cap' := by omega
                    have := Nat.mul_le_mul_right n hz
                    omega
              · rename_i hno
                rw [fN_eq, fN_eq, fN_eq] at h
                obtain ⟨rfl, rfl⟩ := X.pure_some h
                refine Good.same' r g3 (.slice _ _ hL (.inl ?_))
                cases hm : m with
                | some c => rw [← hm, hmx c hm]
                | none =>
                  have h5 := hreal hm
                  cases hl : loo with
                  | some n => exact (hno n hm hl).elim
                  | none =>
                    rcases hok with e | ⟨n, e, _⟩
                    · rw [← hm, h5.1, e, h5.2]
                    · rw [hlo, hl] at e; cases e
    · rename_i e hd
      rw [hsl _ hd (by simp)]
      split at h
      case h_2 => cases h
      case h_1 I X3 hI hb =>
        obtain ⟨l2, H2, M2⟩ := X3
        obtain ⟨rfl, rfl⟩ := X.pure_some h
        cases hx
        obtain ⟨q, q1, q2, q3, q4⟩ := bounds_run (P := P) (w := w) f1 f2 f3 n1 n2 n3 hb true 0 (Nat.le_refl _)
        have hz : m.getD 0 = 0 := by rw [← q4]; omega
        simp only [Instr.slice, Sem.run_bind, run_underlying hd, Result.andThen_ok, q, run_sizeOf' hI, Sem.run_pure]
        have : l2 = 0 := by omega
        subst this
        have : H2 = 0 := by omega
        subst this
        rw [hz]
        exact Good.same r .nils
    · cases h
end
end Go.Rx
