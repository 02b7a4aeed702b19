/- Operations that carry addresses and touch no memory. -/
import Derived.Test.YtpfjakcfjpgbmaaGreatDoorRxO
namespace Go.Rx
set_option linter.unusedVariables false
set_option linter.unusedSimpArgs false

abbrev Env := Operand → Option Value

abbrev splice (c : List Value) (off : Nat) (vs : List Value) : List Value := X.spl c off vs

noncomputable section
variable {P : Program} {ρ : Ren} {w : World}

theorem mapM_run {α β : Type} {f : α → Sem β} {g : α → β} (l : Array α) (h : ∀ x ∈ l, (f x).run P w = .ok (g x) w) : (l.mapM f).run P w = .ok (l.map g) w := by
  rw [Array.mapM_eq_mapM_toList]
  obtain ⟨l⟩ := l
  simp only [Sem.run_map]
  have : ∀ l : List α, (∀ x ∈ l, (f x).run P w = .ok (g x) w) → (l.mapM f).run P w = .ok (l.map g) w := by
    intro l h
    induction l with
    | nil => simp
    | cons x l ih => simp [h x (by simp), ih fun y hy => h y (by simp [hy])]
  rw [this l fun x hx => h x (by simpa using hx)]
  simp

theorem fold_splice (off : Nat) : ∀ (l : List Value) (k : Nat) (cs : Array Value), off + k + l.length ≤ cs.size →
    (l.zipIdx k).foldl (fun (cs : Array Value) (p : Value × Nat) => cs.setIfInBounds (off + p.2) p.1) cs = ⟨splice cs.toList (off + k) l⟩ := by
  intro l
  induction l with
  | nil => intro k cs _; simp [splice, X.spl]
  | cons v l ih =>
    intro k cs h
    have hl1 : (v :: l).length = l.length + 1 := rfl
    have hs1 : cs.toList.length = cs.size := by simp
    simp only [List.zipIdx_cons, List.foldl_cons]
    rw [ih (k + 1) _ (by rw [Array.size_setIfInBounds]; omega)]
    congr 1
    simp only [splice, X.spl, Array.toList_setIfInBounds]
    have hlt : off + k < cs.toList.length := by omega
    congr 1
    · rw [show off + (k + 1) = off + k + 1 from by omega, List.take_add_one]
      rw [List.getElem?_set_self hlt, List.take_set_of_le (Nat.le_refl _)]
      simp
    · rw [List.drop_set]
      rw [if_pos (by omega)]
      congr 1
      omega
theorem splice_rel {c c' vs vs' : List Value} (off : Nat) (h : VRels ρ c c') (hv : VRels ρ vs vs') : VRels ρ (splice c off vs) (splice c' off vs') := by
  unfold splice X.spl
  rw [hv.length]
  exact ((h.take off).append hv).append (h.drop _)

def xfill (place : Nat → Option (Nat × Nat)) : List Value → List (Nat × Value) → Option (List Value)
  | c, [] => some c
  | c, (i, v) :: rest => match place i with
    | some (off, size) => match Nat.beq (cellsOf v).length size && Nat.ble (off + (cellsOf v).length) c.length with
      | true => fL (splice c off (cellsOf v)) fun c => xfill place c rest
      | false => none
    | none => none
inductive Parts (ρ : Ren) : List (Nat × Value) → List (Nat × Value) → Prop
  | nil : Parts ρ [] []
  | cons (i : Nat) {v v' : Value} {l l' : List (Nat × Value)} : VRel ρ v v' → Parts ρ l l' → Parts ρ ((i, v) :: l) ((i, v') :: l')
theorem xfill_ok {place place' : Nat → Option (Nat × Nat)} (hp : ∀ i x, place i = some x → place' i = some x) {l l' : List (Nat × Value)} (hl : Parts ρ l l') : ∀ {c c' r : List Value}, VRels ρ c c' →
    xfill place c l = some r → ∃ r', Instr.fill place' ⟨c'⟩ l' = some ⟨r'⟩ ∧ VRels ρ r r' := by
  induction hl with
  | nil => intro c c' r hc h; cases h; exact ⟨c', rfl, hc⟩
  | cons i hv _ ih =>
    rename_i v v' l l' _
    intro c c' r hc h
    simp only [xfill] at h
    split at h
    case h_2 => cases h
    case h_1 off size hpl =>
      split at h
      case h_2 => cases h
      case h_1 hb =>
        rw [fL_eq] at h
        simp only [Bool.and_eq_true] at hb
        have e1 := Nat.eq_of_beq_eq_true hb.1
        have e2 := Nat.le_of_ble_eq_true hb.2
        have hcv := VRel.cells hv
        have hlen := hcv.length
        have hsz : v'.cells.size = (cellsOf v').length := by rw [← cellsOf_eq]; simp
        obtain ⟨r', f1, f2⟩ := ih (splice_rel off hc hcv) h
        refine ⟨r', ?_, f2⟩
        have hcl := hc.length
        have hno : ¬ (v'.cells.size ≠ size ∨ off + v'.cells.size > (⟨c'⟩ : Array Value).size) := by
          rw [hsz, hlen]; simp; omega
        simp only [Instr.fill, hp _ _ hpl]
        have hno2 : (decide (v'.cells.size ≠ size) || decide (off + v'.cells.size > (⟨c'⟩ : Array Value).size)) = false := by
          rw [Bool.or_eq_false_iff, decide_eq_false_iff_not, decide_eq_false_iff_not]
          exact ⟨fun e => hno (.inl e), fun e => hno (.inr e)⟩
        rw [if_neg (by simpa using hno)]
        rw [← Array.foldl_toList]
        have hz : v'.cells.zipIdx.toList = v'.cells.toList.zipIdx := by simp
        rw [hz, cellsOf_eq]
        have := fold_splice off (cellsOf v') 0 ⟨c'⟩ (by simp; omega)
        simp only [Nat.add_zero] at this
        rw [this]
        exact f1
end
end Go.Rx
