/- Maps whose keys are numbers or texts. -/
import Derived.Test.YtkbnhccfnimibaaGreatDoorRxS
namespace Go.Rx
set_option linter.unusedVariables false
set_option linter.unusedSimpArgs false
noncomputable section
variable {P : Program} {N0 b0 : Nat} {w0 : World} {ρ : Ren} {w : World}

def isKeyB : TypeDesc → Value → Bool
  | .int j, .int k _ => kEq k j
  | .string, .string _ => true
  | _, _ => false
theorem isKeyB_ok {d : TypeDesc} {k k' : Value} (h : isKeyB d k = true) (hk : VRel ρ k k') : k' = k ∧ MapKept.IsKey d k := by
  unfold isKeyB at h
  split at h
  · cases hk; exact ⟨rfl, kEq_eq h⟩
  · cases hk; exact ⟨rfl, trivial⟩
  · cases h
/-- Two keys of one kind. -/
def keq : Value → Value → Option Bool
  | .int k a, .int k' b => match kEq k k' with
    | true => fB (eqI a b) some
    | false => none
  | .string a, .string b => fB (eqL a.data.toList b.data.toList) some
  | _, _ => none
theorem keq_now {d : TypeDesc} {k k' k2 : Value} {b : Bool} (hd : MapKept.IsKey d k) (hk : VRel ρ k' k2) (h : keq k k' = some b) : k2 = k' ∧ Instr.sameNow d k k' = some b ∧ (b = true → k' = k) := by
  unfold keq at h
  split at h
  · split at h
    · rename_i hkk
      have hkk := kEq_eq hkk
      subst hkk
      rw [fB_eq, eqI_eq] at h
      cases h
      cases hk
      cases d <;> simp [MapKept.IsKey] at hd
      refine ⟨rfl, by simp [Instr.sameNow], fun e => ?_⟩
      rw [eq_of_beq e]
    · cases h
  · rw [fB_eq, eqL_eq] at h
    cases h
    cases hk
    rename_i a b
    have e : (a == b) = (a.data.toList == b.data.toList) := by rw [beq_toListBytes, ByteArray.toList_eq, ByteArray.toList_eq]
    cases d <;> simp [MapKept.IsKey] at hd
    refine ⟨rfl, by simp [Instr.sameNow, e], fun h => ?_⟩
    have h := eq_of_beq h
    have : a = b := ByteArray.ext (Array.ext' h)
    rw [this]
  · cases h
def kfind (k : Value) : List (Value × Value) → Nat → Option (Option (Nat × Value))
  | [], _ => some none
  | (k', v) :: l, i => match keq k k' with
    | some true => fN i fun i => some (some (i, v))
    | some false => kfind k l (i + 1)
    | none => none
theorem kfind_ok {d : TypeDesc} {k : Value} (hk : MapKept.IsKey d k) : ∀ (es : List (Value × Value)) (es' : List MapEntry) (i : Nat) (r : Option (Nat × Value)), VRels ρ (es.map (·.1)) (es'.map (·.key)) → VRels ρ (es.map (·.2)) (es'.map (·.val)) →
    kfind k es i = some r → (r = none ∧ Instr.findNow d k es' i = some none) ∨ ∃ j v v' e, r = some (i + j, v) ∧ VRel ρ v v' ∧ Instr.findNow d k es' i = some (some (i + j, v')) ∧ es'[j]? = some e ∧ e.key = k ∧ j < es.length := by
  intro es
  induction es with
  | nil =>
    intro es' i r h1 h2 h
    cases h
    cases es' with
    | nil => exact .inl ⟨rfl, rfl⟩
    | cons _ _ => cases h1
  | cons p es ih =>
    obtain ⟨k', v⟩ := p
    intro es' i r h1 h2 h
    cases es' with
    | nil => cases h1
    | cons e es' =>
      cases h1 with
      | cons h1 h1s =>
        cases h2 with
        | cons h2 h2s =>
          unfold kfind at h
          split at h
          · rename_i hq
            obtain ⟨e1, e2, e3⟩ := keq_now hk h1 hq
            rw [fN_eq] at h
            cases h
            have e1' : e.key = k' := e1
            refine .inr ⟨0, v, e.val, e, rfl, h2, ?_, rfl, e1'.trans (e3 rfl), by simp⟩
            simp [Instr.findNow, e1', e2]
          · rename_i hq
            obtain ⟨e1, e2, _⟩ := keq_now hk h1 hq
            have e1' : e.key = k' := e1
            rcases ih es' (i + 1) r h1s h2s h with ⟨f1, f2⟩ | ⟨j, u, u', x, f1, f2, f3, f4, f5, f6⟩
            · exact .inl ⟨f1, by simp [Instr.findNow, e1', e2, f2]⟩
            · refine .inr ⟨j + 1, u, u', x, ?_, f2, ?_, by simpa using f4, f5, by simp; omega⟩
              · rw [f1]; congr 2; omega
              · simp only [Instr.findNow, e1', e2, f3]; congr 3; omega
          · cases h

def xmakeMap (N0 : Nat) : X Value := (X.new (.map [] 0)).bind fun i => match Nat.ble N0 i with
  | true => X.pure (.map (some i))
  | false => X.fail
theorem xmakeMap_ok {t : TypeId} {v : Value} {s s' : St} (r : Rel N0 b0 w0 ρ s.h w) (h : (xmakeMap N0).run s = some (v, s')) : Good N0 b0 w0 ρ s' v ((Instr.makeMap t none).run P w) := by
  unfold xmakeMap at h
  obtain ⟨j, s1, h1, h'⟩ := X.bind_some h
  clear h
  obtain ⟨rfl, h2, h3, _⟩ := X.new_some h1
  split at h'
  case h_2 => cases h'
  case h_1 hn =>
    have hn := Nat.le_of_ble_eq_true hn
    obtain ⟨rfl, rfl⟩ := X.pure_some h'
    have hle : ρ.le (ρ.put s.nx ⟨w.heap.size, 0, 0, none⟩) := Ren.le_put (r.new _ hn h2)
    refine ⟨ρ.put s.nx ⟨w.heap.size, 0, 0, none⟩, { w with heap := w.heap.push (.map #[] 0) }, .map (some w.heap.size), ?_, hle, ?_, .map (L := ⟨w.heap.size, 0, 0, none⟩) Ren.put_self⟩
    · simp [Instr.makeMap]
    · rw [h3]
      exact r.push hn h2 _ _ _ rfl ⟨#[], by simp, .nil, .nil⟩

def lset : List (Value × Value) → Nat → Value → List (Value × Value)
  | [], _, _ => []
  | (k, _) :: l, 0, v => (k, v) :: l
  | p :: l, n + 1, v => p :: lset l n v
theorem lset_fst (l : List (Value × Value)) (n : Nat) (v : Value) : (lset l n v).map (·.1) = l.map (·.1) := by
  induction l generalizing n with
  | nil => rfl
  | cons p l ih => cases n with
    | zero => rfl
    | succ n => simp [lset, ih]
theorem lset_snd (l : List (Value × Value)) (n : Nat) (v : Value) : (lset l n v).map (·.2) = (l.map (·.2)).set n v := by
  induction l generalizing n with
  | nil => rfl
  | cons p l ih => cases n with
    | zero => rfl
    | succ n => simp [lset, ih]
def xput (P : Program) (N0 : Nat) (t : TypeId) (m k v : Value) : X Unit := match P.underlying t, m with
  | some (.map kt _), .map (some i) => match P.underlying kt with
    | some d => match isKeyB d k && Nat.ble N0 i with
      | true => (X.rd i).bind fun
        | .map es clk => match kfind k es 0 with
          | some (some (j, _)) => fL (lset es j v) fun es => X.wrt i (.map es clk)
          | some none => fL (es ++ [(k, v)]) fun es => fN (clk + 1) fun c => X.wrt i (.map es c)
          | none => X.fail
        | _ => X.fail
      | false => X.fail
    | none => X.fail
  | _, _ => X.fail
theorem xput_ok {t : TypeId} {m m' k k' v v' : Value} {s s' : St} (r : Rel N0 b0 w0 ρ s.h w) (hm : VRel ρ m m') (hk : VRel ρ k k') (hv : VRel ρ v v') (h : (xput P N0 t m k v).run s = some ((), s')) :
    GoodU N0 b0 w0 ρ s' ((Instr.mapUpdate t m' k' v').run P w) := by
  unfold xput at h
  split at h
  case h_2 => cases h
  case h_1 kt et i hd =>
    split at h
    case h_2 => cases h
    case h_1 d hdk =>
      split at h
      case h_2 => cases h
      case h_1 hb =>
        simp only [Bool.and_eq_true] at hb
        have hN := Nat.le_of_ble_eq_true hb.2
        obtain ⟨rfl, hkey⟩ := isKeyB_ok hb.1 hk
        obtain ⟨o, s1, g1, h'⟩ := X.bind_some h
        clear h
        obtain ⟨g2, g3, _⟩ := X.rd_some g1
        cases hm with
        | map hL =>
          rename_i L
          obtain ⟨L2, u, hlive⟩ := r.obj i o g2
          rw [hL] at u
          cases u
          split at h'
          case h_2 => cases h'
          case h_1 es clk =>
            obtain ⟨es', q1, q2, q3⟩ := id hlive
            have hlt : L.blk < w.heap.size := (Array.getElem?_eq_some_iff.1 q1).1
            split at h'
            · rename_i j u hf
              rw [fL_eq] at h'
              obtain ⟨_, e2, _⟩ := X.wrt_some h'
              rcases kfind_ok hkey es es'.toList 0 _ q2 q3 hf with ⟨f1, _⟩ | ⟨j2, a, a', e, f1, f2, f3, f4, f5, f6⟩
              · cases f1
              · simp only [Nat.zero_add] at f1 f3
                cases f1
                have f4' : es'[j]? = some e := by simpa using f4
                refine ⟨ρ, { w with heap := w.heap.setIfInBounds L.blk (.map (es'.modify j fun e => { e with key := k', val := v' }) clk) }, ?_, Ren.le_refl _, ?_⟩
                · simp [Instr.mapUpdate, run_underlying hd, MapKept.run_getObj_map q1, MapKept.run_checkKey hdk hkey, MapKept.run_findKey hdk f3, f4', f5, MapKept.run_keyThatStays hkey, MapKept.run_setObj_map _ q1]
                · rw [e2, g3]
                  refine r.upd hN g2 rfl rfl hL _ _ ⟨es'.modify j fun e => { e with key := k', val := v' }, by simp [hlt], ?_, ?_⟩
                  · rw [lset_fst]
                    have : (es'.modify j fun e => { e with key := k', val := v' }).toList.map (·.key) = es'.toList.map (·.key) := by
                      apply List.ext_getElem?
                      intro x
                      rw [List.getElem?_map, Array.toList_modify, List.getElem?_modify, List.getElem?_map]
                      by_cases hx : j = x
                      · subst hx; simp [f4', f5]
                      · simp [hx]
                    rw [this]
                    exact q2
                  · rw [lset_snd]
                    have : (es'.modify j fun e => { e with key := k', val := v' }).toList.map (·.val) = (es'.toList.map (·.val)).set j v' := by
                      apply List.ext_getElem?
                      intro x
                      rw [List.getElem?_map, Array.toList_modify, List.getElem?_modify, List.getElem?_set]
                      by_cases hx : j = x
                      · subst hx
                        have : j < es'.size := (Array.getElem?_eq_some_iff.1 f4').1
                        simp [f4', this]
                      · simp [hx]
                    rw [this]
                    exact q3.set j hv
            · rename_i hf
              rw [fL_eq, fN_eq] at h'
              obtain ⟨_, e2, _⟩ := X.wrt_some h'
              rcases kfind_ok hkey es es'.toList 0 _ q2 q3 hf with ⟨_, f2⟩ | ⟨j2, a, a', e, f1, _⟩
              · refine ⟨ρ, { w with heap := w.heap.setIfInBounds L.blk (.map (es'.push { key := k', val := v', born := clk }) (clk + 1)) }, ?_, Ren.le_refl _, ?_⟩
                · simp [Instr.mapUpdate, run_underlying hd, MapKept.run_getObj_map q1, MapKept.run_checkKey hdk hkey, MapKept.run_findKey hdk f2, MapKept.run_setObj_map _ q1]
                · rw [e2, g3]
                  refine r.upd hN g2 rfl rfl hL _ _ ⟨es'.push { key := k', val := v', born := clk }, by simp [hlt], ?_, ?_⟩
                  · simp only [List.map_append, Array.toList_push]
                    exact q2.append (.cons hk .nil)
                  · simp only [List.map_append, Array.toList_push]
                    exact q3.append (.cons hv .nil)
              · cases f1
            · cases h'

def xlookup (P : Program) (t : TypeId) (m k : Value) (ok : Bool) : X Value := match P.underlying t, m with
  | some (.map kt et), .map (some i) => match P.underlying kt, P.info? et with
    | some d, some I => match isKeyB d k, I.zero with
      | true, some z => (X.rd i).bind fun
        | .map es _ => match kfind k es 0 with
          | some (some (_, v)) => match ok with
            | true => X.pure (.tuple ⟨[v, .bool true]⟩)
            | false => X.pure v
          | some none => match plainL (cellsOf z), ok with
            | true, true => X.pure (.tuple ⟨[z, .bool false]⟩)
            | true, false => X.pure z
            | _, _ => X.fail
          | none => X.fail
        | _ => X.fail
      | _, _ => X.fail
    | _, _ => X.fail
  | _, _ => X.fail
theorem xlookup_ok {t : TypeId} {m m' k k' v : Value} {ok : Bool} {s s' : St} (r : Rel N0 b0 w0 ρ s.h w) (hm : VRel ρ m m') (hk : VRel ρ k k') (h : (xlookup P t m k ok).run s = some (v, s')) :
    Good N0 b0 w0 ρ s' v ((Instr.lookup t m' k' ok).run P w) := by
  unfold xlookup at h
  split at h
  case h_2 => cases h
  case h_1 kt et i hd =>
    split at h
    case h_2 => cases h
    case h_1 d I hdk hI =>
      split at h
      case h_2 => cases h
      case h_1 z hb hz =>
        obtain ⟨rfl, hkey⟩ := isKeyB_ok hb hk
        obtain ⟨o, s1, g1, h'⟩ := X.bind_some h
        clear h
        obtain ⟨g2, g3, _⟩ := X.rd_some g1
        cases hm with
        | map hL =>
          rename_i L
          obtain ⟨L2, u, hlive⟩ := r.obj i o g2
          rw [hL] at u
          cases u
          split at h'
          case h_2 => cases h'
          case h_1 es clk =>
            obtain ⟨es', q1, q2, q3⟩ := id hlive
            split at h'
            · rename_i j u hf
              rcases kfind_ok hkey es es'.toList 0 _ q2 q3 hf with ⟨f1, _⟩ | ⟨j2, a, a', e, f1, f2, f3, f4, f5, f6⟩
              · cases f1
              · cases f1
                split at h'
                · obtain ⟨rfl, rfl⟩ := X.pure_some h'
                  refine ⟨ρ, w, .tuple #[a', .bool true], ?_, Ren.le_refl _, g3 ▸ r, .tuple (.cons f2 (.cons (.bool _) .nil))⟩
                  simp [Instr.lookup, run_underlying hd, MapKept.run_getObj_map q1, MapKept.run_checkKey hdk hkey, MapKept.run_findKey hdk f3]
                · obtain ⟨rfl, rfl⟩ := X.pure_some h'
                  refine ⟨ρ, w, a', ?_, Ren.le_refl _, g3 ▸ r, f2⟩
                  simp [Instr.lookup, run_underlying hd, MapKept.run_getObj_map q1, MapKept.run_checkKey hdk hkey, MapKept.run_findKey hdk f3]
            · rename_i hf
              rcases kfind_ok hkey es es'.toList 0 _ q2 q3 hf with ⟨_, f2⟩ | ⟨j2, a, a', e, f1, _⟩
              · split at h'
                · rename_i hp
                  obtain ⟨rfl, rfl⟩ := X.pure_some h'
                  refine ⟨ρ, w, .tuple #[z, .bool false], ?_, Ren.le_refl _, g3 ▸ r, .tuple (.cons (VRel.ofCells hp) (.cons (.bool _) .nil))⟩
                  simp [Instr.lookup, run_underlying hd, MapKept.run_getObj_map q1, MapKept.run_checkKey hdk hkey, MapKept.run_findKey hdk f2, run_zeroValue' hI hz]
                · rename_i hp
                  obtain ⟨rfl, rfl⟩ := X.pure_some h'
                  refine ⟨ρ, w, v, ?_, Ren.le_refl _, g3 ▸ r, VRel.ofCells hp⟩
                  simp [Instr.lookup, run_underlying hd, MapKept.run_getObj_map q1, MapKept.run_checkKey hdk hkey, MapKept.run_findKey hdk f2, run_zeroValue' hI hz]
                · cases h'
              · cases f1
            · cases h'
end
end Go.Rx
