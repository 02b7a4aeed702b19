/- Maps whose keys are numbers, texts, or structs of such. -/
import Derived.Test.YtpfjakcfjpgbmaaGreatDoorRxS
namespace Go.Rx
set_option linter.unusedVariables false
set_option linter.unusedSimpArgs false
noncomputable section
variable {P : Program} {N0 b0 : Nat} {w0 : World} {ρ : Ren} {w : World}

def isKeyB : TypeDesc → Value → Bool
  | .int j, .int k _ => kEq k j
  | .string, .string _ => true
  | _, _ => false
theorem isKeyB_ok {d : TypeDesc} {k k' : Value} (h : isKeyB d k = true) (hk : VRel ρ k k') : k' = k ∧ MapKept.IsKey d k := by
  unfold isKeyB at h
  split at h
  · cases hk; exact ⟨rfl, kEq_eq h⟩
  · cases hk; exact ⟨rfl, trivial⟩
  · cases h
/-- Two keys of one kind. -/
def keq : Value → Value → Option Bool
  | .int k a, .int k' b => match kEq k k' with
    | true => fB (eqI a b) some
    | false => none
  | .string a, .string b => fB (eqL a.data.toList b.data.toList) some
  | _, _ => none
theorem keq_now {d : TypeDesc} {k k' k2 : Value} {b : Bool} (hd : MapKept.IsKey d k) (hk : VRel ρ k' k2) (h : keq k k' = some b) : k2 = k' ∧ Instr.sameNow d k k' = some b ∧ (b = true → k' = k) := by
  unfold keq at h
  split at h
  · split at h
    · rename_i hkk
      have hkk := kEq_eq hkk
      subst hkk
      rw [fB_eq, eqI_eq] at h
      cases h
      cases hk
      cases d <;> simp [MapKept.IsKey] at hd
      refine ⟨rfl, by simp [Instr.sameNow], fun e => ?_⟩
      rw [eq_of_beq e]
    · cases h
  · rw [fB_eq, eqL_eq] at h
    cases h
    cases hk
    rename_i a b
    have e : (a == b) = (a.data.toList == b.data.toList) := by rw [beq_toListBytes, ByteArray.toList_eq, ByteArray.toList_eq]
    cases d <;> simp [MapKept.IsKey] at hd
    refine ⟨rfl, by simp [Instr.sameNow, e], fun h => ?_⟩
    have h := eq_of_beq h
    have : a = b := ByteArray.ext (Array.ext' h)
    rw [this]
  · cases h
def kfind (k : Value) : List (Value × Value) → Nat → Option (Option (Nat × Value))
  | [], _ => some none
  | (k', v) :: l, i => match keq k k' with
    | some true => fN i fun i => some (some (i, v))
    | some false => kfind k l (i + 1)
    | none => none
theorem kfind_ok {d : TypeDesc} {k : Value} (hk : MapKept.IsKey d k) : ∀ (es : List (Value × Value)) (es' : List MapEntry) (i : Nat) (r : Option (Nat × Value)), VRels ρ (es.map (·.1)) (es'.map (·.key)) → VRels ρ (es.map (·.2)) (es'.map (·.val)) →
    kfind k es i = some r → (r = none ∧ Instr.findNow d k es' i = some none) ∨ ∃ j v v' e, r = some (i + j, v) ∧ VRel ρ v v' ∧ Instr.findNow d k es' i = some (some (i + j, v')) ∧ es'[j]? = some e ∧ e.key = k ∧ j < es.length := by
  intro es
  induction es with
  | nil =>
    intro es' i r h1 h2 h
    cases h
    cases es' with
    | nil => exact .inl ⟨rfl, rfl⟩
    | cons _ _ => cases h1
  | cons p es ih =>
    obtain ⟨k', v⟩ := p
    intro es' i r h1 h2 h
    cases es' with
    | nil => cases h1
    | cons e es' =>
      cases h1 with
      | cons h1 h1s =>
        cases h2 with
        | cons h2 h2s =>
          unfold kfind at h
          split at h
          · rename_i hq
            obtain ⟨e1, e2, e3⟩ := keq_now hk h1 hq
            rw [fN_eq] at h
            cases h
            have e1' : e.key = k' := e1
            refine .inr ⟨0, v, e.val, e, rfl, h2, ?_, rfl, e1'.trans (e3 rfl), by simp⟩
            simp [Instr.findNow, e1', e2]
          · rename_i hq
            obtain ⟨e1, e2, _⟩ := keq_now hk h1 hq
            have e1' : e.key = k' := e1
            rcases ih es' (i + 1) r h1s h2s h with ⟨f1, f2⟩ | ⟨j, u, u', x, f1, f2, f3, f4, f5, f6⟩
            · exact .inl ⟨f1, by simp [Instr.findNow, e1', e2, f2]⟩
            · refine .inr ⟨j + 1, u, u', x, ?_, f2, ?_, by simpa using f4, f5, by simp; omega⟩
              · rw [f1]; congr 2; omega
              · simp only [Instr.findNow, e1', e2, f3]; congr 3; omega
          · cases h

/-! What is asked of a key: it is whole, it stays as it is, and it is found. -/
abbrev Find := List (Value × Value) → Option (Option (Nat × Value))
structure KeyLaw (P : Program) (ρ : Ren) (kt : TypeId) (k : Value) (f : Find) : Prop where
  check : ∀ e w, (Instr.checkKey e 10000 kt k).run P w = .ok () w
  stay : ∀ w, (Instr.keyThatStays k k).run P w = .ok k w
  find : ∀ (es : List (Value × Value)) (es' : List MapEntry) (r : Option (Nat × Value)) (w : World), VRels ρ (es.map (·.1)) (es'.map (·.key)) → VRels ρ (es.map (·.2)) (es'.map (·.val)) → f es = some r →
    (r = none ∧ (Instr.findKey kt k es').run P w = .ok none w) ∨ ∃ j v v' e, r = some (j, v) ∧ VRel ρ v v' ∧ (Instr.findKey kt k es').run P w = .ok (some (j, v')) w ∧ es'[j]? = some e ∧ e.key = k ∧ j < es.length
theorem keyLaw_one {kt : TypeId} {d : TypeDesc} {k : Value} (hd : P.underlying kt = some d) (hk : MapKept.IsKey d k) : KeyLaw P ρ kt k (fun es => kfind k es 0) where
  check e w := MapKept.run_checkKey hd hk e 9999
  stay w := MapKept.run_keyThatStays hk
  find es es' r w h1 h2 h := by
    rcases kfind_ok hk es es' 0 r h1 h2 h with ⟨e1, e2⟩ | ⟨j, v, v', e, e1, e2, e3, e4, e5, e6⟩
    · exact .inl ⟨e1, MapKept.run_findKey hd e2⟩
    · rw [Nat.zero_add] at e1 e3
      exact .inr ⟨j, v, v', e, e1, e2, MapKept.run_findKey hd e3, e4, e5, e6⟩
def flatV : Value → Bool
  | .int .. | .string _ => true
  | _ => false
theorem flatV_is {v : Value} (h : flatV v = true) : (∃ k n, v = .int k n) ∨ ∃ s, v = .string s := by
  unfold flatV at h
  split at h
  · exact .inl ⟨_, _, rfl⟩
  · exact .inr ⟨_, rfl⟩
  · cases h
def flatL : List Value → Bool
  | [] => true
  | v :: l => flatV v && flatL l
def flatF (P : Program) (n : Nat) : List Field → Bool
  | [] => true
  | f :: fs => (match P.underlying f.type with
    | some (.int _) | some .string | some .bool => true
    | _ => false) && Nat.blt f.offset n && flatF P n fs
theorem flat_same {l l' : List Value} (h : VRels ρ l l') (hf : flatL l = true) : l' = l := by
  induction l generalizing l' with
  | nil => cases h; rfl
  | cons v l ih =>
    cases h with
    | cons h1 h2 =>
      simp only [flatL, Bool.and_eq_true] at hf
      rw [ih h2 hf.2]
      congr 1
      rcases flatV_is hf.1 with ⟨k, n, rfl⟩ | ⟨s, rfl⟩ <;> (cases h1; rfl)
theorem flat_bits {l : List Value} (hf : flatL l = true) (n : Nat) : ((l.zip l).all fun (x, y) => Instr.sameBits n x y) = true := by
  induction l with
  | nil => rfl
  | cons v l ih =>
    simp only [flatL, Bool.and_eq_true] at hf
    simp only [List.zip_cons_cons, List.all_cons, ih hf.2, Bool.and_true]
    rcases flatV_is hf.1 with ⟨k, m, rfl⟩ | ⟨s, rfl⟩
    · simp [Instr.sameBits]
    · simp only [Instr.sameBits]
      rw [beq_toListBytes]
      simp
theorem flat_check {cs : Array Value} : ∀ {fs : List Field}, flatF P cs.size fs = true → ∀ (e : Bool) (n : Nat) (w : World),
    (forIn fs PUnit.unit fun f (_ : PUnit) => (do
      if f.name ≠ "_" then Instr.checkKey e (n + 1) f.type (← part f.type cs f.offset)
      pure (ForInStep.yield PUnit.unit) : Sem (ForInStep PUnit))).run P w = .ok PUnit.unit w
  | [], _, e, n, w => rfl
  | f :: fs, h, e, n, w => by
    simp only [flatF, Bool.and_eq_true] at h
    have hlt : f.offset < cs.size := Nat.le_of_ble_eq_true h.1.2
    obtain ⟨d, hd, hs⟩ : ∃ d, P.underlying f.type = some d ∧ (match d with | .int _ | .string | .bool => True | _ => False) := by
      have := h.1.1
      split at this <;> first | exact ⟨_, ‹_›, trivial⟩ | cases this
    have hag : isAggD d = false := by cases d <;> first | rfl | cases hs
    have hp : (part f.type cs f.offset).run P w = .ok cs[f.offset] w := by
      have := run_isAgg (P := P) hd w
      rw [hag] at this
      simp [part, this, hlt]
    have hc : (Instr.checkKey e (n + 1) f.type cs[f.offset]).run P w = .ok () w := by
      unfold Instr.checkKey
      simp only [Sem.run_bind, run_underlying hd, Result.andThen_ok]
      cases d <;> first | rfl | cases hs
    have ih := flat_check h.2 e n w
    simp only [List.forIn_cons, Sem.run_bind]
    split
    · simp only [Sem.run_bind, hp, Result.andThen_ok, hc, Sem.run_pure]
      exact ih
    · simp only [Sem.run_bind, Result.andThen_ok, Sem.run_pure]
      exact ih
def flatEq : List Value → List Value → Bool
  | [], [] => true
  | a :: l, b :: m => match keq a b with
    | some true => flatEq l m
    | _ => false
  | _, _ => false
theorem flatEq_ok : ∀ {l m : List Value}, flatEq l m = true → m = l
  | [], [], _ => rfl
  | [], _ :: _, h => by cases h
  | _ :: _, [], h => by cases h
  | a :: l, b :: m, h => by
    unfold flatEq at h
    split at h
    · rename_i hq
      rw [flatEq_ok h]
      congr 1
      unfold keq at hq
      split at hq
      · split at hq
        · rename_i hk
          rw [fB_eq, eqI_eq] at hq
          cases kEq_eq hk
          rw [eq_of_beq (Option.some.inj hq)]
        · cases hq
      · rename_i x y
        rw [fB_eq, eqL_eq] at hq
        have := eq_of_beq (Option.some.inj hq)
        rw [show x = y from ByteArray.ext (Array.ext' this)]
      · cases hq
    · cases h
def kfindS (P : Program) (fs : List Field) (ks : List Value) : List (Value × Value) → Nat → Option (Option (Nat × Value))
  | [], _ => some none
  | (k', v) :: l, i => match k' with
    | .agg k' => match eqFs P ks k'.toList fs with
      | some true => match flatEq ks k'.toList with
        | true => fN i fun i => some (some (i, v))
        | false => none
      | some false => kfindS P fs ks l (i + 1)
      | none => none
    | _ => none
theorem kfindS_ok {kt : TypeId} {fs : Array Field} {ks : Array Value} (hd : P.underlying kt = some (.struct fs)) (hg : P.stoodInHeld kt = false) (hk : flatL ks.toList = true) :
    ∀ (es : List (Value × Value)) (es' : List MapEntry) (i : Nat) (r : Option (Nat × Value)) (w : World), VRels ρ (es.map (·.1)) (es'.map (·.key)) → VRels ρ (es.map (·.2)) (es'.map (·.val)) → kfindS P fs.toList ks.toList es i = some r →
    (r = none ∧ (Instr.findAsking kt (.agg ks) es' i).run P w = .ok none w) ∨ ∃ j v v' e, r = some (i + j, v) ∧ VRel ρ v v' ∧ (Instr.findAsking kt (.agg ks) es' i).run P w = .ok (some (i + j, v')) w ∧ es'[j]? = some e ∧ e.key = .agg ks ∧ j < es.length := by
  intro es
  induction es with
  | nil =>
    intro es' i r w h1 h2 h
    cases h
    cases es' with
    | nil => exact .inl ⟨rfl, rfl⟩
    | cons _ _ => cases h1
  | cons p es ih =>
    obtain ⟨k', v⟩ := p
    intro es' i r w h1 h2 h
    cases es' with
    | nil => cases h1
    | cons e es' =>
      cases h1 with
      | cons h1 h1s =>
        cases h2 with
        | cons h2 h2s =>
          unfold kfindS at h
          split at h
          case h_2 => cases h
          case h_1 k2 =>
            have h1' : VRel ρ (.agg k2) e.key := h1
            generalize hq : e.key = q at h1'
            cases h1' with
            | agg hcs =>
              rename_i k3
              have hself : VRels ρ ks.toList ks.toList := by
                have : ∀ l, flatL l = true → VRels ρ l l := fun l => by
                  induction l with
                  | nil => intro _; exact .nil
                  | cons v l ih =>
                    intro hh
                    simp only [flatL, Bool.and_eq_true] at hh
                    refine .cons ?_ (ih hh.2)
                    rcases flatV_is hh.1 with ⟨k, m, rfl⟩ | ⟨s, rfl⟩ <;> constructor
                exact this _ hk
              have heq : ∀ b, eqFs P ks.toList k2.toList fs.toList = some b → (Op.equal kt (.agg ks) (.agg k3)).run P w = .ok b w := fun b hb => by
                have h3 := eqFs_ok (P := P) (w := w) hself hcs 9998 hb
                have hd' : P.underlying kt = some (.struct (P.fieldsOf kt)) := by simp [Program.fieldsOf, hd]
                have hfs : P.fieldsOf kt = fs := by simp [Program.fieldsOf, hd]
                have h4 := run_equalIn_struct (P := P) w 9999 kt ks k3 hd' hg
                rw [hfs] at h4
                exact h4.trans h3
              split at h
              · rename_i hb
                split at h
                case h_2 => cases h
                case h_1 hfe =>
                  rw [fN_eq] at h
                  cases h
                  have hk2 := flatEq_ok hfe
                  rw [hk2] at hcs
                  have hk3 : k3 = ks := by
                    have := flat_same hcs hk
                    exact Array.ext' this
                  subst hk3
                  refine .inr ⟨0, v, e.val, e, rfl, h2, ?_, rfl, hq, by simp⟩
                  simp only [Instr.findAsking, Sem.run_bind, hq, heq _ hb, Result.andThen_ok, if_true, Sem.run_pure, Nat.add_zero]
              · rename_i hb
                rcases ih es' (i + 1) r w h1s h2s h with ⟨f1, f2⟩ | ⟨j, u, u', x, f1, f2, f3, f4, f5, f6⟩
                · refine .inl ⟨f1, ?_⟩
                  simp only [Instr.findAsking, Sem.run_bind, hq, heq _ hb, Result.andThen_ok, Bool.false_eq_true, if_false, f2]
                · refine .inr ⟨j + 1, u, u', x, ?_, f2, ?_, by simpa using f4, f5, by simp; omega⟩
                  · rw [f1]; congr 2; omega
                  · simp only [Instr.findAsking, Sem.run_bind, hq, heq _ hb, Result.andThen_ok, Bool.false_eq_true, if_false, f3]
                    congr 3; omega
              · cases h
theorem keyLaw_flat {kt : TypeId} {fs : Array Field} {ks : Array Value} (hd : P.underlying kt = some (.struct fs)) (hg : P.stoodInHeld kt = false) (hk : flatL ks.toList = true) (hf : flatF P ks.size fs.toList = true) :
    KeyLaw P ρ kt (.agg ks) (fun es => kfindS P fs.toList ks.toList es 0) where
  check e w := by
    unfold Instr.checkKey
    simp only [Sem.run_bind, run_underlying hd, Result.andThen_ok]
    have := flat_check (P := P) hf e 9998 w
    simp only [← Array.forIn_toList, Sem.run_bind]
    rw [show (forIn fs.toList PUnit.unit fun f (_ : PUnit) => (do
      if f.name ≠ "_" then Instr.checkKey e 9999 f.type (← part f.type ks f.offset)
      pure (ForInStep.yield PUnit.unit) : Sem (ForInStep PUnit))).run P w = .ok PUnit.unit w from this]
    rfl
  stay w := by
    have : Instr.sameBits 10000 (.agg ks) (.agg ks) = true := by
      show (ks.size == ks.size && (ks.toList.zip ks.toList).all fun (x, y) => Instr.sameBits 9999 x y) = true
      rw [flat_bits hk]
      simp
    simp [Instr.keyThatStays, this]
  find es es' r w h1 h2 h := by
    cases es' with
    | nil =>
      cases es with
      | nil => cases h; exact .inl ⟨rfl, by simp [Instr.findKey, run_underlying hd, Instr.findNow]⟩
      | cons _ _ => cases h1
    | cons e0 es0 =>
      have hnow : Instr.findNow (.struct fs) (.agg ks) (e0 :: es0) 0 = none := rfl
      have hrun : (Instr.findKey kt (.agg ks) (e0 :: es0)).run P w = (Instr.findAsking kt (.agg ks) (e0 :: es0) 0).run P w := by
        simp [Instr.findKey, run_underlying hd, hnow]
      rw [hrun]
      rcases kfindS_ok hd hg hk es (e0 :: es0) 0 r w h1 h2 h with ⟨e1, e2⟩ | ⟨j, v, v', e, e1, e2, e3, e4, e5, e6⟩
      · exact .inl ⟨e1, e2⟩
      · rw [Nat.zero_add] at e1 e3
        exact .inr ⟨j, v, v', e, e1, e2, e3, e4, e5, e6⟩
/-- How a key is looked for. -/
def kfindK (P : Program) (kt : TypeId) (d : TypeDesc) (k : Value) : Option Find := match isKeyB d k with
  | true => some fun es => kfind k es 0
  | false => match d, k with
    | .struct fs, .agg ks => match !P.stoodInHeld kt && flatL ks.toList && flatF P ks.size fs.toList with
      | true => some fun es => kfindS P fs.toList ks.toList es 0
      | false => none
    | _, _ => none
theorem kfindK_ok {kt : TypeId} {d : TypeDesc} {k k' : Value} {f : Find} (hd : P.underlying kt = some d) (h : kfindK P kt d k = some f) (hk : VRel ρ k k') : k' = k ∧ KeyLaw P ρ kt k f := by
  unfold kfindK at h
  split at h
  · rename_i hb
    cases h
    obtain ⟨rfl, hkey⟩ := isKeyB_ok hb hk
    exact ⟨rfl, keyLaw_one hd hkey⟩
  · split at h
    · split at h
      · rename_i hb
        cases h
        simp only [Bool.and_eq_true, Bool.not_eq_true'] at hb
        cases hk with
        | agg hcs =>
          rename_i ks'
          have : ks' = _ := Array.ext' (flat_same hcs hb.1.2)
          subst this
          exact ⟨rfl, keyLaw_flat hd hb.1.1 hb.1.2 hb.2⟩
      · cases h
    · cases h

def xmakeMap (N0 : Nat) : X Value := (X.new (.map [] 0)).bind fun i => match Nat.ble N0 i with
  | true => X.pure (.map (some i))
  | false => X.fail
theorem xmakeMap_ok {t : TypeId} {v : Value} {s s' : St} (r : Rel N0 b0 w0 ρ s.h w) (h : (xmakeMap N0).run s = some (v, s')) : Good N0 b0 w0 ρ s' v ((Instr.makeMap t none).run P w) := by
  unfold xmakeMap at h
  obtain ⟨j, s1, h1, h'⟩ := X.bind_some h
  clear h
  obtain ⟨rfl, h2, h3, _⟩ := X.new_some h1
  split at h'
  case h_2 => cases h'
  case h_1 hn =>
    have hn := Nat.le_of_ble_eq_true hn
    obtain ⟨rfl, rfl⟩ := X.pure_some h'
    have hle : ρ.le (ρ.put s.nx ⟨w.heap.size, 0, 0, none⟩) := Ren.le_put (r.new _ hn h2)
    refine ⟨ρ.put s.nx ⟨w.heap.size, 0, 0, none⟩, { w with heap := w.heap.push (.map #[] 0) }, .map (some w.heap.size), ?_, hle, ?_, .map (L := ⟨w.heap.size, 0, 0, none⟩) Ren.put_self⟩
    · simp [Instr.makeMap]
    · rw [h3]
      exact r.push hn h2 _ _ _ rfl ⟨#[], by simp, .nil, .nil⟩

def lset : List (Value × Value) → Nat → Value → List (Value × Value)
  | [], _, _ => []
  | (k, _) :: l, 0, v => (k, v) :: l
  | p :: l, n + 1, v => p :: lset l n v
theorem lset_fst (l : List (Value × Value)) (n : Nat) (v : Value) : (lset l n v).map (·.1) = l.map (·.1) := by
  induction l generalizing n with
  | nil => rfl
  | cons p l ih => cases n with
    | zero => rfl
    | succ n => simp [lset, ih]
theorem lset_snd (l : List (Value × Value)) (n : Nat) (v : Value) : (lset l n v).map (·.2) = (l.map (·.2)).set n v := by
  induction l generalizing n with
  | nil => rfl
  | cons p l ih => cases n with
    | zero => rfl
    | succ n => simp [lset, ih]
def xput (P : Program) (N0 : Nat) (t : TypeId) (m k v : Value) : X Unit := match P.underlying t, m with
  | some (.map kt _), .map (some i) => match P.underlying kt with
    | some d => match kfindK P kt d k, Nat.ble N0 i with
      | some f, true => (X.rd i).bind fun
        | .map es clk => match f es with
          | some (some (j, _)) => fL (lset es j v) fun es => X.wrt i (.map es clk)
          | some none => fL (es ++ [(k, v)]) fun es => fN (clk + 1) fun c => X.wrt i (.map es c)
          | none => X.fail
        | _ => X.fail
      | _, _ => X.fail
    | none => X.fail
  | _, _ => X.fail
theorem xput_ok {t : TypeId} {m m' k k' v v' : Value} {s s' : St} (r : Rel N0 b0 w0 ρ s.h w) (hm : VRel ρ m m') (hk : VRel ρ k k') (hv : VRel ρ v v') (h : (xput P N0 t m k v).run s = some ((), s')) :
    GoodU N0 b0 w0 ρ s' ((Instr.mapUpdate t m' k' v').run P w) := by
  unfold xput at h
  split at h
  case h_2 => cases h
  case h_1 kt et i hd =>
    split at h
    case h_2 => cases h
    case h_1 d hdk =>
      split at h
      case h_2 => cases h
      case h_1 f hb hN =>
        have hN := Nat.le_of_ble_eq_true hN
        obtain ⟨rfl, hkey⟩ := kfindK_ok hdk hb hk
        obtain ⟨o, s1, g1, h'⟩ := X.bind_some h
        clear h
        obtain ⟨g2, g3, _⟩ := X.rd_some g1
        cases hm with
        | map hL =>
          rename_i L
          obtain ⟨L2, u, hlive⟩ := r.obj i o g2
          rw [hL] at u
          cases u
          split at h'
          case h_2 => cases h'
          case h_1 es clk =>
            obtain ⟨es', q1, q2, q3⟩ := id hlive
            have hlt : L.blk < w.heap.size := (Array.getElem?_eq_some_iff.1 q1).1
            split at h'
            · rename_i j u hf
              rw [fL_eq] at h'
              obtain ⟨_, e2, _⟩ := X.wrt_some h'
              rcases hkey.find es es'.toList _ w q2 q3 hf with ⟨f1, _⟩ | ⟨j2, a, a', e, f1, f2, f3, f4, f5, f6⟩
              · cases f1
              · cases f1
                have f4' : es'[j]? = some e := by simpa using f4
                refine ⟨ρ, { w with heap := w.heap.setIfInBounds L.blk (.map (es'.modify j fun e => { e with key := k', val := v' }) clk) }, ?_, Ren.le_refl _, ?_⟩
                · simp [Instr.mapUpdate, run_underlying hd, MapKept.run_getObj_map q1, hkey.check, f3, f4', f5, hkey.stay, MapKept.run_setObj_map _ q1]
                · rw [e2, g3]
                  refine r.upd hN g2 rfl rfl hL _ _ ⟨es'.modify j fun e => { e with key := k', val := v' }, by simp [hlt], ?_, ?_⟩
                  · rw [lset_fst]
                    have : (es'.modify j fun e => { e with key := k', val := v' }).toList.map (·.key) = es'.toList.map (·.key) := by
                      apply List.ext_getElem?
                      intro x
                      rw [List.getElem?_map, Array.toList_modify, List.getElem?_modify, List.getElem?_map]
                      by_cases hx : j = x
                      · subst hx; simp [f4', f5]
                      · simp [hx]
                    rw [this]
                    exact q2
                  · rw [lset_snd]
                    have : (es'.modify j fun e => { e with key := k', val := v' }).toList.map (·.val) = (es'.toList.map (·.val)).set j v' := by
                      apply List.ext_getElem?
                      intro x
                      rw [List.getElem?_map, Array.toList_modify, List.getElem?_modify, List.getElem?_set]
                      by_cases hx : j = x
                      · subst hx
                        have : j < es'.size := (Array.getElem?_eq_some_iff.1 f4').1
                        simp [f4', this]
                      · simp [hx]
                    rw [this]
                    exact q3.set j hv
            · rename_i hf
              rw [fL_eq, fN_eq] at h'
              obtain ⟨_, e2, _⟩ := X.wrt_some h'
              rcases hkey.find es es'.toList _ w q2 q3 hf with ⟨_, f2⟩ | ⟨j2, a, a', e, f1, _⟩
              · refine ⟨ρ, { w with heap := w.heap.setIfInBounds L.blk (.map (es'.push { key := k', val := v', born := clk }) (clk + 1)) }, ?_, Ren.le_refl _, ?_⟩
                · simp [Instr.mapUpdate, run_underlying hd, MapKept.run_getObj_map q1, hkey.check, f2, MapKept.run_setObj_map _ q1]
                · rw [e2, g3]
                  refine r.upd hN g2 rfl rfl hL _ _ ⟨es'.push { key := k', val := v', born := clk }, by simp [hlt], ?_, ?_⟩
                  · simp only [List.map_append, Array.toList_push]
                    exact q2.append (.cons hk .nil)
                  · simp only [List.map_append, Array.toList_push]
                    exact q3.append (.cons hv .nil)
              · cases f1
            · cases h'

def xlookup (P : Program) (t : TypeId) (m k : Value) (ok : Bool) : X Value := match P.underlying t, m with
  | some (.map kt et), .map (some i) => match P.underlying kt, P.info? et with
    | some d, some I => match kfindK P kt d k, I.zero with
      | some f, some z => (X.rd i).bind fun
        | .map es _ => match f es with
          | some (some (_, v)) => match ok with
            | true => X.pure (.tuple ⟨[v, .bool true]⟩)
            | false => X.pure v
          | some none => match plainL (cellsOf z), ok with
            | true, true => X.pure (.tuple ⟨[z, .bool false]⟩)
            | true, false => X.pure z
            | _, _ => X.fail
          | none => X.fail
        | _ => X.fail
      | _, _ => X.fail
    | _, _ => X.fail
  | _, _ => X.fail
theorem xlookup_ok {t : TypeId} {m m' k k' v : Value} {ok : Bool} {s s' : St} (r : Rel N0 b0 w0 ρ s.h w) (hm : VRel ρ m m') (hk : VRel ρ k k') (h : (xlookup P t m k ok).run s = some (v, s')) :
    Good N0 b0 w0 ρ s' v ((Instr.lookup t m' k' ok).run P w) := by
  unfold xlookup at h
  split at h
  case h_2 => cases h
  case h_1 kt et i hd =>
    split at h
    case h_2 => cases h
    case h_1 d I hdk hI =>
      split at h
      case h_2 => cases h
      case h_1 f z hb hz =>
        obtain ⟨rfl, hkey⟩ := kfindK_ok hdk hb hk
        obtain ⟨o, s1, g1, h'⟩ := X.bind_some h
        clear h
        obtain ⟨g2, g3, _⟩ := X.rd_some g1
        cases hm with
        | map hL =>
          rename_i L
          obtain ⟨L2, u, hlive⟩ := r.obj i o g2
          rw [hL] at u
          cases u
          split at h'
          case h_2 => cases h'
          case h_1 es clk =>
            obtain ⟨es', q1, q2, q3⟩ := id hlive
            split at h'
            · rename_i j u hf
              rcases hkey.find es es'.toList _ w q2 q3 hf with ⟨f1, _⟩ | ⟨j2, a, a', e, f1, f2, f3, f4, f5, f6⟩
              · cases f1
              · cases f1
                split at h'
                · obtain ⟨rfl, rfl⟩ := X.pure_some h'
                  refine ⟨ρ, w, .tuple #[a', .bool true], ?_, Ren.le_refl _, g3 ▸ r, .tuple (.cons f2 (.cons (.bool _) .nil))⟩
                  simp [Instr.lookup, run_underlying hd, MapKept.run_getObj_map q1, hkey.check, f3]
                · obtain ⟨rfl, rfl⟩ := X.pure_some h'
                  refine ⟨ρ, w, a', ?_, Ren.le_refl _, g3 ▸ r, f2⟩
                  simp [Instr.lookup, run_underlying hd, MapKept.run_getObj_map q1, hkey.check, f3]
            · rename_i hf
              rcases hkey.find es es'.toList _ w q2 q3 hf with ⟨_, f2⟩ | ⟨j2, a, a', e, f1, _⟩
              · split at h'
                · rename_i hp
                  obtain ⟨rfl, rfl⟩ := X.pure_some h'
                  refine ⟨ρ, w, .tuple #[z, .bool false], ?_, Ren.le_refl _, g3 ▸ r, .tuple (.cons (VRel.ofCells hp) (.cons (.bool _) .nil))⟩
                  simp [Instr.lookup, run_underlying hd, MapKept.run_getObj_map q1, hkey.check, f2, run_zeroValue' hI hz]
                · rename_i hp
                  obtain ⟨rfl, rfl⟩ := X.pure_some h'
                  refine ⟨ρ, w, v, ?_, Ren.le_refl _, g3 ▸ r, VRel.ofCells hp⟩
                  simp [Instr.lookup, run_underlying hd, MapKept.run_getObj_map q1, hkey.check, f2, run_zeroValue' hI hz]
                · cases h'
              · cases f1
            · cases h'
end
end Go.Rx
