/- Runs put to use: results compared, a function's code taken piece by piece. -/
import Derived.Test.YtpfjakcfjpgbmaaGreatDoorRxZ
namespace Go.Rx
set_option linter.unusedVariables false
set_option linter.unusedSimpArgs false

def sm1 (a b : Value) : Bool := match a with
  | .bool x => match b with
    | .bool y => match x with
      | true => y
      | false => !y
    | _ => false
  | .int k n => match b with
    | .int k' n' => match kEq k k' with
      | true => eqI n n'
      | false => false
    | _ => false
  | .string s => match b with
    | .string t => eqL s.data.toList t.data.toList
    | _ => false
  | .pointer none => match b with
    | .pointer none => true
    | _ => false
  | .pointer (some ⟨i, o, none⟩) => match b with
    | .pointer (some ⟨j, o', none⟩) => match Nat.beq i j with
      | true => Nat.beq o o'
      | false => false
    | _ => false
  | .slice none l c => match b with
    | .slice none l' c' => match Nat.beq l l' with
      | true => Nat.beq c c'
      | false => false
    | _ => false
  | .slice (some ⟨i, o, none⟩) l c => match b with
    | .slice (some ⟨j, o', none⟩) l' c' => match Nat.beq i j, Nat.beq o o', Nat.beq l l' with
      | true, true, true => Nat.beq c c'
      | _, _, _ => false
    | _ => false
  | .map none => match b with
    | .map none => true
    | _ => false
  | .map (some i) => match b with
    | .map (some j) => Nat.beq i j
    | _ => false
  | .func (.func f) ⟨[]⟩ ⟨[]⟩ => match b with
    | .func (.func g) ⟨[]⟩ ⟨[]⟩ => Nat.beq f g
    | _ => false
  | .nilFunc => match b with
    | .nilFunc => true
    | _ => false
  | .nilIface => match b with
    | .nilIface => true
    | _ => false
  | _ => false
theorem sm1_eq {a b : Value} (h : sm1 a b = true) : a = b := by
  unfold sm1 at h
  split at h
  · split at h
    · rename_i x _ y
      cases x <;> cases y <;> first | rfl | cases h
    · cases h
  · split at h
    · split at h
      · rename_i hk
        rw [eqI_eq] at h
        rw [kEq_eq hk, eq_of_beq h]
      · cases h
    · cases h
  · split at h
    · rename_i s _ t
      rw [eqL_eq] at h
      have := eq_of_beq h
      cases s with | mk s => cases t with | mk t =>
      cases s; cases t
      cases this
      rfl
    · cases h
  · split at h
    · rfl
    · cases h
  · split at h
    · split at h
      · rename_i h1
        rw [Nat.eq_of_beq_eq_true h1, Nat.eq_of_beq_eq_true h]
      · cases h
    · cases h
  · split at h
    · split at h
      · rename_i h1
        rw [Nat.eq_of_beq_eq_true h1, Nat.eq_of_beq_eq_true h]
      · cases h
    · cases h
  · split at h
    · split at h
      · rename_i h1 h2 h3
        rw [Nat.eq_of_beq_eq_true h1, Nat.eq_of_beq_eq_true h2, Nat.eq_of_beq_eq_true h3, Nat.eq_of_beq_eq_true h]
      · cases h
    · cases h
  · split at h
    · rfl
    · cases h
  · split at h
    · rw [Nat.eq_of_beq_eq_true h]
    · cases h
  · split at h
    · rw [Nat.eq_of_beq_eq_true h]
    · cases h
  · split at h
    · rfl
    · cases h
  · split at h
    · rfl
    · cases h
  · cases h
def smVs (f : Value → Value → Bool) : List Value → List Value → Bool
  | [], m => match m with
    | [] => true
    | _ => false
  | a :: l, m => match m with
    | [] => false
    | b :: m => match f a b with
      | true => smVs f l m
      | false => false
theorem smVs_eq {f : Value → Value → Bool} (hf : ∀ a b, f a b = true → a = b) : ∀ {l m : List Value}, smVs f l m = true → l = m
  | [], [], _ => rfl
  | [], _ :: _, h => by cases h
  | _ :: _, [], h => by cases h
  | a :: l, b :: m, h => by
    dsimp only [smVs] at h
    split at h
    · rename_i h1
      rw [hf a b h1, smVs_eq hf h]
    · cases h
def sm2 (a b : Value) : Bool := match a with
  | .agg x => match b with
    | .agg y => smVs sm1 x.toList y.toList
    | _ => false
  | a => sm1 a b
theorem sm2_eq {a b : Value} (h : sm2 a b = true) : a = b := by
  unfold sm2 at h
  split at h
  · split at h
    · rename_i x _ y
      have := smVs_eq (fun _ _ => sm1_eq) h
      cases x; cases y; cases this; rfl
    · cases h
  · exact sm1_eq h
def sm3 (a b : Value) : Bool := match a with
  | .tuple x => match b with
    | .tuple y => smVs sm2 x.toList y.toList
    | _ => false
  | a => sm2 a b
theorem sm3_eq {a b : Value} (h : sm3 a b = true) : a = b := by
  unfold sm3 at h
  split at h
  · split at h
    · rename_i x _ y
      have := smVs_eq (fun _ _ => sm2_eq) h
      cases x; cases y; cases this; rfl
    · cases h
  · exact sm2_eq h
def smN (a b : Option Nat) : Bool := match a with
  | none => match b with
    | none => true
    | _ => false
  | some i => match b with
    | some j => Nat.beq i j
    | _ => false
theorem smN_eq {a b : Option Nat} (h : smN a b = true) : a = b := by
  cases a <;> cases b <;> first | rfl | cases h | exact congrArg some (Nat.eq_of_beq_eq_true h)
def smO (a b : AObj) : Bool := match a with
  | .cells c t f0 f1 lo => match b with
    | .cells c' t' f0' f1' lo' => match Nat.beq t t', Nat.beq f0 f0', Nat.beq f1 f1', smN lo lo' with
      | true, true, true, true => smVs sm1 c c'
      | _, _, _, _ => false
    | _ => false
  | _ => false
theorem smO_eq {a b : AObj} (h : smO a b = true) : a = b := by
  unfold smO at h
  split at h
  · split at h
    · split at h
      · rename_i h1 h2 h3 h4
        rw [Nat.eq_of_beq_eq_true h1, Nat.eq_of_beq_eq_true h2, Nat.eq_of_beq_eq_true h3, smN_eq h4, smVs_eq (fun _ _ => sm1_eq) h]
      · cases h
    · cases h
  · cases h
/-- Two heaps are the same tree. -/
def smT : T AObj → T AObj → Bool
  | .e, b => match b with
    | .e => true
    | _ => false
  | .n v a b c d, t => match t with
    | .n v' a' b' c' d' => match smT a a', smT b b', smT c c', smT d d' with
      | true, true, true, true => match v, v' with
        | none, none => true
        | some x, some y => smO x y
        | _, _ => false
      | _, _, _, _ => false
    | _ => false
theorem smT_eq : ∀ {a b : T AObj}, smT a b = true → a = b
  | .e, .e, _ => rfl
  | .e, .n .., h => by cases h
  | .n .., .e, h => by cases h
  | .n v a b c d, .n v' a' b' c' d', h => by
    dsimp only [smT] at h
    split at h
    · rename_i h1 h2 h3 h4
      rw [smT_eq h1, smT_eq h2, smT_eq h3, smT_eq h4]
      split at h
      · rfl
      · rw [smO_eq h]
      · cases h
    · cases h

/-- Whether a result is the one that is told, with its blocks. -/
noncomputable def fitObjs (N0 : Nat) (h : T AObj) : List (Nat × AObj) → List Nat → Bool
  | [], _ => true
  | (i, o) :: l, seen => match Nat.ble N0 i, seen.all (fun j => !Nat.beq i j), h.get i with
    | true, true, some o' => match smO o' o with
      | true => fitObjs N0 h l (i :: seen)
      | false => false
    | _, _, _ => false
noncomputable def fitRet (N0 : Nat) (R : Ret) : Option (Value × St) → Bool
  | some (v, s) => match sm3 v R.v with
    | true => fitObjs N0 s.h R.objs []
    | false => false
  | none => false
theorem fitObjs_get {N0 : Nat} {h : T AObj} : ∀ {l : List (Nat × AObj)} {seen : List Nat}, fitObjs N0 h l seen = true →
    (∀ (k i : Nat) (o : AObj), l[k]? = some (i, o) → N0 ≤ i ∧ h.get i = some o ∧ i ∉ seen) ∧ ∀ (k k' i : Nat) (o o' : AObj), l[k]? = some (i, o) → l[k']? = some (i, o') → k = k'
  | [], _, _ => ⟨fun _ _ _ h => (by simp at h), fun _ _ _ _ _ h => (by simp at h)⟩
  | (i, o) :: l, seen, h => by
    unfold fitObjs at h
    split at h
    case h_2 => cases h
    case h_1 o1 h1 h2 h3 =>
      split at h
      case h_2 => cases h
      case h_1 h4 =>
        obtain ⟨g1, g2⟩ := fitObjs_get h
        have hs : i ∉ seen := fun hm => by
          have := (List.all_eq_true.1 h2) i hm
          rw [Nat.beq_refl] at this
          cases this
        refine ⟨fun k j u e => ?_, fun k k' j u u' e e' => ?_⟩
        · cases k with
          | zero =>
            cases e
            exact ⟨Nat.le_of_ble_eq_true h1, by rw [h3, smO_eq h4], hs⟩
          | succ k =>
            obtain ⟨q1, q2, q3⟩ := g1 k j u e
            exact ⟨q1, q2, fun hm => q3 (List.mem_cons_of_mem _ hm)⟩
        · cases k with
          | zero =>
            cases k' with
            | zero => rfl
            | succ k' =>
              cases e
              exact absurd (List.mem_cons_self ..) (g1 k' i u' e').2.2
          | succ k =>
            cases k' with
            | zero =>
              cases e'
              exact absurd (List.mem_cons_self ..) (g1 k i u e).2.2
            | succ k' => rw [g2 k k' j u u' e e']

noncomputable section
variable {P : Program} {N0 b0 : Nat} {w0 : World} {ρ : Ren} {w : World}

/-- A run from a start heap, as something that is known from then on. -/
theorem known_of_run {K : Known P N0} (hF : Fit P) {k nx : Nat} {H0 : T AObj} {ρ0 : Ren} {f : FuncId} {args : List Value} {R : Ret} (hE : K.env w) (hr : Rel N0 w.heap.size w ρ0 H0 w) (hp : plainL args = true)
    (h : fitRet N0 R (((exeZ P N0 K k).1.run f args).run ⟨nx, H0, 0, 0⟩) = true) :
    ((∃ v w', (callFunc f ⟨args⟩).run P w = .ok (.value v) w') ∨ (callFunc f ⟨args⟩).run P w = .ok (.enter f ⟨args⟩) w) ∧
    ((callFunc f ⟨args⟩).run P w = .ok (.enter f ⟨args⟩) w → Calls P f ⟨args⟩ w fun e w' => ∃ ρ' h' v', e = .returned v' ∧ Rel N0 w.heap.size w ρ' h' w' ∧ VRel ρ' R.v v' ∧ ∀ (k i : Nat) (o : AObj), R.objs[k]? = some (i, o) → N0 ≤ i ∧ h'.get i = some o) := by
  rw [← exeZ_eq] at h
  unfold fitRet at h
  split at h
  case h_2 => cases h
  case h_1 v s hrun =>
    split at h
    case h_2 => cases h
    case h_1 hv =>
      obtain ⟨g1, g2⟩ := fitObjs_get h
      rcases (exe_ok hF hE k).1.1 f args args _ s v ρ0 w hr (.plain hp) hrun with ⟨ρ', w', v', e, _⟩ | ⟨e, hc⟩
      · exact ⟨.inl ⟨v', w', e⟩, fun e' => by rw [e] at e'; cases e'⟩
      · refine ⟨.inr e, fun _ => hc.mono ?_⟩
        rintro e w' ⟨ρ', v', rfl, _, h1, h2⟩
        exact ⟨ρ', s.h, v', rfl, h1, sm3_eq hv ▸ h2, fun k i o hk => ⟨(g1 k i o hk).1, (g1 k i o hk).2.1⟩⟩

theorem fit_inj {R : Ret} {x : Option (Value × St)} (h : fitRet N0 R x = true) (k k' i : Nat) (o o' : AObj) (e : R.objs[k]? = some (i, o)) (e' : R.objs[k']? = some (i, o')) : k = k' := by
  unfold fitRet at h
  split at h
  case h_2 => cases h
  case h_1 =>
    split at h
    case h_2 => cases h
    case h_1 => exact (fitObjs_get h).2 k k' i o o' e e'

/-- From these temporaries and this heap a piece of code ends so that the function gives v. -/
def Yields (P : Program) (N0 b0 : Nat) (w0 : World) (fn : Func) (v : Value) (c : Code) (A : Tm) (h : T AObj) : Prop :=
  ∀ ρ w a, Rel N0 b0 w0 ρ h w → ARel P fn.ntmps ρ A a → c.wp P (fun x a' w' => (x = .normal ∨ x = .ret) ∧ (∀ d ∈ a'.defers, IdleD P d) ∧ (results fn a'.tmps).run P w' = .ok v w' ∧ ∃ ρ' h', Rel N0 b0 w0 ρ' h' w') a w
noncomputable def endsAs (P : Program) (fn : Func) (v : Value) : Option ((Ex × Tm) × St) → Bool
  | some ((x, A), s) => match x with
    | .exit _ => false
    | _ => match (resX P A fn.results.toList).run s with
      | some (l, _) => match plainV v with
        | true => sm1 (resV l) v
        | false => false
      | none => false
  | none => false
theorem Yields.run {K : Known P N0} (hF : Fit P) (hE : K.env w0) {fn : Func} {v : Value} {c : Code} {A : Tm} {s : St} {k : Nat}
    (h : endsAs P fn v (((exeZ P N0 K k).2 fn.ntmps c A).run s) = true) : Yields P N0 b0 w0 fn v c A s.h := by
  intro ρ w a r hA
  rw [← exeZ_eq] at h
  unfold endsAs at h
  split at h
  case h_2 => cases h
  case h_1 x A' s' hrun =>
    refine wpK_wp ((exe_ok hF hE k).2 fn.ntmps c A A' x s s' ρ w a _ r hA hrun fun ρ' w' a' _ r' hA' => ?_)
    have fin : (match (resX P A' fn.results.toList).run s' with
      | some (l, _) => match plainV v with
        | true => sm1 (resV l) v
        | false => false
      | none => false) = true → (∀ d ∈ a'.defers, IdleD P d) ∧ (results fn a'.tmps).run P w' = .ok v w' ∧ ∃ ρ' h', Rel N0 b0 w0 ρ' h' w' := fun h => by
      split at h
      case h_2 => cases h
      case h_1 l s2 hres =>
        split at h
        case h_2 => cases h
        case h_1 hpv =>
          obtain ⟨_, v', e1, e2⟩ := results_ok hA' r' hres
          rw [sm1_eq h] at e2
          exact ⟨hA'.defers, by rw [e1, e2.plain_eq hpv], _, _, r'⟩
    cases x with
    | exit i => cases h
    | normal => exact ⟨.inl rfl, fin h⟩
    | ret => exact ⟨.inr rfl, fin h⟩
/-- The temporaries that are told. -/
noncomputable def mkA : List (Nat × Value) → Tm
  | [] => .e
  | (t, v) :: l => (mkA l).set t v
noncomputable def hasA (A : Tm) : List (Nat × Value) → Bool
  | [] => true
  | (t, v) :: l => match A.get t with
    | some u => match sm1 u v with
      | true => hasA A l
      | false => false
    | none => false
theorem ARel.sub {n : Nat} {A B : Tm} {a : Act} (hA : ARel P n ρ A a) (h : ∀ t v, B.get t = some v → A.get t = some v) : ARel P n ρ B a := ⟨hA.size, hA.defers, fun t v e => hA.tmp t v (h t v e)⟩
theorem hasA_get {A : Tm} : ∀ {l : List (Nat × Value)}, hasA A l = true → ∀ t v, (mkA l).get t = some v → A.get t = some v
  | [], _, t, v, e => by rw [mkA, T.get_e] at e; cases e
  | (t0, v0) :: l, h, t, v, e => by
    unfold hasA at h
    split at h
    case h_2 => cases h
    case h_1 u hu =>
      split at h
      case h_2 => cases h
      case h_1 h1 =>
        rw [mkA, T.get_set] at e
        split at e
        · rename_i ht
          cases e
          rw [← ht, hu, sm1_eq h1]
        · exact hasA_get h t v e
/-- A first part of the code, run by itself: of its temporaries only those in l are used from then on, and the heap is as told. -/
noncomputable def passes (l : List (Nat × Value)) (H : T AObj) : Option ((Ex × Tm) × St) → Bool
  | some ((.normal, A), s) => match hasA A l with
    | true => smT s.h H
    | false => false
  | _ => false
theorem Yields.step {K : Known P N0} (hF : Fit P) (hE : K.env w0) {fn : Func} {v : Value} {c c' : Code} {A : Tm} {s : St} {k : Nat} {l : List (Nat × Value)} {H : T AObj}
    (h : passes l H (((exeZ P N0 K k).2 fn.ntmps c A).run s) = true) (hy : Yields P N0 b0 w0 fn v c' (mkA l) H) : Yields P N0 b0 w0 fn v (.seq c c') A s.h := by
  intro ρ w a r hA
  rw [← exeZ_eq] at h
  unfold passes at h
  split at h
  case h_2 => cases h
  case h_1 A' s' hrun =>
    split at h
    case h_2 => cases h
    case h_1 h1 =>
      refine wp_seq (wpK_wp ((exe_ok hF hE k).2 fn.ntmps c A A' .normal s s' ρ w a _ r hA hrun fun ρ' w' a' _ r' hA' => ?_))
      exact hy ρ' w' a' (smT_eq h ▸ r') (hA'.sub (hasA_get h1))
def fstC : Code → Code
  | .seq a _ => a
  | c => c
def sndC : Code → Code
  | .seq _ b => b
  | c => c
def bodyOf (fn : Func) : Code := fn.body.getD .skip
noncomputable def argA : List Value → Nat → Tm
  | [], _ => .e
  | v :: l, i => (argA l (i + 1)).set i v
theorem argA_get : ∀ {l : List Value} {i t : Nat} {v : Value}, (argA l i).get t = some v → i ≤ t ∧ l[t - i]? = some v
  | [], i, t, v, e => by rw [argA, T.get_e] at e; cases e
  | u :: l, i, t, v, e => by
    rw [argA, T.get_set] at e
    split at e
    · rename_i ht
      subst ht
      rw [Nat.sub_self]
      exact ⟨Nat.le_refl _, e⟩
    · obtain ⟨h1, h2⟩ := argA_get e
      refine ⟨by omega, ?_⟩
      rw [show t - i = (t - (i + 1)) + 1 from by omega]
      exact h2
/-- A function whose code yields v. -/
theorem Yields.calls (hF : Fit P) {f : FuncId} {fn : Func} {c : Code} {v : Value} {args : List Value} (hfn : P.funcs[f]? = some fn) (hc : fn.body = some c) (hlen : args.length ≤ fn.ntmps) (hp : plainL args = true)
    {H0 : T AObj} {ρ0 : Ren} (hr : Rel N0 w.heap.size w ρ0 H0 w) (hy : Yields P N0 w.heap.size w fn v c (argA args 0) H0) :
    (callFunc f ⟨args⟩).run P w = .ok (.enter f ⟨args⟩) w ∧ Calls P f ⟨args⟩ w fun e w' => e = .returned v ∧ ∃ ρ' h', Rel N0 w.heap.size w ρ' h' w' := by
  refine ⟨?_, calls_of_wp_defers hfn hc ?_⟩
  · have := hF.names f fn hfn (by rw [hc]; rfl)
    simp [callFunc, hfn, this, hc]
  · refine Code.wp_mono ?_ (hy ρ0 w _ hr ⟨by simp; omega, fun d hd => (by cases hd), fun t u hu => ?_⟩)
    · rintro x a' w' ⟨hx, hd, he, hr'⟩
      rcases hx with rfl | rfl
      · exact leaves_idle he ⟨rfl, hr'⟩ _ hd
      · exact leaves_idle he ⟨rfl, hr'⟩ _ hd
    · obtain ⟨_, h2⟩ := argA_get hu
      rw [Nat.sub_zero] at h2
      have hlt : t < args.length := (List.getElem?_eq_some_iff.1 h2).1
      have hpu : plainV u = true := by
        clear hy hlen hu hlt
        induction args generalizing t with
        | nil => simp at h2
        | cons y l ih =>
          simp only [plainL, Bool.and_eq_true] at hp
          cases t with
          | zero => cases h2; exact hp.1
          | succ t => exact ih hp.2 _ (Nat.zero_le _) h2
      simp only [Array.getD_eq_getD_getElem?, Array.getElem?_append, List.size_toArray, hlt, if_true, List.getElem?_toArray, h2, Option.getD_some]
      exact .plain hpu
end
end Go.Rx
