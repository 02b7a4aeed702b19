/- Regions of a fixed order, and of any order. -/
import Derived.Test.YtpfjakcfjpgbmaaGreatDoorRxX
import Derived.Defers
namespace Go.Rx
set_option linter.unusedVariables false
set_option linter.unusedSimpArgs false
abbrev Tm := T Value
noncomputable section
variable {P : Program} {N0 b0 : Nat} {w0 : World} {ρ : Ren} {w : World}

def ev (N0 : Nat) (A : Tm) : Env
  | .tmp t => A.get t
  | .const v => match plainL (cellsOf v) with
    | true => some v
    | false => none
  | .global g => match Nat.blt g N0 with
    | true => some (.pointer (some ⟨g, 0, none⟩))
    | false => none
  | .func f => some (.func (.func f) #[] #[])
/-- A deferred call that does nothing where the function returns. -/
def IdleD (P : Program) (d : Deferred) : Prop := ∃ (fv : Fn) (cap : Array Value) (f : FuncId) (args : Array Value), d.target = .fn fv cap ∧ ∀ w : World, (invoke d.target d.args).run P w = .ok (.enter f args) w ∧
  CallsD P f args .returning w fun e u' w' => (∃ v, e = .returned v) ∧ u' = .returning ∧ w' = w
theorem leaves_idle {fn : Func} {tmps : Array Value} {R : Ending → World → Prop} {w : World} {v : Value} (hr : (results fn tmps).run P w = .ok v w) (hR : R (.returned v) w) : ∀ ds : List Deferred, (∀ d ∈ ds, IdleD P d) → Leaves P fn tmps R ds .returning w
  | [], _ => ⟨v, hr, hR⟩
  | d :: ds, h => by
    obtain ⟨fv, cap, f, args, ht, hd⟩ := h d (by simp)
    obtain ⟨h1, h2⟩ := hd w
    refine ⟨by simp, fv, cap, f, args, ht, h1, h2.mono ?_⟩
    rintro e u' w' ⟨⟨v', rfl⟩, rfl, rfl⟩
    exact leaves_idle hr hR ds fun d hd => h d (by simp [hd])
structure ARel (P : Program) (n : Nat) (ρ : Ren) (A : Tm) (a : Act) : Prop where
  size : n ≤ a.tmps.size
  defers : ∀ d ∈ a.defers, IdleD P d
  tmp : ∀ t v, A.get t = some v → VRel ρ v (a.tmps.getD t undef)
theorem ARel.mono {n : Nat} {ρ ρ' : Ren} {A : Tm} {a : Act} (h : ARel P n ρ A a) (hr : ρ.le ρ') : ARel P n ρ' A a := ⟨h.size, h.defers, fun t v e => (h.tmp t v e).mono hr⟩
theorem ARel.ev {n : Nat} {A : Tm} {a : Act} {h : T AObj} (hA : ARel P n ρ A a) (r : Rel N0 b0 w0 ρ h w) (l : List Operand) : ERel ρ (ev N0 A) a.eval l := by
  intro x _ v e
  cases x with
  | tmp t => exact hA.tmp t v e
  | const c =>
    simp only [Rx.ev] at e
    split at e
    · cases e; exact VRel.ofCells ‹_›
    · cases e
  | global g =>
    simp only [Rx.ev] at e
    split at e
    · cases e
      obtain ⟨L, h1, h2, h3⟩ := r.glob g (blt_iff ‹_›)
      have := VRel.ptr (ρ := ρ) 0 h1
      rw [h2, h3] at this
      exact this
    · cases e
  | func f => cases e; exact .func _ .nil .nil

def doPut (n : Nat) (A : Tm) (d : Option Tmp) (v : Value) : Option Tm := match d with
  | none => some A
  | some d => match Nat.blt d n with
    | true => T.setK A d v some
    | false => none
theorem ARel.put {n : Nat} {A A' : Tm} {a : Act} {d : Option Tmp} {v v' : Value} (h : ARel P n ρ A a) (hv : VRel ρ v v') (e : doPut n A d v = some A') : ARel P n ρ A' (a.put d v') := by
  unfold doPut at e
  split at e
  · cases e; exact h
  · rename_i d
    split at e
    · rename_i hlt
      rw [T.setK_eq] at e
      cases e
      have hd : d < a.tmps.size := Nat.lt_of_lt_of_le (blt_iff hlt) h.size
      refine ⟨by simpa [Act.put] using h.size, h.defers, fun t u hu => ?_⟩
      rw [T.get_set] at hu
      simp only [Act.put]
      split at hu
      · rename_i hdt
        subst hdt
        cases hu
        simpa [hd] using hv
      · rename_i hdt
        have := h.tmp t u hu
        simpa [Array.getElem?_setIfInBounds_ne hdt] using this
    · cases e
theorem doPut_get {n : Nat} {A A' : Tm} {d : Option Tmp} {v : Value} (e : doPut n A d v = some A') (t : Nat) : A'.get t = if d = some t then some v else A.get t := by
  unfold doPut at e
  split at e
  · cases e; simp
  · rename_i d
    split at e
    · rw [T.setK_eq] at e
      cases e
      rw [T.get_set]
      simp
    · cases e

structure CallX where
  run : FuncId → List Value → X Value
  /-- functions that do nothing when they are called, deferred, at a return: of how many pointers -/
  idle : FuncId → Option Nat
def CallGood (P : Program) (N0 b0 : Nat) (w0 : World) (ρ : Ren) (s' : St) (v : Value) (f : FuncId) (args' : List Value) (w : World) : Prop :=
  (∃ ρ' w' v', (callFunc f ⟨args'⟩).run P w = .ok (.value v') w' ∧ ρ.le ρ' ∧ Rel N0 b0 w0 ρ' s'.h w' ∧ VRel ρ' v v') ∨
  ((callFunc f ⟨args'⟩).run P w = .ok (.enter f ⟨args'⟩) w ∧ Calls P f ⟨args'⟩ w fun e w' => ∃ ρ' v', e = .returned v' ∧ ρ.le ρ' ∧ Rel N0 b0 w0 ρ' s'.h w' ∧ VRel ρ' v v')
def IdleOk (P : Program) (idle : FuncId → Option Nat) : Prop := ∀ g m, idle g = some m → ∀ args : List Value, args.length = m → (∀ x ∈ args, ∃ a, x = .pointer (some a)) →
  ∀ w : World, (callFunc g ⟨args⟩).run P w = .ok (.enter g ⟨args⟩) w ∧ CallsD P g ⟨args⟩ .returning w fun e u' w' => (∃ v, e = .returned v) ∧ u' = .returning ∧ w' = w
def RunOk (P : Program) (N0 b0 : Nat) (w0 : World) (run : FuncId → List Value → X Value) : Prop := ∀ (f : FuncId) (args args' : List Value) (s s' : St) (v : Value) (ρ : Ren) (w : World),
  Rel N0 b0 w0 ρ s.h w → VRels ρ args args' → (run f args).run s = some (v, s') → CallGood P N0 b0 w0 ρ s' v f args' w
def CallOk (P : Program) (N0 b0 : Nat) (w0 : World) (call : CallX) : Prop := RunOk P N0 b0 w0 call.run ∧ IdleOk P call.idle

/-- Whether an operation is to be done: its guard. -/
def wantX (ops : List Oper) (A : Tm) (o : Oper) : Option Bool := match o.guard with
  | none => some true
  | some (j, b) => match ops[j]? with
    | some oj => match oj.dst with
      | some t => match A.get t with
        | some (.bool true) => some b
        | some (.bool false) => some (!b)
        | some (.tuple _) => some false
        | _ => none
      | none => none
    | none => none
theorem wantX_ok {n : Nat} {ops : Array Oper} {A : Tm} {a : Act} {o : Oper} {b : Bool} (hA : ARel P n ρ A a) (h : wantX ops.toList A o = some b) : Region.wanted o (yielded ops a.tmps) = b := by
  unfold wantX at h
  unfold Region.wanted
  split at h
  · rename_i hg
    cases h
    simp [hg]
  · rename_i j c hg
    simp only [hg]
    split at h
    case h_2 => cases h
    case h_1 oj hj =>
      split at h
      case h_2 => cases h
      case h_1 t ht =>
        have hj' : ops[j]? = some oj := by simpa using hj
        have hB : ∀ b, a.tmps.getD t undef = .bool b → yielded ops a.tmps j = some b := fun b e => by
          unfold yielded
          simp only [hj', Option.bind_some, ht]
          by_cases hlt : t < a.tmps.size
          · have : a.tmps[t]? = some (.bool b) := by rw [← e]; simp [hlt]
            rw [this]
          · rw [Array.getD_eq_getD_getElem?, Array.getElem?_eq_none (Nat.le_of_not_lt hlt)] at e
            cases e
        have hT : ∀ x, a.tmps.getD t undef = .tuple x → yielded ops a.tmps j = none := fun x e => by
          unfold yielded
          simp only [hj', Option.bind_some, ht]
          by_cases hlt : t < a.tmps.size
          · have : a.tmps[t]? = some (.tuple x) := by rw [← e]; simp [hlt]
            rw [this]
          · have : a.tmps[t]? = none := Array.getElem?_eq_none (Nat.le_of_not_lt hlt)
            rw [this]
        split at h
        · rename_i ha
          cases h
          have hv := hA.tmp t _ ha
          generalize hq : a.tmps.getD t undef = q at hv
          cases hv
          rw [hB _ hq]
          cases b <;> rfl
        · rename_i ha
          cases h
          have hv := hA.tmp t _ ha
          generalize hq : a.tmps.getD t undef = q at hv
          cases hv
          rw [hB _ hq]
          cases c <;> rfl
        · rename_i ha
          cases h
          have hv := hA.tmp t _ ha
          generalize hq : a.tmps.getD t undef = q at hv
          cases hv
          rw [hT _ hq]
          cases c <;> rfl
        · cases h

def allPtr : List Value → Bool
  | [] => true
  | .pointer (some _) :: l => allPtr l
  | _ => false
theorem allPtr_ok {l l' : List Value} (h : VRels ρ l l') (hp : allPtr l = true) : ∀ x ∈ l', ∃ a, x = .pointer (some a) := by
  induction l generalizing l' with
  | nil => cases h; simp
  | cons v l ih =>
    cases h with
    | cons h1 h2 =>
      have : ∃ a, v = .pointer (some a) ∧ allPtr l = true := by
        unfold allPtr at hp
        split at hp <;> first | cases hp | skip
        · rename_i heq; cases heq
        · rename_i a _ heq; cases heq; exact ⟨a, rfl, hp⟩
      obtain ⟨a, rfl, hp'⟩ := this
      intro x hx
      rcases List.mem_cons.1 hx with rfl | hx
      · cases h1; exact ⟨_, rfl⟩
      · exact ih h2 hp' x hx
/-- What an operation yields. -/
def valX (P : Program) (N0 : Nat) (call : CallX) (ops : List Oper) (A : Tm) (o : Oper) : X Value := match wantX ops A o with
  | some true => match o.op with
    | .call ⟨.value f, args, _⟩ => match ev N0 A f, evs (ev N0 A) args.toList with
      | some (.func (.func g) a b), some l => fL (a.toList ++ (l ++ b.toList)) fun l => call.run g l
      | _, _ => X.fail
    | .call ⟨.invoke f name, args, _⟩ => match ev N0 A f, evs (ev N0 A) args.toList with
      | some (.iface t v), some l => match xmeth P t name with
        | some g => fL (v :: l) fun l => call.run g l
        | none => X.fail
      | _, _ => X.fail
    | .defer ⟨.value f, ⟨[]⟩, _⟩ => match ev N0 A f with
      | some (.func (.func g) ⟨[]⟩ b) => match call.idle g with
        | some m => match Nat.beq b.toList.length m && allPtr b.toList with
          | true => X.pure undef
          | false => X.fail
        | none => X.fail
      | _ => X.fail
    | _ => xop P N0 (ev N0 A) o
  | some false => X.pure undef
  | none => X.fail

theorem valX_ok {n : Nat} {call : CallX} (hc : CallOk P N0 b0 w0 call) {ops : Array Oper} {A A' : Tm} {a : Act} {i : Nat} {o : Oper} {v : Value} {s s' : St} {K : Act → World → Prop} {Q : Exit → Act → World → Prop}
    (r : Rel N0 b0 w0 ρ s.h w) (hA : ARel P n ρ A a) (ho : ops[i]? = some o) (h : (valX P N0 call ops.toList A o).run s = some (v, s')) (hp : doPut n A o.dst v = some A')
    (hK : ∀ ρ' w' a', ρ.le ρ' → Rel N0 b0 w0 ρ' s'.h w' → ARel P n ρ' A' a' → K a' w') : wpOp P ops Q i K a w := by
  unfold wpOp
  simp only [ho]
  have un : ∀ ρ' w', ρ.le ρ' → Rel N0 b0 w0 ρ' s'.h w' → v = undef → K (a.put o.dst undef) w' := fun ρ' w' hle hr hv =>
    hK ρ' w' _ hle hr ((hA.mono hle).put (by rw [hv]; exact VRel.tuple (ρ := ρ') .nil) hp)
  unfold valX at h
  split at h
  · rename_i hw
    rw [wantX_ok hA hw, if_pos rfl]
    left
    unfold Oper.wp
    split at h
    · rename_i f args ts hop
      split at h
      case h_2 => cases h
      case h_1 g fa fb l hf hl =>
        rw [fL_eq] at h
        have rf := (hA.ev r [f]) f (by simp) _ hf
        have rl := evs_rel (hA.ev r args.toList) hl
        obtain ⟨dst, op, ty, pos, after, guard⟩ := o
        simp only at hop
        subst hop
        generalize hq : a.eval f = q at rf
        cases rf with
        | func _ ra rb =>
          rename_i fa' fb'
          have hrun : (execOp a.eval { dst := dst, op := .call ⟨.value f, args, ts⟩, type := ty, pos := pos, after := after, guard := guard }).run P w =
              (callFunc g ⟨fa'.toList ++ (args.toList.map a.eval ++ fb'.toList)⟩).run P w := by
            have e1 : (⟨fa'.toList ++ (args.toList.map a.eval ++ fb'.toList)⟩ : Array Value) = fa' ++ args.map a.eval ++ fb' := by
              apply Array.ext'
              simp
            simp only [execOp, resolve, hq, Deferred.ofValue, Sem.run_bind, Sem.run_pure, Result.andThen_ok, invoke, e1]
          rw [hrun]
          rcases hc.1 g _ _ s s' v ρ w r (ra.append (rl.append rb)) h with ⟨ρ', w', v', e1, hle, hr, hv⟩ | ⟨e1, hcl⟩
          · rw [e1, Oper.upon_value]
            exact hK ρ' w' _ hle hr ((hA.mono hle).put hv hp)
          · rw [e1, Oper.upon_enter]
            refine hcl.mono ?_
            rintro e w' ⟨ρ', v', rfl, hle, hr, hv⟩
            exact hK ρ' w' _ hle hr ((hA.mono hle).put hv hp)
    · rename_i f name args ts hop
      split at h
      case h_2 => cases h
      case h_1 t u l hf hl =>
        split at h
        case h_2 => cases h
        case h_1 g hg =>
          rw [fL_eq] at h
          have rf := (hA.ev r [f]) f (by simp) _ hf
          have rl := evs_rel (hA.ev r args.toList) hl
          obtain ⟨dst, op, ty, pos, after, guard⟩ := o
          simp only at hop
          subst hop
          generalize hq : a.eval f = q at rf
          cases rf with
          | iface _ ru =>
            rename_i u'
            have hrun : (execOp a.eval { dst := dst, op := .call ⟨.invoke f name, args, ts⟩, type := ty, pos := pos, after := after, guard := guard }).run P w =
                (callFunc g ⟨u' :: args.toList.map a.eval⟩).run P w := by
              have e1 : (⟨u' :: args.toList.map a.eval⟩ : Array Value) = #[u'] ++ args.map a.eval := by
                apply Array.ext'
                simp
              have e2 : (#[Value.iface t u'] ++ args.map a.eval).extract 1 (#[Value.iface t u'] ++ args.map a.eval).size = args.map a.eval := by
                apply Array.ext'
                rw [Array.toList_extract]
                simp only [List.extract, Array.toList_append, Array.size_append, Array.size_map, Array.toList_map]
                exact List.take_of_length_le (by simp)
              have e3 : (#[Value.iface t u'] ++ args.map a.eval)[0]? = some (.iface t u') := by rw [Array.getElem?_append]; rfl
              rw [e1, ← xmeth_ok hg]
              simp only [execOp, resolve, hq, Sem.run_bind, Sem.run_pure, Result.andThen_ok, invoke]
              rw [e3]
              dsimp only
              rw [e2]
            rw [hrun]
            rcases hc.1 g _ _ s s' v ρ w r (.cons ru rl) h with ⟨ρ', w', v', e1, hle, hr, hv⟩ | ⟨e1, hcl⟩
            · rw [e1, Oper.upon_value]
              exact hK ρ' w' _ hle hr ((hA.mono hle).put hv hp)
            · rw [e1, Oper.upon_enter]
              refine hcl.mono ?_
              rintro e w' ⟨ρ', v', rfl, hle, hr, hv⟩
              exact hK ρ' w' _ hle hr ((hA.mono hle).put hv hp)
    · rename_i f ts hop
      split at h
      case h_2 => cases h
      case h_1 g fb hf =>
        split at h
        case h_2 => cases h
        case h_1 m hm =>
          split at h
          case h_2 => cases h
          case h_1 hb =>
            obtain ⟨hv, rfl⟩ := X.pure_some h
            simp only [Bool.and_eq_true] at hb
            have rf := (hA.ev r [f]) f (by simp) _ hf
            obtain ⟨dst, op, ty, pos, after, guard⟩ := o
            simp only at hop
            subst hop
            generalize hq : a.eval f = q at rf
            cases rf with
            | func _ ra rb =>
              rename_i fa' fb'
              have hfa : fa' = #[] := by
                obtain ⟨l⟩ := fa'
                cases ra
                rfl
              subst hfa
              have hrun : (execOp a.eval { dst := dst, op := .defer ⟨.value f, ⟨[]⟩, ts⟩, type := ty, pos := pos, after := after, guard := guard }).run P w = .ok (.defer { target := .fn (.func g) fb', args := #[] }) w := by
                simp [execOp, resolve, hq, Deferred.ofValue]
              rw [hrun, Oper.upon_defer]
              have hid : IdleD P { target := .fn (.func g) fb', args := #[] } := ⟨.func g, fb', g, ⟨fb'.toList⟩, rfl, fun w2 => by
                obtain ⟨h1, h2⟩ := hc.2 g m hm fb'.toList (by rw [rb.length]; exact Nat.eq_of_beq_eq_true hb.1) (allPtr_ok rb hb.2) w2
                have e : (#[] ++ fb' : Array Value) = ⟨fb'.toList⟩ := by simp
                exact ⟨by simpa only [invoke, e] using h1, h2⟩⟩
              have hA2 : ARel P n ρ A { tmps := a.tmps, defers := { target := .fn (.func g) fb', args := #[] } :: a.defers } := ⟨hA.size, fun d hd => by
                rcases List.mem_cons.1 hd with rfl | hd
                · exact hid
                · exact hA.defers d hd, hA.tmp⟩
              exact hK ρ w _ (Ren.le_refl _) r (hA2.put (by rw [hv]; exact VRel.tuple (ρ := ρ) .nil) hp)
    · obtain ⟨ρ', w', nx, e1, hle, hr, hn⟩ := xop_ok r (hA.ev r _) h
      rw [e1]
      rcases hn with ⟨v', rfl, hv⟩ | ⟨rfl, hv⟩
      · rw [Oper.upon_value]
        exact hK ρ' w' _ hle hr ((hA.mono hle).put hv hp)
      · rw [Oper.upon_skip]
        exact un ρ' w' hle hr hv
  · rename_i hw
    obtain ⟨hv, rfl⟩ := X.pure_some h
    rw [wantX_ok hA hw]
    simp only [Bool.false_eq_true, if_false]
    exact un ρ w (Ren.le_refl _) r hv
  · cases h

def opsX (P : Program) (N0 : Nat) (call : CallX) (n : Nat) (ops : List Oper) : List Oper → Tm → X Tm
  | [], A => X.pure A
  | o :: l, A => (valX P N0 call ops A o).bind fun v => match doPut n A o.dst v with
    | some A => opsX P N0 call n ops l A
    | none => X.fail
theorem opsX_ok {n : Nat} {call : CallX} (hc : CallOk P N0 b0 w0 call) {ops : Array Oper} {Q : Exit → Act → World → Prop} : ∀ (l : List Oper) (i : Nat) (A A' : Tm) (a : Act) (s s' : St) (ρ : Ren) (w : World),
    ops.toList.drop i = l → Rel N0 b0 w0 ρ s.h w → ARel P n ρ A a → (opsX P N0 call n ops.toList l A).run s = some (A', s') →
    (∀ ρ' w' a', ρ.le ρ' → Rel N0 b0 w0 ρ' s'.h w' → ARel P n ρ' A' a' → Q .normal a' w') → wpOps P ops Q (List.range' i l.length) a w := by
  intro l
  induction l with
  | nil =>
    intro i A A' a s s' ρ w _ r hA h hQ
    obtain ⟨rfl, rfl⟩ := X.pure_some h
    exact hQ ρ w a (Ren.le_refl _) r hA
  | cons o l ih =>
    intro i A A' a s s' ρ w hd r hA h hQ
    have ho : ops[i]? = some o := by
      have : ops.toList[i]? = some o := by
        have := congrArg (·[0]?) hd
        simpa using this
      simpa using this
    have hd' : ops.toList.drop (i + 1) = l := by
      rw [← List.drop_drop, hd]; rfl
    simp only [opsX] at h
    obtain ⟨v, s1, h1, h2⟩ := X.bind_some h
    split at h2
    case h_2 => cases h2
    case h_1 A1 hp =>
      rw [List.length_cons, List.range'_succ, wpOps_cons]
      refine valX_ok hc r hA ho h1 hp fun ρ' w' a' hle hr hA' => ?_
      exact ih (i + 1) A1 A' a' s1 s' ρ' w' hd' hr hA' h2 fun ρ2 w2 a2 hle2 => hQ ρ2 w2 a2 (Ren.le_trans hle hle2)
end
end Go.Rx
