/- Regions of a fixed order, and of any order. Regions whose order is drawn: every order ends alike where no two operations that may change places touch the same thing. A region of any order. What a call that was run once gives, set into another run. -/
import Derived.Test.YtpfjakcfjpgbmaaGreatDoorZN5
import Derived.Defers
namespace Go.Rx
set_option linter.unusedVariables false
set_option linter.unusedSimpArgs false
abbrev Tm := T Value
noncomputable section
variable {P : Program} {N0 b0 : Nat} {w0 : World} {ρ : Ren} {w : World}

def ev (N0 : Nat) (A : Tm) : Env
  | .tmp t => A.get t
  | .const v => match plainL (cellsOf v) with
    | true => some v
    | false => none
  | .global g => match Nat.blt g N0 with
    | true => some (.pointer (some ⟨g, 0, none⟩))
    | false => none
  | .func f => some (.func (.func f) #[] #[])
/-- A deferred call that does nothing where the function returns. -/
def IdleD (P : Program) (d : Deferred) : Prop := ∃ (fv : Fn) (cap : Array Value) (f : FuncId) (args : Array Value), d.target = .fn fv cap ∧ ∀ w : World, (invoke d.target d.args).run P w = .ok (.enter f args) w ∧
  CallsD P f args .returning w fun e u' w' => (∃ v, e = .returned v) ∧ u' = .returning ∧ w' = w
theorem leaves_idle {fn : Func} {tmps : Array Value} {R : Ending → World → Prop} {w : World} {v : Value} (hr : (results fn tmps).run P w = .ok v w) (hR : R (.returned v) w) : ∀ ds : List Deferred, (∀ d ∈ ds, IdleD P d) → Leaves P fn tmps R ds .returning w
  | [], _ => ⟨v, hr, hR⟩
  | d :: ds, h => by
    obtain ⟨fv, cap, f, args, ht, hd⟩ := h d (by simp)
    obtain ⟨h1, h2⟩ := hd w
    refine ⟨by simp, fv, cap, f, args, ht, h1, h2.mono ?_⟩
    rintro e u' w' ⟨⟨v', rfl⟩, rfl, rfl⟩
    exact leaves_idle hr hR ds fun d hd => h d (by simp [hd])
structure ARel (P : Program) (n : Nat) (ρ : Ren) (A : Tm) (a : Act) : Prop where
  size : n ≤ a.tmps.size
  defers : ∀ d ∈ a.defers, IdleD P d
  tmp : ∀ t v, A.get t = some v → VRel ρ v (a.tmps.getD t undef)
theorem ARel.mono {n : Nat} {ρ ρ' : Ren} {A : Tm} {a : Act} (h : ARel P n ρ A a) (hr : ρ.le ρ') : ARel P n ρ' A a := ⟨h.size, h.defers, fun t v e => (h.tmp t v e).mono hr⟩
theorem ARel.ev {n : Nat} {A : Tm} {a : Act} {h : T AObj} (hA : ARel P n ρ A a) (r : Rel N0 b0 w0 ρ h w) (l : List Operand) : ERel ρ (ev N0 A) a.eval l := by
  intro x _ v e
  cases x with
  | tmp t => exact hA.tmp t v e
  | const c =>
    simp only [Rx.ev] at e
    split at e
    · cases e; exact VRel.ofCells ‹_›
    · cases e
  | global g =>
    simp only [Rx.ev] at e
    split at e
    · cases e
      obtain ⟨L, h1, h2, h3⟩ := r.glob g (blt_iff ‹_›)
      have := VRel.ptr (ρ := ρ) 0 h1
      rw [h2, h3] at this
      exact this
    · cases e
  | func f => cases e; exact .func _ .nil .nil

def doPut (n : Nat) (A : Tm) (d : Option Tmp) (v : Value) : Option Tm := match d with
  | none => some A
  | some d => match Nat.blt d n with
    | true => T.setK A d v some
    | false => none
theorem ARel.put {n : Nat} {A A' : Tm} {a : Act} {d : Option Tmp} {v v' : Value} (h : ARel P n ρ A a) (hv : VRel ρ v v') (e : doPut n A d v = some A') : ARel P n ρ A' (a.put d v') := by
  unfold doPut at e
  split at e
  · cases e; exact h
  · rename_i d
    split at e
    · rename_i hlt
      rw [T.setK_eq] at e
      cases e
      have hd : d < a.tmps.size := Nat.lt_of_lt_of_le (blt_iff hlt) h.size
      refine ⟨by simpa [Act.put] using h.size, h.defers, fun t u hu => ?_⟩
      rw [T.get_set] at hu
      simp only [Act.put]
      split at hu
      · rename_i hdt
        subst hdt
        cases hu
        simpa [hd] using hv
      · rename_i hdt
        have := h.tmp t u hu
        simpa [Array.getElem?_setIfInBounds_ne hdt] using this
    · cases e
theorem doPut_get {n : Nat} {A A' : Tm} {d : Option Tmp} {v : Value} (e : doPut n A d v = some A') (t : Nat) : A'.get t = if d = some t then some v else A.get t := by
  unfold doPut at e
  split at e
  · cases e; simp
  · rename_i d
    split at e
    · rw [T.setK_eq] at e
      cases e
      rw [T.get_set]
      simp
    · cases e

structure CallX where
  run : FuncId → List Value → X Value
  /-- functions that do nothing when they are called, deferred, at a return: of how many pointers -/
  idle : FuncId → Option Nat
def CallGood (P : Program) (N0 b0 : Nat) (w0 : World) (ρ : Ren) (s' : St) (v : Value) (f : FuncId) (args' : List Value) (w : World) : Prop :=
  (∃ ρ' w' v', (callFunc f ⟨args'⟩).run P w = .ok (.value v') w' ∧ ρ.le ρ' ∧ Rel N0 b0 w0 ρ' s'.h w' ∧ VRel ρ' v v') ∨
  ((callFunc f ⟨args'⟩).run P w = .ok (.enter f ⟨args'⟩) w ∧ Calls P f ⟨args'⟩ w fun e w' => ∃ ρ' v', e = .returned v' ∧ ρ.le ρ' ∧ Rel N0 b0 w0 ρ' s'.h w' ∧ VRel ρ' v v')
def IdleOk (P : Program) (idle : FuncId → Option Nat) : Prop := ∀ g m, idle g = some m → ∀ args : List Value, args.length = m → (∀ x ∈ args, ∃ a, x = .pointer (some a)) →
  ∀ w : World, (callFunc g ⟨args⟩).run P w = .ok (.enter g ⟨args⟩) w ∧ CallsD P g ⟨args⟩ .returning w fun e u' w' => (∃ v, e = .returned v) ∧ u' = .returning ∧ w' = w
def RunOk (P : Program) (N0 b0 : Nat) (w0 : World) (run : FuncId → List Value → X Value) : Prop := ∀ (f : FuncId) (args args' : List Value) (s s' : St) (v : Value) (ρ : Ren) (w : World),
  Rel N0 b0 w0 ρ s.h w → VRels ρ args args' → (run f args).run s = some (v, s') → CallGood P N0 b0 w0 ρ s' v f args' w
def CallOk (P : Program) (N0 b0 : Nat) (w0 : World) (call : CallX) : Prop := RunOk P N0 b0 w0 call.run ∧ IdleOk P call.idle

/-- Whether an operation is to be done: its guard. -/
def wantX (ops : List Oper) (A : Tm) (o : Oper) : Option Bool := match o.guard with
  | none => some true
  | some (j, b) => match ops[j]? with
    | some oj => match oj.dst with
      | some t => match A.get t with
        | some (.bool true) => some b
        | some (.bool false) => some (!b)
        | some (.tuple _) => some false
        | _ => none
      | none => none
    | none => none
theorem wantX_ok {n : Nat} {ops : Array Oper} {A : Tm} {a : Act} {o : Oper} {b : Bool} (hA : ARel P n ρ A a) (h : wantX ops.toList A o = some b) : Region.wanted o (yielded ops a.tmps) = b := by
  unfold wantX at h
  unfold Region.wanted
  split at h
  · rename_i hg
    cases h
    simp [hg]
  · rename_i j c hg
    simp only [hg]
    split at h
    case h_2 => cases h
    case h_1 oj hj =>
      split at h
      case h_2 => cases h
      case h_1 t ht =>
        have hj' : ops[j]? = some oj := by simpa using hj
        have hB : ∀ b, a.tmps.getD t undef = .bool b → yielded ops a.tmps j = some b := fun b e => by
          unfold yielded
          simp only [hj', Option.bind_some, ht]
          by_cases hlt : t < a.tmps.size
          · have : a.tmps[t]? = some (.bool b) := by rw [← e]; simp [hlt]
            rw [this]
          · rw [Array.getD_eq_getD_getElem?, Array.getElem?_eq_none (Nat.le_of_not_lt hlt)] at e
            cases e
        have hT : ∀ x, a.tmps.getD t undef = .tuple x → yielded ops a.tmps j = none := fun x e => by
          unfold yielded
          simp only [hj', Option.bind_some, ht]
          by_cases hlt : t < a.tmps.size
          · have : a.tmps[t]? = some (.tuple x) := by rw [← e]; simp [hlt]
            rw [this]
          · have : a.tmps[t]? = none := Array.getElem?_eq_none (Nat.le_of_not_lt hlt)
            rw [this]
        split at h
        · rename_i ha
          cases h
          have hv := hA.tmp t _ ha
          generalize hq : a.tmps.getD t undef = q at hv
          cases hv
          rw [hB _ hq]
          cases b <;> rfl
        · rename_i ha
          cases h
          have hv := hA.tmp t _ ha
          generalize hq : a.tmps.getD t undef = q at hv
          cases hv
          rw [hB _ hq]
          cases c <;> rfl
        · rename_i ha
          cases h
          have hv := hA.tmp t _ ha
          generalize hq : a.tmps.getD t undef = q at hv
          cases hv
          rw [hT _ hq]
          cases c <;> rfl
        · cases h

def allPtr : List Value → Bool
  | [] => true
  | .pointer (some _) :: l => allPtr l
  | _ => false
theorem allPtr_ok {l l' : List Value} (h : VRels ρ l l') (hp : allPtr l = true) : ∀ x ∈ l', ∃ a, x = .pointer (some a) := by
  induction l generalizing l' with
  | nil => cases h; simp
  | cons v l ih =>
    cases h with
    | cons h1 h2 =>
      have : ∃ a, v = .pointer (some a) ∧ allPtr l = true := by
        unfold allPtr at hp
        split at hp <;> first | cases hp | skip
        · rename_i heq; cases heq
        · rename_i a _ heq; cases heq; exact ⟨a, rfl, hp⟩
      obtain ⟨a, rfl, hp'⟩ := this
      intro x hx
      rcases List.mem_cons.1 hx with rfl | hx
      · cases h1; exact ⟨_, rfl⟩
      · exact ih h2 hp' x hx
/-- What an operation yields. -/
def valX (P : Program) (N0 : Nat) (call : CallX) (ops : List Oper) (A : Tm) (o : Oper) : X Value := match wantX ops A o with
  | some true => match o.op with
    | .call ⟨.value f, args, _⟩ => match ev N0 A f, evs (ev N0 A) args.toList with
      | some (.func (.func g) a b), some l => fL (a.toList ++ (l ++ b.toList)) fun l => call.run g l
      | _, _ => X.fail
    | .call ⟨.invoke f name, args, _⟩ => match ev N0 A f, evs (ev N0 A) args.toList with
      | some (.iface t v), some l => match xmeth P t name with
        | some g => fL (v :: l) fun l => call.run g l
        | none => X.fail
      | _, _ => X.fail
    | .defer ⟨.value f, ⟨[]⟩, _⟩ => match ev N0 A f with
      | some (.func (.func g) ⟨[]⟩ b) => match call.idle g with
        | some m => match Nat.beq b.toList.length m && allPtr b.toList with
          | true => X.pure undef
          | false => X.fail
        | none => X.fail
      | _ => X.fail
    | _ => xop P N0 (ev N0 A) o
  | some false => X.pure undef
  | none => X.fail

theorem valX_ok {n : Nat} {call : CallX} (hc : CallOk P N0 b0 w0 call) {ops : Array Oper} {A A' : Tm} {a : Act} {i : Nat} {o : Oper} {v : Value} {s s' : St} {K : Act → World → Prop} {Q : Exit → Act → World → Prop}
    (r : Rel N0 b0 w0 ρ s.h w) (hA : ARel P n ρ A a) (ho : ops[i]? = some o) (h : (valX P N0 call ops.toList A o).run s = some (v, s')) (hp : doPut n A o.dst v = some A')
    (hK : ∀ ρ' w' a', ρ.le ρ' → Rel N0 b0 w0 ρ' s'.h w' → ARel P n ρ' A' a' → K a' w') : wpOp P ops Q i K a w := by
  unfold wpOp
  simp only [ho]
  have un : ∀ ρ' w', ρ.le ρ' → Rel N0 b0 w0 ρ' s'.h w' → v = undef → K (a.put o.dst undef) w' := fun ρ' w' hle hr hv =>
    hK ρ' w' _ hle hr ((hA.mono hle).put (by rw [hv]; exact VRel.tuple (ρ := ρ') .nil) hp)
  unfold valX at h
  split at h
  · rename_i hw
    rw [wantX_ok hA hw, if_pos rfl]
    left
    unfold Oper.wp
    split at h
    · rename_i f args ts hop
      split at h
      case h_2 => cases h
      case h_1 g fa fb l hf hl =>
        rw [fL_eq] at h
        have rf := (hA.ev r [f]) f (by simp) _ hf
        have rl := evs_rel (hA.ev r args.toList) hl
        obtain ⟨dst, op, ty, pos, after, guard⟩ := o
        simp only at hop
        subst hop
        generalize hq : a.eval f = q at rf
        cases rf with
        | func _ ra rb =>
          rename_i fa' fb'
          have hrun : (execOp a.eval { dst := dst, op := .call ⟨.value f, args, ts⟩, type := ty, pos := pos, after := after, guard := guard }).run P w =
              (callFunc g ⟨fa'.toList ++ (args.toList.map a.eval ++ fb'.toList)⟩).run P w := by
            have e1 : (⟨fa'.toList ++ (args.toList.map a.eval ++ fb'.toList)⟩ : Array Value) = fa' ++ args.map a.eval ++ fb' := by
              apply Array.ext'
              simp
            simp only [execOp, resolve, hq, Deferred.ofValue, Sem.run_bind, Sem.run_pure, Result.andThen_ok, invoke, e1]
          rw [hrun]
          rcases hc.1 g _ _ s s' v ρ w r (ra.append (rl.append rb)) h with ⟨ρ', w', v', e1, hle, hr, hv⟩ | ⟨e1, hcl⟩
          · rw [e1, Oper.upon_value]
            exact hK ρ' w' _ hle hr ((hA.mono hle).put hv hp)
          · rw [e1, Oper.upon_enter]
            refine hcl.mono ?_
            rintro e w' ⟨ρ', v', rfl, hle, hr, hv⟩
            exact hK ρ' w' _ hle hr ((hA.mono hle).put hv hp)
    · rename_i f name args ts hop
      split at h
      case h_2 => cases h
      case h_1 t u l hf hl =>
        split at h
        case h_2 => cases h
        case h_1 g hg =>
          rw [fL_eq] at h
          have rf := (hA.ev r [f]) f (by simp) _ hf
          have rl := evs_rel (hA.ev r args.toList) hl
          obtain ⟨dst, op, ty, pos, after, guard⟩ := o
          simp only at hop
          subst hop
          generalize hq : a.eval f = q at rf
          cases rf with
          | iface _ ru =>
            rename_i u'
            have hrun : (execOp a.eval { dst := dst, op := .call ⟨.invoke f name, args, ts⟩, type := ty, pos := pos, after := after, guard := guard }).run P w =
                (callFunc g ⟨u' :: args.toList.map a.eval⟩).run P w := by
              have e1 : (⟨u' :: args.toList.map a.eval⟩ : Array Value) = #[u'] ++ args.map a.eval := by
                apply Array.ext'
                simp
              have e2 : (#[Value.iface t u'] ++ args.map a.eval).extract 1 (#[Value.iface t u'] ++ args.map a.eval).size = args.map a.eval := by
                apply Array.ext'
                rw [Array.toList_extract]
                simp only [List.extract, Array.toList_append, Array.size_append, Array.size_map, Array.toList_map]
                exact List.take_of_length_le (by simp)
              have e3 : (#[Value.iface t u'] ++ args.map a.eval)[0]? = some (.iface t u') := by rw [Array.getElem?_append]; rfl
              rw [e1, ← xmeth_ok hg]
              simp only [execOp, resolve, hq, Sem.run_bind, Sem.run_pure, Result.andThen_ok, invoke]
              rw [e3]
              dsimp only
              rw [e2]
            rw [hrun]
            rcases hc.1 g _ _ s s' v ρ w r (.cons ru rl) h with ⟨ρ', w', v', e1, hle, hr, hv⟩ | ⟨e1, hcl⟩
            · rw [e1, Oper.upon_value]
              exact hK ρ' w' _ hle hr ((hA.mono hle).put hv hp)
            · rw [e1, Oper.upon_enter]
              refine hcl.mono ?_
              rintro e w' ⟨ρ', v', rfl, hle, hr, hv⟩
              exact hK ρ' w' _ hle hr ((hA.mono hle).put hv hp)
    · rename_i f ts hop
      split at h
      case h_2 => cases h
      case h_1 g fb hf =>
        split at h
        case h_2 => cases h
        case h_1 m hm =>
          split at h
          case h_2 => cases h
          case h_1 hb =>
            obtain ⟨hv, rfl⟩ := X.pure_some h
            simp only [Bool.and_eq_true] at hb
            have rf := (hA.ev r [f]) f (by simp) _ hf
            obtain ⟨dst, op, ty, pos, after, guard⟩ := o
            simp only at hop
            subst hop
            generalize hq : a.eval f = q at rf
            cases rf with
            | func _ ra rb =>
              rename_i fa' fb'
              have hfa : fa' = #[] := by
                obtain ⟨l⟩ := fa'
                cases ra
                rfl
              subst hfa
              have hrun : (execOp a.eval { dst := dst, op := .defer ⟨.value f, ⟨[]⟩, ts⟩, type := ty, pos := pos, after := after, guard := guard }).run P w = .ok (.defer { target := .fn (.func g) fb', args := #[] }) w := by
                simp [execOp, resolve, hq, Deferred.ofValue]
              rw [hrun, Oper.upon_defer]
              have hid : IdleD P { target := .fn (.func g) fb', args := #[] } := ⟨.func g, fb', g, ⟨fb'.toList⟩, rfl, fun w2 => by
                obtain ⟨h1, h2⟩ := hc.2 g m hm fb'.toList (by rw [rb.length]; exact Nat.eq_of_beq_eq_true hb.1) (allPtr_ok rb hb.2) w2
                have e : (#[] ++ fb' : Array Value) = ⟨fb'.toList⟩ := by simp
                exact ⟨by simpa only [invoke, e] using h1, h2⟩⟩
              have hA2 : ARel P n ρ A { tmps := a.tmps, defers := { target := .fn (.func g) fb', args := #[] } :: a.defers } := ⟨hA.size, fun d hd => by
                rcases List.mem_cons.1 hd with rfl | hd
                · exact hid
                · exact hA.defers d hd, hA.tmp⟩
              exact hK ρ w _ (Ren.le_refl _) r (hA2.put (by rw [hv]; exact VRel.tuple (ρ := ρ) .nil) hp)
    · obtain ⟨ρ', w', nx, e1, hle, hr, hn⟩ := xop_ok r (hA.ev r _) h
      rw [e1]
      rcases hn with ⟨v', rfl, hv⟩ | ⟨rfl, hv⟩
      · rw [Oper.upon_value]
        exact hK ρ' w' _ hle hr ((hA.mono hle).put hv hp)
      · rw [Oper.upon_skip]
        exact un ρ' w' hle hr hv
  · rename_i hw
    obtain ⟨hv, rfl⟩ := X.pure_some h
    rw [wantX_ok hA hw]
    simp only [Bool.false_eq_true, if_false]
    exact un ρ w (Ren.le_refl _) r hv
  · cases h

def opsX (P : Program) (N0 : Nat) (call : CallX) (n : Nat) (ops : List Oper) : List Oper → Tm → X Tm
  | [], A => X.pure A
  | o :: l, A => (valX P N0 call ops A o).bind fun v => match doPut n A o.dst v with
    | some A => opsX P N0 call n ops l A
    | none => X.fail
theorem opsX_ok {n : Nat} {call : CallX} (hc : CallOk P N0 b0 w0 call) {ops : Array Oper} {Q : Exit → Act → World → Prop} : ∀ (l : List Oper) (i : Nat) (A A' : Tm) (a : Act) (s s' : St) (ρ : Ren) (w : World),
    ops.toList.drop i = l → Rel N0 b0 w0 ρ s.h w → ARel P n ρ A a → (opsX P N0 call n ops.toList l A).run s = some (A', s') →
    (∀ ρ' w' a', ρ.le ρ' → Rel N0 b0 w0 ρ' s'.h w' → ARel P n ρ' A' a' → Q .normal a' w') → wpOps P ops Q (List.range' i l.length) a w := by
  intro l
  induction l with
  | nil =>
    intro i A A' a s s' ρ w _ r hA h hQ
    obtain ⟨rfl, rfl⟩ := X.pure_some h
    exact hQ ρ w a (Ren.le_refl _) r hA
  | cons o l ih =>
    intro i A A' a s s' ρ w hd r hA h hQ
    have ho : ops[i]? = some o := by
      have : ops.toList[i]? = some o := by
        have := congrArg (·[0]?) hd
        simpa using this
      simpa using this
    have hd' : ops.toList.drop (i + 1) = l := by
      rw [← List.drop_drop, hd]; rfl
    simp only [opsX] at h
    obtain ⟨v, s1, h1, h2⟩ := X.bind_some h
    split at h2
    case h_2 => cases h2
    case h_1 A1 hp =>
      rw [List.length_cons, List.range'_succ, wpOps_cons]
      refine valX_ok hc r hA ho h1 hp fun ρ' w' a' hle hr hA' => ?_
      exact ih (i + 1) A1 A' a' s1 s' ρ' w' hd' hr hA' h2 fun ρ2 w2 a2 hle2 => hQ ρ2 w2 a2 (Ren.le_trans hle hle2)
end
end Go.Rx

namespace Go.Rx
set_option linter.unusedVariables false
set_option linter.unusedSimpArgs false
noncomputable section

/-- A run that also tells what it read and wrote. -/
def X.told {α : Type} (m : X α) : X (α × Nat × Nat) := ⟨fun s => match s with
    | ⟨nx, h, r, w⟩ => match m.run ⟨nx, h, 0, 0⟩ with
      | some (a, ⟨nx, h, r', w'⟩) => fM (r ||| r') fun r2 => fM (w ||| w') fun w2 => some ((a, r', w'), ⟨nx, h, r2, w2⟩)
      | none => none, by
  rintro ⟨nx, h, r, w⟩ a s' e
  dsimp only at e
  split at e
  case h_2 => cases e
  case h_1 x n1 h1 r1 w1 he =>
    rw [fM_eq, fM_eq] at e
    cases e
    obtain ⟨dr, dw, e1, e2, F⟩ := m.fr _ _ _ he
    simp only [Nat.zero_or] at e1 e2
    rw [e1, e2]
    refine ⟨dr, dw, rfl, rfl, fun t ht ha => ?_⟩
    obtain ⟨nx', h', r', w'⟩ := t
    obtain ⟨⟨n2, h2, r2, w2⟩, f1, f2, f3, f4, f5⟩ := F ⟨nx', h', 0, 0⟩ ht ha
    simp only [Nat.zero_or] at f3 f4
    rw [f3, f4] at f1
    refine ⟨⟨n2, h2, r' ||| dr, w' ||| dw⟩, ?_, f2, rfl, rfl, f5⟩
    dsimp only
    rw [f1]
    dsimp only
    rw [fM_eq, fM_eq]⟩
theorem X.told_some {α : Type} {m : X α} {a : α} {r' w' : Nat} {s s' : St} (h : m.told.run s = some ((a, r', w'), s')) : ∃ h2 n2, m.run ⟨s.nx, s.h, 0, 0⟩ = some (a, ⟨n2, h2, r', w'⟩) ∧ s'.h = h2 ∧ s'.nx = n2 := by
  obtain ⟨nx, h0, r, w⟩ := s
  simp only [X.told] at h
  split at h
  case h_2 => cases h
  case h_1 he =>
    rw [fM_eq, fM_eq] at h
    cases h
    exact ⟨_, _, he, rfl, rfl⟩

def noc (p q : Nat × Nat) : Bool := Nat.beq (p.2 &&& (q.1 ||| q.2)) 0 && Nat.beq (q.2 &&& p.1) 0
theorem noc_bits {p q : Nat × Nat} (h : noc p q = true) (i : Nat) : ¬ (p.2.testBit i = true ∧ (q.1 ||| q.2).testBit i = true) ∧ ¬ (q.2.testBit i = true ∧ (p.1 ||| p.2).testBit i = true) := by
  simp only [noc, Bool.and_eq_true] at h
  have h1 := Nat.eq_of_beq_eq_true h.1
  have h2 := Nat.eq_of_beq_eq_true h.2
  have b1 := congrArg (·.testBit i) h1
  have b2 := congrArg (·.testBit i) h2
  simp only [Nat.testBit_and, Nat.testBit_or, Nat.zero_testBit, Bool.and_eq_false_iff, Bool.or_eq_false_iff] at b1 b2 ⊢
  simp only [Bool.or_eq_true]
  constructor
  · rintro ⟨x, y⟩
    rcases b1 with b | ⟨b, c⟩
    · rw [x] at b; cases b
    · rcases y with y | y
      · rw [y] at b; cases b
      · rw [y] at c; cases c
  · rintro ⟨x, y⟩
    rcases y with y | y
    · rcases b2 with b | b
      · rw [x] at b; cases b
      · rw [y] at b; cases b
    · rcases b1 with b | ⟨b, c⟩
      · rw [y] at b; cases b
      · rw [x] at c; cases c

/-- All that stands ahead of an operation, as bits. -/
def aheadOf (acc : List Nat) : List Edge → Nat
  | [] => 0
  | e :: l => match Region.binds .any e with
    | true => 2 ^ e.on ||| acc.getD e.on 0 ||| aheadOf acc l
    | false => aheadOf acc l
def befs : List Oper → List Nat → List Nat
  | [], acc => acc
  | o :: l, acc => fN (aheadOf acc o.after.toList) fun b => befs l (acc ++ [b])
def edgesOk : List Oper → Nat → Bool
  | [], _ => true
  | o :: l, i => o.after.toList.all (fun e => !Region.binds .any e || Nat.blt e.on i) && edgesOk l (i + 1)
/-- Row by row: what is said of all pairs i < j that may change places. -/
def rowOk {α : Type} (p : α → α → Bool) (b : Nat) (y : α) : List α → Nat → Bool
  | [], _ => true
  | x :: l, i => (b.testBit i || p x y) && rowOk p b y l (i + 1)
def allOk {α : Type} (p : α → α → Bool) : List α → List (Nat × α) → Bool
  | _, [] => true
  | prev, (b, y) :: l => rowOk p b y prev 0 && allOk p (prev ++ [y]) l
def statOk (ops : Array Oper) : Bool := edgesOk ops.toList 0 && Region.noSelect ops && allOk (Oper.apart ops) [] ((befs ops.toList []).zip ops.toList)

theorem befs_acc : ∀ (l : List Oper) (acc : List Nat), (befs l acc).length = acc.length + l.length ∧ (befs l acc).take acc.length = acc := by
  intro l
  induction l with
  | nil => intro acc; simp [befs]
  | cons o l ih =>
    intro acc
    simp only [befs, fN_eq]
    obtain ⟨h1, h2⟩ := ih (acc ++ [aheadOf acc o.after.toList])
    refine ⟨by rw [h1]; simp; omega, ?_⟩
    have := congrArg (List.take acc.length) h2
    rw [List.take_take] at this
    simp at this
    exact this
theorem befs_get : ∀ (l : List Oper) (acc : List Nat) (j : Nat) (o : Oper), l[j]? = some o → (befs l acc)[acc.length + j]? = some (aheadOf ((befs l acc).take (acc.length + j)) o.after.toList) := by
  intro l
  induction l with
  | nil => intro acc j o h; cases h
  | cons p l ih =>
    intro acc j o h
    simp only [befs, fN_eq]
    cases j with
    | zero =>
      cases h
      have h2 := (befs_acc l (acc ++ [aheadOf acc p.after.toList])).2
      have h3 : (befs l (acc ++ [aheadOf acc p.after.toList]))[acc.length]? = some (aheadOf acc p.after.toList) := by
        have := congrArg (·[acc.length]?) h2
        simpa using this
      have h4 : (befs l (acc ++ [aheadOf acc p.after.toList])).take acc.length = acc := by
        have := congrArg (List.take acc.length) h2
        rw [List.take_take] at this
        simpa using this
      simp only [Nat.add_zero, h3, h4]
    | succ j =>
      have := ih (acc ++ [aheadOf acc p.after.toList]) j o h
      simpa [Nat.add_assoc, Nat.add_comm 1 j] using this
theorem aheadOf_bit {acc : List Nat} {i : Nat} : ∀ {l : List Edge}, (aheadOf acc l).testBit i = true → ∃ e ∈ l, Region.binds .any e = true ∧ (e.on = i ∨ (acc.getD e.on 0).testBit i = true) := by
  intro l
  induction l with
  | nil => intro h; simp [aheadOf] at h
  | cons e l ih =>
    intro h
    unfold aheadOf at h
    split at h
    · rename_i hb
      simp only [Nat.testBit_or, Bool.or_eq_true, Nat.testBit_two_pow, decide_eq_true_eq] at h
      rcases h with (h | h) | h
      · exact ⟨e, by simp, hb, .inl h⟩
      · exact ⟨e, by simp, hb, .inr h⟩
      · obtain ⟨x, hx, y⟩ := ih h; exact ⟨x, by simp [hx], y⟩
    · obtain ⟨x, hx, y⟩ := ih h; exact ⟨x, by simp [hx], y⟩
theorem edgesOk_get : ∀ {l : List Oper} {k j : Nat} {o : Oper}, edgesOk l k = true → l[j]? = some o → ∀ e ∈ o.after, Region.binds .any e = true → e.on < k + j := by
  intro l
  induction l with
  | nil => intro k j o _ h; cases h
  | cons p l ih =>
    intro k j o h hj e he hb
    simp only [edgesOk, Bool.and_eq_true] at h
    cases j with
    | zero =>
      cases hj
      have := (List.all_eq_true.1 h.1) e (by simpa using he)
      simp only [hb, Bool.not_true, Bool.false_or] at this
      exact blt_iff this
    | succ j =>
      have := ih h.2 hj e he hb
      omega
theorem rowOk_get {α : Type} {p : α → α → Bool} {b : Nat} {y : α} : ∀ {l : List α} {k i : Nat} {x : α}, rowOk p b y l k = true → l[i]? = some x → b.testBit (k + i) = true ∨ p x y = true := by
  intro l
  induction l with
  | nil => intro k i x _ h; cases h
  | cons z l ih =>
    intro k i x h hi
    simp only [rowOk, Bool.and_eq_true, Bool.or_eq_true] at h
    cases i with
    | zero => cases hi; exact h.1
    | succ i =>
      have := ih h.2 hi
      rwa [show k + (i + 1) = k + 1 + i from by omega]
theorem allOk_get {α : Type} {p : α → α → Bool} : ∀ {l : List (Nat × α)} {prev : List α} {i j b : Nat} {x y : α}, allOk p prev l = true → l[j]? = some (b, y) → (prev ++ l.map (·.2))[i]? = some x → i < prev.length + j → b.testBit i = true ∨ p x y = true := by
  intro l
  induction l with
  | nil => intro prev i j b x y _ h; cases h
  | cons q l ih =>
    intro prev i j b x y h hj hi hlt
    obtain ⟨c, z⟩ := q
    simp only [allOk, Bool.and_eq_true] at h
    cases j with
    | zero =>
      cases hj
      have hx : prev[i]? = some x := by
        rw [List.getElem?_append_left (by omega)] at hi
        exact hi
      have := rowOk_get h.1 hx
      simpa using this
    | succ j => exact ih (prev := prev ++ [z]) h.2 hj (by simpa using hi) (by simp; omega)

/-- Step j's content where step j is done and touches the place, else what was. -/
def mix {β : Type} (V : Nat → β) (t L : Nat → Bool) : Nat → β
  | 0 => V 0
  | j + 1 => if L j && t j then V (j + 1) else mix V t L j
theorem mix_low {β : Type} {V : Nat → β} {t L : Nat → Bool} : ∀ {m : Nat}, (∀ j, j < m → t j = false → V (j + 1) = V j) → (∀ j, j < m → t j = true → L j = true) → mix V t L m = V m
  | 0, _, _ => rfl
  | m + 1, hk, h => by
    simp only [mix]
    rw [mix_low (fun j hj => hk j (by omega)) (fun j hj => h j (by omega))]
    cases ht : t m
    · simp [hk m (by omega) ht]
    · simp [h m (by omega) ht]
theorem mix_high {β : Type} {V : Nat → β} {t L : Nat → Bool} {m : Nat} : ∀ {k : Nat}, m ≤ k → (∀ j, m ≤ j → j < k → L j = true → t j = false) → mix V t L k = mix V t L m
  | 0, h, _ => by rw [Nat.le_zero.1 h]
  | k + 1, hm, h => by
    rcases Nat.lt_or_ge k m with hk | hk
    · rw [show m = k + 1 from by omega]
    · simp only [mix]
      rw [mix_high hk fun j h1 h2 => h j h1 (by omega)]
      cases hL : L k
      · simp
      · simp [h k hk (by omega) hL]
theorem mix_alike {β : Type} {V : Nat → β} {t L L' : Nat → Bool} : ∀ {k : Nat}, (∀ j, j < k → (L j && t j) = (L' j && t j)) → mix V t L k = mix V t L' k
  | 0, _ => rfl
  | k + 1, h => by
    simp only [mix]
    rw [h k (by omega), mix_alike fun j hj => h j (by omega)]
theorem mix_step {β : Type} {V : Nat → β} {t L L' : Nat → Bool} {i k : Nat} (hi : i < k) (h1 : L i = false) (h2 : L' i = true) (h3 : ∀ j, j ≠ i → L' j = L j) (h4 : t i = true → ∀ j, i < j → j < k → L j = true → t j = false) :
    mix V t L' k = if t i then V (i + 1) else mix V t L k := by
  cases ht : t i
  · simp only [Bool.false_eq_true, if_false]
    refine mix_alike fun j hj => ?_
    by_cases hji : j = i
    · subst hji; simp [ht]
    · rw [h3 j hji]
  · simp only [if_true]
    rw [mix_high (m := i + 1) hi fun j a b c => h4 ht j (by omega) b (by rw [← h3 j (by omega)]; exact c)]
    simp [mix, h2, ht]

def opsM (P : Program) (N0 : Nat) (call : CallX) (n : Nat) (ops : List Oper) : List Oper → Tm → X (Tm × List (Nat × Nat))
  | [], A => X.pure (A, [])
  | o :: l, A => (valX P N0 call ops A o).told.bind fun p => match doPut n A o.dst p.1 with
    | some A => (opsM P N0 call n ops l A).bind fun q => X.pure (q.1, p.2 :: q.2)
    | none => X.fail
theorem opsM_steps {P : Program} {N0 : Nat} {call : CallX} {n : Nat} {ops : List Oper} : ∀ {l : List Oper} {A A' : Tm} {ms : List (Nat × Nat)} {s s' : St}, (opsM P N0 call n ops l A).run s = some ((A', ms), s') →
    ∃ (S : Nat → St) (AA : Nat → Tm), S 0 = s ∧ AA 0 = A ∧ S l.length = s' ∧ AA l.length = A' ∧ ms.length = l.length ∧ ∀ j o, l[j]? = some o → ∃ v r w, ms[j]? = some (r, w) ∧
      (valX P N0 call ops (AA j) o).run ⟨(S j).nx, (S j).h, 0, 0⟩ = some (v, ⟨(S (j + 1)).nx, (S (j + 1)).h, r, w⟩) ∧ doPut n (AA j) o.dst v = some (AA (j + 1)) := by
  intro l
  induction l with
  | nil =>
    intro A A' ms s s' h
    obtain ⟨e, rfl⟩ := X.pure_some h
    cases e
    exact ⟨fun _ => s', fun _ => A, rfl, rfl, rfl, rfl, rfl, fun j o h => by cases h⟩
  | cons o l ih =>
    intro A A' ms s s' h
    obtain ⟨⟨v, r, w⟩, s1, h1, h2⟩ := X.bind_some h
    obtain ⟨hh, nn, h3, h4, h5⟩ := X.told_some h1
    dsimp only at h2
    split at h2
    case h_2 => cases h2
    case h_1 A1 hp =>
      obtain ⟨⟨A2, ms2⟩, s2, k1, k2⟩ := X.bind_some h2
      obtain ⟨e, rfl⟩ := X.pure_some k2
      cases e
      obtain ⟨S, AA, a1, a2, a3, a4, a5, a6⟩ := ih k1
      refine ⟨fun j => match j with | 0 => s | j + 1 => S j, fun j => match j with | 0 => A | j + 1 => AA j, rfl, rfl, a3, a4, by simp [a5], fun j p hj => ?_⟩
      cases j with
      | zero =>
        cases hj
        refine ⟨v, r, w, rfl, ?_, ?_⟩
        · show _ = some (v, (⟨(S 0).nx, (S 0).h, r, w⟩ : St))
          rw [a1, h4, h5]
          exact h3
        · show _ = some (AA 0)
          rw [a2]
          exact hp
      | succ j => exact a6 j p hj

theorem evs_congr {e e' : Env} : ∀ {l : List Operand}, (∀ x ∈ l, e x = e' x) → evs e l = evs e' l
  | [], _ => rfl
  | x :: l, h => by simp only [evs, h x (by simp), evs_congr (l := l) fun y hy => h y (by simp [hy])]
theorem evp_congr {e e' : Env} : ∀ {l : List (Nat × Operand)}, (∀ x ∈ l.map (·.2), e x = e' x) → evp e l = evp e' l
  | [], _ => rfl
  | (i, x) :: l, h => by simp only [evp, h x (by simp), evp_congr (l := l) fun y hy => h y (by simp at hy ⊢; exact .inr hy)]
theorem evo_congr {e e' : Env} {x : Option Operand} (h : ∀ y ∈ x.toList, e y = e' y) : evo e x = evo e' x := by
  cases x with
  | none => rfl
  | some x => simp only [evo, h x (by simp)]
set_option maxHeartbeats 1000000 in
theorem xop_congr {P : Program} {N0 : Nat} {e e' : Env} (o : Oper) (h : ∀ x ∈ o.op.operands.toList, e x = e' x) : xop P N0 e o = xop P N0 e' o := by
  obtain ⟨dst, op, ty, pos, after, guard⟩ := o
  dsimp only at h
  unfold xop
  dsimp only
  cases op
  case build t ps => simp only [evp_congr (e := e) (e' := e') (l := ps.toList) fun x hx => h x (by simpa [Op.operands] using hx)]
  case buildSlice t n ps => simp only [evp_congr (e := e) (e' := e') (l := ps.toList) fun x hx => h x (by simpa [Op.operands] using hx)]
  case makeFunc fn fs cs =>
    simp only [evs_congr (e := e) (e' := e') (l := fs.toList) fun x hx => h x (by simp [Op.operands]; exact .inl (by simpa using hx)),
      evs_congr (e := e) (e' := e') (l := cs.toList) fun x hx => h x (by simp [Op.operands]; exact .inr (by simpa using hx))]
  case slice t x lo hi mx =>
    simp only [h x (by simp [Op.operands]), evo_congr (e := e) (e' := e') (x := lo) fun y hy => h y (by simp only [Option.mem_toList] at hy; simp [Op.operands, hy]),
      evo_congr (e := e) (e' := e') (x := hi) fun y hy => h y (by simp only [Option.mem_toList] at hy; simp [Op.operands, hy]),
      evo_congr (e := e) (e' := e') (x := mx) fun y hy => h y (by simp only [Option.mem_toList] at hy; simp [Op.operands, hy])]
  case call c =>
    obtain ⟨callee, args, ts⟩ := c
    cases callee
    case builtin b => simp only [evs_congr (e := e) (e' := e') (l := args.toList) fun x hx => h x (by simp [Op.operands, Call.operands]; simpa using hx)]
    all_goals rfl
  case makeMap t r => cases r <;> rfl
  all_goals first
    | rfl
    | (rename_i x; simp only [h x (by simp [Op.operands])]; done)
    | (rename_i x y; simp only [h x (by simp [Op.operands]), h y (by simp [Op.operands])]; done)
    | (rename_i x y; simp only [h x (by simp [Op.operands])]; done)
    | (rename_i x y z; simp only [h x (by simp [Op.operands]), h y (by simp [Op.operands]), h z (by simp [Op.operands])]; done)
    | (rename_i x y z; simp only [h x (by simp [Op.operands]), h y (by simp [Op.operands])]; done)
    | (rename_i a x y z; simp only [h x (by simp [Op.operands]), h y (by simp [Op.operands])]; done)
end
end Go.Rx

namespace Go.Rx
set_option linter.unusedVariables false
set_option linter.unusedSimpArgs false
noncomputable section
variable {P : Program} {N0 b0 : Nat} {w0 : World} {ρ : Ren} {w : World}

theorem valX_congr {call : CallX} {ops : Array Oper} {A B : Tm} {o : Oper} (h : ∀ t ∈ o.looksAt ops, A.get t = B.get t) : valX P N0 call ops.toList A o = valX P N0 call ops.toList B o := by
  have hop : ∀ x ∈ o.op.operands.toList, ev N0 A x = ev N0 B x := fun x hx => by
    cases x with
    | tmp t => exact h t (List.mem_append_left _ (List.mem_filterMap.2 ⟨.tmp t, hx, rfl⟩))
    | _ => rfl
  have hw : wantX ops.toList A o = wantX ops.toList B o := by
    unfold wantX
    cases hg : o.guard with
    | none => rfl
    | some g =>
      obtain ⟨j, b⟩ := g
      dsimp only
      cases hj : ops.toList[j]? with
      | none => rfl
      | some oj =>
        dsimp only
        cases ht : oj.dst with
        | none => rfl
        | some t =>
          have hj' : ops[j]? = some oj := by simpa using hj
          dsimp only
          rw [h t (List.mem_append_right _ (by rw [hg]; simp [hj', ht]))]
  unfold valX
  rw [hw]
  split
  · split
    · rename_i f args ts hop'
      rw [hop f (by rw [hop']; simp [Op.operands, Call.operands]), evs_congr (l := args.toList) fun x hx => hop x (by rw [hop']; simp [Op.operands, Call.operands]; exact .inr (by simpa using hx))]
    · rename_i f name args ts hop'
      rw [hop f (by rw [hop']; simp [Op.operands, Call.operands]), evs_congr (l := args.toList) fun x hx => hop x (by rw [hop']; simp [Op.operands, Call.operands]; exact .inr (by simpa using hx))]
    · rename_i f ts hop'
      rw [hop f (by rw [hop']; simp [Op.operands, Call.operands])]
    · exact xop_congr o hop
  · rfl
  · rfl

def drawX (P : Program) (N0 : Nat) (call : CallX) (n : Nat) (ops : Array Oper) (A : Tm) : X Tm := match statOk ops with
  | true => (opsM P N0 call n ops.toList ops.toList A).bind fun p => match allOk noc [] ((befs ops.toList []).zip p.2) with
    | true => X.pure p.1
    | false => X.fail
  | false => X.fail

theorem doPut_ok {n : Nat} {A A' B : Tm} {d : Option Tmp} {v : Value} (h : doPut n A d v = some A') : ∃ B', doPut n B d v = some B' := by
  unfold doPut at h ⊢
  split at h
  · exact ⟨B, rfl⟩
  · rename_i d
    split at h
    · exact ⟨T.set B d v, by rw [T.setK_eq]⟩
    · cases h

theorem count_set {l : List Bool} {i : Nat} (h : l[i]? = some false) : (l.set i true).count false + 1 = l.count false := by
  induction l generalizing i with
  | nil => cases h
  | cons b l ih =>
    cases i with
    | zero => cases h; simp
    | succ i =>
      have := ih (i := i) h
      cases b <;> simp <;> omega

set_option maxHeartbeats 1000000 in
theorem drawX_ok {n : Nat} {call : CallX} (hc : CallOk P N0 b0 w0 call) (hm : P.follows .mixedOrders = true) {id : Nat} {ops : Array Oper} {A A' : Tm} {a : Act} {s s' : St} {Q : Exit → Act → World → Prop}
    (r : Rel N0 b0 w0 ρ s.h w) (hA : ARel P n ρ A a) (h : (drawX P N0 call n ops A).run s = some (A', s'))
    (hQ : ∀ ρ' w' a', ρ.le ρ' → Rel N0 b0 w0 ρ' s'.h w' → ARel P n ρ' A' a' → Q .normal a' w') : (Code.region id ops true).wp P Q a w := by
  unfold drawX at h
  split at h
  case h_2 => cases h
  case h_1 hst =>
    obtain ⟨⟨A2, ms⟩, s2, h1, h2⟩ := X.bind_some h
    dsimp only at h2
    split at h2
    case h_2 => cases h2
    case h_1 hall =>
      obtain ⟨rfl, rfl⟩ := X.pure_some h2
      obtain ⟨S, AA, a1, a2, a3, a4, a5, a6⟩ := opsM_steps h1
      simp only [statOk, Bool.and_eq_true] at hst
      obtain ⟨⟨hedge, hsel⟩, hap⟩ := hst
      have hk : ops.toList.length = ops.size := Array.length_toList
      have hlb : (befs ops.toList []).length = ops.size := by rw [(befs_acc _ _).1]; simp
      have oget : ∀ {j o}, ops[j]? = some o → ops.toList[j]? = some o := fun h => by rw [Array.getElem?_toList]; exact h
      have osome : ∀ j, j < ops.size → ∃ o, ops[j]? = some o := fun j hj => ⟨ops[j], by simp [hj]⟩
      have olt : ∀ {j o}, ops[j]? = some o → j < ops.size := fun h => (Array.getElem?_eq_some_iff.1 h).1
      have bget : ∀ j, j < ops.size → ∃ b, (befs ops.toList [])[j]? = some b := fun j hj => ⟨(befs ops.toList [])[j]'(by omega), List.getElem?_eq_getElem _⟩
      -- pairs
      have P1 : ∀ (i j : Nat) (oi oj : Oper) (b : Nat), ops[i]? = some oi → ops[j]? = some oj → i < j → (befs ops.toList [])[j]? = some b → b.testBit i = true ∨ oi.apart ops oj = true := fun i j oi oj b hi hj hlt hb => by
        refine allOk_get (prev := []) (i := i) (j := j) (b := b) hap ?_ ?_ (by simpa using hlt)
        · rw [List.getElem?_zip_eq_some]; exact ⟨hb, oget hj⟩
        · rw [List.nil_append, List.map_snd_zip (by omega)]; exact oget hi
      have P2 : ∀ (i j : Nat) (p q : Nat × Nat) (b : Nat), ms[i]? = some p → ms[j]? = some q → i < j → (befs ops.toList [])[j]? = some b → b.testBit i = true ∨ noc p q = true := fun i j p q b hi hj hlt hb => by
        refine allOk_get (prev := []) (i := i) (j := j) (b := b) hall ?_ ?_ (by simpa using hlt)
        · rw [List.getElem?_zip_eq_some]; exact ⟨hb, hj⟩
        · rw [List.nil_append, List.map_snd_zip (by omega)]; exact hi
      -- what is ahead has been done
      have reach : ∀ (L : Nat → Bool), (∀ (j : Nat) (o : Oper), ops[j]? = some o → L j = true → ∀ e ∈ o.after, Region.binds .any e = true → L e.on = true) →
          ∀ (j : Nat) (o : Oper) (b i : Nat), ops[j]? = some o → (befs ops.toList [])[j]? = some b → (∀ e ∈ o.after, Region.binds .any e = true → L e.on = true) → b.testBit i = true → L i = true := fun L hcl j => by
        induction j using Nat.strongRecOn with
        | _ j ih =>
          intro o b i ho hb hed hbit
          have := befs_get ops.toList [] j o (oget ho)
          rw [List.length_nil, Nat.zero_add, hb] at this
          cases this
          obtain ⟨e, he, hbd, hx⟩ := aheadOf_bit hbit
          have he : e ∈ o.after := by simpa using he
          have hlt : e.on < j := by have := edgesOk_get hedge (oget ho) e he hbd; omega
          have hLe := hed e he hbd
          rcases hx with rfl | hx
          · exact hLe
          · have hjs := olt ho
            obtain ⟨oe, hoe⟩ := osome e.on (by omega)
            obtain ⟨be, hbe⟩ := bget e.on (by omega)
            have : ((befs ops.toList []).take j).getD e.on 0 = be := by
              rw [List.getD_eq_getElem?_getD, List.getElem?_take_of_lt hlt, hbe]; rfl
            rw [this] at hx
            exact ih e.on hlt oe be i hoe hbe (hcl _ _ hoe hLe) hx
      -- the steps' content
      let HH : Lc → Nat → Ct := fun x j => (S j).h.look x
      let TT : Nat → Nat → Option Value := fun x j => (AA j).get x
      let wm : Nat → Nat := fun j => (ms.getD j (0, 0)).2
      let dd : Nat → Option Tmp := fun j => (ops[j]?).bind (·.dst)
      have mget : ∀ {j p}, ms[j]? = some p → wm j = p.2 := fun h => by simp [wm, h]
      have keepH : ∀ (x : Lc) j, j < ops.size → (wm j).testBit (bitOf x) = false → HH x (j + 1) = HH x j := fun x j hj hb => by
        obtain ⟨o, ho⟩ := osome j hj
        obtain ⟨v, rr, ww, e1, e2, e3⟩ := a6 j o (oget ho)
        obtain ⟨dr, dw, _, f2, f3⟩ := X.Framed.keeps (valX P N0 call ops.toList (AA j) o).fr e2
        simp only [Nat.zero_or] at f2
        rw [mget e1] at hb
        have f2 : ww = dw := f2
        exact f3 x (by rw [← f2]; exact hb)
      have keepT : ∀ x j, j < ops.size → (dd j == some x) = false → TT x (j + 1) = TT x j := fun x j hj hb => by
        obtain ⟨o, ho⟩ := osome j hj
        obtain ⟨v, rr, ww, e1, e2, e3⟩ := a6 j o (oget ho)
        have := doPut_get e3 x
        have hd : dd j = o.dst := by simp [dd, ho]
        rw [hd] at hb
        have hne : ¬ (o.dst = some x) := fun e => by rw [e] at hb; simp at hb
        rw [if_neg hne] at this
        exact this
      refine wp_region_any hm ?_
      -- any state on the way
      have key : ∀ (fuel : Nat) (listed : Array Bool) (a : Act) (w : World) (ρ' : Ren) (t : T AObj) (B : Tm), listed.size = ops.size → listed.toList.count false = fuel → ρ.le ρ' → Rel N0 b0 w0 ρ' t w → ARel P n ρ' B a →
          (∀ (j : Nat) (o : Oper), ops[j]? = some o → listed.getD j false = true → ∀ e ∈ o.after, Region.binds .any e = true → listed.getD e.on false = true) →
          (∀ x : Lc, t.look x = mix (HH x) (fun j => (wm j).testBit (bitOf x)) (fun j => listed.getD j false) ops.size) →
          (∀ x, B.get x = mix (TT x) (fun j => dd j == some x) (fun j => listed.getD j false) ops.size) → wpAny P .any ops Q fuel listed a w := by
        intro fuel
        induction fuel with
        | zero =>
          intro listed a w ρ' t B hs hcnt hle hr hB hcl ht hT
          have hallL : ∀ j, j < ops.size → listed.getD j false = true := fun j hj => by
            have hj' : j < listed.toList.length := by simp; omega
            have : ¬ (false ∈ listed.toList) := by rw [← List.count_pos_iff]; omega
            have hm := List.getElem_mem hj'
            have : listed.toList[j] ≠ false := fun e => this (e ▸ hm)
            have : listed.toList[j] = true := by simpa using this
            have hj2 : j < listed.size := by omega
            simpa [hj2] using this
          constructor
          · rw [List.eq_nil_iff_forall_not_mem]
            intro j hj
            obtain ⟨h0, o, ho, _⟩ := mem_ready.1 hj
            have := hallL j (olt ho)
            have hj2 : j < listed.size := by have := olt ho; omega
            simp [hj2] at h0 this
            rw [h0] at this; cases this
          · refine hQ ρ' w a hle (hr.same (fun x => look_get fun y => ?_) rfl rfl rfl) ⟨hB.size, hB.defers, fun x v hx => hB.tmp x v ?_⟩
            · rw [ht (x, y), mix_low (fun j hj => keepH (x, y) j hj) (fun j hj _ => hallL j hj), ← hk]
              show _ = HH (x, y) ops.toList.length
              simp only [HH, a3]
            · rw [hT x, mix_low (fun j hj => keepT x j hj) (fun j hj _ => hallL j hj), ← hk]
              simp only [TT, a4]
              exact hx
        | succ fuel ih =>
          intro listed a w ρ' t B hs hcnt hle hr hB hcl ht hT
          have hnone : ∃ j, j ∈ Region.ready .any ops listed := by
            -- the first that is not listed
            have : ∃ j, j < ops.size ∧ listed.getD j false = false := by
              have hmem : false ∈ listed.toList := List.count_pos_iff.1 (by omega)
              obtain ⟨j, hj, e⟩ := List.getElem_of_mem hmem
              have hj2 : j < listed.size := by simpa using hj
              exact ⟨j, by omega, by simpa [hj2] using e⟩
            obtain ⟨j, hj⟩ := this
            induction j using Nat.strongRecOn with
            | _ j ihj =>
              by_cases hex : ∃ i, i < j ∧ listed.getD i false = false
              · obtain ⟨i, hi, e⟩ := hex
                exact ihj i hi ⟨by omega, e⟩
              · obtain ⟨o, ho⟩ := osome j hj.1
                refine ⟨j, mem_ready.2 ⟨?_, o, ho, fun e he hb => ?_⟩⟩
                · have hj2 : j < listed.size := by omega
                  have := hj.2
                  simp [hj2] at this ⊢
                  exact this
                · have hlt : e.on < j := by have := edgesOk_get hedge (oget ho) e he hb; omega
                  cases hc : listed.getD e.on false
                  · exact absurd ⟨e.on, hlt, hc⟩ hex
                  · rfl
          refine ⟨fun h0 => (by obtain ⟨j, hj⟩ := hnone; rw [h0] at hj; cases hj), fun i hi => ?_⟩
          obtain ⟨hi0, o, ho, hedg⟩ := mem_ready.1 hi
          have hik := olt ho
          have hil : i < listed.size := by omega
          have hiF : listed.getD i false = false := by simp [hil] at hi0 ⊢; exact hi0
          obtain ⟨v, rr, ww, e1, e2, e3⟩ := a6 i o (oget ho)
          have hwi : wm i = ww := mget e1
          obtain ⟨bi, hbi⟩ := bget i hik
          -- earlier ones that touch the same are done, later ones are not
          have before : ∀ j, j < i → bi.testBit j = true → listed.getD j false = true := fun j _ hb => reach (fun j => listed.getD j false) hcl i o bi j ho hbi hedg hb
          have behind : ∀ (j b : Nat), i < j → j < ops.size → listed.getD j false = true → (befs ops.toList [])[j]? = some b → b.testBit i = true → False := fun j b hlt hj hL hb hbit => by
            obtain ⟨oj, hoj⟩ := osome j hj
            have := reach (fun j => listed.getD j false) hcl j oj b i hoj hb (hcl j oj hoj hL) hbit
            rw [hiF] at this; cases this
          have later : ∀ (x : Lc) j, (rr ||| ww).testBit (bitOf x) = true → i < j → j < ops.size → listed.getD j false = true → (wm j).testBit (bitOf x) = false := fun x j hx hlt hj hL => by
            obtain ⟨oj, hoj⟩ := osome j hj
            obtain ⟨vj, rj, wj, g1, _⟩ := a6 j oj (oget hoj)
            obtain ⟨b, hb⟩ := bget j hj
            rcases P2 i j _ _ b e1 g1 hlt hb with hbit | hno
            · exact (behind j b hlt hj hL hb hbit).elim
            · rw [mget g1]
              cases hq : wj.testBit (bitOf x)
              · rfl
              · exact ((noc_bits hno (bitOf x)).2 ⟨hq, hx⟩).elim
          have agree : ∀ x : Lc, (rr ||| ww).testBit (bitOf x) = true → t.look x = (S i).h.look x := fun x hx => by
            rw [ht x, mix_high (m := i) (by omega) fun j hj1 hj2 hL => ?_, mix_low (fun j hj => keepH x j (by omega)) fun j hj hbit => ?_]
            · obtain ⟨oj, hoj⟩ := osome j (by omega)
              obtain ⟨vj, rj, wj, g1, _⟩ := a6 j oj (oget hoj)
              rcases P2 j i _ _ bi g1 e1 hj hbi with hb | hno
              · exact before j hj hb
              · rw [mget g1] at hbit
                exact ((noc_bits hno (bitOf x)).1 ⟨hbit, hx⟩).elim
            · rcases Nat.lt_or_ge i j with hlt | hge
              · exact later x j hx hlt hj2 hL
              · have : j = i := by omega
                subst this
                rw [hiF] at hL; cases hL
          have agreeT : ∀ x ∈ o.looksAt ops, (AA i).get x = B.get x := fun x hx => by
            rw [hT x, mix_high (m := i) (by omega) fun j hj1 hj2 hL => ?_, mix_low (fun j hj => keepT x j (by omega)) fun j hj hbit => ?_]
            · obtain ⟨oj, hoj⟩ := osome j (by omega)
              rcases P1 j i oj o bi hoj ho hj hbi with hb | hno
              · exact before j hj hb
              · have hdj : dd j = oj.dst := by simp [dd, hoj]
                rw [hdj] at hbit
                exact absurd hx ((Oper.apart_spec hno).1 x (eq_of_beq hbit))
            · rcases Nat.lt_or_ge i j with hlt | hge
              · obtain ⟨oj, hoj⟩ := osome j hj2
                obtain ⟨b, hb⟩ := bget j hj2
                rcases P1 i j o oj b ho hoj hlt hb with hbit | hno
                · exact (behind j b hlt hj2 hL hb hbit).elim
                · have hdj : dd j = oj.dst := by simp [dd, hoj]
                  rw [hdj]
                  cases hq : (oj.dst == some x)
                  · rfl
                  · exact absurd hx ((Oper.apart_spec hno).2.2 x (eq_of_beq hq))
              · have : j = i := by omega
                subst this
                rw [hiF] at hL; cases hL
          -- the step itself
          obtain ⟨dr, dw, q1, q2, F⟩ := (valX P N0 call ops.toList (AA i) o).fr _ _ _ e2
          simp only [Nat.zero_or] at q1 q2
          have q1 : rr = dr := q1
          have q2 : ww = dw := q2
          obtain ⟨t', f1, f2, f3, f4, f5⟩ := F ⟨(S i).nx, t, 0, 0⟩ rfl fun x hx => agree x (by rw [q1, q2]; exact hx)
          rw [valX_congr agreeT] at f1
          obtain ⟨B', hB'⟩ := doPut_ok (B := B) e3
          have hgi : ∀ j, (listed.setIfInBounds i true).getD j false = if j = i then true else listed.getD j false := fun j => by
            by_cases hji : j = i
            · subst hji; simp [hil]
            · rw [if_neg hji]; exact getD_set_ne false (Ne.symm hji)
          refine valX_ok hc (s := ⟨(S i).nx, t, 0, 0⟩) hr hB ho f1 hB' fun ρ2 w2 a2 hle2 hr2 hB2 => ?_
          refine ih (listed.setIfInBounds i true) a2 w2 ρ2 t'.h B' (by simpa using hs) ?_ (Ren.le_trans hle hle2) hr2 hB2 ?_ ?_ ?_
          · have : listed.toList[i]? = some false := by
              have := hi0
              simp [hil] at this ⊢
              exact this
            have := count_set this
            simp only [Array.toList_setIfInBounds]
            omega
          · intro j oj hoj hL e he hb
            rw [hgi] at hL ⊢
            by_cases hji : j = i
            · subst hji
              rw [ho] at hoj
              cases hoj
              split
              · rfl
              · exact hedg e he hb
            · rw [if_neg hji] at hL
              split
              · rfl
              · exact hcl j oj hoj hL e he hb
          · intro x
            rw [f5 x, ← q2, mix_step (L := fun j => listed.getD j false) hik hiF (by rw [hgi]; simp) (fun j hj => by rw [hgi, if_neg hj]) (fun hti j h1 h2 h3 => later x j (by rw [hwi] at hti; simp [hti]) h1 h2 h3), hwi]
            split
            · rfl
            · exact ht x
          · intro x
            have hdi : dd i = o.dst := by simp [dd, ho]
            rw [doPut_get hB' x, mix_step (L := fun j => listed.getD j false) hik hiF (by rw [hgi]; simp) (fun j hj => by rw [hgi, if_neg hj]) ?_]
            · rw [hdi]
              by_cases hq : o.dst = some x
              · rw [if_pos hq, hq]
                simp only [beq_self_eq_true, if_true]
                have := doPut_get e3 x
                rw [if_pos hq] at this
                exact this.symm
              · rw [if_neg hq, if_neg (by simpa using hq)]
                exact hT x
            · intro hti j hlt hj2 hL
              obtain ⟨oj, hoj⟩ := osome j hj2
              obtain ⟨b, hb⟩ := bget j hj2
              rcases P1 i j o oj b ho hoj hlt hb with hbit | hno
              · exact (behind j b hlt hj2 hL hb hbit).elim
              · have hdj : dd j = oj.dst := by simp [dd, hoj]
                rw [hdi] at hti
                rw [hdj]
                cases hq : (oj.dst == some x)
                · rfl
                · exact absurd (eq_of_beq hq) ((Oper.apart_spec hno).2.1 x (eq_of_beq hti))
      refine key ops.size (Array.replicate ops.size false) a _ ρ s.h A (by simp) (by simp) (Ren.le_refl _) (r.same (fun _ => rfl) rfl rfl rfl) hA ?_ ?_ ?_
      · intro j o ho hL
        have := olt ho
        simp [this] at hL
      · intro x
        rw [mix_high (m := 0) (Nat.zero_le _) fun j _ h2 hL => by simp [h2] at hL]
        show _ = HH x 0
        simp only [HH, a1]
      · intro x
        rw [mix_high (m := 0) (Nat.zero_le _) fun j _ h2 hL => by simp [h2] at hL]
        show _ = TT x 0
        simp only [TT, a2]
end
end Go.Rx

namespace Go.Rx
set_option linter.unusedVariables false
set_option linter.unusedSimpArgs false

/-- What a call gives: its value, and the blocks that the value hangs on, under the names of the run that made them. -/
structure Ret where
  objs : List (Nat × AObj)
  v : Value

def newName : List (Nat × AObj) → Nat → Nat → Option Nat
  | [], _, _ => none
  | (i, _) :: l, n, j => match Nat.beq i j with
    | true => some n
    | false => newName l (n + 1) j
/-- A value under new names. -/
def ren1 (σ : Nat → Option Nat) : Value → Option Value
  | .bool b => some (.bool b)
  | .int k n => some (.int k n)
  | .string s => some (.string s)
  | .pointer none => some (.pointer none)
  | .pointer (some ⟨i, off, none⟩) => match σ i with
    | some j => some (.pointer (some ⟨j, off, none⟩))
    | none => none
  | .slice none l c => match l, c with
    | 0, 0 => some (.slice none 0 0)
    | 0, 1 => some (.slice none 0 1)
    | _, _ => none
  | .slice (some ⟨i, off, none⟩) l c => match σ i with
    | some j => some (.slice (some ⟨j, off, none⟩) l c)
    | none => none
  | .map none => some (.map none)
  | .nilFunc => some .nilFunc
  | .nilIface => some .nilIface
  | _ => none
def renL (σ : Nat → Option Nat) : List Value → Option (List Value)
  | [] => some []
  | v :: l => match ren1 σ v, renL σ l with
    | some v, some l => some (v :: l)
    | _, _ => none
def renV (σ : Nat → Option Nat) : Value → Option Value
  | .agg a => match renL σ a.toList with
    | some l => some (.agg ⟨l⟩)
    | none => none
  | v => ren1 σ v
def renVL (σ : Nat → Option Nat) : List Value → Option (List Value)
  | [] => some []
  | v :: l => match renV σ v, renVL σ l with
    | some v, some l => some (v :: l)
    | _, _ => none
def renR (σ : Nat → Option Nat) : Value → Option Value
  | .tuple a => match renVL σ a.toList with
    | some l => some (.tuple ⟨l⟩)
    | none => none
  | v => renV σ v
def renO (σ : Nat → Option Nat) : AObj → Option AObj
  | .cells c t f0 f1 lo => match Nat.ble f0 1048576 with
    | true => match renL σ c with
      | some c => some (.cells c t f0 f1 lo)
      | none => none
    | false => none
  | _ => none
def renOs (σ : Nat → Option Nat) : List (Nat × AObj) → Option (List AObj)
  | [] => some []
  | (_, o) :: l => match renO σ o, renOs σ l with
    | some o, some l => some (o :: l)
    | _, _ => none
noncomputable section
variable {σ : Nat → Option Nat} {ρ ρ' : Ren}
theorem ren1_rel (hσ : ∀ i j, σ i = some j → ∀ L, ρ i = some L → ρ' j = some L) {v u v' : Value} (h : ren1 σ v = some u) (r : VRel ρ v v') : VRel ρ' u v' := by
  unfold ren1 at h
  split at h <;> first
    | (cases h; cases r; constructor; done)
    | (cases h; done)
    | skip
  · split at h
    · rename_i hj
      cases h
      cases r with
      | ptr _ hL => exact .ptr _ (hσ _ _ hj _ hL)
    · cases h
  · split at h <;> first
      | (cases h; cases r; constructor; done)
      | (cases h; done)
  · split at h
    · rename_i hj
      cases h
      cases r with
      | slice _ _ hL hs => exact .slice _ _ (hσ _ _ hj _ hL) hs
    · cases h
theorem renL_rel (hσ : ∀ i j, σ i = some j → ∀ L, ρ i = some L → ρ' j = some L) : ∀ {l u l' : List Value}, renL σ l = some u → VRels ρ l l' → VRels ρ' u l'
  | [], _, _, h, r => by cases h; cases r; exact .nil
  | v :: l, u, l', h, r => by
    unfold renL at h
    split at h
    · rename_i h1 h2
      cases h
      cases r with
      | cons r1 r2 => exact .cons (ren1_rel hσ h1 r1) (renL_rel hσ h2 r2)
    · cases h
theorem renV_rel (hσ : ∀ i j, σ i = some j → ∀ L, ρ i = some L → ρ' j = some L) {v u v' : Value} (h : renV σ v = some u) (r : VRel ρ v v') : VRel ρ' u v' := by
  unfold renV at h
  split at h
  · split at h
    · rename_i h1
      cases h
      cases r with
      | agg r => exact .agg (renL_rel hσ h1 r)
    · cases h
  · exact ren1_rel hσ h r
theorem renVL_rel (hσ : ∀ i j, σ i = some j → ∀ L, ρ i = some L → ρ' j = some L) : ∀ {l u l' : List Value}, renVL σ l = some u → VRels ρ l l' → VRels ρ' u l'
  | [], _, _, h, r => by cases h; cases r; exact .nil
  | v :: l, u, l', h, r => by
    unfold renVL at h
    split at h
    · rename_i h1 h2
      cases h
      cases r with
      | cons r1 r2 => exact .cons (renV_rel hσ h1 r1) (renVL_rel hσ h2 r2)
    · cases h
theorem renR_rel (hσ : ∀ i j, σ i = some j → ∀ L, ρ i = some L → ρ' j = some L) {v u v' : Value} (h : renR σ v = some u) (r : VRel ρ v v') : VRel ρ' u v' := by
  unfold renR at h
  split at h
  · split at h
    · rename_i h1
      cases h
      cases r with
      | tuple r => exact .tuple (renVL_rel hσ h1 r)
    · cases h
  · exact renV_rel hσ h r
theorem renL_len : ∀ {l u : List Value}, renL σ l = some u → u.length = l.length
  | [], _, h => by cases h; rfl
  | v :: l, u, h => by
    unfold renL at h
    split at h
    · rename_i h1 h2; cases h; simp [renL_len h2]
    · cases h
theorem renO_rel {L : Loc} {w : World} (hσ : ∀ i j, σ i = some j → ∀ L, ρ i = some L → ρ' j = some L) {o u : AObj} (h : renO σ o = some u) (r : LiveObj ρ L w o) : LiveObj ρ' L w u := by
  unfold renO at h
  split at h
  · split at h
    case h_2 => cases h
    split at h
    · rename_i h1
      cases h
      obtain ⟨h0, cs, el, fr, q1, q2, q3, q4, q5, q6, q7⟩ := r
      have hl := renL_len h1
      exact ⟨h0, cs, el, fr, q1, q2, q3, by rw [hl]; exact q4, by rw [hl]; exact q5, by rw [hl]; exact renL_rel hσ h1 q6, q7⟩
    · cases h
  · cases h
theorem renOs_get {l : List (Nat × AObj)} : ∀ {us : List AObj} {k : Nat} {i : Nat} {o : AObj}, renOs σ l = some us → l[k]? = some (i, o) → ∃ u, us[k]? = some u ∧ renO σ o = some u := by
  induction l with
  | nil => intro us k i o _ hk; cases hk
  | cons q l ih =>
    obtain ⟨j, p⟩ := q
    intro us k i o h hk
    unfold renOs at h
    split at h
    · rename_i h1 h2
      cases h
      cases k with
      | zero => cases hk; exact ⟨_, rfl, h1⟩
      | succ k => obtain ⟨u, e1, e2⟩ := ih h2 hk; exact ⟨u, e1, e2⟩
    · cases h
theorem renOs_len : ∀ {l : List (Nat × AObj)} {us : List AObj}, renOs σ l = some us → us.length = l.length
  | [], _, h => by cases h; rfl
  | (j, p) :: l, us, h => by
    unfold renOs at h
    split at h
    · rename_i h1 h2; cases h; simp [renOs_len h2]
    · cases h
theorem newName_some : ∀ {l : List (Nat × AObj)} {n i j : Nat}, newName l n i = some j → ∃ k o, l[k]? = some (i, o) ∧ j = n + k
  | [], _, _, _, h => by cases h
  | (a, o) :: l, n, i, j, h => by
    unfold newName at h
    split at h
    · rename_i hb
      have := Nat.eq_of_beq_eq_true hb
      subst this
      cases h
      exact ⟨0, o, rfl, rfl⟩
    · obtain ⟨k, p, h1, h2⟩ := newName_some h
      exact ⟨k + 1, p, h1, by omega⟩
end

/-- New blocks one after the other. -/
noncomputable def X.news : List AObj → X Unit
  | [] => X.pure ()
  | o :: l => (X.new o).bind fun _ => X.news l
theorem X.news_some : ∀ {l : List AObj} {s s' : St}, (X.news l).run s = some ((), s') → s'.nx = s.nx + l.length ∧ (∀ k, k < l.length → s.h.get (s.nx + k) = none) ∧
    ∀ i, s'.h.get i = if s.nx ≤ i ∧ i < s.nx + l.length then l[i - s.nx]? else s.h.get i := by
  intro l
  induction l with
  | nil =>
    intro s s' h
    obtain ⟨_, rfl⟩ := X.pure_some h
    exact ⟨rfl, fun k hk => by simp at hk, fun i => by rw [if_neg (fun hh => by have h1 := hh.1; have h2 := hh.2; simp only [List.length_nil] at h2; omega)]⟩
  | cons o l ih =>
    intro s s' h
    obtain ⟨i0, s1, h1, h2⟩ := X.bind_some h
    obtain ⟨rfl, e1, e2, e3⟩ := X.new_some h1
    obtain ⟨f1, f2, f3⟩ := ih h2
    refine ⟨by rw [f1, e3]; simp; omega, fun k hk => ?_, fun i => ?_⟩
    · cases k with
      | zero => exact e1
      | succ k =>
        have := f2 k (by simp at hk; omega)
        rw [e2, e3, T.get_set] at this
        split at this
        · cases this
        · rw [show s.nx + (k + 1) = s.nx + 1 + k from by omega]; exact this
    · rw [f3, e3, e2, T.get_set]
      simp only [List.length_cons]
      by_cases h : s.nx = i
      · subst h
        rw [if_neg (by omega), if_pos rfl, if_pos (by omega)]
        simp
      · rw [if_neg h]
        by_cases h3 : s.nx + 1 ≤ i ∧ i < s.nx + 1 + l.length
        · rw [if_pos h3, if_pos (by omega), show i - s.nx = (i - (s.nx + 1)) + 1 from by omega]
          rfl
        · rw [if_neg h3, if_neg (by omega)]

noncomputable section
variable {P : Program} {N0 b0 : Nat} {w0 : World} {ρ ρ' : Ren} {w w' : World} {h h' : T AObj}
/-- A run from the world w, begun with nothing of its own, is set into the run that came to w. -/
theorem Rel.embed (r : Rel N0 b0 w0 ρ h w) (r' : Rel N0 w.heap.size w ρ' h' w') {nx : Nat} (hN : N0 ≤ nx) {l : List (Nat × AObj)} (hl : ∀ (k i : Nat) (o : AObj), l[k]? = some (i, o) → N0 ≤ i ∧ h'.get i = some o)
    (hnd : ∀ (k k' i : Nat) (o o' : AObj), l[k]? = some (i, o) → l[k']? = some (i, o') → k = k') {us : List AObj} (hus : renOs (newName l nx) l = some us) (hfree : ∀ k, k < us.length → h.get (nx + k) = none)
    {h2 : T AObj} (hh : ∀ i, h2.get i = if nx ≤ i ∧ i < nx + us.length then us[i - nx]? else h.get i) :
    ∃ ρ2, ρ.le ρ2 ∧ Rel N0 b0 w0 ρ2 h2 w' ∧ ∀ i j, newName l nx i = some j → ∀ L, ρ' i = some L → ρ2 j = some L := by
  have hlen := renOs_len hus
  let ρ2 : Ren := fun j => if nx ≤ j ∧ j < nx + us.length then (l[j - nx]?).bind fun p => ρ' p.1 else ρ j
  have hin : ∀ (k i : Nat) (o : AObj), l[k]? = some (i, o) → ρ2 (nx + k) = ρ' i := fun k i o hk => by
    have : k < l.length := (List.getElem?_eq_some_iff.1 hk).1
    show (if _ then _ else _) = _
    rw [if_pos ⟨by omega, by omega⟩, Nat.add_sub_cancel_left, hk]
    rfl
  have hout : ∀ j, ¬ (nx ≤ j ∧ j < nx + us.length) → ρ2 j = ρ j := fun j hj => if_neg hj
  have hle : ρ.le ρ2 := fun j L e => by
    by_cases hj : nx ≤ j ∧ j < nx + us.length
    · have := hfree (j - nx) (by omega)
      rw [show nx + (j - nx) = j from by omega] at this
      rw [r.new j (by omega) this] at e
      cases e
    · rw [hout j hj]; exact e
  have hσ : ∀ i j, newName l nx i = some j → ∀ L, ρ' i = some L → ρ2 j = some L := fun i j hj L hL => by
    obtain ⟨k, o, h1, rfl⟩ := newName_some hj
    rw [hin k i o h1]; exact hL
  have old : ∀ k, k < w.heap.size → w'.heap[k]? = w.heap[k]? := r'.low
  -- a block of the heap: an old one, or one that was set in
  have kind : ∀ j oj, h2.get j = some oj → (h.get j = some oj ∧ ρ2 j = ρ j) ∨ ∃ k i o, l[k]? = some (i, o) ∧ j = nx + k ∧ renO (newName l nx) o = some oj ∧ ρ2 j = ρ' i ∧ N0 ≤ i ∧ h'.get i = some o := fun j oj hj => by
    rw [hh] at hj
    split at hj
    · rename_i hr
      right
      have hk : j - nx < l.length := by omega
      obtain ⟨p, hp⟩ : ∃ p, l[j - nx]? = some p := ⟨l[j - nx], List.getElem?_eq_getElem hk⟩
      obtain ⟨i, o⟩ := p
      obtain ⟨u, h1, h3⟩ := renOs_get hus hp
      rw [hj] at h1
      cases h1
      obtain ⟨g1, g2⟩ := hl _ _ _ hp
      have e : j = nx + (j - nx) := by omega
      exact ⟨j - nx, i, o, hp, e, h3, by rw [e]; exact hin _ i o hp, g1, g2⟩
    · rename_i hr
      exact .inl ⟨hj, hout j hr⟩
  have notdead : ∀ {o u}, renO (newName l nx) o = some u → o.live = true ∧ u.live = true ∧ o.seal = false := fun h => by
    unfold renO at h
    split at h
    · split at h
      case h_2 => cases h
      case h_1 hf =>
        split at h
        · cases h
          exact ⟨rfl, rfl, not_seal (Nat.le_of_ble_eq_true hf)⟩
        · cases h
    · cases h
  refine ⟨ρ2, hle, ⟨fun g hg => ?_, fun j oj hj => ?_, fun i j oi oj Li Lj hi hj li lj ei ej hb => ?_, fun j hj hn => ?_, fun j oj L hoj lj hj e => ?_, fun j hj => ?_, ?_, r.n0le, r'.os.trans r.os, r'.out.trans r.out⟩, hσ⟩
  · obtain ⟨L, e, x⟩ := r.glob g hg
    exact ⟨L, hle _ _ e, x⟩
  · rcases kind j oj hj with ⟨h1, h3⟩ | ⟨k, i, o, _, _, h5, h6, _, h8⟩
    · obtain ⟨L, e, x⟩ := r.obj j oj h1
      exact ⟨L, hle _ _ e, x.congr hle fun hlv => old _ (x.lt hlv)⟩
    · obtain ⟨L, e, x⟩ := r'.obj i o h8
      exact ⟨L, h6.trans e, renO_rel hσ h5 x⟩
  · have place : ∀ j oj Lj, h2.get j = some oj → oj.live = true → ρ2 j = some Lj → (h.get j = some oj ∧ ρ j = some Lj ∧ Lj.blk < w.heap.size) ∨
        ∃ k i o, l[k]? = some (i, o) ∧ j = nx + k ∧ h'.get i = some o ∧ o.live = true ∧ ρ' i = some Lj ∧ w.heap.size ≤ Lj.blk ∧ o.seal = false := fun j oj Lj hj lj ej => by
      rcases kind j oj hj with ⟨h1, h3⟩ | ⟨k, i, o, h3, h4, h5, h6, h7, h8⟩
      · rw [h3] at ej
        obtain ⟨M, e, x⟩ := r.obj j oj h1
        rw [ej] at e
        cases e
        exact .inl ⟨h1, ej, x.lt lj⟩
      · rw [h6] at ej
        exact .inr ⟨k, i, o, h3, h4, h8, (notdead h5).1, ej, r'.fresh i o Lj h8 (notdead h5).1 h7 ej, (notdead h5).2.2⟩
    rcases place i oi Li hi li ei with ⟨a1, a2, a3⟩ | ⟨k, ii, o, a1, a2, a3, a4, a5, a6, a7⟩ <;> rcases place j oj Lj hj lj ej with ⟨c1, c2, c3⟩ | ⟨k', jj, o', c1, c2, c3, c4, c5, c6, c7⟩
    · refine (r.apart i j oi oj Li Lj a1 c1 li lj a2 c2 hb).imp id fun x => x.mono fun k o hk _ => ?_
      rw [hh, if_neg fun hr => ?_]
      · exact hk
      · have := hfree (k - nx) (by omega)
        rw [show nx + (k - nx) = k from by omega, hk] at this
        cases this
    · omega
    · omega
    · rcases r'.apart ii jj o o' Li Lj a3 c3 a4 c4 a5 c5 hb with this | this
      · subst this
        have := hnd k k' ii o o' a1 c1
        exact .inl (by omega)
      · exact absurd (a7.symm.trans this.si) (by simp)
  · rw [hh] at hn
    split at hn
    · rename_i hr
      have hk : j - nx < us.length := by omega
      rw [List.getElem?_eq_getElem hk] at hn
      cases hn
    · rename_i hr
      rw [hout j hr]
      exact r.new j hj hn
  · rcases kind j oj hoj with ⟨h1, h3⟩ | ⟨k, i, o, _, _, h5, h6, h7, h8⟩
    · rw [h3] at e
      exact r.fresh j oj L h1 lj hj e
    · rw [h6] at e
      have := r'.fresh i o L h8 (notdead h5).1 h7 e
      have := r.b0le
      omega
  · rw [old j (Nat.lt_of_lt_of_le hj r.b0le)]
    exact r.low j hj
  · exact Nat.le_trans r.b0le r'.b0le
end
end Go.Rx
