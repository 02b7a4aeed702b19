/- Code and functions: a short run that ends says how the real call ends. -/
import Derived.Test.YtpfjakcfjpgbmaaGreatDoorRxG
import Derived.Test.YtpfjakcfjpgbmaaGreatDoorRxK
import Derived.Scope
namespace Go.Rx
set_option linter.unusedVariables false
set_option linter.unusedSimpArgs false
noncomputable section
variable {P : Program} {N0 b0 : Nat} {w0 : World} {ρ : Ren} {w : World}

inductive Ex where
  | normal
  | exit (id : Nat)
  | ret
def Ex.to : Ex → Exit
  | .normal => .normal
  | .exit id => .exit id
  | .ret => .ret

/-- What is known of calls that are not run: what they give, by their arguments. -/
structure Known (P : Program) (N0 : Nat) where
  /-- what is known of the variables -/
  env : World → Prop
  still : ∀ w w' : World, (∀ i, i < N0 → w'.heap[i]? = w.heap[i]?) → env w → env w'
  fn : FuncId → Option (List Value → Option Ret)
  ok : ∀ (f : FuncId) (g : List Value → Option Ret), fn f = some g → ∀ args R, g args = some R → plainL args = true ∧ (∀ (k k' i : Nat) (o o' : AObj), R.objs[k]? = some (i, o) → R.objs[k']? = some (i, o') → k = k') ∧
    ∀ w : World, env w → N0 ≤ w.heap.size →
      ((callFunc f ⟨args⟩).run P w = .ok (.value R.v) w ∧ R.objs = [] ∧ plainL (cellsOf R.v) = true) ∨
      ((callFunc f ⟨args⟩).run P w = .ok (.enter f ⟨args⟩) w ∧ Calls P f ⟨args⟩ w fun e w' => ∃ ρ' h' v', e = .returned v' ∧ Rel N0 w.heap.size w ρ' h' w' ∧ VRel ρ' R.v v' ∧ ∀ (k i : Nat) (o : AObj), R.objs[k]? = some (i, o) → N0 ≤ i ∧ h'.get i = some o)
  idle : FuncId → Option Nat
  idleOk : IdleOk P idle

abbrev CodeX := Nat → Code → Tm → X (Ex × Tm)
def codeF (P : Program) (N0 : Nat) (call : CallX) (self : CodeX) (n : Nat) (c : Code) (A : Tm) : X (Ex × Tm) := match c with
  | .skip => X.pure (.normal, A)
  | .label _ => X.pure (.normal, A)
  | .region _ ops d => match d with
    | false => (opsX P N0 call n ops.toList ops.toList A).bind fun A => X.pure (.normal, A)
    | true => (drawX P N0 call n ops A).bind fun A => X.pure (.normal, A)
  | .seq a b => (self n a A).bind fun p => match p with
    | (.normal, A) => self n b A
    | p => X.pure p
  | .cond c a b => match ev N0 A c with
    | some (.bool true) => self n a A
    | some (.bool false) => self n b A
    | _ => X.fail
  | .block id b => (self n b A).bind fun p => match p with
    | (.exit i, A) => match Nat.beq i id with
      | true => X.pure (.normal, A)
      | false => X.pure (.exit i, A)
    | p => X.pure p
  | .loop b => (self n b A).bind fun p => match p with
    | (.normal, A) => self n (.loop b) A
    | p => X.pure p
  | .scope b => self n b A
  | .exit id => X.pure (.exit id, A)
  | .ret => X.pure (.ret, A)
  | _ => X.fail

def argsT : List Value → Nat → Tm → (Tm → X (Ex × Tm)) → X (Ex × Tm)
  | [], _, A, k => k A
  | v :: l, i, A, k => T.setK A i v fun A => argsT l (i + 1) A k
def resX (P : Program) (A : Tm) : List ResultVar → X (List Value)
  | [] => X.pure []
  | .tmp t :: l => match A.get t with
    | some v => (resX P A l).bind fun l => X.pure (v :: l)
    | none => X.fail
  | .cell a t :: l => match A.get a with
    | some x => (xload P t x).bind fun v => (resX P A l).bind fun l => X.pure (v :: l)
    | none => X.fail
def resV : List Value → Value
  | [v] => v
  | l => .tuple ⟨l⟩
def setIn (N0 : Nat) (R : Ret) : X Value := X.nxt.bind fun n => match Nat.ble N0 n, renOs (newName R.objs n) R.objs, renR (newName R.objs n) R.v with
  | true, some us, some v => (X.news us).bind fun _ => X.pure v
  | _, _, _ => X.fail
def callF (P : Program) {N0 : Nat} (K : Known P N0) (code : CodeX) (f : FuncId) (args : List Value) : X Value := match (K.fn f).bind fun g => g args with
  | some R => setIn N0 R
  | none => match P.funcs[f]? with
    | some fn => match fn.body with
      | some c => match Nat.ble args.length fn.ntmps with
        | true => (argsT args 0 .e fun A => code fn.ntmps c A).bind fun p => match p with
          | (.exit _, _) => X.fail
          | (_, A) => (resX P A fn.results.toList).bind fun l => X.pure (resV l)
        | false => X.fail
      | none => X.fail
    | none => X.fail
def exe (P : Program) (N0 : Nat) (K : Known P N0) : Nat → CallX × CodeX
  | 0 => (⟨fun _ _ => X.fail, K.idle⟩, fun _ _ _ => X.fail)
  | k + 1 => (⟨callF P K (exe P N0 K k).2, K.idle⟩, codeF P N0 (exe P N0 K k).1 (exe P N0 K k).2)

/-- A loop is told by its rounds. -/
def wpK (P : Program) (k : Nat) (c : Code) (Q : Exit → Act → World → Prop) (a : Act) (w : World) : Prop := match c with
  | .loop b => Code.rounds P b Q k a w
  | c => c.wp P Q a w
theorem wpK_wp {k : Nat} {c : Code} {Q : Exit → Act → World → Prop} {a : Act} {w : World} (h : wpK P k c Q a w) : c.wp P Q a w := by
  unfold wpK at h
  split at h
  · exact wp_loop_rounds k h
  · exact h
def CodeOk (P : Program) (N0 b0 : Nat) (w0 : World) (k : Nat) (code : CodeX) : Prop := ∀ (n : Nat) (c : Code) (A A' : Tm) (x : Ex) (s s' : St) (ρ : Ren) (w : World) (a : Act) (Q : Exit → Act → World → Prop),
  Rel N0 b0 w0 ρ s.h w → ARel P n ρ A a → (code n c A).run s = some ((x, A'), s') → (∀ ρ' w' a', ρ.le ρ' → Rel N0 b0 w0 ρ' s'.h w' → ARel P n ρ' A' a' → Q x.to a' w') → wpK P k c Q a w

theorem codeF_ok {call : CallX} {self : CodeX} {k : Nat} (hm : P.follows .mixedOrders = true) (hc : CallOk P N0 b0 w0 call) (hs : CodeOk P N0 b0 w0 k self) : CodeOk P N0 b0 w0 (k + 1) (codeF P N0 call self) := by
  intro n c A A' x s s' ρ w a Q r hA h hQ
  have S : ∀ (c : Code) (A A' : Tm) (x : Ex) (s s' : St) (ρ : Ren) (w : World) (a : Act) (Q : Exit → Act → World → Prop),
      Rel N0 b0 w0 ρ s.h w → ARel P n ρ A a → (self n c A).run s = some ((x, A'), s') → (∀ ρ' w' a', ρ.le ρ' → Rel N0 b0 w0 ρ' s'.h w' → ARel P n ρ' A' a' → Q x.to a' w') → c.wp P Q a w :=
    fun c A A' x s s' ρ w a Q r hA h hQ => wpK_wp (hs n c A A' x s s' ρ w a Q r hA h hQ)
  unfold codeF at h
  split at h
  · obtain ⟨e, rfl⟩ := X.pure_some h
    cases e
    exact wp_skip (hQ ρ w a (Ren.le_refl _) r hA)
  · obtain ⟨e, rfl⟩ := X.pure_some h
    cases e
    exact wp_label (hQ ρ w a (Ren.le_refl _) r hA)
  · rename_i id ops d
    split at h
    · obtain ⟨A1, s1, h1, h2⟩ := X.bind_some h
      obtain ⟨e, rfl⟩ := X.pure_some h2
      cases e
      refine wp_region ?_
      have := opsX_ok hc (Q := Q) ops.toList 0 A A' a s s' ρ w rfl r hA h1 hQ
      rwa [Array.length_toList, ← List.range_eq_range'] at this
    · obtain ⟨A1, s1, h1, h2⟩ := X.bind_some h
      obtain ⟨e, rfl⟩ := X.pure_some h2
      cases e
      exact drawX_ok hc hm r hA h1 hQ
  · rename_i c1 c2
    obtain ⟨⟨x1, A1⟩, s1, h1, h2⟩ := X.bind_some h
    refine wp_seq ?_
    split at h2
    · rename_i heq
      cases heq
      exact S c1 A A1 .normal s s1 ρ w a _ r hA h1 fun ρ1 w1 a1 l1 r1 q1 => S c2 A1 A' x s1 s' ρ1 w1 a1 Q r1 q1 h2 fun ρ2 w2 a2 l2 => hQ ρ2 w2 a2 (Ren.le_trans l1 l2)
    · rename_i hne
      obtain ⟨e, rfl⟩ := X.pure_some h2
      cases e
      refine S c1 A A' x s s' ρ w a _ r hA h1 fun ρ1 w1 a1 l1 r1 q1 => ?_
      have := hQ ρ1 w1 a1 l1 r1 q1
      cases x with
      | normal => exact absurd rfl (hne A')
      | exit i => exact this
      | ret => exact this
  · rename_i cnd c1 c2
    split at h
    · rename_i hcnd
      have hv := (hA.ev r [cnd]) cnd (by simp) _ hcnd
      generalize hq : a.eval cnd = q at hv
      cases hv
      exact wp_cond_true hq (S c1 A A' x s s' ρ w a Q r hA h hQ)
    · rename_i hcnd
      have hv := (hA.ev r [cnd]) cnd (by simp) _ hcnd
      generalize hq : a.eval cnd = q at hv
      cases hv
      exact wp_cond_false hq (S c2 A A' x s s' ρ w a Q r hA h hQ)
    · cases h
  · rename_i id b
    obtain ⟨⟨x1, A1⟩, s1, h1, h2⟩ := X.bind_some h
    refine wp_block ?_
    split at h2
    · rename_i i A2 heq
      cases heq
      split at h2
      · rename_i hid
        have hid := Nat.eq_of_beq_eq_true hid
        obtain ⟨e, rfl⟩ := X.pure_some h2
        cases e
        refine S b A A' (.exit i) s s' ρ w a _ r hA h1 fun ρ1 w1 a1 l1 r1 q1 => ?_
        show if i = id then Q .normal a1 w1 else Q (.exit i) a1 w1
        rw [if_pos hid]
        exact hQ ρ1 w1 a1 l1 r1 q1
      · rename_i hid
        have hid : i ≠ id := fun e => by rw [e, Nat.beq_refl] at hid; cases hid
        obtain ⟨e, rfl⟩ := X.pure_some h2
        cases e
        refine S b A A' (.exit i) s s' ρ w a _ r hA h1 fun ρ1 w1 a1 l1 r1 q1 => ?_
        show if i = id then Q .normal a1 w1 else Q (.exit i) a1 w1
        rw [if_neg hid]
        exact hQ ρ1 w1 a1 l1 r1 q1
    · rename_i hne
      obtain ⟨e, rfl⟩ := X.pure_some h2
      cases e
      refine S b A A' x s s' ρ w a _ r hA h1 fun ρ1 w1 a1 l1 r1 q1 => ?_
      have := hQ ρ1 w1 a1 l1 r1 q1
      cases x with
      | normal => exact this
      | exit i => exact absurd rfl (hne i A')
      | ret => exact this
  · rename_i b
    obtain ⟨⟨x1, A1⟩, s1, h1, h2⟩ := X.bind_some h
    show Code.rounds P b Q (k + 1) a w
    rw [rounds_succ]
    split at h2
    · rename_i heq
      cases heq
      refine S b A A1 .normal s s1 ρ w a _ r hA h1 fun ρ1 w1 a1 l1 r1 q1 => ?_
      exact hs n (.loop b) A1 A' x s1 s' ρ1 w1 a1 Q r1 q1 h2 fun ρ2 w2 a2 l2 => hQ ρ2 w2 a2 (Ren.le_trans l1 l2)
    · rename_i hne
      obtain ⟨e, rfl⟩ := X.pure_some h2
      cases e
      refine S b A A' x s s' ρ w a _ r hA h1 fun ρ1 w1 a1 l1 r1 q1 => ?_
      have := hQ ρ1 w1 a1 l1 r1 q1
      cases x with
      | normal => exact absurd rfl (hne A')
      | exit i => exact this
      | ret => exact this
  · rename_i b
    refine wp_scope_straight (S b A A' x s s' ρ w a _ r hA h fun ρ1 w1 a1 l1 r1 q1 => ?_)
    have := hQ ρ1 w1 a1 l1 r1 q1
    cases x <;> exact this
  · obtain ⟨e, rfl⟩ := X.pure_some h
    cases e
    exact wp_exit (hQ ρ w a (Ren.le_refl _) r hA)
  · obtain ⟨e, rfl⟩ := X.pure_some h
    cases e
    exact wp_ret (hQ ρ w a (Ren.le_refl _) r hA)
  · cases h

theorem argsT_some {k : Tm → X (Ex × Tm)} {s : St} : ∀ {l : List Value} {i : Nat} {A : Tm}, ∃ B : Tm, argsT l i A k = k B ∧ ∀ t, B.get t = if i ≤ t ∧ t < i + l.length then l[t - i]? else A.get t := by
  intro l
  induction l with
  | nil => intro i A; exact ⟨A, rfl, fun t => (if_neg fun hh => by have h1 := hh.1; have h2 := hh.2; rw [List.length_nil] at h2; omega).symm⟩
  | cons v l ih =>
    intro i A
    obtain ⟨B, h1, h2⟩ := ih (i := i + 1) (A := A.set i v)
    refine ⟨B, by rw [argsT, T.setK_eq]; exact h1, fun t => ?_⟩
    rw [h2 t, T.get_set]
    simp only [List.length_cons]
    by_cases h : i = t
    · subst h
      rw [if_neg (by omega), if_pos rfl, if_pos (by omega)]
      simp
    · rw [if_neg h]
      by_cases h3 : i + 1 ≤ t ∧ t < i + 1 + l.length
      · rw [if_pos h3, if_pos (by omega), show t - i = (t - (i + 1)) + 1 from by omega]
        rfl
      · rw [if_neg h3, if_neg (by omega)]
def resS (tmps : Array Value) : ResultVar → Sem Value
  | .tmp t => pure (tmps.getD t undef)
  | .cell x t => do loadVar t (← asAddr (tmps.getD x undef))
theorem resX_ok {n : Nat} {A : Tm} {a : Act} (hA : ARel P n ρ A a) : ∀ {rs : List ResultVar} {l : List Value} {s s' : St}, Rel N0 b0 w0 ρ s.h w → (resX P A rs).run s = some (l, s') →
    s'.h = s.h ∧ ∃ l', (rs.mapM (resS a.tmps)).run P w = .ok l' w ∧ VRels ρ l l' := by
  intro rs
  induction rs with
  | nil =>
    intro l s s' r h
    obtain ⟨rfl, rfl⟩ := X.pure_some h
    exact ⟨rfl, [], rfl, .nil⟩
  | cons y rs ih =>
    intro l s s' r h
    cases y with
    | tmp t =>
      simp only [resX] at h
      split at h
      case h_2 => cases h
      case h_1 v hv =>
        obtain ⟨l2, s1, h1, h2⟩ := X.bind_some h
        obtain ⟨rfl, rfl⟩ := X.pure_some h2
        obtain ⟨e, l', e1, e2⟩ := ih r h1
        refine ⟨e, a.tmps.getD t undef :: l', ?_, .cons (hA.tmp t v hv) e2⟩
        simp only [List.mapM_cons, Sem.run_bind, resS, Sem.run_pure, Result.andThen_ok, e1]
    | cell x t =>
      simp only [resX] at h
      split at h
      case h_2 => cases h
      case h_1 p hp =>
        obtain ⟨v, s0, h0, h⟩ := X.bind_some h
        obtain ⟨l2, s1, h1, h2⟩ := X.bind_some h
        obtain ⟨rfl, rfl⟩ := X.pure_some h2
        obtain ⟨hs0, ad, v', hq, e0, hv⟩ := xload_at r (hA.tmp x p hp) h0
        obtain ⟨e, l', e1, e2⟩ := ih (hs0 ▸ r) h1
        refine ⟨e.trans hs0, v' :: l', ?_, .cons hv e2⟩
        simp only [List.mapM_cons, Sem.run_bind, resS, hq, asAddr, Sem.run_pure, Result.andThen_ok, e0, e1]
theorem results_ok {fn : Func} {n : Nat} {A : Tm} {a : Act} (hA : ARel P n ρ A a) {l : List Value} {s s' : St} (r : Rel N0 b0 w0 ρ s.h w) (h : (resX P A fn.results.toList).run s = some (l, s')) :
    s'.h = s.h ∧ ∃ v', (results fn a.tmps).run P w = .ok v' w ∧ VRel ρ (resV l) v' := by
  obtain ⟨e, l', e1, e2⟩ := resX_ok hA r h
  refine ⟨e, resV l', ?_, ?_⟩
  · have hr : results fn a.tmps = (do let vs ← fn.results.mapM (resS a.tmps); pure (if h : vs.size = 1 then vs[0] else .tuple vs)) := by
      unfold results
      congr 1
    rw [hr, Array.mapM_eq_mapM_toList]
    simp only [Sem.run_bind, Sem.run_map, e1, Result.andThen_ok, Sem.run_pure]
    match l' with
    | [] => rfl
    | [v] => rfl
    | v :: u :: l => rfl
  · match l, l', e2 with
    | [], _, .nil => exact .tuple .nil
    | [_], _, .cons h .nil => exact h
    | _ :: _ :: _, _, .cons h1 (.cons h2 h3) => exact .tuple (.cons h1 (.cons h2 h3))

/-- What must hold of the program once. -/
structure Fit (P : Program) : Prop where
  mixed : P.follows .mixedOrders = true
  names : ∀ (f : FuncId) (fn : Func), P.funcs[f]? = some fn → fn.body.isSome = true → fn.name ≠ "runtime.NumGoroutine"

theorem VRel.plain_eq {v v' : Value} (h : VRel ρ v v') (hp : plainV v = true) : v' = v := by
  cases h <;> first | rfl | cases hp
theorem callF_ok {K : Known P N0} {code : CodeX} {k : Nat} (hF : Fit P) (hE : K.env w0) (hs : CodeOk P N0 b0 w0 k code) : RunOk P N0 b0 w0 (callF P K code) := by
  intro f args args' s s' v ρ w r ha h
  unfold callF at h
  split at h
  · rename_i R hR
    obtain ⟨g, hg, hu⟩ := Option.bind_eq_some_iff.1 hR
    obtain ⟨p1, p2, p3⟩ := K.ok f g hg args R hu
    have hargs : args' = args := by
      clear p3 h hu hR
      induction args generalizing args' with
      | nil => cases ha; rfl
      | cons x l ih =>
        cases ha with
        | cons h1 h2 =>
          simp only [plainL, Bool.and_eq_true] at p1
          rw [ih _ h2 p1.2]
          congr 1
          exact h1.plain_eq p1.1
    subst hargs
    have hE' : K.env w := K.still w0 w (fun i hi => r.low i (Nat.lt_of_lt_of_le hi r.n0le)) hE
    unfold setIn at h
    obtain ⟨n, s1, h1, h2⟩ := X.bind_some h
    have hn : n = s.nx ∧ s1 = s := by cases h1; exact ⟨rfl, rfl⟩
    obtain ⟨rfl, rfl⟩ := hn
    split at h2
    case h_2 => cases h2
    case h_1 us u hN hus hv =>
      obtain ⟨_, s2, h3, h4⟩ := X.bind_some h2
      obtain ⟨rfl, rfl⟩ := X.pure_some h4
      obtain ⟨e1, e2, e3⟩ := X.news_some h3
      rcases p3 w hE' (Nat.le_trans r.n0le r.b0le) with ⟨e, hob, hpl⟩ | ⟨e4, hcall⟩
      · rw [hob] at hus hv
        cases hus
        have hvv : v = R.v := by
          have hp : ∀ x, plainV x = true → ren1 (newName [] s1.nx) x = some x := fun x hx => by
            unfold plainV at hx
            split at hx <;> first | rfl | cases hx
          have hpL : ∀ l, plainL l = true → renL (newName [] s1.nx) l = some l := fun l => by
            induction l with
            | nil => intro _; rfl
            | cons x l ih =>
              intro hx
              simp only [plainL, Bool.and_eq_true] at hx
              simp only [renL, hp x hx.1, ih hx.2]
          generalize R.v = q at hv hpl
          cases q with
          | agg cs =>
            have hcs : plainL cs.toList = true := hpl
            simp only [renR, renV, hpL _ hcs] at hv
            cases hv; rfl
          | tuple cs => simp [cellsOf, plainL, plainV] at hpl
          | _ =>
            simp only [cellsOf, plainL, Bool.and_true] at hpl
            have := hp _ hpl
            simp only [renR, renV, this] at hv
            cases hv; rfl
        subst hvv
        exact .inl ⟨ρ, w, _, e, Ren.le_refl _, r.same (fun i => by rw [e3]; split <;> first | (rename_i hh; have := hh.1; have := hh.2; simp only [List.length_nil] at this; omega) | rfl) rfl rfl rfl, VRel.ofCells hpl⟩
      · refine .inr ⟨e4, hcall.mono ?_⟩
        rintro e w' ⟨ρ', h', v', rfl, hr, hv', hob⟩
        obtain ⟨ρ2, g1, g2, g3⟩ := Rel.embed r hr (Nat.le_of_ble_eq_true hN) hob p2 hus e2 (h2 := s'.h) e3
        exact ⟨ρ2, v', rfl, g1, g2, renR_rel g3 hv hv'⟩
  · split at h
    case h_2 => cases h
    case h_1 fn hfn =>
      split at h
      case h_2 => cases h
      case h_1 c hc =>
        split at h
        case h_2 => cases h
        case h_1 hlen =>
          have hlen := Nat.le_of_ble_eq_true hlen
          obtain ⟨⟨x, A⟩, s1, h1, h2⟩ := X.bind_some h
          obtain ⟨B, hB, hBt⟩ := argsT_some (k := fun A => code fn.ntmps c A) (s := s) (l := args) (i := 0) (A := T.e)
          rw [hB] at h1
          have hal := ha.length
          have hent : (callFunc f ⟨args'⟩).run P w = .ok (.enter f ⟨args'⟩) w := by
            have := hF.names f fn hfn (by rw [hc]; rfl)
            simp [callFunc, hfn, this, hc]
          refine .inr ⟨hent, calls_of_wp_defers hfn hc ?_⟩
          have hAB : ARel P fn.ntmps ρ B { tmps := (⟨args'⟩ : Array Value) ++ Array.replicate (fn.ntmps - (⟨args'⟩ : Array Value).size) undef, defers := [] } := by
            refine ⟨by simp; omega, fun d hd => (by cases hd), fun t u hu => ?_⟩
            rw [hBt t] at hu
            split at hu
            · rename_i hlt
              obtain ⟨u', e1, e2⟩ := ha.get hu
              have : t < args'.length := by omega
              rw [Nat.sub_zero] at e1
              simp only [Array.getD_eq_getD_getElem?, Array.getElem?_append, List.size_toArray, this, if_true, List.getElem?_toArray, e1, Option.getD_some]
              exact e2
            · rw [T.get_e] at hu; cases hu
          refine wpK_wp (hs fn.ntmps c B A x s s1 ρ w _ _ r hAB h1 fun ρ1 w1 a1 l1 r1 q1 => ?_)
          have fin : ((resX P A fn.results.toList).bind fun l => X.pure (resV l)).run s1 = some (v, s') → Leaves P fn a1.tmps (fun e w' => ∃ ρ' v', e = .returned v' ∧ ρ.le ρ' ∧ Rel N0 b0 w0 ρ' s'.h w' ∧ VRel ρ' v v') a1.defers .returning w1 := fun h3 => by
            obtain ⟨l, s2, h4, h5⟩ := X.bind_some h3
            obtain ⟨rfl, rfl⟩ := X.pure_some h5
            obtain ⟨e, v', e1, e2⟩ := results_ok q1 r1 h4
            exact leaves_idle e1 ⟨ρ1, v', rfl, l1, e ▸ r1, e2⟩ _ q1.defers
          cases x with
          | exit i => cases h2
          | normal => exact fin h2
          | ret => exact fin h2

theorem exe_ok {K : Known P N0} (hF : Fit P) (hE : K.env w0) : ∀ k, CallOk P N0 b0 w0 (exe P N0 K k).1 ∧ CodeOk P N0 b0 w0 k (exe P N0 K k).2
  | 0 => ⟨⟨fun _ _ _ _ _ _ _ _ _ _ h => (by cases h), K.idleOk⟩, fun _ _ _ _ _ _ _ _ _ _ _ _ _ h => (by cases h)⟩
  | k + 1 => ⟨⟨callF_ok hF hE (exe_ok hF hE k).2, K.idleOk⟩, codeF_ok hF.mixed (exe_ok hF hE k).1 (exe_ok hF hE k).2⟩
end
end Go.Rx
