/- Code and functions: a short run that ends says how the real call ends. The short run once more, read off the code once and for all: the same run, quicker. Runs put to use: results compared, a function's code taken piece by piece. A chain of code taken piece by piece, and regions of plain operations at values that are not known. -/
import Derived.Test.YtpfjakcfjpgbmaaGreatDoorZN7
import Derived.Scope
namespace Go.Rx
set_option linter.unusedVariables false
set_option linter.unusedSimpArgs false
noncomputable section
variable {P : Program} {N0 b0 : Nat} {w0 : World} {ρ : Ren} {w : World}

inductive Ex where
  | normal
  | exit (id : Nat)
  | ret
def Ex.to : Ex → Exit
  | .normal => .normal
  | .exit id => .exit id
  | .ret => .ret

/-- What is known of calls that are not run: what they give, by their arguments. -/
structure Known (P : Program) (N0 : Nat) where
  /-- what is known of the variables -/
  env : World → Prop
  still : ∀ w w' : World, (∀ i, i < N0 → w'.heap[i]? = w.heap[i]?) → env w → env w'
  fn : FuncId → Option (List Value → Option Ret)
  ok : ∀ (f : FuncId) (g : List Value → Option Ret), fn f = some g → ∀ args R, g args = some R → plainL args = true ∧ (∀ (k k' i : Nat) (o o' : AObj), R.objs[k]? = some (i, o) → R.objs[k']? = some (i, o') → k = k') ∧
    ∀ w : World, env w → N0 ≤ w.heap.size →
      ((callFunc f ⟨args⟩).run P w = .ok (.value R.v) w ∧ R.objs = [] ∧ plainL (cellsOf R.v) = true) ∨
      ((callFunc f ⟨args⟩).run P w = .ok (.enter f ⟨args⟩) w ∧ Calls P f ⟨args⟩ w fun e w' => ∃ ρ' h' v', e = .returned v' ∧ Rel N0 w.heap.size w ρ' h' w' ∧ VRel ρ' R.v v' ∧ ∀ (k i : Nat) (o : AObj), R.objs[k]? = some (i, o) → N0 ≤ i ∧ h'.get i = some o)
  idle : FuncId → Option Nat
  idleOk : IdleOk P idle
  /-- calls that an operation of our own answers -/
  op : FuncId → Option (List Value → X Value)
  opOk : ∀ (b0 : Nat) (w0 : World), env w0 → ∀ (f : FuncId) (m : List Value → X Value), op f = some m → ∀ (args args' : List Value) (s s' : St) (v : Value) (ρ : Ren) (w : World),
    Rel N0 b0 w0 ρ s.h w → VRels ρ args args' → (m args).run s = some (v, s') → CallGood P N0 b0 w0 ρ s' v f args' w
def noOp : FuncId → Option (List Value → X Value) := fun _ => none
theorem noOp_ok {env : World → Prop} : ∀ (b0 : Nat) (w0 : World), env w0 → ∀ (f : FuncId) (m : List Value → X Value), noOp f = some m → ∀ (args args' : List Value) (s s' : St) (v : Value) (ρ : Ren) (w : World),
    Rel N0 b0 w0 ρ s.h w → VRels ρ args args' → (m args).run s = some (v, s') → CallGood P N0 b0 w0 ρ s' v f args' w := fun _ _ _ _ _ h => by cases h

abbrev CodeX := Nat → Code → Tm → X (Ex × Tm)
def codeF (P : Program) (N0 : Nat) (call : CallX) (self : CodeX) (n : Nat) (c : Code) (A : Tm) : X (Ex × Tm) := match c with
  | .skip => X.pure (.normal, A)
  | .label _ => X.pure (.normal, A)
  | .region _ ops d => match d with
    | false => (opsX P N0 call n ops.toList ops.toList A).bind fun A => X.pure (.normal, A)
    | true => (drawX P N0 call n ops A).bind fun A => X.pure (.normal, A)
  | .seq a b => (self n a A).bind fun p => match p with
    | (.normal, A) => self n b A
    | p => X.pure p
  | .cond c a b => match ev N0 A c with
    | some (.bool true) => self n a A
    | some (.bool false) => self n b A
    | _ => X.fail
  | .block id b => (self n b A).bind fun p => match p with
    | (.exit i, A) => match Nat.beq i id with
      | true => X.pure (.normal, A)
      | false => X.pure (.exit i, A)
    | p => X.pure p
  | .loop b => (self n b A).bind fun p => match p with
    | (.normal, A) => self n (.loop b) A
    | p => X.pure p
  | .scope b => self n b A
  | .exit id => X.pure (.exit id, A)
  | .ret => X.pure (.ret, A)
  | _ => X.fail

def argsT : List Value → Nat → Tm → (Tm → X (Ex × Tm)) → X (Ex × Tm)
  | [], _, A, k => k A
  | v :: l, i, A, k => T.setK A i v fun A => argsT l (i + 1) A k
def resX (P : Program) (A : Tm) : List ResultVar → X (List Value)
  | [] => X.pure []
  | .tmp t :: l => match A.get t with
    | some v => (resX P A l).bind fun l => X.pure (v :: l)
    | none => X.fail
  | .cell a t :: l => match A.get a with
    | some x => (xload P t x).bind fun v => (resX P A l).bind fun l => X.pure (v :: l)
    | none => X.fail
def resV : List Value → Value
  | [v] => v
  | l => .tuple ⟨l⟩
def setIn (N0 : Nat) (R : Ret) : X Value := X.nxt.bind fun n => match Nat.ble N0 n, renOs (newName R.objs n) R.objs, renR (newName R.objs n) R.v with
  | true, some us, some v => (X.news us).bind fun _ => X.pure v
  | _, _, _ => X.fail
def callF (P : Program) {N0 : Nat} (K : Known P N0) (code : CodeX) (f : FuncId) (args : List Value) : X Value := match (K.fn f).bind fun g => g args with
  | some R => setIn N0 R
  | none => match K.op f with
    | some m => m args
    | none => match P.funcs[f]? with
      | some fn => match fn.body with
        | some c => match Nat.ble args.length fn.ntmps with
          | true => (argsT args 0 .e fun A => code fn.ntmps c A).bind fun p => match p with
            | (.exit _, _) => X.fail
            | (_, A) => (resX P A fn.results.toList).bind fun l => X.pure (resV l)
          | false => X.fail
        | none => X.fail
      | none => X.fail
def exe (P : Program) (N0 : Nat) (K : Known P N0) : Nat → CallX × CodeX
  | 0 => (⟨fun _ _ => X.fail, K.idle⟩, fun _ _ _ => X.fail)
  | k + 1 => (⟨callF P K (exe P N0 K k).2, K.idle⟩, codeF P N0 (exe P N0 K k).1 (exe P N0 K k).2)

/-- A loop is told by its rounds. -/
def wpK (P : Program) (k : Nat) (c : Code) (Q : Exit → Act → World → Prop) (a : Act) (w : World) : Prop := match c with
  | .loop b => Code.rounds P b Q k a w
  | c => c.wp P Q a w
theorem wpK_wp {k : Nat} {c : Code} {Q : Exit → Act → World → Prop} {a : Act} {w : World} (h : wpK P k c Q a w) : c.wp P Q a w := by
  unfold wpK at h
  split at h
  · exact wp_loop_rounds k h
  · exact h
def CodeOk (P : Program) (N0 b0 : Nat) (w0 : World) (k : Nat) (code : CodeX) : Prop := ∀ (n : Nat) (c : Code) (A A' : Tm) (x : Ex) (s s' : St) (ρ : Ren) (w : World) (a : Act) (Q : Exit → Act → World → Prop),
  Rel N0 b0 w0 ρ s.h w → ARel P n ρ A a → (code n c A).run s = some ((x, A'), s') → (∀ ρ' w' a', ρ.le ρ' → Rel N0 b0 w0 ρ' s'.h w' → ARel P n ρ' A' a' → Q x.to a' w') → wpK P k c Q a w

theorem codeF_ok {call : CallX} {self : CodeX} {k : Nat} (hm : P.follows .mixedOrders = true) (hc : CallOk P N0 b0 w0 call) (hs : CodeOk P N0 b0 w0 k self) : CodeOk P N0 b0 w0 (k + 1) (codeF P N0 call self) := by
  intro n c A A' x s s' ρ w a Q r hA h hQ
  have S : ∀ (c : Code) (A A' : Tm) (x : Ex) (s s' : St) (ρ : Ren) (w : World) (a : Act) (Q : Exit → Act → World → Prop),
      Rel N0 b0 w0 ρ s.h w → ARel P n ρ A a → (self n c A).run s = some ((x, A'), s') → (∀ ρ' w' a', ρ.le ρ' → Rel N0 b0 w0 ρ' s'.h w' → ARel P n ρ' A' a' → Q x.to a' w') → c.wp P Q a w :=
    fun c A A' x s s' ρ w a Q r hA h hQ => wpK_wp (hs n c A A' x s s' ρ w a Q r hA h hQ)
  unfold codeF at h
  split at h
  · obtain ⟨e, rfl⟩ := X.pure_some h
    cases e
    exact wp_skip (hQ ρ w a (Ren.le_refl _) r hA)
  · obtain ⟨e, rfl⟩ := X.pure_some h
    cases e
    exact wp_label (hQ ρ w a (Ren.le_refl _) r hA)
  · rename_i id ops d
    split at h
    · obtain ⟨A1, s1, h1, h2⟩ := X.bind_some h
      obtain ⟨e, rfl⟩ := X.pure_some h2
      cases e
      refine wp_region ?_
      have := opsX_ok hc (Q := Q) ops.toList 0 A A' a s s' ρ w rfl r hA h1 hQ
      rwa [Array.length_toList, ← List.range_eq_range'] at this
    · obtain ⟨A1, s1, h1, h2⟩ := X.bind_some h
      obtain ⟨e, rfl⟩ := X.pure_some h2
      cases e
      exact drawX_ok hc hm r hA h1 hQ
  · rename_i c1 c2
    obtain ⟨⟨x1, A1⟩, s1, h1, h2⟩ := X.bind_some h
    refine wp_seq ?_
    split at h2
    · rename_i heq
      cases heq
      exact S c1 A A1 .normal s s1 ρ w a _ r hA h1 fun ρ1 w1 a1 l1 r1 q1 => S c2 A1 A' x s1 s' ρ1 w1 a1 Q r1 q1 h2 fun ρ2 w2 a2 l2 => hQ ρ2 w2 a2 (Ren.le_trans l1 l2)
    · rename_i hne
      obtain ⟨e, rfl⟩ := X.pure_some h2
      cases e
      refine S c1 A A' x s s' ρ w a _ r hA h1 fun ρ1 w1 a1 l1 r1 q1 => ?_
      have := hQ ρ1 w1 a1 l1 r1 q1
      cases x with
      | normal => exact absurd rfl (hne A')
      | exit i => exact this
      | ret => exact this
  · rename_i cnd c1 c2
    split at h
    · rename_i hcnd
      have hv := (hA.ev r [cnd]) cnd (by simp) _ hcnd
      generalize hq : a.eval cnd = q at hv
      cases hv
      exact wp_cond_true hq (S c1 A A' x s s' ρ w a Q r hA h hQ)
    · rename_i hcnd
      have hv := (hA.ev r [cnd]) cnd (by simp) _ hcnd
      generalize hq : a.eval cnd = q at hv
      cases hv
      exact wp_cond_false hq (S c2 A A' x s s' ρ w a Q r hA h hQ)
    · cases h
  · rename_i id b
    obtain ⟨⟨x1, A1⟩, s1, h1, h2⟩ := X.bind_some h
    refine wp_block ?_
    split at h2
    · rename_i i A2 heq
      cases heq
      split at h2
      · rename_i hid
        have hid := Nat.eq_of_beq_eq_true hid
        obtain ⟨e, rfl⟩ := X.pure_some h2
        cases e
        refine S b A A' (.exit i) s s' ρ w a _ r hA h1 fun ρ1 w1 a1 l1 r1 q1 => ?_
        show if i = id then Q .normal a1 w1 else Q (.exit i) a1 w1
        rw [if_pos hid]
        exact hQ ρ1 w1 a1 l1 r1 q1
      · rename_i hid
        have hid : i ≠ id := fun e => by rw [e, Nat.beq_refl] at hid; cases hid
        obtain ⟨e, rfl⟩ := X.pure_some h2
        cases e
        refine S b A A' (.exit i) s s' ρ w a _ r hA h1 fun ρ1 w1 a1 l1 r1 q1 => ?_
        show if i = id then Q .normal a1 w1 else Q (.exit i) a1 w1
        rw [if_neg hid]
        exact hQ ρ1 w1 a1 l1 r1 q1
    · rename_i hne
      obtain ⟨e, rfl⟩ := X.pure_some h2
      cases e
      refine S b A A' x s s' ρ w a _ r hA h1 fun ρ1 w1 a1 l1 r1 q1 => ?_
      have := hQ ρ1 w1 a1 l1 r1 q1
      cases x with
      | normal => exact this
      | exit i => exact absurd rfl (hne i A')
      | ret => exact this
  · rename_i b
    obtain ⟨⟨x1, A1⟩, s1, h1, h2⟩ := X.bind_some h
    show Code.rounds P b Q (k + 1) a w
    rw [rounds_succ]
    split at h2
    · rename_i heq
      cases heq
      refine S b A A1 .normal s s1 ρ w a _ r hA h1 fun ρ1 w1 a1 l1 r1 q1 => ?_
      exact hs n (.loop b) A1 A' x s1 s' ρ1 w1 a1 Q r1 q1 h2 fun ρ2 w2 a2 l2 => hQ ρ2 w2 a2 (Ren.le_trans l1 l2)
    · rename_i hne
      obtain ⟨e, rfl⟩ := X.pure_some h2
      cases e
      refine S b A A' x s s' ρ w a _ r hA h1 fun ρ1 w1 a1 l1 r1 q1 => ?_
      have := hQ ρ1 w1 a1 l1 r1 q1
      cases x with
      | normal => exact absurd rfl (hne A')
      | exit i => exact this
      | ret => exact this
  · rename_i b
    refine wp_scope_straight (S b A A' x s s' ρ w a _ r hA h fun ρ1 w1 a1 l1 r1 q1 => ?_)
    have := hQ ρ1 w1 a1 l1 r1 q1
    cases x <;> exact this
  · obtain ⟨e, rfl⟩ := X.pure_some h
    cases e
    exact wp_exit (hQ ρ w a (Ren.le_refl _) r hA)
  · obtain ⟨e, rfl⟩ := X.pure_some h
    cases e
    exact wp_ret (hQ ρ w a (Ren.le_refl _) r hA)
  · cases h

theorem argsT_some {k : Tm → X (Ex × Tm)} {s : St} : ∀ {l : List Value} {i : Nat} {A : Tm}, ∃ B : Tm, argsT l i A k = k B ∧ ∀ t, B.get t = if i ≤ t ∧ t < i + l.length then l[t - i]? else A.get t := by
  intro l
  induction l with
  | nil => intro i A; exact ⟨A, rfl, fun t => (if_neg fun hh => by have h1 := hh.1; have h2 := hh.2; rw [List.length_nil] at h2; omega).symm⟩
  | cons v l ih =>
    intro i A
    obtain ⟨B, h1, h2⟩ := ih (i := i + 1) (A := A.set i v)
    refine ⟨B, by rw [argsT, T.setK_eq]; exact h1, fun t => ?_⟩
    rw [h2 t, T.get_set]
    simp only [List.length_cons]
    by_cases h : i = t
    · subst h
      rw [if_neg (by omega), if_pos rfl, if_pos (by omega)]
      simp
    · rw [if_neg h]
      by_cases h3 : i + 1 ≤ t ∧ t < i + 1 + l.length
      · rw [if_pos h3, if_pos (by omega), show t - i = (t - (i + 1)) + 1 from by omega]
        rfl
      · rw [if_neg h3, if_neg (by omega)]
def resS (tmps : Array Value) : ResultVar → Sem Value
  | .tmp t => pure (tmps.getD t undef)
  | .cell x t => do loadVar t (← asAddr (tmps.getD x undef))
theorem resX_ok {n : Nat} {A : Tm} {a : Act} (hA : ARel P n ρ A a) : ∀ {rs : List ResultVar} {l : List Value} {s s' : St}, Rel N0 b0 w0 ρ s.h w → (resX P A rs).run s = some (l, s') →
    s'.h = s.h ∧ ∃ l', (rs.mapM (resS a.tmps)).run P w = .ok l' w ∧ VRels ρ l l' := by
  intro rs
  induction rs with
  | nil =>
    intro l s s' r h
    obtain ⟨rfl, rfl⟩ := X.pure_some h
    exact ⟨rfl, [], rfl, .nil⟩
  | cons y rs ih =>
    intro l s s' r h
    cases y with
    | tmp t =>
      simp only [resX] at h
      split at h
      case h_2 => cases h
      case h_1 v hv =>
        obtain ⟨l2, s1, h1, h2⟩ := X.bind_some h
        obtain ⟨rfl, rfl⟩ := X.pure_some h2
        obtain ⟨e, l', e1, e2⟩ := ih r h1
        refine ⟨e, a.tmps.getD t undef :: l', ?_, .cons (hA.tmp t v hv) e2⟩
        simp only [List.mapM_cons, Sem.run_bind, resS, Sem.run_pure, Result.andThen_ok, e1]
    | cell x t =>
      simp only [resX] at h
      split at h
      case h_2 => cases h
      case h_1 p hp =>
        obtain ⟨v, s0, h0, h⟩ := X.bind_some h
        obtain ⟨l2, s1, h1, h2⟩ := X.bind_some h
        obtain ⟨rfl, rfl⟩ := X.pure_some h2
        obtain ⟨hs0, ad, v', hq, e0, hv⟩ := xload_at r (hA.tmp x p hp) h0
        obtain ⟨e, l', e1, e2⟩ := ih (hs0 ▸ r) h1
        refine ⟨e.trans hs0, v' :: l', ?_, .cons hv e2⟩
        simp only [List.mapM_cons, Sem.run_bind, resS, hq, asAddr, Sem.run_pure, Result.andThen_ok, e0, e1]
theorem results_ok {fn : Func} {n : Nat} {A : Tm} {a : Act} (hA : ARel P n ρ A a) {l : List Value} {s s' : St} (r : Rel N0 b0 w0 ρ s.h w) (h : (resX P A fn.results.toList).run s = some (l, s')) :
    s'.h = s.h ∧ ∃ v', (results fn a.tmps).run P w = .ok v' w ∧ VRel ρ (resV l) v' := by
  obtain ⟨e, l', e1, e2⟩ := resX_ok hA r h
  refine ⟨e, resV l', ?_, ?_⟩
  · have hr : results fn a.tmps = (do let vs ← fn.results.mapM (resS a.tmps); pure (if h : vs.size = 1 then vs[0] else .tuple vs)) := by
      unfold results
      congr 1
    rw [hr, Array.mapM_eq_mapM_toList]
    simp only [Sem.run_bind, Sem.run_map, e1, Result.andThen_ok, Sem.run_pure]
    match l' with
    | [] => rfl
    | [v] => rfl
    | v :: u :: l => rfl
  · match l, l', e2 with
    | [], _, .nil => exact .tuple .nil
    | [_], _, .cons h .nil => exact h
    | _ :: _ :: _, _, .cons h1 (.cons h2 h3) => exact .tuple (.cons h1 (.cons h2 h3))

/-- What must hold of the program once. -/
structure Fit (P : Program) : Prop where
  mixed : P.follows .mixedOrders = true
  names : ∀ (f : FuncId) (fn : Func), P.funcs[f]? = some fn → fn.body.isSome = true → fn.name ≠ "runtime.NumGoroutine"

theorem VRel.plain_eq {v v' : Value} (h : VRel ρ v v') (hp : plainV v = true) : v' = v := by
  cases h <;> first | rfl | cases hp
theorem callF_ok {K : Known P N0} {code : CodeX} {k : Nat} (hF : Fit P) (hE : K.env w0) (hs : CodeOk P N0 b0 w0 k code) : RunOk P N0 b0 w0 (callF P K code) := by
  intro f args args' s s' v ρ w r ha h
  unfold callF at h
  split at h
  · rename_i R hR
    obtain ⟨g, hg, hu⟩ := Option.bind_eq_some_iff.1 hR
    obtain ⟨p1, p2, p3⟩ := K.ok f g hg args R hu
    have hargs : args' = args := by
      clear p3 h hu hR
      induction args generalizing args' with
      | nil => cases ha; rfl
      | cons x l ih =>
        cases ha with
        | cons h1 h2 =>
          simp only [plainL, Bool.and_eq_true] at p1
          rw [ih _ h2 p1.2]
          congr 1
          exact h1.plain_eq p1.1
    subst hargs
    have hE' : K.env w := K.still w0 w (fun i hi => r.low i (Nat.lt_of_lt_of_le hi r.n0le)) hE
    unfold setIn at h
    obtain ⟨n, s1, h1, h2⟩ := X.bind_some h
    have hn : n = s.nx ∧ s1 = s := by cases h1; exact ⟨rfl, rfl⟩
    obtain ⟨rfl, rfl⟩ := hn
    split at h2
    case h_2 => cases h2
    case h_1 us u hN hus hv =>
      obtain ⟨_, s2, h3, h4⟩ := X.bind_some h2
      obtain ⟨rfl, rfl⟩ := X.pure_some h4
      obtain ⟨e1, e2, e3⟩ := X.news_some h3
      rcases p3 w hE' (Nat.le_trans r.n0le r.b0le) with ⟨e, hob, hpl⟩ | ⟨e4, hcall⟩
      · rw [hob] at hus hv
        cases hus
        have hvv : v = R.v := by
          have hp : ∀ x, plainV x = true → ren1 (newName [] s1.nx) x = some x := fun x hx => by
            unfold plainV at hx
            split at hx <;> first | rfl | cases hx
          have hpL : ∀ l, plainL l = true → renL (newName [] s1.nx) l = some l := fun l => by
            induction l with
            | nil => intro _; rfl
            | cons x l ih =>
              intro hx
              simp only [plainL, Bool.and_eq_true] at hx
              simp only [renL, hp x hx.1, ih hx.2]
          generalize R.v = q at hv hpl
          cases q with
          | agg cs =>
            have hcs : plainL cs.toList = true := hpl
            simp only [renR, renV, hpL _ hcs] at hv
            cases hv; rfl
          | tuple cs => simp [cellsOf, plainL, plainV] at hpl
          | _ =>
            simp only [cellsOf, plainL, Bool.and_true] at hpl
            have := hp _ hpl
            simp only [renR, renV, this] at hv
            cases hv; rfl
        subst hvv
        exact .inl ⟨ρ, w, _, e, Ren.le_refl _, r.same (fun i => by rw [e3]; split <;> first | (rename_i hh; have := hh.1; have := hh.2; simp only [List.length_nil] at this; omega) | rfl) rfl rfl rfl, VRel.ofCells hpl⟩
      · refine .inr ⟨e4, hcall.mono ?_⟩
        rintro e w' ⟨ρ', h', v', rfl, hr, hv', hob⟩
        obtain ⟨ρ2, g1, g2, g3⟩ := Rel.embed r hr (Nat.le_of_ble_eq_true hN) hob p2 hus e2 (h2 := s'.h) e3
        exact ⟨ρ2, v', rfl, g1, g2, renR_rel g3 hv hv'⟩
  · split at h
    · rename_i m hm
      exact K.opOk b0 w0 hE f m hm args args' s s' v ρ w r ha h
    · split at h
      case h_2 => cases h
      case h_1 fn hfn =>
        split at h
        case h_2 => cases h
        case h_1 c hc =>
          split at h
          case h_2 => cases h
          case h_1 hlen =>
            have hlen := Nat.le_of_ble_eq_true hlen
            obtain ⟨⟨x, A⟩, s1, h1, h2⟩ := X.bind_some h
            obtain ⟨B, hB, hBt⟩ := argsT_some (k := fun A => code fn.ntmps c A) (s := s) (l := args) (i := 0) (A := T.e)
            rw [hB] at h1
            have hal := ha.length
            have hent : (callFunc f ⟨args'⟩).run P w = .ok (.enter f ⟨args'⟩) w := by
              have := hF.names f fn hfn (by rw [hc]; rfl)
              simp [callFunc, hfn, this, hc]
            refine .inr ⟨hent, calls_of_wp_defers hfn hc ?_⟩
            have hAB : ARel P fn.ntmps ρ B { tmps := (⟨args'⟩ : Array Value) ++ Array.replicate (fn.ntmps - (⟨args'⟩ : Array Value).size) undef, defers := [] } := by
              refine ⟨by simp; omega, fun d hd => (by cases hd), fun t u hu => ?_⟩
              rw [hBt t] at hu
              split at hu
              · rename_i hlt
                obtain ⟨u', e1, e2⟩ := ha.get hu
                have : t < args'.length := by omega
                rw [Nat.sub_zero] at e1
                simp only [Array.getD_eq_getD_getElem?, Array.getElem?_append, List.size_toArray, this, if_true, List.getElem?_toArray, e1, Option.getD_some]
                exact e2
              · rw [T.get_e] at hu; cases hu
            refine wpK_wp (hs fn.ntmps c B A x s s1 ρ w _ _ r hAB h1 fun ρ1 w1 a1 l1 r1 q1 => ?_)
            have fin : ((resX P A fn.results.toList).bind fun l => X.pure (resV l)).run s1 = some (v, s') → Leaves P fn a1.tmps (fun e w' => ∃ ρ' v', e = .returned v' ∧ ρ.le ρ' ∧ Rel N0 b0 w0 ρ' s'.h w' ∧ VRel ρ' v v') a1.defers .returning w1 := fun h3 => by
              obtain ⟨l, s2, h4, h5⟩ := X.bind_some h3
              obtain ⟨rfl, rfl⟩ := X.pure_some h5
              obtain ⟨e, v', e1, e2⟩ := results_ok q1 r1 h4
              exact leaves_idle e1 ⟨ρ1, v', rfl, l1, e ▸ r1, e2⟩ _ q1.defers
            cases x with
            | exit i => cases h2
            | normal => exact fin h2
            | ret => exact fin h2

theorem exe_ok {K : Known P N0} (hF : Fit P) (hE : K.env w0) : ∀ k, CallOk P N0 b0 w0 (exe P N0 K k).1 ∧ CodeOk P N0 b0 w0 k (exe P N0 K k).2
  | 0 => ⟨⟨fun _ _ _ _ _ _ _ _ _ _ h => (by cases h), K.idleOk⟩, fun _ _ _ _ _ _ _ _ _ _ _ _ _ h => (by cases h)⟩
  | k + 1 => ⟨⟨callF_ok hF hE (exe_ok hF hE k).2, K.idleOk⟩, codeF_ok hF.mixed (exe_ok hF hE k).1 (exe_ok hF hE k).2⟩
end
end Go.Rx

namespace Go.Rx
set_option linter.unusedVariables false
set_option linter.unusedSimpArgs false
noncomputable section
variable {P : Program} {N0 : Nat}

theorem X.ext {α : Type} {a b : X α} (h : ∀ s, a.run s = b.run s) : a = b := by
  obtain ⟨f, hf⟩ := a
  obtain ⟨g, hg⟩ := b
  have : f = g := funext h
  subst this
  rfl
theorem X.lift_bind {α β : Type} (o : Option α) (f : α → X β) : (X.lift o).bind f = match o with | some a => f a | none => X.fail := by
  apply X.ext
  intro s
  cases o <;> rfl
theorem X.pure_bind {α β : Type} (a : α) (f : α → X β) : (X.pure a).bind f = f a := X.ext fun _ => rfl

/-- An operation read: what it yields of the slots alone, or what it does. -/
inductive Dk where
  | pure (f : Tm → Option Value)
  | eff (f : CallX → Tm → X Value)
structure Dec where
  k : Dk
def zPick (N0 : Nat) (c a b : Operand) (A : Tm) : Option Value := match ev N0 A c with
  | some (.bool true) => ev N0 A a
  | some (.bool false) => ev N0 A b
  | _ => none
def zLoad (P : Program) (N0 : Nat) (t : TypeId) (a : Operand) (_ : CallX) (A : Tm) : X Value := match ev N0 A a with
  | some v => xload P t v
  | none => X.fail
def zBox (N0 : Nat) (t : TypeId) (x : Operand) (_ : CallX) (A : Tm) : X Value := match ev N0 A x with
  | some v => xbox N0 t v
  | none => X.fail
def zStore (P : Program) (N0 : Nat) (t : TypeId) (a x : Operand) (_ : CallX) (A : Tm) : X Value := match ev N0 A a, ev N0 A x with
  | some v, some x => (xstore P N0 t v x).bind fun _ => X.pure undef
  | _, _ => X.fail
def zNil (P : Program) (N0 : Nat) (x : Operand) (A : Tm) : Option Value := match ev N0 A x with
  | some v => match isPtr v || isMethV P v with
    | true => some v
    | false => none
  | none => none
structure Db where
  f : Value → Value → Option Value
def bAdd : Value → Value → Option Value
  | .int k a, .int k' b => match kEq k k' with
    | false => none
    | true => mkI k (wr k (a + b))
  | x, y => xbin .add x y
def bSub : Value → Value → Option Value
  | .int k a, .int k' b => match kEq k k' with
    | false => none
    | true => mkI k (wr k (a - b))
  | _, _ => none
def bEql : Value → Value → Option Value
  | .int k a, .int k' b => match kEq k k' with
    | false => none
    | true => mkB (eqI a b)
  | .string a, .string b => mkB (eqL a.data.toList b.data.toList)
  | _, _ => none
def bNeq : Value → Value → Option Value
  | .int k a, .int k' b => match kEq k k' with
    | false => none
    | true => mkB (!eqI a b)
  | .string a, .string b => mkB (!eqL a.data.toList b.data.toList)
  | _, _ => none
def bLss : Value → Value → Option Value
  | .int k a, .int k' b => match kEq k k' with
    | false => none
    | true => mkB (ltI a b)
  | x, y => xbin .lss x y
def bGeq : Value → Value → Option Value
  | .int k a, .int k' b => match kEq k k' with
    | false => none
    | true => mkB (!ltI a b)
  | x, y => xbin .geq x y
def bLeq : Value → Value → Option Value
  | .int k a, .int k' b => match kEq k k' with
    | false => none
    | true => mkB (!ltI b a)
  | x, y => xbin .leq x y
def dBin (op : BinOp) : Db := match op with
  | .add => ⟨bAdd⟩
  | .sub => ⟨bSub⟩
  | .eql => ⟨bEql⟩
  | .neq => ⟨bNeq⟩
  | .lss => ⟨bLss⟩
  | .geq => ⟨bGeq⟩
  | .leq => ⟨bLeq⟩
  | op => ⟨xbin op⟩
theorem dBin_eq (op : BinOp) (x y : Value) : (dBin op).f x y = xbin op x y := by
  cases op <;> first
    | rfl
    | (cases x <;> cases y <;> rfl)
def zBin2 (P : Program) (op : BinOp) (t : TypeId) (y : Operand) (a b : Value) : X Value := match op, eqAs P t a b with
  | .eql, some r => fB r fun r => X.pure (.bool r)
  | .neq, some r => fB (!r) fun r => X.pure (.bool r)
  | op, _ => xnil P op t y a b
def zBin (P : Program) (N0 : Nat) (op : BinOp) (t : TypeId) (x y : Operand) (_ : CallX) (A : Tm) : X Value := match ev N0 A x, ev N0 A y with
  | some a, some b => match (dBin op).f a b with
    | some v => X.pure v
    | none => zBin2 P op t y a b
  | _, _ => X.fail
def zInA (P : Program) (N0 : Nat) (t : TypeId) (x i : Operand) (A : Tm) : Option Value := match ev N0 A x, ev N0 A i with
  | some x, some i => xindexAddr P t x i
  | _, _ => none
def zIn (P : Program) (N0 : Nat) (t : TypeId) (x i : Operand) (A : Tm) : Option Value := match ev N0 A x, ev N0 A i with
  | some x, some i => xindex P t x i
  | _, _ => none
def zFA (P : Program) (N0 : Nat) (t : TypeId) (x : Operand) (f : Nat) (A : Tm) : Option Value := match ev N0 A x with
  | some v => xfieldAddr P t v f
  | none => none
def zEx (N0 : Nat) (x : Operand) (i : Nat) (A : Tm) : Option Value := match ev N0 A x with
  | some (.tuple vs) => vs.toList[i]?
  | _ => none
def zCall (N0 : Nat) (f : Operand) (args : List Operand) (call : CallX) (A : Tm) : X Value := match ev N0 A f, evs (ev N0 A) args with
  | some (.func (.func g) a b), some l => fL (a.toList ++ (l ++ b.toList)) fun l => call.run g l
  | _, _ => X.fail
def zInv (P : Program) (N0 : Nat) (f : Operand) (name : String) (args : List Operand) (call : CallX) (A : Tm) : X Value := match ev N0 A f, evs (ev N0 A) args with
  | some (.iface t v), some l => match xmeth P t name with
    | some g => fL (v :: l) fun l => call.run g l
    | none => X.fail
  | _, _ => X.fail
def zRest (P : Program) (N0 : Nat) (o : Oper) (_ : CallX) (A : Tm) : X Value := xop P N0 (ev N0 A) o
def zBi (P : Program) (N0 : Nat) (b : Builtin) (args : List Operand) (ts : List TypeId) (_ : CallX) (A : Tm) : X Value := match evs (ev N0 A) args, b, ts with
  | some [x], .len, [t] => xlen P t x
  | some [x], .cap, [t] => xcap P t x
  | some [x, y], .append, [t, u] => xappend P N0 t u x y
  | some [x, y], .copy, [t, _] => xcopy P N0 t x y
  | some [x], .clear, [t] => xclear P N0 t x
  | some l, b, _ => X.lift (xmm b l)
  | _, _, _ => X.fail
def zDefer (N0 : Nat) (c : Call) (call : CallX) (A : Tm) : X Value := match c with
  | ⟨.value f, ⟨[]⟩, _⟩ => match ev N0 A f with
      | some (.func (.func g) ⟨[]⟩ b) => match call.idle g with
        | some m => match Nat.beq b.toList.length m && allPtr b.toList with
          | true => X.pure undef
          | false => X.fail
        | none => X.fail
      | _ => X.fail
  | _ => X.fail
/-- An operation without its guard. -/
def decOp (P : Program) (N0 : Nat) (o : Oper) : Dec := match o.op with
  | .move x => ⟨.pure fun A => ev N0 A x⟩
  | .assign x => ⟨.pure fun A => ev N0 A x⟩
  | .pick c a b => ⟨.pure (zPick N0 c a b)⟩
  | .box t x => ⟨.eff (zBox N0 t x)⟩
  | .load t a => ⟨.eff (zLoad P N0 t a)⟩
  | .store t a x => ⟨.eff (zStore P N0 t a x)⟩
  | .nilCheck x => ⟨.pure (zNil P N0 x)⟩
  | .binOp op t x y _ => ⟨.eff (zBin P N0 op t x y)⟩
  | .indexAddr t x i => ⟨.pure (zInA P N0 t x i)⟩
  | .index t x i => ⟨.pure (zIn P N0 t x i)⟩
  | .fieldAddr t x f => ⟨.pure (zFA P N0 t x f)⟩
  | .extract x i => ⟨.pure (zEx N0 x i)⟩
  | .call c => match c.callee with
    | .builtin b => ⟨.eff (zBi P N0 b c.args.toList c.argTypes.toList)⟩
    | .value f => ⟨.eff (zCall N0 f c.args.toList)⟩
    | .invoke f name => ⟨.eff (zInv P N0 f name c.args.toList)⟩
  | .defer c => ⟨.eff (zDefer N0 c)⟩
  | _ => ⟨.eff (zRest P N0 o)⟩
def Dk.go (d : Dk) (call : CallX) (A : Tm) : X Value := match d with
  | .pure f => X.lift (f A)
  | .eff f => f call A
def plainOp (P : Program) (N0 : Nat) (call : CallX) (A : Tm) (o : Oper) : X Value := match o.op with
  | .call ⟨.value f, args, _⟩ => match ev N0 A f, evs (ev N0 A) args.toList with
    | some (.func (.func g) a b), some l => fL (a.toList ++ (l ++ b.toList)) fun l => call.run g l
    | _, _ => X.fail
  | .call ⟨.invoke f name, args, _⟩ => match ev N0 A f, evs (ev N0 A) args.toList with
    | some (.iface t v), some l => match xmeth P t name with
      | some g => fL (v :: l) fun l => call.run g l
      | none => X.fail
    | _, _ => X.fail
  | .defer ⟨.value f, ⟨[]⟩, _⟩ => match ev N0 A f with
    | some (.func (.func g) ⟨[]⟩ b) => match call.idle g with
      | some m => match Nat.beq b.toList.length m && allPtr b.toList with
        | true => X.pure undef
        | false => X.fail
      | none => X.fail
    | _ => X.fail
  | _ => xop P N0 (ev N0 A) o
theorem lift_none {α : Type} : X.lift (none : Option α) = X.fail := rfl
theorem decOp_eq (call : CallX) (A : Tm) (o : Oper) : plainOp P N0 call A o = (decOp P N0 o).k.go call A := by
  obtain ⟨dst, op, ty, pos, after, guard⟩ := o
  cases op
  case pick c a b =>
    simp only [plainOp, decOp, Dk.go, zPick, xop]
    cases ev N0 A c with
    | none => rfl
    | some v => cases v <;> first | rfl | (rename_i q; cases q <;> rfl)
  case nilCheck x =>
    simp only [plainOp, decOp, Dk.go, zNil, xop]
    cases ev N0 A x with
    | none => rfl
    | some v => dsimp only; cases (isPtr v || isMethV P v) <;> rfl
  case binOp op t x y yt =>
    simp only [plainOp, decOp, Dk.go, zBin, xop, dBin_eq]
    cases ev N0 A x <;> cases ev N0 A y <;> rfl
  case indexAddr t x i =>
    simp only [plainOp, decOp, Dk.go, zInA, xop]
    cases ev N0 A x <;> cases ev N0 A i <;> rfl
  case index t x i =>
    simp only [plainOp, decOp, Dk.go, zIn, xop]
    cases ev N0 A x <;> cases ev N0 A i <;> rfl
  case fieldAddr t x i =>
    simp only [plainOp, decOp, Dk.go, zFA, xop]
    cases ev N0 A x <;> rfl
  case extract x i =>
    simp only [plainOp, decOp, Dk.go, zEx, xop]
    cases ev N0 A x with
    | none => rfl
    | some v => cases v <;> rfl
  case call c =>
    obtain ⟨callee, args, ts⟩ := c
    cases callee <;> rfl
  case defer c =>
    obtain ⟨callee, ⟨args⟩, ts⟩ := c
    cases callee <;> first
      | (cases args <;> rfl)
      | rfl
  all_goals rfl

def zIf (d : Dk) (t : Tmp) (b : Bool) (call : CallX) (A : Tm) : X Value := match A.get t with
  | some (.bool true) => match b with
    | true => d.go call A
    | false => X.pure undef
  | some (.bool false) => match b with
    | true => X.pure undef
    | false => d.go call A
  | some (.tuple _) => X.pure undef
  | _ => X.fail
/-- An operation with its guard. -/
def decX (P : Program) (N0 : Nat) (ops : List Oper) (o : Oper) : Dec := match o.guard with
  | none => decOp P N0 o
  | some (j, b) => match ops[j]? with
    | some oj => match oj.dst with
      | some t => ⟨.eff (zIf (decOp P N0 o).k t b)⟩
      | none => ⟨.eff fun _ _ => X.fail⟩
    | none => ⟨.eff fun _ _ => X.fail⟩
theorem decX_eq (call : CallX) (ops : List Oper) (A : Tm) (o : Oper) : valX P N0 call ops A o = (decX P N0 ops o).k.go call A := by
  have h1 : valX P N0 call ops A o = match wantX ops A o with
      | some true => plainOp P N0 call A o
      | some false => X.pure undef
      | none => X.fail := by
    unfold valX plainOp
    rfl
  rw [h1, decOp_eq]
  unfold wantX decX
  cases hg : o.guard with
  | none => rfl
  | some g =>
    obtain ⟨j, b⟩ := g
    dsimp only
    cases hj : ops[j]? with
    | none => rfl
    | some oj =>
      dsimp only
      cases ht : oj.dst with
      | none => rfl
      | some t =>
        show _ = zIf (decOp P N0 o).k t b call A
        unfold zIf
        dsimp only
        cases ha : T.get A t with
        | none => rfl
        | some v =>
          cases v <;> first
            | rfl
            | (rename_i c; cases c <;> cases b <;> rfl)

def putK (n : Nat) (d : Option Tmp) (A : Tm) (v : Value) (k : Tm → X Tm) : X Tm := match d with
  | none => k A
  | some d => match Nat.blt d n with
    | true => T.setK A d v k
    | false => X.fail
theorem putK_eq (n : Nat) (d : Option Tmp) (A : Tm) (v : Value) (k : Tm → X Tm) : (match doPut n A d v with | some A => k A | none => X.fail) = putK n d A v k := by
  unfold doPut putK
  cases d with
  | none => rfl
  | some d =>
    dsimp only
    cases Nat.blt d n with
    | false => rfl
    | true => dsimp only; rw [T.setK_eq, T.setK_eq]
def zDo (n : Nat) (d : Option Tmp) (k : Dk) (call : CallX) (A : Tm) (ih : Tm → X Tm) : X Tm := match k with
  | .pure f => match f A with
    | some v => putK n d A v ih
    | none => X.fail
  | .eff f => (f call A).bind fun v => putK n d A v ih
noncomputable def opsZ (P : Program) (N0 : Nat) (call : CallX) (n : Nat) (ops l : List Oper) : Tm → X Tm :=
  List.rec (fun A => X.pure A) (fun o _ ih A => zDo n o.dst (decX P N0 ops o).k call A ih) l
theorem opsZ_eq (call : CallX) (n : Nat) (ops : List Oper) : ∀ (l : List Oper) (A : Tm), opsX P N0 call n ops l A = opsZ P N0 call n ops l A
  | [], A => rfl
  | o :: l, A => by
    show (valX P N0 call ops A o).bind (fun v => match doPut n A o.dst v with | some A => opsX P N0 call n ops l A | none => X.fail) = zDo n o.dst (decX P N0 ops o).k call A fun A => opsZ P N0 call n ops l A
    have e : (fun v => match doPut n A o.dst v with | some A => opsX P N0 call n ops l A | none => X.fail) = fun v => putK n o.dst A v fun A => opsZ P N0 call n ops l A := by
      funext v
      rw [putK_eq]
      congr 1
      funext A
      exact opsZ_eq call n ops l A
    rw [e, decX_eq]
    unfold zDo Dk.go
    cases (decX P N0 ops o).k with
    | pure f => dsimp only; rw [X.lift_bind]; cases f A <;> rfl
    | eff f => rfl
noncomputable def opsMZ (P : Program) (N0 : Nat) (call : CallX) (n : Nat) (ops l : List Oper) : Tm → X (Tm × List (Nat × Nat)) :=
  List.rec (fun A => X.pure (A, [])) (fun o _ ih A => ((decX P N0 ops o).k.go call A).told.bind fun p => match doPut n A o.dst p.1 with
    | some A => (ih A).bind fun q => X.pure (q.1, p.2 :: q.2)
    | none => X.fail) l
theorem opsMZ_eq (call : CallX) (n : Nat) (ops : List Oper) : ∀ (l : List Oper) (A : Tm), opsM P N0 call n ops l A = opsMZ P N0 call n ops l A
  | [], A => rfl
  | o :: l, A => by
    show (valX P N0 call ops A o).told.bind (fun p => match doPut n A o.dst p.1 with | some A => (opsM P N0 call n ops l A).bind fun q => X.pure (q.1, p.2 :: q.2) | none => X.fail) =
      ((decX P N0 ops o).k.go call A).told.bind fun p => match doPut n A o.dst p.1 with | some A => (opsMZ P N0 call n ops l A).bind fun q => X.pure (q.1, p.2 :: q.2) | none => X.fail
    rw [decX_eq]
    congr 1
    funext p
    cases doPut n A o.dst p.1 with
    | none => rfl
    | some B => dsimp only; rw [opsMZ_eq call n ops l B]
/-- What is said of a region once. -/
structure Stat where
  ok : Bool
  bef : List Nat
def statZ (ops : Array Oper) : Stat := match statOk ops with
  | true => ⟨true, befs ops.toList []⟩
  | false => ⟨false, []⟩
noncomputable def drawZ (P : Program) (N0 : Nat) (call : CallX) (n : Nat) (ops : Array Oper) (A : Tm) : X Tm := match statZ ops with
  | ⟨true, bef⟩ => (opsMZ P N0 call n ops.toList ops.toList A).bind fun p => match allOk noc [] (bef.zip p.2) with
    | true => X.pure p.1
    | false => X.fail
  | ⟨false, _⟩ => X.fail
theorem drawZ_eq (call : CallX) (n : Nat) (ops : Array Oper) (A : Tm) : drawX P N0 call n ops A = drawZ P N0 call n ops A := by
  unfold drawX drawZ statZ
  rw [opsMZ_eq]
  cases statOk ops <;> rfl

/-- Code read. -/
structure Dc where
  f : CallX → CodeX → Nat → Tm → X (Ex × Tm)
def zNorm (A : Tm) : X (Ex × Tm) := X.pure (.normal, A)
noncomputable def zReg (P : Program) (N0 : Nat) (ops : List Oper) (call : CallX) (_ : CodeX) (n : Nat) (A : Tm) : X (Ex × Tm) := (opsZ P N0 call n ops ops A).bind zNorm
noncomputable def zDraw (P : Program) (N0 : Nat) (ops : Array Oper) (call : CallX) (_ : CodeX) (n : Nat) (A : Tm) : X (Ex × Tm) := (drawZ P N0 call n ops A).bind zNorm
def zSeq2 (b : Code) (self : CodeX) (n : Nat) (p : Ex × Tm) : X (Ex × Tm) := match p with
  | (.normal, A) => self n b A
  | p => X.pure p
def zSeq (a b : Code) (_ : CallX) (self : CodeX) (n : Nat) (A : Tm) : X (Ex × Tm) := (self n a A).bind (zSeq2 b self n)
def zCond (N0 : Nat) (c : Operand) (a b : Code) (_ : CallX) (self : CodeX) (n : Nat) (A : Tm) : X (Ex × Tm) := match ev N0 A c with
  | some (.bool true) => self n a A
  | some (.bool false) => self n b A
  | _ => X.fail
def zBlk2 (id : Nat) (p : Ex × Tm) : X (Ex × Tm) := match p with
  | (.exit i, A) => match Nat.beq i id with
    | true => X.pure (.normal, A)
    | false => X.pure (.exit i, A)
  | p => X.pure p
def zBlk (id : Nat) (b : Code) (_ : CallX) (self : CodeX) (n : Nat) (A : Tm) : X (Ex × Tm) := (self n b A).bind (zBlk2 id)
def zLoop (b : Code) (_ : CallX) (self : CodeX) (n : Nat) (A : Tm) : X (Ex × Tm) := (self n b A).bind (zSeq2 (.loop b) self n)
noncomputable def decC (P : Program) (N0 : Nat) (c : Code) : Dc := match c with
  | .skip => ⟨fun _ _ _ A => X.pure (.normal, A)⟩
  | .label _ => ⟨fun _ _ _ A => X.pure (.normal, A)⟩
  | .region _ ops d => match d with
    | false => ⟨zReg P N0 ops.toList⟩
    | true => ⟨zDraw P N0 ops⟩
  | .seq a b => ⟨zSeq a b⟩
  | .cond c a b => ⟨zCond N0 c a b⟩
  | .block id b => ⟨zBlk id b⟩
  | .loop b => ⟨zLoop b⟩
  | .scope b => ⟨fun _ self n A => self n b A⟩
  | .exit id => ⟨fun _ _ _ A => X.pure (.exit id, A)⟩
  | .ret => ⟨fun _ _ _ A => X.pure (.ret, A)⟩
  | _ => ⟨fun _ _ _ _ => X.fail⟩
theorem decC_eq (call : CallX) (self : CodeX) (n : Nat) (c : Code) (A : Tm) : codeF P N0 call self n c A = (decC P N0 c).f call self n A := by
  cases c
  case region id ops d =>
    cases d
    · show (opsX P N0 call n ops.toList ops.toList A).bind _ = (opsZ P N0 call n ops.toList ops.toList A).bind _
      rw [opsZ_eq]
      rfl
    · show (drawX P N0 call n ops A).bind _ = (drawZ P N0 call n ops A).bind _
      rw [drawZ_eq]
      rfl
  all_goals rfl
noncomputable def exeZ (P : Program) (N0 : Nat) (K : Known P N0) (k : Nat) : CallX × CodeX :=
  Nat.rec (⟨fun _ _ => X.fail, K.idle⟩, fun _ _ _ => X.fail) (fun _ p => (⟨callF P K p.2, K.idle⟩, fun n c A => (decC P N0 c).f p.1 p.2 n A)) k
theorem exeZ_eq (K : Known P N0) : ∀ k, exe P N0 K k = exeZ P N0 K k
  | 0 => rfl
  | k + 1 => by
    show (⟨callF P K (exe P N0 K k).2, K.idle⟩, codeF P N0 (exe P N0 K k).1 (exe P N0 K k).2) = ((⟨callF P K (exeZ P N0 K k).2, K.idle⟩, fun n c A => (decC P N0 c).f (exeZ P N0 K k).1 (exeZ P N0 K k).2 n A) : CallX × CodeX)
    rw [exeZ_eq K k]
    congr 1
    funext n c A
    exact decC_eq _ _ n c A
end
end Go.Rx

namespace Go.Rx
set_option linter.unusedVariables false
set_option linter.unusedSimpArgs false

def sm1 (a b : Value) : Bool := match a with
  | .bool x => match b with
    | .bool y => match x with
      | true => y
      | false => !y
    | _ => false
  | .int k n => match b with
    | .int k' n' => match kEq k k' with
      | true => eqI n n'
      | false => false
    | _ => false
  | .string s => match b with
    | .string t => eqL s.data.toList t.data.toList
    | _ => false
  | .pointer none => match b with
    | .pointer none => true
    | _ => false
  | .pointer (some ⟨i, o, none⟩) => match b with
    | .pointer (some ⟨j, o', none⟩) => match Nat.beq i j with
      | true => Nat.beq o o'
      | false => false
    | _ => false
  | .slice none l c => match b with
    | .slice none l' c' => match Nat.beq l l' with
      | true => Nat.beq c c'
      | false => false
    | _ => false
  | .slice (some ⟨i, o, none⟩) l c => match b with
    | .slice (some ⟨j, o', none⟩) l' c' => match Nat.beq i j, Nat.beq o o', Nat.beq l l' with
      | true, true, true => Nat.beq c c'
      | _, _, _ => false
    | _ => false
  | .map none => match b with
    | .map none => true
    | _ => false
  | .map (some i) => match b with
    | .map (some j) => Nat.beq i j
    | _ => false
  | .func (.func f) ⟨[]⟩ ⟨[]⟩ => match b with
    | .func (.func g) ⟨[]⟩ ⟨[]⟩ => Nat.beq f g
    | _ => false
  | .nilFunc => match b with
    | .nilFunc => true
    | _ => false
  | .nilIface => match b with
    | .nilIface => true
    | _ => false
  | _ => false
theorem sm1_eq {a b : Value} (h : sm1 a b = true) : a = b := by
  unfold sm1 at h
  split at h
  · split at h
    · rename_i x _ y
      cases x <;> cases y <;> first | rfl | cases h
    · cases h
  · split at h
    · split at h
      · rename_i hk
        rw [eqI_eq] at h
        rw [kEq_eq hk, eq_of_beq h]
      · cases h
    · cases h
  · split at h
    · rename_i s _ t
      rw [eqL_eq] at h
      have := eq_of_beq h
      cases s with | mk s => cases t with | mk t =>
      cases s; cases t
      cases this
      rfl
    · cases h
  · split at h
    · rfl
    · cases h
  · split at h
    · split at h
      · rename_i h1
        rw [Nat.eq_of_beq_eq_true h1, Nat.eq_of_beq_eq_true h]
      · cases h
    · cases h
  · split at h
    · split at h
      · rename_i h1
        rw [Nat.eq_of_beq_eq_true h1, Nat.eq_of_beq_eq_true h]
      · cases h
    · cases h
  · split at h
    · split at h
      · rename_i h1 h2 h3
        rw [Nat.eq_of_beq_eq_true h1, Nat.eq_of_beq_eq_true h2, Nat.eq_of_beq_eq_true h3, Nat.eq_of_beq_eq_true h]
      · cases h
    · cases h
  · split at h
    · rfl
    · cases h
  · split at h
    · rw [Nat.eq_of_beq_eq_true h]
    · cases h
  · split at h
    · rw [Nat.eq_of_beq_eq_true h]
    · cases h
  · split at h
    · rfl
    · cases h
  · split at h
    · rfl
    · cases h
  · cases h
def smVs (f : Value → Value → Bool) : List Value → List Value → Bool
  | [], m => match m with
    | [] => true
    | _ => false
  | a :: l, m => match m with
    | [] => false
    | b :: m => match f a b with
      | true => smVs f l m
      | false => false
theorem smVs_eq {f : Value → Value → Bool} (hf : ∀ a b, f a b = true → a = b) : ∀ {l m : List Value}, smVs f l m = true → l = m
  | [], [], _ => rfl
  | [], _ :: _, h => by cases h
  | _ :: _, [], h => by cases h
  | a :: l, b :: m, h => by
    dsimp only [smVs] at h
    split at h
    · rename_i h1
      rw [hf a b h1, smVs_eq hf h]
    · cases h
def sm2 (a b : Value) : Bool := match a with
  | .agg x => match b with
    | .agg y => smVs sm1 x.toList y.toList
    | _ => false
  | a => sm1 a b
theorem sm2_eq {a b : Value} (h : sm2 a b = true) : a = b := by
  unfold sm2 at h
  split at h
  · split at h
    · rename_i x _ y
      have := smVs_eq (fun _ _ => sm1_eq) h
      cases x; cases y; cases this; rfl
    · cases h
  · exact sm1_eq h
def sm3 (a b : Value) : Bool := match a with
  | .tuple x => match b with
    | .tuple y => smVs sm2 x.toList y.toList
    | _ => false
  | a => sm2 a b
theorem sm3_eq {a b : Value} (h : sm3 a b = true) : a = b := by
  unfold sm3 at h
  split at h
  · split at h
    · rename_i x _ y
      have := smVs_eq (fun _ _ => sm2_eq) h
      cases x; cases y; cases this; rfl
    · cases h
  · exact sm2_eq h
def smN (a b : Option Nat) : Bool := match a with
  | none => match b with
    | none => true
    | _ => false
  | some i => match b with
    | some j => Nat.beq i j
    | _ => false
theorem smN_eq {a b : Option Nat} (h : smN a b = true) : a = b := by
  cases a <;> cases b <;> first | rfl | cases h | exact congrArg some (Nat.eq_of_beq_eq_true h)
def smO (a b : AObj) : Bool := match a with
  | .cells c t f0 f1 lo => match b with
    | .cells c' t' f0' f1' lo' => match Nat.beq t t', Nat.beq f0 f0', Nat.beq f1 f1', smN lo lo' with
      | true, true, true, true => smVs sm1 c c'
      | _, _, _, _ => false
    | _ => false
  | _ => false
theorem smO_eq {a b : AObj} (h : smO a b = true) : a = b := by
  unfold smO at h
  split at h
  · split at h
    · split at h
      · rename_i h1 h2 h3 h4
        rw [Nat.eq_of_beq_eq_true h1, Nat.eq_of_beq_eq_true h2, Nat.eq_of_beq_eq_true h3, smN_eq h4, smVs_eq (fun _ _ => sm1_eq) h]
      · cases h
    · cases h
  · cases h
/-- Two heaps are the same tree. -/
def smT : T AObj → T AObj → Bool
  | .e, b => match b with
    | .e => true
    | _ => false
  | .n v a b c d, t => match t with
    | .n v' a' b' c' d' => match smT a a', smT b b', smT c c', smT d d' with
      | true, true, true, true => match v, v' with
        | none, none => true
        | some x, some y => smO x y
        | _, _ => false
      | _, _, _, _ => false
    | _ => false
theorem smT_eq : ∀ {a b : T AObj}, smT a b = true → a = b
  | .e, .e, _ => rfl
  | .e, .n .., h => by cases h
  | .n .., .e, h => by cases h
  | .n v a b c d, .n v' a' b' c' d', h => by
    dsimp only [smT] at h
    split at h
    · rename_i h1 h2 h3 h4
      rw [smT_eq h1, smT_eq h2, smT_eq h3, smT_eq h4]
      split at h
      · rfl
      · rw [smO_eq h]
      · cases h
    · cases h

/-- Whether a result is the one that is told, with its blocks. -/
noncomputable def fitObjs (N0 : Nat) (h : T AObj) : List (Nat × AObj) → List Nat → Bool
  | [], _ => true
  | (i, o) :: l, seen => match Nat.ble N0 i, seen.all (fun j => !Nat.beq i j), h.get i with
    | true, true, some o' => match smO o' o with
      | true => fitObjs N0 h l (i :: seen)
      | false => false
    | _, _, _ => false
noncomputable def fitRet (N0 : Nat) (R : Ret) : Option (Value × St) → Bool
  | some (v, s) => match sm3 v R.v with
    | true => fitObjs N0 s.h R.objs []
    | false => false
  | none => false
theorem fitObjs_get {N0 : Nat} {h : T AObj} : ∀ {l : List (Nat × AObj)} {seen : List Nat}, fitObjs N0 h l seen = true →
    (∀ (k i : Nat) (o : AObj), l[k]? = some (i, o) → N0 ≤ i ∧ h.get i = some o ∧ i ∉ seen) ∧ ∀ (k k' i : Nat) (o o' : AObj), l[k]? = some (i, o) → l[k']? = some (i, o') → k = k'
  | [], _, _ => ⟨fun _ _ _ h => (by simp at h), fun _ _ _ _ _ h => (by simp at h)⟩
  | (i, o) :: l, seen, h => by
    unfold fitObjs at h
    split at h
    case h_2 => cases h
    case h_1 o1 h1 h2 h3 =>
      split at h
      case h_2 => cases h
      case h_1 h4 =>
        obtain ⟨g1, g2⟩ := fitObjs_get h
        have hs : i ∉ seen := fun hm => by
          have := (List.all_eq_true.1 h2) i hm
          rw [Nat.beq_refl] at this
          cases this
        refine ⟨fun k j u e => ?_, fun k k' j u u' e e' => ?_⟩
        · cases k with
          | zero =>
            cases e
            exact ⟨Nat.le_of_ble_eq_true h1, by rw [h3, smO_eq h4], hs⟩
          | succ k =>
            obtain ⟨q1, q2, q3⟩ := g1 k j u e
            exact ⟨q1, q2, fun hm => q3 (List.mem_cons_of_mem _ hm)⟩
        · cases k with
          | zero =>
            cases k' with
            | zero => rfl
            | succ k' =>
              cases e
              exact absurd (List.mem_cons_self ..) (g1 k' i u' e').2.2
          | succ k =>
            cases k' with
            | zero =>
              cases e'
              exact absurd (List.mem_cons_self ..) (g1 k i u e).2.2
            | succ k' => rw [g2 k k' j u u' e e']

noncomputable section
variable {P : Program} {N0 b0 : Nat} {w0 : World} {ρ : Ren} {w : World}

/-- A run from a start heap, as something that is known from then on. -/
theorem known_of_run {K : Known P N0} (hF : Fit P) {k nx : Nat} {H0 : T AObj} {ρ0 : Ren} {f : FuncId} {args : List Value} {R : Ret} (hE : K.env w) (hr : Rel N0 w.heap.size w ρ0 H0 w) (hp : plainL args = true)
    (h : fitRet N0 R (((exeZ P N0 K k).1.run f args).run ⟨nx, H0, 0, 0⟩) = true) :
    ((∃ v w', (callFunc f ⟨args⟩).run P w = .ok (.value v) w') ∨ (callFunc f ⟨args⟩).run P w = .ok (.enter f ⟨args⟩) w) ∧
    ((callFunc f ⟨args⟩).run P w = .ok (.enter f ⟨args⟩) w → Calls P f ⟨args⟩ w fun e w' => ∃ ρ' h' v', e = .returned v' ∧ Rel N0 w.heap.size w ρ' h' w' ∧ VRel ρ' R.v v' ∧ ∀ (k i : Nat) (o : AObj), R.objs[k]? = some (i, o) → N0 ≤ i ∧ h'.get i = some o) := by
  rw [← exeZ_eq] at h
  unfold fitRet at h
  split at h
  case h_2 => cases h
  case h_1 v s hrun =>
    split at h
    case h_2 => cases h
    case h_1 hv =>
      obtain ⟨g1, g2⟩ := fitObjs_get h
      rcases (exe_ok hF hE k).1.1 f args args _ s v ρ0 w hr (.plain hp) hrun with ⟨ρ', w', v', e, _⟩ | ⟨e, hc⟩
      · exact ⟨.inl ⟨v', w', e⟩, fun e' => by rw [e] at e'; cases e'⟩
      · refine ⟨.inr e, fun _ => hc.mono ?_⟩
        rintro e w' ⟨ρ', v', rfl, _, h1, h2⟩
        exact ⟨ρ', s.h, v', rfl, h1, sm3_eq hv ▸ h2, fun k i o hk => ⟨(g1 k i o hk).1, (g1 k i o hk).2.1⟩⟩

theorem fit_inj {R : Ret} {x : Option (Value × St)} (h : fitRet N0 R x = true) (k k' i : Nat) (o o' : AObj) (e : R.objs[k]? = some (i, o)) (e' : R.objs[k']? = some (i, o')) : k = k' := by
  unfold fitRet at h
  split at h
  case h_2 => cases h
  case h_1 =>
    split at h
    case h_2 => cases h
    case h_1 => exact (fitObjs_get h).2 k k' i o o' e e'

/-- From these temporaries and this heap a piece of code ends so that the function gives v. -/
def Yields (P : Program) (N0 b0 : Nat) (w0 : World) (fn : Func) (v : Value) (c : Code) (A : Tm) (h : T AObj) : Prop :=
  ∀ ρ w a, Rel N0 b0 w0 ρ h w → ARel P fn.ntmps ρ A a → c.wp P (fun x a' w' => (x = .normal ∨ x = .ret) ∧ (∀ d ∈ a'.defers, IdleD P d) ∧ (results fn a'.tmps).run P w' = .ok v w' ∧ ∃ ρ' h', Rel N0 b0 w0 ρ' h' w') a w
noncomputable def endsAs (P : Program) (fn : Func) (v : Value) : Option ((Ex × Tm) × St) → Bool
  | some ((x, A), s) => match x with
    | .exit _ => false
    | _ => match (resX P A fn.results.toList).run s with
      | some (l, _) => match plainV v with
        | true => sm1 (resV l) v
        | false => false
      | none => false
  | none => false
theorem Yields.run {K : Known P N0} (hF : Fit P) (hE : K.env w0) {fn : Func} {v : Value} {c : Code} {A : Tm} {s : St} {k : Nat}
    (h : endsAs P fn v (((exeZ P N0 K k).2 fn.ntmps c A).run s) = true) : Yields P N0 b0 w0 fn v c A s.h := by
  intro ρ w a r hA
  rw [← exeZ_eq] at h
  unfold endsAs at h
  split at h
  case h_2 => cases h
  case h_1 x A' s' hrun =>
    refine wpK_wp ((exe_ok hF hE k).2 fn.ntmps c A A' x s s' ρ w a _ r hA hrun fun ρ' w' a' _ r' hA' => ?_)
    have fin : (match (resX P A' fn.results.toList).run s' with
      | some (l, _) => match plainV v with
        | true => sm1 (resV l) v
        | false => false
      | none => false) = true → (∀ d ∈ a'.defers, IdleD P d) ∧ (results fn a'.tmps).run P w' = .ok v w' ∧ ∃ ρ' h', Rel N0 b0 w0 ρ' h' w' := fun h => by
      split at h
      case h_2 => cases h
      case h_1 l s2 hres =>
        split at h
        case h_2 => cases h
        case h_1 hpv =>
          obtain ⟨_, v', e1, e2⟩ := results_ok hA' r' hres
          rw [sm1_eq h] at e2
          exact ⟨hA'.defers, by rw [e1, e2.plain_eq hpv], _, _, r'⟩
    cases x with
    | exit i => cases h
    | normal => exact ⟨.inl rfl, fin h⟩
    | ret => exact ⟨.inr rfl, fin h⟩
/-- The temporaries that are told. -/
noncomputable def mkA : List (Nat × Value) → Tm
  | [] => .e
  | (t, v) :: l => (mkA l).set t v
noncomputable def hasA (A : Tm) : List (Nat × Value) → Bool
  | [] => true
  | (t, v) :: l => match A.get t with
    | some u => match sm1 u v with
      | true => hasA A l
      | false => false
    | none => false
theorem ARel.sub {n : Nat} {A B : Tm} {a : Act} (hA : ARel P n ρ A a) (h : ∀ t v, B.get t = some v → A.get t = some v) : ARel P n ρ B a := ⟨hA.size, hA.defers, fun t v e => hA.tmp t v (h t v e)⟩
theorem hasA_get {A : Tm} : ∀ {l : List (Nat × Value)}, hasA A l = true → ∀ t v, (mkA l).get t = some v → A.get t = some v
  | [], _, t, v, e => by rw [mkA, T.get_e] at e; cases e
  | (t0, v0) :: l, h, t, v, e => by
    unfold hasA at h
    split at h
    case h_2 => cases h
    case h_1 u hu =>
      split at h
      case h_2 => cases h
      case h_1 h1 =>
        rw [mkA, T.get_set] at e
        split at e
        · rename_i ht
          cases e
          rw [← ht, hu, sm1_eq h1]
        · exact hasA_get h t v e
/-- A first part of the code, run by itself: of its temporaries only those in l are used from then on, and the heap is as told. -/
noncomputable def passes (l : List (Nat × Value)) (H : T AObj) : Option ((Ex × Tm) × St) → Bool
  | some ((.normal, A), s) => match hasA A l with
    | true => smT s.h H
    | false => false
  | _ => false
theorem Yields.step {K : Known P N0} (hF : Fit P) (hE : K.env w0) {fn : Func} {v : Value} {c c' : Code} {A : Tm} {s : St} {k : Nat} {l : List (Nat × Value)} {H : T AObj}
    (h : passes l H (((exeZ P N0 K k).2 fn.ntmps c A).run s) = true) (hy : Yields P N0 b0 w0 fn v c' (mkA l) H) : Yields P N0 b0 w0 fn v (.seq c c') A s.h := by
  intro ρ w a r hA
  rw [← exeZ_eq] at h
  unfold passes at h
  split at h
  case h_2 => cases h
  case h_1 A' s' hrun =>
    split at h
    case h_2 => cases h
    case h_1 h1 =>
      refine wp_seq (wpK_wp ((exe_ok hF hE k).2 fn.ntmps c A A' .normal s s' ρ w a _ r hA hrun fun ρ' w' a' _ r' hA' => ?_))
      exact hy ρ' w' a' (smT_eq h ▸ r') (hA'.sub (hasA_get h1))
def fstC : Code → Code
  | .seq a _ => a
  | c => c
def sndC : Code → Code
  | .seq _ b => b
  | c => c
def bodyOf (fn : Func) : Code := fn.body.getD .skip
noncomputable def argA : List Value → Nat → Tm
  | [], _ => .e
  | v :: l, i => (argA l (i + 1)).set i v
theorem argA_get : ∀ {l : List Value} {i t : Nat} {v : Value}, (argA l i).get t = some v → i ≤ t ∧ l[t - i]? = some v
  | [], i, t, v, e => by rw [argA, T.get_e] at e; cases e
  | u :: l, i, t, v, e => by
    rw [argA, T.get_set] at e
    split at e
    · rename_i ht
      subst ht
      rw [Nat.sub_self]
      exact ⟨Nat.le_refl _, e⟩
    · obtain ⟨h1, h2⟩ := argA_get e
      refine ⟨by omega, ?_⟩
      rw [show t - i = (t - (i + 1)) + 1 from by omega]
      exact h2
/-- A function whose code yields v. -/
theorem Yields.calls (hF : Fit P) {f : FuncId} {fn : Func} {c : Code} {v : Value} {args : List Value} (hfn : P.funcs[f]? = some fn) (hc : fn.body = some c) (hlen : args.length ≤ fn.ntmps) (hp : plainL args = true)
    {H0 : T AObj} {ρ0 : Ren} (hr : Rel N0 w.heap.size w ρ0 H0 w) (hy : Yields P N0 w.heap.size w fn v c (argA args 0) H0) :
    (callFunc f ⟨args⟩).run P w = .ok (.enter f ⟨args⟩) w ∧ Calls P f ⟨args⟩ w fun e w' => e = .returned v ∧ ∃ ρ' h', Rel N0 w.heap.size w ρ' h' w' := by
  refine ⟨?_, calls_of_wp_defers hfn hc ?_⟩
  · have := hF.names f fn hfn (by rw [hc]; rfl)
    simp [callFunc, hfn, this, hc]
  · refine Code.wp_mono ?_ (hy ρ0 w _ hr ⟨by simp; omega, fun d hd => (by cases hd), fun t u hu => ?_⟩)
    · rintro x a' w' ⟨hx, hd, he, hr'⟩
      rcases hx with rfl | rfl
      · exact leaves_idle he ⟨rfl, hr'⟩ _ hd
      · exact leaves_idle he ⟨rfl, hr'⟩ _ hd
    · obtain ⟨_, h2⟩ := argA_get hu
      rw [Nat.sub_zero] at h2
      have hlt : t < args.length := (List.getElem?_eq_some_iff.1 h2).1
      have hpu : plainV u = true := by
        clear hy hlen hu hlt
        induction args generalizing t with
        | nil => simp at h2
        | cons y l ih =>
          simp only [plainL, Bool.and_eq_true] at hp
          cases t with
          | zero => cases h2; exact hp.1
          | succ t => exact ih hp.2 _ (Nat.zero_le _) h2
      simp only [Array.getD_eq_getD_getElem?, Array.getElem?_append, List.size_toArray, hlt, if_true, List.getElem?_toArray, h2, Option.getD_some]
      exact .plain hpu
end
end Go.Rx

namespace Go.Rx
set_option linter.unusedVariables false
set_option linter.unusedSimpArgs false
noncomputable section
variable {P : Program} {N0 b0 : Nat} {w0 : World}

/-- the first j pieces of a chain -/
noncomputable def preRun (self : CodeX) (n : Nat) (j : Nat) : Code → Tm → X (Ex × Tm) :=
  Nat.rec (fun _ A => X.pure (.normal, A)) (fun _ ih c A => (self n (fstC c) A).bind fun p => match p with
    | (.normal, A) => ih (sndC c) A
    | p => X.pure p) j
def dropC : Nat → Code → Code
  | 0, c => c
  | j + 1, c => dropC j (sndC c)
def isSeqs : Nat → Code → Bool
  | 0, _ => true
  | j + 1, c => match c with
    | .seq _ b => isSeqs j b
    | _ => false
theorem Yields.stepE {K : Known P N0} (hF : Fit P) (hE : K.env w0) {fn : Func} {v : Value} {c c' : Code} {A A1 : Tm} {s s1 : St} {k : Nat}
    (h : ((exeZ P N0 K k).2 fn.ntmps c A).run s = some ((.normal, A1), s1)) (hy : Yields P N0 b0 w0 fn v c' A1 s1.h) : Yields P N0 b0 w0 fn v (.seq c c') A s.h := by
  intro ρ w a r hA
  rw [← exeZ_eq] at h
  exact wp_seq (wpK_wp ((exe_ok hF hE k).2 fn.ntmps c A A1 .normal s s1 ρ w a _ r hA h fun ρ' w' a' _ r' hA' => hy ρ' w' a' r' hA'))
theorem Yields.pre {K : Known P N0} (hF : Fit P) (hE : K.env w0) {fn : Func} {v : Value} {k : Nat} : ∀ (j : Nat) {c : Code} {A A1 : Tm} {s s1 : St}, isSeqs j c = true →
    (preRun (exeZ P N0 K k).2 fn.ntmps j c A).run s = some ((.normal, A1), s1) → Yields P N0 b0 w0 fn v (dropC j c) A1 s1.h → Yields P N0 b0 w0 fn v c A s.h
  | 0, c, A, A1, s, s1, _, h, hy => by
    obtain ⟨e, rfl⟩ := X.pure_some h
    cases e
    exact hy
  | j + 1, c, A, A1, s, s1, hc, h, hy => by
    cases c with
    | seq a b =>
      obtain ⟨⟨x, A2⟩, s2, h1, h2⟩ := X.bind_some (show (((exeZ P N0 K k).2 fn.ntmps a A).bind fun p => match p with
        | (.normal, A) => preRun (exeZ P N0 K k).2 fn.ntmps j b A
        | p => X.pure p).run s = some ((.normal, A1), s1) from h)
      cases x with
      | normal => exact Yields.stepE hF hE h1 (Yields.pre hF hE j hc h2 hy)
      | exit i => obtain ⟨e, _⟩ := X.pure_some h2; cases e
      | ret => obtain ⟨e, _⟩ := X.pure_some h2; cases e
    | _ => cases hc
theorem Yields.sub {fn : Func} {v : Value} {c : Code} {A B : Tm} {h : T AObj} (hB : ∀ t u, B.get t = some u → A.get t = some u) (hy : Yields P N0 b0 w0 fn v c B h) : Yields P N0 b0 w0 fn v c A h :=
  fun ρ w a r hA => hy ρ w a r (hA.sub hB)

/-! Plain operations, one by one. -/
theorem opsX_cons {call : CallX} {n : Nat} {ops l : List Oper} {A A' : Tm} {o : Oper} {v : Value} (hv : valX P N0 call ops A o = X.pure v) (hp : doPut n A o.dst v = some A') :
    opsX P N0 call n ops (o :: l) A = opsX P N0 call n ops l A' := by
  rw [opsX, hv, X.pure_bind, hp]
theorem doPut_some {n d : Nat} {A : Tm} {v : Value} (h : Nat.blt d n = true) : doPut n A (some d) v = some (A.set d v) := by
  unfold doPut
  simp only [h]
  exact T.setK_eq ..
theorem valX_move {call : CallX} {ops : List Oper} {A : Tm} {o : Oper} {x : Operand} {v : Value} (hg : o.guard = none) (ho : o.op = .move x) (hx : ev N0 A x = some v) : valX P N0 call ops A o = X.pure v := by
  unfold valX wantX
  rw [hg]
  simp only [ho, xop, hx]
  rfl
theorem valX_assign {call : CallX} {ops : List Oper} {A : Tm} {o : Oper} {x : Operand} {v : Value} (hg : o.guard = none) (ho : o.op = .assign x) (hx : ev N0 A x = some v) : valX P N0 call ops A o = X.pure v := by
  unfold valX wantX
  rw [hg]
  simp only [ho, xop, hx]
  rfl
theorem valX_bin {call : CallX} {ops : List Oper} {A : Tm} {o : Oper} {op : BinOp} {t r : TypeId} {x y : Operand} {a b v : Value} (hg : o.guard = none) (ho : o.op = .binOp op t x y r)
    (hx : ev N0 A x = some a) (hy : ev N0 A y = some b) (h : xbin op a b = some v) : valX P N0 call ops A o = X.pure v := by
  unfold valX wantX
  rw [hg]
  simp only [ho, xop, hx, hy, h]
theorem valX_conv {call : CallX} {ops : List Oper} {A : Tm} {o : Oper} {s d : TypeId} {x : Operand} {a v : Value} (hg : o.guard = none) (ho : o.op = .convert s d x)
    (hx : ev N0 A x = some a) (h : xconv P s d a = some v) : valX P N0 call ops A o = X.pure v := by
  unfold valX wantX
  rw [hg]
  simp only [ho, xop, hx, h]
theorem region_run {K : Known P N0} {k id n : Nat} {ops : Array Oper} {A A' : Tm} {s : St} (h : opsX P N0 (exe P N0 K k).1 n ops.toList ops.toList A = X.pure A') :
    ((exeZ P N0 K (k + 1)).2 n (.region id ops false) A).run s = some ((.normal, A'), s) := by
  rw [← exeZ_eq]
  show ((opsX P N0 (exe P N0 K k).1 n ops.toList ops.toList A).bind fun A => X.pure (Ex.normal, A)).run s = _
  rw [h]
  rfl
def opsOf : Code → Array Oper
  | .region _ ops _ => ops
  | _ => #[]
def opAt (c : Code) (i : Nat) : Oper := (opsOf c).toList.getD i ⟨none, .move (.tmp 0), 0, "", #[], none⟩
end
end Go.Rx
