/- Regions whose order is drawn: every order ends alike where no two operations that may change places touch the same thing. -/
import Derived.Test.YtpfjakcfjpgbmaaGreatDoorRxC
namespace Go.Rx
set_option linter.unusedVariables false
set_option linter.unusedSimpArgs false
noncomputable section

/-- A run that also tells what it read and wrote. -/
def X.told {α : Type} (m : X α) : X (α × Nat × Nat) := ⟨fun s => match s with
    | ⟨nx, h, r, w⟩ => match m.run ⟨nx, h, 0, 0⟩ with
      | some (a, ⟨nx, h, r', w'⟩) => fM (r ||| r') fun r2 => fM (w ||| w') fun w2 => some ((a, r', w'), ⟨nx, h, r2, w2⟩)
      | none => none, by
  rintro ⟨nx, h, r, w⟩ a s' e
  dsimp only at e
  split at e
  case h_2 => cases e
  case h_1 x n1 h1 r1 w1 he =>
    rw [fM_eq, fM_eq] at e
    cases e
    obtain ⟨dr, dw, e1, e2, F⟩ := m.fr _ _ _ he
    simp only [Nat.zero_or] at e1 e2
    rw [e1, e2]
    refine ⟨dr, dw, rfl, rfl, fun t ht ha => ?_⟩
    obtain ⟨nx', h', r', w'⟩ := t
    obtain ⟨⟨n2, h2, r2, w2⟩, f1, f2, f3, f4, f5⟩ := F ⟨nx', h', 0, 0⟩ ht ha
    simp only [Nat.zero_or] at f3 f4
    rw [f3, f4] at f1
    refine ⟨⟨n2, h2, r' ||| dr, w' ||| dw⟩, ?_, f2, rfl, rfl, f5⟩
    dsimp only
    rw [f1]
    dsimp only
    rw [fM_eq, fM_eq]⟩
theorem X.told_some {α : Type} {m : X α} {a : α} {r' w' : Nat} {s s' : St} (h : m.told.run s = some ((a, r', w'), s')) : ∃ h2 n2, m.run ⟨s.nx, s.h, 0, 0⟩ = some (a, ⟨n2, h2, r', w'⟩) ∧ s'.h = h2 ∧ s'.nx = n2 := by
  obtain ⟨nx, h0, r, w⟩ := s
  simp only [X.told] at h
  split at h
  case h_2 => cases h
  case h_1 he =>
    rw [fM_eq, fM_eq] at h
    cases h
    exact ⟨_, _, he, rfl, rfl⟩

def noc (p q : Nat × Nat) : Bool := Nat.beq (p.2 &&& (q.1 ||| q.2)) 0 && Nat.beq (q.2 &&& p.1) 0
theorem noc_bits {p q : Nat × Nat} (h : noc p q = true) (i : Nat) : ¬ (p.2.testBit i = true ∧ (q.1 ||| q.2).testBit i = true) ∧ ¬ (q.2.testBit i = true ∧ (p.1 ||| p.2).testBit i = true) := by
  simp only [noc, Bool.and_eq_true] at h
  have h1 := Nat.eq_of_beq_eq_true h.1
  have h2 := Nat.eq_of_beq_eq_true h.2
  have b1 := congrArg (·.testBit i) h1
  have b2 := congrArg (·.testBit i) h2
  simp only [Nat.testBit_and, Nat.testBit_or, Nat.zero_testBit, Bool.and_eq_false_iff, Bool.or_eq_false_iff] at b1 b2 ⊢
  simp only [Bool.or_eq_true]
  constructor
  · rintro ⟨x, y⟩
    rcases b1 with b | ⟨b, c⟩
    · rw [x] at b; cases b
    · rcases y with y | y
      · rw [y] at b; cases b
      · rw [y] at c; cases c
  · rintro ⟨x, y⟩
    rcases y with y | y
    · rcases b2 with b | b
      · rw [x] at b; cases b
      · rw [y] at b; cases b
    · rcases b1 with b | ⟨b, c⟩
      · rw [y] at b; cases b
      · rw [x] at c; cases c

/-- All that stands ahead of an operation, as bits. -/
def aheadOf (acc : List Nat) : List Edge → Nat
  | [] => 0
  | e :: l => match Region.binds .any e with
    | true => 2 ^ e.on ||| acc.getD e.on 0 ||| aheadOf acc l
    | false => aheadOf acc l
def befs : List Oper → List Nat → List Nat
  | [], acc => acc
  | o :: l, acc => fN (aheadOf acc o.after.toList) fun b => befs l (acc ++ [b])
def edgesOk : List Oper → Nat → Bool
  | [], _ => true
  | o :: l, i => o.after.toList.all (fun e => !Region.binds .any e || Nat.blt e.on i) && edgesOk l (i + 1)
/-- Row by row: what is said of all pairs i < j that may change places. -/
def rowOk {α : Type} (p : α → α → Bool) (b : Nat) (y : α) : List α → Nat → Bool
  | [], _ => true
  | x :: l, i => (b.testBit i || p x y) && rowOk p b y l (i + 1)
def allOk {α : Type} (p : α → α → Bool) : List α → List (Nat × α) → Bool
  | _, [] => true
  | prev, (b, y) :: l => rowOk p b y prev 0 && allOk p (prev ++ [y]) l
def statOk (ops : Array Oper) : Bool := edgesOk ops.toList 0 && Region.noSelect ops && allOk (Oper.apart ops) [] ((befs ops.toList []).zip ops.toList)

theorem befs_acc : ∀ (l : List Oper) (acc : List Nat), (befs l acc).length = acc.length + l.length ∧ (befs l acc).take acc.length = acc := by
  intro l
  induction l with
  | nil => intro acc; simp [befs]
  | cons o l ih =>
    intro acc
    simp only [befs, fN_eq]
    obtain ⟨h1, h2⟩ := ih (acc ++ [aheadOf acc o.after.toList])
    refine ⟨by rw [h1]; simp; omega, ?_⟩
    have := congrArg (List.take acc.length) h2
    rw [List.take_take] at this
    simp at this
    exact this
theorem befs_get : ∀ (l : List Oper) (acc : List Nat) (j : Nat) (o : Oper), l[j]? = some o → (befs l acc)[acc.length + j]? = some (aheadOf ((befs l acc).take (acc.length + j)) o.after.toList) := by
  intro l
  induction l with
  | nil => intro acc j o h; cases h
  | cons p l ih =>
    intro acc j o h
    simp only [befs, fN_eq]
    cases j with
    | zero =>
      cases h
      have h2 := (befs_acc l (acc ++ [aheadOf acc p.after.toList])).2
      have h3 : (befs l (acc ++ [aheadOf acc p.after.toList]))[acc.length]? = some (aheadOf acc p.after.toList) := by
        have := congrArg (·[acc.length]?) h2
        simpa using this
      have h4 : (befs l (acc ++ [aheadOf acc p.after.toList])).take acc.length = acc := by
        have := congrArg (List.take acc.length) h2
        rw [List.take_take] at this
        simpa using this
      simp only [Nat.add_zero, h3, h4]
    | succ j =>
      have := ih (acc ++ [aheadOf acc p.after.toList]) j o h
      simpa [Nat.add_assoc, Nat.add_comm 1 j] using this
theorem aheadOf_bit {acc : List Nat} {i : Nat} : ∀ {l : List Edge}, (aheadOf acc l).testBit i = true → ∃ e ∈ l, Region.binds .any e = true ∧ (e.on = i ∨ (acc.getD e.on 0).testBit i = true) := by
  intro l
  induction l with
  | nil => intro h; simp [aheadOf] at h
  | cons e l ih =>
    intro h
    unfold aheadOf at h
    split at h
    · rename_i hb
      simp only [Nat.testBit_or, Bool.or_eq_true, Nat.testBit_two_pow, decide_eq_true_eq] at h
      rcases h with (h | h) | h
      · exact ⟨e, by simp, hb, .inl h⟩
      · exact ⟨e, by simp, hb, .inr h⟩
      · obtain ⟨x, hx, y⟩ := ih h; exact ⟨x, by simp [hx], y⟩
    · obtain ⟨x, hx, y⟩ := ih h; exact ⟨x, by simp [hx], y⟩
theorem edgesOk_get : ∀ {l : List Oper} {k j : Nat} {o : Oper}, edgesOk l k = true → l[j]? = some o → ∀ e ∈ o.after, Region.binds .any e = true → e.on < k + j := by
  intro l
  induction l with
  | nil => intro k j o _ h; cases h
  | cons p l ih =>
    intro k j o h hj e he hb
    simp only [edgesOk, Bool.and_eq_true] at h
    cases j with
    | zero =>
      cases hj
      have := (List.all_eq_true.1 h.1) e (by simpa using he)
      simp only [hb, Bool.not_true, Bool.false_or] at this
      exact blt_iff this
    | succ j =>
      have := ih h.2 hj e he hb
      omega
theorem rowOk_get {α : Type} {p : α → α → Bool} {b : Nat} {y : α} : ∀ {l : List α} {k i : Nat} {x : α}, rowOk p b y l k = true → l[i]? = some x → b.testBit (k + i) = true ∨ p x y = true := by
  intro l
  induction l with
  | nil => intro k i x _ h; cases h
  | cons z l ih =>
    intro k i x h hi
    simp only [rowOk, Bool.and_eq_true, Bool.or_eq_true] at h
    cases i with
    | zero => cases hi; exact h.1
    | succ i =>
      have := ih h.2 hi
      rwa [show k + (i + 1) = k + 1 + i from by omega]
theorem allOk_get {α : Type} {p : α → α → Bool} : ∀ {l : List (Nat × α)} {prev : List α} {i j b : Nat} {x y : α}, allOk p prev l = true → l[j]? = some (b, y) → (prev ++ l.map (·.2))[i]? = some x → i < prev.length + j → b.testBit i = true ∨ p x y = true := by
  intro l
  induction l with
  | nil => intro prev i j b x y _ h; cases h
  | cons q l ih =>
    intro prev i j b x y h hj hi hlt
    obtain ⟨c, z⟩ := q
    simp only [allOk, Bool.and_eq_true] at h
    cases j with
    | zero =>
      cases hj
      have hx : prev[i]? = some x := by
        rw [List.getElem?_append_left (by omega)] at hi
        exact hi
      have := rowOk_get h.1 hx
      simpa using this
    | succ j => exact ih (prev := prev ++ [z]) h.2 hj (by simpa using hi) (by simp; omega)

/-- Step j's content where step j is done and touches the place, else what was. -/
def mix {β : Type} (V : Nat → β) (t L : Nat → Bool) : Nat → β
  | 0 => V 0
  | j + 1 => if L j && t j then V (j + 1) else mix V t L j
theorem mix_low {β : Type} {V : Nat → β} {t L : Nat → Bool} : ∀ {m : Nat}, (∀ j, j < m → t j = false → V (j + 1) = V j) → (∀ j, j < m → t j = true → L j = true) → mix V t L m = V m
  | 0, _, _ => rfl
  | m + 1, hk, h => by
    simp only [mix]
    rw [mix_low (fun j hj => hk j (by omega)) (fun j hj => h j (by omega))]
    cases ht : t m
    · simp [hk m (by omega) ht]
    · simp [h m (by omega) ht]
theorem mix_high {β : Type} {V : Nat → β} {t L : Nat → Bool} {m : Nat} : ∀ {k : Nat}, m ≤ k → (∀ j, m ≤ j → j < k → L j = true → t j = false) → mix V t L k = mix V t L m
  | 0, h, _ => by rw [Nat.le_zero.1 h]
  | k + 1, hm, h => by
    rcases Nat.lt_or_ge k m with hk | hk
    · rw [show m = k + 1 from by omega]
    · simp only [mix]
      rw [mix_high hk fun j h1 h2 => h j h1 (by omega)]
      cases hL : L k
      · simp
      · simp [h k hk (by omega) hL]
theorem mix_alike {β : Type} {V : Nat → β} {t L L' : Nat → Bool} : ∀ {k : Nat}, (∀ j, j < k → (L j && t j) = (L' j && t j)) → mix V t L k = mix V t L' k
  | 0, _ => rfl
  | k + 1, h => by
    simp only [mix]
    rw [h k (by omega), mix_alike fun j hj => h j (by omega)]
theorem mix_step {β : Type} {V : Nat → β} {t L L' : Nat → Bool} {i k : Nat} (hi : i < k) (h1 : L i = false) (h2 : L' i = true) (h3 : ∀ j, j ≠ i → L' j = L j) (h4 : t i = true → ∀ j, i < j → j < k → L j = true → t j = false) :
    mix V t L' k = if t i then V (i + 1) else mix V t L k := by
  cases ht : t i
  · simp only [Bool.false_eq_true, if_false]
    refine mix_alike fun j hj => ?_
    by_cases hji : j = i
    · subst hji; simp [ht]
    · rw [h3 j hji]
  · simp only [if_true]
    rw [mix_high (m := i + 1) hi fun j a b c => h4 ht j (by omega) b (by rw [← h3 j (by omega)]; exact c)]
    simp [mix, h2, ht]

def opsM (P : Program) (N0 : Nat) (call : CallX) (n : Nat) (ops : List Oper) : List Oper → Tm → X (Tm × List (Nat × Nat))
  | [], A => X.pure (A, [])
  | o :: l, A => (valX P N0 call ops A o).told.bind fun p => match doPut n A o.dst p.1 with
    | some A => (opsM P N0 call n ops l A).bind fun q => X.pure (q.1, p.2 :: q.2)
    | none => X.fail
theorem opsM_steps {P : Program} {N0 : Nat} {call : CallX} {n : Nat} {ops : List Oper} : ∀ {l : List Oper} {A A' : Tm} {ms : List (Nat × Nat)} {s s' : St}, (opsM P N0 call n ops l A).run s = some ((A', ms), s') →
    ∃ (S : Nat → St) (AA : Nat → Tm), S 0 = s ∧ AA 0 = A ∧ S l.length = s' ∧ AA l.length = A' ∧ ms.length = l.length ∧ ∀ j o, l[j]? = some o → ∃ v r w, ms[j]? = some (r, w) ∧
      (valX P N0 call ops (AA j) o).run ⟨(S j).nx, (S j).h, 0, 0⟩ = some (v, ⟨(S (j + 1)).nx, (S (j + 1)).h, r, w⟩) ∧ doPut n (AA j) o.dst v = some (AA (j + 1)) := by
  intro l
  induction l with
  | nil =>
    intro A A' ms s s' h
    obtain ⟨e, rfl⟩ := X.pure_some h
    cases e
    exact ⟨fun _ => s', fun _ => A, rfl, rfl, rfl, rfl, rfl, fun j o h => by cases h⟩
  | cons o l ih =>
    intro A A' ms s s' h
    obtain ⟨⟨v, r, w⟩, s1, h1, h2⟩ := X.bind_some h
    obtain ⟨hh, nn, h3, h4, h5⟩ := X.told_some h1
    dsimp only at h2
    split at h2
    case h_2 => cases h2
    case h_1 A1 hp =>
      obtain ⟨⟨A2, ms2⟩, s2, k1, k2⟩ := X.bind_some h2
      obtain ⟨e, rfl⟩ := X.pure_some k2
      cases e
      obtain ⟨S, AA, a1, a2, a3, a4, a5, a6⟩ := ih k1
      refine ⟨fun j => match j with | 0 => s | j + 1 => S j, fun j => match j with | 0 => A | j + 1 => AA j, rfl, rfl, a3, a4, by simp [a5], fun j p hj => ?_⟩
      cases j with
      | zero =>
        cases hj
        refine ⟨v, r, w, rfl, ?_, ?_⟩
        · show _ = some (v, (⟨(S 0).nx, (S 0).h, r, w⟩ : St))
          rw [a1, h4, h5]
          exact h3
        · show _ = some (AA 0)
          rw [a2]
          exact hp
      | succ j => exact a6 j p hj

theorem evs_congr {e e' : Env} : ∀ {l : List Operand}, (∀ x ∈ l, e x = e' x) → evs e l = evs e' l
  | [], _ => rfl
  | x :: l, h => by simp only [evs, h x (by simp), evs_congr (l := l) fun y hy => h y (by simp [hy])]
theorem evp_congr {e e' : Env} : ∀ {l : List (Nat × Operand)}, (∀ x ∈ l.map (·.2), e x = e' x) → evp e l = evp e' l
  | [], _ => rfl
  | (i, x) :: l, h => by simp only [evp, h x (by simp), evp_congr (l := l) fun y hy => h y (by simp at hy ⊢; exact .inr hy)]
theorem evo_congr {e e' : Env} {x : Option Operand} (h : ∀ y ∈ x.toList, e y = e' y) : evo e x = evo e' x := by
  cases x with
  | none => rfl
  | some x => simp only [evo, h x (by simp)]
set_option maxHeartbeats 1000000 in
theorem xop_congr {P : Program} {N0 : Nat} {e e' : Env} (o : Oper) (h : ∀ x ∈ o.op.operands.toList, e x = e' x) : xop P N0 e o = xop P N0 e' o := by
  obtain ⟨dst, op, ty, pos, after, guard⟩ := o
  dsimp only at h
  unfold xop
  dsimp only
  cases op
  case build t ps => simp only [evp_congr (e := e) (e' := e') (l := ps.toList) fun x hx => h x (by simpa [Op.operands] using hx)]
  case buildSlice t n ps => simp only [evp_congr (e := e) (e' := e') (l := ps.toList) fun x hx => h x (by simpa [Op.operands] using hx)]
  case makeFunc fn fs cs =>
    simp only [evs_congr (e := e) (e' := e') (l := fs.toList) fun x hx => h x (by simp [Op.operands]; exact .inl (by simpa using hx)),
      evs_congr (e := e) (e' := e') (l := cs.toList) fun x hx => h x (by simp [Op.operands]; exact .inr (by simpa using hx))]
  case slice t x lo hi mx =>
    simp only [h x (by simp [Op.operands]), evo_congr (e := e) (e' := e') (x := lo) fun y hy => h y (by simp only [Option.mem_toList] at hy; simp [Op.operands, hy]),
      evo_congr (e := e) (e' := e') (x := hi) fun y hy => h y (by simp only [Option.mem_toList] at hy; simp [Op.operands, hy]),
      evo_congr (e := e) (e' := e') (x := mx) fun y hy => h y (by simp only [Option.mem_toList] at hy; simp [Op.operands, hy])]
  case call c =>
    obtain ⟨callee, args, ts⟩ := c
    cases callee
    case builtin b => simp only [evs_congr (e := e) (e' := e') (l := args.toList) fun x hx => h x (by simp [Op.operands, Call.operands]; simpa using hx)]
    all_goals rfl
  case makeMap t r => cases r <;> rfl
  all_goals first
    | rfl
    | (rename_i x; simp only [h x (by simp [Op.operands])]; done)
    | (rename_i x y; simp only [h x (by simp [Op.operands]), h y (by simp [Op.operands])]; done)
    | (rename_i x y; simp only [h x (by simp [Op.operands])]; done)
    | (rename_i x y z; simp only [h x (by simp [Op.operands]), h y (by simp [Op.operands]), h z (by simp [Op.operands])]; done)
    | (rename_i x y z; simp only [h x (by simp [Op.operands]), h y (by simp [Op.operands])]; done)
    | (rename_i a x y z; simp only [h x (by simp [Op.operands]), h y (by simp [Op.operands])]; done)
end
end Go.Rx
