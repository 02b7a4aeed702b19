/- A region that draws its order: quiet operations (one value in every world of a class) and loose ones (memory made, a row appended to, a store: the value hangs on the world). One walk in a given order serves every order: a quiet operation is taken first, a loose one when nothing else is ready. -/
import Derived.Test.YtpfjakcfjpgbmaaGreatDoorClassTail
namespace Go.Proofs.YtpfjakcfjpgbmaaGreatDoor
set_option linter.unusedVariables false
set_option linter.unusedSimpArgs false
open Go Go.RowKit

/-- what is known stays known when memory is made -/
def Stable (C : World → Prop) : Prop := ∀ w w', C w → Below w.heap.size w w' → C w'
/-- the two values leave the same frame -/
def Same (a : Act) (dst : Option Tmp) (u v : Value) : Prop := ∀ d, dst = some d → d < a.tmps.size → u = v

theorem size_put (a : Act) (dst : Option Tmp) (v : Value) : (a.put dst v).tmps.size = a.tmps.size := by
  cases dst <;> simp [Act.put]
theorem Same.put {a : Act} {dst : Option Tmp} {u v : Value} (h : Same a dst u v) : a.put dst u = a.put dst v := by
  cases dst with
  | none => rfl
  | some d =>
    by_cases hd : d < a.tmps.size
    · rw [h d rfl hd]
    · have e : ∀ y : Value, a.tmps.setIfInBounds d y = a.tmps := fun y => Array.setIfInBounds_eq_of_size_le (Nat.le_of_not_lt hd)
      simp only [Act.put, e]
theorem Same.of_put {a : Act} {dst : Option Tmp} {u v : Value} (h : a.put dst u = a.put dst v) : Same a dst u v := by
  intro d e hd
  subst e
  have h1 : (a.put (some d) u).tmps[d]? = (a.put (some d) v).tmps[d]? := by rw [h]
  simpa [Act.put, hd] using h1
theorem Same.at_put {a : Act} {dst x : Option Tmp} {u v y : Value} (h : Same a dst u v) : Same (a.put x y) dst u v := fun d e hd => h d e (by rwa [size_put] at hd)
theorem Same.of_at_put {a : Act} {dst x : Option Tmp} {u v y : Value} (h : Same (a.put x y) dst u v) : Same a dst u v := fun d e hd => h d e (by rwa [size_put])

/-- a loose operation: whatever it leaves, D says of the value and the world -/
def Oper.loose (P : Program) (o : Oper) (a : Act) (w : World) (D : Value → World → Prop) : Prop :=
  match (execOp a.eval o).run P w with
  | .ok (.value v) w' => ∃ u, Same a o.dst v u ∧ D u w'
  | .ok .skip w' => ∃ u, Same a o.dst undef u ∧ D u w'
  | .ok (.enter f args) w' => Calls P f args w' (fun e w'' => ∃ v, e = .returned v ∧ ∃ u, Same a o.dst v u ∧ D u w'')
  | _ => False

theorem loose_wp {P : Program} {o : Oper} {a : Act} {w : World} {D : Value → World → Prop} {K : Act → World → Prop} {Q : Exit → Act → World → Prop} (h : Oper.loose P o a w D) (hk : ∀ u w', D u w' → K (a.put o.dst u) w') : o.wp P a w K Q := by
  unfold Oper.loose at h
  unfold Oper.wp
  split at h <;> rename_i hr
  · rw [hr]; obtain ⟨u, e, hd⟩ := h
    show K _ _
    rw [e.put]; exact hk _ _ hd
  · rw [hr]; obtain ⟨u, e, hd⟩ := h
    show K _ _
    rw [e.put]; exact hk _ _ hd
  · rw [hr]
    show Calls _ _ _ _ _
    refine h.mono fun e w'' ⟨v, he, u, e', hd⟩ => ?_
    subst he
    show K _ _
    rw [e'.put]; exact hk _ _ hd
  · exact h.elim
theorem loose_of_wp {P : Program} {o : Oper} {a : Act} {w : World} {D : Value → World → Prop} (h : o.wp P a w (fun a' w' => ∃ u, a' = a.put o.dst u ∧ D u w') (fun _ _ _ => False)) (hdef : ∀ d w', (execOp a.eval o).run P w ≠ .ok (.defer d) w') (hrow : ∀ r x w', (execOp a.eval o).run P w ≠ .ok (.row r x) w') : Oper.loose P o a w D := by
  unfold Oper.loose
  unfold Oper.wp at h
  generalize (execOp a.eval o).run P w = r at *
  cases r with
  | ok n w' =>
    cases n with
    | value v => obtain ⟨u, e, hd⟩ := h; exact ⟨u, Same.of_put e, hd⟩
    | skip => obtain ⟨u, e, hd⟩ := h; exact ⟨u, Same.of_put e, hd⟩
    | enter f args =>
      refine Calls.mono h fun e w'' he => ?_
      cases e with
      | returned v => obtain ⟨u, e, hd⟩ := he; exact ⟨v, rfl, u, Same.of_put e, hd⟩
      | panicked c => exact he.elim
      | outgrown => obtain ⟨_, _, h⟩ := he; exact h.elim
    | defer d => exact absurd rfl (hdef d w')
    | row r x => exact absurd rfl (hrow r x w')
    | _ => exact h.elim
  | halt x w' => cases x <;> exact h.elim

section
variable {P : Program} {md : Region.Mode} {ops : Array Oper}

def Mild (P : Program) (ops : Array Oper) (I : World → Prop) (o : Oper) (v : Value) (a : Act) : Prop := ∀ w, I w → ∃ u, YieldsIn P ops (fun w' => Below w.heap.size w w') o u a ∧ Same a o.dst u v

def lStep (P : Program) (ops : Array Oper) (I : World → Prop) (last j : Nat) (K : Act → (World → Prop) → Prop) (a : Act) (C : World → Prop) : Prop :=
  ∃ o, ops[j]? = some o ∧ ((∃ v, Mild P ops C o v a ∧ K (a.put o.dst v) C) ∨
    (Region.wanted o (yielded ops a.tmps) = true ∧ ∃ D : Value → World → Prop, (∀ u, Stable (D u)) ∧ (j ≠ last → ∀ u w, D u w → I w) ∧ (∀ w, C w → Oper.loose P o a w D) ∧ ∀ u, (∃ w, D u w) → K (a.put o.dst u) (D u)))

theorem lStep_mono {I I' : World → Prop} {last j : Nat} {K K' : Act → (World → Prop) → Prop} {a : Act} {C : World → Prop} (hI : ∀ w, I w → I' w) (hk : ∀ a C, K a C → K' a C) (h : lStep P ops I last j K a C) : lStep P ops I' last j K' a C := by
  obtain ⟨o, ho, h⟩ := h
  refine ⟨o, ho, ?_⟩
  rcases h with ⟨v, h1, h2⟩ | ⟨hw, D, h1, h2, h3, h4⟩
  · exact .inl ⟨v, h1, hk _ _ h2⟩
  · exact .inr ⟨hw, D, h1, fun hj u w hd => hI _ (h2 hj u w hd), h3, fun u hu => hk _ _ (h4 u hu)⟩

def wpL (P : Program) (md : Region.Mode) (ops : Array Oper) (last : Nat) (Q : Act → World → Prop) (I : World → Prop) : Nat → Array Bool → Act → (World → Prop) → Prop
  | 0, listed, a, C => Region.ready md ops listed = [] ∧ ∀ w, C w → Q a w
  | fuel + 1, listed, a, C => (Region.ready md ops listed = [] → ∀ w, C w → Q a w) ∧ ∀ i ∈ Region.ready md ops listed, lStep P ops I last i (wpL P md ops last Q I fuel (listed.setIfInBounds i true)) a C

theorem wpL_mono {last : Nat} {Q : Act → World → Prop} {I I' : World → Prop} (hI : ∀ w, I w → I' w) : ∀ (f : Nat) (listed : Array Bool) (a : Act) (C : World → Prop), wpL P md ops last Q I f listed a C → wpL P md ops last Q I' f listed a C
  | 0, _, _, _, h => h
  | f + 1, _, _, _, h => ⟨h.1, fun i hi => lStep_mono hI (fun a C => wpL_mono hI f _ a C) (h.2 i hi)⟩

theorem wpL_any {last : Nat} {Q : Act → World → Prop} {I : World → Prop} {Q' : Exit → Act → World → Prop} (hQ : ∀ a w, Q a w → Q' .normal a w) : ∀ (f : Nat) (listed : Array Bool) (a : Act) (C : World → Prop), Stable C → wpL P md ops last Q I f listed a C → ∀ w, C w → wpAny P md ops Q' f listed a w
  | 0, _, _, _, _, h, w, hw => ⟨h.1, hQ _ _ (h.2 w hw)⟩
  | f + 1, listed, a, C, hC, h, w, hw => by
    refine ⟨fun h0 => hQ _ _ (h.1 h0 w hw), fun i hi => ?_⟩
    obtain ⟨o, ho, h1⟩ := h.2 i hi
    unfold wpOp
    rw [ho]
    simp only
    rcases h1 with ⟨v, h1, h2⟩ | ⟨hw', D, hD, _, h3, h4⟩
    · obtain ⟨u, hy, hs⟩ := h1 w hw
      rcases hy with ⟨hwt, hq⟩ | ⟨hwt, rfl⟩
      · rw [if_pos hwt]
        refine Or.inl (Oper.wp_of_quiet (C := fun w' => Below w.heap.size w w') (K := fun a' => a' = a.put o.dst v) (Below.refl _ _) (fun a' w' hb he => ?_) ⟨u, hq, hs.put⟩)
        subst he
        exact wpL_any hQ f _ _ C hC h2 w' (hC w w' hw hb)
      · rw [if_neg (by rw [hwt]; exact Bool.false_ne_true), hs.put]
        exact wpL_any hQ f _ _ C hC h2 w hw
    · rw [if_pos hw']
      exact Or.inl (loose_wp (h3 w hw) fun u w' hd => wpL_any hQ f _ _ (D u) (hD u) (h4 u ⟨w', hd⟩) w' hd)

theorem Mild.of_same {I : World → Prop} {o : Oper} {v : Value} {a : Act} {x : Option Tmp} {y : Value} (h : Mild P ops I o v a) (hsel : ∀ cs b, o.op ≠ .select cs b) (hl : ∀ d, x = some d → d ∉ o.looksAt ops) : Mild P ops I o v (a.put x y) := fun w hw => by
  obtain ⟨u, hy, hs⟩ := h w hw
  exact ⟨u, hy.of_same (execOp_put o hsel a x y hl) (wanted_put o a x y hl), hs.at_put⟩
theorem Mild.of_put {I : World → Prop} {o : Oper} {v : Value} {a : Act} {x : Option Tmp} {y : Value} (h : Mild P ops I o v (a.put x y)) (hsel : ∀ cs b, o.op ≠ .select cs b) (hl : ∀ d, x = some d → d ∉ o.looksAt ops) : Mild P ops I o v a := fun w hw => by
  obtain ⟨u, hy, hs⟩ := h w hw
  exact ⟨u, hy.of_same (execOp_put o hsel a x y hl).symm (wanted_put o a x y hl).symm, hs.of_at_put⟩
theorem Mild.weak {I J : World → Prop} {o : Oper} {v : Value} {a : Act} (h : Mild P ops J o v a) (hI : ∀ w, I w → J w) : Mild P ops I o v a := fun w hw => h w (hI w hw)

theorem loose_put {o : Oper} {a : Act} {x : Option Tmp} {y : Value} {w : World} {D : Value → World → Prop} (hsel : ∀ cs b, o.op ≠ .select cs b) (hl : ∀ d, x = some d → d ∉ o.looksAt ops) (h : Oper.loose P o (a.put x y) w D) : Oper.loose P o a w D := by
  unfold Oper.loose at *
  rw [execOp_put o hsel a x y hl] at h
  split at h <;> rename_i hr
  · obtain ⟨u, e, hd⟩ := h; exact ⟨u, e.of_at_put, hd⟩
  · obtain ⟨u, e, hd⟩ := h; exact ⟨u, e.of_at_put, hd⟩
  · exact h.mono fun e w'' ⟨v, he, u, e', hd⟩ => ⟨v, he, u, e'.of_at_put, hd⟩
  · exact h.elim

theorem first_mild {last : Nat} {Q : Act → World → Prop} {I : World → Prop} {i : Nat} {oi : Oper} {v : Value} (hi : ops[i]? = some oi) (hsel : ∀ (j : Nat) (o : Oper) cs b, ops[j]? = some o → o.op ≠ .select cs b)
    (hs : Region.sinkB md ops last = true) (hc : Region.chainB md ops last = true) (hn : last < ops.size) (hil : i < last) (hlast : last + 1 = ops.size) :
    ∀ (f : Nat) (listed : Array Bool) (a : Act) (C : World → Prop), HeadInv md ops last listed →
      (∀ j oj, ops[j]? = some oj → j ≠ i → listed.getD j true = false → (∀ e ∈ oj.after, Region.binds md e = true → e.on ≠ i) → oi.apart ops oj = true) →
      i ∈ Region.ready md ops listed → Mild P ops I oi v a → (∀ w, C w → I w) →
      wpL P md ops last Q I f (listed.setIfInBounds i true) (a.put oi.dst v) C → wpL P md ops last Q I (f + 1) listed a C := by
  intro f
  induction f with
  | zero =>
    intro listed a C inv _ hr hy hCI H
    refine ⟨fun h => (by rw [h] at hr; cases hr), fun j hj => ?_⟩
    by_cases hji : j = i
    · subst hji; exact ⟨oi, hi, .inl ⟨v, hy.weak hCI, H⟩⟩
    · have := ready_mono hj hji
      rw [H.1] at this
      cases this
  | succ f ih =>
    intro listed a C inv hfree hr hy hCI H
    have hun := (mem_ready.1 hr).1
    refine ⟨fun h => (by rw [h] at hr; cases hr), fun j hj => ?_⟩
    have hjn : j < last := Nat.lt_of_not_le fun h => absurd hj (tail_waits hs hc hn inv _ i rfl hil hun j h)
    by_cases hji : j = i
    · subst hji; exact ⟨oi, hi, .inl ⟨v, hy.weak hCI, H⟩⟩
    · obtain ⟨oj', hoj', h1⟩ := H.2 j (ready_mono hj hji)
      obtain ⟨hjun, oj, hoj, hall⟩ := mem_ready.1 hj
      obtain rfl : oj' = oj := Option.some.inj (hoj'.symm.trans hoj)
      have hnot : ∀ e ∈ oj'.after, Region.binds md e = true → e.on ≠ i := fun e he hb heq => by
        have h2 := hall e he hb
        rw [heq, getD_both hun] at h2
        cases h2
      obtain ⟨p1, p2, p3⟩ := Oper.apart_spec (hfree j oj' hoj hji hjun hnot)
      have hfree' : ∀ k ok, ops[k]? = some ok → k ≠ i → (listed.setIfInBounds j true).getD k true = false →
          (∀ e ∈ ok.after, Region.binds md e = true → e.on ≠ i) → oi.apart ops ok = true := fun k ok hk hki hku hno => by
        refine hfree k ok hk hki ?_ hno
        by_cases hjk : j = k
        · subst hjk; exact hjun
        · rw [getD_set_ne true hjk] at hku; exact hku
      have go : ∀ (u : Value) (D : World → Prop), (∀ w, D w → I w) → wpL P md ops last Q I f ((listed.setIfInBounds i true).setIfInBounds j true) ((a.put oi.dst v).put oj'.dst u) D → wpL P md ops last Q I (f + 1) (listed.setIfInBounds j true) (a.put oj'.dst u) D := fun u D hDI h => by
        refine ih (listed.setIfInBounds j true) _ D (inv.set hj hjn) hfree' (ready_mono hr (Ne.symm hji)) (hy.of_same (hsel i oi · · hi) p3) hDI ?_
        rw [Array.setIfInBounds_comm _ _ hji, ← Act.put_comm a v u p2]
        exact h
      refine ⟨oj', hoj, ?_⟩
      rcases h1 with ⟨u, h1, h2⟩ | ⟨hw', D, hD, h2, h3, h4⟩
      · exact .inl ⟨u, h1.of_put (hsel j oj' · · hoj) p1, go u C hCI h2⟩
      · rw [wanted_put oj' a oi.dst v p1] at hw'
        exact .inr ⟨hw', D, hD, h2, fun w hw => loose_put (hsel j oj' · · hoj) p1 (h3 w hw), fun u hu => go u (D u) (h2 (by omega) u) (h4 u hu)⟩
end

/-! ### the order given -/

def pickOps (l : List Oper) : List Nat → List Oper
  | [] => []
  | i :: is => match l[i]? with
    | some o => o :: pickOps l is
    | none => pickOps l is

def lexOrd (md : Region.Mode) (ops : Array Oper) (last : Nat) : List (Nat × Bool) → Array Bool → Bool
  | [], listed => (Region.ready md ops listed).isEmpty
  | (i, true) :: r, listed => (Region.ready md ops listed).contains i && Region.free md ops listed i && decide (i < last) && lexOrd md ops last r (listed.setIfInBounds i true)
  | (j, false) :: r, listed => Region.ready md ops listed == [j] && (decide (j < last) || (j == last && r.isEmpty)) && lexOrd md ops last r (listed.setIfInBounds j true)
def flatSegs : List (List Nat × Nat) → List (Nat × Bool)
  | [] => []
  | (qs, j) :: r => qs.map (·, true) ++ (j, false) :: flatSegs r
/-- no two of the operations share a slot -/
def dstsB : List Oper → Bool
  | [] => true
  | o :: r => (match o.dst with | none => true | some d => r.all fun y => y.dst != some d) && dstsB r
def segsB (l : List Oper) : List (List Nat × Nat) → Bool
  | [] => true
  | (qs, _) :: r => dstsB (pickOps l qs) && segsB l r
def looseB (md : Region.Mode) (l : List Oper) (segs : List (List Nat × Nat)) : Bool :=
  Region.noSelect l.toArray && decide (0 < l.length) && Region.sinkB md l.toArray (l.length - 1) && Region.chainB md l.toArray (l.length - 1) && segsB l segs && lexOrd md l.toArray (l.length - 1) (flatSegs segs) (Array.replicate l.length false)

/-- Q: behind the region. Of each segment: J, what its quiet operations may lean on in whatever world they come up; A, the frame behind them; D, what the loose operation leaves. -/
def wpSegs (P : Program) (l : List Oper) (Q : Act → World → Prop) : (World → Prop) → List (List Nat × Nat) → Act → (World → Prop) → Prop
  | _, [], a, C => ∀ w, C w → Q a w
  | I, (qs, j) :: rest, a, C => ∃ (J : World → Prop) (A : Act), (∀ w, J w → I w) ∧ (∀ w, C w → J w) ∧
    (∀ w0, J w0 → wpQuiet P l.toArray (fun w' => ∃ x : Wld (Below w0.heap.size w0), w' = x.val) (fun a' => a' = A) (pickOps l qs) a) ∧
    ∃ o, l[j]? = some o ∧ Region.wanted o (yielded l.toArray A.tmps) = true ∧ ∃ D : Value → World → Prop, (∀ u, Stable (D u)) ∧ (j ≠ l.length - 1 → ∀ u w, D u w → J w) ∧ (∀ w, C w → Oper.loose P o A w D) ∧ ∀ u, (∃ w, D u w) → wpSegs P l Q J rest (A.put o.dst u) (D u)

section
variable {P : Program} {md : Region.Mode} {ops : Array Oper}

theorem quiet_keeps {C : World → Prop} {A : Act} {d : Nat} : ∀ (k : List Oper) (a : Act), (∀ o ∈ k, o.dst ≠ some d) → wpQuiet P ops C (fun a' => a' = A) k a → A.tmps[d]? = a.tmps[d]?
  | [], a, _, h => by
    have h' : a = A := h
    rw [h']
  | o :: k, a, hk, h => by
    have hput : ∀ v, (a.put o.dst v).tmps[d]? = a.tmps[d]? := fun v => by
      have h1 := hk o (List.mem_cons_self ..)
      cases hd : o.dst with
      | none => rfl
      | some e =>
        rw [hd] at h1
        have : e ≠ d := fun h => h1 (by rw [h])
        simp [Act.put, Array.getElem?_setIfInBounds_ne this]
    unfold wpQuiet at h
    split at h
    · obtain ⟨v, _, h2⟩ := h
      rw [quiet_keeps k _ (fun o ho => hk o (List.mem_cons_of_mem _ ho)) h2, hput]
    · rw [quiet_keeps k _ (fun o ho => hk o (List.mem_cons_of_mem _ ho)) h, hput]

/-- the first of the quiet operations, one value in every world -/
theorem mild_of_quiet {J : World → Prop} {A a : Act} {o : Oper} {k : List Oper} (hd : dstsB (o :: k) = true) (h : ∀ w0, J w0 → wpQuiet P ops (fun w' => ∃ x : Wld (Below w0.heap.size w0), w' = x.val) (fun a' => a' = A) (o :: k) a) (hJ : ∃ w, J w) :
    ∃ v, Mild P ops J o v a ∧ ∀ w0, J w0 → wpQuiet P ops (fun w' => ∃ x : Wld (Below w0.heap.size w0), w' = x.val) (fun a' => a' = A) k (a.put o.dst v) := by
  have step : ∀ w0, J w0 → ∃ v, YieldsIn P ops (fun w' => Below w0.heap.size w0 w') o v a ∧ wpQuiet P ops (fun w' => ∃ x : Wld (Below w0.heap.size w0), w' = x.val) (fun a' => a' = A) k (a.put o.dst v) := fun w0 hw0 => by
    have h1 := h w0 hw0
    have e : (fun w' => ∃ x : Wld (Below w0.heap.size w0), w' = x.val) = (fun w' => Below w0.heap.size w0 w') := by
      funext w'
      exact propext ⟨fun ⟨x, hx⟩ => by rw [hx]; exact x.good, fun hb => ⟨⟨w', hb⟩, rfl⟩⟩
    rw [e] at h1 ⊢
    unfold wpQuiet at h1
    split at h1
    · rename_i hw
      obtain ⟨v, h2, h3⟩ := h1
      exact ⟨v, .inl ⟨hw, h2⟩, h3⟩
    · rename_i hw
      exact ⟨undef, .inr ⟨by simpa using hw, rfl⟩, h1⟩
  simp only [dstsB, Bool.and_eq_true] at hd
  have same : ∀ w0 w1 u v, J w0 → J w1 → wpQuiet P ops (fun w' => ∃ x : Wld (Below w0.heap.size w0), w' = x.val) (fun a' => a' = A) k (a.put o.dst u) → wpQuiet P ops (fun w' => ∃ x : Wld (Below w1.heap.size w1), w' = x.val) (fun a' => a' = A) k (a.put o.dst v) → Same a o.dst u v := fun w0 w1 u v _ _ hu hv d e hlt => by
    rw [e] at hu hv hd
    have hk : ∀ y ∈ k, y.dst ≠ some d := fun y hy => by
      have := List.all_eq_true.1 hd.1 y hy
      simpa using this
    have e1 := quiet_keeps k _ hk hu
    have e2 := quiet_keeps k _ hk hv
    rw [e1] at e2
    simpa [Act.put, hlt] using e2
  obtain ⟨w, hw⟩ := hJ
  obtain ⟨v, _, hv⟩ := step w hw
  refine ⟨v, fun w0 hw0 => ?_, fun w0 hw0 => ?_⟩
  · obtain ⟨u, hu, hk⟩ := step w0 hw0
    exact ⟨u, hu, same w0 w u v hw0 hw hk hv⟩
  · obtain ⟨u, hu, hk⟩ := step w0 hw0
    rw [← (same w0 w u v hw0 hw hk hv).put]
    exact hk

theorem quiet_chain {l : List Oper} {Q : Act → World → Prop} {J C : World → Prop} {A : Act} {tl : List (Nat × Bool)} (hsel : ∀ (j : Nat) (o : Oper) cs b, l.toArray[j]? = some o → o.op ≠ .select cs b)
    (hs : Region.sinkB md l.toArray (l.length - 1) = true) (hc : Region.chainB md l.toArray (l.length - 1) = true) (h0 : 0 < l.length) (hCJ : ∀ w, C w → J w) (hJ : ∃ w, J w)
    (hend : ∀ listed, HeadInv md l.toArray (l.length - 1) listed → lexOrd md l.toArray (l.length - 1) tl listed = true → wpL P md l.toArray (l.length - 1) Q J tl.length listed A C) :
    ∀ (qs : List Nat) (listed : Array Bool) (a : Act), HeadInv md l.toArray (l.length - 1) listed → lexOrd md l.toArray (l.length - 1) (qs.map (·, true) ++ tl) listed = true → dstsB (pickOps l qs) = true →
      (∀ w0, J w0 → wpQuiet P l.toArray (fun w' => ∃ x : Wld (Below w0.heap.size w0), w' = x.val) (fun a' => a' = A) (pickOps l qs) a) →
      wpL P md l.toArray (l.length - 1) Q J (qs.length + tl.length) listed a C
  | [], listed, a, inv, hB, _, h => by
    obtain ⟨w, hw⟩ := hJ
    have e : a = A := h w hw
    subst e
    simpa using hend listed inv (by simpa using hB)
  | i :: qs, listed, a, inv, hB, hd, h => by
    simp only [List.map_cons, List.cons_append, lexOrd, Bool.and_eq_true, decide_eq_true_eq] at hB
    obtain ⟨⟨⟨hr, hf⟩, hil⟩, hB'⟩ := hB
    have hr' : i ∈ Region.ready md l.toArray listed := by simpa using hr
    obtain ⟨_, o, ho, _⟩ := mem_ready.1 hr'
    have ho' : l[i]? = some o := by simpa using ho
    simp only [pickOps, ho'] at hd h
    obtain ⟨v, hm, hk⟩ := mild_of_quiet hd h hJ
    simp only [dstsB, Bool.and_eq_true] at hd
    have hsz : l.toArray.size = l.length := by simp
    rw [show (i :: qs).length + tl.length = (qs.length + tl.length) + 1 by simp only [List.length_cons]; omega]
    exact first_mild ho hsel hs hc (by omega) hil (by omega) _ listed a C inv (Region.free_spec ho hf) hr' hm hCJ
      (quiet_chain hsel hs hc h0 hCJ hJ hend qs _ _ (inv.set hr' hil) hB' hd.2 hk)

theorem wpL_segs {l : List Oper} {Q : Act → World → Prop} (hsel : ∀ (j : Nat) (o : Oper) cs b, l.toArray[j]? = some o → o.op ≠ .select cs b)
    (hs : Region.sinkB md l.toArray (l.length - 1) = true) (hc : Region.chainB md l.toArray (l.length - 1) = true) (h0 : 0 < l.length) :
    ∀ (segs : List (List Nat × Nat)) (I : World → Prop) (listed : Array Bool) (a : Act) (C : World → Prop), (HeadInv md l.toArray (l.length - 1) listed ∨ segs = []) → (∃ w, C w) → segsB l segs = true → lexOrd md l.toArray (l.length - 1) (flatSegs segs) listed = true →
      wpSegs P l Q I segs a C → wpL P md l.toArray (l.length - 1) Q I (flatSegs segs).length listed a C
  | [], I, listed, a, C, _, _, _, hB, h => ⟨by simpa [flatSegs, lexOrd] using hB, h⟩
  | (qs, j) :: rest, I, listed, a, C, inv, hC, hd, hB, h => by
    have inv := inv.resolve_right (by simp)
    obtain ⟨J, A, hJI, hCJ, hq, o, ho, hwant, D, hD, hDJ, hlo, hrest⟩ := h
    simp only [segsB, Bool.and_eq_true] at hd
    refine wpL_mono hJI _ _ _ _ ?_
    simp only [flatSegs] at hB ⊢
    rw [List.length_append, List.length_map]
    refine quiet_chain hsel hs hc h0 hCJ (hC.imp hCJ) (fun listed' inv' hB' => ?_) qs listed a inv hB hd.1 hq
    simp only [lexOrd, Bool.and_eq_true, Bool.or_eq_true, decide_eq_true_eq, beq_iff_eq] at hB'
    obtain ⟨⟨hr, hj⟩, hB'⟩ := hB'
    have hr' : j ∈ Region.ready md l.toArray listed' := by rw [hr]; exact List.mem_singleton.2 rfl
    refine ⟨fun h => (by rw [h] at hr; cases hr), fun i hi => ?_⟩
    rw [hr] at hi
    obtain rfl := List.mem_singleton.1 hi
    refine ⟨o, by simpa using ho, .inr ⟨hwant, D, hD, hDJ, hlo, fun u hu => ?_⟩⟩
    refine wpL_segs hsel hs hc h0 rest J _ _ (D u) ?_ hu hd.2 hB' (hrest u hu)
    rcases hj with hj | ⟨_, hj⟩
    · exact .inl (inv'.set hr' hj)
    · refine .inr ?_
      cases rest with
      | nil => rfl
      | cons x r => obtain ⟨qs', j'⟩ := x; simp [flatSegs] at hj
end

/-- C: what is known of the world when the region is come to; it stays known when memory is made. -/
theorem wp_region_loose {P : Program} {id : Nat} {Q : Exit → Act → World → Prop} {a : Act} {w : World} {l : List Oper} (segs : List (List Nat × Nat)) (C : World → Prop) (hm : P.follows .mixedOrders = true) (hB : looseB .any l segs = true)
    (hlen : (flatSegs segs).length = l.length) (hC : Stable C) (hw : C w.drew) (h : wpSegs P l (Q .normal) C segs a C) : (Code.region id l.toArray true).wp P Q a w := by
  simp only [looseB, Bool.and_eq_true, decide_eq_true_eq] at hB
  obtain ⟨⟨⟨⟨⟨hsel, h0⟩, hs⟩, hc⟩, hd⟩, hlex⟩ := hB
  refine wp_region_any hm ?_
  have hsz : l.toArray.size = l.length := by simp
  have inv0 : HeadInv .any l.toArray (l.length - 1) (Array.replicate l.length false) := ⟨by simp, fun j oj _ hl => (by rw [getD_replicate_false] at hl; cases hl), fun t _ ht => getD_in (by simpa using ht) (getD_replicate_false _ _)⟩
  have H := wpL_segs (P := P) (Q := Q .normal) (Region.noSelect_spec hsel) hs hc h0 segs C _ a C (.inl inv0) ⟨_, hw⟩ hd hlex h
  rw [hlen] at H
  have := wpL_any (Q' := Q) (fun _ _ h => h) _ _ _ _ hC H w.drew hw
  rw [hsz]
  exact this

/-! ### the loose operations, by a walk of one operation -/

def looseOp : Op → Bool
  | .alloc _ | .box .. | .buildSlice .. | .store .. => true
  | .call { callee := .builtin .append, .. } => true
  | _ => false

theorem loose_any {α β : Type} {P : Program} {s : Sem α} {f : α → Sem β} {w w' : World} {n : β} (h : (s >>= f).run P w = .ok n w') : ∃ x w1, (f x).run P w1 = .ok n w' := by
  rw [Sem.run_bind] at h
  cases hs : s.run P w with
  | ok x w1 =>
    rw [hs] at h
    exact ⟨x, w1, h⟩
  | halt x w1 =>
    rw [hs] at h
    simp [Result.andThen] at h
theorem loose_pure {P : Program} {v n : Next} {w w' : World} (h : (pure v : Sem Next).run P w = .ok n w') : n = v := by
  have h' : Result.ok v w = .ok n w' := h
  cases h'
  rfl
theorem loose_value {P : Program} {s : Sem Value} {w w' : World} {n : Next} (h : (do pure (Next.value (← s)) : Sem Next).run P w = .ok n w') : (∃ v, n = .value v) ∨ n = .skip := by
  obtain ⟨x, w1, h1⟩ := loose_any h
  exact .inl ⟨_, loose_pure h1⟩
theorem loose_next {P : Program} {o : Oper} (hc : looseOp o.op = true) {ρ : Operand → Value} {w w' : World} {n : Next} (h : (execOp ρ o).run P w = .ok n w') : (∃ v, n = .value v) ∨ n = .skip := by
  obtain ⟨dst, op, type, pos, after, guard⟩ := o
  cases op
  case call c =>
    obtain ⟨callee, args, tys⟩ := c
    cases callee with
    | value f => simp [looseOp] at hc
    | invoke r m => simp [looseOp] at hc
    | builtin b => cases b <;> first | (simp [looseOp] at hc; done) | exact loose_value h
  case store t x y =>
    obtain ⟨x, w1, h1⟩ := loose_any (s := Instr.storeAt t (ρ x) (ρ y)) (f := fun _ => pure Next.skip) h
    exact .inr (loose_pure h1)
  all_goals first | (simp [looseOp] at hc; done) | exact loose_value h

theorem loose_list {P : Program} {ops : Array Oper} {o : Oper} {A : Act} {w : World} {D : Value → World → Prop} (hc : looseOp o.op = true) (hw : Region.wanted o (yielded ops A.tmps) = true)
    (h : wpList P ops (fun e a' w' => e = .normal ∧ ∃ u, a' = A.put o.dst u ∧ D u w') [o] A w) : Oper.loose P o A w D := by
  unfold wpList at h
  rw [if_pos hw] at h
  rcases h with h | ⟨_, _, _, h, _⟩
  · have h1 := Oper.wp_mono (K' := fun a' w' => ∃ u, a' = A.put o.dst u ∧ D u w') (fun a w h => by exact (show _ ∧ _ from h).2) h
    have h2 : o.wp P A w (fun a' w' => ∃ u, a' = A.put o.dst u ∧ D u w') (fun _ _ _ => False) := by
      unfold Oper.wp at *
      generalize hr : (execOp A.eval o).run P w = r at *
      cases r with
      | ok n w' =>
        rcases loose_next hc hr with ⟨v, rfl⟩ | rfl
        · exact h1
        · exact h1
      | halt x w' =>
        cases x <;> first | exact h1 | exact absurd (show _ ∧ _ from h1).1 (by simp)
    exact loose_of_wp h2 (fun d w' e => by rcases loose_next hc e with ⟨v, h⟩ | h <;> cases h) (fun r x w' e => by rcases loose_next hc e with ⟨v, h⟩ | h <;> cases h)
  · cases h

theorem wpSegs_nil {P : Program} {l : List Oper} {Q : Act → World → Prop} {I C : World → Prop} {a : Act} (h : ∀ w, C w → Q a w) : wpSegs P l Q I [] a C := h
/-- one segment: its quiet operations at J, then the loose one -/
theorem wpSegs_cons {P : Program} {l : List Oper} {Q : Act → World → Prop} {I C : World → Prop} {qs : List Nat} {j : Nat} {rest : List (List Nat × Nat)} {a A : Act} {o : Oper} (J : World → Prop) (D : Value → World → Prop)
    (hJI : ∀ w, J w → I w) (hCJ : ∀ w, C w → J w)
    (hq : ∀ w0, J w0 → wpQuiet P l.toArray (fun w' => ∃ x : Wld (Below w0.heap.size w0), w' = x.val) (fun a' => a' = A) (pickOps l qs) a)
    (ho : l[j]? = some o) (hop : looseOp o.op = true) (hw : Region.wanted o (yielded l.toArray A.tmps) = true)
    (hD : ∀ u, Stable (D u)) (hDJ : j ≠ l.length - 1 → ∀ u w, D u w → J w)
    (hlo : ∀ w, C w → wpList P l.toArray (fun e a' w' => e = .normal ∧ ∃ u, a' = A.put o.dst u ∧ D u w') [o] A w)
    (hrest : ∀ u w, D u w → wpSegs P l Q J rest (A.put o.dst u) (D u)) : wpSegs P l Q I ((qs, j) :: rest) a C :=
  ⟨J, A, hJI, hCJ, hq, o, ho, hw, D, hD, hDJ, fun w hw' => loose_list hop hw (hlo w hw'), fun u ⟨w, h⟩ => hrest u w h⟩
/-- no quiet operation ahead of the loose one -/
theorem wpSegs_cons0 {P : Program} {l : List Oper} {Q : Act → World → Prop} {I C : World → Prop} {j : Nat} {rest : List (List Nat × Nat)} {a : Act} {o : Oper} (D : Value → World → Prop)
    (hCI : ∀ w, C w → I w)
    (ho : l[j]? = some o) (hop : looseOp o.op = true) (hw : Region.wanted o (yielded l.toArray a.tmps) = true)
    (hD : ∀ u, Stable (D u)) (hDI : j ≠ l.length - 1 → ∀ u w, D u w → I w)
    (hlo : ∀ w, C w → wpList P l.toArray (fun e a' w' => e = .normal ∧ ∃ u, a' = a.put o.dst u ∧ D u w') [o] a w)
    (hrest : ∀ u w, D u w → wpSegs P l Q I rest (a.put o.dst u) (D u)) : wpSegs P l Q I (([], j) :: rest) a C :=
  wpSegs_cons I D (fun _ h => h) hCI (fun _ _ => rfl) ho hop hw hD hDI hlo hrest
/-- the frame behind the quiet operations stays out of the walk's sight -/
theorem quiet_hide {P : Program} {ops : Array Oper} {C : World → Prop} {l : List Oper} {a A : Act} (h : ∀ K : Act → Prop, (∀ a', a' = A → K a') → wpQuiet P ops C K l a) : wpQuiet P ops C (fun a' => a' = A) l a := h _ fun _ h => h
end Go.Proofs.YtpfjakcfjpgbmaaGreatDoor
