/- A region that draws its order, every operation of which but the last only makes memory: each operation is walked once, against what is said of the operations whose values it looks at. -/
import Derived.Test.YtpfjakcfjpgbmaaGreatDoorLoose
namespace Go.Proofs.YtpfjakcfjpgbmaaGreatDoor
set_option linter.unusedVariables false
set_option linter.unusedSimpArgs false
open Go Go.RowKit

/-- the walk of one operation ends here -/
def Ends (R : Act → World → Prop) : Exit → Act → World → Prop := fun e a w => e = .normal ∧ R a w
theorem wp_ends {P : Program} {o : Oper} {a : Act} {w : World} {K R : Act → World → Prop} {Q : Exit → Act → World → Prop} (h : Oper.wp P o a w K (Ends R)) : Oper.wp P o a w K Q := by
  unfold Oper.wp at *
  generalize (execOp a.eval o).run P w = r at *
  cases r with
  | ok n w' =>
    cases n with
    | enter f args =>
      refine Calls.mono h fun e w'' he => ?_
      cases e with
      | returned v => exact he
      | panicked c => exact absurd he.1 (by simp)
      | outgrown => obtain ⟨_, _, he, _⟩ := he; cases he
    | _ => exact h
  | halt x w' => cases x <;> first | exact h | exact absurd h.1 (by simp)
theorem one_op {P : Program} {ops : Array Oper} {o : Oper} {a : Act} {w : World} {R K : Act → World → Prop} {i : Nat} {Q : Exit → Act → World → Prop} (hi : ops[i]? = some o) (h : wpList P ops (Ends R) [o] a w) (hk : ∀ a w, R a w → K a w) : wpOp P ops Q i K a w := by
  unfold wpOp
  rw [hi]
  unfold wpList at h
  simp only
  by_cases hw : Region.wanted o (yielded ops a.tmps) = true
  · rw [if_pos hw] at h ⊢
    rcases h with h | ⟨_, _, _, h, _⟩
    · exact .inl (Oper.wp_mono (fun a w h => hk a w h.2) (wp_ends h))
    · cases h
  · rw [if_neg hw] at h ⊢
    exact hk _ _ h.2

def setAll (ds : List Tmp) (a : Act) (v : Tmp → Value) : Act := ds.foldl (fun b t => b.put (some t) (v t)) a
def vals (a : Act) (t : Tmp) : Value := (a.tmps[t]?).getD undef
theorem setAll_defers (v : Tmp → Value) : ∀ (ds : List Tmp) (a : Act), (setAll ds a v).defers = a.defers
  | [], _ => rfl
  | t :: r, a => setAll_defers v r (a.put (some t) (v t))
theorem setAll_at (v : Tmp → Value) (k : Nat) : ∀ (ds : List Tmp) (a : Act), (setAll ds a v).tmps[k]? = if k ∈ ds ∧ k < a.tmps.size then some (v k) else a.tmps[k]?
  | [], a => by simp [setAll]
  | t :: r, a => by
    have h := setAll_at v k r (a.put (some t) (v t))
    show (setAll r (a.put (some t) (v t)) v).tmps[k]? = _
    rw [h, size_put]
    simp only [Act.put, List.mem_cons]
    by_cases hk : k < a.tmps.size
    · by_cases h1 : k ∈ r
      · simp [h1, hk]
      · by_cases h2 : k = t
        · subst h2; simp [h1, hk]
        · rw [Array.getElem?_setIfInBounds_ne (Ne.symm h2)]
          simp [h1, h2]
    · have e : a.tmps[k]? = none := Array.getElem?_eq_none (Nat.le_of_not_lt hk)
      simp only [hk, and_false, if_false]
      rw [e]
      exact Array.getElem?_eq_none (by simp; omega)
theorem setAll_own {ds : List Tmp} {a b : Act} (hd : b.defers = a.defers) (hs : b.tmps.size = a.tmps.size) (ho : ∀ t, t ∉ ds → b.tmps[t]? = a.tmps[t]?) : setAll ds a (vals b) = b := by
  have h1 : (setAll ds a (vals b)).tmps = b.tmps := by
    apply Array.ext_getElem?
    intro k
    rw [setAll_at]
    split
    · rename_i h
      have : k < b.tmps.size := by rw [hs]; exact h.2
      simp [vals, this]
    · rename_i h
      by_cases h2 : k ∈ ds
      · have h3 : ¬ k < a.tmps.size := fun h3 => h ⟨h2, h3⟩
        rw [Array.getElem?_eq_none (Nat.le_of_not_lt h3), Array.getElem?_eq_none (by rw [hs]; exact Nat.le_of_not_lt h3)]
      · exact (ho k h2).symm
  have h2 := (setAll_defers (vals b) ds a).trans hd.symm
  cases b
  cases h : setAll ds a (vals _)
  rw [h] at h1 h2
  simp only at h1 h2
  rw [h1, h2]

/-- the values that an operation looks at -/
def looks (l : List Oper) (o : Oper) (t : Tmp) : Bool := (o.looksAt l.toArray).any (Nat.beq t)
def mask (l : List Oper) (o : Oper) (v : Tmp → Value) : Tmp → Value := fun t => bif looks l o t then v t else undef
/-- what is said of an operation's value: v, the values that it looks at -/
abbrev Said := (Tmp → Value) → Value → World → Prop
def growOne (md : Region.Mode) (l : List Oper) (ds : List Tmp) (i : Nat) : Bool :=
  match l[i]? with
  | none => true
  | some o => (match o.dst with | some t => ds.any (Nat.beq t) | none => false) &&
    (List.range l.length).all fun j => match l[j]? with
      | none => true
      | some x => (match x.dst with | some t => !looks l o t || Region.waitsFor md l.toArray i j | none => true) && (i == j || x.dst != o.dst)
def growB (md : Region.Mode) (l : List Oper) (ds : List Tmp) : Bool :=
  decide (0 < l.length) && Region.sinkB md l.toArray (l.length - 1) && Region.chainB md l.toArray (l.length - 1) && (List.range (l.length - 1)).all (growOne md l ds) &&
    (List.range l.length).all fun i => match l[i]? with | none => true | some o => o.after.all fun e => !Region.binds md e || decide (e.on < i)

theorem mask_put {l : List Oper} {o : Oper} {a : Act} {t : Tmp} {u : Value} (h : looks l o t = false) : mask l o (vals (a.put (some t) u)) = mask l o (vals a) := by
  funext s
  unfold mask
  by_cases e : s = t
  · subst e; rw [h]; rfl
  · simp only [vals, Act.put]
    rw [Array.getElem?_setIfInBounds_ne (Ne.symm e)]
theorem vals_ne {a : Act} {t s : Tmp} {u : Value} (h : s ≠ t) : vals (a.put (some t) u) s = vals a s := by
  simp only [vals, Act.put]
  rw [Array.getElem?_setIfInBounds_ne (Ne.symm h)]
theorem vals_eq {a : Act} {t : Tmp} {u : Value} (h : t < a.tmps.size) : vals (a.put (some t) u) t = u := by
  simp [vals, Act.put, h]

structure GInv (l : List Oper) (ds : List Tmp) (Ds : List Said) (a : Act) (C : World → Prop) (listed : Array Bool) (b : Act) (w : World) : Prop where
  head : HeadInv .any l.toArray (l.length - 1) listed
  defers : b.defers = a.defers
  size : b.tmps.size = a.tmps.size
  out : ∀ t, t ∉ ds → b.tmps[t]? = a.tmps[t]?
  c : C w
  d : ∀ (j : Nat) (o : Oper) (D : Said) (t : Tmp), j < l.length - 1 → listed.getD j false = true → l[j]? = some o → Ds[j]? = some D → o.dst = some t → D (mask l o (vals b)) (vals b t) w

/-- one operation of the region -/
def GrowAt (P : Program) (l : List Oper) (Ds : List Said) (C : World → Prop) (F : (Tmp → Value) → Act) (o : Oper) (D : Said) : Prop :=
  ∀ (v : Tmp → Value) (w : World), C w → (∀ (j : Nat) (x : Oper) (E : Said) (t : Tmp), l[j]? = some x → Ds[j]? = some E → x.dst = some t → looks l o t = true → E (mask l x v) (v t) w) →
    wpList P l.toArray (Ends fun b w' => ∃ u, b = (F v).put o.dst u ∧ Below w.heap.size w w' ∧ D (mask l o v) u w') [o] (F v) w
def GrowAll (P : Program) (l : List Oper) (Ds : List Said) (C : World → Prop) (F : (Tmp → Value) → Act) : List Oper → List Said → Prop
  | [_], [] => True
  | o :: r, D :: Dr => GrowAt P l Ds C F o D ∧ GrowAll P l Ds C F r Dr
  | _, _ => False
theorem grow_nil {P : Program} {l : List Oper} {Ds : List Said} {C : World → Prop} {F : (Tmp → Value) → Act} {o : Oper} : GrowAll P l Ds C F [o] [] := trivial
theorem grow_cons {P : Program} {l : List Oper} {Ds : List Said} {C : World → Prop} {F : (Tmp → Value) → Act} {o : Oper} {r : List Oper} {D : Said} {Dr : List Said}
    (h : ∀ (v : Tmp → Value) (w : World), C w → (∀ (j : Nat) (x : Oper) (E : Said) (t : Tmp), l[j]? = some x → Ds[j]? = some E → x.dst = some t → looks l o t = true → E (mask l x v) (v t) w) →
      wpList P l.toArray (fun e b w' => e = .normal ∧ ∃ u, b = (F v).put o.dst u ∧ Below w.heap.size w w' ∧ D (mask l o v) u w') [o] (F v) w)
    (hr : GrowAll P l Ds C F r Dr) : GrowAll P l Ds C F (o :: r) (D :: Dr) := by
  cases r with
  | nil => cases Dr <;> exact hr.elim
  | cons x r => exact ⟨h, hr⟩
theorem grow_at {P : Program} {l : List Oper} {Ds : List Said} {C : World → Prop} {F : (Tmp → Value) → Act} : ∀ (r : List Oper) (Dr : List Said), GrowAll P l Ds C F r Dr → Dr.length + 1 = r.length ∧ ∀ (i : Nat) (o : Oper), i + 1 < r.length → r[i]? = some o → ∃ D, Dr[i]? = some D ∧ GrowAt P l Ds C F o D
  | [_], [], _ => ⟨rfl, fun i o h => by simp at h⟩
  | o :: x :: r, D :: Dr, h => by
    obtain ⟨h1, h2⟩ := h
    obtain ⟨h3, h4⟩ := grow_at (x :: r) Dr h2
    refine ⟨by simp at h3 ⊢; omega, fun i y hi hy => ?_⟩
    cases i with
    | zero => simp at hy; subst hy; exact ⟨D, rfl, h1⟩
    | succ i => exact h4 i y (by simpa using hi) (by simpa using hy)
  | [], [], h => h.elim
  | [], _ :: _, h => h.elim
  | [_], _ :: _, h => by have := h.2; cases ‹List Said› <;> exact this.elim
  | _ :: _ :: _, [], h => h.elim

theorem any_beq {l : List Nat} {t : Nat} : l.any (Nat.beq t) = true ↔ t ∈ l := by
  rw [List.any_eq_true]
  exact ⟨fun ⟨x, hx, e⟩ => (Nat.eq_of_beq_eq_true e) ▸ hx, fun h => ⟨t, h, Nat.beq_refl t⟩⟩

theorem least_of {p : Nat → Prop} (n : Nat) (h : p n) : ∃ k, k ≤ n ∧ p k ∧ ∀ j, j < k → ¬ p j := by
  induction n using Nat.strongRecOn with
  | _ n ih =>
    by_cases hx : ∃ m, m < n ∧ p m
    · obtain ⟨m, hm, hp⟩ := hx
      obtain ⟨k, h1, h2, h3⟩ := ih m hm hp
      exact ⟨k, by omega, h2, h3⟩
    · exact ⟨n, Nat.le_refl _, h, fun j hj hp => hx ⟨j, hj, hp⟩⟩

section
variable {P : Program} {l : List Oper} {ds : List Tmp} {Ds : List Said} {a : Act} {C : World → Prop} {F : (Tmp → Value) → Act} {Q : Exit → Act → World → Prop}

theorem grow_spec {i : Nat} (h : growB .any l ds = true) (hi : i < l.length - 1) : ∃ o t, l[i]? = some o ∧ o.dst = some t ∧ t ∈ ds ∧ ∀ (j : Nat) (x : Oper) (s : Tmp), l[j]? = some x → x.dst = some s → (looks l o s = true → Region.waitsFor .any l.toArray i j = true) ∧ (i ≠ j → s ≠ t) := by
  simp only [growB, Bool.and_eq_true, List.all_eq_true, List.mem_range] at h
  have h1 := h.1.2 i hi
  have hil : i < l.length := by omega
  refine ⟨l[i], ?_⟩
  have ho : l[i]? = some l[i] := List.getElem?_eq_getElem hil
  simp only [growOne, ho, Bool.and_eq_true, List.all_eq_true, List.mem_range] at h1
  obtain ⟨h2, h3⟩ := h1
  cases hd : l[i].dst with
  | none => rw [hd] at h2; simp at h2
  | some t =>
    rw [hd] at h2
    refine ⟨t, ho, rfl, any_beq.1 h2, fun j x s hx hs => ?_⟩
    have hj : j < l.length := (List.getElem?_eq_some_iff.1 hx).1
    have h4 := h3 j hj
    rw [hx] at h4
    simp only [hs, hd, Bool.and_eq_true, Bool.or_eq_true, Bool.not_eq_true', beq_iff_eq, bne_iff_ne, ne_eq, Option.some.injEq] at h4
    exact ⟨fun hl => by rcases h4.1 with h5 | h5; · rw [hl] at h5; cases h5
                        · exact h5, fun hij => by rcases h4.2 with h5 | h5; · exact absurd h5 hij
                                                  · exact h5⟩

theorem wp_grow_any (hF : ∀ v, setAll ds a v = F v) (hsz : ∀ t ∈ ds, t < a.tmps.size) (hB : growB .any l ds = true) (hC : Stable C) (hS : ∀ D ∈ Ds, ∀ v u, Stable (D v u)) (hob : GrowAll P l Ds C F l Ds)
    (hend : ∀ (v : Tmp → Value) (w : World), C w → (∀ (j : Nat) (x : Oper) (E : Said) (t : Tmp), l[j]? = some x → Ds[j]? = some E → x.dst = some t → E (mask l x v) (v t) w) → ∀ o, l[l.length - 1]? = some o → wpList P l.toArray (Ends (Q .normal)) [o] (F v) w) :
    ∀ (f : Nat) (listed : Array Bool) (b : Act) (w : World), listed.count false ≤ f → GInv l ds Ds a C listed b w → wpAny P .any l.toArray Q f listed b w := by
  have hB' := hB
  simp only [growB, Bool.and_eq_true, decide_eq_true_eq] at hB'
  obtain ⟨⟨⟨⟨h0, hs⟩, hc⟩, _⟩, hac⟩ := hB'
  have hn : l.length - 1 < l.toArray.size := by simp; omega
  obtain ⟨hlen, hat⟩ := grow_at l Ds hob
  intro f
  induction f with
  | zero =>
    intro listed b w hf inv
    have h1 := inv.head.tail (l.length - 1) (Nat.le_refl _) (by simp; omega)
    have h2 : l.length - 1 < listed.size := by rw [inv.head.size]; simp; omega
    have h3 : false ∈ listed := by
      have e : listed[l.length - 1] = false := by simpa [h2] using h1
      exact e ▸ Array.getElem_mem h2
    have := Array.count_pos_iff.2 h3
    omega
  | succ f ih =>
    intro listed b w hf inv
    have hb : F (vals b) = b := (hF _).symm.trans (setAll_own inv.defers inv.size inv.out)
    have hun := inv.head.tail (l.length - 1) (Nat.le_refl _) (by simp; omega)
    refine ⟨fun h => ?_, fun i hi => ?_⟩
    · exfalso
      obtain ⟨k, hk1, hk2, hk3⟩ := least_of (p := fun i => listed.getD i false = false) (l.length - 1) (getD_both hun)
      have hkl : k < l.length := by omega
      have hsz' : listed.size = l.length := by rw [inv.head.size]; simp
      have hr : k ∈ Region.ready .any l.toArray listed := mem_ready.2 ⟨getD_in (by rw [hsz']; exact hkl) hk2, l[k], by simp [hkl], fun e he hb => by
        have h1 := List.all_eq_true.1 hac k (List.mem_range.2 hkl)
        rw [List.getElem?_eq_getElem hkl] at h1
        have h2 := Array.all_eq_true'.1 h1 e he
        rw [hb] at h2
        have h3 := hk3 e.on (by simpa using h2)
        simpa using h3⟩
      rw [h] at hr
      cases hr
    · obtain ⟨hiu, oi, hoi, hall⟩ := mem_ready.1 hi
      have hil : i < l.length := by have := (Array.getElem?_eq_some_iff.1 hoi).1; simpa using this
      have hlD : ∀ {j : Nat} {E : Said}, Ds[j]? = some E → j < l.length - 1 := fun hE => by have := (List.getElem?_eq_some_iff.1 hE).1; omega
      by_cases hin : i < l.length - 1
      · obtain ⟨o, t, ho, ht, hds, hsp⟩ := grow_spec hB hin
        obtain rfl : oi = o := by rw [List.getElem?_toArray] at hoi; exact Option.some.inj (hoi.symm.trans ho)
        obtain ⟨D, hD, hg⟩ := hat i oi (by omega) ho
        have hdep : ∀ (j : Nat) (x : Oper) (E : Said) (s : Tmp), l[j]? = some x → Ds[j]? = some E → x.dst = some s → looks l oi s = true → E (mask l x (vals b)) (vals b s) w := fun j x E s hx hE hs' hl => by
          obtain ⟨oj, hoj, e, he, hb1, hb2⟩ := Region.waitsFor_spec ((hsp j x s hx hs').1 hl)
          obtain rfl : oi = oj := Option.some.inj (hoi.symm.trans hoj)
          have := hall e he hb1
          rw [hb2] at this
          exact inv.d j x E s (hlD hE) this hx hE hs'
        have hself : looks l oi t = false := by
          cases hl : looks l oi t with
          | false => rfl
          | true =>
            obtain ⟨oj, hoj, e, he, hb1, hb2⟩ := Region.waitsFor_spec ((hsp i oi t ho ht).1 hl)
            obtain rfl : oi = oj := Option.some.inj (hoi.symm.trans hoj)
            have := hall e he hb1
            rw [hb2, getD_both hiu] at this
            cases this
        have hw := hg (vals b) w inv.c hdep
        rw [hb] at hw
        refine one_op hoi hw fun b' w' hR => ?_
        obtain ⟨u, rfl, hbl, hDu⟩ := hR
        rw [ht]
        have htz : t < b.tmps.size := by rw [inv.size]; exact hsz t hds
        refine ih _ _ _ ?_ ⟨inv.head.set hi hin, inv.defers, (size_put _ _ _).trans inv.size, fun s hs' => ?_, hC w w' inv.c hbl, fun j x E s hj hlj hx hE hs' => ?_⟩
        · have hsz' : i < listed.size := by rw [inv.head.size]; simpa using hil
          have e : listed[i] = false := by simpa [hsz'] using hiu
          have := Array.count_set (a := false) (b := true) (xs := listed) (i := i) hsz'
          rw [Array.setIfInBounds, dif_pos hsz', Array.count_set hsz']
          have hpos : 0 < listed.count false := Array.count_pos_iff.2 (e ▸ Array.getElem_mem hsz')
          simp [e]
          omega
        · rw [show (b.put (some t) u).tmps = b.tmps.setIfInBounds t u from rfl, Array.getElem?_setIfInBounds_ne (fun e : t = s => hs' (by rw [← e]; exact hds))]
          exact inv.out s hs'
        · by_cases hji : i = j
          · subst hji
            obtain rfl : oi = x := Option.some.inj (ho.symm.trans hx)
            obtain rfl : D = E := Option.some.inj (hD.symm.trans hE)
            obtain rfl : t = s := Option.some.inj (ht.symm.trans hs')
            rw [mask_put hself, vals_eq htz]
            exact hDu
          · rw [getD_set_ne false hji] at hlj
            have hlk : looks l x t = false := by
              cases hl : looks l x t with
              | false => rfl
              | true =>
                obtain ⟨_, _, hx', _, _, hsp'⟩ := grow_spec hB hj
                obtain rfl := Option.some.inj (hx.symm.trans hx')
                obtain ⟨oj, hoj, e, he, hb1, hb2⟩ := Region.waitsFor_spec ((hsp' i oi t ho ht).1 hl)
                have := inv.head.closed j oj hoj hlj e he hb1
                rw [hb2, getD_both hiu] at this
                cases this
            rw [mask_put hlk, vals_ne ((hsp j x s hx hs').2 hji)]
            exact hS E (List.mem_of_getElem? hE) _ _ w w' (inv.d j x E s hj hlj hx hE hs') hbl
      · have hil' : i = l.length - 1 := by omega
        subst hil'
        have hlt : ∀ k, k < l.length - 1 → listed.getD k true = true := fun k hk => by
          cases h : listed.getD k true with
          | true => rfl
          | false => exact absurd hi (tail_waits hs hc hn inv.head _ k rfl hk h (l.length - 1) (Nat.le_refl _))
        have hsz' : listed.size = l.length := by rw [inv.head.size]; simp
        have hlt' : ∀ k, k < l.length - 1 → listed.getD k false = true := fun k hk => by
          have h := hlt k hk
          have : k < listed.size := by omega
          simpa [this] using h
        have hw := hend (vals b) w inv.c (fun j x E s hx hE hs' => inv.d j x E s (hlD hE) (hlt' j (hlD hE)) hx hE hs') oi (by simpa using hoi)
        rw [hb] at hw
        refine one_op hoi hw fun b' w' hR => ?_
        have hr : Region.ready .any l.toArray (listed.setIfInBounds (l.length - 1) true) = [] := by
          rw [List.eq_nil_iff_forall_not_mem]
          intro k hk
          obtain ⟨hku, ok, hok, _⟩ := mem_ready.1 hk
          have hkl : k < l.length := by have := (Array.getElem?_eq_some_iff.1 hok).1; simpa using this
          by_cases e : l.length - 1 = k
          · subst e
            have : l.length - 1 < listed.size := by omega
            simp [this] at hku
          · rw [getD_set_ne true e, hlt k (by omega)] at hku
            cases hku
        cases f with
        | zero => exact ⟨hr, hR⟩
        | succ f => exact ⟨fun _ => hR, fun k hk => by rw [hr] at hk; cases hk⟩

/-- a region that draws its order: ds, the slots that all but the last write; Ds, what is said of each value; F, the frame behind them all -/
theorem wp_region_grow {id : Nat} {w : World} (ds : List Tmp) (Ds : List Said) (C : World → Prop) (hF : ∀ v, setAll ds a v = F v) (hm : P.follows .mixedOrders = true) (hB : growB .any l ds = true) (hsz : (ds.all fun t => decide (t < a.tmps.size)) = true)
    (hC : Stable C) (hw : C w.drew) (hS : ∀ D ∈ Ds, ∀ v u, Stable (D v u)) (hob : GrowAll P l Ds C F l Ds)
    (hend : ∀ (v : Tmp → Value) (w : World), C w → (∀ (j : Nat) (x : Oper) (E : Said) (t : Tmp), l[j]? = some x → Ds[j]? = some E → x.dst = some t → E (mask l x v) (v t) w) → ∀ o, l[l.length - 1]? = some o → wpList P l.toArray (fun e b w' => e = .normal ∧ Q .normal b w') [o] (F v) w) : (Code.region id l.toArray true).wp P Q a w := by
  refine wp_region_any hm ?_
  refine wp_grow_any hF (fun t ht => by simpa using List.all_eq_true.1 hsz t ht) hB hC hS hob hend _ _ a w.drew (Nat.le_trans Array.count_le_size (by simp)) ⟨⟨by simp, fun j oj _ hl => (by rw [getD_replicate_false] at hl; cases hl), fun t _ ht => getD_in (by simpa using ht) (getD_replicate_false _ _)⟩, rfl, rfl, fun _ _ => rfl, hw, fun j x E s hj hl => ?_⟩
  rw [getD_replicate_false] at hl
  cases hl
end
end Go.Proofs.YtpfjakcfjpgbmaaGreatDoor
