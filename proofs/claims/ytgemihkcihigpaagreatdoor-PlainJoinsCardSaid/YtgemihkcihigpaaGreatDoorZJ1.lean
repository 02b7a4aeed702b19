/- As GrowTail, but a head may look at a slot that an operation of the tail writes. -/
import Derived.Test.YtgemihkcihigpaaGreatDoorZB4
namespace Go.Proofs.YtgemihkcihigpaaGreatDoor
set_option linter.unusedVariables false
set_option linter.unusedSimpArgs false
open Go Go.RowKit

def growOneU (md : Region.Mode) (l : List Oper) (ds : List Tmp) (n i : Nat) : Bool :=
  match l[i]? with
  | none => true
  | some o => (match o.dst with | some t => ds.any (Nat.beq t) | none => false) &&
    (List.range l.length).all fun j => match l[j]? with
      | none => true
      | some x => (match x.dst with | some t => decide (n ≤ j) || (!looks l o t || Region.waitsFor md l.toArray i j) | none => true) && (i == j || x.dst != o.dst)
def growUB (md : Region.Mode) (l : List Oper) (ds : List Tmp) (n : Nat) : Bool :=
  decide (n < l.length) && Region.sinkB md l.toArray n && Region.chainB md l.toArray n && (List.range n).all (growOneU md l ds n) && Region.seqB md l.toArray (l.length - n) n (headList n (l.length - n)) &&
    (List.range l.length).all fun i => match l[i]? with | none => true | some o => o.after.all fun e => !Region.binds md e || decide (e.on < i)

section
variable {P : Program} {l : List Oper} {ds : List Tmp} {Ds : List Said} {n : Nat} {a : Act} {C : World → Prop} {F : (Tmp → Value) → Act} {Q : Exit → Act → World → Prop}

theorem growu_spec {i : Nat} (h : growUB .any l ds n = true) (hi : i < n) : ∃ o t, l[i]? = some o ∧ o.dst = some t ∧ t ∈ ds ∧ ∀ (j : Nat) (x : Oper) (s : Tmp), l[j]? = some x → x.dst = some s → (j < n → looks l o s = true → Region.waitsFor .any l.toArray i j = true) ∧ (i ≠ j → s ≠ t) := by
  simp only [growUB, Bool.and_eq_true, List.all_eq_true, List.mem_range, decide_eq_true_eq] at h
  have h1 := h.1.1.2 i hi
  have hil : i < l.length := by have := h.1.1.1.1.1; omega
  refine ⟨l[i], ?_⟩
  have ho : l[i]? = some l[i] := List.getElem?_eq_getElem hil
  simp only [growOneU, ho, Bool.and_eq_true, List.all_eq_true, List.mem_range] at h1
  obtain ⟨h2, h3⟩ := h1
  cases hd : l[i].dst with
  | none => rw [hd] at h2; simp at h2
  | some t =>
    rw [hd] at h2
    refine ⟨t, ho, rfl, any_beq.1 h2, fun j x s hx hs => ?_⟩
    have hj : j < l.length := (List.getElem?_eq_some_iff.1 hx).1
    have h4 := h3 j hj
    rw [hx] at h4
    simp only [hs, hd, Bool.and_eq_true, Bool.or_eq_true, Bool.not_eq_true', beq_iff_eq, bne_iff_ne, ne_eq, Option.some.injEq, decide_eq_true_eq] at h4
    exact ⟨fun hjn hl => by rcases h4.1 with h5 | h5 | h5; · omega
                            · rw [hl] at h5; cases h5
                            · exact h5, fun hij => by rcases h4.2 with h5 | h5; · exact absurd h5 hij
                                                      · exact h5⟩

theorem wp_growu_any (hF : ∀ v, setAll ds a v = F v) (hsz : ∀ t ∈ ds, t < a.tmps.size) (hB : growUB .any l ds n = true) (hC : Stable C) (hS : ∀ D ∈ Ds, ∀ v u, Stable (D v u)) (hob : GrowEach P l Ds C F (l.take n) Ds)
    (hend : ∀ (v : Tmp → Value) (w : World), C w → (∀ (j : Nat) (x : Oper) (E : Said) (t : Tmp), l[j]? = some x → Ds[j]? = some E → x.dst = some t → E (mask l x v) (v t) w) → wpList P l.toArray Q (l.drop n) (F v) w) :
    ∀ (f : Nat) (listed : Array Bool) (b : Act) (w : World), l.length ≤ f + (listed.toList.take n).count true → GTInv l ds Ds n a C listed b w → wpAny P .any l.toArray Q f listed b w := by
  have hB' := hB
  simp only [growUB, Bool.and_eq_true, decide_eq_true_eq] at hB'
  obtain ⟨⟨⟨⟨⟨h0, hs⟩, hc⟩, _⟩, hseq⟩, hac⟩ := hB'
  have hn : n < l.toArray.size := by simpa using h0
  obtain ⟨hlen, hat⟩ := growt_at (l.take n) Ds hob
  have hDl : Ds.length = n := by rw [hlen, List.length_take]; omega
  have fin : ∀ (f : Nat) (listed : Array Bool) (b : Act) (w : World), l.length ≤ f + (listed.toList.take n).count true → GTInv l ds Ds n a C listed b w → (∀ k, k < n → listed.getD k false = true) → wpAny P .any l.toArray Q f listed b w := by
    intro f listed b w hf inv hall
    have hb : F (vals b) = b := (hF _).symm.trans (setAll_own inv.defers inv.size inv.out)
    have hle := List.count_le_length (a := true) (l := listed.toList.take n)
    rw [List.length_take] at hle
    have hL : listed = headList n (l.length - n) := heads_all (by omega) (by rw [inv.head.size]; simp) hall (fun t h1 h2 => inv.head.tail t h1 (by simpa using h2))
    have hw := hend (vals b) w inv.c (fun j x E s hx hE hs' => by
      have hj : j < n := by have := (List.getElem?_eq_some_iff.1 hE).1; omega
      exact inv.d j x E s hj (hall j hj) hx hE hs')
    rw [hb] at hw
    refine wpAny_le (f := (l.drop n).length) (wpAny_of_seq (md := .any) (Q' := Q) (l.drop n) n listed b w (fun j => by simp [List.getElem?_drop]) ?_ hw) (by rw [List.length_drop]; omega)
    rw [List.length_drop, hL]
    exact hseq
  intro f
  induction f with
  | zero =>
    intro listed b w hf inv
    exfalso
    have hle := List.count_le_length (a := true) (l := listed.toList.take n)
    rw [List.length_take] at hle
    omega
  | succ f ih =>
    intro listed b w hf inv
    by_cases hall : ∀ k, k < n → listed.getD k false = true
    · exact fin _ listed b w hf inv hall
    · have hb : F (vals b) = b := (hF _).symm.trans (setAll_own inv.defers inv.size inv.out)
      have hsz' : listed.size = l.length := by rw [inv.head.size]; simp
      obtain ⟨k0, hk0⟩ := Classical.not_forall.1 hall
      obtain ⟨hk0n, hk0l⟩ := Classical.not_imp.1 hk0
      have hk0f : listed.getD k0 false = false := by simpa using hk0l
      have hk0t : listed.getD k0 true = false := getD_in (by rw [hsz']; omega) hk0f
      refine ⟨fun h => ?_, fun i hi => ?_⟩
      · exfalso
        obtain ⟨k, hk1, hk2, hk3⟩ := least_of (p := fun i => listed.getD i false = false) k0 hk0f
        have hkl : k < l.length := by omega
        have hr : k ∈ Region.ready .any l.toArray listed := mem_ready.2 ⟨getD_in (by rw [hsz']; exact hkl) hk2, l[k], by simp [hkl], fun e he hb => by
          have h1 := List.all_eq_true.1 hac k (List.mem_range.2 hkl)
          rw [List.getElem?_eq_getElem hkl] at h1
          have h2 := Array.all_eq_true'.1 h1 e he
          rw [hb] at h2
          have h3 := hk3 e.on (by simpa using h2)
          simpa using h3⟩
        rw [h] at hr
        cases hr
      · have hin : i < n := Nat.lt_of_not_le fun h => absurd hi (tail_waits hs hc hn inv.head _ k0 rfl hk0n hk0t i h)
        obtain ⟨hiu, oi, hoi, hall'⟩ := mem_ready.1 hi
        have hil : i < l.length := by omega
        have hlD : ∀ {j : Nat} {E : Said}, Ds[j]? = some E → j < n := fun hE => by have := (List.getElem?_eq_some_iff.1 hE).1; omega
        obtain ⟨o, t, ho, ht, hds, hsp⟩ := growu_spec hB hin
        obtain rfl : oi = o := by rw [List.getElem?_toArray] at hoi; exact Option.some.inj (hoi.symm.trans ho)
        obtain ⟨D, hD, hg⟩ := hat i oi (by rw [List.getElem?_take_of_lt hin]; exact ho)
        have hdep : ∀ (j : Nat) (x : Oper) (E : Said) (s : Tmp), l[j]? = some x → Ds[j]? = some E → x.dst = some s → looks l oi s = true → E (mask l x (vals b)) (vals b s) w := fun j x E s hx hE hs' hl => by
          obtain ⟨oj, hoj, e, he, hb1, hb2⟩ := Region.waitsFor_spec ((hsp j x s hx hs').1 (hlD hE) hl)
          obtain rfl : oi = oj := Option.some.inj (hoi.symm.trans hoj)
          have := hall' e he hb1
          rw [hb2] at this
          exact inv.d j x E s (hlD hE) this hx hE hs'
        have hself : looks l oi t = false := by
          cases hl : looks l oi t with
          | false => rfl
          | true =>
            obtain ⟨oj, hoj, e, he, hb1, hb2⟩ := Region.waitsFor_spec ((hsp i oi t ho ht).1 hin hl)
            obtain rfl : oi = oj := Option.some.inj (hoi.symm.trans hoj)
            have := hall' e he hb1
            rw [hb2, getD_both hiu] at this
            cases this
        have hw := hg (vals b) w inv.c hdep
        rw [hb] at hw
        refine one_op hoi hw fun b' w' hR => ?_
        obtain ⟨u, rfl, hbl, hDu⟩ := hR
        rw [ht]
        have htz : t < b.tmps.size := by rw [inv.size]; exact hsz t hds
        refine ih _ _ _ ?_ ⟨inv.head.set hi hin, inv.defers, (size_put _ _ _).trans inv.size, fun s hs' => ?_, hC w w' inv.c hbl, fun j x E s hj hlj hx hE hs' => ?_⟩
        · have hsz2 : i < (listed.toList.take n).length := by rw [List.length_take, Array.length_toList, hsz']; omega
          have e : (listed.toList.take n)[i] = false := by
            have : i < listed.size := by omega
            have h2 : listed[i] = false := by simpa [this] using hiu
            simpa using h2
          have e2 : ((listed.setIfInBounds i true).toList.take n) = (listed.toList.take n).set i true := by
            rw [Array.toList_setIfInBounds, List.take_set]
          rw [e2, List.count_set hsz2, e]
          simp
          omega
        · rw [show (b.put (some t) u).tmps = b.tmps.setIfInBounds t u from rfl, Array.getElem?_setIfInBounds_ne (fun e : t = s => hs' (by rw [← e]; exact hds))]
          exact inv.out s hs'
        · by_cases hji : i = j
          · subst hji
            obtain rfl : oi = x := Option.some.inj (ho.symm.trans hx)
            obtain rfl : D = E := Option.some.inj (hD.symm.trans hE)
            obtain rfl : t = s := Option.some.inj (ht.symm.trans hs')
            rw [mask_put hself, vals_eq htz]
            exact hDu
          · rw [getD_set_ne false hji] at hlj
            have hlk : looks l x t = false := by
              cases hl : looks l x t with
              | false => rfl
              | true =>
                obtain ⟨_, _, hx', _, _, hsp'⟩ := growu_spec hB hj
                obtain rfl := Option.some.inj (hx.symm.trans hx')
                obtain ⟨oj, hoj, e, he, hb1, hb2⟩ := Region.waitsFor_spec ((hsp' i oi t ho ht).1 hin hl)
                have := inv.head.closed j oj hoj hlj e he hb1
                rw [hb2, getD_both hiu] at this
                cases this
            rw [mask_put hlk, vals_ne ((hsp j x s hx hs').2 hji)]
            exact hS E (List.mem_of_getElem? hE) _ _ w w' (inv.d j x E s hj hlj hx hE hs') hbl

/-- a region that draws its order: ds, the slots that the first n write; Ds, what is said of each value; F, the frame behind them; the rest is walked as ever -/
theorem wp_region_growu {id : Nat} {w : World} (n : Nat) (ds : List Tmp) (Ds : List Said) (C : World → Prop) (hF : ∀ v, setAll ds a v = F v) (hm : P.follows .mixedOrders = true) (hB : growUB .any l ds n = true) (hsz : (ds.all fun t => decide (t < a.tmps.size)) = true)
    (hC : Stable C) (hw : C w.drew) (hS : ∀ D ∈ Ds, ∀ v u, Stable (D v u)) (hob : GrowEach P l Ds C F (l.take n) Ds)
    (hend : ∀ (v : Tmp → Value) (w : World), C w → (∀ (j : Nat) (x : Oper) (E : Said) (t : Tmp), l[j]? = some x → Ds[j]? = some E → x.dst = some t → E (mask l x v) (v t) w) → wpList P l.toArray Q (l.drop n) (F v) w) : (Code.region id l.toArray true).wp P Q a w := by
  refine wp_region_any hm ?_
  refine wp_growu_any hF (fun t ht => by simpa using List.all_eq_true.1 hsz t ht) hB hC hS hob hend _ _ a w.drew (by simp) ⟨⟨by simp, fun j oj _ hl => (by rw [getD_replicate_false] at hl; cases hl), fun t _ ht => getD_in (by simpa using ht) (getD_replicate_false _ _)⟩, rfl, rfl, fun _ _ => rfl, hw, fun j x E s hj hl => ?_⟩
  rw [getD_replicate_false] at hl
  cases hl
end
end Go.Proofs.YtgemihkcihigpaaGreatDoor
