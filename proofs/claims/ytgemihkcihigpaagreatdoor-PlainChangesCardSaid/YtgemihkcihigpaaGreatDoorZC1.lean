/- As GrowTail, but a head may look at a slot that an operation of the tail writes. -/
import Derived.Test.YtgemihkcihigpaaGreatDoorZB6
set_option linter.unusedVariables false
set_option linter.unusedSimpArgs false
namespace Go.Proofs.YtgemihkcihigpaaGreatDoor
section
open Go Go.RowKit
def growOneU (md : Region.Mode) (l : List Oper) (ds : List Tmp) (n i : Nat) : Bool :=
 match l[i]? with
 | none => true
 | some o => (match o.dst with | some t => ds.any (Nat.beq t) | none => false) &&
  (List.range l.length).all fun j => match l[j]? with
   | none => true
   | some x => (match x.dst with | some t => decide (n <= j) || (!looks l o t || Region.waitsFor md l.toArray i j) | none => true) && (i == j || x.dst != o.dst)
def growUB (md : Region.Mode) (l : List Oper) (ds : List Tmp) (n : Nat) : Bool :=
 decide (n < l.length) && Region.sinkB md l.toArray n && Region.chainB md l.toArray n && (List.range n).all (growOneU md l ds n) && Region.seqB md l.toArray (l.length - n) n (headList n (l.length - n)) &&
  (List.range l.length).all fun i => match l[i]? with | none => true | some o => o.after.all fun e => !Region.binds md e || decide (e.on < i)
section
variable {P : Program} {l : List Oper} {ds : List Tmp} {Ds : List Said} {n : Nat} {a : Act} {C : World -> Prop} {F : (Tmp -> Value) -> Act} {Q : Exit -> Act -> World -> Prop}
end
end
section
open Go Go.RowKit
abbrev Joint := (Nat -> Bool) -> (Tmp -> Value) -> World -> Prop
def set1 (L : Nat -> Bool) (i : Nat) : Nat -> Bool := fun j => if j = i then true else L j
def upd (v : Tmp -> Value) (t : Option Tmp) (u : Value) : Tmp -> Value := fun s => if t = some s then u else v s
def JStep (l : List Oper) (J : Joint) (i : Nat) (v : Tmp -> Value) (t : Option Tmp) (u : Value) (w w' : World) : Prop := ∀ L, L i = false -> (∀ j, Region.waitsFor .any l.toArray i j = true -> L j = true) -> J L v w -> J (set1 L i) (upd v t u) w'
theorem set1_eq {A : Array Bool} {i : Nat} (h : i < A.size) : (fun j => (A.setIfInBounds i true).getD j false) = set1 (fun j => A.getD j false) i := by
 funext j
 unfold set1
 by_cases e : j = i
 · subst e
   rw [if_pos rfl]
   simp [h]
 · rw [if_neg e, getD_set_ne false (Ne.symm e)]
theorem vals_put {b : Act} {t : Option Tmp} {u : Value} (h : ∀ s, t = some s -> s < b.tmps.size) : vals (b.put t u) = upd (vals b) t u := by
 funext s
 unfold upd
 cases t with
 | none => rw [if_neg (by simp)]; rfl
 | some t =>
  by_cases e : t = s
  · subst e
    rw [if_pos rfl, vals_eq (h t rfl)]
  · rw [if_neg (by simpa using e), vals_ne (Ne.symm e)]
def GrowEachJ (P : Program) (l : List Oper) (Ds : List Said) (C Cp Dm : World -> Prop) (F : (Tmp -> Value) -> Act) (R : World -> World -> Prop) (J : Joint) (m : Nat) : Nat -> List Oper -> List Said -> Prop
 | _, [], [] => True
 | i, o :: os, D :: Dr => (bif Nat.beq i m then
  (∀ (v : Tmp -> Value) (w : World), C w -> Cp w -> (∃ L, J L v w /\ ∀ j, Region.waitsFor .any l.toArray m j = true -> L j = true) -> (∀ (j : Nat) (x : Oper) (E : Said) (t : Tmp), l[j]? = some x -> Ds[j]? = some E -> x.dst = some t -> looks l o t = true -> E (mask l x v) (v t) w) ->
   wpList P l.toArray (Ends fun b w' => ∃ u, b = (F v).put o.dst u /\ R w w' /\ Dm w' /\ JStep l J m v o.dst u w w') [o] (F v) w)
  else ((v : Tmp -> Value) -> (w : World) -> C w -> (Region.waitsFor .any l.toArray m i = true -> Cp w) -> (∀ (j : Nat) (x : Oper) (E : Said) (t : Tmp), l[j]? = some x -> Ds[j]? = some E -> x.dst = some t -> looks l o t = true -> E (mask l x v) (v t) w) ->
   wpList P l.toArray (Ends fun b w' => ∃ u, b = (F v).put o.dst u /\ Below w.heap.size w w' /\ D (mask l o v) u w' /\ JStep l J i v o.dst u w w') [o] (F v) w)) /\ GrowEachJ P l Ds C Cp Dm F R J m (i + 1) os Dr
 | _, _, _ => False
theorem growj_nil {P : Program} {l : List Oper} {Ds : List Said} {C Cp Dm : World -> Prop} {F : (Tmp -> Value) -> Act} {R : World -> World -> Prop} {J : Joint} {m i : Nat} : GrowEachJ P l Ds C Cp Dm F R J m i [] [] := trivial
theorem growj_cons {P : Program} {l : List Oper} {Ds : List Said} {C Cp Dm : World -> Prop} {F : (Tmp -> Value) -> Act} {R : World -> World -> Prop} {J : Joint} {m i : Nat} {o : Oper} {os : List Oper} {D : Said} {Dr : List Said} (hi : Nat.beq i m = false)
 (h : ∀ (v : Tmp -> Value) (w : World), C w -> (∀ (j : Nat) (x : Oper) (E : Said) (t : Tmp), l[j]? = some x -> Ds[j]? = some E -> x.dst = some t -> looks l o t = true -> E (mask l x v) (v t) w) ->
  wpList P l.toArray (fun e b w' => e = .normal /\ ∃ u, b = (F v).put o.dst u /\ Below w.heap.size w w' /\ D (mask l o v) u w' /\ JStep l J i v o.dst u w w') [o] (F v) w)
 (hr : GrowEachJ P l Ds C Cp Dm F R J m (i + 1) os Dr) : GrowEachJ P l Ds C Cp Dm F R J m i (o :: os) (D :: Dr) := ⟨by rw [hi]; exact fun v w hc _ hd => h v w hc hd, hr⟩
theorem growj_one {P : Program} {l : List Oper} {Ds : List Said} {C Cp Dm : World -> Prop} {F : (Tmp -> Value) -> Act} {R : World -> World -> Prop} {J : Joint} {m i : Nat} {o : Oper} {os : List Oper} {D : Said} {Dr : List Said} (hi : Nat.beq i m = true)
 (h : ∀ (v : Tmp -> Value) (w : World), C w -> Cp w -> (∃ L, J L v w /\ ∀ j, Region.waitsFor .any l.toArray m j = true -> L j = true) -> (∀ (j : Nat) (x : Oper) (E : Said) (t : Tmp), l[j]? = some x -> Ds[j]? = some E -> x.dst = some t -> looks l o t = true -> E (mask l x v) (v t) w) ->
  wpList P l.toArray (fun e b w' => e = .normal /\ ∃ u, b = (F v).put o.dst u /\ R w w' /\ Dm w' /\ JStep l J m v o.dst u w w') [o] (F v) w)
 (hr : GrowEachJ P l Ds C Cp Dm F R J m (i + 1) os Dr) : GrowEachJ P l Ds C Cp Dm F R J m i (o :: os) (D :: Dr) := ⟨by rw [hi]; exact h, hr⟩
theorem growjx_cons {P : Program} {l : List Oper} {Ds : List Said} {C Cp Dm : World -> Prop} {F : (Tmp -> Value) -> Act} {R : World -> World -> Prop} {J : Joint} {m i : Nat} {o : Oper} {os : List Oper} {D : Said} {Dr : List Said} (hi : Nat.beq i m = false)
 (h : ∀ (v : Tmp -> Value) (w : World) (X : Value -> World -> Prop), (∀ u w', JStep l J i v o.dst u w w' -> X u w') -> C w -> (∀ (j : Nat) (x : Oper) (E : Said) (t : Tmp), l[j]? = some x -> Ds[j]? = some E -> x.dst = some t -> looks l o t = true -> E (mask l x v) (v t) w) ->
  wpList P l.toArray (fun e b w' => e = .normal /\ ∃ u, b = (F v).put o.dst u /\ Below w.heap.size w w' /\ D (mask l o v) u w' /\ X u w') [o] (F v) w)
 (hr : GrowEachJ P l Ds C Cp Dm F R J m (i + 1) os Dr) : GrowEachJ P l Ds C Cp Dm F R J m i (o :: os) (D :: Dr) := growj_cons hi (fun v w hc hd => h v w _ (fun _ _ h => h) hc hd) hr
theorem growjx_one {P : Program} {l : List Oper} {Ds : List Said} {C Cp Dm : World -> Prop} {F : (Tmp -> Value) -> Act} {R : World -> World -> Prop} {J : Joint} {m i : Nat} {o : Oper} {os : List Oper} {D : Said} {Dr : List Said} (hi : Nat.beq i m = true)
 (h : ∀ (v : Tmp -> Value) (w : World) (X : Value -> World -> Prop), (∀ u w', JStep l J m v o.dst u w w' -> X u w') -> C w -> Cp w -> (∀ (j : Nat) (x : Oper) (E : Said) (t : Tmp), l[j]? = some x -> Ds[j]? = some E -> x.dst = some t -> looks l o t = true -> E (mask l x v) (v t) w) ->
  wpList P l.toArray (fun e b w' => e = .normal /\ ∃ u, b = (F v).put o.dst u /\ R w w' /\ Dm w' /\ X u w') [o] (F v) w)
 (hr : GrowEachJ P l Ds C Cp Dm F R J m (i + 1) os Dr) : GrowEachJ P l Ds C Cp Dm F R J m i (o :: os) (D :: Dr) := growj_one hi (fun v w hc hp _ hd => h v w _ (fun _ _ h => h) hc hp hd) hr
theorem growj_at {P : Program} {l : List Oper} {Ds : List Said} {C Cp Dm : World -> Prop} {F : (Tmp -> Value) -> Act} {R : World -> World -> Prop} {J : Joint} {m : Nat} : ∀ (k : Nat) (os : List Oper) (Dr : List Said), GrowEachJ P l Ds C Cp Dm F R J m k os Dr -> Dr.length = os.length /\ ∀ (i : Nat) (o : Oper), os[i]? = some o -> ∃ D, Dr[i]? = some D /\
 (bif Nat.beq (k + i) m then
  (∀ (v : Tmp -> Value) (w : World), C w -> Cp w -> (∃ L, J L v w /\ ∀ j, Region.waitsFor .any l.toArray m j = true -> L j = true) -> (∀ (j : Nat) (x : Oper) (E : Said) (t : Tmp), l[j]? = some x -> Ds[j]? = some E -> x.dst = some t -> looks l o t = true -> E (mask l x v) (v t) w) ->
   wpList P l.toArray (Ends fun b w' => ∃ u, b = (F v).put o.dst u /\ R w w' /\ Dm w' /\ JStep l J m v o.dst u w w') [o] (F v) w)
  else ((v : Tmp -> Value) -> (w : World) -> C w -> (Region.waitsFor .any l.toArray m (k + i) = true -> Cp w) -> (∀ (j : Nat) (x : Oper) (E : Said) (t : Tmp), l[j]? = some x -> Ds[j]? = some E -> x.dst = some t -> looks l o t = true -> E (mask l x v) (v t) w) ->
   wpList P l.toArray (Ends fun b w' => ∃ u, b = (F v).put o.dst u /\ Below w.heap.size w w' /\ D (mask l o v) u w' /\ JStep l J (k + i) v o.dst u w w') [o] (F v) w))
 | _, [], [], _ => ⟨rfl, fun i o h => by simp at h⟩
 | k, o :: os, D :: Dr, h => by
  obtain ⟨h1, h2⟩ := h
  obtain ⟨h3, h4⟩ := growj_at (k + 1) os Dr h2
  refine ⟨by simp [h3], fun i y hy => ?_⟩
  cases i with
  | zero => simp at hy; subst hy; exact ⟨D, rfl, h1⟩
  | succ i =>
   obtain ⟨E, e1, e2⟩ := h4 i y (by simpa using hy)
   exact ⟨E, e1, by rw [show k + (i + 1) = k + 1 + i by omega]; exact e2⟩
 | _, [], _ :: _, h => h.elim
 | _, _ :: _, [], h => h.elim
section
variable {P : Program} {l : List Oper} {ds : List Tmp} {Ds : List Said} {n m : Nat} {R : World -> World -> Prop} {J : Joint} {a : Act} {C Cp Dm : World -> Prop} {F : (Tmp -> Value) -> Act} {Q : Exit -> Act -> World -> Prop}
theorem wp_growj_any (hF : ∀ v, setAll ds a v = F v) (hsz : ∀ t ∈ ds, t < a.tmps.size) (hB : growSB .any l ds n m = true) (hR : ∀ w w', Below w.heap.size w w' -> R w w') (hC : StableR R C) (hCp : Stable Cp) (hDm : Stable Dm) (hS : ∀ D ∈ Ds, ∀ v u, StableR R (D v u)) (hob : GrowEachJ P l Ds C Cp Dm F R J m 0 (l.take n) Ds)
 (hend : ∀ (v : Tmp -> Value) (w : World), C w -> Dm w -> (∃ L, J L v w /\ ∀ j, j < n -> L j = true) -> (∀ (j : Nat) (x : Oper) (E : Said) (t : Tmp), l[j]? = some x -> Ds[j]? = some E -> x.dst = some t -> E (mask l x v) (v t) w) -> wpList P l.toArray Q (l.drop n) (F v) w) :
 ∀ (f : Nat) (listed : Array Bool) (b : Act) (w : World), l.length <= f + (listed.toList.take n).count true -> GTInv l ds Ds n a C listed b w -> (listed.getD m false = false -> Cp w) -> (listed.getD m false = true -> Dm w) -> J (fun j => listed.getD j false) (vals b) w -> wpAny P .any l.toArray Q f listed b w := by
 have hB' := hB
 simp only [growSB, Bool.and_eq_true, decide_eq_true_eq] at hB'
 obtain ⟨⟨⟨⟨⟨⟨⟨h0, hmn⟩, _⟩, hs⟩, hc⟩, _⟩, hseq⟩, hac⟩ := hB'
 have hn : n < l.toArray.size := by simpa using h0
 obtain ⟨hlen, hat⟩ := growj_at 0 (l.take n) Ds hob
 obtain ⟨om, hom, hmd, hml⟩ := grows_spec_m hB
 have hDl : Ds.length = n := by rw [hlen, List.length_take]; omega
 have fin : ∀ (f : Nat) (listed : Array Bool) (b : Act) (w : World), l.length <= f + (listed.toList.take n).count true -> GTInv l ds Ds n a C listed b w -> (listed.getD m false = true -> Dm w) -> J (fun j => listed.getD j false) (vals b) w -> (∀ k, k < n -> listed.getD k false = true) -> wpAny P .any l.toArray Q f listed b w := by
  intro f listed b w hf inv hdm hj hall
  have hb : F (vals b) = b := (hF _).symm.trans (setAll_own inv.defers inv.size inv.out)
  have hle := List.count_le_length (a := true) (l := listed.toList.take n)
  rw [List.length_take] at hle
  have hL : listed = headList n (l.length - n) := heads_all (by omega) (by rw [inv.head.size]; simp) hall (fun t h1 h2 => inv.head.tail t h1 (by simpa using h2))
  have hw := hend (vals b) w inv.c (hdm (hall m hmn)) ⟨_, hj, fun j hjn => hall j hjn⟩ (fun j x E s hx hE hs' => by
   have hj : j < n := by have := (List.getElem?_eq_some_iff.1 hE).1; omega
   exact inv.d j x E s hj (hall j hj) hx hE hs')
  rw [hb] at hw
  refine wpAny_le (f := (l.drop n).length) (wpAny_of_seq (md := .any) (Q' := Q) (l.drop n) n listed b w (fun j => by simp [List.getElem?_drop]) ?_ hw) (by rw [List.length_drop]; omega)
  rw [List.length_drop, hL]
  exact hseq
 intro f
 induction f with
 | zero =>
  intro listed b w hf inv _ _ _
  exfalso
  have hle := List.count_le_length (a := true) (l := listed.toList.take n)
  rw [List.length_take] at hle
  omega
 | succ f ih =>
  intro listed b w hf inv hcp hdm hj
  by_cases hall : ∀ k, k < n -> listed.getD k false = true
  · exact fin _ listed b w hf inv hdm hj hall
  · have hb : F (vals b) = b := (hF _).symm.trans (setAll_own inv.defers inv.size inv.out)
    have hsz' : listed.size = l.length := by rw [inv.head.size]; simp
    obtain ⟨k0, hk0⟩ := Classical.not_forall.1 hall
    obtain ⟨hk0n, hk0l⟩ := Classical.not_imp.1 hk0
    have hk0f : listed.getD k0 false = false := by simpa using hk0l
    have hk0t : listed.getD k0 true = false := getD_in (by rw [hsz']; omega) hk0f
    refine ⟨fun h => ?_, fun i hi => ?_⟩
    · exfalso
      obtain ⟨k, hk1, hk2, hk3⟩ := least_of (p := fun i => listed.getD i false = false) k0 hk0f
      have hkl : k < l.length := by omega
      have hr : k ∈ Region.ready .any l.toArray listed := mem_ready.2 ⟨getD_in (by rw [hsz']; exact hkl) hk2, l[k], by simp [hkl], fun e he hb => by
       have h1 := List.all_eq_true.1 hac k (List.mem_range.2 hkl)
       rw [List.getElem?_eq_getElem hkl] at h1
       have h2 := Array.all_eq_true'.1 h1 e he
       rw [hb] at h2
       have h3 := hk3 e.on (by simpa using h2)
       simpa using h3⟩
      rw [h] at hr
      cases hr
    · have hin : i < n := Nat.lt_of_not_le fun h => absurd hi (tail_waits hs hc hn inv.head _ k0 rfl hk0n hk0t i h)
      obtain ⟨hiu, oi, hoi, hall'⟩ := mem_ready.1 hi
      have hil : i < l.length := by omega
      have hoi' : l[i]? = some oi := by rw [List.getElem?_toArray] at hoi; exact hoi
      have hlD : ∀ {j : Nat} {E : Said}, Ds[j]? = some E -> j < n := fun hE => by have := (List.getElem?_eq_some_iff.1 hE).1; omega
      obtain ⟨D, hD, hg⟩ := hat i oi (by rw [List.getElem?_take_of_lt hin]; exact hoi')
      rw [Nat.zero_add] at hg
      have hwl : ∀ j, Region.waitsFor .any l.toArray i j = true -> listed.getD j false = true := fun j hwt => by
       obtain ⟨oj, hoj, e, he, hb1, hb2⟩ := Region.waitsFor_spec hwt
       obtain rfl : oi = oj := Option.some.inj (hoi.symm.trans hoj)
       have := hall' e he hb1
       rw [hb2] at this
       exact this
      have hcnt : l.length <= f + 1 + (listed.toList.take n).count true -> l.length <= f + ((listed.setIfInBounds i true).toList.take n).count true := fun hf => by
       have hsz2 : i < (listed.toList.take n).length := by rw [List.length_take, Array.length_toList, hsz']; omega
       have e : (listed.toList.take n)[i] = false := by
        have : i < listed.size := by omega
        have h2 : listed[i] = false := by simpa [this] using hiu
        simpa using h2
       have e2 : ((listed.setIfInBounds i true).toList.take n) = (listed.toList.take n).set i true := by
        rw [Array.toList_setIfInBounds, List.take_set]
       rw [e2, List.count_set hsz2, e]
       simp
       omega
      by_cases him : i = m
      · subst him
        obtain rfl : oi = om := Option.some.inj (hoi'.symm.trans hom)
        have hdep : ∀ (j : Nat) (x : Oper) (E : Said) (s : Tmp), l[j]? = some x -> Ds[j]? = some E -> x.dst = some s -> looks l oi s = true -> E (mask l x (vals b)) (vals b s) w := fun j x E s hx hE hs' hl => by
         obtain ⟨oj, hoj, e, he, hb1, hb2⟩ := Region.waitsFor_spec (hml j x s hx hs' hl)
         obtain rfl : oi = oj := Option.some.inj (hoi.symm.trans hoj)
         have := hall' e he hb1
         rw [hb2] at this
         exact inv.d j x E s (hlD hE) this hx hE hs'
        rw [Nat.beq_refl] at hg
        have hw := hg (vals b) w inv.c (hcp (getD_both hiu)) ⟨_, hj, fun j hwt => by
         obtain ⟨oj, hoj, e, he, hb1, hb2⟩ := Region.waitsFor_spec hwt
         obtain rfl : oi = oj := Option.some.inj (hoi.symm.trans hoj)
         have := hall' e he hb1
         rw [hb2] at this
         exact this⟩ hdep
        rw [hb] at hw
        refine one_op hoi hw fun b' w' hR => ?_
        obtain ⟨u, rfl, hbl, hDu, hJu⟩ := hR
        rw [hmd] at hJu ⊢
        refine ih _ _ _ (hcnt hf) ⟨inv.head.set hi hin, inv.defers, inv.size, inv.out, hC w w' inv.c hbl, fun j x E s hj hlj hx hE hs' => ?_⟩ (fun hl => ?_) (fun _ => hDu) (by rw [set1_eq (by rw [hsz']; exact hil), vals_put (fun s h => by cases h)]; exact hJu _ (getD_both hiu) hwl hj)
        · have hji : i ≠ j := by
           rintro rfl
           obtain rfl : oi = x := Option.some.inj (hom.symm.trans hx)
           rw [hmd] at hs'; cases hs'
          rw [getD_set_ne false hji] at hlj
          exact hS E (List.mem_of_getElem? hE) _ _ w w' (inv.d j x E s hj hlj hx hE hs') hbl
        · exfalso
          have : i < listed.size := by rw [hsz']; exact hil
          simp [this] at hl
      · obtain ⟨o, t, ho, ht, hds, hsp⟩ := grows_spec hB hin him
        obtain rfl : oi = o := Option.some.inj (hoi'.symm.trans ho)
        have hdep : ∀ (j : Nat) (x : Oper) (E : Said) (s : Tmp), l[j]? = some x -> Ds[j]? = some E -> x.dst = some s -> looks l oi s = true -> E (mask l x (vals b)) (vals b s) w := fun j x E s hx hE hs' hl => by
         obtain ⟨oj, hoj, e, he, hb1, hb2⟩ := Region.waitsFor_spec ((hsp j x s hx hs').1 hl)
         obtain rfl : oi = oj := Option.some.inj (hoi.symm.trans hoj)
         have := hall' e he hb1
         rw [hb2] at this
         exact inv.d j x E s (hlD hE) this hx hE hs'
        have hself : looks l oi t = false := by
         cases hl : looks l oi t with
         | false => rfl
         | true =>
          obtain ⟨oj, hoj, e, he, hb1, hb2⟩ := Region.waitsFor_spec ((hsp i oi t ho ht).1 hl)
          obtain rfl : oi = oj := Option.some.inj (hoi.symm.trans hoj)
          have := hall' e he hb1
          rw [hb2, getD_both hiu] at this
          cases this
        have hmf : Nat.beq i m = false := by
         cases h : Nat.beq i m
         · rfl
         · exact absurd (Nat.eq_of_beq_eq_true h) him
        rw [hmf] at hg
        have hw := hg (vals b) w inv.c (fun hwt => by
         refine hcp ?_
         cases hlm : listed.getD m false
         · rfl
         · exfalso
           obtain ⟨oj, hoj, e, he, hb1, hb2⟩ := Region.waitsFor_spec hwt
           have := inv.head.closed m oj hoj hlm e he hb1
           rw [hb2, getD_both hiu] at this
           cases this) hdep
        rw [hb] at hw
        refine one_op hoi hw fun b' w' hR => ?_
        obtain ⟨u, rfl, hbl0, hDu, hJu⟩ := hR
        have hbl : R w w' := hR w w' hbl0
        rw [ht] at hJu ⊢
        have htz : t < b.tmps.size := by rw [inv.size]; exact hsz t hds
        refine ih _ _ _ (hcnt hf) ⟨inv.head.set hi hin, inv.defers, (size_put _ _ _).trans inv.size, fun s hs' => ?_, hC w w' inv.c hbl, fun j x E s hj hlj hx hE hs' => ?_⟩ (fun hl => ?_) (fun hl => ?_) (by rw [set1_eq (by rw [hsz']; exact hil), vals_put (fun s h => by cases h; exact htz)]; exact hJu _ (getD_both hiu) hwl hj)
        · rw [show (b.put (some t) u).tmps = b.tmps.setIfInBounds t u from rfl, Array.getElem?_setIfInBounds_ne (fun e : t = s => hs' (by rw [<- e]; exact hds))]
          exact inv.out s hs'
        · by_cases hji : i = j
          · subst hji
            obtain rfl : oi = x := Option.some.inj (ho.symm.trans hx)
            obtain rfl : D = E := Option.some.inj (hD.symm.trans hE)
            obtain rfl : t = s := Option.some.inj (ht.symm.trans hs')
            rw [mask_put hself, vals_eq htz]
            exact hDu
          · rw [getD_set_ne false hji] at hlj
            have hlk : looks l x t = false := by
             cases hl : looks l x t with
             | false => rfl
             | true =>
              have hwt : Region.waitsFor .any l.toArray j i = true := by
               by_cases hjm : j = m
               · subst hjm
                 obtain rfl : x = om := Option.some.inj (hx.symm.trans hom)
                 exact hml i oi t ho ht hl
               · obtain ⟨_, _, hx', _, _, hsp'⟩ := grows_spec hB hj hjm
                 obtain rfl := Option.some.inj (hx.symm.trans hx')
                 exact (hsp' i oi t ho ht).1 hl
              obtain ⟨oj, hoj, e, he, hb1, hb2⟩ := Region.waitsFor_spec hwt
              have := inv.head.closed j oj hoj hlj e he hb1
              rw [hb2, getD_both hiu] at this
              cases this
            rw [mask_put hlk, vals_ne ((hsp j x s hx hs').2 hji)]
            exact hS E (List.mem_of_getElem? hE) _ _ w w' (inv.d j x E s hj hlj hx hE hs') hbl
        · rw [getD_set_ne false him] at hl
          exact hCp w w' (hcp hl) hbl0
        · rw [getD_set_ne false him] at hl
          exact hDm w w' (hdm hl) hbl0
theorem wp_region_growj {id : Nat} {w : World} (n m : Nat) (R : World -> World -> Prop) (J : Joint) (ds : List Tmp) (Ds : List Said) (C Cp Dm : World -> Prop) (hF : ∀ v, setAll ds a v = F v) (hm : P.follows .mixedOrders = true) (hB : growSB .any l ds n m = true) (hsz : (ds.all fun t => decide (t < a.tmps.size)) = true)
 (hR : ∀ w w', Below w.heap.size w w' -> R w w') (hC : StableR R C) (hCp : Stable Cp) (hDm : Stable Dm) (hw : C w.drew) (hwp : Cp w.drew) (hJ0 : ∀ v, J (fun _ => false) v w.drew) (hS : ∀ D ∈ Ds, ∀ v u, StableR R (D v u)) (hob : GrowEachJ P l Ds C Cp Dm F R J m 0 (l.take n) Ds)
 (hend : ∀ (v : Tmp -> Value) (w : World), C w -> Dm w -> (∃ L, J L v w /\ ∀ j, j < n -> L j = true) -> (∀ (j : Nat) (x : Oper) (E : Said) (t : Tmp), l[j]? = some x -> Ds[j]? = some E -> x.dst = some t -> E (mask l x v) (v t) w) -> wpList P l.toArray Q (l.drop n) (F v) w) : (Code.region id l.toArray true).wp P Q a w := by
 refine wp_region_any hm ?_
 refine wp_growj_any hF (fun t ht => by simpa using List.all_eq_true.1 hsz t ht) hB hR hC hCp hDm hS hob hend _ _ a w.drew (by simp) ⟨⟨by simp, fun j oj _ hl => (by rw [getD_replicate_false] at hl; cases hl), fun t _ ht => getD_in (by simpa using ht) (getD_replicate_false _ _)⟩, rfl, rfl, fun _ _ => rfl, hw, fun j x E s hj hl => ?_⟩ (fun _ => hwp) (fun hl => ?_) (by rw [show (fun j => (Array.replicate l.toArray.size false).getD j false) = fun _ => false from funext fun j => getD_replicate_false _ _]; exact hJ0 _)
 · rw [getD_replicate_false] at hl
   cases hl
 · rw [getD_replicate_false] at hl
   cases hl
end
end
end Go.Proofs.YtgemihkcihigpaaGreatDoor
