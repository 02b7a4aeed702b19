/- A run begun in the midst of a walk: names for what is not looked at, worlds that have grown. -/
import Derived.Test.YtpfjakcfjpgbmaaGreatDoorRxJ
import Derived.Test.YtpfjakcfjpgbmaaGreatDoorRep
namespace Go.Rx
set_option linter.unusedVariables false
set_option linter.unusedSimpArgs false
open Go.RowKit
section
variable {P : Program} {N0 b0 : Nat} {w0 : World} {ρ : Ren} {h : T AObj} {w : World}

/-- memory was made -/
theorem Rel.grow (r : Rel N0 b0 w0 ρ h w) {w' : World} (b : Below w.heap.size w w') : Rel N0 b0 w0 ρ h w' where
  glob := r.glob
  obj i o hi := by
    obtain ⟨L, e, x⟩ := r.obj i o hi
    exact ⟨L, e, x.congr (Ren.le_refl _) fun hl => b.block _ (x.lt hl)⟩
  apart := r.apart
  new := r.new
  fresh := r.fresh
  low i hi := (b.block i (Nat.lt_of_lt_of_le hi r.b0le)).trans (r.low i hi)
  b0le := Nat.le_trans r.b0le b.size
  n0le := r.n0le
  os := b.os.trans r.os
  out := b.output.trans r.out
/-- a name for a block that is not looked at -/
theorem Rel.dead (r : Rel N0 b0 w0 ρ h w) {i : Nat} (hi : N0 ≤ i) (hn : h.get i = none) (L : Loc) : Rel N0 b0 w0 (ρ.put i L) (h.set i .dead) w := by
  have hle : ρ.le (ρ.put i L) := Ren.le_put (r.new i hi hn)
  have low : ∀ m u, (h.set i .dead).get m = some u → u.live = true → i ≠ m ∧ h.get m = some u := fun m u hm lm => by
    rw [T.get_set] at hm
    split at hm
    · cases hm; cases lm
    · exact ⟨‹_›, hm⟩
  have back : ∀ m M, i ≠ m → ρ.put i L m = some M → ρ m = some M := fun m M hm e => by rw [← e]; exact (if_neg (Ne.symm hm)).symm
  refine ⟨fun g hg => ?_, fun j oj hj => ?_, fun j k oj ok Lj Lk hj hk lj lk ej ek hb => ?_, fun j hj hjn => ?_, fun j oj M hoj lj hj e => ?_, r.low, r.b0le, r.n0le, r.os, r.out⟩
  · obtain ⟨M, e, x⟩ := r.glob g hg
    exact ⟨M, hle _ _ e, x⟩
  · rw [T.get_set] at hj
    split at hj
    · cases hj
      subst_vars
      exact ⟨L, Ren.put_self, trivial⟩
    · obtain ⟨M, e, x⟩ := r.obj j oj hj
      exact ⟨M, hle _ _ e, x.congr hle fun _ => rfl⟩
  · obtain ⟨a1, a2⟩ := low j oj hj lj
    obtain ⟨b1, b2⟩ := low k ok hk lk
    refine (r.apart j k oj ok Lj Lk a2 b2 lj lk (back j Lj a1 ej) (back k Lk b1 ek) hb).imp id fun x => x.mono fun m u hm hu => ?_
    rw [T.get_set, if_neg (fun e => by rw [← e, hn] at hm; cases hm)]
    exact hm
  · rw [T.get_set] at hjn
    split at hjn
    · cases hjn
    · exact (if_neg (Ne.symm ‹_›)).trans (r.new j hj hjn)
  · obtain ⟨a1, a2⟩ := low j oj hoj lj
    exact r.fresh j oj M a2 lj hj (back j M a1 e)
/-- the first j pieces of a chain -/
theorem pre_wp {K : Known P N0} (hF : Fit P) (hE : K.env w0) {n k : Nat} {Q : Exit → Act → World → Prop} : ∀ (j : Nat) {c : Code} {A A1 : Tm} {s s1 : St} {ρ : Ren} {w : World} {a : Act}, isSeqs j c = true →
    (preRun (exeZ P N0 K k).2 n j c A).run s = some ((.normal, A1), s1) → Rel N0 b0 w0 ρ s.h w → ARel P n ρ A a →
    (∀ ρ' w' a', ρ.le ρ' → Rel N0 b0 w0 ρ' s1.h w' → ARel P n ρ' A1 a' → (dropC j c).wp P Q a' w') → c.wp P Q a w
  | 0, c, A, A1, s, s1, ρ, w, a, _, h, r, hA, hQ => by
    obtain ⟨e, rfl⟩ := X.pure_some h
    cases e
    exact hQ ρ w a (Ren.le_refl _) r hA
  | j + 1, c, A, A1, s, s1, ρ, w, a, hc, h, r, hA, hQ => by
    cases c with
    | seq c1 c2 =>
      obtain ⟨⟨x, A2⟩, s2, h1, h2⟩ := X.bind_some (show (((exeZ P N0 K k).2 n c1 A).bind fun p => match p with
        | (.normal, A) => preRun (exeZ P N0 K k).2 n j c2 A
        | p => X.pure p).run s = some ((.normal, A1), s1) from h)
      cases x with
      | normal =>
        rw [← exeZ_eq] at h1
        exact wp_seq (wpK_wp ((exe_ok hF hE k).2 n c1 A A2 .normal s s2 ρ w a _ r hA h1 fun ρ1 w1 a1 l1 r1 hA1 =>
          pre_wp hF hE j hc h2 r1 hA1 fun ρ' w' a' l2 => hQ ρ' w' a' (Ren.le_trans l1 l2)))
      | exit i => obtain ⟨e, _⟩ := X.pure_some h2; cases e
      | ret => obtain ⟨e, _⟩ := X.pure_some h2; cases e
    | _ => cases hc
theorem args_rel {n : Nat} {l l' : List Value} (h : VRels ρ l l') (hn : l.length ≤ n) : ARel P n ρ (argA l 0) { tmps := (⟨l'⟩ : Array Value) ++ Array.replicate (n - (⟨l'⟩ : Array Value).size) undef, defers := [] } := by
  refine ⟨by simp; have := h.length; omega, fun d hd => (by cases hd), fun t u hu => ?_⟩
  obtain ⟨_, h2⟩ := argA_get hu
  rw [Nat.sub_zero] at h2
  obtain ⟨u', e1, e2⟩ := h.get h2
  have hlt : t < l'.length := (List.getElem?_eq_some_iff.1 e1).1
  simp only [Array.getD_eq_getD_getElem?, Array.getElem?_append, List.size_toArray, hlt, if_true, List.getElem?_toArray, e1, Option.getD_some]
  exact e2
/-- a slice whose elements are not looked at -/
def Sh (v : Value) : Prop := v = .slice none 0 0 ∨ (∃ a c, v = .slice (some a) 0 c) ∨ ∃ b off n c, v = .slice (some ⟨b, off, none⟩) n c
theorem shape_rel {v : Value} (hs : Sh v) (i : Nat) : ∃ o n c L, (∀ ρ : Ren, ρ i = some L → VRel ρ (.slice o n c) v) ∧ ∀ (ρ : Ren) v', ρ i = some L → VRel ρ (.slice o n c) v' → v' = v ∨ ∃ a a' c c', v = .slice (some a') 0 c' ∧ v' = .slice (some a) 0 c := by
  rcases hs with rfl | ⟨a, c, rfl⟩ | ⟨b, off, n, c, rfl⟩
  · refine ⟨none, 0, 0, ⟨0, 0, 0, none⟩, fun ρ _ => .nils, fun ρ v' _ h => ?_⟩
    cases h
    exact .inl rfl
  · refine ⟨none, 0, 1, ⟨0, 0, 0, none⟩, fun ρ _ => .hid, fun ρ v' _ h => ?_⟩
    cases h
    exact .inr ⟨_, _, _, _, rfl, rfl⟩
  · refine ⟨some ⟨i, 0, none⟩, n, c, ⟨b, off, 0, none⟩, fun ρ h => ?_, fun ρ v' hL h => ?_⟩
    · have := VRel.slice (ρ := ρ) (i := i) 0 n (cap := c) (cap' := c) h (.inl rfl)
      simpa using this
    · cases h with
      | slice _ _ h1 h2 =>
        rw [hL] at h1
        cases h1
        rcases h2 with rfl | ⟨_, e, _⟩
        · exact .inl (by simp)
        · cases e
end
end Go.Rx
