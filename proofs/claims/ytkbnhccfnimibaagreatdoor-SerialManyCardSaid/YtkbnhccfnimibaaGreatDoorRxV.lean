/- When a value and a heap of the short run stand for a real value and a real world. -/
import Derived.Test.YtkbnhccfnimibaaGreatDoorRxT
namespace Go.Rx
set_option linter.unusedVariables false
set_option linter.unusedSimpArgs false

structure Loc where
  blk : Nat
  sh : Nat
  sz : Nat
  loose : Option Nat

abbrev Ren := Nat → Option Loc
def Ren.le (ρ ρ' : Ren) : Prop := ∀ i L, ρ i = some L → ρ' i = some L
theorem Ren.le_refl (ρ : Ren) : ρ.le ρ := fun _ _ h => h
theorem Ren.le_trans {ρ ρ' ρ'' : Ren} (h : ρ.le ρ') (h' : ρ'.le ρ'') : ρ.le ρ'' := fun i L e => h' i L (h i L e)

def SlOk (L : Loc) (off cap cap' : Nat) : Prop := cap' = cap ∨ ∃ n, L.loose = some n ∧ cap ≤ cap' ∧ L.sh + off + cap' * n ≤ L.sz
theorem SlOk.le {L : Loc} {off cap cap' : Nat} (h : SlOk L off cap cap') : cap ≤ cap' := by rcases h with h | ⟨_, _, h, _⟩ <;> omega

mutual
inductive VRel (ρ : Ren) : Value → Value → Prop
  | bool (b : Bool) : VRel ρ (.bool b) (.bool b)
  | int (k : IntKind) (n : Int) : VRel ρ (.int k n) (.int k n)
  | str (s : ByteArray) : VRel ρ (.string s) (.string s)
  | nilp : VRel ρ (.pointer none) (.pointer none)
  | ptr {i : Nat} {L : Loc} (off : Nat) : ρ i = some L → VRel ρ (.pointer (some ⟨i, off, none⟩)) (.pointer (some ⟨L.blk, L.sh + off, none⟩))
  | nils : VRel ρ (.slice none 0 0) (.slice none 0 0)
  | hid {a : Addr} {c : Nat} : VRel ρ (.slice none 0 1) (.slice (some a) 0 c)
  | slice {i : Nat} {L : Loc} (off len : Nat) {cap cap' : Nat} : ρ i = some L → SlOk L off cap cap' →
      VRel ρ (.slice (some ⟨i, off, none⟩) len cap) (.slice (some ⟨L.blk, L.sh + off, none⟩) len cap')
  | nilm : VRel ρ (.map none) (.map none)
  | map {i : Nat} {L : Loc} : ρ i = some L → VRel ρ (.map (some i)) (.map (some L.blk))
  | func (f : Fn) {a a' b b' : Array Value} : VRels ρ a.toList a'.toList → VRels ρ b.toList b'.toList → VRel ρ (.func f a b) (.func f a' b')
  | nilf : VRel ρ .nilFunc .nilFunc
  | iface (t : TypeId) {v v' : Value} : VRel ρ v v' → VRel ρ (.iface t v) (.iface t v')
  | nili : VRel ρ .nilIface .nilIface
  | agg {a a' : Array Value} : VRels ρ a.toList a'.toList → VRel ρ (.agg a) (.agg a')
  | tuple {a a' : Array Value} : VRels ρ a.toList a'.toList → VRel ρ (.tuple a) (.tuple a')
inductive VRels (ρ : Ren) : List Value → List Value → Prop
  | nil : VRels ρ [] []
  | cons {x x' : Value} {l l' : List Value} : VRel ρ x x' → VRels ρ l l' → VRels ρ (x :: l) (x' :: l')
end

mutual
theorem VRel.mono {ρ ρ' : Ren} (hr : ρ.le ρ') : ∀ {v v' : Value}, VRel ρ v v' → VRel ρ' v v'
  | _, _, .bool b => .bool b
  | _, _, .int k n => .int k n
  | _, _, .str s => .str s
  | _, _, .nilp => .nilp
  | _, _, .ptr off h => .ptr off (hr _ _ h)
  | _, _, .nils => .nils
  | _, _, .hid => .hid
  | _, _, .slice off len h g => .slice off len (hr _ _ h) g
  | _, _, .nilm => .nilm
  | _, _, .map h => .map (hr _ _ h)
  | _, _, .func f h g => .func f (VRels.mono hr h) (VRels.mono hr g)
  | _, _, .nilf => .nilf
  | _, _, .iface t h => .iface t (VRel.mono hr h)
  | _, _, .nili => .nili
  | _, _, .agg h => .agg (VRels.mono hr h)
  | _, _, .tuple h => .tuple (VRels.mono hr h)
theorem VRels.mono {ρ ρ' : Ren} (hr : ρ.le ρ') : ∀ {v v' : List Value}, VRels ρ v v' → VRels ρ' v v'
  | _, _, .nil => .nil
  | _, _, .cons h g => .cons (VRel.mono hr h) (VRels.mono hr g)
end

namespace VRels
variable {ρ : Ren} {a a' b b' : List Value}
theorem length (h : VRels ρ a a') : a'.length = a.length := by
  induction a generalizing a' with
  | nil => cases h; rfl
  | cons x l ih => cases h with | cons _ h => simp [ih h]
theorem append (h : VRels ρ a a') (g : VRels ρ b b') : VRels ρ (a ++ b) (a' ++ b') := by
  induction a generalizing a' with
  | nil => cases h; exact g
  | cons x l ih => cases h with | cons h1 h => exact .cons h1 (ih h)
theorem get {i : Nat} {v : Value} (h : VRels ρ a a') (e : a[i]? = some v) : ∃ v', a'[i]? = some v' ∧ VRel ρ v v' := by
  induction i generalizing a a' with
  | zero => cases h with
    | nil => cases e
    | cons h1 _ => cases e; exact ⟨_, rfl, h1⟩
  | succ i ih => cases h with
    | nil => cases e
    | cons _ h2 => exact ih h2 e
theorem of_get (hl : a'.length = a.length) (h : ∀ (i : Nat) (v : Value), a[i]? = some v → ∃ v', a'[i]? = some v' ∧ VRel ρ v v') : VRels ρ a a' := by
  induction a generalizing a' with
  | nil => cases a' <;> simp at hl; exact .nil
  | cons x l ih =>
    cases a' with
    | nil => simp at hl
    | cons x' l' =>
      obtain ⟨v', e, r⟩ := h 0 x rfl
      cases e
      exact .cons r (ih (by simpa using hl) fun i v e => h (i + 1) v e)
theorem drop (n : Nat) (h : VRels ρ a a') : VRels ρ (a.drop n) (a'.drop n) := by
  induction n generalizing a a' with
  | zero => exact h
  | succ n ih => cases h with
    | nil => simpa using VRels.nil
    | cons _ h => exact ih h
theorem take (n : Nat) (h : VRels ρ a a') : VRels ρ (a.take n) (a'.take n) := by
  induction n generalizing a a' with
  | zero => exact .nil
  | succ n ih => cases h with
    | nil => exact .nil
    | cons h1 h => exact .cons h1 (ih h)
theorem set (i : Nat) {v v' : Value} (h : VRels ρ a a') (hv : VRel ρ v v') : VRels ρ (a.set i v) (a'.set i v') := by
  induction i generalizing a a' with
  | zero => cases h with
    | nil => exact .nil
    | cons _ h => exact .cons hv h
  | succ n ih => cases h with
    | nil => exact .nil
    | cons h1 h => exact .cons h1 (ih h)
end VRels

/-- A value without an address stands for itself. -/
def plainV : Value → Bool
  | .bool _ | .int .. | .string _ | .pointer none | .slice none 0 0 | .map none | .nilFunc | .nilIface => true
  | _ => false
theorem VRel.plain {ρ : Ren} {v : Value} (h : plainV v = true) : VRel ρ v v := by
  unfold plainV at h
  split at h <;> first | constructor | cases h
def plainL : List Value → Bool
  | [] => true
  | v :: l => plainV v && plainL l
theorem VRels.plain {ρ : Ren} {l : List Value} (h : plainL l = true) : VRels ρ l l := by
  induction l with
  | nil => exact .nil
  | cons v l ih => simp only [plainL, Bool.and_eq_true] at h; exact .cons (.plain h.1) (ih h.2)

def LiveObj (ρ : Ren) (L : Loc) (w : World) : AObj → Prop
  | .cells c t f0 f1 loose => L.loose = loose ∧ ∃ cs el fr, w.heap[L.blk]? = some (.cells cs el fr) ∧ el = el ∧ cs.size = L.sz ∧
      (loose = none → L.sh = 0 ∧ c.length = L.sz) ∧ L.sh + c.length ≤ L.sz ∧ VRels ρ c ((cs.toList.drop L.sh).take c.length) ∧
      ∀ j, fr.1 ≤ j → j < fr.2 → L.sh ≤ j → j < L.sz → f0 ≤ j - L.sh ∧ j - L.sh < f1
  | .map es clk => ∃ es' : Array MapEntry, w.heap[L.blk]? = some (.map es' clk) ∧ VRels ρ (es.map (·.1)) (es'.toList.map (·.key)) ∧ VRels ρ (es.map (·.2)) (es'.toList.map (·.val))
  | .dead => True

def AObj.live : AObj → Bool
  | .dead => false
  | _ => true

/-- The heap h of the short run stands for the world w; w0 is the world in which the run began, b0 the number of its blocks, N0 the number of blocks with a fixed place. -/
structure Rel (N0 b0 : Nat) (w0 : World) (ρ : Ren) (h : T AObj) (w : World) : Prop where
  glob : ∀ g, g < N0 → ∃ L, ρ g = some L ∧ L.blk = g ∧ L.sh = 0
  obj : ∀ i o, h.get i = some o → ∃ L, ρ i = some L ∧ LiveObj ρ L w o
  apart : ∀ i j oi oj Li Lj, h.get i = some oi → h.get j = some oj → oi.live = true → oj.live = true → ρ i = some Li → ρ j = some Lj → Li.blk = Lj.blk → i = j
  new : ∀ i, N0 ≤ i → h.get i = none → ρ i = none
  fresh : ∀ i L, N0 ≤ i → ρ i = some L → b0 ≤ L.blk
  low : ∀ i, i < b0 → w.heap[i]? = w0.heap[i]?
  b0le : b0 ≤ w.heap.size
  n0le : N0 ≤ b0
  os : w.os = w0.os
  out : w.output = w0.output

theorem LiveObj.congr {ρ ρ' : Ren} {L : Loc} {w w' : World} {o : AObj} (hr : ρ.le ρ') (h : LiveObj ρ L w o) (hw : o.live = true → w'.heap[L.blk]? = w.heap[L.blk]?) : LiveObj ρ' L w' o := by
  cases o with
  | cells c t f0 f1 loose =>
    obtain ⟨h0, cs, el, fr, h1, h2, h3, h4, h5, h6, h7⟩ := h
    exact ⟨h0, cs, el, fr, (hw rfl).trans h1, h2, h3, h4, h5, h6.mono hr, h7⟩
  | map es clk =>
    obtain ⟨es', h1, h2, h3⟩ := h
    exact ⟨es', (hw rfl).trans h1, h2.mono hr, h3.mono hr⟩
  | dead => trivial

theorem LiveObj.lt {ρ : Ren} {L : Loc} {w : World} {o : AObj} (h : LiveObj ρ L w o) (hl : o.live = true) : L.blk < w.heap.size := by
  cases o with
  | cells c t f0 f1 loose => obtain ⟨_, cs, el, fr, h1, _⟩ := h; exact (Array.getElem?_eq_some_iff.1 h1).1
  | map es clk => obtain ⟨es', h1, _⟩ := h; exact (Array.getElem?_eq_some_iff.1 h1).1
  | dead => cases hl

section
variable {N0 b0 : Nat} {w0 : World} {ρ : Ren} {h : T AObj} {w : World}

/-- The relation looks at the heap's content and at the world's heap, system and output alone. -/
theorem Rel.same (r : Rel N0 b0 w0 ρ h w) {h' : T AObj} {w' : World} (e : ∀ i, h'.get i = h.get i) (e1 : w'.heap = w.heap) (e2 : w'.os = w.os) (e3 : w'.output = w.output) : Rel N0 b0 w0 ρ h' w' where
  glob := r.glob
  obj i o hi := by
    obtain ⟨L, h1, h2⟩ := r.obj i o (e i ▸ hi)
    exact ⟨L, h1, h2.congr (Ren.le_refl _) fun _ => by rw [e1]⟩
  apart i j oi oj Li Lj h1 h2 := r.apart i j oi oj Li Lj (e i ▸ h1) (e j ▸ h2)
  new i hi hn := r.new i hi (e i ▸ hn)
  fresh := r.fresh
  low i hi := by rw [e1]; exact r.low i hi
  b0le := by rw [e1]; exact r.b0le
  n0le := r.n0le
  os := e2.trans r.os
  out := e3.trans r.out

def Ren.put (ρ : Ren) (i : Nat) (L : Loc) : Ren := fun j => if j = i then some L else ρ j
theorem Ren.le_put {ρ : Ren} {i : Nat} {L : Loc} (h : ρ i = none) : ρ.le (ρ.put i L) := fun j M e => by
  unfold Ren.put
  by_cases hj : j = i
  · subst hj; rw [h] at e; cases e
  · rw [if_neg hj]; exact e
theorem Ren.put_self {ρ : Ren} {i : Nat} {L : Loc} : ρ.put i L i = some L := if_pos rfl

/-- A new block on both sides. -/
theorem Rel.push (r : Rel N0 b0 w0 ρ h w) {i : Nat} (hi : N0 ≤ i) (hn : h.get i = none) (O : Obj) (o : AObj) (L : Loc) (hL : L.blk = w.heap.size)
    (hO : LiveObj (ρ.put i L) L { w with heap := w.heap.push O } o) : Rel N0 b0 w0 (ρ.put i L) (h.set i o) { w with heap := w.heap.push O } := by
  have hle : ρ.le (ρ.put i L) := Ren.le_put (r.new i hi hn)
  have old : ∀ k, k < w.heap.size → (w.heap.push O)[k]? = w.heap[k]? := fun k hk => Array.getElem?_push_lt hk ▸ (Array.getElem?_eq_getElem hk).symm
  refine ⟨fun g hg => ?_, fun j oj hj => ?_, fun j k oj ok Lj Lk hj hk lj lk ej ek hb => ?_, fun j hj hjn => ?_, fun j M hj e => ?_, fun j hj => ?_, ?_, r.n0le, r.os, r.out⟩
  · obtain ⟨M, e, x⟩ := r.glob g hg
    exact ⟨M, hle _ _ e, x⟩
  · rw [T.get_set] at hj
    split at hj
    · cases hj
      subst_vars
      exact ⟨L, Ren.put_self, hO⟩
    · obtain ⟨M, e, x⟩ := r.obj j oj hj
      refine ⟨M, hle _ _ e, x.congr hle fun hl => old _ (x.lt hl)⟩
  · have lt : ∀ j oj Lj, h.get j = some oj → oj.live = true → ρ.put i L j = some Lj → i ≠ j → ρ j = some Lj ∧ Lj.blk < w.heap.size := fun j oj Lj hj lj ej hne => by
      obtain ⟨M, e, x⟩ := r.obj j oj hj
      have : ρ.put i L j = ρ j := if_neg (Ne.symm hne)
      rw [this] at ej
      rw [ej] at e
      cases e
      exact ⟨ej, x.lt lj⟩
    rw [T.get_set] at hj hk
    by_cases hij : i = j <;> by_cases hik : i = k
    · exact hij.symm.trans hik
    · rw [if_neg hik] at hk
      subst hij
      rw [Ren.put_self] at ej
      cases ej
      have := (lt k ok Lk hk lk ek hik).2
      omega
    · rw [if_neg hij] at hj
      subst hik
      rw [Ren.put_self] at ek
      cases ek
      have := (lt j oj Lj hj lj ej hij).2
      omega
    · rw [if_neg hij] at hj
      rw [if_neg hik] at hk
      exact r.apart j k oj ok Lj Lk hj hk lj lk (lt j oj Lj hj lj ej hij).1 (lt k ok Lk hk lk ek hik).1 hb
  · rw [T.get_set] at hjn
    split at hjn
    · cases hjn
    · show (if j = i then some L else ρ j) = none
      rw [if_neg (by rintro rfl; contradiction)]
      exact r.new j hj hjn
  · by_cases hji : j = i
    · subst hji
      rw [Ren.put_self] at e
      cases e
      have := r.b0le
      omega
    · have e' : ρ j = some M := by rw [← e]; exact (if_neg hji).symm
      exact r.fresh j M hj e'
  · show (w.heap.push O)[j]? = _
    rw [old j (Nat.lt_of_lt_of_le hj r.b0le)]
    exact r.low j hj
  · simp; exact Nat.le_succ_of_le r.b0le

/-- A block that is there gets new content on both sides. -/
theorem Rel.upd (r : Rel N0 b0 w0 ρ h w) {i : Nat} {o : AObj} {L : Loc} (hi : N0 ≤ i) (hg : h.get i = some o) (ho : o.live = true) (hL : ρ i = some L) (O : Obj) (o' : AObj)
    (hO : LiveObj ρ L { w with heap := w.heap.setIfInBounds L.blk O } o') : Rel N0 b0 w0 ρ (h.set i o') { w with heap := w.heap.setIfInBounds L.blk O } := by
  have hlt : L.blk < w.heap.size := by
    obtain ⟨M, e, x⟩ := r.obj i o hg
    rw [hL] at e
    cases e
    exact x.lt ho
  have old : ∀ k, k ≠ L.blk → (w.heap.setIfInBounds L.blk O)[k]? = w.heap[k]? := fun k hk => by rw [Array.getElem?_setIfInBounds_ne (Ne.symm hk)]
  have live : ∀ j oj, (h.set i o').get j = some oj → oj.live = true → ∃ p, h.get j = some p ∧ p.live = true := fun j oj hj lj => by
    rw [T.get_set] at hj
    split at hj
    · cases hj; subst_vars; exact ⟨o, hg, ho⟩
    · exact ⟨oj, hj, lj⟩
  refine ⟨r.glob, fun j oj hj => ?_, fun j k oj ok Lj Lk hj hk lj lk ej ek hb => ?_, fun j hj hjn => ?_, r.fresh, fun j hj => ?_, ?_, r.n0le, r.os, r.out⟩
  · rw [T.get_set] at hj
    split at hj
    · cases hj
      subst_vars
      exact ⟨L, hL, hO⟩
    · obtain ⟨M, e, x⟩ := r.obj j oj hj
      refine ⟨M, e, x.congr (Ren.le_refl _) fun hl => old _ fun hb => ?_⟩
      have := r.apart j i oj o M L hj hg hl ho e hL hb
      exact absurd this.symm ‹_›
  · obtain ⟨p, h1, h2⟩ := live j oj hj lj
    obtain ⟨q, h3, h4⟩ := live k ok hk lk
    exact r.apart j k p q Lj Lk h1 h3 h2 h4 ej ek hb
  · rw [T.get_set] at hjn
    split at hjn
    · cases hjn
    · exact r.new j hj hjn
  · show (w.heap.setIfInBounds L.blk O)[j]? = _
    rw [old j (by have := r.fresh i L hi hL; omega)]
    exact r.low j hj
  · simp; exact r.b0le

/-- A block is given up, and a new one stands for what it stood for. -/
theorem Rel.take (r : Rel N0 b0 w0 ρ h w) {i : Nat} {o : AObj} {L : Loc} (hi : N0 ≤ i) (hg : h.get i = some o) (ho : o.live = true) (hL : ρ i = some L) {j : Nat} (hj : N0 ≤ j) (hn : h.get j = none)
    (O : Obj) (o' : AObj) (L' : Loc) (hb : L'.blk = L.blk) (hO : LiveObj (ρ.put j L') L' { w with heap := w.heap.setIfInBounds L.blk O } o') :
    Rel N0 b0 w0 (ρ.put j L') ((h.set i .dead).set j o') { w with heap := w.heap.setIfInBounds L.blk O } := by
  have hle : ρ.le (ρ.put j L') := Ren.le_put (r.new j hj hn)
  have hij : i ≠ j := fun e => by rw [e, hn] at hg; cases hg
  have old : ∀ k, k ≠ L.blk → (w.heap.setIfInBounds L.blk O)[k]? = w.heap[k]? := fun k hk => by rw [Array.getElem?_setIfInBounds_ne (Ne.symm hk)]
  have sub : ∀ k ok M, ((h.set i .dead).set j o').get k = some ok → ok.live = true → k ≠ j → ρ.put j L' k = some M → h.get k = some ok ∧ ρ k = some M ∧ M.blk ≠ L.blk := fun k ok M hk lk hkj e => by
    rw [T.get_set, if_neg (Ne.symm hkj), T.get_set] at hk
    split at hk
    · cases hk; cases lk
    · have e' : ρ k = some M := by rw [← e]; exact (if_neg hkj).symm
      exact ⟨hk, e', fun hb => absurd (r.apart k i ok o M L hk hg lk ho e' hL hb).symm ‹_›⟩
  refine ⟨fun g hg => ?_, fun k ok hk => ?_, fun a b oa ob La Lb ha hb' la lb ea eb he => ?_, fun k hk hkn => ?_, fun k M hk e => ?_, fun k hk => ?_, ?_, r.n0le, r.os, r.out⟩
  · obtain ⟨M, e, x⟩ := r.glob g hg
    exact ⟨M, hle _ _ e, x⟩
  · by_cases hkj : k = j
    · subst hkj
      rw [T.get_set, if_pos rfl] at hk
      cases hk
      exact ⟨L', Ren.put_self, hO⟩
    · by_cases hki : k = i
      · subst hki
        rw [T.get_set, if_neg (Ne.symm hkj), T.get_set, if_pos rfl] at hk
        cases hk
        exact ⟨L, hle _ _ hL, trivial⟩
      · rw [T.get_set, if_neg (Ne.symm hkj), T.get_set, if_neg (Ne.symm hki)] at hk
        obtain ⟨M, e, x⟩ := r.obj k ok hk
        refine ⟨M, hle _ _ e, x.congr hle fun hl => old _ fun hb' => ?_⟩
        exact absurd (r.apart k i ok o M L hk hg hl ho e hL hb') hki
  · by_cases haj : a = j <;> by_cases hbj : b = j
    · exact haj.trans hbj.symm
    · subst haj
      rw [Ren.put_self] at ea
      cases ea
      exact absurd (he.symm.trans hb) (sub b ob Lb hb' lb hbj eb).2.2
    · subst hbj
      rw [Ren.put_self] at eb
      cases eb
      exact absurd (he.trans hb) (sub a oa La ha la haj ea).2.2
    · obtain ⟨a1, a2, _⟩ := sub a oa La ha la haj ea
      obtain ⟨b1, b2, _⟩ := sub b ob Lb hb' lb hbj eb
      exact r.apart a b oa ob La Lb a1 b1 la lb a2 b2 he
  · have hkj : k ≠ j := fun e => by subst e; rw [T.get_set, if_pos rfl] at hkn; cases hkn
    rw [T.get_set, if_neg (Ne.symm hkj), T.get_set] at hkn
    split at hkn
    · cases hkn
    · exact (if_neg hkj).trans (r.new k hk hkn)
  · by_cases hkj : k = j
    · subst hkj
      rw [Ren.put_self] at e
      cases e
      rw [hb]
      exact r.fresh i L hi hL
    · exact r.fresh k M hk ((if_neg hkj).symm.trans e)
  · show (w.heap.setIfInBounds L.blk O)[k]? = _
    rw [old k (by have := r.fresh i L hi hL; omega)]
    exact r.low k hk
  · simp; exact r.b0le

/-- A block is given up. -/
theorem Rel.kill (r : Rel N0 b0 w0 ρ h w) {i : Nat} {o : AObj} (hg : h.get i = some o) : Rel N0 b0 w0 ρ (h.set i .dead) w := by
  have sub : ∀ j oj, (h.set i .dead).get j = some oj → oj.live = true → h.get j = some oj := fun j oj hj lj => by
    rw [T.get_set] at hj
    split at hj
    · cases hj; cases lj
    · exact hj
  refine ⟨r.glob, fun j oj hj => ?_, fun j k oj ok Lj Lk hj hk lj lk => r.apart j k oj ok Lj Lk (sub j oj hj lj) (sub k ok hk lk) lj lk, fun j hj hjn => ?_, r.fresh, r.low, r.b0le, r.n0le, r.os, r.out⟩
  · rw [T.get_set] at hj
    split at hj
    · cases hj
      subst_vars
      obtain ⟨L, h1, _⟩ := r.obj _ o hg
      exact ⟨L, h1, trivial⟩
    · exact r.obj j oj hj
  · rw [T.get_set] at hjn
    split at hjn
    · cases hjn
    · exact r.new j hj hjn
end
end Go.Rx
