/- When a value and a heap of the short run stand for a real value and a real world. -/
import Derived.Test.YtpfjakcfjpgbmaaGreatDoorRxT
namespace Go.Rx
set_option linter.unusedVariables false
set_option linter.unusedSimpArgs false

structure Loc where
  blk : Nat
  sh : Nat
  sz : Nat
  loose : Option Nat

abbrev Ren := Nat → Option Loc
def Ren.le (ρ ρ' : Ren) : Prop := ∀ i L, ρ i = some L → ρ' i = some L
theorem Ren.le_refl (ρ : Ren) : ρ.le ρ := fun _ _ h => h
theorem Ren.le_trans {ρ ρ' ρ'' : Ren} (h : ρ.le ρ') (h' : ρ'.le ρ'') : ρ.le ρ'' := fun i L e => h' i L (h i L e)

def SlOk (L : Loc) (off cap cap' : Nat) : Prop := cap' = cap ∨ ∃ n, L.loose = some n ∧ cap ≤ cap' ∧ L.sh + off + cap' * n ≤ L.sz
theorem SlOk.le {L : Loc} {off cap cap' : Nat} (h : SlOk L off cap cap') : cap ≤ cap' := by rcases h with h | ⟨_, _, h, _⟩ <;> omega

mutual
inductive VRel (ρ : Ren) : Value → Value → Prop
  | bool (b : Bool) : VRel ρ (.bool b) (.bool b)
  | int (k : IntKind) (n : Int) : VRel ρ (.int k n) (.int k n)
  | str (s : ByteArray) : VRel ρ (.string s) (.string s)
  | nilp : VRel ρ (.pointer none) (.pointer none)
  | ptr {i : Nat} {L : Loc} (off : Nat) : ρ i = some L → VRel ρ (.pointer (some ⟨i, off, none⟩)) (.pointer (some ⟨L.blk, L.sh + off, none⟩))
  | nils : VRel ρ (.slice none 0 0) (.slice none 0 0)
  | hid {a : Addr} {c : Nat} : VRel ρ (.slice none 0 1) (.slice (some a) 0 c)
  | slice {i : Nat} {L : Loc} (off len : Nat) {cap cap' : Nat} : ρ i = some L → SlOk L off cap cap' →
      VRel ρ (.slice (some ⟨i, off, none⟩) len cap) (.slice (some ⟨L.blk, L.sh + off, none⟩) len cap')
  | nilm : VRel ρ (.map none) (.map none)
  | map {i : Nat} {L : Loc} : ρ i = some L → VRel ρ (.map (some i)) (.map (some L.blk))
  | func (f : Fn) {a a' b b' : Array Value} : VRels ρ a.toList a'.toList → VRels ρ b.toList b'.toList → VRel ρ (.func f a b) (.func f a' b')
  | nilf : VRel ρ .nilFunc .nilFunc
  | iface (t : TypeId) {v v' : Value} : VRel ρ v v' → VRel ρ (.iface t v) (.iface t v')
  | nili : VRel ρ .nilIface .nilIface
  | agg {a a' : Array Value} : VRels ρ a.toList a'.toList → VRel ρ (.agg a) (.agg a')
  | tuple {a a' : Array Value} : VRels ρ a.toList a'.toList → VRel ρ (.tuple a) (.tuple a')
inductive VRels (ρ : Ren) : List Value → List Value → Prop
  | nil : VRels ρ [] []
  | cons {x x' : Value} {l l' : List Value} : VRel ρ x x' → VRels ρ l l' → VRels ρ (x :: l) (x' :: l')
end

mutual
theorem VRel.mono {ρ ρ' : Ren} (hr : ρ.le ρ') : ∀ {v v' : Value}, VRel ρ v v' → VRel ρ' v v'
  | _, _, .bool b => .bool b
  | _, _, .int k n => .int k n
  | _, _, .str s => .str s
  | _, _, .nilp => .nilp
  | _, _, .ptr off h => .ptr off (hr _ _ h)
  | _, _, .nils => .nils
  | _, _, .hid => .hid
  | _, _, .slice off len h g => .slice off len (hr _ _ h) g
  | _, _, .nilm => .nilm
  | _, _, .map h => .map (hr _ _ h)
  | _, _, .func f h g => .func f (VRels.mono hr h) (VRels.mono hr g)
  | _, _, .nilf => .nilf
  | _, _, .iface t h => .iface t (VRel.mono hr h)
  | _, _, .nili => .nili
  | _, _, .agg h => .agg (VRels.mono hr h)
  | _, _, .tuple h => .tuple (VRels.mono hr h)
theorem VRels.mono {ρ ρ' : Ren} (hr : ρ.le ρ') : ∀ {v v' : List Value}, VRels ρ v v' → VRels ρ' v v'
  | _, _, .nil => .nil
  | _, _, .cons h g => .cons (VRel.mono hr h) (VRels.mono hr g)
end

namespace VRels
variable {ρ : Ren} {a a' b b' : List Value}
theorem length (h : VRels ρ a a') : a'.length = a.length := by
  induction a generalizing a' with
  | nil => cases h; rfl
  | cons x l ih => cases h with | cons _ h => simp [ih h]
theorem append (h : VRels ρ a a') (g : VRels ρ b b') : VRels ρ (a ++ b) (a' ++ b') := by
  induction a generalizing a' with
  | nil => cases h; exact g
  | cons x l ih => cases h with | cons h1 h => exact .cons h1 (ih h)
theorem get {i : Nat} {v : Value} (h : VRels ρ a a') (e : a[i]? = some v) : ∃ v', a'[i]? = some v' ∧ VRel ρ v v' := by
  induction i generalizing a a' with
  | zero => cases h with
    | nil => cases e
    | cons h1 _ => cases e; exact ⟨_, rfl, h1⟩
  | succ i ih => cases h with
    | nil => cases e
    | cons _ h2 => exact ih h2 e
theorem of_get (hl : a'.length = a.length) (h : ∀ (i : Nat) (v : Value), a[i]? = some v → ∃ v', a'[i]? = some v' ∧ VRel ρ v v') : VRels ρ a a' := by
  induction a generalizing a' with
  | nil => cases a' <;> simp at hl; exact .nil
  | cons x l ih =>
    cases a' with
    | nil => simp at hl
    | cons x' l' =>
      obtain ⟨v', e, r⟩ := h 0 x rfl
      cases e
      exact .cons r (ih (by simpa using hl) fun i v e => h (i + 1) v e)
theorem drop (n : Nat) (h : VRels ρ a a') : VRels ρ (a.drop n) (a'.drop n) := by
  induction n generalizing a a' with
  | zero => exact h
  | succ n ih => cases h with
    | nil => simpa using VRels.nil
    | cons _ h => exact ih h
theorem take (n : Nat) (h : VRels ρ a a') : VRels ρ (a.take n) (a'.take n) := by
  induction n generalizing a a' with
  | zero => exact .nil
  | succ n ih => cases h with
    | nil => exact .nil
    | cons h1 h => exact .cons h1 (ih h)
theorem set (i : Nat) {v v' : Value} (h : VRels ρ a a') (hv : VRel ρ v v') : VRels ρ (a.set i v) (a'.set i v') := by
  induction i generalizing a a' with
  | zero => cases h with
    | nil => exact .nil
    | cons _ h => exact .cons hv h
  | succ n ih => cases h with
    | nil => exact .nil
    | cons h1 h => exact .cons h1 (ih h)
end VRels

/-- A value without an address stands for itself. -/
def plainV : Value → Bool
  | .bool _ | .int .. | .string _ | .pointer none | .slice none 0 0 | .map none | .nilFunc | .nilIface => true
  | _ => false
theorem VRel.plain {ρ : Ren} {v : Value} (h : plainV v = true) : VRel ρ v v := by
  unfold plainV at h
  split at h <;> first | constructor | cases h
def plainL : List Value → Bool
  | [] => true
  | v :: l => plainV v && plainL l
theorem VRels.plain {ρ : Ren} {l : List Value} (h : plainL l = true) : VRels ρ l l := by
  induction l with
  | nil => exact .nil
  | cons v l ih => simp only [plainL, Bool.and_eq_true] at h; exact .cons (.plain h.1) (ih h.2)

def LiveObj (ρ : Ren) (L : Loc) (w : World) : AObj → Prop
  | .cells c t f0 f1 loose => L.loose = loose ∧ ∃ cs el fr, w.heap[L.blk]? = some (.cells cs el fr) ∧ el = el ∧ cs.size = L.sz ∧
      (loose = none → L.sh = 0 ∧ c.length = L.sz) ∧ L.sh + c.length ≤ L.sz ∧ VRels ρ c ((cs.toList.drop L.sh).take c.length) ∧
      ∀ j, fr.1 ≤ j → j < fr.2 → L.sh ≤ j → j < L.sz → f0 ≤ j - L.sh ∧ j - L.sh < f1
  | .map es clk => ∃ es' : Array MapEntry, w.heap[L.blk]? = some (.map es' clk) ∧ VRels ρ (es.map (·.1)) (es'.toList.map (·.key)) ∧ VRels ρ (es.map (·.2)) (es'.toList.map (·.val))
  | .dead => True

def AObj.live : AObj → Bool
  | .dead => false
  | _ => true

/-- A row that is only read from now on. Others of its kind may share its block: those that were made by appending to it. -/
def big : Nat := 4294967296
def AObj.seal : AObj → Bool
  | .cells _ _ f0 f1 _ => Nat.beq f1 0 && Nat.ble big f0
  | _ => false
/-- the row that was made last by appending to it -/
def AObj.kid : AObj → Option Nat
  | .cells c t f0 f1 lo => match AObj.seal (.cells c t f0 f1 lo) && Nat.blt big f0 with
    | true => some (f0 - big - 1)
    | false => none
  | _ => none
def AObj.len : AObj → Nat
  | .cells c _ _ _ _ => c.length
  | _ => 0
theorem AObj.seal_of_kid {o : AObj} {k : Nat} (h : o.kid = some k) : o.seal = true := by
  cases o with
  | cells c t f0 f1 lo =>
    dsimp only [AObj.kid] at h
    split at h
    · rename_i hh; simp only [Bool.and_eq_true] at hh; exact hh.1
    · cases h
  | _ => cases h
theorem not_seal {c : List Value} {t : TypeId} {f0 f1 : Nat} {lo : Option Nat} (h : f0 ≤ 1048576) : AObj.seal (.cells c t f0 f1 lo) = false := by
  cases hq : AObj.seal (.cells c t f0 f1 lo) with
  | false => rfl
  | true =>
    unfold AObj.seal at hq
    simp only [Bool.and_eq_true] at hq
    have h2 : 4294967296 ≤ f0 := Nat.le_of_ble_eq_true hq.2
    omega
theorem AObj.live_of_seal {o : AObj} (h : o.seal = true) : o.live = true := by
  cases o <;> first | rfl | cases h
inductive Down (h : T AObj) : Nat → Nat → Prop
  | one {i j : Nat} {o : AObj} : h.get i = some o → o.kid = some j → Down h i j
  | more {i j k : Nat} {o : AObj} : h.get i = some o → o.kid = some j → Down h j k → Down h i k
theorem Down.mono {h h' : T AObj} {i j : Nat} (d : Down h i j) (H : ∀ k o, h.get k = some o → o.kid ≠ none → h'.get k = some o) : Down h' i j := by
  induction d with
  | one h1 h2 => exact .one (H _ _ h1 (by rw [h2]; simp)) h2
  | more h1 h2 _ ih => exact .more (H _ _ h1 (by rw [h2]; simp)) h2 ih
theorem Down.trans {h : T AObj} {i j k : Nat} (d : Down h i j) (e : Down h j k) : Down h i k := by
  induction d with
  | one h1 h2 => exact .more h1 h2 e
  | more h1 h2 _ ih => exact .more h1 h2 (ih e)
/-- two rows in one block -/
structure Kin (h : T AObj) (i j : Nat) (oi oj : AObj) (Li Lj : Loc) : Prop where
  si : oi.seal = true
  sj : oj.seal = true
  sh : Li.sh = Lj.sh
  way : (Down h i j ∧ oi.len ≤ oj.len) ∨ (Down h j i ∧ oj.len ≤ oi.len)
theorem Kin.mono {h h' : T AObj} {i j : Nat} {oi oj : AObj} {Li Lj : Loc} (x : Kin h i j oi oj Li Lj) (H : ∀ k o, h.get k = some o → o.kid ≠ none → h'.get k = some o) : Kin h' i j oi oj Li Lj :=
  ⟨x.si, x.sj, x.sh, x.way.imp (fun d => ⟨d.1.mono H, d.2⟩) fun d => ⟨d.1.mono H, d.2⟩⟩

/-- The heap h of the short run stands for the world w; w0 is the world in which the run began, b0 the number of its blocks, N0 the number of blocks with a fixed place. -/
structure Rel (N0 b0 : Nat) (w0 : World) (ρ : Ren) (h : T AObj) (w : World) : Prop where
  glob : ∀ g, g < N0 → ∃ L, ρ g = some L ∧ L.blk = g ∧ L.sh = 0
  obj : ∀ i o, h.get i = some o → ∃ L, ρ i = some L ∧ LiveObj ρ L w o
  apart : ∀ i j oi oj Li Lj, h.get i = some oi → h.get j = some oj → oi.live = true → oj.live = true → ρ i = some Li → ρ j = some Lj → Li.blk = Lj.blk → i = j ∨ Kin h i j oi oj Li Lj
  new : ∀ i, N0 ≤ i → h.get i = none → ρ i = none
  fresh : ∀ i o L, h.get i = some o → o.live = true → N0 ≤ i → ρ i = some L → b0 ≤ L.blk
  low : ∀ i, i < b0 → w.heap[i]? = w0.heap[i]?
  b0le : b0 ≤ w.heap.size
  n0le : N0 ≤ b0
  os : w.os = w0.os
  out : w.output = w0.output

theorem LiveObj.congr {ρ ρ' : Ren} {L : Loc} {w w' : World} {o : AObj} (hr : ρ.le ρ') (h : LiveObj ρ L w o) (hw : o.live = true → w'.heap[L.blk]? = w.heap[L.blk]?) : LiveObj ρ' L w' o := by
  cases o with
  | cells c t f0 f1 loose =>
    obtain ⟨h0, cs, el, fr, h1, h2, h3, h4, h5, h6, h7⟩ := h
    exact ⟨h0, cs, el, fr, (hw rfl).trans h1, h2, h3, h4, h5, h6.mono hr, h7⟩
  | map es clk =>
    obtain ⟨es', h1, h2, h3⟩ := h
    exact ⟨es', (hw rfl).trans h1, h2.mono hr, h3.mono hr⟩
  | dead => trivial

theorem LiveObj.lt {ρ : Ren} {L : Loc} {w : World} {o : AObj} (h : LiveObj ρ L w o) (hl : o.live = true) : L.blk < w.heap.size := by
  cases o with
  | cells c t f0 f1 loose => obtain ⟨_, cs, el, fr, h1, _⟩ := h; exact (Array.getElem?_eq_some_iff.1 h1).1
  | map es clk => obtain ⟨es', h1, _⟩ := h; exact (Array.getElem?_eq_some_iff.1 h1).1
  | dead => cases hl

noncomputable section
variable {N0 b0 : Nat} {w0 : World} {ρ : Ren} {h : T AObj} {w : World}

/-- The relation looks at the heap's content and at the world's heap, system and output alone. -/
theorem Rel.same (r : Rel N0 b0 w0 ρ h w) {h' : T AObj} {w' : World} (e : ∀ i, h'.get i = h.get i) (e1 : w'.heap = w.heap) (e2 : w'.os = w.os) (e3 : w'.output = w.output) : Rel N0 b0 w0 ρ h' w' where
  glob := r.glob
  obj i o hi := by
    obtain ⟨L, h1, h2⟩ := r.obj i o (e i ▸ hi)
    exact ⟨L, h1, h2.congr (Ren.le_refl _) fun _ => by rw [e1]⟩
  apart i j oi oj Li Lj h1 h2 l1 l2 e3 e4 hb := (r.apart i j oi oj Li Lj (e i ▸ h1) (e j ▸ h2) l1 l2 e3 e4 hb).imp id fun x => x.mono fun k o hk _ => (e k).trans hk
  new i hi hn := r.new i hi (e i ▸ hn)
  fresh i o L hi := r.fresh i o L (e i ▸ hi)
  low i hi := by rw [e1]; exact r.low i hi
  b0le := by rw [e1]; exact r.b0le
  n0le := r.n0le
  os := e2.trans r.os
  out := e3.trans r.out

def Ren.put (ρ : Ren) (i : Nat) (L : Loc) : Ren := fun j => if j = i then some L else ρ j
theorem Ren.le_put {ρ : Ren} {i : Nat} {L : Loc} (h : ρ i = none) : ρ.le (ρ.put i L) := fun j M e => by
  unfold Ren.put
  by_cases hj : j = i
  · subst hj; rw [h] at e; cases e
  · rw [if_neg hj]; exact e
theorem Ren.put_self {ρ : Ren} {i : Nat} {L : Loc} : ρ.put i L i = some L := if_pos rfl

/-- A new block on both sides. -/
theorem Rel.push (r : Rel N0 b0 w0 ρ h w) {i : Nat} (hi : N0 ≤ i) (hn : h.get i = none) (O : Obj) (o : AObj) (L : Loc) (hL : L.blk = w.heap.size)
    (hO : LiveObj (ρ.put i L) L { w with heap := w.heap.push O } o) : Rel N0 b0 w0 (ρ.put i L) (h.set i o) { w with heap := w.heap.push O } := by
  have hle : ρ.le (ρ.put i L) := Ren.le_put (r.new i hi hn)
  have old : ∀ k, k < w.heap.size → (w.heap.push O)[k]? = w.heap[k]? := fun k hk => Array.getElem?_push_lt hk ▸ (Array.getElem?_eq_getElem hk).symm
  refine ⟨fun g hg => ?_, fun j oj hj => ?_, fun j k oj ok Lj Lk hj hk lj lk ej ek hb => ?_, fun j hj hjn => ?_, fun j oj M hoj lj hj e => ?_, fun j hj => ?_, ?_, r.n0le, r.os, r.out⟩
  · obtain ⟨M, e, x⟩ := r.glob g hg
    exact ⟨M, hle _ _ e, x⟩
  · rw [T.get_set] at hj
    split at hj
    · cases hj
      subst_vars
      exact ⟨L, Ren.put_self, hO⟩
    · obtain ⟨M, e, x⟩ := r.obj j oj hj
      refine ⟨M, hle _ _ e, x.congr hle fun hl => old _ (x.lt hl)⟩
  · have lt : ∀ j oj Lj, h.get j = some oj → oj.live = true → ρ.put i L j = some Lj → i ≠ j → ρ j = some Lj ∧ Lj.blk < w.heap.size := fun j oj Lj hj lj ej hne => by
      obtain ⟨M, e, x⟩ := r.obj j oj hj
      have : ρ.put i L j = ρ j := if_neg (Ne.symm hne)
      rw [this] at ej
      rw [ej] at e
      cases e
      exact ⟨ej, x.lt lj⟩
    rw [T.get_set] at hj hk
    by_cases hij : i = j <;> by_cases hik : i = k
    · exact .inl (hij.symm.trans hik)
    · rw [if_neg hik] at hk
      subst hij
      rw [Ren.put_self] at ej
      cases ej
      have := (lt k ok Lk hk lk ek hik).2
      omega
    · rw [if_neg hij] at hj
      subst hik
      rw [Ren.put_self] at ek
      cases ek
      have := (lt j oj Lj hj lj ej hij).2
      omega
    · rw [if_neg hij] at hj
      rw [if_neg hik] at hk
      exact (r.apart j k oj ok Lj Lk hj hk lj lk (lt j oj Lj hj lj ej hij).1 (lt k ok Lk hk lk ek hik).1 hb).imp id fun x => x.mono fun m o hm _ => by
        rw [T.get_set, if_neg (fun e => by rw [← e, hn] at hm; cases hm)]; exact hm
  · rw [T.get_set] at hjn
    split at hjn
    · cases hjn
    · show (if j = i then some L else ρ j) = none
      rw [if_neg (by rintro rfl; contradiction)]
      exact r.new j hj hjn
  · by_cases hji : j = i
    · subst hji
      rw [Ren.put_self] at e
      cases e
      have := r.b0le
      omega
    · have e' : ρ j = some M := by rw [← e]; exact (if_neg hji).symm
      rw [T.get_set, if_neg (Ne.symm hji)] at hoj
      exact r.fresh j oj M hoj lj hj e'
  · show (w.heap.push O)[j]? = _
    rw [old j (Nat.lt_of_lt_of_le hj r.b0le)]
    exact r.low j hj
  · simp; exact Nat.le_succ_of_le r.b0le

/-- A block that is there gets new content on both sides. -/
theorem Rel.upd (r : Rel N0 b0 w0 ρ h w) {i : Nat} {o : AObj} {L : Loc} (hi : N0 ≤ i) (hg : h.get i = some o) (ho : o.live = true) (hs : o.seal = false) (hL : ρ i = some L) (O : Obj) (o' : AObj)
    (hO : LiveObj ρ L { w with heap := w.heap.setIfInBounds L.blk O } o') : Rel N0 b0 w0 ρ (h.set i o') { w with heap := w.heap.setIfInBounds L.blk O } := by
  have hlt : L.blk < w.heap.size := by
    obtain ⟨M, e, x⟩ := r.obj i o hg
    rw [hL] at e
    cases e
    exact x.lt ho
  have old : ∀ k, k ≠ L.blk → (w.heap.setIfInBounds L.blk O)[k]? = w.heap[k]? := fun k hk => by rw [Array.getElem?_setIfInBounds_ne (Ne.symm hk)]
  have live : ∀ j oj, (h.set i o').get j = some oj → oj.live = true → ∃ p, h.get j = some p ∧ p.live = true := fun j oj hj lj => by
    rw [T.get_set] at hj
    split at hj
    · cases hj; subst_vars; exact ⟨o, hg, ho⟩
    · exact ⟨oj, hj, lj⟩
  refine ⟨r.glob, fun j oj hj => ?_, fun j k oj ok Lj Lk hj hk lj lk ej ek hb => ?_, fun j hj hjn => ?_, fun j oj M hoj lj hj e => ?_, fun j hj => ?_, ?_, r.n0le, r.os, r.out⟩
  · rw [T.get_set] at hj
    split at hj
    · cases hj
      subst_vars
      exact ⟨L, hL, hO⟩
    · obtain ⟨M, e, x⟩ := r.obj j oj hj
      refine ⟨M, e, x.congr (Ren.le_refl _) fun hl => old _ fun hb => ?_⟩
      rcases r.apart j i oj o M L hj hg hl ho e hL hb with this | this
      · exact absurd this.symm ‹_›
      · exact absurd (hs.symm.trans this.sj) (by simp)
  · obtain ⟨p, h1, h2⟩ := live j oj hj lj
    obtain ⟨q, h3, h4⟩ := live k ok hk lk
    rcases r.apart j k p q Lj Lk h1 h3 h2 h4 ej ek hb with e | x
    · exact .inl e
    · have ne : ∀ m u, h.get m = some u → u.seal = true → i ≠ m := fun m u hm hu e => by
        subst e; rw [hg] at hm; cases hm; rw [hs] at hu; cases hu
      rw [T.get_set, if_neg (ne j p h1 x.si), h1] at hj
      rw [T.get_set, if_neg (ne k q h3 x.sj), h3] at hk
      cases hj
      cases hk
      exact .inr (x.mono fun m u hm hu => by
        rw [T.get_set, if_neg (ne m u hm (by cases hq : u.kid with | none => exact absurd hq hu | some y => exact AObj.seal_of_kid hq))]
        exact hm)
  · rw [T.get_set] at hjn
    split at hjn
    · cases hjn
    · exact r.new j hj hjn
  · obtain ⟨p, h1, h2⟩ := live j oj hoj lj
    exact r.fresh j p M h1 h2 hj e
  · show (w.heap.setIfInBounds L.blk O)[j]? = _
    rw [old j (by have := r.fresh i o L hg ho hi hL; omega)]
    exact r.low j hj
  · simp; exact r.b0le

/-- A block is given up, and a new one stands for what it stood for. -/
theorem Rel.take (r : Rel N0 b0 w0 ρ h w) {i : Nat} {o : AObj} {L : Loc} (hi : N0 ≤ i) (hg : h.get i = some o) (ho : o.live = true) (hs : o.seal = false) (hL : ρ i = some L) {j : Nat} (hj : N0 ≤ j) (hn : h.get j = none)
    (O : Obj) (o' : AObj) (L' : Loc) (hb : L'.blk = L.blk) (hO : LiveObj (ρ.put j L') L' { w with heap := w.heap.setIfInBounds L.blk O } o') :
    Rel N0 b0 w0 (ρ.put j L') ((h.set i .dead).set j o') { w with heap := w.heap.setIfInBounds L.blk O } := by
  have hle : ρ.le (ρ.put j L') := Ren.le_put (r.new j hj hn)
  have hij : i ≠ j := fun e => by rw [e, hn] at hg; cases hg
  have old : ∀ k, k ≠ L.blk → (w.heap.setIfInBounds L.blk O)[k]? = w.heap[k]? := fun k hk => by rw [Array.getElem?_setIfInBounds_ne (Ne.symm hk)]
  have sub : ∀ k ok M, ((h.set i .dead).set j o').get k = some ok → ok.live = true → k ≠ j → ρ.put j L' k = some M → h.get k = some ok ∧ ρ k = some M ∧ M.blk ≠ L.blk := fun k ok M hk lk hkj e => by
    rw [T.get_set, if_neg (Ne.symm hkj), T.get_set] at hk
    split at hk
    · cases hk; cases lk
    · have e' : ρ k = some M := by rw [← e]; exact (if_neg hkj).symm
      exact ⟨hk, e', fun hb => (r.apart k i ok o M L hk hg lk ho e' hL hb).elim (fun e => absurd e.symm ‹_›) fun x => by exact absurd (hs.symm.trans x.sj) (by simp)⟩
  refine ⟨fun g hg => ?_, fun k ok hk => ?_, fun a b oa ob La Lb ha hb' la lb ea eb he => ?_, fun k hk hkn => ?_, fun k ok M hok lk hk e => ?_, fun k hk => ?_, ?_, r.n0le, r.os, r.out⟩
  · obtain ⟨M, e, x⟩ := r.glob g hg
    exact ⟨M, hle _ _ e, x⟩
  · by_cases hkj : k = j
    · subst hkj
      rw [T.get_set, if_pos rfl] at hk
      cases hk
      exact ⟨L', Ren.put_self, hO⟩
    · by_cases hki : k = i
      · subst hki
        rw [T.get_set, if_neg (Ne.symm hkj), T.get_set, if_pos rfl] at hk
        cases hk
        exact ⟨L, hle _ _ hL, trivial⟩
      · rw [T.get_set, if_neg (Ne.symm hkj), T.get_set, if_neg (Ne.symm hki)] at hk
        obtain ⟨M, e, x⟩ := r.obj k ok hk
        refine ⟨M, hle _ _ e, x.congr hle fun hl => old _ fun hb' => ?_⟩
        exact (r.apart k i ok o M L hk hg hl ho e hL hb').elim (fun e => absurd e hki) fun x => by exact absurd (hs.symm.trans x.sj) (by simp)
  · by_cases haj : a = j <;> by_cases hbj : b = j
    · exact .inl (haj.trans hbj.symm)
    · subst haj
      rw [Ren.put_self] at ea
      cases ea
      exact absurd (he.symm.trans hb) (sub b ob Lb hb' lb hbj eb).2.2
    · subst hbj
      rw [Ren.put_self] at eb
      cases eb
      exact absurd (he.trans hb) (sub a oa La ha la haj ea).2.2
    · obtain ⟨a1, a2, _⟩ := sub a oa La ha la haj ea
      obtain ⟨b1, b2, _⟩ := sub b ob Lb hb' lb hbj eb
      refine (r.apart a b oa ob La Lb a1 b1 la lb a2 b2 he).imp id fun x => x.mono fun m u hm hu => ?_
      have h1 : j ≠ m := fun e => by rw [← e, hn] at hm; cases hm
      have h2 : i ≠ m := fun e => by
        subst e; rw [hg] at hm; cases hm
        cases hq : o.kid with
        | none => exact hu hq
        | some y => rw [AObj.seal_of_kid hq] at hs; cases hs
      rw [T.get_set, if_neg h1, T.get_set, if_neg h2]
      exact hm
  · have hkj : k ≠ j := fun e => by subst e; rw [T.get_set, if_pos rfl] at hkn; cases hkn
    rw [T.get_set, if_neg (Ne.symm hkj), T.get_set] at hkn
    split at hkn
    · cases hkn
    · exact (if_neg hkj).trans (r.new k hk hkn)
  · by_cases hkj : k = j
    · subst hkj
      rw [Ren.put_self] at e
      cases e
      rw [hb]
      exact r.fresh i o L hg ho hi hL
    · obtain ⟨a1, a2, _⟩ := sub k ok M hok lk hkj e
      exact r.fresh k ok M a1 lk hk a2
  · show (w.heap.setIfInBounds L.blk O)[k]? = _
    rw [old k (by have := r.fresh i o L hg ho hi hL; omega)]
    exact r.low k hk
  · simp; exact r.b0le

/-- A block is given up: one that is not the way to another that is still used. -/
theorem Rel.kill (r : Rel N0 b0 w0 ρ h w) {i : Nat} {o : AObj} (hg : h.get i = some o) (hs : ∀ k, o.kid = some k → h.get k = none ∨ h.get k = some .dead) : Rel N0 b0 w0 ρ (h.set i .dead) w := by
  have sub : ∀ j oj, (h.set i .dead).get j = some oj → oj.live = true → h.get j = some oj ∧ i ≠ j := fun j oj hj lj => by
    rw [T.get_set] at hj
    split at hj
    · cases hj; cases lj
    · exact ⟨hj, ‹_›⟩
  have dn : ∀ a b ob, Down h a b → i ≠ a → h.get b = some ob → ob.live = true → Down (h.set i .dead) a b := fun a b ob d => by
    induction d with
    | one h1 h2 => intro ha hb lb; exact .one (by rw [T.get_set, if_neg ha]; exact h1) h2
    | @more a k b o' h1 h2 d ih =>
      intro ha hb lb
      refine .more (by rw [T.get_set, if_neg ha]; exact h1) h2 (ih ?_ hb lb)
      rintro rfl
      have stop : ∀ x, h.get x = none ∨ h.get x = some .dead → ∀ y, ¬ Down h x y := fun x hx y e => by
        cases e with
        | one e1 e2 => rcases hx with hx | hx <;> (rw [hx] at e1; cases e1 <;> cases e2)
        | more e1 e2 _ => rcases hx with hx | hx <;> (rw [hx] at e1; cases e1 <;> cases e2)
      cases d with
      | one e1 e2 =>
        rw [hg] at e1; cases e1
        rcases hs _ e2 with hx | hx <;> (rw [hx] at hb; cases hb <;> cases lb)
      | more e1 e2 e3 => rw [hg] at e1; cases e1; exact stop _ (hs _ e2) _ e3
  refine ⟨r.glob, fun j oj hj => ?_, fun j k oj ok Lj Lk hj hk lj lk ej ek hb => ?_, fun j hj hjn => ?_, fun j oj M hoj lj => r.fresh j oj M (sub j oj hoj lj).1 lj, r.low, r.b0le, r.n0le, r.os, r.out⟩
  · rw [T.get_set] at hj
    split at hj
    · cases hj
      subst_vars
      obtain ⟨L, h1, _⟩ := r.obj _ o hg
      exact ⟨L, h1, trivial⟩
    · exact r.obj j oj hj
  · obtain ⟨a1, a2⟩ := sub j oj hj lj
    obtain ⟨b1, b2⟩ := sub k ok hk lk
    refine (r.apart j k oj ok Lj Lk a1 b1 lj lk ej ek hb).imp id fun x => ⟨x.si, x.sj, x.sh, x.way.imp (fun d => ⟨dn j k ok d.1 a2 b1 lk, d.2⟩) fun d => ⟨dn k j oj d.1 b2 a1 lj, d.2⟩⟩
  · rw [T.get_set] at hjn
    split at hjn
    · cases hjn
    · exact r.new j hj hjn

theorem stop_down {x : Nat} (hx : h.get x = none ∨ h.get x = some .dead) (y : Nat) : ¬ Down h x y := fun e => by
  cases e with
  | one e1 e2 => rcases hx with hx | hx <;> (rw [hx] at e1; cases e1 <;> cases e2)
  | more e1 e2 _ => rcases hx with hx | hx <;> (rw [hx] at e1; cases e1 <;> cases e2)
/-- A row is only read from now on, and q is to be the one made by appending to it. -/
theorem Rel.reseal (r : Rel N0 b0 w0 ρ h w) {i q : Nat} {c : List Value} {t : TypeId} {f0 : Nat} {lo : Option Nat} (hg : h.get i = some (.cells c t f0 0 lo)) (hs : ∀ k, (AObj.cells c t f0 0 lo).kid = some k → h.get k = none ∨ h.get k = some .dead) :
    Rel N0 b0 w0 ρ (h.set i (.cells c t (big + 1 + q) 0 lo)) w := by
  have hseal : AObj.seal (.cells c t (big + 1 + q) 0 lo) = true := by
    unfold AObj.seal
    simp only [Bool.and_eq_true]
    exact ⟨rfl, Nat.ble_eq_true_of_le (by omega)⟩
  have sub : ∀ j oj, (h.set i (.cells c t (big + 1 + q) 0 lo)).get j = some oj → oj.live = true → ∃ p, h.get j = some p ∧ p.live = true ∧ p.len = oj.len ∧ (p.seal = true → oj.seal = true) := fun j oj hj lj => by
    rw [T.get_set] at hj
    split at hj
    · cases hj
      subst_vars
      exact ⟨_, hg, rfl, rfl, fun _ => hseal⟩
    · exact ⟨_, hj, lj, rfl, id⟩
  have dn : ∀ a b ob, Down h a b → h.get b = some ob → ob.live = true → Down (h.set i (.cells c t (big + 1 + q) 0 lo)) a b := fun a b ob d => by
    induction d with
    | @one a b o' h1 h2 =>
      intro hb lb
      have ha : i ≠ a := by
        rintro rfl
        rw [hg] at h1; cases h1
        rcases hs _ h2 with hx | hx <;> (rw [hx] at hb; cases hb <;> cases lb)
      exact .one (by rw [T.get_set, if_neg ha]; exact h1) h2
    | @more a k b o' h1 h2 d ih =>
      intro hb lb
      have ha : i ≠ a := by
        rintro rfl
        rw [hg] at h1; cases h1
        exact stop_down (hs _ h2) _ d
      exact .more (by rw [T.get_set, if_neg ha]; exact h1) h2 (ih hb lb)
  refine ⟨r.glob, fun j oj hj => ?_, fun j k oj ok Lj Lk hj hk lj lk ej ek hb => ?_, fun j hj hjn => ?_, fun j oj M hoj lj => by obtain ⟨p, a1, a2, _⟩ := sub j oj hoj lj; exact r.fresh j p M a1 a2, r.low, r.b0le, r.n0le, r.os, r.out⟩
  · rw [T.get_set] at hj
    split at hj
    · cases hj
      subst_vars
      obtain ⟨L, h1, q0, cs, el, fr, q1, q2, q3, q4, q5, q6, q7⟩ := r.obj _ _ hg
      exact ⟨L, h1, q0, cs, el, fr, q1, q2, q3, q4, q5, q6, fun j j1 j2 j3 j4 => by have := (q7 j j1 j2 j3 j4).2; omega⟩
    · exact r.obj j oj hj
  · obtain ⟨p, a1, a2, a3, a4⟩ := sub j oj hj lj
    obtain ⟨u, b1, b2, b3, b4⟩ := sub k ok hk lk
    refine (r.apart j k p u Lj Lk a1 b1 a2 b2 ej ek hb).imp id fun x => ⟨a4 x.si, b4 x.sj, x.sh, ?_⟩
    rw [← a3, ← b3]
    exact x.way.imp (fun d => ⟨dn j k u d.1 b1 b2, d.2⟩) fun d => ⟨dn k j p d.1 a1 a2, d.2⟩
  · rw [T.get_set] at hjn
    split at hjn
    · cases hjn
    · exact r.new j hj hjn
/-- The one made by appending stands in the same block. -/
theorem Rel.graft (r : Rel N0 b0 w0 ρ h w) {i q : Nat} {c : List Value} {t : TypeId} {lo : Option Nat} {L : Loc} (hi : N0 ≤ i) (hg : h.get i = some (.cells c t (big + 1 + q) 0 lo)) (hL : ρ i = some L)
    (hq : N0 ≤ q) (hn : h.get q = none) (O : Obj) (o : AObj) (ho : o.seal = true) (hlen : c.length ≤ o.len) (hO : LiveObj (ρ.put q L) L { w with heap := w.heap.setIfInBounds L.blk O } o)
    (hold : ∀ M u, M.blk = L.blk → M.sh = L.sh → u.len ≤ c.length → u.seal = true → LiveObj ρ M w u → LiveObj (ρ.put q L) M { w with heap := w.heap.setIfInBounds L.blk O } u) :
    Rel N0 b0 w0 (ρ.put q L) (h.set q o) { w with heap := w.heap.setIfInBounds L.blk O } := by
  have hle : ρ.le (ρ.put q L) := Ren.le_put (r.new q hq hn)
  have hkid : (AObj.cells c t (big + 1 + q) 0 lo).kid = some q := by
    have h1 : (AObj.seal (.cells c t (big + 1 + q) 0 lo) && Nat.blt big (big + 1 + q)) = true := by
      unfold AObj.seal
      simp only [Bool.and_eq_true]
      exact ⟨⟨rfl, Nat.ble_eq_true_of_le (by omega)⟩, Nat.ble_eq_true_of_le (by omega)⟩
    dsimp only [AObj.kid]
    rw [h1]
    have h2 : ∀ b : Nat, b + 1 + q - b - 1 = q := fun b => by omega
    exact congrArg some (h2 big)
  have hsi : (AObj.cells c t (big + 1 + q) 0 lo).seal = true := AObj.seal_of_kid hkid
  have hiq : q ≠ i := fun e => by rw [← e, hn] at hg; cases hg
  have old : ∀ k, k ≠ L.blk → (w.heap.setIfInBounds L.blk O)[k]? = w.heap[k]? := fun k hk => by rw [Array.getElem?_setIfInBounds_ne (Ne.symm hk)]
  have keep : ∀ m u, h.get m = some u → (h.set q o).get m = some u := fun m u hm => by
    rw [T.get_set, if_neg (fun e => by rw [← e, hn] at hm; cases hm)]; exact hm
  have nodown : ∀ m u, Down h i m → h.get m = some u → False := fun m u d hm => by
    cases d with
    | one e1 e2 => rw [hg] at e1; cases e1; rw [hkid] at e2; cases e2; rw [hn] at hm; cases hm
    | more e1 e2 e3 => rw [hg] at e1; cases e1; rw [hkid] at e2; cases e2; exact stop_down (.inl hn) _ e3
  -- an old row in the same block
  have near : ∀ m u M, h.get m = some u → u.live = true → ρ m = some M → M.blk = L.blk → M.sh = L.sh ∧ u.len ≤ c.length ∧ u.seal = true ∧ Down (h.set q o) m q := fun m u M hm lm em hb => by
    have di : Down (h.set q o) i q := .one (keep _ _ hg) hkid
    rcases r.apart m i u _ M L hm hg lm rfl em hL hb with rfl | x
    · rw [hg] at hm; cases hm
      rw [hL] at em; cases em
      exact ⟨rfl, Nat.le_refl _, hsi, di⟩
    · rcases x.way with ⟨d, hd⟩ | ⟨d, _⟩
      · exact ⟨x.sh, hd, x.si, (d.mono fun k o' hk _ => keep _ _ hk).trans di⟩
      · exact absurd hm fun hm => nodown _ _ d hm
  refine ⟨fun g hg => ?_, fun j oj hj => ?_, fun j k oj ok Lj Lk hj hk lj lk ej ek hb => ?_, fun j hj hjn => ?_, fun j oj M hoj lj hj e => ?_, fun j hj => ?_, ?_, r.n0le, r.os, r.out⟩
  · obtain ⟨M, e, x⟩ := r.glob g hg
    exact ⟨M, hle _ _ e, x⟩
  · rw [T.get_set] at hj
    split at hj
    · cases hj
      subst_vars
      exact ⟨L, Ren.put_self, hO⟩
    · obtain ⟨M, e, x⟩ := r.obj j oj hj
      refine ⟨M, hle _ _ e, ?_⟩
      by_cases hlj : oj.live = true
      · by_cases hb : M.blk = L.blk
        · obtain ⟨n1, n2, n3, _⟩ := near j oj M hj hlj e hb
          exact hold M oj hb n1 n2 n3 x
        · exact x.congr hle fun _ => old _ hb
      · cases oj <;> first | exact absurd rfl hlj | trivial
  · have low : ∀ m u M, (h.set q o).get m = some u → ρ.put q L m = some M → q ≠ m → h.get m = some u ∧ ρ m = some M := fun m u M hm em hqm => by
      rw [T.get_set, if_neg hqm] at hm
      exact ⟨hm, by rw [← em]; exact (if_neg (Ne.symm hqm)).symm⟩
    have self : ∀ u M, (h.set q o).get q = some u → ρ.put q L q = some M → u = o ∧ M = L := fun u M hu hM => by
      rw [T.get_set, if_pos rfl] at hu
      rw [Ren.put_self] at hM
      cases hu; cases hM
      exact ⟨rfl, rfl⟩
    by_cases hqj : q = j <;> by_cases hqk : q = k
    · exact .inl (hqj.symm.trans hqk)
    · subst hqj
      obtain ⟨rfl, rfl⟩ := self _ _ hj ej
      obtain ⟨c1, c2⟩ := low k ok Lk hk ek hqk
      obtain ⟨n1, n2, n3, n4⟩ := near k ok Lk c1 lk c2 hb.symm
      exact .inr ⟨ho, n3, n1.symm, .inr ⟨n4, Nat.le_trans n2 hlen⟩⟩
    · subst hqk
      obtain ⟨rfl, rfl⟩ := self _ _ hk ek
      obtain ⟨c1, c2⟩ := low j oj Lj hj ej hqj
      obtain ⟨n1, n2, n3, n4⟩ := near j oj Lj c1 lj c2 hb
      exact .inr ⟨n3, ho, n1, .inl ⟨n4, Nat.le_trans n2 hlen⟩⟩
    · obtain ⟨c1, c2⟩ := low j oj Lj hj ej hqj
      obtain ⟨d1, d2⟩ := low k ok Lk hk ek hqk
      exact (r.apart j k oj ok Lj Lk c1 d1 lj lk c2 d2 hb).imp id fun x => x.mono fun m u hm _ => keep m u hm
  · rw [T.get_set] at hjn
    split at hjn
    · cases hjn
    · exact (if_neg (Ne.symm ‹_›)).trans (r.new j hj hjn)
  · by_cases hjq : j = q
    · subst hjq
      rw [Ren.put_self] at e
      cases e
      exact r.fresh i _ L hg rfl hi hL
    · rw [T.get_set, if_neg (Ne.symm hjq)] at hoj
      exact r.fresh j oj M hoj lj hj ((if_neg hjq).symm.trans e)
  · show (w.heap.setIfInBounds L.blk O)[j]? = _
    rw [old j (by have := r.fresh i _ L hg rfl hi hL; omega)]
    exact r.low j hj
  · simp; exact r.b0le
end
end Go.Rx
