/- A heap as a tree, a run over it that tells what it read and wrote, and that such a run is the same over any heap that agrees there. When a value and a heap of the short run stand for a real value and a real world. -/
import Derived.Orders
namespace Go.Rx
set_option linter.unusedVariables false
set_option linter.unusedSimpArgs false
noncomputable section

/-- A tree of four ways, and the way to a number. -/
inductive T (α : Type) where
  | e
  | n (v : Option α) (a b c d : T α)
inductive D4 where
  | d0
  | d1
  | d2
  | d3
  deriving DecidableEq

def dig : Nat → D4
  | 0 => .d0
  | 1 => .d1
  | 2 => .d2
  | _ => .d3
def D4.val : D4 → Nat
  | .d0 => 0
  | .d1 => 1
  | .d2 => 2
  | .d3 => 3
def pathF (f : Nat) : Nat → List D4 := Nat.rec (fun _ => []) (fun _ ih k => Nat.casesOn k [] fun k => dig (k % 4) :: ih (k / 4)) f
def path (k : Nat) : List D4 := pathF k k
def dec : List D4 → Nat
  | [] => 0
  | b :: l => 4 * dec l + b.val + 1
theorem dec_pathF (f k : Nat) (h : k ≤ f) : dec (pathF f k) = k := by
  induction f generalizing k with
  | zero => have : k = 0 := by omega
            subst this; rfl
  | succ f ih =>
    cases k with
    | zero => rfl
    | succ k =>
      show 4 * dec (pathF f (k / 4)) + (dig (k % 4)).val + 1 = k + 1
      rw [ih _ (by omega)]
      have : k % 4 = 0 ∨ k % 4 = 1 ∨ k % 4 = 2 ∨ k % 4 = 3 := by omega
      rcases this with h | h | h | h <;> rw [h] <;> simp [dig, D4.val] <;> omega
theorem path_inj {j k : Nat} (h : path j = path k) : j = k := by
  rw [← dec_pathF j j (Nat.le_refl _), ← dec_pathF k k (Nat.le_refl _)]; exact congrArg dec h

namespace T
variable {α : Type}
def getP (p : List D4) : T α → Option α := List.rec (motive := fun _ => T α → Option α)
  (fun t => T.rec (motive := fun _ => Option α) none (fun v _ _ _ _ _ _ _ _ => v) t)
  (fun x _ ih t => T.rec (motive := fun _ => Option α) none (fun _ a b c d _ _ _ _ => D4.rec (motive := fun _ => Option α) (ih a) (ih b) (ih c) (ih d) x) t) p
section
variable {β : Type}
def setA (ih : T α → (T α → β) → β) (k : T α → β) (v : Option α) (a b c d : T α) : β := ih a fun y => k (.n v y b c d)
def setB (ih : T α → (T α → β) → β) (k : T α → β) (v : Option α) (a b c d : T α) : β := ih b fun y => k (.n v a y c d)
def setC (ih : T α → (T α → β) → β) (k : T α → β) (v : Option α) (a b c d : T α) : β := ih c fun y => k (.n v a b y d)
def setD (ih : T α → (T α → β) → β) (k : T α → β) (v : Option α) (a b c d : T α) : β := ih d fun y => k (.n v a b c y)
def setS (x : D4) : (T α → (T α → β) → β) → (T α → β) → Option α → T α → T α → T α → T α → β := D4.rec (motive := fun _ => (T α → (T α → β) → β) → (T α → β) → Option α → T α → T α → T α → T α → β) setA setB setC setD x
def setP (x : α) (p : List D4) (t : T α) (k : T α → β) : β := List.rec (motive := fun _ => T α → (T α → β) → β)
  (fun t k => T.rec (motive := fun _ => β) (k (.n (some x) .e .e .e .e)) (fun _ a b c d _ _ _ _ => k (.n (some x) a b c d)) t)
  (fun x _ ih t k => T.rec (motive := fun _ => β) (setS x ih k none .e .e .e .e) (fun v a b c d _ _ _ _ => setS x ih k v a b c d) t) p t k
end
def get (t : T α) (i : Nat) : Option α := getP (path i) t
def setK {β : Type} (t : T α) (i : Nat) (x : α) (k : T α → β) : β := setP x (path i) t k
def set (t : T α) (i : Nat) (x : α) : T α := setK t i x id
theorem setP_cons {β : Type} (x : α) (b : D4) (p : List D4) (t : T α) (k : T α → β) : setP x (b :: p) t k = match t with
    | .e => setS b (setP x p) k none .e .e .e .e
    | .n v a1 b1 c1 d1 => setS b (setP x p) k v a1 b1 c1 d1 := by cases t <;> rfl
theorem setP_eq {β : Type} (x : α) (p : List D4) (t : T α) (k : T α → β) : setP x p t k = k (setP x p t id) := by
  induction p generalizing t k β with
  | nil => cases t <;> rfl
  | cons b p ih =>
    rw [setP_cons, setP_cons]
    cases t with
    | e =>
      cases b
      · exact (ih .e fun l => k (.n none l .e .e .e)).trans (congrArg k (ih .e fun l => T.n none l .e .e .e).symm)
      · exact (ih .e fun l => k (.n none .e l .e .e)).trans (congrArg k (ih .e fun l => T.n none .e l .e .e).symm)
      · exact (ih .e fun l => k (.n none .e .e l .e)).trans (congrArg k (ih .e fun l => T.n none .e .e l .e).symm)
      · exact (ih .e fun l => k (.n none .e .e .e l)).trans (congrArg k (ih .e fun l => T.n none .e .e .e l).symm)
    | n v a1 b1 c1 d1 =>
      cases b
      · exact (ih a1 fun l => k (.n v l b1 c1 d1)).trans (congrArg k (ih a1 fun l => T.n v l b1 c1 d1).symm)
      · exact (ih b1 fun l => k (.n v a1 l c1 d1)).trans (congrArg k (ih b1 fun l => T.n v a1 l c1 d1).symm)
      · exact (ih c1 fun l => k (.n v a1 b1 l d1)).trans (congrArg k (ih c1 fun l => T.n v a1 b1 l d1).symm)
      · exact (ih d1 fun l => k (.n v a1 b1 c1 l)).trans (congrArg k (ih d1 fun l => T.n v a1 b1 c1 l).symm)
theorem setK_eq {β : Type} (t : T α) (i : Nat) (x : α) (k : T α → β) : setK t i x k = k (set t i x) := setP_eq x _ t k
theorem getP_nil (v : Option α) (a b c d : T α) : getP [] (.n v a b c d) = v := rfl
theorem getP_cons (x : D4) (p : List D4) (v : Option α) (a b c d : T α) : getP (x :: p) (.n v a b c d) = match x with
    | .d0 => getP p a
    | .d1 => getP p b
    | .d2 => getP p c
    | .d3 => getP p d := by cases x <;> rfl
theorem getP_e (p : List D4) : getP p (.e : T α) = none := by cases p <;> rfl
theorem setP_nil (x : α) (t : T α) : setP x [] t id = match t with
    | .e => .n (some x) .e .e .e .e
    | .n _ a b c d => .n (some x) a b c d := by cases t <;> rfl
theorem setP_at (x : α) (b : D4) (p : List D4) (t : T α) : setP x (b :: p) t id = match t, b with
    | .e, .d0 => .n none (setP x p .e id) .e .e .e
    | .e, .d1 => .n none .e (setP x p .e id) .e .e
    | .e, .d2 => .n none .e .e (setP x p .e id) .e
    | .e, .d3 => .n none .e .e .e (setP x p .e id)
    | .n v a1 b1 c1 d1, .d0 => .n v (setP x p a1 id) b1 c1 d1
    | .n v a1 b1 c1 d1, .d1 => .n v a1 (setP x p b1 id) c1 d1
    | .n v a1 b1 c1 d1, .d2 => .n v a1 b1 (setP x p c1 id) d1
    | .n v a1 b1 c1 d1, .d3 => .n v a1 b1 c1 (setP x p d1 id) := by
  rw [setP_cons]
  cases t <;> cases b <;> exact setP_eq x p _ _
theorem getP_setP (x : α) (p q : List D4) (t : T α) : getP q (setP x p t id) = if p = q then some x else getP q t := by
  induction p generalizing q t with
  | nil =>
    rw [setP_nil]
    cases t <;> cases q <;> first
      | rfl
      | (rw [if_neg (by simp)]; rename_i y q; cases y <;> simp [getP_cons, getP_e])
      | (rw [if_neg (by simp)]; rfl)
  | cons b p ih =>
    rw [setP_at]
    cases q with
    | nil => cases t <;> cases b <;> rfl
    | cons c q =>
      have hne : ∀ {u v : D4}, u ≠ v → ¬ (u :: p = v :: q) := fun h e => h (List.cons.inj e).1
      have heq : ∀ {u : D4}, (u :: p = u :: q) = (p = q) := by simp
      cases t <;> cases b <;> cases c <;> first
        | (rw [if_neg (hne (by simp))]; simp [getP_cons, getP_e]; done)
        | (simp only [getP_cons, heq, ih, getP_e])
theorem get_set (t : T α) (i j : Nat) (x : α) : (t.set i x).get j = if i = j then some x else t.get j := by
  show getP (path j) (setP x (path i) t id) = _
  rw [getP_setP]
  by_cases h : i = j
  · subst h; simp
  · rw [if_neg h, if_neg fun e => h (path_inj e)]; rfl
theorem get_e (i : Nat) : (T.e : T α).get i = none := getP_e _
end T

/-- A number, worked out before it is used. -/
def fN {β : Type} (n : Nat) (k : Nat → β) : β := Nat.casesOn n (k 0) fun m => k (m + 1)
theorem fN_eq {β : Type} (n : Nat) (k : Nat → β) : fN n k = k n := by cases n <;> rfl

/-- A number that is not worked out: what was touched is looked at in drawn regions alone. -/
def fM {β : Type} (n : Nat) (k : Nat → β) : β := k n
theorem fM_eq {β : Type} (n : Nat) (k : Nat → β) : fM n k = k n := rfl

/-- One block: a row of cells (the part that a string shares; 'some n': the real row may be longer, of elements of n cells), a map, or a block that is no longer to be used. -/
inductive AObj where
  | cells (c : List Value) (t : TypeId) (f0 f1 : Nat) (loose : Option Nat)
  | map (es : List (Value × Value)) (clk : Nat)
  | dead

structure St where
  nx : Nat
  h : T AObj
  rd : Nat
  wr : Nat

def fL {α β : Type} : List α → (List α → β) → β
  | [], k => k []
  | x :: l, k => fL l fun l => k (x :: l)
theorem fL_eq {α β : Type} (l : List α) (k : List α → β) : fL l k = k l := by
  induction l generalizing k with
  | nil => rfl
  | cons x l ih => exact ih _
/-! What is read and written is told place by place: a block's kind, and its cells (those from the fifteenth on as one). -/
inductive Kd where
  | cells (len : Nat) (t : TypeId) (f0 f1 : Nat) (loose : Option Nat)
  | other (o : AObj)
def kdOf : Option AObj → Option Kd
  | some (.cells c t f0 f1 lo) => some (.cells c.length t f0 f1 lo)
  | some o => some (.other o)
  | none => none
def cellOf : Option AObj → Nat → Option Value
  | some (.cells c _ _ _ _), k => c[k]?
  | _, _ => none
inductive Ct where
  | k (x : Option Kd)
  | c (x : Option Value)
abbrev Lc := Nat × Option Nat
def T.look (h : T AObj) : Lc → Ct
  | (i, none) => .k (kdOf (h.get i))
  | (i, some k) => .c (cellOf (h.get i) k)
def bitOf : Lc → Nat
  | (i, none) => 16 * i + 15
  | (i, some k) => 16 * i + min k 14
theorem obj_ext {a b : Option AObj} (h1 : kdOf a = kdOf b) (h2 : ∀ k, cellOf a k = cellOf b k) : a = b := by
  match a, b with
  | none, none => rfl
  | none, some (.cells ..) => cases h1
  | none, some (.map ..) => cases h1
  | none, some .dead => cases h1
  | some (.cells ..), none => cases h1
  | some (.map ..), none => cases h1
  | some .dead, none => cases h1
  | some (.map ..), some (.map ..) => cases h1; rfl
  | some .dead, some .dead => rfl
  | some (.map ..), some .dead => cases h1
  | some .dead, some (.map ..) => cases h1
  | some (.cells ..), some (.map ..) => cases h1
  | some (.cells ..), some .dead => cases h1
  | some (.map ..), some (.cells ..) => cases h1
  | some .dead, some (.cells ..) => cases h1
  | some (.cells c t f0 f1 lo), some (.cells c' t' f0' f1' lo') =>
    have : c = c' := List.ext_getElem? h2
    subst this
    simp only [kdOf, Option.some.injEq, Kd.cells.injEq] at h1
    obtain ⟨_, rfl, rfl, rfl, rfl⟩ := h1
    rfl
theorem look_get {a b : T AObj} {i : Nat} (h : ∀ x : Option Nat, a.look (i, x) = b.look (i, x)) : a.get i = b.get i :=
  obj_ext (Ct.k.inj (h none)) fun k => Ct.c.inj (h (some k))
theorem look_of_get {a b : T AObj} {i : Nat} (h : a.get i = b.get i) (x : Option Nat) : a.look (i, x) = b.look (i, x) := by
  cases x <;> simp only [T.look, h]

/-- Sixteen bits a block. -/
def mask (i m : Nat) : Nat := m <<< (16 * i)
theorem mask_bit {i m : Nat} (hm : m < 2 ^ 16) (x : Lc) : (mask i m).testBit (bitOf x) = (decide (x.1 = i) && m.testBit (match x.2 with | none => 15 | some k => min k 14)) := by
  obtain ⟨j, y⟩ := x
  have key : ∀ r, r < 16 → (mask i m).testBit (16 * j + r) = (decide (j = i) && m.testBit r) := fun r hr => by
    unfold mask
    rw [Nat.testBit_shiftLeft]
    by_cases hj : j = i
    · subst hj
      simp
    · have : decide (j = i) = false := by simp [hj]
      rw [this, Bool.false_and]
      rcases Nat.lt_or_ge j i with h | h
      · have : ¬ (16 * j + r ≥ 16 * i) := by omega
        simp [this]
      · rw [Nat.testBit_lt_two_pow (Nat.lt_of_lt_of_le hm (Nat.pow_le_pow_right (by omega) (by omega)))]
        simp
  cases y with
  | none => exact key 15 (by omega)
  | some k => exact key (min k 14) (by omega)
/-- The bits of n cells. -/
def cm (off n : Nat) : Nat := match n with
  | 0 => 0
  | _ => (2 ^ (min (off + n - 1) 14 + 1 - min off 14) - 1) <<< min off 14
theorem cm_bit {off n r : Nat} (hn : 0 < n) : (cm off n).testBit r = (decide (min off 14 ≤ r) && decide (r ≤ min (off + n - 1) 14)) := by
  unfold cm
  split
  · omega
  · rw [Nat.testBit_shiftLeft, Nat.testBit_two_pow_sub_one, Bool.eq_iff_iff]
    simp only [Bool.and_eq_true, decide_eq_true_eq]
    omega
theorem cm_lt (off n : Nat) : cm off n < 2 ^ 15 := by
  rcases Nat.eq_zero_or_pos n with h | h
  · subst h; simp [cm]
  · refine Nat.lt_pow_two_of_testBit _ fun r hr => ?_
    rw [cm_bit h]
    have : ¬ (r ≤ min (off + n - 1) 14) := by omega
    simp [this]

def Framed {α : Type} (f : St → Option (α × St)) : Prop := ∀ s a s', f s = some (a, s') → ∃ dr dw,
  s'.rd = s.rd ||| dr ∧ s'.wr = s.wr ||| dw ∧
  ∀ t : St, t.nx = s.nx → (∀ x, (dr ||| dw).testBit (bitOf x) = true → t.h.look x = s.h.look x) → ∃ t', f t = some (a, t') ∧ t'.nx = s'.nx ∧
    t'.rd = t.rd ||| dr ∧ t'.wr = t.wr ||| dw ∧ ∀ x, t'.h.look x = if dw.testBit (bitOf x) then s'.h.look x else t.h.look x

structure X (α : Type) where
  run : St → Option (α × St)
  fr : Framed run

namespace X
variable {α β : Type}
theorem Framed.keeps {f : St → Option (α × St)} (hf : Framed f) {s : St} {a : α} {s' : St} (h : f s = some (a, s')) :
    ∃ dr dw, s'.rd = s.rd ||| dr ∧ s'.wr = s.wr ||| dw ∧ ∀ x, dw.testBit (bitOf x) = false → s'.h.look x = s.h.look x := by
  obtain ⟨dr, dw, h1, h2, h3⟩ := hf s a s' h
  obtain ⟨t', e, _, _, _, h4⟩ := h3 s rfl fun _ _ => rfl
  rw [h] at e
  cases e
  exact ⟨dr, dw, h1, h2, fun i hi => by rw [h4 i]; simp [hi]⟩
theorem framed_bind {f : St → Option (α × St)} {g : α → St → Option (β × St)} (hf : Framed f) (hg : ∀ a, Framed (g a)) :
    Framed fun s => match f s with | some (a, s) => g a s | none => none := by
  intro s b s2 h
  dsimp only at h
  split at h
  case h_2 => cases h
  case h_1 a s1 h1 =>
    obtain ⟨r1, w1, e1, e2, F⟩ := hf s a s1 h1
    obtain ⟨r2, w2, e3, e4, G⟩ := hg a s1 b s2 h
    refine ⟨r1 ||| r2, w1 ||| w2, by rw [e3, e1, Nat.or_assoc], by rw [e4, e2, Nat.or_assoc], fun t ht ha => ?_⟩
    obtain ⟨t1, f1, n1, q1, q2, q3⟩ := F t ht fun i hi => ha i (by
      simp only [Nat.testBit_or, Bool.or_eq_true] at hi ⊢; rcases hi with h | h <;> simp [h])
    obtain ⟨s1', f1', _, _, _, q3'⟩ := F s rfl fun _ _ => rfl
    rw [h1] at f1'
    cases f1'
    obtain ⟨t2, f2, n2, p1, p2, p3⟩ := G t1 n1 fun i hi => by
      rw [q3 i, q3' i]
      by_cases hw : w1.testBit (bitOf i) = true
      · simp [hw]
      · simp only [hw]
        exact ha i (by simp only [Nat.testBit_or, Bool.or_eq_true] at hi ⊢; rcases hi with h | h <;> simp [h])
    refine ⟨t2, by simp [f1, f2], n2, by rw [p1, q1, Nat.or_assoc], by rw [p2, q2, Nat.or_assoc], fun i => ?_⟩
    obtain ⟨s2', g2', _, _, _, p3'⟩ := G s1 rfl fun _ _ => rfl
    rw [h] at g2'
    cases g2'
    rw [p3 i]
    simp only [Nat.testBit_or]
    by_cases hw : w2.testBit (bitOf i) = true
    · simp [hw]
    · simp only [hw, Bool.or_false]
      rw [q3 i, p3' i]
      simp [hw]
def pure (a : α) : X α := ⟨fun s => some (a, s), fun s a' s' h => ⟨0, 0, by cases h; simp, by cases h; simp, fun t _ _ => ⟨t, by cases h; simp, by cases h; assumption, by simp, by simp, by simp⟩⟩⟩
def bind (m : X α) (f : α → X β) : X β := ⟨fun s => match m.run s with | some (a, s) => (f a).run s | none => none, framed_bind m.fr fun a => (f a).fr⟩
/-- The next free name. -/
def nxt : X Nat := ⟨fun s => some (s.nx, s), fun s a s' h => ⟨0, 0, by cases h; simp, by cases h; simp, fun t ht _ => ⟨t, by cases h; show some (t.nx, t) = some (s.nx, t); rw [ht], by cases h; exact ht, by simp, by simp, by simp⟩⟩⟩
def fail : X α := ⟨fun _ => none, fun _ _ _ h => by cases h⟩
def lift (o : Option α) : X α := match o with | some a => pure a | none => fail
theorem bit_all (r : Nat) (h : r < 16) : (65535 : Nat).testBit r = true := by
  have : (65535 : Nat) = 2 ^ 16 - 1 := rfl
  rw [this, Nat.testBit_two_pow_sub_one]
  simpa using h
theorem all_bit (i : Nat) (x : Lc) : (mask i 65535).testBit (bitOf x) = decide (x.1 = i) := by
  rw [mask_bit (by omega)]
  have : (65535 : Nat).testBit (match x.2 with | none => 15 | some k => min k 14) = true := bit_all _ (by split <;> omega)
  rw [this, Bool.and_true]
theorem look_set (h : T AObj) (i : Nat) (o : AObj) (x : Lc) : (h.set i o).look x = if x.1 = i then (T.set .e i o).look x else h.look x := by
  obtain ⟨j, y⟩ := x
  by_cases hj : j = i
  · subst hj
    rw [if_pos rfl]
    exact look_of_get (by simp [T.get_set]) y
  · rw [if_neg hj]
    exact look_of_get (by rw [T.get_set, if_neg (Ne.symm hj)]) y
/-- A block is looked at as a whole. -/
def rd (i : Nat) : X AObj := ⟨fun s => match s with
    | ⟨nx, h, r, w⟩ => match h.get i with
      | some o => fM (r ||| mask i 65535) fun r => some (o, ⟨nx, h, r, w⟩)
      | none => none, by
  rintro ⟨nx, h, r, w⟩ a s' e
  dsimp only at e
  split at e
  case h_2 => cases e
  case h_1 o ho =>
    rw [fM_eq] at e
    cases e
    refine ⟨mask i 65535, 0, rfl, by simp, fun t ht ha => ?_⟩
    obtain ⟨nx', h', r', w'⟩ := t
    have : h'.get i = h.get i := look_get fun x => ha (i, x) (by simp [all_bit])
    dsimp only at this ht ⊢
    rw [this, ho]
    exact ⟨⟨nx', h', r' ||| mask i 65535, w'⟩, by dsimp only; rw [fM_eq], ht, rfl, by simp, by simp⟩⟩
/-- A block that is there gets new content. -/
def wrt (i : Nat) (x : AObj) : X Unit := ⟨fun s => match s with
    | ⟨nx, h, r, w⟩ => match h.get i with
      | some _ => T.setK h i x fun h => fM (w ||| mask i 65535) fun w => some ((), ⟨nx, h, r, w⟩)
      | none => none, by
  rintro ⟨nx, h, r, w⟩ a s' e
  dsimp only at e
  split at e
  case h_2 => cases e
  case h_1 o ho =>
    rw [T.setK_eq, fM_eq] at e
    cases e
    refine ⟨0, mask i 65535, by simp, rfl, fun t ht ha => ?_⟩
    obtain ⟨nx', h', r', w'⟩ := t
    have : h'.get i = h.get i := look_get fun x => ha (i, x) (by simp [all_bit])
    dsimp only at this ht ⊢
    rw [this, ho]
    refine ⟨_, by rw [T.setK_eq, fM_eq], ht, by simp, rfl, fun y => ?_⟩
    rw [all_bit, look_set h', look_set h]
    by_cases hj : y.1 = i <;> simp [hj]⟩
/-- A new block. -/
def new (x : AObj) : X Nat := ⟨fun s => match s with
    | ⟨nx, h, r, w⟩ => match h.get nx with
      | some _ => none
      | none => T.setK h nx x fun h => fM (w ||| mask nx 65535) fun w => fN (nx + 1) fun n => some (nx, ⟨n, h, r, w⟩), by
  rintro ⟨nx, h, r, w⟩ a s' e
  dsimp only at e
  split at e
  case h_1 => cases e
  case h_2 ho =>
    rw [T.setK_eq, fM_eq, fN_eq] at e
    cases e
    refine ⟨0, mask nx 65535, by simp, rfl, fun t ht ha => ?_⟩
    obtain ⟨nx', h', r', w'⟩ := t
    dsimp only at ha ht ⊢
    subst ht
    have : h'.get nx' = h.get nx' := look_get fun x => ha (nx', x) (by simp [all_bit])
    rw [this, ho]
    refine ⟨_, by rw [T.setK_eq, fM_eq, fN_eq], rfl, by simp, rfl, fun y => ?_⟩
    rw [all_bit, look_set h', look_set h]
    by_cases hj : y.1 = nx' <;> simp [hj]⟩
/-- n cells of a row, and its kind. -/
def rdc (i off n : Nat) : X (List Value × TypeId × Nat × Nat × Option Nat) := ⟨fun s => match s with
    | ⟨nx, h, r, w⟩ => match h.get i with
      | some (.cells c t f0 f1 lo) => fL ((c.drop off).take n) fun l => match Nat.beq l.length n with
        | true => fM (r ||| mask i (32768 ||| cm off n)) fun r => some ((l, t, f0, f1, lo), ⟨nx, h, r, w⟩)
        | false => none
      | _ => none, by
  rintro ⟨nx, h, r, w⟩ a s' e
  dsimp only at e
  split at e
  case h_2 => cases e
  case h_1 c t f0 f1 lo ho =>
    rw [fL_eq] at e
    split at e
    case h_2 => cases e
    case h_1 hl =>
      rw [fM_eq] at e
      cases e
      have hm : 32768 ||| cm off n < 2 ^ 16 := Nat.or_lt_two_pow (by omega) (Nat.lt_trans (cm_lt off n) (by omega))
      refine ⟨mask i (32768 ||| cm off n), 0, rfl, by simp, fun u hu ha => ?_⟩
      obtain ⟨nx', h', r', w'⟩ := u
      dsimp only at hu ha ⊢
      have hk := ha (i, none) (by
        rw [Nat.or_zero, mask_bit hm, Nat.testBit_or]
        have : (32768 : Nat).testBit 15 = true := by decide
        simp [this])
      have hk' : kdOf (h'.get i) = kdOf (h.get i) := Ct.k.inj hk
      rw [ho] at hk'
      have hex : ∃ c', h'.get i = some (.cells c' t f0 f1 lo) ∧ c'.length = c.length := by
        cases hq : h'.get i with
        | none => rw [hq] at hk'; cases hk'
        | some o => cases o with
          | cells c' t' f0' f1' lo' =>
            rw [hq] at hk'
            simp only [kdOf, Option.some.injEq, Kd.cells.injEq] at hk'
            obtain ⟨e1, rfl, rfl, rfl, rfl⟩ := hk'
            exact ⟨c', rfl, e1⟩
          | map _ _ => rw [hq] at hk'; cases hk'
          | dead => rw [hq] at hk'; cases hk'
      obtain ⟨c', hc', hlen⟩ := hex
      have hcells : (c'.drop off).take n = (c.drop off).take n := by
        apply List.ext_getElem?
        intro k
        rw [List.getElem?_take, List.getElem?_take]
        split
        · rename_i hkn
          rw [List.getElem?_drop, List.getElem?_drop]
          have hx := ha (i, some (off + k)) (by
            rw [Nat.or_zero, mask_bit hm, Nat.testBit_or, cm_bit (by omega)]
            have h1 : min off 14 ≤ min (off + k) 14 := by omega
            have h2 : min (off + k) 14 ≤ min (off + n - 1) 14 := by omega
            simp [h1, h2])
          have hx := Ct.c.inj hx
          rw [hc', ho] at hx
          exact hx
        · rfl
      rw [hc']
      refine ⟨⟨nx', h', r' ||| mask i (32768 ||| cm off n), w'⟩, ?_, hu, rfl, by simp, by simp⟩
      dsimp only
      rw [fL_eq, hcells, hl]
      dsimp only
      rw [fM_eq]⟩
def spl (c : List Value) (off : Nat) (vs : List Value) : List Value := c.take off ++ vs ++ c.drop (off + vs.length)
theorem spl_length {c : List Value} {off : Nat} {vs : List Value} (h : off + vs.length ≤ c.length) : (spl c off vs).length = c.length := by simp [spl]; omega
theorem spl_get {c : List Value} {off : Nat} {vs : List Value} (h : off + vs.length ≤ c.length) (k : Nat) : (spl c off vs)[k]? = if off ≤ k ∧ k < off + vs.length then vs[k - off]? else c[k]? := by
  unfold spl
  simp only [List.getElem?_append, List.length_append, List.length_take, List.getElem?_take, List.getElem?_drop]
  repeat' split
  all_goals first | rfl | (exfalso; omega) | (congr 1; omega)
/-- Some cells of a row that is there get new values. -/
def wrc (i off : Nat) (vs : List Value) : X Unit := ⟨fun s => match s with
    | ⟨nx, h, r, w⟩ => match h.get i with
      | some (.cells c t f0 f1 lo) => match Nat.ble (off + vs.length) c.length with
        | true => fL (spl c off vs) fun c => T.setK h i (.cells c t f0 f1 lo) fun h => fM (r ||| mask i 32768) fun r => fM (w ||| mask i (cm off vs.length)) fun w => some ((), ⟨nx, h, r, w⟩)
        | false => none
      | _ => none, by
  rintro ⟨nx, h, r, w⟩ a s' e
  dsimp only at e
  split at e
  case h_2 => cases e
  case h_1 c t f0 f1 lo ho =>
    split at e
    case h_2 => cases e
    case h_1 hle =>
      have hle' := Nat.le_of_ble_eq_true hle
      rw [fL_eq, T.setK_eq, fM_eq, fM_eq] at e
      cases e
      have hm : cm off vs.length < 2 ^ 16 := Nat.lt_trans (cm_lt off vs.length) (by omega)
      have hkbit : ∀ j, (mask i 32768).testBit (bitOf (j, none)) = decide (j = i) := fun j => by
        rw [mask_bit (by omega)]
        have : (32768 : Nat).testBit 15 = true := by decide
        simp [this]
      refine ⟨mask i 32768, mask i (cm off vs.length), rfl, rfl, fun u hu ha => ?_⟩
      obtain ⟨nx', h', r', w'⟩ := u
      dsimp only at hu ha ⊢
      have hk := ha (i, none) (by rw [Nat.testBit_or, hkbit]; simp)
      have hk' : kdOf (h'.get i) = kdOf (h.get i) := Ct.k.inj hk
      rw [ho] at hk'
      have hex : ∃ c', h'.get i = some (.cells c' t f0 f1 lo) ∧ c'.length = c.length := by
        cases hq : h'.get i with
        | none => rw [hq] at hk'; cases hk'
        | some o => cases o with
          | cells c' t' f0' f1' lo' =>
            rw [hq] at hk'
            simp only [kdOf, Option.some.injEq, Kd.cells.injEq] at hk'
            obtain ⟨e1, rfl, rfl, rfl, rfl⟩ := hk'
            exact ⟨c', rfl, e1⟩
          | map _ _ => rw [hq] at hk'; cases hk'
          | dead => rw [hq] at hk'; cases hk'
      obtain ⟨c', hc', hlen⟩ := hex
      rw [hc']
      refine ⟨⟨nx', h'.set i (.cells (spl c' off vs) t f0 f1 lo), r' ||| mask i 32768, w' ||| mask i (cm off vs.length)⟩, ?_, hu, rfl, rfl, fun x => ?_⟩
      · dsimp only
        rw [hlen, hle]
        dsimp only
        rw [fL_eq, T.setK_eq, fM_eq, fM_eq]
      · dsimp only
        obtain ⟨j, y⟩ := x
        by_cases hj : j = i
        · subst hj
          cases y with
          | none =>
            have hb : (mask j (cm off vs.length)).testBit (bitOf (j, none)) = false := by
              rw [mask_bit hm]
              have := Nat.testBit_lt_two_pow (cm_lt off vs.length)
              simp only [this, Bool.and_false]
            rw [hb]
            simp only [Bool.false_eq_true, if_false, T.look, T.get_set, if_true, hc', kdOf, spl_length (hlen ▸ hle')]
          | some k =>
            have e1 : (h'.set j (.cells (spl c' off vs) t f0 f1 lo)).look (j, some k) = .c ((spl c' off vs)[k]?) := by simp [T.look, T.get_set, cellOf]
            have e2 : (h.set j (.cells (spl c off vs) t f0 f1 lo)).look (j, some k) = .c ((spl c off vs)[k]?) := by simp [T.look, T.get_set, cellOf]
            have e3 : h'.look (j, some k) = .c c'[k]? := by simp [T.look, hc', cellOf]
            have e4 : h.look (j, some k) = .c c[k]? := by simp [T.look, ho, cellOf]
            rw [e1, e2, e3, spl_get hle', spl_get (hlen ▸ hle')]
            by_cases hin : off ≤ k ∧ k < off + vs.length
            · have hb : (mask j (cm off vs.length)).testBit (bitOf (j, some k)) = true := by
                rw [mask_bit hm, cm_bit (by omega)]
                have h1 : min off 14 ≤ min k 14 := by omega
                have h2 : min k 14 ≤ min (off + vs.length - 1) 14 := by omega
                simp [h1, h2]
              rw [hb]
              simp [hin]
            · rw [if_neg hin, if_neg hin]
              split
              · rename_i hb
                have := ha (j, some k) (by rw [Nat.testBit_or, hb]; simp)
                rw [e3, e4] at this
                exact this
              · rfl
        · have hb : (mask i (cm off vs.length)).testBit (bitOf (j, y)) = false := by rw [mask_bit hm]; simp [hj]
          rw [hb, look_set]
          simp [hj]⟩

theorem bind_some {m : X α} {f : α → X β} {s : St} {b : β} {s' : St} (h : (m.bind f).run s = some (b, s')) :
    ∃ a s1, m.run s = some (a, s1) ∧ (f a).run s1 = some (b, s') := by
  simp only [bind] at h
  split at h
  · exact ⟨_, _, ‹_›, h⟩
  · cases h
theorem lift_some {o : Option α} {s : St} {a : α} {s' : St} (h : (lift o).run s = some (a, s')) : o = some a ∧ s' = s := by
  cases o with
  | none => cases h
  | some x => cases h; exact ⟨rfl, rfl⟩
theorem pure_some {x : α} {s : St} {a : α} {s' : St} (h : (pure x).run s = some (a, s')) : a = x ∧ s' = s := by cases h; exact ⟨rfl, rfl⟩
theorem rd_some {i : Nat} {s : St} {a : AObj} {s' : St} (h : (rd i).run s = some (a, s')) : s.h.get i = some a ∧ s'.h = s.h ∧ s'.nx = s.nx := by
  obtain ⟨nx, h0, r, w⟩ := s
  simp only [rd] at h
  split at h
  · rw [fM_eq] at h; cases h; exact ⟨‹_›, rfl, rfl⟩
  · cases h
theorem wrt_some {i : Nat} {x : AObj} {s : St} {a : Unit} {s' : St} (h : (wrt i x).run s = some (a, s')) : (∃ o, s.h.get i = some o) ∧ s'.h = s.h.set i x ∧ s'.nx = s.nx := by
  obtain ⟨nx, h0, r, w⟩ := s
  simp only [wrt] at h
  split at h
  · rw [T.setK_eq, fM_eq] at h; cases h; exact ⟨⟨_, ‹_›⟩, rfl, rfl⟩
  · cases h
theorem new_some {x : AObj} {s : St} {a : Nat} {s' : St} (h : (new x).run s = some (a, s')) : a = s.nx ∧ s.h.get s.nx = none ∧ s'.h = s.h.set s.nx x ∧ s'.nx = s.nx + 1 := by
  obtain ⟨nx, h0, r, w⟩ := s
  simp only [new] at h
  split at h
  · cases h
  · rw [T.setK_eq, fM_eq, fN_eq] at h; cases h; exact ⟨rfl, ‹_›, rfl, rfl⟩
theorem rdc_some {i off n : Nat} {s : St} {l : List Value} {t : TypeId} {f0 f1 : Nat} {lo : Option Nat} {s' : St} (h : (rdc i off n).run s = some ((l, t, f0, f1, lo), s')) :
    ∃ c, s.h.get i = some (.cells c t f0 f1 lo) ∧ l = (c.drop off).take n ∧ l.length = n ∧ s'.h = s.h ∧ s'.nx = s.nx := by
  obtain ⟨nx, h0, r, w⟩ := s
  simp only [rdc] at h
  split at h
  case h_2 => cases h
  case h_1 c t f0 f1 lo ho =>
    rw [fL_eq] at h
    split at h
    case h_2 => cases h
    case h_1 hl =>
      rw [fM_eq] at h
      cases h
      exact ⟨c, ho, rfl, Nat.eq_of_beq_eq_true hl, rfl, rfl⟩
theorem wrc_some {i off : Nat} {vs : List Value} {s : St} {a : Unit} {s' : St} (h : (wrc i off vs).run s = some (a, s')) :
    ∃ c t f0 f1 lo, s.h.get i = some (.cells c t f0 f1 lo) ∧ off + vs.length ≤ c.length ∧ s'.h = s.h.set i (.cells (spl c off vs) t f0 f1 lo) ∧ s'.nx = s.nx := by
  obtain ⟨nx, h0, r, w⟩ := s
  simp only [wrc] at h
  split at h
  case h_2 => cases h
  case h_1 c t f0 f1 lo ho =>
    split at h
    case h_2 => cases h
    case h_1 hl =>
      rw [fL_eq, T.setK_eq, fM_eq, fM_eq] at h
      cases h
      exact ⟨c, t, f0, f1, lo, ho, Nat.le_of_ble_eq_true hl, rfl, rfl⟩
end X
end
end Go.Rx

namespace Go.Rx
set_option linter.unusedVariables false
set_option linter.unusedSimpArgs false

structure Loc where
  blk : Nat
  sh : Nat
  sz : Nat
  loose : Option Nat

abbrev Ren := Nat → Option Loc
def Ren.le (ρ ρ' : Ren) : Prop := ∀ i L, ρ i = some L → ρ' i = some L
theorem Ren.le_refl (ρ : Ren) : ρ.le ρ := fun _ _ h => h
theorem Ren.le_trans {ρ ρ' ρ'' : Ren} (h : ρ.le ρ') (h' : ρ'.le ρ'') : ρ.le ρ'' := fun i L e => h' i L (h i L e)

def SlOk (L : Loc) (off cap cap' : Nat) : Prop := cap' = cap ∨ ∃ n, L.loose = some n ∧ cap ≤ cap' ∧ L.sh + off + cap' * n ≤ L.sz
theorem SlOk.le {L : Loc} {off cap cap' : Nat} (h : SlOk L off cap cap') : cap ≤ cap' := by rcases h with h | ⟨_, _, h, _⟩ <;> omega

mutual
inductive VRel (ρ : Ren) : Value → Value → Prop
  | bool (b : Bool) : VRel ρ (.bool b) (.bool b)
  | int (k : IntKind) (n : Int) : VRel ρ (.int k n) (.int k n)
  | str (s : ByteArray) : VRel ρ (.string s) (.string s)
  | nilp : VRel ρ (.pointer none) (.pointer none)
  | ptr {i : Nat} {L : Loc} (off : Nat) : ρ i = some L → VRel ρ (.pointer (some ⟨i, off, none⟩)) (.pointer (some ⟨L.blk, L.sh + off, none⟩))
  | nils : VRel ρ (.slice none 0 0) (.slice none 0 0)
  | hid {a : Addr} {c : Nat} : VRel ρ (.slice none 0 1) (.slice (some a) 0 c)
  | slice {i : Nat} {L : Loc} (off len : Nat) {cap cap' : Nat} : ρ i = some L → SlOk L off cap cap' →
      VRel ρ (.slice (some ⟨i, off, none⟩) len cap) (.slice (some ⟨L.blk, L.sh + off, none⟩) len cap')
  | nilm : VRel ρ (.map none) (.map none)
  | map {i : Nat} {L : Loc} : ρ i = some L → VRel ρ (.map (some i)) (.map (some L.blk))
  | func (f : Fn) {a a' b b' : Array Value} : VRels ρ a.toList a'.toList → VRels ρ b.toList b'.toList → VRel ρ (.func f a b) (.func f a' b')
  | nilf : VRel ρ .nilFunc .nilFunc
  | iface (t : TypeId) {v v' : Value} : VRel ρ v v' → VRel ρ (.iface t v) (.iface t v')
  | nili : VRel ρ .nilIface .nilIface
  | agg {a a' : Array Value} : VRels ρ a.toList a'.toList → VRel ρ (.agg a) (.agg a')
  | tuple {a a' : Array Value} : VRels ρ a.toList a'.toList → VRel ρ (.tuple a) (.tuple a')
inductive VRels (ρ : Ren) : List Value → List Value → Prop
  | nil : VRels ρ [] []
  | cons {x x' : Value} {l l' : List Value} : VRel ρ x x' → VRels ρ l l' → VRels ρ (x :: l) (x' :: l')
end

mutual
theorem VRel.mono {ρ ρ' : Ren} (hr : ρ.le ρ') : ∀ {v v' : Value}, VRel ρ v v' → VRel ρ' v v'
  | _, _, .bool b => .bool b
  | _, _, .int k n => .int k n
  | _, _, .str s => .str s
  | _, _, .nilp => .nilp
  | _, _, .ptr off h => .ptr off (hr _ _ h)
  | _, _, .nils => .nils
  | _, _, .hid => .hid
  | _, _, .slice off len h g => .slice off len (hr _ _ h) g
  | _, _, .nilm => .nilm
  | _, _, .map h => .map (hr _ _ h)
  | _, _, .func f h g => .func f (VRels.mono hr h) (VRels.mono hr g)
  | _, _, .nilf => .nilf
  | _, _, .iface t h => .iface t (VRel.mono hr h)
  | _, _, .nili => .nili
  | _, _, .agg h => .agg (VRels.mono hr h)
  | _, _, .tuple h => .tuple (VRels.mono hr h)
theorem VRels.mono {ρ ρ' : Ren} (hr : ρ.le ρ') : ∀ {v v' : List Value}, VRels ρ v v' → VRels ρ' v v'
  | _, _, .nil => .nil
  | _, _, .cons h g => .cons (VRel.mono hr h) (VRels.mono hr g)
end

namespace VRels
variable {ρ : Ren} {a a' b b' : List Value}
theorem length (h : VRels ρ a a') : a'.length = a.length := by
  induction a generalizing a' with
  | nil => cases h; rfl
  | cons x l ih => cases h with | cons _ h => simp [ih h]
theorem append (h : VRels ρ a a') (g : VRels ρ b b') : VRels ρ (a ++ b) (a' ++ b') := by
  induction a generalizing a' with
  | nil => cases h; exact g
  | cons x l ih => cases h with | cons h1 h => exact .cons h1 (ih h)
theorem get {i : Nat} {v : Value} (h : VRels ρ a a') (e : a[i]? = some v) : ∃ v', a'[i]? = some v' ∧ VRel ρ v v' := by
  induction i generalizing a a' with
  | zero => cases h with
    | nil => cases e
    | cons h1 _ => cases e; exact ⟨_, rfl, h1⟩
  | succ i ih => cases h with
    | nil => cases e
    | cons _ h2 => exact ih h2 e
theorem of_get (hl : a'.length = a.length) (h : ∀ (i : Nat) (v : Value), a[i]? = some v → ∃ v', a'[i]? = some v' ∧ VRel ρ v v') : VRels ρ a a' := by
  induction a generalizing a' with
  | nil => cases a' <;> simp at hl; exact .nil
  | cons x l ih =>
    cases a' with
    | nil => simp at hl
    | cons x' l' =>
      obtain ⟨v', e, r⟩ := h 0 x rfl
      cases e
      exact .cons r (ih (by simpa using hl) fun i v e => h (i + 1) v e)
theorem drop (n : Nat) (h : VRels ρ a a') : VRels ρ (a.drop n) (a'.drop n) := by
  induction n generalizing a a' with
  | zero => exact h
  | succ n ih => cases h with
    | nil => simpa using VRels.nil
    | cons _ h => exact ih h
theorem take (n : Nat) (h : VRels ρ a a') : VRels ρ (a.take n) (a'.take n) := by
  induction n generalizing a a' with
  | zero => exact .nil
  | succ n ih => cases h with
    | nil => exact .nil
    | cons h1 h => exact .cons h1 (ih h)
theorem set (i : Nat) {v v' : Value} (h : VRels ρ a a') (hv : VRel ρ v v') : VRels ρ (a.set i v) (a'.set i v') := by
  induction i generalizing a a' with
  | zero => cases h with
    | nil => exact .nil
    | cons _ h => exact .cons hv h
  | succ n ih => cases h with
    | nil => exact .nil
    | cons h1 h => exact .cons h1 (ih h)
end VRels

/-- A value without an address stands for itself. -/
def plainV : Value → Bool
  | .bool _ | .int .. | .string _ | .pointer none | .slice none 0 0 | .map none | .nilFunc | .nilIface => true
  | _ => false
theorem VRel.plain {ρ : Ren} {v : Value} (h : plainV v = true) : VRel ρ v v := by
  unfold plainV at h
  split at h <;> first | constructor | cases h
def plainL : List Value → Bool
  | [] => true
  | v :: l => plainV v && plainL l
theorem VRels.plain {ρ : Ren} {l : List Value} (h : plainL l = true) : VRels ρ l l := by
  induction l with
  | nil => exact .nil
  | cons v l ih => simp only [plainL, Bool.and_eq_true] at h; exact .cons (.plain h.1) (ih h.2)

def LiveObj (ρ : Ren) (L : Loc) (w : World) : AObj → Prop
  | .cells c t f0 f1 loose => L.loose = loose ∧ ∃ cs el fr, w.heap[L.blk]? = some (.cells cs el fr) ∧ el = el ∧ cs.size = L.sz ∧
      (loose = none → L.sh = 0 ∧ c.length = L.sz) ∧ L.sh + c.length ≤ L.sz ∧ VRels ρ c ((cs.toList.drop L.sh).take c.length) ∧
      ∀ j, fr.1 ≤ j → j < fr.2 → L.sh ≤ j → j < L.sz → f0 ≤ j - L.sh ∧ j - L.sh < f1
  | .map es clk => ∃ es' : Array MapEntry, w.heap[L.blk]? = some (.map es' clk) ∧ VRels ρ (es.map (·.1)) (es'.toList.map (·.key)) ∧ VRels ρ (es.map (·.2)) (es'.toList.map (·.val))
  | .dead => True

def AObj.live : AObj → Bool
  | .dead => false
  | _ => true

/-- A row that is only read from now on. Others of its kind may share its block: those that were made by appending to it. -/
def big : Nat := 4294967296
def AObj.seal : AObj → Bool
  | .cells _ _ f0 f1 _ => Nat.beq f1 0 && Nat.ble big f0
  | _ => false
/-- the row that was made last by appending to it -/
def AObj.kid : AObj → Option Nat
  | .cells c t f0 f1 lo => match AObj.seal (.cells c t f0 f1 lo) && Nat.blt big f0 with
    | true => some (f0 - big - 1)
    | false => none
  | _ => none
def AObj.len : AObj → Nat
  | .cells c _ _ _ _ => c.length
  | _ => 0
theorem AObj.seal_of_kid {o : AObj} {k : Nat} (h : o.kid = some k) : o.seal = true := by
  cases o with
  | cells c t f0 f1 lo =>
    dsimp only [AObj.kid] at h
    split at h
    · rename_i hh; simp only [Bool.and_eq_true] at hh; exact hh.1
    · cases h
  | _ => cases h
theorem not_seal {c : List Value} {t : TypeId} {f0 f1 : Nat} {lo : Option Nat} (h : f0 ≤ 1048576) : AObj.seal (.cells c t f0 f1 lo) = false := by
  cases hq : AObj.seal (.cells c t f0 f1 lo) with
  | false => rfl
  | true =>
    unfold AObj.seal at hq
    simp only [Bool.and_eq_true] at hq
    have h2 : 4294967296 ≤ f0 := Nat.le_of_ble_eq_true hq.2
    omega
theorem AObj.live_of_seal {o : AObj} (h : o.seal = true) : o.live = true := by
  cases o <;> first | rfl | cases h
inductive Down (h : T AObj) : Nat → Nat → Prop
  | one {i j : Nat} {o : AObj} : h.get i = some o → o.kid = some j → Down h i j
  | more {i j k : Nat} {o : AObj} : h.get i = some o → o.kid = some j → Down h j k → Down h i k
theorem Down.mono {h h' : T AObj} {i j : Nat} (d : Down h i j) (H : ∀ k o, h.get k = some o → o.kid ≠ none → h'.get k = some o) : Down h' i j := by
  induction d with
  | one h1 h2 => exact .one (H _ _ h1 (by rw [h2]; simp)) h2
  | more h1 h2 _ ih => exact .more (H _ _ h1 (by rw [h2]; simp)) h2 ih
theorem Down.trans {h : T AObj} {i j k : Nat} (d : Down h i j) (e : Down h j k) : Down h i k := by
  induction d with
  | one h1 h2 => exact .more h1 h2 e
  | more h1 h2 _ ih => exact .more h1 h2 (ih e)
/-- two rows in one block -/
structure Kin (h : T AObj) (i j : Nat) (oi oj : AObj) (Li Lj : Loc) : Prop where
  si : oi.seal = true
  sj : oj.seal = true
  sh : Li.sh = Lj.sh
  way : (Down h i j ∧ oi.len ≤ oj.len) ∨ (Down h j i ∧ oj.len ≤ oi.len)
theorem Kin.mono {h h' : T AObj} {i j : Nat} {oi oj : AObj} {Li Lj : Loc} (x : Kin h i j oi oj Li Lj) (H : ∀ k o, h.get k = some o → o.kid ≠ none → h'.get k = some o) : Kin h' i j oi oj Li Lj :=
  ⟨x.si, x.sj, x.sh, x.way.imp (fun d => ⟨d.1.mono H, d.2⟩) fun d => ⟨d.1.mono H, d.2⟩⟩

/-- The heap h of the short run stands for the world w; w0 is the world in which the run began, b0 the number of its blocks, N0 the number of blocks with a fixed place. -/
structure Rel (N0 b0 : Nat) (w0 : World) (ρ : Ren) (h : T AObj) (w : World) : Prop where
  glob : ∀ g, g < N0 → ∃ L, ρ g = some L ∧ L.blk = g ∧ L.sh = 0
  obj : ∀ i o, h.get i = some o → ∃ L, ρ i = some L ∧ LiveObj ρ L w o
  apart : ∀ i j oi oj Li Lj, h.get i = some oi → h.get j = some oj → oi.live = true → oj.live = true → ρ i = some Li → ρ j = some Lj → Li.blk = Lj.blk → i = j ∨ Kin h i j oi oj Li Lj
  new : ∀ i, N0 ≤ i → h.get i = none → ρ i = none
  fresh : ∀ i o L, h.get i = some o → o.live = true → N0 ≤ i → ρ i = some L → b0 ≤ L.blk
  low : ∀ i, i < b0 → w.heap[i]? = w0.heap[i]?
  b0le : b0 ≤ w.heap.size
  n0le : N0 ≤ b0
  os : w.os = w0.os
  out : w.output = w0.output

theorem LiveObj.congr {ρ ρ' : Ren} {L : Loc} {w w' : World} {o : AObj} (hr : ρ.le ρ') (h : LiveObj ρ L w o) (hw : o.live = true → w'.heap[L.blk]? = w.heap[L.blk]?) : LiveObj ρ' L w' o := by
  cases o with
  | cells c t f0 f1 loose =>
    obtain ⟨h0, cs, el, fr, h1, h2, h3, h4, h5, h6, h7⟩ := h
    exact ⟨h0, cs, el, fr, (hw rfl).trans h1, h2, h3, h4, h5, h6.mono hr, h7⟩
  | map es clk =>
    obtain ⟨es', h1, h2, h3⟩ := h
    exact ⟨es', (hw rfl).trans h1, h2.mono hr, h3.mono hr⟩
  | dead => trivial

theorem LiveObj.lt {ρ : Ren} {L : Loc} {w : World} {o : AObj} (h : LiveObj ρ L w o) (hl : o.live = true) : L.blk < w.heap.size := by
  cases o with
  | cells c t f0 f1 loose => obtain ⟨_, cs, el, fr, h1, _⟩ := h; exact (Array.getElem?_eq_some_iff.1 h1).1
  | map es clk => obtain ⟨es', h1, _⟩ := h; exact (Array.getElem?_eq_some_iff.1 h1).1
  | dead => cases hl

noncomputable section
variable {N0 b0 : Nat} {w0 : World} {ρ : Ren} {h : T AObj} {w : World}

/-- The relation looks at the heap's content and at the world's heap, system and output alone. -/
theorem Rel.same (r : Rel N0 b0 w0 ρ h w) {h' : T AObj} {w' : World} (e : ∀ i, h'.get i = h.get i) (e1 : w'.heap = w.heap) (e2 : w'.os = w.os) (e3 : w'.output = w.output) : Rel N0 b0 w0 ρ h' w' where
  glob := r.glob
  obj i o hi := by
    obtain ⟨L, h1, h2⟩ := r.obj i o (e i ▸ hi)
    exact ⟨L, h1, h2.congr (Ren.le_refl _) fun _ => by rw [e1]⟩
  apart i j oi oj Li Lj h1 h2 l1 l2 e3 e4 hb := (r.apart i j oi oj Li Lj (e i ▸ h1) (e j ▸ h2) l1 l2 e3 e4 hb).imp id fun x => x.mono fun k o hk _ => (e k).trans hk
  new i hi hn := r.new i hi (e i ▸ hn)
  fresh i o L hi := r.fresh i o L (e i ▸ hi)
  low i hi := by rw [e1]; exact r.low i hi
  b0le := by rw [e1]; exact r.b0le
  n0le := r.n0le
  os := e2.trans r.os
  out := e3.trans r.out

def Ren.put (ρ : Ren) (i : Nat) (L : Loc) : Ren := fun j => if j = i then some L else ρ j
theorem Ren.le_put {ρ : Ren} {i : Nat} {L : Loc} (h : ρ i = none) : ρ.le (ρ.put i L) := fun j M e => by
  unfold Ren.put
  by_cases hj : j = i
  · subst hj; rw [h] at e; cases e
  · rw [if_neg hj]; exact e
theorem Ren.put_self {ρ : Ren} {i : Nat} {L : Loc} : ρ.put i L i = some L := if_pos rfl

/-- A new block on both sides. -/
theorem Rel.push (r : Rel N0 b0 w0 ρ h w) {i : Nat} (hi : N0 ≤ i) (hn : h.get i = none) (O : Obj) (o : AObj) (L : Loc) (hL : L.blk = w.heap.size)
    (hO : LiveObj (ρ.put i L) L { w with heap := w.heap.push O } o) : Rel N0 b0 w0 (ρ.put i L) (h.set i o) { w with heap := w.heap.push O } := by
  have hle : ρ.le (ρ.put i L) := Ren.le_put (r.new i hi hn)
  have old : ∀ k, k < w.heap.size → (w.heap.push O)[k]? = w.heap[k]? := fun k hk => Array.getElem?_push_lt hk ▸ (Array.getElem?_eq_getElem hk).symm
  refine ⟨fun g hg => ?_, fun j oj hj => ?_, fun j k oj ok Lj Lk hj hk lj lk ej ek hb => ?_, fun j hj hjn => ?_, fun j oj M hoj lj hj e => ?_, fun j hj => ?_, ?_, r.n0le, r.os, r.out⟩
  · obtain ⟨M, e, x⟩ := r.glob g hg
    exact ⟨M, hle _ _ e, x⟩
  · rw [T.get_set] at hj
    split at hj
    · cases hj
      subst_vars
      exact ⟨L, Ren.put_self, hO⟩
    · obtain ⟨M, e, x⟩ := r.obj j oj hj
      refine ⟨M, hle _ _ e, x.congr hle fun hl => old _ (x.lt hl)⟩
  · have lt : ∀ j oj Lj, h.get j = some oj → oj.live = true → ρ.put i L j = some Lj → i ≠ j → ρ j = some Lj ∧ Lj.blk < w.heap.size := fun j oj Lj hj lj ej hne => by
      obtain ⟨M, e, x⟩ := r.obj j oj hj
      have : ρ.put i L j = ρ j := if_neg (Ne.symm hne)
      rw [this] at ej
      rw [ej] at e
      cases e
      exact ⟨ej, x.lt lj⟩
    rw [T.get_set] at hj hk
    by_cases hij : i = j <;> by_cases hik : i = k
    · exact .inl (hij.symm.trans hik)
    · rw [if_neg hik] at hk
      subst hij
      rw [Ren.put_self] at ej
      cases ej
      have := (lt k ok Lk hk lk ek hik).2
      omega
    · rw [if_neg hij] at hj
      subst hik
      rw [Ren.put_self] at ek
      cases ek
      have := (lt j oj Lj hj lj ej hij).2
      omega
    · rw [if_neg hij] at hj
      rw [if_neg hik] at hk
      exact (r.apart j k oj ok Lj Lk hj hk lj lk (lt j oj Lj hj lj ej hij).1 (lt k ok Lk hk lk ek hik).1 hb).imp id fun x => x.mono fun m o hm _ => by
        rw [T.get_set, if_neg (fun e => by rw [← e, hn] at hm; cases hm)]; exact hm
  · rw [T.get_set] at hjn
    split at hjn
    · cases hjn
    · show (if j = i then some L else ρ j) = none
      rw [if_neg (by rintro rfl; contradiction)]
      exact r.new j hj hjn
  · by_cases hji : j = i
    · subst hji
      rw [Ren.put_self] at e
      cases e
      have := r.b0le
      omega
    · have e' : ρ j = some M := by rw [← e]; exact (if_neg hji).symm
      rw [T.get_set, if_neg (Ne.symm hji)] at hoj
      exact r.fresh j oj M hoj lj hj e'
  · show (w.heap.push O)[j]? = _
    rw [old j (Nat.lt_of_lt_of_le hj r.b0le)]
    exact r.low j hj
  · simp; exact Nat.le_succ_of_le r.b0le

/-- A block that is there gets new content on both sides. -/
theorem Rel.upd (r : Rel N0 b0 w0 ρ h w) {i : Nat} {o : AObj} {L : Loc} (hi : N0 ≤ i) (hg : h.get i = some o) (ho : o.live = true) (hs : o.seal = false) (hL : ρ i = some L) (O : Obj) (o' : AObj)
    (hO : LiveObj ρ L { w with heap := w.heap.setIfInBounds L.blk O } o') : Rel N0 b0 w0 ρ (h.set i o') { w with heap := w.heap.setIfInBounds L.blk O } := by
  have hlt : L.blk < w.heap.size := by
    obtain ⟨M, e, x⟩ := r.obj i o hg
    rw [hL] at e
    cases e
    exact x.lt ho
  have old : ∀ k, k ≠ L.blk → (w.heap.setIfInBounds L.blk O)[k]? = w.heap[k]? := fun k hk => by rw [Array.getElem?_setIfInBounds_ne (Ne.symm hk)]
  have live : ∀ j oj, (h.set i o').get j = some oj → oj.live = true → ∃ p, h.get j = some p ∧ p.live = true := fun j oj hj lj => by
    rw [T.get_set] at hj
    split at hj
    · cases hj; subst_vars; exact ⟨o, hg, ho⟩
    · exact ⟨oj, hj, lj⟩
  refine ⟨r.glob, fun j oj hj => ?_, fun j k oj ok Lj Lk hj hk lj lk ej ek hb => ?_, fun j hj hjn => ?_, fun j oj M hoj lj hj e => ?_, fun j hj => ?_, ?_, r.n0le, r.os, r.out⟩
  · rw [T.get_set] at hj
    split at hj
    · cases hj
      subst_vars
      exact ⟨L, hL, hO⟩
    · obtain ⟨M, e, x⟩ := r.obj j oj hj
      refine ⟨M, e, x.congr (Ren.le_refl _) fun hl => old _ fun hb => ?_⟩
      rcases r.apart j i oj o M L hj hg hl ho e hL hb with this | this
      · exact absurd this.symm ‹_›
      · exact absurd (hs.symm.trans this.sj) (by simp)
  · obtain ⟨p, h1, h2⟩ := live j oj hj lj
    obtain ⟨q, h3, h4⟩ := live k ok hk lk
    rcases r.apart j k p q Lj Lk h1 h3 h2 h4 ej ek hb with e | x
    · exact .inl e
    · have ne : ∀ m u, h.get m = some u → u.seal = true → i ≠ m := fun m u hm hu e => by
        subst e; rw [hg] at hm; cases hm; rw [hs] at hu; cases hu
      rw [T.get_set, if_neg (ne j p h1 x.si), h1] at hj
      rw [T.get_set, if_neg (ne k q h3 x.sj), h3] at hk
      cases hj
      cases hk
      exact .inr (x.mono fun m u hm hu => by
        rw [T.get_set, if_neg (ne m u hm (by cases hq : u.kid with | none => exact absurd hq hu | some y => exact AObj.seal_of_kid hq))]
        exact hm)
  · rw [T.get_set] at hjn
    split at hjn
    · cases hjn
    · exact r.new j hj hjn
  · obtain ⟨p, h1, h2⟩ := live j oj hoj lj
    exact r.fresh j p M h1 h2 hj e
  · show (w.heap.setIfInBounds L.blk O)[j]? = _
    rw [old j (by have := r.fresh i o L hg ho hi hL; omega)]
    exact r.low j hj
  · simp; exact r.b0le

/-- A block is given up, and a new one stands for what it stood for. -/
theorem Rel.take (r : Rel N0 b0 w0 ρ h w) {i : Nat} {o : AObj} {L : Loc} (hi : N0 ≤ i) (hg : h.get i = some o) (ho : o.live = true) (hs : o.seal = false) (hL : ρ i = some L) {j : Nat} (hj : N0 ≤ j) (hn : h.get j = none)
    (O : Obj) (o' : AObj) (L' : Loc) (hb : L'.blk = L.blk) (hO : LiveObj (ρ.put j L') L' { w with heap := w.heap.setIfInBounds L.blk O } o') :
    Rel N0 b0 w0 (ρ.put j L') ((h.set i .dead).set j o') { w with heap := w.heap.setIfInBounds L.blk O } := by
  have hle : ρ.le (ρ.put j L') := Ren.le_put (r.new j hj hn)
  have hij : i ≠ j := fun e => by rw [e, hn] at hg; cases hg
  have old : ∀ k, k ≠ L.blk → (w.heap.setIfInBounds L.blk O)[k]? = w.heap[k]? := fun k hk => by rw [Array.getElem?_setIfInBounds_ne (Ne.symm hk)]
  have sub : ∀ k ok M, ((h.set i .dead).set j o').get k = some ok → ok.live = true → k ≠ j → ρ.put j L' k = some M → h.get k = some ok ∧ ρ k = some M ∧ M.blk ≠ L.blk := fun k ok M hk lk hkj e => by
    rw [T.get_set, if_neg (Ne.symm hkj), T.get_set] at hk
    split at hk
    · cases hk; cases lk
    · have e' : ρ k = some M := by rw [← e]; exact (if_neg hkj).symm
      exact ⟨hk, e', fun hb => (r.apart k i ok o M L hk hg lk ho e' hL hb).elim (fun e => absurd e.symm ‹_›) fun x => by exact absurd (hs.symm.trans x.sj) (by simp)⟩
  refine ⟨fun g hg => ?_, fun k ok hk => ?_, fun a b oa ob La Lb ha hb' la lb ea eb he => ?_, fun k hk hkn => ?_, fun k ok M hok lk hk e => ?_, fun k hk => ?_, ?_, r.n0le, r.os, r.out⟩
  · obtain ⟨M, e, x⟩ := r.glob g hg
    exact ⟨M, hle _ _ e, x⟩
  · by_cases hkj : k = j
    · subst hkj
      rw [T.get_set, if_pos rfl] at hk
      cases hk
      exact ⟨L', Ren.put_self, hO⟩
    · by_cases hki : k = i
      · subst hki
        rw [T.get_set, if_neg (Ne.symm hkj), T.get_set, if_pos rfl] at hk
        cases hk
        exact ⟨L, hle _ _ hL, trivial⟩
      · rw [T.get_set, if_neg (Ne.symm hkj), T.get_set, if_neg (Ne.symm hki)] at hk
        obtain ⟨M, e, x⟩ := r.obj k ok hk
        refine ⟨M, hle _ _ e, x.congr hle fun hl => old _ fun hb' => ?_⟩
        exact (r.apart k i ok o M L hk hg hl ho e hL hb').elim (fun e => absurd e hki) fun x => by exact absurd (hs.symm.trans x.sj) (by simp)
  · by_cases haj : a = j <;> by_cases hbj : b = j
    · exact .inl (haj.trans hbj.symm)
    · subst haj
      rw [Ren.put_self] at ea
      cases ea
      exact absurd (he.symm.trans hb) (sub b ob Lb hb' lb hbj eb).2.2
    · subst hbj
      rw [Ren.put_self] at eb
      cases eb
      exact absurd (he.trans hb) (sub a oa La ha la haj ea).2.2
    · obtain ⟨a1, a2, _⟩ := sub a oa La ha la haj ea
      obtain ⟨b1, b2, _⟩ := sub b ob Lb hb' lb hbj eb
      refine (r.apart a b oa ob La Lb a1 b1 la lb a2 b2 he).imp id fun x => x.mono fun m u hm hu => ?_
      have h1 : j ≠ m := fun e => by rw [← e, hn] at hm; cases hm
      have h2 : i ≠ m := fun e => by
        subst e; rw [hg] at hm; cases hm
        cases hq : o.kid with
        | none => exact hu hq
        | some y => rw [AObj.seal_of_kid hq] at hs; cases hs
      rw [T.get_set, if_neg h1, T.get_set, if_neg h2]
      exact hm
  · have hkj : k ≠ j := fun e => by subst e; rw [T.get_set, if_pos rfl] at hkn; cases hkn
    rw [T.get_set, if_neg (Ne.symm hkj), T.get_set] at hkn
    split at hkn
    · cases hkn
    · exact (if_neg hkj).trans (r.new k hk hkn)
  · by_cases hkj : k = j
    · subst hkj
      rw [Ren.put_self] at e
      cases e
      rw [hb]
      exact r.fresh i o L hg ho hi hL
    · obtain ⟨a1, a2, _⟩ := sub k ok M hok lk hkj e
      exact r.fresh k ok M a1 lk hk a2
  · show (w.heap.setIfInBounds L.blk O)[k]? = _
    rw [old k (by have := r.fresh i o L hg ho hi hL; omega)]
    exact r.low k hk
  · simp; exact r.b0le

/-- A block is given up: one that is not the way to another that is still used. -/
theorem Rel.kill (r : Rel N0 b0 w0 ρ h w) {i : Nat} {o : AObj} (hg : h.get i = some o) (hs : ∀ k, o.kid = some k → h.get k = none ∨ h.get k = some .dead) : Rel N0 b0 w0 ρ (h.set i .dead) w := by
  have sub : ∀ j oj, (h.set i .dead).get j = some oj → oj.live = true → h.get j = some oj ∧ i ≠ j := fun j oj hj lj => by
    rw [T.get_set] at hj
    split at hj
    · cases hj; cases lj
    · exact ⟨hj, ‹_›⟩
  have dn : ∀ a b ob, Down h a b → i ≠ a → h.get b = some ob → ob.live = true → Down (h.set i .dead) a b := fun a b ob d => by
    induction d with
    | one h1 h2 => intro ha hb lb; exact .one (by rw [T.get_set, if_neg ha]; exact h1) h2
    | @more a k b o' h1 h2 d ih =>
      intro ha hb lb
      refine .more (by rw [T.get_set, if_neg ha]; exact h1) h2 (ih ?_ hb lb)
      rintro rfl
      have stop : ∀ x, h.get x = none ∨ h.get x = some .dead → ∀ y, ¬ Down h x y := fun x hx y e => by
        cases e with
        | one e1 e2 => rcases hx with hx | hx <;> (rw [hx] at e1; cases e1 <;> cases e2)
        | more e1 e2 _ => rcases hx with hx | hx <;> (rw [hx] at e1; cases e1 <;> cases e2)
      cases d with
      | one e1 e2 =>
        rw [hg] at e1; cases e1
        rcases hs _ e2 with hx | hx <;> (rw [hx] at hb; cases hb <;> cases lb)
      | more e1 e2 e3 => rw [hg] at e1; cases e1; exact stop _ (hs _ e2) _ e3
  refine ⟨r.glob, fun j oj hj => ?_, fun j k oj ok Lj Lk hj hk lj lk ej ek hb => ?_, fun j hj hjn => ?_, fun j oj M hoj lj => r.fresh j oj M (sub j oj hoj lj).1 lj, r.low, r.b0le, r.n0le, r.os, r.out⟩
  · rw [T.get_set] at hj
    split at hj
    · cases hj
      subst_vars
      obtain ⟨L, h1, _⟩ := r.obj _ o hg
      exact ⟨L, h1, trivial⟩
    · exact r.obj j oj hj
  · obtain ⟨a1, a2⟩ := sub j oj hj lj
    obtain ⟨b1, b2⟩ := sub k ok hk lk
    refine (r.apart j k oj ok Lj Lk a1 b1 lj lk ej ek hb).imp id fun x => ⟨x.si, x.sj, x.sh, x.way.imp (fun d => ⟨dn j k ok d.1 a2 b1 lk, d.2⟩) fun d => ⟨dn k j oj d.1 b2 a1 lj, d.2⟩⟩
  · rw [T.get_set] at hjn
    split at hjn
    · cases hjn
    · exact r.new j hj hjn

theorem stop_down {x : Nat} (hx : h.get x = none ∨ h.get x = some .dead) (y : Nat) : ¬ Down h x y := fun e => by
  cases e with
  | one e1 e2 => rcases hx with hx | hx <;> (rw [hx] at e1; cases e1 <;> cases e2)
  | more e1 e2 _ => rcases hx with hx | hx <;> (rw [hx] at e1; cases e1 <;> cases e2)
/-- A row is only read from now on, and q is to be the one made by appending to it. -/
theorem Rel.reseal (r : Rel N0 b0 w0 ρ h w) {i q : Nat} {c : List Value} {t : TypeId} {f0 : Nat} {lo : Option Nat} (hg : h.get i = some (.cells c t f0 0 lo)) (hs : ∀ k, (AObj.cells c t f0 0 lo).kid = some k → h.get k = none ∨ h.get k = some .dead) :
    Rel N0 b0 w0 ρ (h.set i (.cells c t (big + 1 + q) 0 lo)) w := by
  have hseal : AObj.seal (.cells c t (big + 1 + q) 0 lo) = true := by
    unfold AObj.seal
    simp only [Bool.and_eq_true]
    exact ⟨rfl, Nat.ble_eq_true_of_le (by omega)⟩
  have sub : ∀ j oj, (h.set i (.cells c t (big + 1 + q) 0 lo)).get j = some oj → oj.live = true → ∃ p, h.get j = some p ∧ p.live = true ∧ p.len = oj.len ∧ (p.seal = true → oj.seal = true) := fun j oj hj lj => by
    rw [T.get_set] at hj
    split at hj
    · cases hj
      subst_vars
      exact ⟨_, hg, rfl, rfl, fun _ => hseal⟩
    · exact ⟨_, hj, lj, rfl, id⟩
  have dn : ∀ a b ob, Down h a b → h.get b = some ob → ob.live = true → Down (h.set i (.cells c t (big + 1 + q) 0 lo)) a b := fun a b ob d => by
    induction d with
    | @one a b o' h1 h2 =>
      intro hb lb
      have ha : i ≠ a := by
        rintro rfl
        rw [hg] at h1; cases h1
        rcases hs _ h2 with hx | hx <;> (rw [hx] at hb; cases hb <;> cases lb)
      exact .one (by rw [T.get_set, if_neg ha]; exact h1) h2
    | @more a k b o' h1 h2 d ih =>
      intro hb lb
      have ha : i ≠ a := by
        rintro rfl
        rw [hg] at h1; cases h1
        exact stop_down (hs _ h2) _ d
      exact .more (by rw [T.get_set, if_neg ha]; exact h1) h2 (ih hb lb)
  refine ⟨r.glob, fun j oj hj => ?_, fun j k oj ok Lj Lk hj hk lj lk ej ek hb => ?_, fun j hj hjn => ?_, fun j oj M hoj lj => by obtain ⟨p, a1, a2, _⟩ := sub j oj hoj lj; exact r.fresh j p M a1 a2, r.low, r.b0le, r.n0le, r.os, r.out⟩
  · rw [T.get_set] at hj
    split at hj
    · cases hj
      subst_vars
      obtain ⟨L, h1, q0, cs, el, fr, q1, q2, q3, q4, q5, q6, q7⟩ := r.obj _ _ hg
      exact ⟨L, h1, q0, cs, el, fr, q1, q2, q3, q4, q5, q6, fun j j1 j2 j3 j4 => by have := (q7 j j1 j2 j3 j4).2; omega⟩
    · exact r.obj j oj hj
  · obtain ⟨p, a1, a2, a3, a4⟩ := sub j oj hj lj
    obtain ⟨u, b1, b2, b3, b4⟩ := sub k ok hk lk
    refine (r.apart j k p u Lj Lk a1 b1 a2 b2 ej ek hb).imp id fun x => ⟨a4 x.si, b4 x.sj, x.sh, ?_⟩
    rw [← a3, ← b3]
    exact x.way.imp (fun d => ⟨dn j k u d.1 b1 b2, d.2⟩) fun d => ⟨dn k j p d.1 a1 a2, d.2⟩
  · rw [T.get_set] at hjn
    split at hjn
    · cases hjn
    · exact r.new j hj hjn
/-- The one made by appending stands in the same block. -/
theorem Rel.graft (r : Rel N0 b0 w0 ρ h w) {i q : Nat} {c : List Value} {t : TypeId} {lo : Option Nat} {L : Loc} (hi : N0 ≤ i) (hg : h.get i = some (.cells c t (big + 1 + q) 0 lo)) (hL : ρ i = some L)
    (hq : N0 ≤ q) (hn : h.get q = none) (O : Obj) (o : AObj) (ho : o.seal = true) (hlen : c.length ≤ o.len) (hO : LiveObj (ρ.put q L) L { w with heap := w.heap.setIfInBounds L.blk O } o)
    (hold : ∀ M u, M.blk = L.blk → M.sh = L.sh → u.len ≤ c.length → u.seal = true → LiveObj ρ M w u → LiveObj (ρ.put q L) M { w with heap := w.heap.setIfInBounds L.blk O } u) :
    Rel N0 b0 w0 (ρ.put q L) (h.set q o) { w with heap := w.heap.setIfInBounds L.blk O } := by
  have hle : ρ.le (ρ.put q L) := Ren.le_put (r.new q hq hn)
  have hkid : (AObj.cells c t (big + 1 + q) 0 lo).kid = some q := by
    have h1 : (AObj.seal (.cells c t (big + 1 + q) 0 lo) && Nat.blt big (big + 1 + q)) = true := by
      unfold AObj.seal
      simp only [Bool.and_eq_true]
      exact ⟨⟨rfl, Nat.ble_eq_true_of_le (by omega)⟩, Nat.ble_eq_true_of_le (by omega)⟩
    dsimp only [AObj.kid]
    rw [h1]
    have h2 : ∀ b : Nat, b + 1 + q - b - 1 = q := fun b => by omega
    exact congrArg some (h2 big)
  have hsi : (AObj.cells c t (big + 1 + q) 0 lo).seal = true := AObj.seal_of_kid hkid
  have hiq : q ≠ i := fun e => by rw [← e, hn] at hg; cases hg
  have old : ∀ k, k ≠ L.blk → (w.heap.setIfInBounds L.blk O)[k]? = w.heap[k]? := fun k hk => by rw [Array.getElem?_setIfInBounds_ne (Ne.symm hk)]
  have keep : ∀ m u, h.get m = some u → (h.set q o).get m = some u := fun m u hm => by
    rw [T.get_set, if_neg (fun e => by rw [← e, hn] at hm; cases hm)]; exact hm
  have nodown : ∀ m u, Down h i m → h.get m = some u → False := fun m u d hm => by
    cases d with
    | one e1 e2 => rw [hg] at e1; cases e1; rw [hkid] at e2; cases e2; rw [hn] at hm; cases hm
    | more e1 e2 e3 => rw [hg] at e1; cases e1; rw [hkid] at e2; cases e2; exact stop_down (.inl hn) _ e3
  -- an old row in the same block
  have near : ∀ m u M, h.get m = some u → u.live = true → ρ m = some M → M.blk = L.blk → M.sh = L.sh ∧ u.len ≤ c.length ∧ u.seal = true ∧ Down (h.set q o) m q := fun m u M hm lm em hb => by
    have di : Down (h.set q o) i q := .one (keep _ _ hg) hkid
    rcases r.apart m i u _ M L hm hg lm rfl em hL hb with rfl | x
    · rw [hg] at hm; cases hm
      rw [hL] at em; cases em
      exact ⟨rfl, Nat.le_refl _, hsi, di⟩
    · rcases x.way with ⟨d, hd⟩ | ⟨d, _⟩
      · exact ⟨x.sh, hd, x.si, (d.mono fun k o' hk _ => keep _ _ hk).trans di⟩
      · exact absurd hm fun hm => nodown _ _ d hm
  refine ⟨fun g hg => ?_, fun j oj hj => ?_, fun j k oj ok Lj Lk hj hk lj lk ej ek hb => ?_, fun j hj hjn => ?_, fun j oj M hoj lj hj e => ?_, fun j hj => ?_, ?_, r.n0le, r.os, r.out⟩
  · obtain ⟨M, e, x⟩ := r.glob g hg
    exact ⟨M, hle _ _ e, x⟩
  · rw [T.get_set] at hj
    split at hj
    · cases hj
      subst_vars
      exact ⟨L, Ren.put_self, hO⟩
    · obtain ⟨M, e, x⟩ := r.obj j oj hj
      refine ⟨M, hle _ _ e, ?_⟩
      by_cases hlj : oj.live = true
      · by_cases hb : M.blk = L.blk
        · obtain ⟨n1, n2, n3, _⟩ := near j oj M hj hlj e hb
          exact hold M oj hb n1 n2 n3 x
        · exact x.congr hle fun _ => old _ hb
      · cases oj <;> first | exact absurd rfl hlj | trivial
  · have low : ∀ m u M, (h.set q o).get m = some u → ρ.put q L m = some M → q ≠ m → h.get m = some u ∧ ρ m = some M := fun m u M hm em hqm => by
      rw [T.get_set, if_neg hqm] at hm
      exact ⟨hm, by rw [← em]; exact (if_neg (Ne.symm hqm)).symm⟩
    have self : ∀ u M, (h.set q o).get q = some u → ρ.put q L q = some M → u = o ∧ M = L := fun u M hu hM => by
      rw [T.get_set, if_pos rfl] at hu
      rw [Ren.put_self] at hM
      cases hu; cases hM
      exact ⟨rfl, rfl⟩
    by_cases hqj : q = j <;> by_cases hqk : q = k
    · exact .inl (hqj.symm.trans hqk)
    · subst hqj
      obtain ⟨rfl, rfl⟩ := self _ _ hj ej
      obtain ⟨c1, c2⟩ := low k ok Lk hk ek hqk
      obtain ⟨n1, n2, n3, n4⟩ := near k ok Lk c1 lk c2 hb.symm
      exact .inr ⟨ho, n3, n1.symm, .inr ⟨n4, Nat.le_trans n2 hlen⟩⟩
    · subst hqk
      obtain ⟨rfl, rfl⟩ := self _ _ hk ek
      obtain ⟨c1, c2⟩ := low j oj Lj hj ej hqj
      obtain ⟨n1, n2, n3, n4⟩ := near j oj Lj c1 lj c2 hb
      exact .inr ⟨n3, ho, n1, .inl ⟨n4, Nat.le_trans n2 hlen⟩⟩
    · obtain ⟨c1, c2⟩ := low j oj Lj hj ej hqj
      obtain ⟨d1, d2⟩ := low k ok Lk hk ek hqk
      exact (r.apart j k oj ok Lj Lk c1 d1 lj lk c2 d2 hb).imp id fun x => x.mono fun m u hm _ => keep m u hm
  · rw [T.get_set] at hjn
    split at hjn
    · cases hjn
    · exact (if_neg (Ne.symm ‹_›)).trans (r.new j hj hjn)
  · by_cases hjq : j = q
    · subst hjq
      rw [Ren.put_self] at e
      cases e
      exact r.fresh i _ L hg rfl hi hL
    · rw [T.get_set, if_neg (Ne.symm hjq)] at hoj
      exact r.fresh j oj M hoj lj hj ((if_neg hjq).symm.trans e)
  · show (w.heap.setIfInBounds L.blk O)[j]? = _
    rw [old j (by have := r.fresh i _ L hg rfl hi hL; omega)]
    exact r.low j hj
  · simp; exact r.b0le
end
end Go.Rx
