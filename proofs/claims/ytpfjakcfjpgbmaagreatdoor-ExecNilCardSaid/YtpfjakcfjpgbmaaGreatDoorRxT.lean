/- A heap as a tree, a run over it that tells what it read and wrote, and that such a run is the same over any heap that agrees there. -/
import Derived.Orders
namespace Go.Rx
set_option linter.unusedVariables false
set_option linter.unusedSimpArgs false
noncomputable section

/-- A tree of four ways, and the way to a number. -/
inductive T (α : Type) where
  | e
  | n (v : Option α) (a b c d : T α)
inductive D4 where
  | d0
  | d1
  | d2
  | d3
  deriving DecidableEq

def dig : Nat → D4
  | 0 => .d0
  | 1 => .d1
  | 2 => .d2
  | _ => .d3
def D4.val : D4 → Nat
  | .d0 => 0
  | .d1 => 1
  | .d2 => 2
  | .d3 => 3
def pathF (f : Nat) : Nat → List D4 := Nat.rec (fun _ => []) (fun _ ih k => Nat.casesOn k [] fun k => dig (k % 4) :: ih (k / 4)) f
def path (k : Nat) : List D4 := pathF k k
def dec : List D4 → Nat
  | [] => 0
  | b :: l => 4 * dec l + b.val + 1
theorem dec_pathF (f k : Nat) (h : k ≤ f) : dec (pathF f k) = k := by
  induction f generalizing k with
  | zero => have : k = 0 := by omega
            subst this; rfl
  | succ f ih =>
    cases k with
    | zero => rfl
    | succ k =>
      show 4 * dec (pathF f (k / 4)) + (dig (k % 4)).val + 1 = k + 1
      rw [ih _ (by omega)]
      have : k % 4 = 0 ∨ k % 4 = 1 ∨ k % 4 = 2 ∨ k % 4 = 3 := by omega
      rcases this with h | h | h | h <;> rw [h] <;> simp [dig, D4.val] <;> omega
theorem path_inj {j k : Nat} (h : path j = path k) : j = k := by
  rw [← dec_pathF j j (Nat.le_refl _), ← dec_pathF k k (Nat.le_refl _)]; exact congrArg dec h

namespace T
variable {α : Type}
def getP (p : List D4) : T α → Option α := List.rec (motive := fun _ => T α → Option α)
  (fun t => T.rec (motive := fun _ => Option α) none (fun v _ _ _ _ _ _ _ _ => v) t)
  (fun x _ ih t => T.rec (motive := fun _ => Option α) none (fun _ a b c d _ _ _ _ => D4.rec (motive := fun _ => Option α) (ih a) (ih b) (ih c) (ih d) x) t) p
section
variable {β : Type}
def setA (ih : T α → (T α → β) → β) (k : T α → β) (v : Option α) (a b c d : T α) : β := ih a fun y => k (.n v y b c d)
def setB (ih : T α → (T α → β) → β) (k : T α → β) (v : Option α) (a b c d : T α) : β := ih b fun y => k (.n v a y c d)
def setC (ih : T α → (T α → β) → β) (k : T α → β) (v : Option α) (a b c d : T α) : β := ih c fun y => k (.n v a b y d)
def setD (ih : T α → (T α → β) → β) (k : T α → β) (v : Option α) (a b c d : T α) : β := ih d fun y => k (.n v a b c y)
def setS (x : D4) : (T α → (T α → β) → β) → (T α → β) → Option α → T α → T α → T α → T α → β := D4.rec (motive := fun _ => (T α → (T α → β) → β) → (T α → β) → Option α → T α → T α → T α → T α → β) setA setB setC setD x
def setP (x : α) (p : List D4) (t : T α) (k : T α → β) : β := List.rec (motive := fun _ => T α → (T α → β) → β)
  (fun t k => T.rec (motive := fun _ => β) (k (.n (some x) .e .e .e .e)) (fun _ a b c d _ _ _ _ => k (.n (some x) a b c d)) t)
  (fun x _ ih t k => T.rec (motive := fun _ => β) (setS x ih k none .e .e .e .e) (fun v a b c d _ _ _ _ => setS x ih k v a b c d) t) p t k
end
def get (t : T α) (i : Nat) : Option α := getP (path i) t
def setK {β : Type} (t : T α) (i : Nat) (x : α) (k : T α → β) : β := setP x (path i) t k
def set (t : T α) (i : Nat) (x : α) : T α := setK t i x id
theorem setP_cons {β : Type} (x : α) (b : D4) (p : List D4) (t : T α) (k : T α → β) : setP x (b :: p) t k = match t with
    | .e => setS b (setP x p) k none .e .e .e .e
    | .n v a1 b1 c1 d1 => setS b (setP x p) k v a1 b1 c1 d1 := by cases t <;> rfl
theorem setP_eq {β : Type} (x : α) (p : List D4) (t : T α) (k : T α → β) : setP x p t k = k (setP x p t id) := by
  induction p generalizing t k β with
  | nil => cases t <;> rfl
  | cons b p ih =>
    rw [setP_cons, setP_cons]
    cases t with
    | e =>
      cases b
      · exact (ih .e fun l => k (.n none l .e .e .e)).trans (congrArg k (ih .e fun l => T.n none l .e .e .e).symm)
      · exact (ih .e fun l => k (.n none .e l .e .e)).trans (congrArg k (ih .e fun l => T.n none .e l .e .e).symm)
      · exact (ih .e fun l => k (.n none .e .e l .e)).trans (congrArg k (ih .e fun l => T.n none .e .e l .e).symm)
      · exact (ih .e fun l => k (.n none .e .e .e l)).trans (congrArg k (ih .e fun l => T.n none .e .e .e l).symm)
    | n v a1 b1 c1 d1 =>
      cases b
      · exact (ih a1 fun l => k (.n v l b1 c1 d1)).trans (congrArg k (ih a1 fun l => T.n v l b1 c1 d1).symm)
      · exact (ih b1 fun l => k (.n v a1 l c1 d1)).trans (congrArg k (ih b1 fun l => T.n v a1 l c1 d1).symm)
      · exact (ih c1 fun l => k (.n v a1 b1 l d1)).trans (congrArg k (ih c1 fun l => T.n v a1 b1 l d1).symm)
      · exact (ih d1 fun l => k (.n v a1 b1 c1 l)).trans (congrArg k (ih d1 fun l => T.n v a1 b1 c1 l).symm)
theorem setK_eq {β : Type} (t : T α) (i : Nat) (x : α) (k : T α → β) : setK t i x k = k (set t i x) := setP_eq x _ t k
theorem getP_nil (v : Option α) (a b c d : T α) : getP [] (.n v a b c d) = v := rfl
theorem getP_cons (x : D4) (p : List D4) (v : Option α) (a b c d : T α) : getP (x :: p) (.n v a b c d) = match x with
    | .d0 => getP p a
    | .d1 => getP p b
    | .d2 => getP p c
    | .d3 => getP p d := by cases x <;> rfl
theorem getP_e (p : List D4) : getP p (.e : T α) = none := by cases p <;> rfl
theorem setP_nil (x : α) (t : T α) : setP x [] t id = match t with
    | .e => .n (some x) .e .e .e .e
    | .n _ a b c d => .n (some x) a b c d := by cases t <;> rfl
theorem setP_at (x : α) (b : D4) (p : List D4) (t : T α) : setP x (b :: p) t id = match t, b with
    | .e, .d0 => .n none (setP x p .e id) .e .e .e
    | .e, .d1 => .n none .e (setP x p .e id) .e .e
    | .e, .d2 => .n none .e .e (setP x p .e id) .e
    | .e, .d3 => .n none .e .e .e (setP x p .e id)
    | .n v a1 b1 c1 d1, .d0 => .n v (setP x p a1 id) b1 c1 d1
    | .n v a1 b1 c1 d1, .d1 => .n v a1 (setP x p b1 id) c1 d1
    | .n v a1 b1 c1 d1, .d2 => .n v a1 b1 (setP x p c1 id) d1
    | .n v a1 b1 c1 d1, .d3 => .n v a1 b1 c1 (setP x p d1 id) := by
  rw [setP_cons]
  cases t <;> cases b <;> exact setP_eq x p _ _
theorem getP_setP (x : α) (p q : List D4) (t : T α) : getP q (setP x p t id) = if p = q then some x else getP q t := by
  induction p generalizing q t with
  | nil =>
    rw [setP_nil]
    cases t <;> cases q <;> first
      | rfl
      | (rw [if_neg (by simp)]; rename_i y q; cases y <;> simp [getP_cons, getP_e])
      | (rw [if_neg (by simp)]; rfl)
  | cons b p ih =>
    rw [setP_at]
    cases q with
    | nil => cases t <;> cases b <;> rfl
    | cons c q =>
      have hne : ∀ {u v : D4}, u ≠ v → ¬ (u :: p = v :: q) := fun h e => h (List.cons.inj e).1
      have heq : ∀ {u : D4}, (u :: p = u :: q) = (p = q) := by simp
      cases t <;> cases b <;> cases c <;> first
        | (rw [if_neg (hne (by simp))]; simp [getP_cons, getP_e]; done)
        | (simp only [getP_cons, heq, ih, getP_e])
theorem get_set (t : T α) (i j : Nat) (x : α) : (t.set i x).get j = if i = j then some x else t.get j := by
  show getP (path j) (setP x (path i) t id) = _
  rw [getP_setP]
  by_cases h : i = j
  · subst h; simp
  · rw [if_neg h, if_neg fun e => h (path_inj e)]; rfl
theorem get_e (i : Nat) : (T.e : T α).get i = none := getP_e _
end T

/-- A number, worked out before it is used. -/
def fN {β : Type} (n : Nat) (k : Nat → β) : β := Nat.casesOn n (k 0) fun m => k (m + 1)
theorem fN_eq {β : Type} (n : Nat) (k : Nat → β) : fN n k = k n := by cases n <;> rfl

/-- A number that is not worked out: what was touched is looked at in drawn regions alone. -/
def fM {β : Type} (n : Nat) (k : Nat → β) : β := k n
theorem fM_eq {β : Type} (n : Nat) (k : Nat → β) : fM n k = k n := rfl

/-- One block: a row of cells (the part that a string shares; 'some n': the real row may be longer, of elements of n cells), a map, or a block that is no longer to be used. -/
inductive AObj where
  | cells (c : List Value) (t : TypeId) (f0 f1 : Nat) (loose : Option Nat)
  | map (es : List (Value × Value)) (clk : Nat)
  | dead

structure St where
  nx : Nat
  h : T AObj
  rd : Nat
  wr : Nat

def fL {α β : Type} : List α → (List α → β) → β
  | [], k => k []
  | x :: l, k => fL l fun l => k (x :: l)
theorem fL_eq {α β : Type} (l : List α) (k : List α → β) : fL l k = k l := by
  induction l generalizing k with
  | nil => rfl
  | cons x l ih => exact ih _
/-! What is read and written is told place by place: a block's kind, and its cells (those from the fifteenth on as one). -/
inductive Kd where
  | cells (len : Nat) (t : TypeId) (f0 f1 : Nat) (loose : Option Nat)
  | other (o : AObj)
def kdOf : Option AObj → Option Kd
  | some (.cells c t f0 f1 lo) => some (.cells c.length t f0 f1 lo)
  | some o => some (.other o)
  | none => none
def cellOf : Option AObj → Nat → Option Value
  | some (.cells c _ _ _ _), k => c[k]?
  | _, _ => none
inductive Ct where
  | k (x : Option Kd)
  | c (x : Option Value)
abbrev Lc := Nat × Option Nat
def T.look (h : T AObj) : Lc → Ct
  | (i, none) => .k (kdOf (h.get i))
  | (i, some k) => .c (cellOf (h.get i) k)
def bitOf : Lc → Nat
  | (i, none) => 16 * i + 15
  | (i, some k) => 16 * i + min k 14
theorem obj_ext {a b : Option AObj} (h1 : kdOf a = kdOf b) (h2 : ∀ k, cellOf a k = cellOf b k) : a = b := by
  match a, b with
  | none, none => rfl
  | none, some (.cells ..) => cases h1
  | none, some (.map ..) => cases h1
  | none, some .dead => cases h1
  | some (.cells ..), none => cases h1
  | some (.map ..), none => cases h1
  | some .dead, none => cases h1
  | some (.map ..), some (.map ..) => cases h1; rfl
  | some .dead, some .dead => rfl
  | some (.map ..), some .dead => cases h1
  | some .dead, some (.map ..) => cases h1
  | some (.cells ..), some (.map ..) => cases h1
  | some (.cells ..), some .dead => cases h1
  | some (.map ..), some (.cells ..) => cases h1
  | some .dead, some (.cells ..) => cases h1
  | some (.cells c t f0 f1 lo), some (.cells c' t' f0' f1' lo') =>
    have : c = c' := List.ext_getElem? h2
    subst this
    simp only [kdOf, Option.some.injEq, Kd.cells.injEq] at h1
    obtain ⟨_, rfl, rfl, rfl, rfl⟩ := h1
    rfl
theorem look_get {a b : T AObj} {i : Nat} (h : ∀ x : Option Nat, a.look (i, x) = b.look (i, x)) : a.get i = b.get i :=
  obj_ext (Ct.k.inj (h none)) fun k => Ct.c.inj (h (some k))
theorem look_of_get {a b : T AObj} {i : Nat} (h : a.get i = b.get i) (x : Option Nat) : a.look (i, x) = b.look (i, x) := by
  cases x <;> simp only [T.look, h]

/-- Sixteen bits a block. -/
def mask (i m : Nat) : Nat := m <<< (16 * i)
theorem mask_bit {i m : Nat} (hm : m < 2 ^ 16) (x : Lc) : (mask i m).testBit (bitOf x) = (decide (x.1 = i) && m.testBit (match x.2 with | none => 15 | some k => min k 14)) := by
  obtain ⟨j, y⟩ := x
  have key : ∀ r, r < 16 → (mask i m).testBit (16 * j + r) = (decide (j = i) && m.testBit r) := fun r hr => by
    unfold mask
    rw [Nat.testBit_shiftLeft]
    by_cases hj : j = i
    · subst hj
      simp
    · have : decide (j = i) = false := by simp [hj]
      rw [this, Bool.false_and]
      rcases Nat.lt_or_ge j i with h | h
      · have : ¬ (16 * j + r ≥ 16 * i) := by omega
        simp [this]
      · rw [Nat.testBit_lt_two_pow (Nat.lt_of_lt_of_le hm (Nat.pow_le_pow_right (by omega) (by omega)))]
        simp
  cases y with
  | none => exact key 15 (by omega)
  | some k => exact key (min k 14) (by omega)
/-- The bits of n cells. -/
def cm (off n : Nat) : Nat := match n with
  | 0 => 0
  | _ => (2 ^ (min (off + n - 1) 14 + 1 - min off 14) - 1) <<< min off 14
theorem cm_bit {off n r : Nat} (hn : 0 < n) : (cm off n).testBit r = (decide (min off 14 ≤ r) && decide (r ≤ min (off + n - 1) 14)) := by
  unfold cm
  split
  · omega
  · rw [Nat.testBit_shiftLeft, Nat.testBit_two_pow_sub_one, Bool.eq_iff_iff]
    simp only [Bool.and_eq_true, decide_eq_true_eq]
    omega
theorem cm_lt (off n : Nat) : cm off n < 2 ^ 15 := by
  rcases Nat.eq_zero_or_pos n with h | h
  · subst h; simp [cm]
  · refine Nat.lt_pow_two_of_testBit _ fun r hr => ?_
    rw [cm_bit h]
    have : ¬ (r ≤ min (off + n - 1) 14) := by omega
    simp [this]

def Framed {α : Type} (f : St → Option (α × St)) : Prop := ∀ s a s', f s = some (a, s') → ∃ dr dw,
  s'.rd = s.rd ||| dr ∧ s'.wr = s.wr ||| dw ∧
  ∀ t : St, t.nx = s.nx → (∀ x, (dr ||| dw).testBit (bitOf x) = true → t.h.look x = s.h.look x) → ∃ t', f t = some (a, t') ∧ t'.nx = s'.nx ∧
    t'.rd = t.rd ||| dr ∧ t'.wr = t.wr ||| dw ∧ ∀ x, t'.h.look x = if dw.testBit (bitOf x) then s'.h.look x else t.h.look x

structure X (α : Type) where
  run : St → Option (α × St)
  fr : Framed run

namespace X
variable {α β : Type}
theorem Framed.keeps {f : St → Option (α × St)} (hf : Framed f) {s : St} {a : α} {s' : St} (h : f s = some (a, s')) :
    ∃ dr dw, s'.rd = s.rd ||| dr ∧ s'.wr = s.wr ||| dw ∧ ∀ x, dw.testBit (bitOf x) = false → s'.h.look x = s.h.look x := by
  obtain ⟨dr, dw, h1, h2, h3⟩ := hf s a s' h
  obtain ⟨t', e, _, _, _, h4⟩ := h3 s rfl fun _ _ => rfl
  rw [h] at e
  cases e
  exact ⟨dr, dw, h1, h2, fun i hi => by rw [h4 i]; simp [hi]⟩
theorem framed_bind {f : St → Option (α × St)} {g : α → St → Option (β × St)} (hf : Framed f) (hg : ∀ a, Framed (g a)) :
    Framed fun s => match f s with | some (a, s) => g a s | none => none := by
  intro s b s2 h
  dsimp only at h
  split at h
  case h_2 => cases h
  case h_1 a s1 h1 =>
    obtain ⟨r1, w1, e1, e2, F⟩ := hf s a s1 h1
    obtain ⟨r2, w2, e3, e4, G⟩ := hg a s1 b s2 h
    refine ⟨r1 ||| r2, w1 ||| w2, by rw [e3, e1, Nat.or_assoc], by rw [e4, e2, Nat.or_assoc], fun t ht ha => ?_⟩
    obtain ⟨t1, f1, n1, q1, q2, q3⟩ := F t ht fun i hi => ha i (by
      simp only [Nat.testBit_or, Bool.or_eq_true] at hi ⊢; rcases hi with h | h <;> simp [h])
    obtain ⟨s1', f1', _, _, _, q3'⟩ := F s rfl fun _ _ => rfl
    rw [h1] at f1'
    cases f1'
    obtain ⟨t2, f2, n2, p1, p2, p3⟩ := G t1 n1 fun i hi => by
      rw [q3 i, q3' i]
      by_cases hw : w1.testBit (bitOf i) = true
      · simp [hw]
      · simp only [hw]
        exact ha i (by simp only [Nat.testBit_or, Bool.or_eq_true] at hi ⊢; rcases hi with h | h <;> simp [h])
    refine ⟨t2, by simp [f1, f2], n2, by rw [p1, q1, Nat.or_assoc], by rw [p2, q2, Nat.or_assoc], fun i => ?_⟩
    obtain ⟨s2', g2', _, _, _, p3'⟩ := G s1 rfl fun _ _ => rfl
    rw [h] at g2'
    cases g2'
    rw [p3 i]
    simp only [Nat.testBit_or]
    by_cases hw : w2.testBit (bitOf i) = true
    · simp [hw]
    · simp only [hw, Bool.or_false]
      rw [q3 i, p3' i]
      simp [hw]
def pure (a : α) : X α := ⟨fun s => some (a, s), fun s a' s' h => ⟨0, 0, by cases h; simp, by cases h; simp, fun t _ _ => ⟨t, by cases h; simp, by cases h; assumption, by simp, by simp, by simp⟩⟩⟩
def bind (m : X α) (f : α → X β) : X β := ⟨fun s => match m.run s with | some (a, s) => (f a).run s | none => none, framed_bind m.fr fun a => (f a).fr⟩
/-- The next free name. -/
def nxt : X Nat := ⟨fun s => some (s.nx, s), fun s a s' h => ⟨0, 0, by cases h; simp, by cases h; simp, fun t ht _ => ⟨t, by cases h; show some (t.nx, t) = some (s.nx, t); rw [ht], by cases h; exact ht, by simp, by simp, by simp⟩⟩⟩
def fail : X α := ⟨fun _ => none, fun _ _ _ h => by cases h⟩
def lift (o : Option α) : X α := match o with | some a => pure a | none => fail
theorem bit_all (r : Nat) (h : r < 16) : (65535 : Nat).testBit r = true := by
  have : (65535 : Nat) = 2 ^ 16 - 1 := rfl
  rw [this, Nat.testBit_two_pow_sub_one]
  simpa using h
theorem all_bit (i : Nat) (x : Lc) : (mask i 65535).testBit (bitOf x) = decide (x.1 = i) := by
  rw [mask_bit (by omega)]
  have : (65535 : Nat).testBit (match x.2 with | none => 15 | some k => min k 14) = true := bit_all _ (by split <;> omega)
  rw [this, Bool.and_true]
theorem look_set (h : T AObj) (i : Nat) (o : AObj) (x : Lc) : (h.set i o).look x = if x.1 = i then (T.set .e i o).look x else h.look x := by
  obtain ⟨j, y⟩ := x
  by_cases hj : j = i
  · subst hj
    rw [if_pos rfl]
    exact look_of_get (by simp [T.get_set]) y
  · rw [if_neg hj]
    exact look_of_get (by rw [T.get_set, if_neg (Ne.symm hj)]) y
/-- A block is looked at as a whole. -/
def rd (i : Nat) : X AObj := ⟨fun s => match s with
    | ⟨nx, h, r, w⟩ => match h.get i with
      | some o => fM (r ||| mask i 65535) fun r => some (o, ⟨nx, h, r, w⟩)
      | none => none, by
  rintro ⟨nx, h, r, w⟩ a s' e
  dsimp only at e
  split at e
  case h_2 => cases e
  case h_1 o ho =>
    rw [fM_eq] at e
    cases e
    refine ⟨mask i 65535, 0, rfl, by simp, fun t ht ha => ?_⟩
    obtain ⟨nx', h', r', w'⟩ := t
    have : h'.get i = h.get i := look_get fun x => ha (i, x) (by simp [all_bit])
    dsimp only at this ht ⊢
    rw [this, ho]
    exact ⟨⟨nx', h', r' ||| mask i 65535, w'⟩, by dsimp only; rw [fM_eq], ht, rfl, by simp, by simp⟩⟩
/-- A block that is there gets new content. -/
def wrt (i : Nat) (x : AObj) : X Unit := ⟨fun s => match s with
    | ⟨nx, h, r, w⟩ => match h.get i with
      | some _ => T.setK h i x fun h => fM (w ||| mask i 65535) fun w => some ((), ⟨nx, h, r, w⟩)
      | none => none, by
  rintro ⟨nx, h, r, w⟩ a s' e
  dsimp only at e
  split at e
  case h_2 => cases e
  case h_1 o ho =>
    rw [T.setK_eq, fM_eq] at e
    cases e
    refine ⟨0, mask i 65535, by simp, rfl, fun t ht ha => ?_⟩
    obtain ⟨nx', h', r', w'⟩ := t
    have : h'.get i = h.get i := look_get fun x => ha (i, x) (by simp [all_bit])
    dsimp only at this ht ⊢
    rw [this, ho]
    refine ⟨_, by rw [T.setK_eq, fM_eq], ht, by simp, rfl, fun y => ?_⟩
    rw [all_bit, look_set h', look_set h]
    by_cases hj : y.1 = i <;> simp [hj]⟩
/-- A new block. -/
def new (x : AObj) : X Nat := ⟨fun s => match s with
    | ⟨nx, h, r, w⟩ => match h.get nx with
      | some _ => none
      | none => T.setK h nx x fun h => fM (w ||| mask nx 65535) fun w => fN (nx + 1) fun n => some (nx, ⟨n, h, r, w⟩), by
  rintro ⟨nx, h, r, w⟩ a s' e
  dsimp only at e
  split at e
  case h_1 => cases e
  case h_2 ho =>
    rw [T.setK_eq, fM_eq, fN_eq] at e
    cases e
    refine ⟨0, mask nx 65535, by simp, rfl, fun t ht ha => ?_⟩
    obtain ⟨nx', h', r', w'⟩ := t
    dsimp only at ha ht ⊢
    subst ht
    have : h'.get nx' = h.get nx' := look_get fun x => ha (nx', x) (by simp [all_bit])
    rw [this, ho]
    refine ⟨_, by rw [T.setK_eq, fM_eq, fN_eq], rfl, by simp, rfl, fun y => ?_⟩
    rw [all_bit, look_set h', look_set h]
    by_cases hj : y.1 = nx' <;> simp [hj]⟩
/-- n cells of a row, and its kind. -/
def rdc (i off n : Nat) : X (List Value × TypeId × Nat × Nat × Option Nat) := ⟨fun s => match s with
    | ⟨nx, h, r, w⟩ => match h.get i with
      | some (.cells c t f0 f1 lo) => fL ((c.drop off).take n) fun l => match Nat.beq l.length n with
        | true => fM (r ||| mask i (32768 ||| cm off n)) fun r => some ((l, t, f0, f1, lo), ⟨nx, h, r, w⟩)
        | false => none
      | _ => none, by
  rintro ⟨nx, h, r, w⟩ a s' e
  dsimp only at e
  split at e
  case h_2 => cases e
  case h_1 c t f0 f1 lo ho =>
    rw [fL_eq] at e
    split at e
    case h_2 => cases e
    case h_1 hl =>
      rw [fM_eq] at e
      cases e
      have hm : 32768 ||| cm off n < 2 ^ 16 := Nat.or_lt_two_pow (by omega) (Nat.lt_trans (cm_lt off n) (by omega))
      refine ⟨mask i (32768 ||| cm off n), 0, rfl, by simp, fun u hu ha => ?_⟩
      obtain ⟨nx', h', r', w'⟩ := u
      dsimp only at hu ha ⊢
      have hk := ha (i, none) (by
        rw [Nat.or_zero, mask_bit hm, Nat.testBit_or]
        have : (32768 : Nat).testBit 15 = true := by decide
        simp [this])
      have hk' : kdOf (h'.get i) = kdOf (h.get i) := Ct.k.inj hk
      rw [ho] at hk'
      have hex : ∃ c', h'.get i = some (.cells c' t f0 f1 lo) ∧ c'.length = c.length := by
        cases hq : h'.get i with
        | none => rw [hq] at hk'; cases hk'
        | some o => cases o with
          | cells c' t' f0' f1' lo' =>
            rw [hq] at hk'
            simp only [kdOf, Option.some.injEq, Kd.cells.injEq] at hk'
            obtain ⟨e1, rfl, rfl, rfl, rfl⟩ := hk'
            exact ⟨c', rfl, e1⟩
          | map _ _ => rw [hq] at hk'; cases hk'
          | dead => rw [hq] at hk'; cases hk'
      obtain ⟨c', hc', hlen⟩ := hex
      have hcells : (c'.drop off).take n = (c.drop off).take n := by
        apply List.ext_getElem?
        intro k
        rw [List.getElem?_take, List.getElem?_take]
        split
        · rename_i hkn
          rw [List.getElem?_drop, List.getElem?_drop]
          have hx := ha (i, some (off + k)) (by
            rw [Nat.or_zero, mask_bit hm, Nat.testBit_or, cm_bit (by omega)]
            have h1 : min off 14 ≤ min (off + k) 14 := by omega
            have h2 : min (off + k) 14 ≤ min (off + n - 1) 14 := by omega
            simp [h1, h2])
          have hx := Ct.c.inj hx
          rw [hc', ho] at hx
          exact hx
        · rfl
      rw [hc']
      refine ⟨⟨nx', h', r' ||| mask i (32768 ||| cm off n), w'⟩, ?_, hu, rfl, by simp, by simp⟩
      dsimp only
      rw [fL_eq, hcells, hl]
      dsimp only
      rw [fM_eq]⟩
def spl (c : List Value) (off : Nat) (vs : List Value) : List Value := c.take off ++ vs ++ c.drop (off + vs.length)
theorem spl_length {c : List Value} {off : Nat} {vs : List Value} (h : off + vs.length ≤ c.length) : (spl c off vs).length = c.length := by simp [spl]; omega
theorem spl_get {c : List Value} {off : Nat} {vs : List Value} (h : off + vs.length ≤ c.length) (k : Nat) : (spl c off vs)[k]? = if off ≤ k ∧ k < off + vs.length then vs[k - off]? else c[k]? := by
  unfold spl
  simp only [List.getElem?_append, List.length_append, List.length_take, List.getElem?_take, List.getElem?_drop]
  repeat' split
  all_goals first | rfl | (exfalso; omega) | (congr 1; omega)
/-- Some cells of a row that is there get new values. -/
def wrc (i off : Nat) (vs : List Value) : X Unit := ⟨fun s => match s with
    | ⟨nx, h, r, w⟩ => match h.get i with
      | some (.cells c t f0 f1 lo) => match Nat.ble (off + vs.length) c.length with
        | true => fL (spl c off vs) fun c => T.setK h i (.cells c t f0 f1 lo) fun h => fM (r ||| mask i 32768) fun r => fM (w ||| mask i (cm off vs.length)) fun w => some ((), ⟨nx, h, r, w⟩)
        | false => none
      | _ => none, by
  rintro ⟨nx, h, r, w⟩ a s' e
  dsimp only at e
  split at e
  case h_2 => cases e
  case h_1 c t f0 f1 lo ho =>
    split at e
    case h_2 => cases e
    case h_1 hle =>
      have hle' := Nat.le_of_ble_eq_true hle
      rw [fL_eq, T.setK_eq, fM_eq, fM_eq] at e
      cases e
      have hm : cm off vs.length < 2 ^ 16 := Nat.lt_trans (cm_lt off vs.length) (by omega)
      have hkbit : ∀ j, (mask i 32768).testBit (bitOf (j, none)) = decide (j = i) := fun j => by
        rw [mask_bit (by omega)]
        have : (32768 : Nat).testBit 15 = true := by decide
        simp [this]
      refine ⟨mask i 32768, mask i (cm off vs.length), rfl, rfl, fun u hu ha => ?_⟩
      obtain ⟨nx', h', r', w'⟩ := u
      dsimp only at hu ha ⊢
      have hk := ha (i, none) (by rw [Nat.testBit_or, hkbit]; simp)
      have hk' : kdOf (h'.get i) = kdOf (h.get i) := Ct.k.inj hk
      rw [ho] at hk'
      have hex : ∃ c', h'.get i = some (.cells c' t f0 f1 lo) ∧ c'.length = c.length := by
        cases hq : h'.get i with
        | none => rw [hq] at hk'; cases hk'
        | some o => cases o with
          | cells c' t' f0' f1' lo' =>
            rw [hq] at hk'
            simp only [kdOf, Option.some.injEq, Kd.cells.injEq] at hk'
            obtain ⟨e1, rfl, rfl, rfl, rfl⟩ := hk'
            exact ⟨c', rfl, e1⟩
          | map _ _ => rw [hq] at hk'; cases hk'
          | dead => rw [hq] at hk'; cases hk'
      obtain ⟨c', hc', hlen⟩ := hex
      rw [hc']
      refine ⟨⟨nx', h'.set i (.cells (spl c' off vs) t f0 f1 lo), r' ||| mask i 32768, w' ||| mask i (cm off vs.length)⟩, ?_, hu, rfl, rfl, fun x => ?_⟩
      · dsimp only
        rw [hlen, hle]
        dsimp only
        rw [fL_eq, T.setK_eq, fM_eq, fM_eq]
      · dsimp only
        obtain ⟨j, y⟩ := x
        by_cases hj : j = i
        · subst hj
          cases y with
          | none =>
            have hb : (mask j (cm off vs.length)).testBit (bitOf (j, none)) = false := by
              rw [mask_bit hm]
              have := Nat.testBit_lt_two_pow (cm_lt off vs.length)
              simp only [this, Bool.and_false]
            rw [hb]
            simp only [Bool.false_eq_true, if_false, T.look, T.get_set, if_true, hc', kdOf, spl_length (hlen ▸ hle')]
          | some k =>
            have e1 : (h'.set j (.cells (spl c' off vs) t f0 f1 lo)).look (j, some k) = .c ((spl c' off vs)[k]?) := by simp [T.look, T.get_set, cellOf]
            have e2 : (h.set j (.cells (spl c off vs) t f0 f1 lo)).look (j, some k) = .c ((spl c off vs)[k]?) := by simp [T.look, T.get_set, cellOf]
            have e3 : h'.look (j, some k) = .c c'[k]? := by simp [T.look, hc', cellOf]
            have e4 : h.look (j, some k) = .c c[k]? := by simp [T.look, ho, cellOf]
            rw [e1, e2, e3, spl_get hle', spl_get (hlen ▸ hle')]
            by_cases hin : off ≤ k ∧ k < off + vs.length
            · have hb : (mask j (cm off vs.length)).testBit (bitOf (j, some k)) = true := by
                rw [mask_bit hm, cm_bit (by omega)]
                have h1 : min off 14 ≤ min k 14 := by omega
                have h2 : min k 14 ≤ min (off + vs.length - 1) 14 := by omega
                simp [h1, h2]
              rw [hb]
              simp [hin]
            · rw [if_neg hin, if_neg hin]
              split
              · rename_i hb
                have := ha (j, some k) (by rw [Nat.testBit_or, hb]; simp)
                rw [e3, e4] at this
                exact this
              · rfl
        · have hb : (mask i (cm off vs.length)).testBit (bitOf (j, y)) = false := by rw [mask_bit hm]; simp [hj]
          rw [hb, look_set]
          simp [hj]⟩

theorem bind_some {m : X α} {f : α → X β} {s : St} {b : β} {s' : St} (h : (m.bind f).run s = some (b, s')) :
    ∃ a s1, m.run s = some (a, s1) ∧ (f a).run s1 = some (b, s') := by
  simp only [bind] at h
  split at h
  · exact ⟨_, _, ‹_›, h⟩
  · cases h
theorem lift_some {o : Option α} {s : St} {a : α} {s' : St} (h : (lift o).run s = some (a, s')) : o = some a ∧ s' = s := by
  cases o with
  | none => cases h
  | some x => cases h; exact ⟨rfl, rfl⟩
theorem pure_some {x : α} {s : St} {a : α} {s' : St} (h : (pure x).run s = some (a, s')) : a = x ∧ s' = s := by cases h; exact ⟨rfl, rfl⟩
theorem rd_some {i : Nat} {s : St} {a : AObj} {s' : St} (h : (rd i).run s = some (a, s')) : s.h.get i = some a ∧ s'.h = s.h ∧ s'.nx = s.nx := by
  obtain ⟨nx, h0, r, w⟩ := s
  simp only [rd] at h
  split at h
  · rw [fM_eq] at h; cases h; exact ⟨‹_›, rfl, rfl⟩
  · cases h
theorem wrt_some {i : Nat} {x : AObj} {s : St} {a : Unit} {s' : St} (h : (wrt i x).run s = some (a, s')) : (∃ o, s.h.get i = some o) ∧ s'.h = s.h.set i x ∧ s'.nx = s.nx := by
  obtain ⟨nx, h0, r, w⟩ := s
  simp only [wrt] at h
  split at h
  · rw [T.setK_eq, fM_eq] at h; cases h; exact ⟨⟨_, ‹_›⟩, rfl, rfl⟩
  · cases h
theorem new_some {x : AObj} {s : St} {a : Nat} {s' : St} (h : (new x).run s = some (a, s')) : a = s.nx ∧ s.h.get s.nx = none ∧ s'.h = s.h.set s.nx x ∧ s'.nx = s.nx + 1 := by
  obtain ⟨nx, h0, r, w⟩ := s
  simp only [new] at h
  split at h
  · cases h
  · rw [T.setK_eq, fM_eq, fN_eq] at h; cases h; exact ⟨rfl, ‹_›, rfl, rfl⟩
theorem rdc_some {i off n : Nat} {s : St} {l : List Value} {t : TypeId} {f0 f1 : Nat} {lo : Option Nat} {s' : St} (h : (rdc i off n).run s = some ((l, t, f0, f1, lo), s')) :
    ∃ c, s.h.get i = some (.cells c t f0 f1 lo) ∧ l = (c.drop off).take n ∧ l.length = n ∧ s'.h = s.h ∧ s'.nx = s.nx := by
  obtain ⟨nx, h0, r, w⟩ := s
  simp only [rdc] at h
  split at h
  case h_2 => cases h
  case h_1 c t f0 f1 lo ho =>
    rw [fL_eq] at h
    split at h
    case h_2 => cases h
    case h_1 hl =>
      rw [fM_eq] at h
      cases h
      exact ⟨c, ho, rfl, Nat.eq_of_beq_eq_true hl, rfl, rfl⟩
theorem wrc_some {i off : Nat} {vs : List Value} {s : St} {a : Unit} {s' : St} (h : (wrc i off vs).run s = some (a, s')) :
    ∃ c t f0 f1 lo, s.h.get i = some (.cells c t f0 f1 lo) ∧ off + vs.length ≤ c.length ∧ s'.h = s.h.set i (.cells (spl c off vs) t f0 f1 lo) ∧ s'.nx = s.nx := by
  obtain ⟨nx, h0, r, w⟩ := s
  simp only [wrc] at h
  split at h
  case h_2 => cases h
  case h_1 c t f0 f1 lo ho =>
    split at h
    case h_2 => cases h
    case h_1 hl =>
      rw [fL_eq, T.setK_eq, fM_eq, fM_eq] at h
      cases h
      exact ⟨c, t, f0, f1, lo, ho, Nat.le_of_ble_eq_true hl, rfl, rfl⟩
end X
end
end Go.Rx
