/- The order of values is a total preorder: plain, no program in sight. -/
import Derived.Test.YtajlngkakpjncaaDoorZP18
import Derived.Sort.LotA
namespace Go.Proofs.YtajlngkakpjncaaDoor
set_option linter.unusedVariables false
set_option linter.unusedSimpArgs false
open Go

structure Tot {α : Type} (f : α → α → Int) : Prop where
  anti : ∀ x y, f x y < 0 ↔ 0 < f y x
  trans : ∀ x y z, f x y ≤ 0 → f y z ≤ 0 → f x z ≤ 0
theorem Tot.zero {α : Type} {f : α → α → Int} (h : Tot f) (x y : α) : f x y = 0 ↔ f y x = 0 := by
  have h1 := h.anti x y
  have h2 := h.anti y x
  omega
theorem Tot.refl {α : Type} {f : α → α → Int} (h : Tot f) (x : α) : f x x = 0 := by
  have := h.anti x x
  omega
theorem Tot.swo {α : Type} [Inhabited α] {f : α → α → Int} (h : Tot f) : Sort.SWO (fun x y => decide (f x y < 0)) where
  irrefl x := by have := h.refl x; simp; omega
  trans x y z h1 h2 := by
    simp only [decide_eq_true_eq] at *
    have a1 := h.anti x y
    have a2 := h.anti y z
    have a3 := h.anti z x
    have a4 := h.anti x z
    have t := h.trans z x y
    omega
  ntrans x y z h1 h2 := by
    simp only [decide_eq_false_iff_not] at *
    have a1 := h.anti x y
    have a2 := h.anti y z
    have a3 := h.anti x z
    have t := h.trans z y x
    omega
/-- first by f; where f says that they are alike, by g -/
theorem Tot.lex {α : Type} {f g : α → α → Int} (h : Tot f) (ga : ∀ x y, f x y = 0 → (g x y < 0 ↔ 0 < g y x)) (gt : ∀ x y z, f x y = 0 → f y z = 0 → g x y ≤ 0 → g y z ≤ 0 → g x z ≤ 0) : Tot (fun x y => if f x y = 0 then g x y else f x y) where
  anti x y := by
    have a1 := h.anti x y
    have a2 := h.anti y x
    by_cases h0 : f x y = 0
    · rw [if_pos h0, if_pos ((h.zero x y).1 h0)]; exact ga x y h0
    · rw [if_neg h0, if_neg (fun e => h0 ((h.zero x y).2 e))]; exact a1
  trans x y z h1 h2 := by
    have a1 := h.anti x y
    have a2 := h.anti y z
    have a3 := h.anti x z
    have a4 := h.anti z x
    have a5 := h.anti y x
    have a6 := h.anti z y
    have t := h.trans x y z
    have t1 := h.trans z x y
    have t2 := h.trans y z x
    have t3 := h.trans z y x
    by_cases h3 : f x y = 0
    · rw [if_pos h3] at h1
      by_cases h4 : f y z = 0
      · rw [if_pos h4] at h2
        rw [if_pos (by omega)]
        exact gt x y z h3 h4 h1 h2
      · rw [if_neg h4] at h2
        rw [if_neg (by omega)]; omega
    · rw [if_neg h3] at h1
      by_cases h4 : f y z = 0
      · rw [if_neg (by omega)]; omega
      · rw [if_neg h4] at h2
        rw [if_neg (by omega)]; omega
theorem Tot.pull {α β : Type} {f : β → β → Int} (h : Tot f) (k : α → β) : Tot (fun x y => f (k x) (k y)) := ⟨fun x y => h.anti _ _, fun x y z => h.trans _ _ _⟩
def intC (a b : Int) : Int := ordI (decide (a < b)) (decide (b < a))
theorem intC_cases (a b : Int) : (a < b ∧ intC a b = -1) ∨ (a = b ∧ intC a b = 0) ∨ (b < a ∧ intC a b = 1) := by
  unfold intC
  rcases (show a < b ∨ a = b ∨ b < a by omega) with h | rfl | h
  · left; exact ⟨h, by simp [ordI, h]⟩
  · right; left; exact ⟨rfl, by simp [ordI]⟩
  · right; right
    have : ¬ a < b := by omega
    exact ⟨h, by simp [ordI, h, this]⟩
theorem tot_int : Tot intC where
  anti x y := by have h1 := intC_cases x y; have h2 := intC_cases y x; omega
  trans x y z := by have h1 := intC_cases x y; have h2 := intC_cases y z; have h3 := intC_cases x z; omega
theorem cmpL_cons (a b : UInt8) (x y : List UInt8) : cmpL (a :: x) (b :: y) = if intC a.toNat b.toNat = 0 then cmpL x y else intC a.toNat b.toNat := by
  rw [cmpL]
  have h := intC_cases a.toNat b.toNat
  by_cases e : a = b
  · subst e
    rw [if_pos rfl, if_pos (by omega)]
  · have hne : a.toNat ≠ b.toNat := fun e' => e (UInt8.toNat.inj e')
    by_cases l : a.toNat < b.toNat
    · rw [if_neg e, if_pos l, if_neg (by omega)]; omega
    · rw [if_neg e, if_neg l, if_neg (by omega)]; omega
/-- lists, one element before the other -/
def lexL {α : Type} (f : α → α → Int) : List α → List α → Int
  | [], [] => 0
  | [], _ :: _ => -1
  | _ :: _, [] => 1
  | a :: x, b :: y => if f a b = 0 then lexL f x y else f a b
theorem tot_lexL {α : Type} {f : α → α → Int} (h : Tot f) : Tot (lexL f) := by
  have anti : ∀ x y : List α, lexL f x y < 0 ↔ 0 < lexL f y x := by
    intro x
    induction x with
    | nil => intro y; cases y <;> simp [lexL]
    | cons a x ih =>
      intro y
      cases y with
      | nil => simp [lexL]
      | cons b y =>
        simp only [lexL]
        have a1 := h.anti a b
        have a2 := h.zero a b
        by_cases h0 : f a b = 0
        · rw [if_pos h0, if_pos (a2.1 h0)]; exact ih y
        · rw [if_neg h0, if_neg (fun e => h0 (a2.2 e))]; exact a1
  refine ⟨anti, ?_⟩
  intro x
  induction x with
  | nil => intro y z _ h2; cases z with
    | nil => simp [lexL]
    | cons c z => simp [lexL]
  | cons a x ih =>
    intro y z h1 h2
    cases y with
    | nil => simp [lexL] at h1
    | cons b y =>
      cases z with
      | nil => simp [lexL] at h2
      | cons c z =>
        simp only [lexL] at h1 h2 ⊢
        have a1 := h.anti a b
        have a2 := h.anti b c
        have a3 := h.anti a c
        have a4 := h.anti c a
        have a5 := h.anti b a
        have a6 := h.anti c b
        have t := h.trans a b c
        have t1 := h.trans c a b
        have t2 := h.trans b c a
        have t3 := h.trans c b a
        by_cases h3 : f a b = 0
        · rw [if_pos h3] at h1
          by_cases h4 : f b c = 0
          · rw [if_pos h4] at h2
            rw [if_pos (by omega)]
            exact ih y z h1 h2
          · rw [if_neg h4] at h2
            rw [if_neg (by omega)]; omega
        · rw [if_neg h3] at h1
          by_cases h4 : f b c = 0
          · rw [if_neg (by omega)]; omega
          · rw [if_neg h4] at h2
            rw [if_neg (by omega)]; omega
theorem cmpL_lex : ∀ a b : List UInt8, cmpL a b = lexL (fun x y : UInt8 => intC x.toNat y.toNat) a b
  | [], [] => rfl
  | [], _ :: _ => rfl
  | _ :: _, [] => rfl
  | a :: x, b :: y => by rw [cmpL_cons, lexL, cmpL_lex x y]
theorem tot_cmpL : Tot cmpL := by
  have h : cmpL = lexL (fun x y : UInt8 => intC x.toNat y.toNat) := by funext a b; exact cmpL_lex a b
  rw [h]
  exact tot_lexL (tot_int.pull fun x : UInt8 => (x.toNat : Int))
def restW (a b : Val) : Int := if placeV a.kind = 1 then intC a.n b.n else if placeV a.kind = 2 then cmpL a.s.data.toList b.s.data.toList else 0
theorem cmpV_lex (a b : Val) : cmpV a b = if intC (placeV a.kind) (placeV b.kind) = 0 then restW a b else intC (placeV a.kind) (placeV b.kind) := by
  unfold cmpV restW
  have h := intC_cases (placeV a.kind) (placeV b.kind)
  by_cases e : placeV a.kind = placeV b.kind
  · have h0 : intC (placeV a.kind) (placeV b.kind) = 0 := by omega
    rw [if_neg (by simpa using e), if_pos h0]
    rfl
  · have h0 : ¬ intC (placeV a.kind) (placeV b.kind) = 0 := by omega
    rw [if_pos e, if_neg h0]
    rfl
theorem tot_cmpV : Tot cmpV := by
  have h : cmpV = fun a b => if intC (placeV a.kind) (placeV b.kind) = 0 then restW a b else intC (placeV a.kind) (placeV b.kind) := by funext a b; exact cmpV_lex a b
  rw [h]
  have hp : ∀ x y : Val, intC (placeV x.kind) (placeV y.kind) = 0 → placeV x.kind = placeV y.kind := fun x y e => by have := intC_cases (placeV x.kind) (placeV y.kind); omega
  refine (tot_int.pull fun v : Val => placeV v.kind).lex (g := restW) (fun x y e => ?_) (fun x y z e1 e2 => ?_)
  · unfold restW
    rw [← hp x y e]
    split
    · exact tot_int.anti _ _
    · split
      · exact tot_cmpL.anti _ _
      · simp
  · unfold restW
    rw [← hp x y e1]
    split
    · exact tot_int.trans _ _ _
    · split
      · exact tot_cmpL.trans _ _ _
      · simp
end Go.Proofs.YtajlngkakpjncaaDoor
