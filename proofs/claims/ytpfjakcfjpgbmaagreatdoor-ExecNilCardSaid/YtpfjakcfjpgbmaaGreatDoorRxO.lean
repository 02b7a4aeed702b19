/- Operations that touch no memory. -/
import Derived.Test.YtpfjakcfjpgbmaaGreatDoorRxM
import Derived.WalkSpells
import Derived.Laws.StructEq
namespace Go.Rx
set_option linter.unusedVariables false
set_option linter.unusedSimpArgs false

def fS {β : Type} : List UInt8 → (List UInt8 → β) → β
  | [], k => k []
  | c :: l, k => fN c.toNat fun n => fS l fun l => k (UInt8.ofNat n :: l)
theorem fS_eq {β : Type} (l : List UInt8) (k : List UInt8 → β) : fS l k = k l := by
  induction l generalizing k with
  | nil => rfl
  | cons c l ih => rw [fS, fN_eq, ih, UInt8.ofNat_toNat]
def fB {β : Type} (b : Bool) (k : Bool → β) : β := match b with
  | true => k true
  | false => k false
theorem fB_eq {β : Type} (b : Bool) (k : Bool → β) : fB b k = k b := by cases b <;> rfl
def eqL : List UInt8 → List UInt8 → Bool
  | [], [] => true
  | a :: l, b :: m => Nat.beq a.toNat b.toNat && eqL l m
  | _, _ => false
theorem eqL_eq (l m : List UInt8) : eqL l m = (l == m) := by
  induction l generalizing m with
  | nil => cases m <;> rfl
  | cons a l ih =>
    cases m with
    | nil => rfl
    | cons b m =>
      simp only [eqL, ih, List.cons_beq_cons]
      congr 1
      by_cases h : a = b
      · subst h; simp
      · have : Nat.beq a.toNat b.toNat = false := by
          cases e : Nat.beq a.toNat b.toNat
          · rfl
          · exact absurd (UInt8.toNat_inj.1 (Nat.eq_of_beq_eq_true e)) h
        rw [this]; simp [h]
def wr (k : IntKind) (n : Int) : Int := match k with
  | .i64 => match n with
    | .ofNat m => match Nat.blt m 9223372036854775808 with
      | true => n
      | false => k.wrap n
    | .negSucc m => match Nat.blt m 9223372036854775808 with
      | true => n
      | false => k.wrap n
  | _ => k.wrap n
theorem wr_eq (k : IntKind) (n : Int) : wr k n = k.wrap n := by
  unfold wr
  split
  case h_2 => rfl
  split
  · split
    case h_2 => rfl
    rename_i m _ h
    have h : m < 9223372036854775808 := Nat.le_of_ble_eq_true h
    exact (wrap_small _ (by simp only [Int.ofNat_eq_natCast]; omega) (by simp only [Int.ofNat_eq_natCast]; omega)).symm
  · split
    case h_2 => rfl
    rename_i m _ h
    have h : m < 9223372036854775808 := Nat.le_of_ble_eq_true h
    have : (Int.negSucc m) = -(m : Int) - 1 := by omega
    rw [this, IntKind.wrap_i64]
    omega

def mkI (k : IntKind) (n : Int) : Option Value := fI n fun n => some (.int k n)
def mkB (b : Bool) : Option Value := fB b fun b => some (.bool b)
theorem mkI_some {k : IntKind} {n : Int} {v : Value} (h : mkI k n = some v) : v = .int k n := by
  unfold mkI at h; rw [fI_eq] at h; exact (Option.some.inj h).symm
theorem mkB_some {b : Bool} {v : Value} (h : mkB b = some v) : v = .bool b := by
  unfold mkB at h; rw [fB_eq] at h; exact (Option.some.inj h).symm
def ltI : Int → Int → Bool
  | .ofNat a, .ofNat b => Nat.blt a b
  | .negSucc _, .ofNat _ => true
  | .ofNat _, .negSucc _ => false
  | .negSucc a, .negSucc b => Nat.blt b a
theorem ltI_eq (a b : Int) : ltI a b = decide (a < b) := by
  cases a with
  | ofNat a => cases b with
    | ofNat b =>
      rw [Bool.eq_iff_iff, decide_eq_true_eq]
      exact ⟨fun h => by have := Nat.le_of_ble_eq_true h; simp only [Int.ofNat_eq_natCast]; omega, fun h => Nat.ble_eq_true_of_le (by simp only [Int.ofNat_eq_natCast] at h; omega)⟩
    | negSucc b => exact (decide_eq_false (by simp only [Int.ofNat_eq_natCast]; omega)).symm
  | negSucc a => cases b with
    | ofNat b => exact (decide_eq_true (by simp only [Int.ofNat_eq_natCast]; omega)).symm
    | negSucc b =>
      rw [Bool.eq_iff_iff, decide_eq_true_eq]
      exact ⟨fun h => by have := Nat.le_of_ble_eq_true h; omega, fun h => Nat.ble_eq_true_of_le (by omega)⟩
def eqI : Int → Int → Bool
  | .ofNat a, .ofNat b => Nat.beq a b
  | .negSucc a, .negSucc b => Nat.beq a b
  | _, _ => false
theorem eqI_eq (a b : Int) : eqI a b = (a == b) := by
  have key : ∀ x y : Nat, Nat.beq x y = decide (x = y) := fun x y => by
    cases e : Nat.beq x y
    · exact (decide_eq_false (Nat.ne_of_beq_eq_false e)).symm
    · exact (decide_eq_true (Nat.eq_of_beq_eq_true e)).symm
  have e : (a == b) = decide (a = b) := rfl
  rw [e]
  cases a with
  | ofNat a => cases b with
    | ofNat b => exact (key a b).trans (decide_eq_decide.2 (by simp only [Int.ofNat_eq_natCast]; omega))
    | negSucc b => exact (decide_eq_false (by simp only [Int.ofNat_eq_natCast]; omega)).symm
  | negSucc a => cases b with
    | ofNat b => exact (decide_eq_false (by simp only [Int.ofNat_eq_natCast]; omega)).symm
    | negSucc b => exact (key a b).trans (decide_eq_decide.2 (by omega))
def kEq (j k : IntKind) : Bool := match j, k with
  | .i64, .i64 | .u8, .u8 | .u64, .u64 | .i32, .i32 | .u32, .u32 | .i8, .i8 | .i16, .i16 | .u16, .u16 => true
  | _, _ => false
theorem kEq_eq {j k : IntKind} (h : kEq j k = true) : j = k := by cases j <;> cases k <;> first | rfl | cases h

/-- Two integers, two strings, two truths. -/
def xbin (op : BinOp) : Value → Value → Option Value
  | .int k a, .int k' b => match op with
    | .shl => match b with
      | .ofNat n => mkI k (wr k (a * 2 ^ min n k.bits))
      | .negSucc _ => none
    | .shr => match b with
      | .ofNat n => mkI k (a.fdiv (2 ^ min n k.bits))
      | .negSucc _ => none
    | _ => match kEq k k' with
      | false => none
      | true => match op with
        | .add => mkI k (wr k (a + b))
        | .sub => mkI k (wr k (a - b))
        | .mul => mkI k (wr k (a * b))
        | .quo => match eqI b 0 with
          | true => none
          | false => mkI k (wr k (a.tdiv b))
        | .rem => match eqI b 0 with
          | true => none
          | false => mkI k (a.tmod b)
        | .and => mkI k (k.wrap (BitVec.ofInt k.bits a &&& BitVec.ofInt k.bits b).toNat)
        | .or => mkI k (k.wrap (BitVec.ofInt k.bits a ||| BitVec.ofInt k.bits b).toNat)
        | .xor => mkI k (k.wrap (BitVec.ofInt k.bits a ^^^ BitVec.ofInt k.bits b).toNat)
        | .eql => mkB (eqI a b)
        | .neq => mkB (!eqI a b)
        | .lss => mkB (ltI a b)
        | .geq => mkB (!ltI a b)
        | .gtr => mkB (ltI b a)
        | .leq => mkB (!ltI b a)
        | _ => none
  | .string a, .string b => match op with
    | .add => match Nat.blt (a.data.toList.length + b.data.toList.length) 9223372036854775808 with
      | true => fS (a.data.toList ++ b.data.toList) fun l => some (.string ⟨⟨l⟩⟩)
      | false => none
    | .eql => mkB (eqL a.data.toList b.data.toList)
    | .neq => mkB (!eqL a.data.toList b.data.toList)
    | .lss => mkB (Op.bytesLess a.data.toList b.data.toList)
    | .gtr => mkB (!(Op.bytesLess a.data.toList b.data.toList || eqL a.data.toList b.data.toList))
    | _ => none
  | _, _ => none

noncomputable section
variable {P : Program}
theorem append_data (a b : ByteArray) : (⟨⟨a.data.toList ++ b.data.toList⟩⟩ : ByteArray) = a ++ b := by
  apply ByteArray.ext
  apply Array.ext'
  simp
theorem xbin_ok {op : BinOp} {x y v : Value} (h : xbin op x y = some v) (t : TypeId) (w : World) : (binOp op t x y).run P w = .ok v w := by
  unfold xbin at h
  split at h
  case h_3 => cases h
  case h_1 k a k' b =>
    split at h
    · split at h
      · rw [mkI_some h, wr_eq]; rename_i n; have : ¬ ((Int.ofNat n) < 0) := by simp only [Int.ofNat_eq_natCast]; omega
        simp only [binOp, Op.shift, this, if_false, Sem.run_pure]; rfl
      · cases h
    · split at h
      · rw [mkI_some h]; rename_i n; have : ¬ ((Int.ofNat n) < 0) := by simp only [Int.ofNat_eq_natCast]; omega
        simp only [binOp, Op.shift, this, if_false, Sem.run_pure]; rfl
      · cases h
    · rename_i h1 h2
      split at h
      · cases h
      · rename_i hk
        have hk := kEq_eq hk
        subst hk
        split at h
        all_goals first
          | (cases h; done)
          | (rw [mkI_some h, wr_eq]; simp [binOp, Op.intArith]; done)
          | (rw [mkI_some h]; simp [binOp, Op.intBits]; done)
          | (rw [mkB_some h]; simp [binOp, Op.intCmp, eqI_eq, ltI_eq]; done)
          | (rw [mkB_some h]; simp only [binOp, Op.intCmp, eqI_eq, ltI_eq, ne_eq, not_true, if_false, bne]; simp; done)
          | (rw [mkB_some h, ltI_eq]; simp only [binOp, Op.intCmp, ne_eq, not_true, if_false, Sem.run_pure, ge_iff_le, ← Int.not_lt, decide_not]; done)
          | (split at h
             · cases h
             · rename_i hb
               rw [eqI_eq] at hb
               have hb : b ≠ 0 := by simpa using hb
               first
                 | (rw [mkI_some h, wr_eq]; simp [binOp, Op.intDiv, hb]; done)
                 | (rw [mkI_some h]; simp [binOp, Op.intDiv, hb]; done))
  case h_2 a b =>
    split at h
    · split at h
      · rename_i hl
        rw [fS_eq, append_data] at h
        cases h
        have hl : a.data.toList.length + b.data.toList.length < 9223372036854775808 := by simpa [Nat.blt_eq] using hl
        have : ¬ (((a.size + b.size : Nat) : Int) > IntKind.i64.max) := by
          have e : IntKind.i64.max = 9223372036854775807 := rfl
          rw [e]
          simp only [Array.length_toList] at hl
          have h1 : a.size = a.data.size := rfl
          have h2 : b.size = b.data.size := rfl
          omega
        simp only [binOp, Op.stringOp, this, if_false, Sem.run_pure]
      · cases h
    all_goals first
      | (cases h; done)
      | (rw [mkB_some h, eqL_eq]; simp [binOp, Op.stringOp, ByteArray.toList_eq]; done)
      | (rw [mkB_some h]; simp [binOp, Op.stringOp, ByteArray.toList_eq, eqL_eq]; done)
end
end Go.Rx
