/- Operations that touch no memory. Operations that carry addresses and touch no memory. Field, index, slice, build, nil tests, conversions: what they give, and that the real operations give the same. Slices: cutting, appending, copying, making; literals. Appending and copying. -/
import Derived.Test.YtpfjakcfjpgbmaaGreatDoorZN2
import Derived.WalkSpells
import Derived.Laws.StructEq
namespace Go.Rx
set_option linter.unusedVariables false
set_option linter.unusedSimpArgs false

def fS {β : Type} : List UInt8 → (List UInt8 → β) → β
  | [], k => k []
  | c :: l, k => fN c.toNat fun n => fS l fun l => k (UInt8.ofNat n :: l)
theorem fS_eq {β : Type} (l : List UInt8) (k : List UInt8 → β) : fS l k = k l := by
  induction l generalizing k with
  | nil => rfl
  | cons c l ih => rw [fS, fN_eq, ih, UInt8.ofNat_toNat]
def fB {β : Type} (b : Bool) (k : Bool → β) : β := match b with
  | true => k true
  | false => k false
theorem fB_eq {β : Type} (b : Bool) (k : Bool → β) : fB b k = k b := by cases b <;> rfl
def eqL : List UInt8 → List UInt8 → Bool
  | [], [] => true
  | a :: l, b :: m => Nat.beq a.toNat b.toNat && eqL l m
  | _, _ => false
theorem eqL_eq (l m : List UInt8) : eqL l m = (l == m) := by
  induction l generalizing m with
  | nil => cases m <;> rfl
  | cons a l ih =>
    cases m with
    | nil => rfl
    | cons b m =>
      simp only [eqL, ih, List.cons_beq_cons]
      congr 1
      by_cases h : a = b
      · subst h; simp
      · have : Nat.beq a.toNat b.toNat = false := by
          cases e : Nat.beq a.toNat b.toNat
          · rfl
          · exact absurd (UInt8.toNat_inj.1 (Nat.eq_of_beq_eq_true e)) h
        rw [this]; simp [h]
def wr (k : IntKind) (n : Int) : Int := match k with
  | .i64 => match n with
    | .ofNat m => match Nat.blt m 9223372036854775808 with
      | true => n
      | false => k.wrap n
    | .negSucc m => match Nat.blt m 9223372036854775808 with
      | true => n
      | false => k.wrap n
  | _ => k.wrap n
theorem wr_eq (k : IntKind) (n : Int) : wr k n = k.wrap n := by
  unfold wr
  split
  case h_2 => rfl
  split
  · split
    case h_2 => rfl
    rename_i m _ h
    have h : m < 9223372036854775808 := Nat.le_of_ble_eq_true h
    exact (wrap_small _ (by simp only [Int.ofNat_eq_natCast]; omega) (by simp only [Int.ofNat_eq_natCast]; omega)).symm
  · split
    case h_2 => rfl
    rename_i m _ h
    have h : m < 9223372036854775808 := Nat.le_of_ble_eq_true h
    have : (Int.negSucc m) = -(m : Int) - 1 := by omega
    rw [this, IntKind.wrap_i64]
    omega

def mkI (k : IntKind) (n : Int) : Option Value := fI n fun n => some (.int k n)
def mkB (b : Bool) : Option Value := fB b fun b => some (.bool b)
theorem mkI_some {k : IntKind} {n : Int} {v : Value} (h : mkI k n = some v) : v = .int k n := by
  unfold mkI at h; rw [fI_eq] at h; exact (Option.some.inj h).symm
theorem mkB_some {b : Bool} {v : Value} (h : mkB b = some v) : v = .bool b := by
  unfold mkB at h; rw [fB_eq] at h; exact (Option.some.inj h).symm
def ltI : Int → Int → Bool
  | .ofNat a, .ofNat b => Nat.blt a b
  | .negSucc _, .ofNat _ => true
  | .ofNat _, .negSucc _ => false
  | .negSucc a, .negSucc b => Nat.blt b a
theorem ltI_eq (a b : Int) : ltI a b = decide (a < b) := by
  cases a with
  | ofNat a => cases b with
    | ofNat b =>
      rw [Bool.eq_iff_iff, decide_eq_true_eq]
      exact ⟨fun h => by have := Nat.le_of_ble_eq_true h; simp only [Int.ofNat_eq_natCast]; omega, fun h => Nat.ble_eq_true_of_le (by simp only [Int.ofNat_eq_natCast] at h; omega)⟩
    | negSucc b => exact (decide_eq_false (by simp only [Int.ofNat_eq_natCast]; omega)).symm
  | negSucc a => cases b with
    | ofNat b => exact (decide_eq_true (by simp only [Int.ofNat_eq_natCast]; omega)).symm
    | negSucc b =>
      rw [Bool.eq_iff_iff, decide_eq_true_eq]
      exact ⟨fun h => by have := Nat.le_of_ble_eq_true h; omega, fun h => Nat.ble_eq_true_of_le (by omega)⟩
def eqI : Int → Int → Bool
  | .ofNat a, .ofNat b => Nat.beq a b
  | .negSucc a, .negSucc b => Nat.beq a b
  | _, _ => false
theorem eqI_eq (a b : Int) : eqI a b = (a == b) := by
  have key : ∀ x y : Nat, Nat.beq x y = decide (x = y) := fun x y => by
    cases e : Nat.beq x y
    · exact (decide_eq_false (Nat.ne_of_beq_eq_false e)).symm
    · exact (decide_eq_true (Nat.eq_of_beq_eq_true e)).symm
  have e : (a == b) = decide (a = b) := rfl
  rw [e]
  cases a with
  | ofNat a => cases b with
    | ofNat b => exact (key a b).trans (decide_eq_decide.2 (by simp only [Int.ofNat_eq_natCast]; omega))
    | negSucc b => exact (decide_eq_false (by simp only [Int.ofNat_eq_natCast]; omega)).symm
  | negSucc a => cases b with
    | ofNat b => exact (decide_eq_false (by simp only [Int.ofNat_eq_natCast]; omega)).symm
    | negSucc b => exact (key a b).trans (decide_eq_decide.2 (by omega))
def kEq (j k : IntKind) : Bool := match j, k with
  | .i64, .i64 | .u8, .u8 | .u64, .u64 | .i32, .i32 | .u32, .u32 | .i8, .i8 | .i16, .i16 | .u16, .u16 => true
  | _, _ => false
theorem kEq_eq {j k : IntKind} (h : kEq j k = true) : j = k := by cases j <;> cases k <;> first | rfl | cases h

/-- Two integers, two strings, two truths. -/
def xbin (op : BinOp) : Value → Value → Option Value
  | .int k a, .int k' b => match op with
    | .shl => match b with
      | .ofNat n => mkI k (wr k (a * 2 ^ min n k.bits))
      | .negSucc _ => none
    | .shr => match b with
      | .ofNat n => mkI k (a.fdiv (2 ^ min n k.bits))
      | .negSucc _ => none
    | _ => match kEq k k' with
      | false => none
      | true => match op with
        | .add => mkI k (wr k (a + b))
        | .sub => mkI k (wr k (a - b))
        | .mul => mkI k (wr k (a * b))
        | .quo => match eqI b 0 with
          | true => none
          | false => mkI k (wr k (a.tdiv b))
        | .rem => match eqI b 0 with
          | true => none
          | false => mkI k (a.tmod b)
        | .and => mkI k (k.wrap (BitVec.ofInt k.bits a &&& BitVec.ofInt k.bits b).toNat)
        | .or => mkI k (k.wrap (BitVec.ofInt k.bits a ||| BitVec.ofInt k.bits b).toNat)
        | .xor => mkI k (k.wrap (BitVec.ofInt k.bits a ^^^ BitVec.ofInt k.bits b).toNat)
        | .eql => mkB (eqI a b)
        | .neq => mkB (!eqI a b)
        | .lss => mkB (ltI a b)
        | .geq => mkB (!ltI a b)
        | .gtr => mkB (ltI b a)
        | .leq => mkB (!ltI b a)
        | _ => none
  | .string a, .string b => match op with
    | .add => match Nat.blt (a.data.toList.length + b.data.toList.length) 9223372036854775808 with
      | true => fS (a.data.toList ++ b.data.toList) fun l => some (.string ⟨⟨l⟩⟩)
      | false => none
    | .eql => mkB (eqL a.data.toList b.data.toList)
    | .neq => mkB (!eqL a.data.toList b.data.toList)
    | .lss => mkB (Op.bytesLess a.data.toList b.data.toList)
    | .gtr => mkB (!(Op.bytesLess a.data.toList b.data.toList || eqL a.data.toList b.data.toList))
    | _ => none
  | _, _ => none

noncomputable section
variable {P : Program}
theorem append_data (a b : ByteArray) : (⟨⟨a.data.toList ++ b.data.toList⟩⟩ : ByteArray) = a ++ b := by
  apply ByteArray.ext
  apply Array.ext'
  simp
theorem xbin_ok {op : BinOp} {x y v : Value} (h : xbin op x y = some v) (t : TypeId) (w : World) : (binOp op t x y).run P w = .ok v w := by
  unfold xbin at h
  split at h
  case h_3 => cases h
  case h_1 k a k' b =>
    split at h
    · split at h
      · rw [mkI_some h, wr_eq]; rename_i n; have : ¬ ((Int.ofNat n) < 0) := by simp only [Int.ofNat_eq_natCast]; omega
        simp only [binOp, Op.shift, this, if_false, Sem.run_pure]; rfl
      · cases h
    · split at h
      · rw [mkI_some h]; rename_i n; have : ¬ ((Int.ofNat n) < 0) := by simp only [Int.ofNat_eq_natCast]; omega
        simp only [binOp, Op.shift, this, if_false, Sem.run_pure]; rfl
      · cases h
    · rename_i h1 h2
      split at h
      · cases h
      · rename_i hk
        have hk := kEq_eq hk
        subst hk
        split at h
        all_goals first
          | (cases h; done)
          | (rw [mkI_some h, wr_eq]; simp [binOp, Op.intArith]; done)
          | (rw [mkI_some h]; simp [binOp, Op.intBits]; done)
          | (rw [mkB_some h]; simp [binOp, Op.intCmp, eqI_eq, ltI_eq]; done)
          | (rw [mkB_some h]; simp only [binOp, Op.intCmp, eqI_eq, ltI_eq, ne_eq, not_true, if_false, bne]; simp; done)
          | (rw [mkB_some h, ltI_eq]; simp only [binOp, Op.intCmp, ne_eq, not_true, if_false, Sem.run_pure, ge_iff_le, ← Int.not_lt, decide_not]; done)
          | (split at h
             · cases h
             · rename_i hb
               rw [eqI_eq] at hb
               have hb : b ≠ 0 := by simpa using hb
               first
                 | (rw [mkI_some h, wr_eq]; simp [binOp, Op.intDiv, hb]; done)
                 | (rw [mkI_some h]; simp [binOp, Op.intDiv, hb]; done))
  case h_2 a b =>
    split at h
    · split at h
      · rename_i hl
        rw [fS_eq, append_data] at h
        cases h
        have hl : a.data.toList.length + b.data.toList.length < 9223372036854775808 := by simpa [Nat.blt_eq] using hl
        have : ¬ (((a.size + b.size : Nat) : Int) > IntKind.i64.max) := by
          have e : IntKind.i64.max = 9223372036854775807 := rfl
          rw [e]
          simp only [Array.length_toList] at hl
          have h1 : a.size = a.data.size := rfl
          have h2 : b.size = b.data.size := rfl
          omega
        simp only [binOp, Op.stringOp, this, if_false, Sem.run_pure]
      · cases h
    all_goals first
      | (cases h; done)
      | (rw [mkB_some h, eqL_eq]; simp [binOp, Op.stringOp, ByteArray.toList_eq]; done)
      | (rw [mkB_some h]; simp [binOp, Op.stringOp, ByteArray.toList_eq, eqL_eq]; done)
end
end Go.Rx

namespace Go.Rx
set_option linter.unusedVariables false
set_option linter.unusedSimpArgs false

abbrev Env := Operand → Option Value

abbrev splice (c : List Value) (off : Nat) (vs : List Value) : List Value := X.spl c off vs

noncomputable section
variable {P : Program} {ρ : Ren} {w : World}

theorem mapM_run {α β : Type} {f : α → Sem β} {g : α → β} (l : Array α) (h : ∀ x ∈ l, (f x).run P w = .ok (g x) w) : (l.mapM f).run P w = .ok (l.map g) w := by
  rw [Array.mapM_eq_mapM_toList]
  obtain ⟨l⟩ := l
  simp only [Sem.run_map]
  have : ∀ l : List α, (∀ x ∈ l, (f x).run P w = .ok (g x) w) → (l.mapM f).run P w = .ok (l.map g) w := by
    intro l h
    induction l with
    | nil => simp
    | cons x l ih => simp [h x (by simp), ih fun y hy => h y (by simp [hy])]
  rw [this l fun x hx => h x (by simpa using hx)]
  simp

theorem fold_splice (off : Nat) : ∀ (l : List Value) (k : Nat) (cs : Array Value), off + k + l.length ≤ cs.size →
    (l.zipIdx k).foldl (fun (cs : Array Value) (p : Value × Nat) => cs.setIfInBounds (off + p.2) p.1) cs = ⟨splice cs.toList (off + k) l⟩ := by
  intro l
  induction l with
  | nil => intro k cs _; simp [splice, X.spl]
  | cons v l ih =>
    intro k cs h
    have hl1 : (v :: l).length = l.length + 1 := rfl
    have hs1 : cs.toList.length = cs.size := by simp
    simp only [List.zipIdx_cons, List.foldl_cons]
    rw [ih (k + 1) _ (by rw [Array.size_setIfInBounds]; omega)]
    congr 1
    simp only [splice, X.spl, Array.toList_setIfInBounds]
    have hlt : off + k < cs.toList.length := by omega
    congr 1
    · rw [show off + (k + 1) = off + k + 1 from by omega, List.take_add_one]
      rw [List.getElem?_set_self hlt, List.take_set_of_le (Nat.le_refl _)]
      simp
    · rw [List.drop_set]
      rw [if_pos (by omega)]
      congr 1
      omega
theorem splice_rel {c c' vs vs' : List Value} (off : Nat) (h : VRels ρ c c') (hv : VRels ρ vs vs') : VRels ρ (splice c off vs) (splice c' off vs') := by
  unfold splice X.spl
  rw [hv.length]
  exact ((h.take off).append hv).append (h.drop _)

def xfill (place : Nat → Option (Nat × Nat)) : List Value → List (Nat × Value) → Option (List Value)
  | c, [] => some c
  | c, (i, v) :: rest => match place i with
    | some (off, size) => match Nat.beq (cellsOf v).length size && Nat.ble (off + (cellsOf v).length) c.length with
      | true => fL (splice c off (cellsOf v)) fun c => xfill place c rest
      | false => none
    | none => none
inductive Parts (ρ : Ren) : List (Nat × Value) → List (Nat × Value) → Prop
  | nil : Parts ρ [] []
  | cons (i : Nat) {v v' : Value} {l l' : List (Nat × Value)} : VRel ρ v v' → Parts ρ l l' → Parts ρ ((i, v) :: l) ((i, v') :: l')
theorem xfill_ok {place place' : Nat → Option (Nat × Nat)} (hp : ∀ i x, place i = some x → place' i = some x) {l l' : List (Nat × Value)} (hl : Parts ρ l l') : ∀ {c c' r : List Value}, VRels ρ c c' →
    xfill place c l = some r → ∃ r', Instr.fill place' ⟨c'⟩ l' = some ⟨r'⟩ ∧ VRels ρ r r' := by
  induction hl with
  | nil => intro c c' r hc h; cases h; exact ⟨c', rfl, hc⟩
  | cons i hv _ ih =>
    rename_i v v' l l' _
    intro c c' r hc h
    simp only [xfill] at h
    split at h
    case h_2 => cases h
    case h_1 off size hpl =>
      split at h
      case h_2 => cases h
      case h_1 hb =>
        rw [fL_eq] at h
        simp only [Bool.and_eq_true] at hb
        have e1 := Nat.eq_of_beq_eq_true hb.1
        have e2 := Nat.le_of_ble_eq_true hb.2
        have hcv := VRel.cells hv
        have hlen := hcv.length
        have hsz : v'.cells.size = (cellsOf v').length := by rw [← cellsOf_eq]; simp
        obtain ⟨r', f1, f2⟩ := ih (splice_rel off hc hcv) h
        refine ⟨r', ?_, f2⟩
        have hcl := hc.length
        have hno : ¬ (v'.cells.size ≠ size ∨ off + v'.cells.size > (⟨c'⟩ : Array Value).size) := by
          rw [hsz, hlen]; simp; omega
        simp only [Instr.fill, hp _ _ hpl]
        have hno2 : (decide (v'.cells.size ≠ size) || decide (off + v'.cells.size > (⟨c'⟩ : Array Value).size)) = false := by
          rw [Bool.or_eq_false_iff, decide_eq_false_iff_not, decide_eq_false_iff_not]
          exact ⟨fun e => hno (.inl e), fun e => hno (.inr e)⟩
        rw [if_neg (by simpa using hno)]
        rw [← Array.foldl_toList]
        have hz : v'.cells.zipIdx.toList = v'.cells.toList.zipIdx := by simp
        rw [hz, cellsOf_eq]
        have := fold_splice off (cellsOf v') 0 ⟨c'⟩ (by simp; omega)
        simp only [Nat.add_zero] at this
        rw [this]
        exact f1
end
end Go.Rx

namespace Go.Rx
set_option linter.unusedVariables false
set_option linter.unusedSimpArgs false
noncomputable section
variable {P : Program} {ρ : Ren} {w : World}

/-! ### against nil -/
def nilAs (d : TypeDesc) (x y : Value) : Option Bool := match d, y, x with
  | .pointer _, .pointer none, .pointer a => some a.isNone
  | .slice _, .slice none 0 0, .slice none _ c => some (Nat.beq c 0)
  | .slice _, .slice none 0 0, .slice (some _) _ _ => some false
  | .map .., .map none, .map r => some r.isNone
  | .func .., .nilFunc, .nilFunc => some true
  | .func .., .nilFunc, .func .. => some false
  | .interface _, .nilIface, .nilIface => some true
  | .interface _, .nilIface, .iface .. => some false
  | _, _, _ => none
def isConst : Operand → Bool
  | .const _ => true
  | _ => false
theorem nilAs_ok {t : TypeId} {d : TypeDesc} {x x' y y' : Value} {b : Bool} (hd : P.underlying t = some d) (hx : VRel ρ x x') (hy : VRel ρ y y') (h : nilAs d x y = some b) (op : BinOp) (hop : op = .eql ∨ op = .neq) (xo yo : Operand) (hc : isConst yo = true) :
    (do eqGuard op t xo yo x' y'; binOp op t x' y' : Sem Value).run P w = .ok (.bool (if op = .eql then b else !b)) w := by
  have hyc : ∃ c, yo = .const c := by cases yo <;> simp [isConst] at hc; exact ⟨_, rfl⟩
  obtain ⟨c, rfl⟩ := hyc
  obtain ⟨N, e⟩ : ∃ N, ∀ X Y, Op.equal t X Y = Op.equalIn (N + 1) t X Y := ⟨9999, fun _ _ => rfl⟩
  unfold nilAs at h
  split at h <;> first | cases h | skip
  all_goals cases hy
  all_goals cases hx
  all_goals rcases hop with rfl | rfl
  all_goals simp only [eqGuard, Sem.run_bind, Sem.run_pure, Result.andThen_ok, binOp, e, Op.equalIn, run_underlying hd]
  all_goals first | (simp; done) | (simp; rfl)

/-! ### two truths, two structs of plain fields -/
def eq1 : Option TypeDesc → Option Value → Option Value → Option Bool
  | some (.int _), some (.int k a), some (.int k' b) => match kEq k k' with
    | true => fB (eqI a b) some
    | false => none
  | some .string, some (.string a), some (.string b) => fB (eqL a.data.toList b.data.toList) some
  | some .bool, some (.bool a), some (.bool b) => fB (a == b) some
  | _, _, _ => none
def eqFs (P : Program) (xs ys : List Value) : List Field → Option Bool
  | [] => some true
  | f :: fs => match f.name == "_" with
    | true => none
    | false => match eq1 (P.underlying f.type) xs[f.offset]? ys[f.offset]? with
      | some true => eqFs P xs ys fs
      | some false => some false
      | none => none
def eqAs (P : Program) (t : TypeId) (x y : Value) : Option Bool := match P.underlying t, x, y with
  | some .bool, .bool a, .bool b => fB (a == b) some
  | some (.struct fs), .agg xs, .agg ys => match P.stoodInHeld t || P.eqGuardType P.depth t with
    | true => none
    | false => eqFs P xs.toList ys.toList fs.toList
  | _, _, _ => none
theorem eq1_ok {ft : TypeId} {x y x' y' : Value} {b : Bool} (h : eq1 (P.underlying ft) (some x) (some y) = some b) (hx : VRel ρ x x') (hy : VRel ρ y y') (N : Nat) : (Op.equalIn (N + 1) ft x' y').run P w = .ok b w ∧ ∀ d, P.underlying ft = some d → isAggD d = false := by
  unfold eq1 at h
  split at h
  · rename_i hd e1 e2
    cases e1; cases e2
    split at h
    · rename_i hk
      have := kEq_eq hk
      subst this
      rw [fB_eq, eqI_eq] at h
      cases h
      cases hx; cases hy
      exact ⟨run_equalIn_int w N ft _ _ _ _ hd, fun d e => by rw [hd] at e; cases e; rfl⟩
    · cases h
  · rename_i hd e1 e2
    cases e1; cases e2
    rw [fB_eq, eqL_eq] at h
    cases h
    cases hx; cases hy
    exact ⟨by rw [run_equalIn_string w N ft _ _ hd, ByteArray.toList_eq, ByteArray.toList_eq], fun d e => by rw [hd] at e; cases e; rfl⟩
  · rename_i hd e1 e2
    cases e1; cases e2
    rw [fB_eq] at h
    cases h
    cases hx; cases hy
    exact ⟨run_equalIn_bool' w N ft _ _ hd, fun d e => by rw [hd] at e; cases e; rfl⟩
  · cases h
theorem eqFs_ok {xs ys xs' ys' : List Value} (hx : VRels ρ xs xs') (hy : VRels ρ ys ys') (N : Nat) : ∀ {fs : List Field} {b : Bool}, eqFs P xs ys fs = some b → (Op.eqFields (N + 1) ⟨xs'⟩ ⟨ys'⟩ fs).run P w = .ok b w
  | [], b, h => by cases h; rfl
  | f :: fs, b, h => by
    unfold eqFs at h
    split at h
    · cases h
    · rename_i hn
      have hn : f.name ≠ "_" := by simpa using hn
      cases ex : xs[f.offset]? with
      | none => rw [ex] at h; cases P.underlying f.type <;> simp [eq1] at h
      | some x =>
        cases ey : ys[f.offset]? with
        | none =>
          have hno : eq1 (P.underlying f.type) (some x) none = none := by
            cases P.underlying f.type with
            | none => rfl
            | some d => cases d <;> cases x <;> rfl
          rw [ex, ey, hno] at h
          cases h
        | some y =>
          obtain ⟨x', gx, rx⟩ := hx.get ex
          obtain ⟨y', gy, ry⟩ := hy.get ey
          rw [ex, ey] at h
          have go : ∀ c, eq1 (P.underlying f.type) (some x) (some y) = some c → (Op.eqFields (N + 1) ⟨xs'⟩ ⟨ys'⟩ (f :: fs)).run P w = if c then (Op.eqFields (N + 1) ⟨xs'⟩ ⟨ys'⟩ fs).run P w else .ok false w := fun c hc => by
            obtain ⟨h1, h2⟩ := eq1_ok (w := w) hc rx ry N
            have hd : ∃ d, P.underlying f.type = some d := by
              unfold eq1 at hc
              split at hc <;> first | exact ⟨_, ‹_›⟩ | cases hc
            obtain ⟨d, hd⟩ := hd
            have hag := run_isAgg (P := P) hd w
            rw [h2 d hd] at hag
            have px : (part f.type ⟨xs'⟩ f.offset).run P w = .ok x' w := by simp [part, hag, gx]
            have py : (part f.type ⟨ys'⟩ f.offset).run P w = .ok y' w := by simp [part, hag, gy]
            simp only [Op.eqFields, hn, ne_eq, not_false_eq_true, if_true, Sem.run_bind, px, py, Result.andThen_ok, h1]
            cases c <;> simp
          split at h
          · rename_i hc
            rw [go _ hc]
            simp only [if_true]
            exact eqFs_ok hx hy N h
          · rename_i hc
            cases h
            rw [go _ hc]
            rfl
          · cases h
theorem eqAs_ok {t : TypeId} {x x' y y' : Value} {b : Bool} (hx : VRel ρ x x') (hy : VRel ρ y y') (h : eqAs P t x y = some b) (op : BinOp) (hop : op = .eql ∨ op = .neq) (xo yo : Operand) :
    (do eqGuard op t xo yo x' y'; binOp op t x' y' : Sem Value).run P w = .ok (.bool (if op = .eql then b else !b)) w := by
  obtain ⟨N, e⟩ : ∃ N, ∀ X Y, Op.equal t X Y = Op.equalIn (N + 1 + 1) t X Y := ⟨9998, fun _ _ => rfl⟩
  unfold eqAs at h
  split at h
  · rename_i hd
    rw [fB_eq] at h
    cases h
    cases hx; cases hy
    have := fun a b => run_equalIn_bool' (P := P) w (N + 1) t a b hd
    rcases hop with rfl | rfl <;> simp [eqGuard, binOp, e, this]
  · rename_i fs xs ys hd
    split at h
    · cases h
    · rename_i hg
      rw [Bool.or_eq_false_iff] at hg
      cases hx with
      | agg hx =>
        rename_i xs'
        cases hy with
        | agg hy =>
          rename_i ys'
          have hd' : P.underlying t = some (.struct (P.fieldsOf t)) := by simp [Program.fieldsOf, hd]
          have hfs : (P.fieldsOf t) = fs := by simp [Program.fieldsOf, hd]
          have h1 := run_equalIn_struct (P := P) w (N + 1) t xs' ys' hd' hg.1
          rw [hfs] at h1
          have h2 := eqFs_ok (w := w) hx hy N h
          have h3 : (Op.equalIn (N + 1 + 1) t (.agg xs') (.agg ys')).run P w = .ok b w := h1.trans h2
          rcases hop with rfl | rfl <;> simp [eqGuard, binOp, e, h3, hg.2]
  · cases h

/-! ### one operand -/
def xun (op : UnOp) (x : Value) : Option Value := match op, x with
  | .neg, .int k n => mkI k (wr k (0 - n))
  | .not, .bool b => mkB (!b)
  | .xor, .int k n => mkI k (k.wrap (BitVec.ofInt k.bits (if k.signed then -1 else k.max) ^^^ BitVec.ofInt k.bits n).toNat)
  | _, _ => none
theorem xun_ok {op : UnOp} {x v : Value} (h : xun op x = some v) : (Op.unary op x).run P w = .ok v w := by
  unfold xun at h
  split at h
  · rw [mkI_some h, wr_eq]; simp [Op.unary, Op.intArith]
  · rw [mkB_some h]; simp [Op.unary]
  · rw [mkI_some h]; simp [Op.unary, Op.intBits]
  · cases h
theorem xun_plain {op : UnOp} {x x' v : Value} (hx : VRel ρ x x') (h : xun op x = some v) : x' = x := by
  unfold xun at h
  split at h <;> first | cases h | (cases hx; rfl)
theorem xun_rel {op : UnOp} {x v : Value} (h : xun op x = some v) : VRel ρ v v := by
  unfold xun at h
  split at h
  · rw [mkI_some h]; exact .int ..
  · rw [mkB_some h]; exact .bool _
  · rw [mkI_some h]; exact .int ..
  · cases h
theorem xbin_plain {op : BinOp} {x x' y y' v : Value} (hx : VRel ρ x x') (hy : VRel ρ y y') (h : xbin op x y = some v) : x' = x ∧ y' = y := by
  unfold xbin at h
  split at h
  · cases hx; cases hy; exact ⟨rfl, rfl⟩
  · cases hx; cases hy; exact ⟨rfl, rfl⟩
  · cases h
theorem xbin_rel {op : BinOp} {x y v : Value} (h : xbin op x y = some v) : VRel ρ v v := by
  have hi : ∀ {k n}, mkI k n = some v → VRel ρ v v := fun h => by rw [mkI_some h]; exact .int ..
  have hb : ∀ {b}, mkB b = some v → VRel ρ v v := fun h => by rw [mkB_some h]; exact .bool _
  unfold xbin at h
  split at h
  · split at h
    · split at h
      · exact hi h
      · cases h
    · split at h
      · exact hi h
      · cases h
    · split at h
      · cases h
      · split at h
        all_goals first | exact hi h | exact hb h | cases h | (split at h <;> first | exact hi h | cases h)
  · split at h
    · split at h
      · rw [fS_eq] at h; cases h; exact .str _
      · cases h
    all_goals first | exact hb h | cases h
  · cases h
def xconv (P : Program) (src dst : TypeId) (x : Value) : Option Value := match P.underlying src, P.underlying dst, x with
  | some _, some (.int k), .int _ n => mkI k (wr k n)
  | some .string, some .string, .string s => some (.string s)
  | _, _, _ => none
theorem xconv_ok {src dst : TypeId} {x x' v : Value} (hx : VRel ρ x x') (h : xconv P src dst x = some v) : (convert src dst x').run P w = .ok v w ∧ VRel ρ v v := by
  unfold xconv at h
  split at h
  · rename_i hs hd
    cases hx
    rw [mkI_some h, wr_eq]
    exact ⟨by simp [convert, run_underlying hs, run_underlying hd, Conv.intToInt], .int ..⟩
  · rename_i hs hd
    cases hx
    cases h
    exact ⟨by simp [convert, run_underlying hs, run_underlying hd], .str _⟩
  · cases h

/-! ### parts of a struct -/
def xpart (P : Program) (t : TypeId) (cs : List Value) (off : Nat) : Option Value := match P.underlying t with
  | some d => match isAggD d with
    | true => match P.info? t with
      | some I => fL ((cs.drop off).take I.size) fun l => some (.agg ⟨l⟩)
      | none => none
    | false => cs[off]?
  | none => none
theorem xpart_ok {t : TypeId} {cs cs' : List Value} {off : Nat} {v : Value} (hc : VRels ρ cs cs') (h : xpart P t cs off = some v) : ∃ v', (part t ⟨cs'⟩ off).run P w = .ok v' w ∧ VRel ρ v v' := by
  unfold xpart at h
  split at h
  case h_2 => cases h
  case h_1 d hd =>
    split at h
    · rename_i hag
      split at h
      case h_2 => cases h
      case h_1 I hI =>
        rw [fL_eq] at h
        cases h
        refine ⟨.agg ((⟨cs'⟩ : Array Value).extract off (off + I.size)), by simp [part, run_isAgg hd, hag, run_sizeOf' hI], .agg ?_⟩
        simpa using (hc.drop off).take I.size
    · rename_i hag
      obtain ⟨v', e, hv⟩ := hc.get h
      exact ⟨v', by simp [part, run_isAgg hd, hag, e], hv⟩
def xfield (P : Program) (t : TypeId) (x : Value) (f : Nat) : Option Value := match P.underlying t, x with
  | some (.struct fs), .agg cs => match fs.toList[f]? with
    | some fd => xpart P fd.type cs.toList fd.offset
    | none => none
  | _, _ => none
theorem xfield_ok {t : TypeId} {x x' v : Value} {f : Nat} (hx : VRel ρ x x') (h : xfield P t x f = some v) : ∃ v', (Instr.field t x' f).run P w = .ok v' w ∧ VRel ρ v v' := by
  unfold xfield at h
  split at h
  case h_2 => cases h
  case h_1 fs cs hd =>
    split at h
    case h_2 => cases h
    case h_1 fd hf =>
      cases hx with
      | agg hc =>
        obtain ⟨v', e, hv⟩ := xpart_ok (w := w) hc h
        refine ⟨v', ?_, hv⟩
        have hf' : fs[fd.offset - fd.offset + f]? = some fd := by simpa using hf
        simp only [Nat.sub_self, Nat.zero_add] at hf'
        simp [Instr.field, run_underlying hd, hf', asAgg]
        exact e
def xfieldAddr (P : Program) (t : TypeId) (x : Value) (f : Nat) : Option Value := match P.underlying t, x with
  | some (.struct fs), .pointer (some ⟨i, off, none⟩) => match fs.toList[f]? with
    | some fd => match P.info? fd.type with
      | some I => match I.size with
        | 0 => none
        | _ + 1 => fN (off + fd.offset) fun n => some (.pointer (some ⟨i, n, none⟩))
      | none => none
    | none => none
  | _, _ => none
theorem add_none (b off n : Nat) : (⟨b, off, none⟩ : Addr).add n = ⟨b, off + n, none⟩ := by unfold Addr.add; split <;> simp_all
theorem xfieldAddr_ok {t : TypeId} {x x' v : Value} {f : Nat} (hx : VRel ρ x x') (h : xfieldAddr P t x f = some v) : ∃ v', (Instr.fieldAt t x' f).run P w = .ok v' w ∧ VRel ρ v v' := by
  unfold xfieldAddr at h
  split at h
  case h_2 => cases h
  case h_1 fs i off hd =>
    split at h
    case h_2 => cases h
    case h_1 fd hf =>
      split at h
      case h_2 => cases h
      case h_1 I hI =>
        split at h
        · cases h
        · rename_i n hn
          rw [fN_eq] at h
          cases h
          cases hx with
          | ptr _ hL =>
            rename_i L
            refine ⟨_, ?_, .ptr _ hL⟩
            have hf' : fs[f]? = some fd := by simpa using hf
            simp [Instr.fieldAt, run_underlying hd, hf', Instr.sureAddr, fieldPlace, run_sizeOf' hI, hn, add_none, Nat.add_assoc]

/-! ### indexes -/
def toN : Int → Option Nat
  | .ofNat n => some n
  | .negSucc _ => none
theorem toN_some {n : Int} {m : Nat} (h : toN n = some m) : n = (m : Int) := by cases n <;> cases h; rfl
def xindexAddr (P : Program) (t : TypeId) (x i : Value) : Option Value := match i with
  | .int _ n => match toN n with
    | some m => match P.underlying t, x with
      | some (.slice e), .slice (some ⟨b, off, none⟩) len _ => match P.info? e, Nat.blt m len with
        | some I, true => fN (off + m * I.size) fun o => some (.pointer (some ⟨b, o, none⟩))
        | _, _ => none
      | some (.array len e), .pointer (some ⟨b, off, none⟩) => match P.info? e, Nat.blt m len with
        | some I, true => fN (off + m * I.size) fun o => some (.pointer (some ⟨b, o, none⟩))
        | _, _ => none
      | _, _ => none
    | none => none
  | _ => none
theorem blt_iff {m n : Nat} (h : Nat.blt m n = true) : m < n := Nat.le_of_ble_eq_true h
theorem xindexAddr_ok {t : TypeId} {x x' i i' v : Value} (hx : VRel ρ x x') (hi : VRel ρ i i') (h : xindexAddr P t x i = some v) : ∃ v', (Instr.indexAt t x' i').run P w = .ok v' w ∧ VRel ρ v v' := by
  unfold xindexAddr at h
  split at h
  case h_2 => cases h
  case h_1 k n =>
    cases hi
    split at h
    case h_2 => cases h
    case h_1 m hm =>
      have hm := toN_some hm
      subst hm
      split at h
      · rename_i hd
        split at h
        · rename_i I hI hb
          rw [fN_eq] at h
          cases h
          cases hx with
          | slice _ _ hL _ =>
            refine ⟨_, ?_, .ptr _ hL⟩
            have hlt := blt_iff hb
            simp [Instr.indexAt, asIntOf, run_underlying hd, hlt, run_sizeOf' hI, add_none, Nat.add_assoc]
        · cases h
      · rename_i hd
        split at h
        · rename_i I hI hb
          rw [fN_eq] at h
          cases h
          cases hx with
          | ptr _ hL =>
            refine ⟨_, ?_, .ptr _ hL⟩
            have hlt := blt_iff hb
            simp [Instr.indexAt, asIntOf, run_underlying hd, Instr.sureAddr, hlt, run_sizeOf' hI, add_none, Nat.add_assoc]
        · cases h
      · cases h
def xindex (P : Program) (t : TypeId) (x i : Value) : Option Value := match i with
  | .int _ n => match toN n with
    | some m => match P.underlying t, x with
      | some .string, .string s => match s.data.toList[m]? with
        | some b => fN b.toNat fun n => some (.int .u8 (.ofNat n))
        | none => none
      | some (.array len e), .agg cs => match P.info? e, Nat.blt m len with
        | some I, true => xpart P e cs.toList (m * I.size)
        | _, _ => none
      | _, _ => none
    | none => none
  | _ => none
theorem xindex_ok {t : TypeId} {x x' i i' v : Value} (hx : VRel ρ x x') (hi : VRel ρ i i') (h : xindex P t x i = some v) : ∃ v', (Instr.index t x' i').run P w = .ok v' w ∧ VRel ρ v v' := by
  unfold xindex at h
  split at h
  case h_2 => cases h
  case h_1 k n =>
    cases hi
    split at h
    case h_2 => cases h
    case h_1 m hm =>
      have hm := toN_some hm
      subst hm
      split at h
      · rename_i s hd
        split at h
        case h_2 => cases h
        case h_1 b hb =>
          rw [fN_eq] at h
          cases h
          cases hx
          refine ⟨_, ?_, .int ..⟩
          have hlt : m < s.size := by
            have := (List.getElem?_eq_some_iff.1 hb).1
            simpa using this
          have hb' : s[m]? = some b := by
            rw [getElem?_pos s m hlt]
            have := (List.getElem?_eq_some_iff.1 hb).2
            rw [← this]; rfl
          simp [Instr.index, asIntOf, run_underlying hd, hb']
      · rename_i cs hd
        split at h
        · rename_i I hI hb
          cases hx with
          | agg hc =>
            obtain ⟨v', e, hv⟩ := xpart_ok (w := w) hc h
            refine ⟨v', ?_, hv⟩
            have hlt := blt_iff hb
            simp [Instr.index, asIntOf, run_underlying hd, hlt, run_sizeOf' hI]
            exact e
        · cases h
      · cases h
end
end Go.Rx

namespace Go.Rx
set_option linter.unusedVariables false
set_option linter.unusedSimpArgs false
noncomputable section
variable {P : Program} {N0 b0 : Nat} {w0 : World} {ρ : Ren} {w : World}

def intArg : Option Value → Option (Option Nat)
  | none => some none
  | some (.int _ n) => match toN n with
    | some m => some (some m)
    | none => none
  | _ => none
/-- The bounds of a slice expression. -/
def bounds (len cap : Nat) (lo hi mx : Option Nat) : Option (Nat × Nat × Nat) :=
  let m := mx.getD cap
  let h := hi.getD len
  let l := lo.getD 0
  match Nat.ble m cap && Nat.ble h m && Nat.ble l h && (mx.isNone || hi.isSome) with
  | true => fN l fun l => fN h fun h => fN m fun m => some (l, h, m)
  | false => none
theorem bound_run {v : Value} {x : Option Nat} {n y : Nat} (h : intArg (some v) = some x) (hx : x = some n) (hy : n ≤ y) (c : BoundsCode) : (Instr.sliceBound v y c).run P w = .ok n w := by
  subst hx
  cases v <;> simp [intArg] at h
  split at h
  · rename_i m hm
    simp at h
    subst h
    have := toN_some hm
    subst this
    simp [Instr.sliceBound, asIntOf, hy]
  · cases h
theorem intArg_rel {v v' : Option Value} {x : Option Nat} (hv : ∀ a, v = some a → ∃ a', v' = some a' ∧ VRel ρ a a') (hn : v = none → v' = none) (h : intArg v = some x) : intArg v' = some x ∧ (v' = none ↔ x = none) := by
  cases v with
  | none => rw [hn rfl]; cases h; exact ⟨rfl, by simp⟩
  | some a =>
    obtain ⟨a', e, r⟩ := hv a rfl
    subst e
    cases a <;> simp [intArg] at h
    cases r
    refine ⟨by simpa [intArg] using h, ?_⟩
    split at h <;> simp_all
    subst h
    simp
theorem bounds_run {len cap l h m : Nat} {lo hi mx : Option Nat} {vl vh vm : Option Value} (e1 : intArg vl = some lo) (e2 : intArg vh = some hi) (e3 : intArg vm = some mx)
    (n1 : vl = none ↔ lo = none) (n2 : vh = none ↔ hi = none) (n3 : vm = none ↔ mx = none) (hb : bounds len cap lo hi mx = some (l, h, m)) (s : Bool) (cap' : Nat) (hc : cap ≤ cap') :
    (Instr.sliceBounds s len cap' vl vh vm).run P w = .ok (l, h, mx.getD cap') w ∧ l ≤ h ∧ h ≤ m ∧ m ≤ cap ∧ m = mx.getD cap := by
  unfold bounds at hb
  dsimp only at hb
  split at hb
  case h_2 => cases hb
  case h_1 hh =>
    rw [fN_eq, fN_eq, fN_eq] at hb
    cases hb
    simp only [Bool.and_eq_true, Bool.or_eq_true] at hh
    obtain ⟨⟨⟨h1, h2⟩, h3⟩, h4⟩ := hh
    have h1 := Nat.le_of_ble_eq_true h1
    have h2 := Nat.le_of_ble_eq_true h2
    have h3 := Nat.le_of_ble_eq_true h3
    refine ⟨?_, h3, h2, h1, rfl⟩
    have B : ∀ {v : Value} {n y : Nat}, intArg (some v) = some (some n) → n ≤ y → ∀ c, (Instr.sliceBound v y c).run P w = .ok n w := fun h hy c => bound_run h rfl hy c
    cases mx with
    | none =>
      have := n3.2 rfl
      subst this
      cases hi with
      | none =>
        have := n2.2 rfl
        subst this
        cases lo with
        | none =>
          have := n1.2 rfl
          subst this
          simp [Instr.sliceBounds]
        | some a =>
          obtain ⟨v, rfl⟩ : ∃ v, vl = some v := by cases vl with
            | none => exact absurd (n1.1 rfl) (by simp)
            | some v => exact ⟨v, rfl⟩
          simp only [Option.getD] at h1 h2 h3 ⊢
          simp [Instr.sliceBounds, B e1 h3]
      | some b =>
        obtain ⟨u, rfl⟩ : ∃ u, vh = some u := by cases vh with
            | none => exact absurd (n2.1 rfl) (by simp)
            | some v => exact ⟨v, rfl⟩
        simp only [Option.getD] at h1 h2 h3 ⊢
        have q := B e2 (Nat.le_trans h2 hc)
        cases lo with
        | none =>
          have := n1.2 rfl
          subst this
          simp [Instr.sliceBounds, q]
        | some a =>
          obtain ⟨v, rfl⟩ : ∃ v, vl = some v := by cases vl with
            | none => exact absurd (n1.1 rfl) (by simp)
            | some v => exact ⟨v, rfl⟩
          simp [Instr.sliceBounds, q, B e1 h3]
    | some c =>
      obtain ⟨t, rfl⟩ : ∃ t, vm = some t := by cases vm with
            | none => exact absurd (n3.1 rfl) (by simp)
            | some v => exact ⟨v, rfl⟩
      cases hi with
      | none => simp at h4
      | some b =>
        obtain ⟨u, rfl⟩ : ∃ u, vh = some u := by cases vh with
            | none => exact absurd (n2.1 rfl) (by simp)
            | some v => exact ⟨v, rfl⟩
        simp only [Option.getD] at h1 h2 h3 ⊢
        have q := B e2 h2
        have q3 := B e3 (Nat.le_trans h1 hc)
        cases lo with
        | none =>
          have := n1.2 rfl
          subst this
          simp [Instr.sliceBounds, q, q3]
        | some a =>
          obtain ⟨v, rfl⟩ : ∃ v, vl = some v := by cases vl with
            | none => exact absurd (n1.1 rfl) (by simp)
            | some v => exact ⟨v, rfl⟩
          simp [Instr.sliceBounds, q, q3, B e1 h3]

/-- A part of a string or of a slice. A part that begins at the end of a row that may be longer has no place that is told. -/
def xslice (P : Program) (t : TypeId) (x : Value) (lo hi mx : Option Value) : X Value := match intArg lo, intArg hi, intArg mx with
  | some lo, some hi, some mx => match P.underlying t, x with
    | some .string, .string s => match mx, bounds s.data.toList.length s.data.toList.length lo hi none with
      | none, some (l, h, _) => fS ((s.data.toList.drop l).take (h - l)) fun l => X.pure (.string ⟨⟨l⟩⟩)
      | _, _ => X.fail
    | some (.slice e), .slice (some ⟨i, off, none⟩) len cap => match P.info? e, bounds len cap lo hi mx with
      | some I, some (l, h, m) => (X.rdc i off 0).bind fun p => match p with
        | (_, _, _, _, lo) => match Nat.beq m l with
          | true => match mx, lo with
            | none, some _ => X.pure (.slice none 0 1)
            | _, _ => X.pure (.slice (some ⟨i, off, none⟩) 0 0)
          | false => match mx, lo with
            | none, some n => match Nat.beq n I.size with
              | true => fN (off + l * I.size) fun o => fN (h - l) fun h => fN (m - l) fun m => X.pure (.slice (some ⟨i, o, none⟩) h m)
              | false => X.fail
            | _, _ => fN (off + l * I.size) fun o => fN (h - l) fun h => fN (m - l) fun m => X.pure (.slice (some ⟨i, o, none⟩) h m)
      | _, _ => X.fail
    | some (.slice e), .slice none 0 0 => match P.info? e, bounds 0 0 lo hi mx with
      | some _, some _ => X.pure (.slice none 0 0)
      | _, _ => X.fail
    | _, _ => X.fail
  | _, _, _ => X.fail

def ORel (ρ : Ren) (v v' : Option Value) : Prop := (v = none ∧ v' = none) ∨ ∃ a a', v = some a ∧ v' = some a' ∧ VRel ρ a a'
theorem ORel.int {v v' : Option Value} {x : Option Nat} (h : ORel ρ v v') (e : intArg v = some x) : intArg v' = some x ∧ (v' = none ↔ x = none) := by
  rcases h with ⟨rfl, rfl⟩ | ⟨a, a', rfl, rfl, h⟩
  · cases e; exact ⟨rfl, by simp⟩
  · exact intArg_rel (ρ := ρ) (v := some a) (fun b hb => by cases hb; exact ⟨_, rfl, h⟩) (fun hb => by cases hb) e
theorem xslice_ok {t : TypeId} {x x' v : Value} {lo hi mx lo' hi' mx' : Option Value} {s s' : St} (r : Rel N0 b0 w0 ρ s.h w) (hx : VRel ρ x x') (h1 : ORel ρ lo lo') (h2 : ORel ρ hi hi') (h3 : ORel ρ mx mx')
    (h : (xslice P t x lo hi mx).run s = some (v, s')) : Good N0 b0 w0 ρ s' v ((Instr.sliceAt t x' lo' hi' mx').run P w) := by
  have hsl : ∀ d, P.underlying t = some d → (∀ n e, d ≠ .array n e) → (Instr.sliceAt t x' lo' hi' mx').run P w = (Instr.slice t x' lo' hi' mx').run P w := fun d hd hna => by
    simp only [Instr.sliceAt, Sem.run_bind, run_underlying hd, Result.andThen_ok]
    all_goals (cases d <;> first | rfl | exact absurd rfl (hna _ _))
  unfold xslice at h
  split at h
  case h_2 => cases h
  case h_1 l hh m e1 e2 e3 =>
    obtain ⟨f1, n1⟩ := h1.int e1
    obtain ⟨f2, n2⟩ := h2.int e2
    obtain ⟨f3, n3⟩ := h3.int e3
    split at h
    · rename_i s1 hd
      rw [hsl _ hd (by simp)]
      split at h
      · rename_i L H M hb
        rw [fS_eq] at h
        obtain ⟨rfl, rfl⟩ := X.pure_some h
        cases hx
        have := n3.2 rfl
        subst this
        obtain ⟨q, q1, q2, q3, _⟩ := bounds_run (P := P) (w := w) (vm := none) f1 f2 (mx := none) rfl n1 n2 (by simp) hb false _ (Nat.le_refl _)
        have hsz : s1.data.toList.length = s1.size := Array.length_toList
        rw [hsz] at q
        simp only [Instr.slice, Sem.run_bind, run_underlying hd, Result.andThen_ok, Option.isSome_none, Bool.false_eq_true, if_false, Sem.run_pure, q]
        refine Good.same r ?_
        have : (s1.extract L H) = ⟨⟨(s1.data.toList.drop L).take (H - L)⟩⟩ := by
          apply ByteArray.ext
          apply Array.ext'
          simp
        rw [this]
        exact .str _
      · cases h
    · rename_i e i off len cap hd
      rw [hsl _ hd (by simp)]
      split at h
      case h_2 => cases h
      case h_1 I l2 H2 M2 hI hb =>
        cases hx with
        | slice _ _ hL hok =>
          rename_i L cap'
          obtain ⟨⟨l0, tt, f0, ff1, loo⟩, s1, g1, h'⟩ := X.bind_some h
          clear h
          have h := h'
          clear h'
          obtain ⟨cc, g2, _, _, g3, _⟩ := X.rdc_some g1
          obtain ⟨L2, u, hlive⟩ := r.obj i _ g2
          dsimp only at h
          rw [hL] at u
          cases u
          obtain ⟨q, q1, q2, q3, q4⟩ := bounds_run (P := P) (w := w) f1 f2 f3 n1 n2 n3 hb true cap' hok.le
          simp only [Instr.slice, Sem.run_bind, run_underlying hd, Result.andThen_ok, q, run_sizeOf' hI, Sem.run_pure]
          · have hlo : L.loose = loo := hlive.1
            -- the real end
            have hreal : m = none → m.getD cap' = cap' ∧ M2 = cap := fun hm => by subst hm; exact ⟨rfl, by rw [q4]; rfl⟩
            have hmx : ∀ c, m = some c → m.getD cap' = M2 := fun c hm => by subst hm; rw [q4]; rfl
            split at h
            · rename_i hml
              have hml := Nat.eq_of_beq_eq_true hml
              subst hml
              have hH : H2 = M2 := by omega
              subst hH
              split at h
              · obtain ⟨rfl, rfl⟩ := X.pure_some h
                refine Good.same' r g3 ?_
                rw [Nat.sub_self]
                split <;> exact VRel.hid
              · rename_i hno
                obtain ⟨rfl, rfl⟩ := X.pure_some h
                refine Good.same' r g3 ?_
                have hcap : m.getD cap' = H2 := by
                  cases hm : m with
                  | some c => rw [← hm]; exact hmx c hm
                  | none =>
                    have h5 := hreal hm
                    cases hl : loo with
                    | some n => exact (hno n hm hl).elim
                    | none =>
                      rcases hok with e | ⟨n, e, _⟩
                      · rw [← hm, h5.1, e, h5.2]
                      · rw [hlo, hl] at e; cases e
                rw [if_pos hcap, hcap, Nat.sub_self]
                exact .slice _ _ hL (.inl rfl)
            · rename_i hml
              have hml : M2 ≠ l2 := fun e => by rw [e, Nat.beq_refl] at hml; cases hml
              have hge : M2 ≤ m.getD cap' := by
                cases hm : m with
                | some c => rw [← hm, hmx c hm]; exact Nat.le_refl _
                | none => rw [← hm, (hreal hm).1]; have := hok.le; omega
              have hne : ¬ (m.getD cap' = l2) := by omega
              have hadd : Option.map (fun x => x.add (l2 * I.size)) (some (⟨L.blk, L.sh + off, none⟩ : Addr)) = some ⟨L.blk, L.sh + (off + l2 * I.size), none⟩ := by
                simp [add_none, Nat.add_assoc]
              rw [if_neg hne, hadd]
              split at h
              · rename_i n
                split at h
                case h_2 => cases h
                case h_1 hn =>
                  have hn := Nat.eq_of_beq_eq_true hn
                  rw [fN_eq, fN_eq, fN_eq] at h
                  obtain ⟨rfl, rfl⟩ := X.pure_some h
                  refine Good.same' r g3 (.slice _ _ hL ?_)
                  have h5 := hreal rfl
                  rcases hok with e | ⟨k, e, e2, e4⟩
                  · exact .inl (by rw [h5.1, e, h5.2])
                  · refine .inr ⟨k, e, by rw [h5.1]; omega, ?_⟩
                    rw [hlo] at e
                    cases e
                    rw [h5.1, ← hn, Nat.sub_mul]
                    have hz : l2 ≤ cap' := by omega
                    have := Nat.mul_le_mul_right n hz
                    omega
              · rename_i hno
                rw [fN_eq, fN_eq, fN_eq] at h
                obtain ⟨rfl, rfl⟩ := X.pure_some h
                refine Good.same' r g3 (.slice _ _ hL (.inl ?_))
                cases hm : m with
                | some c => rw [← hm, hmx c hm]
                | none =>
                  have h5 := hreal hm
                  cases hl : loo with
                  | some n => exact (hno n hm hl).elim
                  | none =>
                    rcases hok with e | ⟨n, e, _⟩
                    · rw [← hm, h5.1, e, h5.2]
                    · rw [hlo, hl] at e; cases e
    · rename_i e hd
      rw [hsl _ hd (by simp)]
      split at h
      case h_2 => cases h
      case h_1 I X3 hI hb =>
        obtain ⟨l2, H2, M2⟩ := X3
        obtain ⟨rfl, rfl⟩ := X.pure_some h
        cases hx
        obtain ⟨q, q1, q2, q3, q4⟩ := bounds_run (P := P) (w := w) f1 f2 f3 n1 n2 n3 hb true 0 (Nat.le_refl _)
        have hz : m.getD 0 = 0 := by rw [← q4]; omega
        simp only [Instr.slice, Sem.run_bind, run_underlying hd, Result.andThen_ok, q, run_sizeOf' hI, Sem.run_pure]
        have : l2 = 0 := by omega
        subst this
        have : H2 = 0 := by omega
        subst this
        rw [hz]
        exact Good.same r .nils
    · cases h
end
end Go.Rx

namespace Go.Rx
set_option linter.unusedVariables false
set_option linter.unusedSimpArgs false
noncomputable section
variable {P : Program} {N0 b0 : Nat} {w0 : World} {ρ : Ren} {w : World}

def byteV (b : UInt8) : Value := .int .u8 b.toNat
def bytesV : List UInt8 → List Value
  | [] => []
  | b :: l => fN b.toNat fun n => .int .u8 (.ofNat n) :: bytesV l
theorem bytesV_eq (l : List UInt8) : bytesV l = l.map byteV := by
  induction l with
  | nil => rfl
  | cons b l ih => rw [bytesV, fN_eq, ih]; rfl
theorem bytesV_rel (l : List UInt8) : VRels ρ (bytesV l) (l.map byteV) := by
  rw [bytesV_eq]
  induction l with
  | nil => exact .nil
  | cons b l ih => exact .cons (.int ..) ih
def lenV : Value → Option Nat
  | .slice _ n _ => some n
  | .string s => some s.data.toList.length
  | _ => none
/-- The first n elements, in cells. -/
def xfirst (size n : Nat) : Value → X (List Value)
  | .slice (some ⟨i, off, none⟩) _ _ => fN (n * size) fun m => (X.rdc i off m).bind fun p => X.pure p.1
  | .slice none 0 _ => match n with
    | 0 => X.pure []
    | _ => X.fail
  | .string s => match Nat.beq size 1 with
    | true => fL (bytesV (s.data.toList.take n)) X.pure
    | false => X.fail
  | _ => X.fail
theorem xfirst_ok {size n : Nat} {x x' : Value} {s s' : St} {l : List Value} (r : Rel N0 b0 w0 ρ s.h w) (hx : VRel ρ x x') (h : (xfirst size n x).run s = some (l, s')) (hn : ∀ len, lenV x = some len → n ≤ len) :
    s'.h = s.h ∧ s'.nx = s.nx ∧ ∃ l', (Builtin.firstCells size n x').run P w = .ok ⟨l'⟩ w ∧ VRels ρ l l' := by
  unfold xfirst at h
  split at h
  · rename_i i off len cap
    cases hx with
    | slice _ _ hL _ =>
      rw [fN_eq] at h
      obtain ⟨⟨l0, tt, f0, f1, lo⟩, s1, g1, h'⟩ := X.bind_some h
      clear h
      obtain ⟨c, g2, e0, hlen, g3, g4⟩ := X.rdc_some g1
      obtain ⟨L2, u, hlive⟩ := r.obj i _ g2
      rw [hL] at u
      cases u
      obtain ⟨e, rfl⟩ := X.pure_some h'
      dsimp only at e
      rw [e, e0]
      rw [e0] at hlen
      obtain ⟨l', e1, e2⟩ := run_cells (P := P) hlive hlen
      exact ⟨g3, g4, l', by simpa [Builtin.firstCells] using e1, e2⟩
  · split at h
    · obtain ⟨rfl, rfl⟩ := X.pure_some h
      refine ⟨rfl, rfl, [], ?_, .nil⟩
      cases hx <;> simp [Builtin.firstCells, loadCells, loadCellsFrom]
    · cases h
  · rename_i s1
    split at h
    case h_2 => cases h
    rw [fL_eq] at h
    obtain ⟨rfl, rfl⟩ := X.pure_some h
    cases hx
    refine ⟨rfl, rfl, (s1.data.toList.take n).map byteV, ?_, bytesV_rel _⟩
    have h1 : (s1.extract 0 n).data.toList = s1.data.toList.take n := by simp
    have : ((s1.extract 0 n).data.map fun b => Value.int .u8 b.toNat) = ⟨(s1.data.toList.take n).map byteV⟩ := by
      apply Array.ext'
      rw [Array.toList_map, h1]
      rfl
    simp only [Builtin.firstCells, Sem.run_pure, this]
  · cases h

theorem xfirst_len {size n : Nat} {x x' : Value} {s s' : St} {l : List Value} (hx : VRel ρ x x') (h : (xfirst size n x).run s = some (l, s')) (hn : lenV x = some n) : l.length = n * size := by
  unfold xfirst at h
  split at h
  · rw [fN_eq] at h
    obtain ⟨⟨l0, tt, f0, f1, lo⟩, s1, g1, h'⟩ := X.bind_some h
    clear h
    obtain ⟨c, _, _, hlen, _⟩ := X.rdc_some g1
    obtain ⟨e, rfl⟩ := X.pure_some h'
    rw [e]
    exact hlen
  · split at h
    · obtain ⟨rfl, rfl⟩ := X.pure_some h; simp
    · cases h
  · rename_i s1
    split at h
    case h_2 => cases h
    case h_1 hb =>
      rw [fL_eq] at h
      obtain ⟨rfl, rfl⟩ := X.pure_some h
      simp only [lenV, Option.some.injEq] at hn
      have hs := Nat.eq_of_beq_eq_true hb
      subst hs
      rw [bytesV_eq, List.length_map, List.length_take, hn]
      omega
  · cases h

def notInt : TypeDesc → Bool
  | .int _ => false
  | _ => true

def xgrow (N0 : Nat) (c : List Value) (e f0 f1 size need : Nat) : X Value := fL c fun c => (X.new (.cells c e f0 f1 (some size))).bind fun i => match Nat.ble N0 i with
  | true => X.pure (.slice (some ⟨i, 0, none⟩) need need)
  | false => X.fail

/-- Cells made zero. -/
def repL (z : List Value) : Nat → List Value
  | 0 => []
  | n + 1 => z ++ repL z n
theorem repL_length (z : List Value) (n : Nat) : (repL z n).length = n * z.length := by
  induction n with
  | zero => simp [repL]
  | succ n ih => rw [repL, List.length_append, ih, Nat.succ_mul, Nat.add_comm]
theorem repL_get (z : List Value) : ∀ (n i : Nat), i < n * z.length → (repL z n)[i]? = z[i % z.length]? := by
  intro n
  induction n with
  | zero => intro i hi; simp at hi
  | succ n ih =>
    intro i hi
    rw [repL, List.getElem?_append]
    split
    · rename_i h
      rw [Nat.mod_eq_of_lt h]
    · rename_i h
      have hs : (n + 1) * z.length = n * z.length + z.length := Nat.succ_mul ..
      rw [ih (i - z.length) (by omega)]
      congr 1
      exact (Nat.mod_eq_sub_mod (by omega)).symm
theorem repL_zero (z : Array Value) (n : Nat) : (Builtin.zeroCells z n).toList = repL z.toList n := by
  apply List.ext_getElem?
  intro i
  by_cases hi : i < n * z.size
  · rw [repL_get _ _ _ (by simpa using hi)]
    have hz : 0 < z.size := by
      rcases Nat.eq_zero_or_pos z.size with h | h
      · rw [h] at hi; simp at hi
      · exact h
    have hm := Nat.mod_lt i hz
    simp [Builtin.zeroCells, hi, hm, getElem!_pos]
  · rw [List.getElem?_eq_none (by simp [Builtin.zeroCells]; omega), List.getElem?_eq_none (by rw [repL_length]; simpa using hi)]
theorem repL_plain {z : List Value} (h : plainL z = true) (n : Nat) : plainL (repL z n) = true := by
  have app : ∀ {a b : List Value}, plainL a = true → plainL b = true → plainL (a ++ b) = true := fun {a b} ha hb => by
    induction a with
    | nil => exact hb
    | cons v a ih => simp only [plainL, Bool.and_eq_true] at ha; simp only [List.cons_append, plainL, Bool.and_eq_true]; exact ⟨ha.1, ih ha.2⟩
  induction n with
  | zero => rfl
  | succ n ih => exact app h ih
/-- A row's last offspring is given up, with all that came of it. -/
def xkill : Nat → Nat → X Unit
  | 0, _ => X.fail
  | k + 1, i => (X.rd i).bind fun o => match o.kid with
    | some j => (xkill k j).bind fun _ => X.wrt i .dead
    | none => X.wrt i .dead
theorem xkill_ok : ∀ {k i : Nat} {s s' : St}, (xkill k i).run s = some ((), s') → s'.h.get i = some .dead ∧ (∀ x, s'.h.get x = s.h.get x ∨ s'.h.get x = some .dead) ∧ s'.nx = s.nx ∧
    ∀ {N0 b0 : Nat} {w0 : World} {ρ : Ren} {w : World}, Rel N0 b0 w0 ρ s.h w → Rel N0 b0 w0 ρ s'.h w := by
  intro k
  induction k with
  | zero => intro i s s' h; cases h
  | succ k ih =>
    intro i s s' h
    obtain ⟨o, s1, h1, h⟩ := X.bind_some h
    obtain ⟨e1, e2, e3⟩ := X.rd_some h1
    have fin : ∀ {s2 : St}, (X.wrt i .dead).run s2 = some ((), s') → (∀ x, s2.h.get x = s.h.get x ∨ s2.h.get x = some .dead) → s2.nx = s.nx →
        (∀ k, o.kid = some k → s2.h.get k = some .dead) → (∀ {N0 b0 : Nat} {w0 : World} {ρ : Ren} {w : World}, Rel N0 b0 w0 ρ s.h w → Rel N0 b0 w0 ρ s2.h w) →
        s'.h.get i = some .dead ∧ (∀ x, s'.h.get x = s.h.get x ∨ s'.h.get x = some .dead) ∧ s'.nx = s.nx ∧ ∀ {N0 b0 : Nat} {w0 : World} {ρ : Ren} {w : World}, Rel N0 b0 w0 ρ s.h w → Rel N0 b0 w0 ρ s'.h w := by
      intro s2 h2 hx hn hk hr
      obtain ⟨⟨o2, f0⟩, f1, f2⟩ := X.wrt_some h2
      refine ⟨by rw [f1, T.get_set, if_pos rfl], fun x => ?_, f2.trans hn, fun r => ?_⟩
      · rw [f1, T.get_set]
        split
        · exact .inr rfl
        · exact hx x
      · rw [f1]
        refine (hr r).kill f0 fun k hk' => .inr ?_
        rcases hx i with e | e
        · rw [f0, e1] at e; cases e; exact hk k hk'
        · rw [f0] at e; cases e; cases hk'
    split at h
    · rename_i j hj
      obtain ⟨_, s2, h2, h⟩ := X.bind_some h
      obtain ⟨g1, g2, g3, g4⟩ := ih h2
      refine fin h (fun x => e2 ▸ g2 x) (g3.trans e3) (fun k hk => ?_) fun r => g4 (e2 ▸ r)
      rw [hj] at hk; cases hk; exact g1
    · rename_i hj
      exact fin h (fun x => .inl (by rw [e2])) e3 (fun k hk => by rw [hj] at hk; cases hk) fun r => e2 ▸ r
def xkillOf (o : AObj) : X Unit := match o.kid with
  | some j => xkill 64 j
  | none => X.pure ()
theorem nxt_some {q : Nat} {s s' : St} (h : X.nxt.run s = some (q, s')) : q = s.nx ∧ s' = s := by cases h; exact ⟨rfl, rfl⟩
theorem xkillOf_ok {o : AObj} {s s' : St} (h : (xkillOf o).run s = some ((), s')) : (∀ k, o.kid = some k → s'.h.get k = some .dead) ∧ (∀ x, s'.h.get x = s.h.get x ∨ s'.h.get x = some .dead) ∧ s'.nx = s.nx ∧
    ∀ {N0 b0 : Nat} {w0 : World} {ρ : Ren} {w : World}, Rel N0 b0 w0 ρ s.h w → Rel N0 b0 w0 ρ s'.h w := by
  unfold xkillOf at h
  split at h
  · rename_i j hj
    obtain ⟨g1, g2, g3, g4⟩ := xkill_ok h
    exact ⟨fun k hk => by rw [hj] at hk; cases hk; exact g1, g2, g3, g4⟩
  · rename_i hj
    obtain ⟨_, rfl⟩ := X.pure_some h
    exact ⟨fun k hk => (by rw [hj] at hk; cases hk), fun _ => .inl rfl, rfl, id⟩
def keepB (P : Program) (e : TypeId) : Bool := match P.underlying e with
  | some (.int .i64) => true
  | _ => false
def keepO (m : Nat) : AObj → Bool
  | .cells c _ _ f1 _ => Nat.beq c.length m && Nat.beq f1 0
  | _ => false
/-- Appending to a row that is only read from now on. -/
def xkeep (N0 i size need e : Nat) (o : AObj) (new : List Value) : X Value := (xkillOf o).bind fun _ => X.nxt.bind fun q => (X.rd i).bind fun o => match o with
  | .cells c t _ f1 (some k) => match Nat.beq f1 0 && Nat.beq k size && Nat.beq t e && Nat.ble N0 i && Nat.ble N0 q with
    | true => fN (big + 1 + q) fun f => (X.wrt i (.cells c t f 0 (some k))).bind fun _ => xgrow N0 (c ++ new) e big 0 size need
    | false => X.fail
  | _ => X.fail
/-- Appending to a row that is given up. -/
def xmove (N0 i size need off m e t f0 f1 k : Nat) (old new : List Value) : X Value := match Nat.beq k size && Nat.ble N0 i && Nat.ble f1 (off + m) && Nat.beq t e && Nat.ble f0 1048576 with
  | true => (X.wrt i .dead).bind fun _ => xgrow N0 (old ++ new) e (f0 - off) (f1 - off) size need
  | false => X.fail

def xappendL (P : Program) (N0 : Nat) (st xt : TypeId) (s x : Value) : X Value :=
  match P.underlying st, (P.underlying xt).map notInt with
  | some (.slice e), some true => match P.info? e with
    | some I => match I.zero with
      | some z => match Nat.beq (cellsOf z).length I.size && plainL (cellsOf z), s, lenV x with
        | true, .slice base len cap, some n => (xfirst I.size n x).bind fun new => match oneL new with
          | true => fN (len + n) fun need => match Nat.ble need cap with
            | true => match base with
              | some ⟨i, off, none⟩ => (X.rdc i off 0).bind fun p => match p with
                | (_, _, f0, f1, _) => fN (off + len * I.size) fun o =>
                  match Nat.ble N0 i && (Nat.ble f1 o || Nat.ble (o + new.length) f0) && Nat.ble f0 1048576 with
                  | true => (X.wrc i o new).bind fun _ => X.pure (.slice base need cap)
                  | false => X.fail
              | none => match cap with
                | 0 => X.pure (.slice none 0 0)
                | _ => X.fail
              | _ => X.fail
            | false => match Nat.ble need 1048576 && Nat.ble I.bytes 1048576 with
              | true => match base with
                | none => match cap with
                  | 0 => xgrow N0 new e 0 0 I.size need
                  | _ => X.fail
                | some ⟨i, off, none⟩ => (X.rdc i off (len * I.size)).bind fun p => match p with
                  | (old, t, f0, f1, lo) => match lo with
                    | none => xgrow N0 (old ++ new) e 0 0 I.size need
                    | some k => match keepB P e with
                      | true => (X.rd i).bind fun o => match keepO (len * I.size) o && Nat.beq off 0 with
                        | true => xkeep N0 i I.size need e o new
                        | false => xmove N0 i I.size need off (len * I.size) e t f0 f1 k old new
                      | false => xmove N0 i I.size need off (len * I.size) e t f0 f1 k old new
                | _ => X.fail
              | false => X.fail
          | false => X.fail
        | _, _, _ => X.fail
      | none => X.fail
    | none => X.fail
  | _, _ => X.fail

theorem growBy_le (need : Nat) : ∀ (k c : Nat), c ≤ need + (need + 768) / 4 → Builtin.growBy need k c ≤ need + (need + 768) / 4 := by
  intro k
  induction k with
  | zero => intro c h; exact h
  | succ k ih =>
    intro c h
    unfold Builtin.growBy
    split
    · exact h
    · exact ih _ (by omega)
theorem nextcap_le {need cap : Nat} (h : cap < need) : Builtin.nextslicecap need cap ≤ 2 * need + 512 := by
  unfold Builtin.nextslicecap
  split
  · omega
  · split
    · omega
    · have := growBy_le need 4 cap (by omega)
      omega
theorem zeroCells_length (z : Array Value) (n : Nat) : (Builtin.zeroCells z n).toList.length = n * z.size := by simp [Builtin.zeroCells]
theorem lenOf_run {x x' : Value} {n : Nat} (hx : VRel ρ x x') (h : lenV x = some n) : (Builtin.lenOf x').run P w = .ok n w := by
  cases hx <;> simp [lenV] at h
  · subst h; rename_i s; simp [Builtin.lenOf]
  all_goals subst h; simp [Builtin.lenOf]

/-- A longer row in a new block, on both sides. -/
theorem xgrow_new {c c' : List Value} {e f0 f1 size need newCap : Nat} {v : Value} {s s' : St} {rest : List Value} (r : Rel N0 b0 w0 ρ s.h w) (hc : VRels ρ c c') (h : (xgrow N0 c e f0 f1 size need).run s = some (v, s'))
    (hcap : need ≤ newCap) (hr : c'.length + rest.length = newCap * size) :
    ∃ ρ', ρ.le ρ' ∧ Rel N0 b0 w0 ρ' s'.h { w with heap := w.heap.push (.cells ⟨c' ++ rest⟩ e) } ∧ VRel ρ' v (.slice (some ⟨w.heap.size, 0, none⟩) need newCap) := by
  unfold xgrow at h
  rw [fL_eq] at h
  obtain ⟨j, s1, h1, h⟩ := X.bind_some h
  obtain ⟨rfl, h2, h3, _⟩ := X.new_some h1
  split at h
  case h_2 => cases h
  case h_1 hn =>
    have hn := Nat.le_of_ble_eq_true hn
    obtain ⟨rfl, rfl⟩ := X.pure_some h
    have hle : ρ.le (ρ.put s.nx ⟨w.heap.size, 0, newCap * size, some size⟩) := Ren.le_put (r.new _ hn h2)
    refine ⟨ρ.put s.nx ⟨w.heap.size, 0, newCap * size, some size⟩, hle, ?_, ?_⟩
    · rw [h3]
      refine r.push hn h2 _ _ _ rfl ⟨rfl, ⟨c' ++ rest⟩, e, (0, 0), by simp, rfl, by simpa using hr, fun x => (by cases x), ?_, ?_, fun j h1 h2 => by dsimp only at h2; omega⟩
      · have := hc.length
        show 0 + c.length ≤ newCap * size
        omega
      · have : ((c' ++ rest).drop 0).take c.length = c' := by rw [← hc.length]; simp
        rw [show (⟨c' ++ rest⟩ : Array Value).toList = c' ++ rest from rfl, this]
        exact hc.mono hle
    · have := VRel.slice (ρ := ρ.put s.nx ⟨w.heap.size, 0, newCap * size, some size⟩) (i := s.nx) 0 need (cap := need) (cap' := newCap) Ren.put_self (.inr ⟨size, rfl, hcap, by dsimp only; omega⟩)
      simpa using this

/-- A text's bytes in a new row. -/
def xbytes (P : Program) (N0 : Nat) (src dst : TypeId) (x : Value) : X Value := match P.underlying src, P.underlying dst, x with
  | some .string, some (.slice e), .string s => match P.underlying e with
    | some (.int .u8) => xgrow N0 (bytesV s.data.toList) e 0 0 1 s.data.toList.length
    | _ => X.fail
  | _, _, _ => X.fail
theorem xgrow_new' {c c' : List Value} {e size need newCap : Nat} {v : Value} {s s' : St} {rest : List Value} {fr : Nat × Nat} (r : Rel N0 b0 w0 ρ s.h w) (hc : VRels ρ c c') (h : (xgrow N0 c e 0 0 size need).run s = some (v, s'))
    (hcap : need ≤ newCap) (hr : c'.length + rest.length = newCap * size) (hfr : newCap * size ≤ fr.1) :
    ∃ ρ', ρ.le ρ' ∧ Rel N0 b0 w0 ρ' s'.h { w with heap := w.heap.push (.cells ⟨c' ++ rest⟩ e fr) } ∧ VRel ρ' v (.slice (some ⟨w.heap.size, 0, none⟩) need newCap) := by
  unfold xgrow at h
  rw [fL_eq] at h
  obtain ⟨j, s1, h1, h⟩ := X.bind_some h
  obtain ⟨rfl, h2, h3, _⟩ := X.new_some h1
  split at h
  case h_2 => cases h
  case h_1 hn =>
    have hn := Nat.le_of_ble_eq_true hn
    obtain ⟨rfl, rfl⟩ := X.pure_some h
    have hle : ρ.le (ρ.put s.nx ⟨w.heap.size, 0, newCap * size, some size⟩) := Ren.le_put (r.new _ hn h2)
    refine ⟨ρ.put s.nx ⟨w.heap.size, 0, newCap * size, some size⟩, hle, ?_, ?_⟩
    · rw [h3]
      refine r.push hn h2 _ _ _ rfl ⟨rfl, ⟨c' ++ rest⟩, e, fr, by simp, rfl, by simpa using hr, fun x => (by cases x), ?_, ?_, fun j h1 h2 _ h4 => by dsimp only at h4; omega⟩
      · have := hc.length
        show 0 + c.length ≤ newCap * size
        omega
      · have : ((c' ++ rest).drop 0).take c.length = c' := by rw [← hc.length]; simp
        rw [show (⟨c' ++ rest⟩ : Array Value).toList = c' ++ rest from rfl, this]
        exact hc.mono hle
    · have := VRel.slice (ρ := ρ.put s.nx ⟨w.heap.size, 0, newCap * size, some size⟩) (i := s.nx) 0 need (cap := need) (cap' := newCap) Ren.put_self (.inr ⟨size, rfl, hcap, by dsimp only; omega⟩)
      simpa using this
theorem xbytes_ok {src dst : TypeId} {x x' v : Value} {s s' : St} (r : Rel N0 b0 w0 ρ s.h w) (hx : VRel ρ x x') (h : (xbytes P N0 src dst x).run s = some (v, s')) :
    Good N0 b0 w0 ρ s' v ((convert src dst x').run P w) := by
  unfold xbytes at h
  split at h
  case h_2 => cases h
  case h_1 e b hs hd =>
    split at h
    case h_2 => cases h
    case h_1 he =>
      cases hx
      have hsz : b.data.toList.length = b.size := Array.length_toList
      have rd : Rel N0 b0 w0 ρ s.h w.drew := r.same (fun _ => rfl) rfl rfl rfl
      have hle : b.size ≤ Question.cut (.appendCap b.size 0 e) (w.tape w.drawn (.appendCap b.size 0 e)) := Nat.le_add_right _ _
      generalize hcap : Question.cut (.appendCap b.size 0 e) (w.tape w.drawn (.appendCap b.size 0 e)) = cap at hle
      have harr : (b.data.map fun c => Value.int .u8 c.toNat) ++ Array.replicate (cap - b.size) (.int .u8 0) = ⟨b.data.toList.map byteV ++ List.replicate (cap - b.size) (.int .u8 0)⟩ := by
        apply Array.ext'
        simp
        intro a _
        rfl
      have hlen : (b.data.toList.map byteV).length + (List.replicate (cap - b.size) (Value.int .u8 0)).length = cap * 1 := by
        rw [List.length_map, hsz, List.length_replicate]; omega
      rw [hsz] at h
      obtain ⟨ρ', p1, p2, p3⟩ := xgrow_new' (rest := List.replicate (cap - b.size) (.int .u8 0)) (fr := (cap, cap + 1)) rd (bytesV_rel b.data.toList) h hle hlen (by simp)
      refine ⟨ρ', _, _, ?_, p1, p2, p3⟩
      have hn : (⟨b.data.toList.map byteV ++ List.replicate (cap - b.size) (.int .u8 0)⟩ : Array Value).size = cap := by simp at hlen ⊢; omega
      have hfz : ∀ (H : Array Obj) (C : Array Value), (World.freeze { w.drew with heap := H.push (.cells C e) } ⟨H.size, C.size, none⟩ 1) = { w.drew with heap := H.push (.cells C e (C.size, C.size + 1)) } := fun H C => by
        simp only [World.freeze, Nat.one_ne_zero, if_false]
        congr 1
        apply Array.ext_getElem?
        intro k
        rw [Array.getElem?_modify]
        by_cases hk : H.size = k
        · subst hk; simp
        · rw [if_neg hk]
          simp only [Array.getElem?_push, Ne.symm hk, if_false]
      have hz2 := hfz w.drew.heap ⟨b.data.toList.map byteV ++ List.replicate (cap - b.size) (.int .u8 0)⟩
      rw [hn] at hz2
      simp only [convert, Sem.run_bind, run_underlying hs, run_underlying hd, run_underlying he, Result.andThen_ok, Conv.stringToBytes, run_choose, Question.forced, Bool.false_eq_true, if_false, World.drew_eq, hcap, harr, run_newRow, markStringish, run_shape, Sem.run_pure]
      have hsh : World.shape? { w.drew with heap := w.drew.heap.push (.cells ⟨b.data.toList.map byteV ++ List.replicate (cap - b.size) (.int .u8 0)⟩ e) } w.drew.heap.size = some (e, cap) := by
        simp only [World.shape?, Array.getElem?_push_size]
        rw [hn]
      simp only [hsh, run_freeze, hz2]
      rfl

theorem heap_put_same {b : Nat} {o : Obj} (h : w.heap[b]? = some o) : w.heap.setIfInBounds b o = w.heap := by
  apply Array.ext_getElem?
  intro k
  rw [Array.getElem?_setIfInBounds]
  by_cases hk : b = k
  · subst hk; simp [(Array.getElem?_eq_some_iff.1 h).1, (Array.getElem?_eq_some_iff.1 h).2]
  · simp [hk]

set_option maxHeartbeats 4000000 in
theorem xappendL_ok {st xt ty : TypeId} {x x' y y' v : Value} {s s' : St} (r : Rel N0 b0 w0 ρ s.h w) (hx : VRel ρ x x') (hy : VRel ρ y y') (h : (xappendL P N0 st xt x y).run s = some (v, s')) :
    Good N0 b0 w0 ρ s' v ((Builtin.append_ #[st, xt] ty #[x', y']).run P w) := by
  unfold xappendL at h
  split at h
  case h_2 => cases h
  case h_1 e hd hxt =>
    obtain ⟨dx, hdx, hni⟩ := Option.map_eq_some_iff.1 hxt
    split at h
    case h_2 => cases h
    case h_1 I hI =>
      split at h
      case h_2 => cases h
      case h_1 z hz =>
        split at h
        case h_2 => cases h
        case h_1 base len cap n hzz hn =>
          simp only [Bool.and_eq_true] at hzz
          obtain ⟨new, s1, g1, h'⟩ := X.bind_some h
          clear h
          obtain ⟨g2, g3, new', g4, g5⟩ := xfirst_ok (P := P) r hy g1 (fun l hl => by rw [hn] at hl; cases hl; exact Nat.le_refl _)
          split at h'
          case h_2 => cases h'
          case h_1 hone =>
            rw [fN_eq] at h'
            have hlen := lenOf_run (P := P) (w := w) hy hn
            have hzeros : (match dx with | .int _ => true | _ => false) = false := by cases dx <;> first | rfl | cases hni
            have hzl : z.cells.size = I.size := by rw [← Nat.eq_of_beq_eq_true hzz.1, ← cellsOf_eq]; simp
            -- what the real append does
            have hgo : ∀ base' cap', x' = .slice base' len cap' → (Builtin.append_ #[st, xt] ty #[x', y']).run P w =
                (if len + n ≤ cap' then (match base' with
                    | some a => ((storeCells (a.add (len * I.size)) new').run P w).andThen fun _ w => .ok (.slice base' (len + n) cap') w
                    | none => .ok (.slice base' (len + n) cap') w)
                  else (do
                    if ((len + n : Nat) : Int) > IntKind.i64.max ∧ (False ∨ I.bytes = 0) then runtimePanic (.error "growslice: len out of range")
                    if Builtin.nextslicecap (len + n) cap' * I.bytes > 2 ^ 48 then (do
                      if !(← Builtin.mayShare I.size len n base' y') then mark .noRoom
                      unsupported (.resourceLimit "append: a slice or a string whose bytes no memory bears"))
                    let newCap ← choose (.appendCap (len + n) cap' e)
                    askRoom (newCap * I.bytes)
                    let old ← Builtin.firstCells I.size len x'
                    let new ← Builtin.firstCells I.size n y'
                    let rest := Builtin.zeroCells z.cells (newCap - (len + n))
                    pure (.slice (some (← newRow e (old ++ new ++ rest))) (len + n) newCap) : Sem Value).run P w) := fun base' cap' ex => by
              subst ex
              have hm : (match dx with | .int _ => (pure true : Sem Bool) | _ => pure false) = pure false := by cases dx <;> first | rfl | cases hni
              simp only [Builtin.append_, List.getElem?_toArray, List.getElem?_cons_zero, List.getElem?_cons_succ, Sem.run_bind, run_underlying hd, Result.andThen_ok, run_sizeOf' hI, run_underlying hdx, Sem.run_pure, hlen, typeInfo, run_program, hI]
              cases dx <;> first | cases hni | skip
              all_goals
                simp only [Bool.false_eq_true, if_false, hlen, Result.andThen_ok, Bool.not_false, if_true, Sem.run_ite, Sem.run_bind, g4]
                split
                · cases base' <;> simp [g4]
                · simp [run_zeroValue' hI hz, typeInfo, hI]
            split at h'
            · rename_i hcap
              have hcap := Nat.le_of_ble_eq_true hcap
              split at h'
              · rename_i i off
                cases hx with
                | slice _ _ hL hok =>
                  rename_i L cap'
                  rw [hgo _ cap' rfl, if_pos (Nat.le_trans hcap hok.le)]
                  obtain ⟨⟨l0, t, f0, f1, lo⟩, s2, k1, h⟩ := X.bind_some h'
                  clear h'
                  obtain ⟨c, k2, _, _, k3, _⟩ := X.rdc_some k1
                  dsimp only at h
                  rw [fN_eq] at h
                  split at h
                  case h_2 => cases h
                  case h_1 hc =>
                    simp only [Bool.and_eq_true, Bool.or_eq_true] at hc
                    have c1 := Nat.le_of_ble_eq_true hc.1.1
                    have c3 : f1 ≤ off + len * I.size ∨ off + len * I.size + new.length ≤ f0 := hc.1.2.imp Nat.le_of_ble_eq_true Nat.le_of_ble_eq_true
                    obtain ⟨_, s3, k4, h'⟩ := X.bind_some h
                    clear h
                    obtain ⟨rfl, rfl⟩ := X.pure_some h'
                    obtain ⟨c', t', f0', f1', lo', k5, hle, k6, _⟩ := X.wrc_some k4
                    rw [k3, k2] at k5
                    cases k5
                    rw [g2] at k2
                    obtain ⟨w', e3, r'⟩ := Rel.wrc (P := P) r k2 hL c1 hle (Nat.le_of_ble_eq_true hc.2) c3 g5 hone
                    have ha : (⟨L.blk, L.sh + off, none⟩ : Addr).add (len * I.size) = ⟨L.blk, L.sh + (off + len * I.size), none⟩ := by rw [add_none, Nat.add_assoc]
                    simp only [ha, e3, Result.andThen_ok]
                    refine ⟨ρ, w', _, rfl, Ren.le_refl _, ?_, .slice _ _ hL hok⟩
                    rw [k6, k3, g2]
                    exact r'
              · split at h'
                · obtain ⟨rfl, rfl⟩ := X.pure_some h'
                  cases hx
                  rw [hgo _ 0 rfl, if_pos hcap]
                  have : 0 + n = 0 := by omega
                  rw [this]
                  exact Good.same' r g2 .nils
                · cases h'
              · cases h'
            · rename_i hcap
              have hcap : ¬ (len + n ≤ cap) := fun e => by rw [Nat.ble_eq_true_of_le e] at hcap; cases hcap
              split at h'
              case h_2 => cases h'
              case h_1 hsm =>
                simp only [Bool.and_eq_true] at hsm
                have hsm1 := Nat.le_of_ble_eq_true hsm.1
                have hsm2 := Nat.le_of_ble_eq_true hsm.2
                -- the real growth
                have grow : ∀ base' cap' old' new2, x' = .slice base' len cap' → ¬ (len + n ≤ cap') → (Builtin.firstCells I.size len x').run P w.drew = .ok ⟨old'⟩ w.drew → (Builtin.firstCells I.size n y').run P w.drew = .ok ⟨new2⟩ w.drew →
                    ∃ newCap, len + n ≤ newCap ∧ (Builtin.append_ #[st, xt] ty #[x', y']).run P w = .ok (.slice (some ⟨w.heap.size, 0, none⟩) (len + n) newCap)
                      { w.drew with heap := w.heap.push (.cells ⟨old' ++ new2 ++ (Builtin.zeroCells z.cells (newCap - (len + n))).toList⟩ e) } := fun base' cap' old' new2 ex hlt e1 e2 => by
                  have hnc := nextcap_le (need := len + n) (cap := cap') (by omega)
                  have hb : ¬ (Builtin.nextslicecap (len + n) cap' * I.bytes > 2 ^ 48) := by
                    have h1 : Builtin.nextslicecap (len + n) cap' ≤ 2 * 1048576 + 512 := by omega
                    have := Nat.mul_le_mul h1 hsm2
                    omega
                  have hz : ¬ (((len + n : Nat) : Int) > IntKind.i64.max ∧ (False ∨ I.bytes = 0)) := by
                    have : IntKind.i64.max = 9223372036854775807 := rfl
                    rw [this]; omega
                  refine ⟨Question.cut (.appendCap (len + n) cap' e) (w.tape w.drawn (.appendCap (len + n) cap' e)), Nat.le_add_right _ _, ?_⟩
                  rw [hgo _ cap' ex, if_neg hlt]
                  simp only [hz, hb, if_false, Sem.run_bind, Sem.run_pure, Result.andThen_ok, run_choose, Question.forced, Bool.false_eq_true, World.drew_eq, run_askRoom, e1, e2, run_newRow]
                  congr 3
                  simp
                have hrest : ∀ (old' new2 : List Value) (newCap : Nat), old'.length = len * I.size → new2.length = n * I.size → len + n ≤ newCap →
                    (old' ++ new2).length + (Builtin.zeroCells z.cells (newCap - (len + n))).toList.length = newCap * I.size := fun old' new2 newCap l1 l2 l3 => by
                  rw [zeroCells_length, List.length_append, l1, l2, hzl, Nat.sub_mul, ← Nat.add_mul]
                  have := Nat.mul_le_mul_right I.size l3
                  omega
                have rd : Rel N0 b0 w0 ρ s.h w.drew := r.same (fun _ => rfl) rfl rfl rfl
                obtain ⟨_, _, new2, g4d, g5d⟩ := xfirst_ok (P := P) rd hy g1 (fun l hl => by rw [hn] at hl; cases hl; exact Nat.le_refl _)
                have hnl : new2.length = n * I.size := by rw [g5d.length]; exact xfirst_len hy g1 hn
                split at h'
                · split at h'
                  case h_2 => cases h'
                  cases hx
                  obtain ⟨newCap, m1, m2⟩ := grow none 0 [] new2 rfl (by omega) (by simp [Builtin.firstCells]) g4d
                  rw [m2]
                  have rd1 : Rel N0 b0 w0 ρ s1.h w.drew := g2 ▸ rd
                  obtain ⟨ρ', p1, p2, p3⟩ := xgrow_new (rest := (Builtin.zeroCells z.cells (newCap - (0 + n))).toList) rd1 g5d h' m1 (by simpa using hrest [] new2 newCap (by simp) hnl m1)
                  exact ⟨ρ', _, _, rfl, p1, p2, p3⟩
                · rename_i i off
                  cases hx with
                  | slice _ _ hL hok =>
                    rename_i L cap'
                    obtain ⟨⟨old, t, f0, f1, lo⟩, s2, k1, h⟩ := X.bind_some h'
                    clear h'
                    obtain ⟨c, k2, e0, hol, k3, k3n⟩ := X.rdc_some k1
                    rw [g2] at k2
                    obtain ⟨L2, u, hlive⟩ := r.obj i _ k2
                    rw [hL] at u
                    cases u
                    · dsimp only at h
                      subst e0
                      have hs2 : s2.h = s.h := k3.trans g2
                      have rd2 : Rel N0 b0 w0 ρ s2.h w.drew := hs2 ▸ rd
                      have hlived : LiveObj ρ L w.drew (.cells c t f0 f1 lo) := hlive.congr (Ren.le_refl _) fun _ => rfl
                      split at h
                      · have hcc : cap' = cap := by
                          rcases hok with e | ⟨k, e, _⟩
                          · exact e
                          · rw [hlive.1] at e; cases e
                        subst hcc
                        obtain ⟨old', e1, e2⟩ := run_cells (P := P) hlived hol
                        obtain ⟨newCap, m1, m2⟩ := grow _ _ old' new2 rfl hcap (by simpa [Builtin.firstCells] using e1) g4d
                        rw [m2]
                        obtain ⟨ρ', p1, p2, p3⟩ := xgrow_new (rest := (Builtin.zeroCells z.cells (newCap - (len + n))).toList) rd2 (e2.append g5d) h m1 (hrest old' new2 newCap (by rw [e2.length]; exact hol) hnl m1)
                        exact ⟨ρ', _, _, rfl, p1, p2, p3⟩
                      · rename_i k
                        have move : ∀ {s9 : St}, s9.h = s.h → (xmove N0 i I.size (len + n) off (len * I.size) e t f0 f1 k (List.take (len * I.size) (List.drop off c)) new).run s9 = some (v, s') →
                            Good N0 b0 w0 ρ s' v ((Builtin.append_ #[st, xt] ty #[.slice (some ⟨L.blk, L.sh + off, none⟩) len cap', y']).run P w) := by
                          clear h
                          intro s9 hs9 h
                          unfold xmove at h
                          split at h
                          case h_2 => cases h
                          case h_1 hc =>
                            simp only [Bool.and_eq_true] at hc
                            have c1 := Nat.eq_of_beq_eq_true hc.1.1.1.1
                            have c2 := Nat.le_of_ble_eq_true hc.1.1.1.2
                            have c3 := Nat.le_of_ble_eq_true hc.1.1.2
                            have c4 := Nat.eq_of_beq_eq_true hc.1.2
                            have c5 := not_seal (c := c) (t := t) (f1 := f1) (lo := some k) (Nat.le_of_ble_eq_true hc.2)
                            subst c1
                            subst c4
                            obtain ⟨_, s3, k4, h'⟩ := X.bind_some h
                            clear h
                            obtain ⟨_, k6, k7⟩ := X.wrt_some k4
                            obtain ⟨old', e1, e2⟩ := run_cells (P := P) hlived hol
                            by_cases hin : len + n ≤ cap'
                            · -- the real row has room
                              rw [hgo _ cap' rfl, if_pos hin]
                              have hroom : L.sh + off + cap' * I.size ≤ L.sz := by
                                rcases hok with e | ⟨k, e, _, e4⟩
                                · omega
                                · rw [hlive.1] at e; cases e; exact e4
                              obtain ⟨q0, cs, el, fr, q1, q2, q3, q4, q5, q6, q7⟩ := id hlive
                              have hnl' : new'.length = n * I.size := by rw [g5.length]; exact xfirst_len hy g1 hn
                              have hmul := Nat.mul_le_mul_right I.size hin
                              rw [Nat.add_mul] at hmul
                              have hrun := run_storeCells_put (P := P) (b := L.blk) (el := el) (fr := fr) (L.sh + (off + len * I.size)) new' 0 w cs q1 (oneL_rel g5 hone)
                                (by omega) (fun j j1 j2 ⟨j3, j4⟩ => by have := q7 j j3 j4 (by omega) (by omega); omega)
                              have ha : (⟨L.blk, L.sh + off, none⟩ : Addr).add (len * I.size) = ⟨L.blk, L.sh + (off + len * I.size), none⟩ := by rw [add_none, Nat.add_assoc]
                              simp only [ha, hrun, Result.andThen_ok, Nat.add_zero]
                              unfold xgrow at h'
                              rw [fL_eq] at h'
                              obtain ⟨j, s4, h1, h⟩ := X.bind_some h'
                              clear h'
                              obtain ⟨rfl, h2, h3, _⟩ := X.new_some h1
                              split at h
                              case h_2 => cases h
                              case h_1 hn0 =>
                                have hn0 := Nat.le_of_ble_eq_true hn0
                                obtain ⟨rfl, rfl⟩ := X.pure_some h
                                have hs3 : s3.h = s.h.set i .dead := by rw [k6, hs9]
                                have hfree : s.h.get s3.nx = none := by
                                  rw [hs3, T.get_set] at h2
                                  split at h2
                                  · cases h2
                                  · exact h2
                                have hle : ρ.le (ρ.put s3.nx ⟨L.blk, L.sh + off, L.sz, some I.size⟩) := Ren.le_put (r.new _ hn0 hfree)
                                refine ⟨ρ.put s3.nx ⟨L.blk, L.sh + off, L.sz, some I.size⟩, _, _, rfl, hle, ?_, ?_⟩
                                · rw [h3, hs3]
                                  have hsz : cs.size = L.sz := q3
                                  refine r.take c2 k2 rfl c5 hL hn0 hfree _ _ _ rfl ⟨rfl, ⟨cs.toList.take (L.sh + (off + len * I.size)) ++ new' ++ cs.toList.drop (L.sh + (off + len * I.size) + new'.length)⟩, el, fr, ?_, q2, ?_, fun x => (by cases x), ?_, ?_, ?_⟩
                                  · simp [(Array.getElem?_eq_some_iff.1 q1).1]
                                  · simp; omega
                                  · have := g5.length
                                    show L.sh + off + (List.take (len * I.size) (List.drop off c) ++ new).length ≤ L.sz
                                    rw [List.length_append, hol]
                                    omega
                                  · -- the cells
                                    have l1 : (List.take (len * I.size) (List.drop off c) ++ new).length = len * I.size + n * I.size := by
                                      rw [List.length_append, hol, ← g5.length, hnl']
                                    rw [l1]
                                    have hcl : off + len * I.size ≤ c.length ∨ len * I.size = 0 := by
                                      simp only [List.length_take, List.length_drop] at hol; omega
                                    have e3 : VRels ρ (List.take (len * I.size) (List.drop off c)) (List.take (len * I.size) (List.drop (L.sh + off) cs.toList)) := by
                                      have := (q6.drop off).take (len * I.size)
                                      have e4 : List.take (len * I.size) (List.drop off (List.take c.length (List.drop L.sh cs.toList))) = List.take (len * I.size) (List.drop (L.sh + off) cs.toList) := by
                                        rw [List.drop_take, List.drop_drop, List.take_take]
                                        rcases hcl with h | h
                                        · congr 1; omega
                                        · simp [h]
                                      rwa [e4] at this
                                    have e5 : List.take (len * I.size + n * I.size) (List.drop (L.sh + off) (cs.toList.take (L.sh + (off + len * I.size)) ++ new' ++ cs.toList.drop (L.sh + (off + len * I.size) + new'.length))) =
                                        List.take (len * I.size) (List.drop (L.sh + off) cs.toList) ++ new' := by
                                      have ht : (cs.toList.take (L.sh + (off + len * I.size))).length = L.sh + (off + len * I.size) := by simp; omega
                                      rw [List.append_assoc, List.drop_append_of_le_length (by rw [ht]; omega), List.drop_take]
                                      have h6 : (L.sh + (off + len * I.size) - (L.sh + off)) = len * I.size := by omega
                                      rw [h6, ← hnl', List.take_append]
                                      have h7 : (List.take (len * I.size) (List.drop (L.sh + off) cs.toList)).length = len * I.size := by simp; omega
                                      rw [h7, List.take_take, Nat.add_sub_cancel_left]
                                      have h8 : min (len * I.size + new'.length) (len * I.size) = len * I.size := by omega
                                      rw [h8]
                                      simp
                                    rw [e5]
                                    exact (e3.append g5).mono hle
                                  · intro j j1 j2 j3 j5
                                    have j4 : L.sh + off ≤ j := j3
                                    have := q7 j j1 j2 (by omega) j5
                                    show f0 - off ≤ j - (L.sh + off) ∧ j - (L.sh + off) < f1 - off
                                    omega
                                · have := VRel.slice (ρ := ρ.put s3.nx ⟨L.blk, L.sh + off, L.sz, some I.size⟩) (i := s3.nx) 0 (len + n) (cap := len + n) (cap' := cap') Ren.put_self (.inr ⟨I.size, rfl, hin, by dsimp only; omega⟩)
                                  simpa using this
                            · obtain ⟨newCap, m1, m2⟩ := grow _ _ old' new2 rfl hin (by simpa [Builtin.firstCells] using e1) g4d
                              rw [m2]
                              have rk : Rel N0 b0 w0 ρ s3.h w.drew := by
                                rw [k6, hs9]
                                exact rd.kill k2 fun x hx => by rw [AObj.seal_of_kid hx] at c5; cases c5
                              have e2' := e2
                              obtain ⟨ρ', p1, p2, p3⟩ := xgrow_new (rest := (Builtin.zeroCells z.cells (newCap - (len + n))).toList) rk (e2'.append g5d) h' m1 (hrest old' new2 newCap (by rw [e2.length]; exact hol) hnl m1)
                              exact ⟨ρ', _, _, rfl, p1, p2, p3⟩
                        split at h
                        case h_2 => exact move hs2 h
                        case h_1 =>
                          obtain ⟨o, s3, j1, h9⟩ := X.bind_some h
                          clear h
                          obtain ⟨j2, j3, j4⟩ := X.rd_some j1
                          rw [hs2, k2] at j2
                          cases j2
                          split at h9
                          case h_2 => exact move (j3.trans hs2) h9
                          case h_1 hko =>
                            simp only [keepO, Bool.and_eq_true] at hko
                            have z1 := Nat.eq_of_beq_eq_true hko.1.1
                            have z2 := Nat.eq_of_beq_eq_true hko.1.2
                            have z3 := Nat.eq_of_beq_eq_true hko.2
                            subst z2
                            subst z3
                            clear move
                            unfold xkeep at h9
                            obtain ⟨_, s4, j5, h10⟩ := X.bind_some h9
                            clear h9
                            obtain ⟨q1, q2, q3, q4⟩ := xkillOf_ok j5
                            obtain ⟨q, s5, j6, h8⟩ := X.bind_some h10
                            clear h10
                            have hq := nxt_some j6
                            obtain ⟨rfl, rfl⟩ := hq
                            obtain ⟨o5, s6, j7, h⟩ := X.bind_some h8
                            clear h8
                            obtain ⟨j8, j9, j10⟩ := X.rd_some j7
                            split at h
                            case h_2 => cases h
                            case h_1 c5 t5 f5 f15 k5 =>
                            split at h
                            case h_2 => cases h
                            case h_1 hc =>
                              have hi4 : s5.h.get i = some (.cells c t f0 0 (some k)) := by
                                rcases q2 i with e | e
                                · rw [e, j3, hs2, k2]
                                · rw [j8] at e; cases e
                              rw [hi4] at j8
                              cases j8
                              simp only [Bool.and_eq_true] at hc
                              have c1 := Nat.eq_of_beq_eq_true hc.1.1.1.2
                              have c2 := Nat.eq_of_beq_eq_true hc.1.1.2
                              have c3 := Nat.le_of_ble_eq_true hc.1.2
                              have c4 := Nat.le_of_ble_eq_true hc.2
                              subst c1
                              subst c2
                              rw [fN_eq] at h
                              obtain ⟨_, s7, j11, h'⟩ := X.bind_some h
                              clear h
                              obtain ⟨_, j12, j13⟩ := X.wrt_some j11
                              have hs4 : s3.h = s.h := j3.trans hs2
                              have r4 : ∀ {W : World}, Rel N0 b0 w0 ρ s.h W → Rel N0 b0 w0 ρ s7.h W := fun r => by
                                rw [j12, j9]
                                exact (q4 (hs4 ▸ r)).reseal hi4 fun k hk => .inr (q1 k hk)
                              have hi7 : s7.h.get i = some (.cells c t (big + 1 + s5.nx) 0 (some I.size)) := by rw [j12, T.get_set, if_pos rfl]
                              have hn7 : s7.nx = s5.nx := j13.trans j10
                              have hcl : List.take (len * I.size) (List.drop 0 c) = c := by rw [List.drop_zero, ← z1, List.take_length]
                              rw [hcl] at hol
                              obtain ⟨old', e1, e2⟩ := run_cells (P := P) hlived (by rw [hcl]; exact hol)
                              rw [hcl] at e2
                              by_cases hin : len + n ≤ cap'
                              · rw [hgo _ cap' rfl, if_pos hin]
                                have hroom : L.sh + cap' * I.size ≤ L.sz := by
                                  rcases hok with e | ⟨k, e, _, e4⟩
                                  · omega
                                  · rw [hlive.1] at e; cases e; simpa using e4
                                obtain ⟨q0, cs, el, fr, p1, p2, p3, p4, p5, p6, p7⟩ := id hlive
                                have hnl' : new'.length = n * I.size := by rw [g5.length]; exact xfirst_len hy g1 hn
                                have hmul := Nat.mul_le_mul_right I.size hin
                                rw [Nat.add_mul] at hmul
                                have hrun := run_storeCells_put (P := P) (b := L.blk) (el := el) (fr := fr) (L.sh + (0 + len * I.size)) new' 0 w cs p1 (oneL_rel g5 hone)
                                  (by omega) (fun j j1 j2 ⟨j3, j4⟩ => by have := p7 j j3 j4 (by omega) (by omega); omega)
                                have ha : (⟨L.blk, L.sh, none⟩ : Addr).add (len * I.size) = ⟨L.blk, L.sh + (0 + len * I.size), none⟩ := by rw [add_none, Nat.zero_add]
                                simp only [Nat.add_zero] at hrun
                                simp only [Nat.add_zero, ha, hrun, Result.andThen_ok]
                                unfold xgrow at h'
                                rw [fL_eq] at h'
                                obtain ⟨j, s8, h1, h⟩ := X.bind_some h'
                                clear h'
                                obtain ⟨rfl, h2, h3, _⟩ := X.new_some h1
                                split at h
                                case h_2 => cases h
                                case h_1 hn0 =>
                                  have hn0 := Nat.le_of_ble_eq_true hn0
                                  obtain ⟨rfl, rfl⟩ := X.pure_some h
                                  rw [hn7] at h2 h3 hn0 ⊢
                                  have hlN : L = ⟨L.blk, L.sh, L.sz, some I.size⟩ := by rw [← q0]
                                  have hle : ρ.le (ρ.put s5.nx L) := Ren.le_put ((r4 r).new _ hn0 h2)
                                  refine ⟨ρ.put s5.nx L, _, _, rfl, hle, ?_, ?_⟩
                                  · rw [h3]
                                    have hsz : cs.toList.length = L.sz := by rw [Array.length_toList]; exact p3
                                    refine (r4 r).graft c3 hi7 hL hn0 h2 (.cells ⟨cs.toList.take (L.sh + (0 + len * I.size)) ++ new' ++ cs.toList.drop (L.sh + (0 + len * I.size) + new'.length)⟩ el fr) _ rfl (by simp [AObj.len]) ?_ ?_
                                    · refine ⟨q0, ⟨cs.toList.take (L.sh + (0 + len * I.size)) ++ new' ++ cs.toList.drop (L.sh + (0 + len * I.size) + new'.length)⟩, el, fr, ?_, p2, ?_, fun x => (by cases x), ?_, ?_, ?_⟩
                                      · simp [(Array.getElem?_eq_some_iff.1 p1).1]
                                      · simp; omega
                                      · have := g5.length
                                        rw [List.length_append]
                                        omega
                                      · have l1 : (c ++ new).length = c.length + new'.length := by rw [List.length_append, g5.length]
                                        rw [l1]
                                        have e5 : List.take (c.length + new'.length) (List.drop L.sh (cs.toList.take (L.sh + (0 + len * I.size)) ++ new' ++ cs.toList.drop (L.sh + (0 + len * I.size) + new'.length))) =
                                            List.take c.length (List.drop L.sh cs.toList) ++ new' := by
                                          apply List.ext_getElem?
                                          intro x
                                          simp only [List.getElem?_take, List.getElem?_drop, List.getElem?_append, List.length_append, List.length_take, List.length_drop]
                                          repeat' split
                                          all_goals first | rfl | (exfalso; omega) | (congr 1; omega) | exact (List.getElem?_eq_none (by omega)).symm
                                        rw [e5]
                                        exact (p6.append g5).mono hle
                                      · intro j j1 j2 j3 j5
                                        have := p7 j j1 j2 j3 j5
                                        omega
                                    · intro M u m1 m2 m3 m4 hu
                                      cases u with
                                      | cells cu tu fu0 fu1 lou =>
                                        obtain ⟨u0, cs', el', fr', u1, u2, u3, u4, u5, u6, u7⟩ := hu
                                        rw [m1, p1] at u1
                                        cases u1
                                        have m3 : cu.length ≤ c.length := m3
                                        refine ⟨u0, ⟨cs.toList.take (L.sh + (0 + len * I.size)) ++ new' ++ cs.toList.drop (L.sh + (0 + len * I.size) + new'.length)⟩, el, fr, ?_, p2, ?_, u4, u5, ?_, u7⟩
                                        · simp [m1, (Array.getElem?_eq_some_iff.1 p1).1]
                                        · simp; omega
                                        · have e6 : List.take cu.length (List.drop M.sh (cs.toList.take (L.sh + (0 + len * I.size)) ++ new' ++ cs.toList.drop (L.sh + (0 + len * I.size) + new'.length))) = List.take cu.length (List.drop M.sh cs.toList) := by
                                            rw [m2]
                                            apply List.ext_getElem?
                                            intro x
                                            simp only [List.getElem?_take, List.getElem?_drop, List.getElem?_append, List.length_append, List.length_take, List.length_drop]
                                            repeat' split
                                            all_goals first | rfl | (exfalso; omega) | (congr 1; omega) | exact (List.getElem?_eq_none (by omega)).symm
                                          rw [e6]
                                          exact u6.mono hle
                                      | _ => cases m4
                                  · have := VRel.slice (ρ := ρ.put s5.nx L) (i := s5.nx) 0 (len + n) (cap := len + n) (cap' := cap') Ren.put_self (.inr ⟨I.size, q0, hin, by omega⟩)
                                    simpa using this
                              · obtain ⟨newCap, m1, m2⟩ := grow _ _ old' new2 rfl hin (by simpa [Builtin.firstCells] using e1) g4d
                                rw [m2]
                                obtain ⟨ρ', p1, p2, p3⟩ := xgrow_new (rest := (Builtin.zeroCells z.cells (newCap - (len + n))).toList) (r4 rd) (e2.append g5d) h' m1 (hrest old' new2 newCap (by rw [e2.length]; exact hol) hnl m1)
                                exact ⟨ρ', _, _, rfl, p1, p2, p3⟩
                · cases h'
/-- Zeros appended to nil. -/
def xmakeN (P : Program) (N0 : Nat) (st : TypeId) (s x : Value) : X Value := match P.underlying st with
  | some (.slice e) => match s, x with
    | .slice none 0 0, .int .i64 (.ofNat n) => match P.info? e with
      | some I => match I.zero with
        | some z => match Nat.beq (cellsOf z).length I.size && plainL (cellsOf z) && Nat.ble 1 n && Nat.ble 1 I.size && Nat.ble n 1048576 && Nat.ble I.bytes 1048576 with
          | true => fL (repL (cellsOf z) n) fun vs => xgrow N0 vs e 0 0 I.size n
          | false => X.fail
        | none => X.fail
      | none => X.fail
    | _, _ => X.fail
  | _ => X.fail
theorem xmakeN_ok {st xt ty : TypeId} {k : IntKind} {x x' y y' v : Value} {s s' : St} (hxt : P.underlying xt = some (.int k)) (r : Rel N0 b0 w0 ρ s.h w) (hx : VRel ρ x x') (hy : VRel ρ y y') (h : (xmakeN P N0 st x y).run s = some (v, s')) :
    Good N0 b0 w0 ρ s' v ((Builtin.append_ #[st, xt] ty #[x', y']).run P w) := by
  unfold xmakeN at h
  split at h
  case h_2 => cases h
  case h_1 e hd =>
    split at h
    case h_2 => cases h
    case h_1 n =>
      cases hx
      cases hy
      split at h
      case h_2 => cases h
      case h_1 I hI =>
        split at h
        case h_2 => cases h
        case h_1 z hz =>
          split at h
          case h_2 => cases h
          case h_1 hc =>
            rw [fL_eq] at h
            simp only [Bool.and_eq_true] at hc
            have c1 := Nat.eq_of_beq_eq_true hc.1.1.1.1.1
            have c2 := hc.1.1.1.1.2
            have c3 := Nat.le_of_ble_eq_true hc.1.1.1.2
            have c4 := Nat.le_of_ble_eq_true hc.1.1.2
            have c5 := Nat.le_of_ble_eq_true hc.1.2
            have c6 := Nat.le_of_ble_eq_true hc.2
            have hzs : z.cells.size = I.size := by rw [← c1, ← cellsOf_eq]; simp
            have hw : IntKind.i64.wrap (Int.ofNat n) = (n : Int) := wrap_small _ (by simp only [Int.ofNat_eq_natCast]; omega) (by simp only [Int.ofNat_eq_natCast]; omega)
            have hnl : ¬ ((n : Int) < 0) := by omega
            have hb1 : ¬ ((n : Int) * (I.bytes : Int) > 2 ^ 48) := by
              have h2 := Nat.mul_le_mul c5 c6
              rw [← Int.natCast_mul]
              generalize n * I.bytes = q at h2 ⊢
              omega
            have hnz : ¬ (n * I.size = 0) := by
              have := Nat.mul_le_mul c3 c4
              omega
            have hnc := nextcap_le (need := 0 + n) (cap := 0) (by omega)
            have hb : ¬ (Builtin.nextslicecap (0 + n) 0 * I.bytes > 2 ^ 48) := by
              have h1 : Builtin.nextslicecap (0 + n) 0 ≤ 2 * 1048576 + 512 := by omega
              have := Nat.mul_le_mul h1 c6
              omega
            have hzr : ¬ (((0 + n : Nat) : Int) > IntKind.i64.max) := by
              have : IntKind.i64.max = 9223372036854775807 := rfl
              rw [this]; omega
            have rd : Rel N0 b0 w0 ρ s.h w.drew := r.same (fun _ => rfl) rfl rfl rfl
            have hcap : 0 + n ≤ Question.cut (.appendCap (0 + n) 0 e) (w.tape w.drawn (.appendCap (0 + n) 0 e)) := Nat.le_add_right _ _
            generalize hq : Question.cut (.appendCap (0 + n) 0 e) (w.tape w.drawn (.appendCap (0 + n) 0 e)) = newCap at hcap
            have hlen : (repL (cellsOf z) n).length + (Builtin.zeroCells z.cells (newCap - (0 + n))).toList.length = newCap * I.size := by
              rw [repL_length, c1, zeroCells_length, hzs, Nat.sub_mul, Nat.zero_add]
              have := Nat.mul_le_mul_right I.size hcap
              rw [Nat.zero_add] at this
              omega
            obtain ⟨ρ', p1, p2, p3⟩ := xgrow_new (rest := (Builtin.zeroCells z.cells (newCap - (0 + n))).toList) rd (VRels.plain (repL_plain c2 n)) h (by omega) hlen
            refine ⟨ρ', _, _, ?_, p1, p2, by simpa using p3⟩
            have hzc : (Builtin.zeroCells z.cells n).toList = repL (cellsOf z) n := by rw [repL_zero, cellsOf_eq]
            have hgt : ¬ (0 + n ≤ 0) := by omega
            have hasI : (asInt (.int .i64 (.ofNat n))).run P w = .ok (.ofNat n) w := rfl
            have hti : ∀ w : World, (typeInfo e).run P w = .ok I w := fun w => by simp [typeInfo, hI]
            unfold Builtin.append_
            simp only [List.getElem?_toArray, List.getElem?_cons_zero, List.getElem?_cons_succ, Sem.run_bind, run_underlying hd, run_underlying hxt, Result.andThen_ok, run_sizeOf' hI, Sem.run_pure, if_true, hasI, hw, if_neg hnl, hti, if_neg hb1, Int.toNat_natCast, if_neg hgt, true_or, and_true, if_neg hzr, if_neg hb, run_choose, hq]
            have hng : (!true) = false := rfl
            have hfc : ∀ w : World, (Builtin.firstCells I.size 0 (.slice none 0 0)).run P w = .ok #[] w := fun w => by simp [Builtin.firstCells]
            simp only [Question.forced, Bool.false_eq_true, World.drew_eq, hng, if_neg hnz, run_askRoom, hfc, run_zeroValue' hI hz, Sem.run_bind, Sem.run_pure, Result.andThen_ok, hti, hq, run_newRow, if_false]
            congr 3
            · exact Nat.zero_add n
            · rw [← hzc]; congr 1
              apply Array.toList_inj.1
              simp
def xappend (P : Program) (N0 : Nat) (st xt : TypeId) (s x : Value) : X Value := match P.underlying xt with
  | some (.int _) => xmakeN P N0 st s x
  | _ => xappendL P N0 st xt s x
theorem xappend_ok {st xt ty : TypeId} {x x' y y' v : Value} {s s' : St} (r : Rel N0 b0 w0 ρ s.h w) (hx : VRel ρ x x') (hy : VRel ρ y y') (h : (xappend P N0 st xt x y).run s = some (v, s')) :
    Good N0 b0 w0 ρ s' v ((Builtin.append_ #[st, xt] ty #[x', y']).run P w) := by
  unfold xappend at h
  split at h
  · exact xmakeN_ok ‹_› r hx hy h
  · exact xappendL_ok r hx hy h
end
end Go.Rx
