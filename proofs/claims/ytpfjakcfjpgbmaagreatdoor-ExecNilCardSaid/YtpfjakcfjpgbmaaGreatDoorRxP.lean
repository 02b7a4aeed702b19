/- Field, index, slice, build, nil tests, conversions: what they give, and that the real operations give the same. -/
import Derived.Test.YtpfjakcfjpgbmaaGreatDoorRxE
namespace Go.Rx
set_option linter.unusedVariables false
set_option linter.unusedSimpArgs false
noncomputable section
variable {P : Program} {ρ : Ren} {w : World}

/-! ### against nil -/
def nilAs (d : TypeDesc) (x y : Value) : Option Bool := match d, y, x with
  | .pointer _, .pointer none, .pointer a => some a.isNone
  | .slice _, .slice none 0 0, .slice none _ c => some (Nat.beq c 0)
  | .slice _, .slice none 0 0, .slice (some _) _ _ => some false
  | .map .., .map none, .map r => some r.isNone
  | .func .., .nilFunc, .nilFunc => some true
  | .func .., .nilFunc, .func .. => some false
  | .interface _, .nilIface, .nilIface => some true
  | .interface _, .nilIface, .iface .. => some false
  | _, _, _ => none
def isConst : Operand → Bool
  | .const _ => true
  | _ => false
theorem nilAs_ok {t : TypeId} {d : TypeDesc} {x x' y y' : Value} {b : Bool} (hd : P.underlying t = some d) (hx : VRel ρ x x') (hy : VRel ρ y y') (h : nilAs d x y = some b) (op : BinOp) (hop : op = .eql ∨ op = .neq) (xo yo : Operand) (hc : isConst yo = true) :
    (do eqGuard op t xo yo x' y'; binOp op t x' y' : Sem Value).run P w = .ok (.bool (if op = .eql then b else !b)) w := by
  have hyc : ∃ c, yo = .const c := by cases yo <;> simp [isConst] at hc; exact ⟨_, rfl⟩
  obtain ⟨c, rfl⟩ := hyc
  obtain ⟨N, e⟩ : ∃ N, ∀ X Y, Op.equal t X Y = Op.equalIn (N + 1) t X Y := ⟨9999, fun _ _ => rfl⟩
  unfold nilAs at h
  split at h <;> first | cases h | skip
  all_goals cases hy
  all_goals cases hx
  all_goals rcases hop with rfl | rfl
  all_goals simp only [eqGuard, Sem.run_bind, Sem.run_pure, Result.andThen_ok, binOp, e, Op.equalIn, run_underlying hd]
  all_goals first | (simp; done) | (simp; rfl)

/-! ### two truths, two structs of plain fields -/
def eq1 : Option TypeDesc → Option Value → Option Value → Option Bool
  | some (.int _), some (.int k a), some (.int k' b) => match kEq k k' with
    | true => fB (eqI a b) some
    | false => none
  | some .string, some (.string a), some (.string b) => fB (eqL a.data.toList b.data.toList) some
  | some .bool, some (.bool a), some (.bool b) => fB (a == b) some
  | _, _, _ => none
def eqFs (P : Program) (xs ys : List Value) : List Field → Option Bool
  | [] => some true
  | f :: fs => match f.name == "_" with
    | true => none
    | false => match eq1 (P.underlying f.type) xs[f.offset]? ys[f.offset]? with
      | some true => eqFs P xs ys fs
      | some false => some false
      | none => none
def eqAs (P : Program) (t : TypeId) (x y : Value) : Option Bool := match P.underlying t, x, y with
  | some .bool, .bool a, .bool b => fB (a == b) some
  | some (.struct fs), .agg xs, .agg ys => match P.stoodInHeld t || P.eqGuardType P.depth t with
    | true => none
    | false => eqFs P xs.toList ys.toList fs.toList
  | _, _, _ => none
theorem eq1_ok {ft : TypeId} {x y x' y' : Value} {b : Bool} (h : eq1 (P.underlying ft) (some x) (some y) = some b) (hx : VRel ρ x x') (hy : VRel ρ y y') (N : Nat) : (Op.equalIn (N + 1) ft x' y').run P w = .ok b w ∧ ∀ d, P.underlying ft = some d → isAggD d = false := by
  unfold eq1 at h
  split at h
  · rename_i hd e1 e2
    cases e1; cases e2
    split at h
    · rename_i hk
      have := kEq_eq hk
      subst this
      rw [fB_eq, eqI_eq] at h
      cases h
      cases hx; cases hy
      exact ⟨run_equalIn_int w N ft _ _ _ _ hd, fun d e => by rw [hd] at e; cases e; rfl⟩
    · cases h
  · rename_i hd e1 e2
    cases e1; cases e2
    rw [fB_eq, eqL_eq] at h
    cases h
    cases hx; cases hy
    exact ⟨by rw [run_equalIn_string w N ft _ _ hd, ByteArray.toList_eq, ByteArray.toList_eq], fun d e => by rw [hd] at e; cases e; rfl⟩
  · rename_i hd e1 e2
    cases e1; cases e2
    rw [fB_eq] at h
    cases h
    cases hx; cases hy
    exact ⟨run_equalIn_bool' w N ft _ _ hd, fun d e => by rw [hd] at e; cases e; rfl⟩
  · cases h
theorem eqFs_ok {xs ys xs' ys' : List Value} (hx : VRels ρ xs xs') (hy : VRels ρ ys ys') (N : Nat) : ∀ {fs : List Field} {b : Bool}, eqFs P xs ys fs = some b → (Op.eqFields (N + 1) ⟨xs'⟩ ⟨ys'⟩ fs).run P w = .ok b w
  | [], b, h => by cases h; rfl
  | f :: fs, b, h => by
    unfold eqFs at h
    split at h
    · cases h
    · rename_i hn
      have hn : f.name ≠ "_" := by simpa using hn
      cases ex : xs[f.offset]? with
      | none => rw [ex] at h; cases P.underlying f.type <;> simp [eq1] at h
      | some x =>
        cases ey : ys[f.offset]? with
        | none =>
          have hno : eq1 (P.underlying f.type) (some x) none = none := by
            cases P.underlying f.type with
            | none => rfl
            | some d => cases d <;> cases x <;> rfl
          rw [ex, ey, hno] at h
          cases h
        | some y =>
          obtain ⟨x', gx, rx⟩ := hx.get ex
          obtain ⟨y', gy, ry⟩ := hy.get ey
          rw [ex, ey] at h
          have go : ∀ c, eq1 (P.underlying f.type) (some x) (some y) = some c → (Op.eqFields (N + 1) ⟨xs'⟩ ⟨ys'⟩ (f :: fs)).run P w = if c then (Op.eqFields (N + 1) ⟨xs'⟩ ⟨ys'⟩ fs).run P w else .ok false w := fun c hc => by
            obtain ⟨h1, h2⟩ := eq1_ok (w := w) hc rx ry N
            have hd : ∃ d, P.underlying f.type = some d := by
              unfold eq1 at hc
              split at hc <;> first | exact ⟨_, ‹_›⟩ | cases hc
            obtain ⟨d, hd⟩ := hd
            have hag := run_isAgg (P := P) hd w
            rw [h2 d hd] at hag
            have px : (part f.type ⟨xs'⟩ f.offset).run P w = .ok x' w := by simp [part, hag, gx]
            have py : (part f.type ⟨ys'⟩ f.offset).run P w = .ok y' w := by simp [part, hag, gy]
            simp only [Op.eqFields, hn, ne_eq, not_false_eq_true, if_true, Sem.run_bind, px, py, Result.andThen_ok, h1]
            cases c <;> simp
          split at h
          · rename_i hc
            rw [go _ hc]
            simp only [if_true]
            exact eqFs_ok hx hy N h
          · rename_i hc
            cases h
            rw [go _ hc]
            rfl
          · cases h
theorem eqAs_ok {t : TypeId} {x x' y y' : Value} {b : Bool} (hx : VRel ρ x x') (hy : VRel ρ y y') (h : eqAs P t x y = some b) (op : BinOp) (hop : op = .eql ∨ op = .neq) (xo yo : Operand) :
    (do eqGuard op t xo yo x' y'; binOp op t x' y' : Sem Value).run P w = .ok (.bool (if op = .eql then b else !b)) w := by
  obtain ⟨N, e⟩ : ∃ N, ∀ X Y, Op.equal t X Y = Op.equalIn (N + 1 + 1) t X Y := ⟨9998, fun _ _ => rfl⟩
  unfold eqAs at h
  split at h
  · rename_i hd
    rw [fB_eq] at h
    cases h
    cases hx; cases hy
    have := fun a b => run_equalIn_bool' (P := P) w (N + 1) t a b hd
    rcases hop with rfl | rfl <;> simp [eqGuard, binOp, e, this]
  · rename_i fs xs ys hd
    split at h
    · cases h
    · rename_i hg
      rw [Bool.or_eq_false_iff] at hg
      cases hx with
      | agg hx =>
        rename_i xs'
        cases hy with
        | agg hy =>
          rename_i ys'
          have hd' : P.underlying t = some (.struct (P.fieldsOf t)) := by simp [Program.fieldsOf, hd]
          have hfs : (P.fieldsOf t) = fs := by simp [Program.fieldsOf, hd]
          have h1 := run_equalIn_struct (P := P) w (N + 1) t xs' ys' hd' hg.1
          rw [hfs] at h1
          have h2 := eqFs_ok (w := w) hx hy N h
          have h3 : (Op.equalIn (N + 1 + 1) t (.agg xs') (.agg ys')).run P w = .ok b w := h1.trans h2
          rcases hop with rfl | rfl <;> simp [eqGuard, binOp, e, h3, hg.2]
  · cases h

/-! ### one operand -/
def xun (op : UnOp) (x : Value) : Option Value := match op, x with
  | .neg, .int k n => mkI k (wr k (0 - n))
  | .not, .bool b => mkB (!b)
  | .xor, .int k n => mkI k (k.wrap (BitVec.ofInt k.bits (if k.signed then -1 else k.max) ^^^ BitVec.ofInt k.bits n).toNat)
  | _, _ => none
theorem xun_ok {op : UnOp} {x v : Value} (h : xun op x = some v) : (Op.unary op x).run P w = .ok v w := by
  unfold xun at h
  split at h
  · rw [mkI_some h, wr_eq]; simp [Op.unary, Op.intArith]
  · rw [mkB_some h]; simp [Op.unary]
  · rw [mkI_some h]; simp [Op.unary, Op.intBits]
  · cases h
theorem xun_plain {op : UnOp} {x x' v : Value} (hx : VRel ρ x x') (h : xun op x = some v) : x' = x := by
  unfold xun at h
  split at h <;> first | cases h | (cases hx; rfl)
theorem xun_rel {op : UnOp} {x v : Value} (h : xun op x = some v) : VRel ρ v v := by
  unfold xun at h
  split at h
  · rw [mkI_some h]; exact .int ..
  · rw [mkB_some h]; exact .bool _
  · rw [mkI_some h]; exact .int ..
  · cases h
theorem xbin_plain {op : BinOp} {x x' y y' v : Value} (hx : VRel ρ x x') (hy : VRel ρ y y') (h : xbin op x y = some v) : x' = x ∧ y' = y := by
  unfold xbin at h
  split at h
  · cases hx; cases hy; exact ⟨rfl, rfl⟩
  · cases hx; cases hy; exact ⟨rfl, rfl⟩
  · cases h
theorem xbin_rel {op : BinOp} {x y v : Value} (h : xbin op x y = some v) : VRel ρ v v := by
  have hi : ∀ {k n}, mkI k n = some v → VRel ρ v v := fun h => by rw [mkI_some h]; exact .int ..
  have hb : ∀ {b}, mkB b = some v → VRel ρ v v := fun h => by rw [mkB_some h]; exact .bool _
  unfold xbin at h
  split at h
  · split at h
    · split at h
      · exact hi h
      · cases h
    · split at h
      · exact hi h
      · cases h
    · split at h
      · cases h
      · split at h
        all_goals first | exact hi h | exact hb h | cases h | (split at h <;> first | exact hi h | cases h)
  · split at h
    · split at h
      · rw [fS_eq] at h; cases h; exact .str _
      · cases h
    all_goals first | exact hb h | cases h
  · cases h
def xconv (P : Program) (src dst : TypeId) (x : Value) : Option Value := match P.underlying src, P.underlying dst, x with
  | some _, some (.int k), .int _ n => mkI k (wr k n)
  | some .string, some .string, .string s => some (.string s)
  | _, _, _ => none
theorem xconv_ok {src dst : TypeId} {x x' v : Value} (hx : VRel ρ x x') (h : xconv P src dst x = some v) : (convert src dst x').run P w = .ok v w ∧ VRel ρ v v := by
  unfold xconv at h
  split at h
  · rename_i hs hd
    cases hx
    rw [mkI_some h, wr_eq]
    exact ⟨by simp [convert, run_underlying hs, run_underlying hd, Conv.intToInt], .int ..⟩
  · rename_i hs hd
    cases hx
    cases h
    exact ⟨by simp [convert, run_underlying hs, run_underlying hd], .str _⟩
  · cases h

/-! ### parts of a struct -/
def xpart (P : Program) (t : TypeId) (cs : List Value) (off : Nat) : Option Value := match P.underlying t with
  | some d => match isAggD d with
    | true => match P.info? t with
      | some I => fL ((cs.drop off).take I.size) fun l => some (.agg ⟨l⟩)
      | none => none
    | false => cs[off]?
  | none => none
theorem xpart_ok {t : TypeId} {cs cs' : List Value} {off : Nat} {v : Value} (hc : VRels ρ cs cs') (h : xpart P t cs off = some v) : ∃ v', (part t ⟨cs'⟩ off).run P w = .ok v' w ∧ VRel ρ v v' := by
  unfold xpart at h
  split at h
  case h_2 => cases h
  case h_1 d hd =>
    split at h
    · rename_i hag
      split at h
      case h_2 => cases h
      case h_1 I hI =>
        rw [fL_eq] at h
        cases h
        refine ⟨.agg ((⟨cs'⟩ : Array Value).extract off (off + I.size)), by simp [part, run_isAgg hd, hag, run_sizeOf' hI], .agg ?_⟩
        simpa using (hc.drop off).take I.size
    · rename_i hag
      obtain ⟨v', e, hv⟩ := hc.get h
      exact ⟨v', by simp [part, run_isAgg hd, hag, e], hv⟩
def xfield (P : Program) (t : TypeId) (x : Value) (f : Nat) : Option Value := match P.underlying t, x with
  | some (.struct fs), .agg cs => match fs.toList[f]? with
    | some fd => xpart P fd.type cs.toList fd.offset
    | none => none
  | _, _ => none
theorem xfield_ok {t : TypeId} {x x' v : Value} {f : Nat} (hx : VRel ρ x x') (h : xfield P t x f = some v) : ∃ v', (Instr.field t x' f).run P w = .ok v' w ∧ VRel ρ v v' := by
  unfold xfield at h
  split at h
  case h_2 => cases h
  case h_1 fs cs hd =>
    split at h
    case h_2 => cases h
    case h_1 fd hf =>
      cases hx with
      | agg hc =>
        obtain ⟨v', e, hv⟩ := xpart_ok (w := w) hc h
        refine ⟨v', ?_, hv⟩
        have hf' : fs[fd.offset - fd.offset + f]? = some fd := by simpa using hf
        simp only [Nat.sub_self, Nat.zero_add] at hf'
        simp [Instr.field, run_underlying hd, hf', asAgg]
        exact e
def xfieldAddr (P : Program) (t : TypeId) (x : Value) (f : Nat) : Option Value := match P.underlying t, x with
  | some (.struct fs), .pointer (some ⟨i, off, none⟩) => match fs.toList[f]? with
    | some fd => match P.info? fd.type with
      | some I => match I.size with
        | 0 => none
        | _ + 1 => fN (off + fd.offset) fun n => some (.pointer (some ⟨i, n, none⟩))
      | none => none
    | none => none
  | _, _ => none
theorem add_none (b off n : Nat) : (⟨b, off, none⟩ : Addr).add n = ⟨b, off + n, none⟩ := by unfold Addr.add; split <;> simp_all
theorem xfieldAddr_ok {t : TypeId} {x x' v : Value} {f : Nat} (hx : VRel ρ x x') (h : xfieldAddr P t x f = some v) : ∃ v', (Instr.fieldAt t x' f).run P w = .ok v' w ∧ VRel ρ v v' := by
  unfold xfieldAddr at h
  split at h
  case h_2 => cases h
  case h_1 fs i off hd =>
    split at h
    case h_2 => cases h
    case h_1 fd hf =>
      split at h
      case h_2 => cases h
      case h_1 I hI =>
        split at h
        · cases h
        · rename_i n hn
          rw [fN_eq] at h
          cases h
          cases hx with
          | ptr _ hL =>
            rename_i L
            refine ⟨_, ?_, .ptr _ hL⟩
            have hf' : fs[f]? = some fd := by simpa using hf
            simp [Instr.fieldAt, run_underlying hd, hf', Instr.sureAddr, fieldPlace, run_sizeOf' hI, hn, add_none, Nat.add_assoc]

/-! ### indexes -/
def toN : Int → Option Nat
  | .ofNat n => some n
  | .negSucc _ => none
theorem toN_some {n : Int} {m : Nat} (h : toN n = some m) : n = (m : Int) := by cases n <;> cases h; rfl
def xindexAddr (P : Program) (t : TypeId) (x i : Value) : Option Value := match i with
  | .int _ n => match toN n with
    | some m => match P.underlying t, x with
      | some (.slice e), .slice (some ⟨b, off, none⟩) len _ => match P.info? e, Nat.blt m len with
        | some I, true => fN (off + m * I.size) fun o => some (.pointer (some ⟨b, o, none⟩))
        | _, _ => none
      | some (.array len e), .pointer (some ⟨b, off, none⟩) => match P.info? e, Nat.blt m len with
        | some I, true => fN (off + m * I.size) fun o => some (.pointer (some ⟨b, o, none⟩))
        | _, _ => none
      | _, _ => none
    | none => none
  | _ => none
theorem blt_iff {m n : Nat} (h : Nat.blt m n = true) : m < n := Nat.le_of_ble_eq_true h
theorem xindexAddr_ok {t : TypeId} {x x' i i' v : Value} (hx : VRel ρ x x') (hi : VRel ρ i i') (h : xindexAddr P t x i = some v) : ∃ v', (Instr.indexAt t x' i').run P w = .ok v' w ∧ VRel ρ v v' := by
  unfold xindexAddr at h
  split at h
  case h_2 => cases h
  case h_1 k n =>
    cases hi
    split at h
    case h_2 => cases h
    case h_1 m hm =>
      have hm := toN_some hm
      subst hm
      split at h
      · rename_i hd
        split at h
        · rename_i I hI hb
          rw [fN_eq] at h
          cases h
          cases hx with
          | slice _ _ hL _ =>
            refine ⟨_, ?_, .ptr _ hL⟩
            have hlt := blt_iff hb
            simp [Instr.indexAt, asIntOf, run_underlying hd, hlt, run_sizeOf' hI, add_none, Nat.add_assoc]
        · cases h
      · rename_i hd
        split at h
        · rename_i I hI hb
          rw [fN_eq] at h
          cases h
          cases hx with
          | ptr _ hL =>
            refine ⟨_, ?_, .ptr _ hL⟩
            have hlt := blt_iff hb
            simp [Instr.indexAt, asIntOf, run_underlying hd, Instr.sureAddr, hlt, run_sizeOf' hI, add_none, Nat.add_assoc]
        · cases h
      · cases h
def xindex (P : Program) (t : TypeId) (x i : Value) : Option Value := match i with
  | .int _ n => match toN n with
    | some m => match P.underlying t, x with
      | some .string, .string s => match s.data.toList[m]? with
        | some b => fN b.toNat fun n => some (.int .u8 (.ofNat n))
        | none => none
      | some (.array len e), .agg cs => match P.info? e, Nat.blt m len with
        | some I, true => xpart P e cs.toList (m * I.size)
        | _, _ => none
      | _, _ => none
    | none => none
  | _ => none
theorem xindex_ok {t : TypeId} {x x' i i' v : Value} (hx : VRel ρ x x') (hi : VRel ρ i i') (h : xindex P t x i = some v) : ∃ v', (Instr.index t x' i').run P w = .ok v' w ∧ VRel ρ v v' := by
  unfold xindex at h
  split at h
  case h_2 => cases h
  case h_1 k n =>
    cases hi
    split at h
    case h_2 => cases h
    case h_1 m hm =>
      have hm := toN_some hm
      subst hm
      split at h
      · rename_i s hd
        split at h
        case h_2 => cases h
        case h_1 b hb =>
          rw [fN_eq] at h
          cases h
          cases hx
          refine ⟨_, ?_, .int ..⟩
          have hlt : m < s.size := by
            have := (List.getElem?_eq_some_iff.1 hb).1
            simpa using this
          have hb' : s[m]? = some b := by
            rw [getElem?_pos s m hlt]
            have := (List.getElem?_eq_some_iff.1 hb).2
            rw [← this]; rfl
          simp [Instr.index, asIntOf, run_underlying hd, hb']
      · rename_i cs hd
        split at h
        · rename_i I hI hb
          cases hx with
          | agg hc =>
            obtain ⟨v', e, hv⟩ := xpart_ok (w := w) hc h
            refine ⟨v', ?_, hv⟩
            have hlt := blt_iff hb
            simp [Instr.index, asIntOf, run_underlying hd, hlt, run_sizeOf' hI]
            exact e
        · cases h
      · cases h
end
end Go.Rx
