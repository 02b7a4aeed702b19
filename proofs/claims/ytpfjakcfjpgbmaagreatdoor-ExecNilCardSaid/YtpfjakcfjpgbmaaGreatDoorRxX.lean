/- One operation of the short run, and that the real one gives the same. -/
import Derived.Test.YtpfjakcfjpgbmaaGreatDoorRxN
namespace Go.Rx
set_option linter.unusedVariables false
set_option linter.unusedSimpArgs false
noncomputable section
variable {P : Program} {N0 b0 : Nat} {w0 : World} {ρ : Ren} {w : World}

def evs (ev : Env) : List Operand → Option (List Value)
  | [] => some []
  | x :: l => match ev x, evs ev l with
    | some v, some l => some (v :: l)
    | _, _ => none
def evp (ev : Env) : List (Nat × Operand) → Option (List (Nat × Value))
  | [] => some []
  | (i, x) :: l => match ev x, evp ev l with
    | some v, some l => some ((i, v) :: l)
    | _, _ => none
def evo (ev : Env) : Option Operand → Option (Option Value)
  | none => some none
  | some x => match ev x with
    | some v => some (some v)
    | none => none
def ERel (ρ : Ren) (ev : Env) (e' : Operand → Value) (l : List Operand) : Prop := ∀ x ∈ l, ∀ v, ev x = some v → VRel ρ v (e' x)
theorem evs_rel {ev : Env} {e' : Operand → Value} : ∀ {l : List Operand} {vs : List Value}, ERel ρ ev e' l → evs ev l = some vs → VRels ρ vs (l.map e')
  | [], _, _, h => by cases h; exact .nil
  | x :: l, vs, hr, h => by
    unfold evs at h
    split at h
    · rename_i v vs' h1 h2
      cases h
      exact .cons (hr x (by simp) v h1) (evs_rel (fun y hy => hr y (by simp [hy])) h2)
    · cases h
theorem evp_rel {ev : Env} {e' : Operand → Value} : ∀ {l : List (Nat × Operand)} {vs : List (Nat × Value)}, ERel ρ ev e' (l.map (·.2)) → evp ev l = some vs → Parts ρ vs (l.map fun (i, x) => (i, e' x))
  | [], _, _, h => by cases h; exact .nil
  | (i, x) :: l, vs, hr, h => by
    unfold evp at h
    split at h
    · rename_i v vs' h1 h2
      cases h
      exact .cons i (hr x (by simp) v h1) (evp_rel (fun y hy => hr y (by simp [hy])) h2)
    · cases h
theorem evo_rel {ev : Env} {e' : Operand → Value} {x : Option Operand} {v : Option Value} (hr : ERel ρ ev e' x.toList) (h : evo ev x = some v) : ORel ρ v (x.map e') := by
  cases x with
  | none => cases h; exact .inl ⟨rfl, rfl⟩
  | some x =>
    unfold evo at h
    dsimp only at h
    split at h
    · rename_i u h1
      cases h
      exact .inr ⟨u, e' x, rfl, rfl, hr x (by simp) u h1⟩
    · cases h

def isPtr : Value → Bool
  | .pointer (some _) | .slice (some _) _ _ | .map (some _) | .iface .. | .func (.func _) .. => true
  | _ => false
theorem isPtr_ok {v v' : Value} (h : VRel ρ v v') (hp : isPtr v = true) : isPtr v' = true := by
  cases h <;> first | rfl | (rename_i f _ _ _ _ _ _; cases f <;> first | rfl | cases hp) | exact hp

def xlen (P : Program) (t : TypeId) (x : Value) : X Value := match P.underlying t, x with
  | some .string, .string s => fN s.data.toList.length fun n => X.pure (.int .i64 (.ofNat n))
  | some (.slice _), .slice _ n _ => X.pure (.int .i64 (.ofNat n))
  | some (.array n _), .agg _ => X.pure (.int .i64 (.ofNat n))
  | some (.map _ _), .map (some i) => (X.rd i).bind fun
    | .map es _ => fN es.length fun n => X.pure (.int .i64 (.ofNat n))
    | _ => X.fail
  | _, _ => X.fail
theorem xlen_ok {t ty : TypeId} {x x' v : Value} {s s' : St} (r : Rel N0 b0 w0 ρ s.h w) (hx : VRel ρ x x') (h : (xlen P t x).run s = some (v, s')) : Good N0 b0 w0 ρ s' v ((Builtin.len_ #[t] ty #[x']).run P w) := by
  unfold xlen at h
  split at h
  · rename_i s1 hd
    rw [fN_eq] at h
    obtain ⟨rfl, rfl⟩ := X.pure_some h
    cases hx
    have : s1.data.toList.length = s1.size := Array.length_toList
    rw [this]
    refine ⟨ρ, w, .int .i64 s1.size, ?_, Ren.le_refl _, r, .int ..⟩
    simp [Builtin.len_, run_underlying hd, goInt]
  · rename_i hd
    obtain ⟨rfl, rfl⟩ := X.pure_some h
    cases hx <;> refine ⟨ρ, w, _, ?_, Ren.le_refl _, r, .int ..⟩ <;> simp [Builtin.len_, run_underlying hd, goInt]
  · rename_i hd
    obtain ⟨rfl, rfl⟩ := X.pure_some h
    refine ⟨ρ, w, _, ?_, Ren.le_refl _, r, .int ..⟩
    simp [Builtin.len_, run_underlying hd, goInt]
  · rename_i i hd
    obtain ⟨o, s1, g1, h'⟩ := X.bind_some h
    obtain ⟨g2, g3, _⟩ := X.rd_some g1
    cases hx with
    | map hL =>
      rename_i L
      obtain ⟨L2, u, hlive⟩ := r.obj i o g2
      rw [hL] at u
      cases u
      split at h'
      case h_2 => cases h'
      case h_1 es clk =>
        rw [fN_eq] at h'
        obtain ⟨rfl, rfl⟩ := X.pure_some h'
        obtain ⟨es', q1, q2, q3⟩ := hlive
        refine ⟨ρ, w, .int .i64 (es.length : Nat), ?_, Ren.le_refl _, g3 ▸ r, .int ..⟩
        have := q2.length
        simp at this
        simp [Builtin.len_, run_underlying hd, goInt, MapKept.run_getObj_map q1, this]
  · cases h
def xcap (P : Program) (t : TypeId) (x : Value) : X Value := match P.underlying t, x with
  | some (.slice _), .slice none 0 0 => X.pure (.int .i64 (.ofNat 0))
  | some (.slice _), .slice (some ⟨i, off, none⟩) _ n => (X.rdc i off 0).bind fun p => match p with
    | (_, _, _, _, none) => X.pure (.int .i64 (.ofNat n))
    | _ => X.fail
  | _, _ => X.fail
theorem xcap_ok {t ty : TypeId} {x x' v : Value} {s s' : St} (r : Rel N0 b0 w0 ρ s.h w) (hx : VRel ρ x x') (h : (xcap P t x).run s = some (v, s')) : Good N0 b0 w0 ρ s' v ((Builtin.cap_ #[t] ty #[x']).run P w) := by
  unfold xcap at h
  split at h
  · rename_i hd
    obtain ⟨rfl, rfl⟩ := X.pure_some h
    cases hx
    refine ⟨ρ, w, _, ?_, Ren.le_refl _, r, .int ..⟩
    simp [Builtin.cap_, run_underlying hd, goInt]
  · rename_i i off ln n hd
    obtain ⟨⟨l0, tt, f0, f1, lo⟩, s1, g1, h'⟩ := X.bind_some h
    obtain ⟨cc, g2, _, _, g3, _⟩ := X.rdc_some g1
    cases hx with
    | slice _ _ hL hok =>
      rename_i L cap'
      obtain ⟨L2, u, hlive⟩ := r.obj i _ g2
      rw [hL] at u
      cases u
      split at h'
      case h_2 => cases h'
      case h_1 heq =>
        cases heq
        obtain ⟨rfl, rfl⟩ := X.pure_some h'
        have : cap' = n := by
          rcases hok with e | ⟨k, e, _⟩
          · exact e
          · rw [hlive.1] at e; cases e
        subst this
        refine ⟨ρ, w, _, ?_, Ren.le_refl _, g3 ▸ r, .int ..⟩
        simp [Builtin.cap_, run_underlying hd, goInt]
  · cases h

def xmm (b : Builtin) (l : List Value) : Option Value := match b, l with
  | .min, [.int k a, .int k' c] => match kEq k k' with
    | true => match ltI c a with
      | true => some (.int k c)
      | false => some (.int k a)
    | false => none
  | .max, [.int k a, .int k' c] => match kEq k k' with
    | true => match ltI a c with
      | true => some (.int k c)
      | false => some (.int k a)
    | false => none
  | _, _ => none

/-- A comparison with nil. -/
def xnil (P : Program) (op : BinOp) (t : TypeId) (y : Operand) (a b : Value) : X Value := match P.underlying t, isConst y with
  | some d, true => match op with
    | .eql => match nilAs d a b with
      | some r => fB r fun r => X.pure (.bool r)
      | none => X.fail
    | .neq => match nilAs d a b with
      | some r => fB (!r) fun r => X.pure (.bool r)
      | none => X.fail
    | _ => X.fail
  | _, _ => X.fail
theorem xnil_ok {op : BinOp} {t : TypeId} {x y : Operand} {a a' b b' v : Value} {s s' : St} (r : Rel N0 b0 w0 ρ s.h w) (ra : VRel ρ a a') (rb : VRel ρ b b') (h : (xnil P op t y a b).run s = some (v, s')) :
    Good N0 b0 w0 ρ s' v ((do eqGuard op t x y a' b'; binOp op t a' b' : Sem Value).run P w) := by
  unfold xnil at h
  split at h
  case h_2 => cases h
  case h_1 d hd hcy =>
    split at h
    · split at h
      · rename_i rr hq
        rw [fB_eq] at h
        obtain ⟨rfl, rfl⟩ := X.pure_some h
        have := nilAs_ok (w := w) hd ra rb hq .eql (.inl rfl) x y hcy
        rw [this]
        exact Good.same r (.bool _)
      · cases h
    · split at h
      · rename_i rr hq
        rw [fB_eq] at h
        obtain ⟨rfl, rfl⟩ := X.pure_some h
        have := nilAs_ok (w := w) hd ra rb hq .neq (.inr rfl) x y hcy
        rw [this]
        exact Good.same r (.bool _)
      · cases h
    · cases h
def recvOk (d : TypeDesc) (pr : Bool) : Bool := match d with
  | .pointer _ => pr
  | _ => !pr
/-- The method of a value that an interface holds, where it is the value's own and takes it as it is. -/
def xmeth (P : Program) (t : TypeId) (name : String) : Option FuncId := match P.info? t, P.underlying t with
  | some I, some d => match I.methods.find? (·.name == name) with
    | some m => match m.path.toList, m.func with
      | [], some (f, pr) => match recvOk d pr with
        | true => some f
        | false => none
      | _, _ => none
    | none => none
  | _, _ => none
theorem xmeth_ok {t : TypeId} {name : String} {g : FuncId} (h : xmeth P t name = some g) (v : Value) (args : Array Value) (w : World) : (callMethod (.iface t v) name args).run P w = (callFunc g (#[v] ++ args)).run P w := by
  unfold xmeth at h
  split at h
  case h_2 => cases h
  case h_1 I d hI hd =>
    split at h
    case h_2 => cases h
    case h_1 m hm =>
      split at h
      case h_2 => cases h
      case h_1 f pr hp hf =>
        split at h
        case h_2 => cases h
        case h_1 hok =>
          cases h
          have hp' : m.path = #[] := Array.toList_eq_nil_iff.1 hp
          have hti : (typeInfo t).run P w = .ok I w := by simp [typeInfo, hI]
          have hrec : ∀ wr, (receiverAt t (.val v) pr wr).run P w = .ok v w := by
            intro wr
            unfold receiverAt
            simp only [Sem.run_bind, run_underlying hd, Result.andThen_ok]
            cases d <;> first
              | (have h1 : pr = true := hok; subst h1; simp [Place.get]; done)
              | (have h1 : pr = false := by simpa [recvOk] using hok
                 subst h1; simp [Place.get]; done)
          simp only [callMethod, Sem.run_bind, run_program, Result.andThen_ok, Sem.run_pure]
          rw [show P.types.size + Made.depth = (P.types.size + Made.depth - 1) + 1 from by have : 0 < Made.depth := by decide
                                                                                           omega]
          unfold method
          simp only [Sem.run_bind, hti, Result.andThen_ok, hm, hp', follow, Sem.run_pure, hf, hrec]
def ptrD : Option TypeDesc → Bool
  | some (.pointer _) => true
  | _ => false
/-- A method of a value that an interface holds, taken as a function: it is no nil pointer's. -/
def isMethV (P : Program) : Value → Bool
  | .func (.method name) ⟨.iface t _ :: _⟩ _ => (xmeth P t name).isSome && ptrD (P.underlying t)
  | _ => false
theorem nilAhead_ok {t : TypeId} {name : String} {g : FuncId} (h : xmeth P t name = some g) (hd0 : ptrD (P.underlying t) = true) (v : Value) (w : World) : (nilAhead (P.types.size + Made.depth) t v name).run P w = .ok (some false) w := by
  unfold xmeth at h
  split at h
  case h_2 => cases h
  case h_1 I d hI hd =>
    split at h
    case h_2 => cases h
    case h_1 m hm =>
      split at h
      case h_2 => cases h
      case h_1 f pr hp hf =>
        split at h
        case h_2 => cases h
        case h_1 hok =>
          cases h
          have hp' : m.path = #[] := Array.toList_eq_nil_iff.1 hp
          have hti : (typeInfo t).run P w = .ok I w := by simp [typeInfo, hI]
          rw [show P.types.size + Made.depth = (P.types.size + Made.depth - 1) + 1 from by have : 0 < Made.depth := by decide
                                                                                           omega]
          unfold nilAhead
          simp only [Sem.run_bind, hti, Result.andThen_ok, hm, hp', followBlind, Sem.run_pure, hf]
          cases pr with
          | true => rfl
          | false =>
            rw [hd] at hd0
            cases d <;> first | (cases hd0; done) | (cases hok; done)
theorem isMethV_ok {x x' : Value} (hx : VRel ρ x x') (h : isMethV P x = true) {dst : Option Tmp} {o : Operand} {e' : Operand → Value} (he : e' o = x') {ty : TypeId} {pos : String} {after : Array Edge} {guard : Option (Nat × Bool)} :
    (execOp e' { dst := dst, op := .nilCheck o, type := ty, pos := pos, after := after, guard := guard }).run P w = .ok (.value x') w := by
  unfold isMethV at h
  split at h
  case h_2 => cases h
  case h_1 name t u fs cs =>
    rw [Bool.and_eq_true] at h
    obtain ⟨g, hg⟩ := Option.isSome_iff_exists.1 h.1
    cases hx with
    | func _ ra rb =>
      rename_i a' b'
      obtain ⟨a'⟩ := a'
      cases ra with
      | cons h1 h2 =>
        cases h1 with
        | iface _ hu =>
          rename_i l' u'
          simp only [execOp, he]
          have e : (⟨.iface t u' :: l'⟩ : Array Value)[0]? = some (.iface t u') := by simp
          rw [e]
          simp only [Sem.run_bind, run_program, Result.andThen_ok, Sem.run_pure, nilAhead_ok hg h.2]
          rfl
/-- An operation that is no call of a function. -/
def xop (P : Program) (N0 : Nat) (ev : Env) (o : Oper) : X Value := match o.op with
  | .move x | .assign x => X.lift (ev x)
  | .pick c a b => match ev c with
    | some (.bool true) => X.lift (ev a)
    | some (.bool false) => X.lift (ev b)
    | _ => X.fail
  | .alloc t => xalloc P N0 t
  | .box t x => match ev x with
    | some v => xbox N0 t v
    | none => X.fail
  | .build t ps => match evp ev ps.toList with
    | some l => X.lift (xbuild P t l)
    | none => X.fail
  | .buildSlice t n ps => match evp ev ps.toList with
    | some l => xbuildSlice P N0 t n l
    | none => X.fail
  | .load t a => match ev a with
    | some v => xload P t v
    | none => X.fail
  | .store t a x => match ev a, ev x with
    | some v, some x => (xstore P N0 t v x).bind fun _ => X.pure undef
    | _, _ => X.fail
  | .nilCheck x => match ev x with
    | some v => match isPtr v || isMethV P v with
      | true => X.pure v
      | false => X.fail
    | none => X.fail
  | .binOp op t x y _ => match ev x, ev y with
    | some a, some b => match xbin op a b with
      | some v => X.pure v
      | none => match op, eqAs P t a b with
        | .eql, some r => fB r fun r => X.pure (.bool r)
        | .neq, some r => fB (!r) fun r => X.pure (.bool r)
        | op, _ => xnil P op t y a b
    | _, _ => X.fail
  | .unOp op _ x => match ev x with
    | some v => X.lift (xun op v)
    | none => X.fail
  | .convert a b x => match ev x with
    | some v => match xconv P a b v with
      | some u => X.pure u
      | none => xbytes P N0 a b v
    | none => X.fail
  | .makeInterface t x => match ev x, P.underlying t with
    | some v, some d => match d with
      | .interface _ => X.fail
      | _ => X.pure (.iface t v)
    | _, _ => X.fail
  | .makeFunc fn fs cs => match evs ev fs.toList, evs ev cs.toList with
    | some a, some b => X.pure (.func fn ⟨a⟩ ⟨b⟩)
    | _, _ => X.fail
  | .makeMap _ none => xmakeMap N0
  | .insert t m k x | .mapUpdate t m k x => match ev m, ev k, ev x with
    | some m, some k, some x => (xput P N0 t m k x).bind fun _ => X.pure undef
    | _, _, _ => X.fail
  | .lookup t m k ok => match ev m, ev k with
    | some m, some k => xlookup P t m k ok
    | _, _ => X.fail
  | .makeSlice t l c => match ev l, ev c with
    | some l, some c => xmakeSlice P N0 t l c
    | _, _ => X.fail
  | .slice t x lo hi mx => match ev x, evo ev lo, evo ev hi, evo ev mx with
    | some x, some lo, some hi, some mx => xslice P t x lo hi mx
    | _, _, _, _ => X.fail
  | .fieldAddr t x f => match ev x with
    | some v => X.lift (xfieldAddr P t v f)
    | none => X.fail
  | .field t x f => match ev x with
    | some v => X.lift (xfield P t v f)
    | none => X.fail
  | .indexAddr t x i => match ev x, ev i with
    | some x, some i => X.lift (xindexAddr P t x i)
    | _, _ => X.fail
  | .index t x i => match ev x, ev i with
    | some x, some i => X.lift (xindex P t x i)
    | _, _ => X.fail
  | .extract x i => match ev x with
    | some (.tuple vs) => X.lift vs.toList[i]?
    | _ => X.fail
  | .call ⟨.builtin b, args, ts⟩ => match evs ev args.toList, b, ts.toList with
    | some [x], .len, [t] => xlen P t x
    | some [x], .cap, [t] => xcap P t x
    | some [x, y], .append, [t, u] => xappend P N0 t u x y
    | some [x, y], .copy, [t, _] => xcopy P N0 t x y
    | some [x], .clear, [t] => xclear P N0 t x
    | some l, b, _ => X.lift (xmm b l)
    | _, _, _ => X.fail
  | _ => X.fail

def NRel (ρ : Ren) (v : Value) (n : Next) : Prop := (∃ v', n = .value v' ∧ VRel ρ v v') ∨ (n = .skip ∧ v = undef)
def GoodN (N0 b0 : Nat) (w0 : World) (ρ : Ren) (s' : St) (v : Value) (r : Result Next) : Prop :=
  ∃ ρ' w' n, r = .ok n w' ∧ ρ.le ρ' ∧ Rel N0 b0 w0 ρ' s'.h w' ∧ NRel ρ' v n
theorem Good.next {s' : St} {v : Value} {e : Sem Value} (h : Good N0 b0 w0 ρ s' v (e.run P w)) : GoodN N0 b0 w0 ρ s' v ((do pure (.value (← e)) : Sem Next).run P w) := by
  obtain ⟨ρ', w', v', e1, h1, h2, h3⟩ := h
  exact ⟨ρ', w', .value v', by simp [e1], h1, h2, .inl ⟨v', rfl, h3⟩⟩
theorem Good.next2 {s' : St} {v : Value} {e : Sem Value} (h : Good N0 b0 w0 ρ s' v (e.run P w)) : GoodN N0 b0 w0 ρ s' v ((e.run P w).andThen fun a w' => .ok (.value a) w') := by simpa using h.next
theorem xbin_guard {op : BinOp} {a b v : Value} (h : xbin op a b = some v) (t : TypeId) (x y : Operand) : (eqGuard op t x y a b).run P w = .ok () w := by
  unfold xbin at h
  split at h
  · cases op <;> rfl
  · cases op <;> rfl
  · cases h
theorem GoodU.next {s' : St} {e : Sem Unit} (h : GoodU N0 b0 w0 ρ s' (e.run P w)) : GoodN N0 b0 w0 ρ s' undef ((do e; pure .skip : Sem Next).run P w) := by
  obtain ⟨ρ', w', e1, h1, h2⟩ := h
  exact ⟨ρ', w', .skip, by simp [e1], h1, h2, .inr ⟨rfl, rfl⟩⟩
theorem GoodN.val {s : St} {v v' : Value} (r : Rel N0 b0 w0 ρ s.h w) (h : VRel ρ v v') : GoodN N0 b0 w0 ρ s v (.ok (.value v') w) := ⟨ρ, w, _, rfl, Ren.le_refl _, r, .inl ⟨v', rfl, h⟩⟩
theorem Good.of {s : St} {v : Value} {e : Sem Value} (r : Rel N0 b0 w0 ρ s.h w) (h : ∃ v', e.run P w = .ok v' w ∧ VRel ρ v v') : Good N0 b0 w0 ρ s v (e.run P w) := by
  obtain ⟨v', e1, h1⟩ := h
  rw [e1]
  exact Good.same r h1

set_option maxHeartbeats 4000000 in
theorem xop_ok {ev : Env} {e' : Operand → Value} {o : Oper} {v : Value} {s s' : St} (r : Rel N0 b0 w0 ρ s.h w) (he : ERel ρ ev e' o.op.operands.toList) (h : (xop P N0 ev o).run s = some (v, s')) :
    GoodN N0 b0 w0 ρ s' v ((execOp e' o).run P w) := by
  obtain ⟨dst, op, ty, pos, after, guard⟩ := o
  unfold xop at h
  dsimp only at h he
  have H : ∀ x, x ∈ op.operands.toList → ∀ v, ev x = some v → VRel ρ v (e' x) := he
  split at h
  · rename_i x
    obtain ⟨e1, rfl⟩ := X.lift_some h
    exact GoodN.val r (H x (by simp [Op.operands]) _ e1)
  · rename_i x
    obtain ⟨e1, rfl⟩ := X.lift_some h
    exact GoodN.val r (H x (by simp [Op.operands]) _ e1)
  · rename_i c a b
    split at h
    · rename_i hc
      obtain ⟨e1, rfl⟩ := X.lift_some h
      have hc' := H c (by simp [Op.operands]) _ hc
      generalize hq : e' c = q at hc'
      cases hc'
      simp [execOp, asBool, hq]
      exact GoodN.val r (H a (by simp [Op.operands]) _ e1)
    · rename_i hc
      obtain ⟨e1, rfl⟩ := X.lift_some h
      have hc' := H c (by simp [Op.operands]) _ hc
      generalize hq : e' c = q at hc'
      cases hc'
      simp [execOp, asBool, hq]
      exact GoodN.val r (H b (by simp [Op.operands]) _ e1)
    · cases h
  · exact (xalloc_ok r h).next
  · rename_i t x
    split at h
    case h_2 => cases h
    case h_1 u hu => exact (xbox_ok r (H x (by simp [Op.operands]) _ hu) h).next
  · rename_i t ps
    split at h
    case h_2 => cases h
    case h_1 l hl =>
      obtain ⟨e1, rfl⟩ := X.lift_some h
      refine (Good.of r (xbuild_ok (ps' := ps.map fun (i, x) => (i, e' x)) ?_ e1)).next
      rw [Array.toList_map]
      exact evp_rel (fun x hx => H x (by simpa [Op.operands] using hx)) hl
  · rename_i t n ps
    split at h
    case h_2 => cases h
    case h_1 l hl =>
      refine (xbuildSlice_ok (ps' := ps.map fun (i, x) => (i, e' x)) r ?_ h).next
      rw [Array.toList_map]
      exact evp_rel (fun x hx => H x (by simpa [Op.operands] using hx)) hl
  · rename_i t a
    split at h
    case h_2 => cases h
    case h_1 u hu => exact (xload_ok r (H a (by simp [Op.operands]) _ hu) h).next
  · rename_i t a x
    split at h
    case h_2 => cases h
    case h_1 u y hu hy =>
      obtain ⟨_, s1, h1, h'⟩ := X.bind_some h
      obtain ⟨rfl, rfl⟩ := X.pure_some h'
      exact (xstore_ok r (H a (by simp [Op.operands]) _ hu) (H x (by simp [Op.operands]) _ hy) h1).next
  · rename_i x
    split at h
    case h_2 => cases h
    case h_1 u hu =>
      split at h
      case h_2 => cases h
      case h_1 hp =>
        obtain ⟨rfl, rfl⟩ := X.pure_some h
        have hr := H x (by simp [Op.operands]) _ hu
        rw [Bool.or_eq_true] at hp
        rcases hp with hp | hp
        case inr =>
          rw [isMethV_ok hr hp rfl]
          exact GoodN.val r hr
        have hp' := isPtr_ok hr hp
        have : (execOp e' { dst := dst, op := .nilCheck x, type := ty, pos := pos, after := after, guard := guard }).run P w = .ok (.value (e' x)) w := by
          simp only [execOp]
          generalize e' x = q at *
          unfold isPtr at hp'
          split at hp' <;> first | rfl | cases hp'
        rw [this]
        exact GoodN.val r hr
  · rename_i bop t x y yt
    split at h
    case h_2 => cases h
    case h_1 a b ha hb =>
      have ra := H x (by simp [Op.operands]) _ ha
      have rb := H y (by simp [Op.operands]) _ hb
      split at h
      · rename_i u hu
        obtain ⟨rfl, rfl⟩ := X.pure_some h
        obtain ⟨p1, p2⟩ := xbin_plain ra rb hu
        have hrun := xbin_ok (P := P) hu t w
        refine Good.next (Good.of r ⟨v, ?_, xbin_rel hu⟩)
        rw [p1, p2]
        have hg := xbin_guard (P := P) (w := w) hu t x y
        simp only [Sem.run_bind, hg, Result.andThen_ok, hrun]
      · cases hqe : eqAs P t a b with
        | some rr =>
          rw [hqe] at h
          cases bop
          case eql =>
            dsimp only at h
            rw [fB_eq] at h
            obtain ⟨rfl, rfl⟩ := X.pure_some h
            have := eqAs_ok (w := w) ra rb hqe .eql (.inl rfl) x y
            exact Good.next (Good.of r ⟨_, by simpa using this, .bool _⟩)
          case neq =>
            dsimp only at h
            rw [fB_eq] at h
            obtain ⟨rfl, rfl⟩ := X.pure_some h
            have := eqAs_ok (w := w) ra rb hqe .neq (.inr rfl) x y
            exact Good.next (Good.of r ⟨_, by simpa using this, .bool _⟩)
          all_goals exact (xnil_ok r ra rb h).next
        | none =>
          rw [hqe] at h
          have h' : (xnil P bop t y a b).run s = some (v, s') := by cases bop <;> exact h
          exact (xnil_ok r ra rb h').next
  · rename_i uop t x
    split at h
    case h_2 => cases h
    case h_1 u hu =>
      obtain ⟨e1, rfl⟩ := X.lift_some h
      have rx := H x (by simp [Op.operands]) _ hu
      have p := xun_plain rx e1
      refine Good.next (Good.of r ⟨v, ?_, xun_rel e1⟩)
      rw [p]
      exact xun_ok e1
  · rename_i a b x
    split at h
    case h_2 => cases h
    case h_1 u hu =>
      split at h
      · rename_i u2 e1
        obtain ⟨rfl, rfl⟩ := X.pure_some h
        obtain ⟨p, q⟩ := xconv_ok (w := w) (H x (by simp [Op.operands]) _ hu) e1
        exact Good.next (Good.of r ⟨v, p, q⟩)
      · exact (xbytes_ok r (H x (by simp [Op.operands]) _ hu) h).next
  · rename_i t x
    split at h
    case h_2 => cases h
    case h_1 u d hu hd =>
      have rx := H x (by simp [Op.operands]) _ hu
      split at h
      · cases h
      · rename_i hni
        obtain ⟨rfl, rfl⟩ := X.pure_some h
        refine Good.next (Good.of r ⟨.iface t (e' x), ?_, .iface t rx⟩)
        simp only [Instr.makeInterface, Sem.run_bind, run_underlying hd, Result.andThen_ok]
        cases d <;> first | rfl | exact absurd rfl (hni _)
  · rename_i fn fs cs
    split at h
    case h_2 => cases h
    case h_1 a b ha hb =>
      obtain ⟨rfl, rfl⟩ := X.pure_some h
      refine Good.next (Good.of r ⟨_, rfl, .func fn ?_ ?_⟩)
      · rw [Array.toList_map]
        exact evs_rel (fun x hx => H x (by simp [Op.operands]; exact .inl (by simpa using hx))) ha
      · rw [Array.toList_map]
        exact evs_rel (fun x hx => H x (by simp [Op.operands]; exact .inr (by simpa using hx))) hb
  · exact (xmakeMap_ok r h).next
  · rename_i t m k x
    split at h
    case h_2 => cases h
    case h_1 a b c ha hb hc =>
      obtain ⟨_, s1, h1, h'⟩ := X.bind_some h
      obtain ⟨rfl, rfl⟩ := X.pure_some h'
      exact (xput_ok r (H m (by simp [Op.operands]) _ ha) (H k (by simp [Op.operands]) _ hb) (H x (by simp [Op.operands]) _ hc) h1).next
  · rename_i t m k x
    split at h
    case h_2 => cases h
    case h_1 a b c ha hb hc =>
      obtain ⟨_, s1, h1, h'⟩ := X.bind_some h
      obtain ⟨rfl, rfl⟩ := X.pure_some h'
      exact (xput_ok r (H m (by simp [Op.operands]) _ ha) (H k (by simp [Op.operands]) _ hb) (H x (by simp [Op.operands]) _ hc) h1).next
  · rename_i t m k ok
    split at h
    case h_2 => cases h
    case h_1 a b ha hb => exact (xlookup_ok r (H m (by simp [Op.operands]) _ ha) (H k (by simp [Op.operands]) _ hb) h).next
  · rename_i t m k
    split at h
    case h_2 => cases h
    case h_1 a b ha hb => exact (xmakeSlice_ok r (H m (by simp [Op.operands]) _ ha) (H k (by simp [Op.operands]) _ hb) h).next
  · rename_i t x lo hi mx
    split at h
    case h_2 => cases h
    case h_1 a b c d ha hb hc hd =>
      refine (xslice_ok r (H x (by simp [Op.operands]) _ ha) (evo_rel (fun y hy => H y ?_) hb) (evo_rel (fun y hy => H y ?_) hc) (evo_rel (fun y hy => H y ?_) hd) h).next
      all_goals (simp only [Option.mem_toList] at hy; simp [Op.operands, hy])
  · rename_i t x f
    split at h
    case h_2 => cases h
    case h_1 u hu =>
      obtain ⟨e1, rfl⟩ := X.lift_some h
      exact Good.next (Good.of r (xfieldAddr_ok (H x (by simp [Op.operands]) _ hu) e1))
  · rename_i t x f
    split at h
    case h_2 => cases h
    case h_1 u hu =>
      obtain ⟨e1, rfl⟩ := X.lift_some h
      exact Good.next (Good.of r (xfield_ok (H x (by simp [Op.operands]) _ hu) e1))
  · rename_i t x i
    split at h
    case h_2 => cases h
    case h_1 a b ha hb =>
      obtain ⟨e1, rfl⟩ := X.lift_some h
      exact Good.next (Good.of r (xindexAddr_ok (H x (by simp [Op.operands]) _ ha) (H i (by simp [Op.operands]) _ hb) e1))
  · rename_i t x i
    split at h
    case h_2 => cases h
    case h_1 a b ha hb =>
      obtain ⟨e1, rfl⟩ := X.lift_some h
      exact Good.next (Good.of r (xindex_ok (H x (by simp [Op.operands]) _ ha) (H i (by simp [Op.operands]) _ hb) e1))
  · rename_i x i
    split at h
    case h_2 => cases h
    case h_1 vs hu =>
      obtain ⟨e1, rfl⟩ := X.lift_some h
      have rx := H x (by simp [Op.operands]) _ hu
      generalize hq : e' x = q at rx
      cases rx with
      | tuple hr =>
        rename_i vs'
        obtain ⟨v', e2, hv⟩ := hr.get e1
        refine Good.next (Good.of r ⟨v', ?_, hv⟩)
        have : vs'[i]? = some v' := by simpa using e2
        simp [hq, Instr.extract, this]
  · rename_i b args ts
    have hargs : ∀ l, evs ev args.toList = some l → VRels ρ l (args.map e').toList := fun l hl => by
      rw [Array.toList_map]
      exact evs_rel (fun x hx => H x (by simp [Op.operands, Call.operands]; simpa using hx)) hl
    have hts : ∀ l, ts.toList = l → ts = ⟨l⟩ := fun l hl => by rw [← hl]
    split at h
    · rename_i x t hx ht
      have hr := hargs _ hx
      rw [hts _ ht]
      generalize hA : args.map e' = A at hr
      obtain ⟨A⟩ := A
      cases hr with
      | cons r1 r2 => cases r2; simp only [execOp, resolve, hA, Sem.run_bind, Sem.run_pure, Result.andThen_ok, invoke, builtin]; exact (xlen_ok r r1 h).next2
    · rename_i x t hx ht
      have hr := hargs _ hx
      rw [hts _ ht]
      generalize hA : args.map e' = A at hr
      obtain ⟨A⟩ := A
      cases hr with
      | cons r1 r2 => cases r2; simp only [execOp, resolve, hA, Sem.run_bind, Sem.run_pure, Result.andThen_ok, invoke, builtin]; exact (xcap_ok r r1 h).next2
    · rename_i x y t u hx ht
      have hr := hargs _ hx
      rw [hts _ ht]
      generalize hA : args.map e' = A at hr
      obtain ⟨A⟩ := A
      cases hr with
      | cons r1 r2 => cases r2 with
        | cons r2 r3 => cases r3; simp only [execOp, resolve, hA, Sem.run_bind, Sem.run_pure, Result.andThen_ok, invoke, builtin]; exact (xappend_ok r r1 r2 h).next2
    · rename_i x y t u hx ht
      have hr := hargs _ hx
      rw [hts _ ht]
      generalize hA : args.map e' = A at hr
      obtain ⟨A⟩ := A
      cases hr with
      | cons r1 r2 => cases r2 with
        | cons r2 r3 => cases r3; simp only [execOp, resolve, hA, Sem.run_bind, Sem.run_pure, Result.andThen_ok, invoke, builtin]; exact (xcopy_ok r r1 r2 h).next2
    · rename_i x t hx ht
      have hr := hargs _ hx
      rw [hts _ ht]
      generalize hA : args.map e' = A at hr
      obtain ⟨A⟩ := A
      cases hr with
      | cons r1 r2 => cases r2; simp only [execOp, resolve, hA, Sem.run_bind, Sem.run_pure, Result.andThen_ok, invoke, builtin]; exact (xclear_ok r r1 h).next2
    · rename_i l b' _ hx _ _ _ _ _
      obtain ⟨e1, rfl⟩ := X.lift_some h
      have hr := hargs _ hx
      generalize hA : args.map e' = A at hr
      obtain ⟨A⟩ := A
      unfold xmm at e1
      split at e1
      · rename_i k a k' c
        split at e1
        case h_2 => cases e1
        case h_1 hk =>
          have hk := kEq_eq hk
          subst hk
          cases hr with
          | cons r1 r2 => cases r2 with
            | cons r2 r3 =>
              cases r3; cases r1; cases r2
              simp only [execOp, resolve, hA, Sem.run_bind, Sem.run_pure, Result.andThen_ok, invoke, builtin]
              split at e1
              · rename_i hlt
                rw [ltI_eq, decide_eq_true_eq] at hlt
                cases e1
                exact Good.next2 (Good.of r ⟨_, by simp [Builtin.min_, Builtin.min2, hlt], .int ..⟩)
              · rename_i hlt
                rw [ltI_eq, decide_eq_false_iff_not] at hlt
                cases e1
                exact Good.next2 (Good.of r ⟨_, by simp [Builtin.min_, Builtin.min2, hlt], .int ..⟩)
      · rename_i k a k' c
        split at e1
        case h_2 => cases e1
        case h_1 hk =>
          have hk := kEq_eq hk
          subst hk
          cases hr with
          | cons r1 r2 => cases r2 with
            | cons r2 r3 =>
              cases r3; cases r1; cases r2
              simp only [execOp, resolve, hA, Sem.run_bind, Sem.run_pure, Result.andThen_ok, invoke, builtin]
              split at e1
              · rename_i hlt
                rw [ltI_eq, decide_eq_true_eq] at hlt
                cases e1
                exact Good.next2 (Good.of r ⟨_, by simp [Builtin.max_, Builtin.max2, hlt], .int ..⟩)
              · rename_i hlt
                rw [ltI_eq, decide_eq_false_iff_not] at hlt
                cases e1
                exact Good.next2 (Good.of r ⟨_, by simp [Builtin.max_, Builtin.max2, hlt], .int ..⟩)
      · cases e1
    · cases h
  · cases h
end
end Go.Rx
