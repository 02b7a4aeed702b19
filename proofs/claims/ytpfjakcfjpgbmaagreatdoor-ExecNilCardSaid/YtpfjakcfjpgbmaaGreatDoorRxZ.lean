/- The short run once more, read off the code once and for all: the same run, quicker. -/
import Derived.Test.YtpfjakcfjpgbmaaGreatDoorRxF
namespace Go.Rx
set_option linter.unusedVariables false
set_option linter.unusedSimpArgs false
noncomputable section
variable {P : Program} {N0 : Nat}

theorem X.ext {α : Type} {a b : X α} (h : ∀ s, a.run s = b.run s) : a = b := by
  obtain ⟨f, hf⟩ := a
  obtain ⟨g, hg⟩ := b
  have : f = g := funext h
  subst this
  rfl
theorem X.lift_bind {α β : Type} (o : Option α) (f : α → X β) : (X.lift o).bind f = match o with | some a => f a | none => X.fail := by
  apply X.ext
  intro s
  cases o <;> rfl
theorem X.pure_bind {α β : Type} (a : α) (f : α → X β) : (X.pure a).bind f = f a := X.ext fun _ => rfl

/-- An operation read: what it yields of the slots alone, or what it does. -/
inductive Dk where
  | pure (f : Tm → Option Value)
  | eff (f : CallX → Tm → X Value)
structure Dec where
  k : Dk
def zPick (N0 : Nat) (c a b : Operand) (A : Tm) : Option Value := match ev N0 A c with
  | some (.bool true) => ev N0 A a
  | some (.bool false) => ev N0 A b
  | _ => none
def zLoad (P : Program) (N0 : Nat) (t : TypeId) (a : Operand) (_ : CallX) (A : Tm) : X Value := match ev N0 A a with
  | some v => xload P t v
  | none => X.fail
def zBox (N0 : Nat) (t : TypeId) (x : Operand) (_ : CallX) (A : Tm) : X Value := match ev N0 A x with
  | some v => xbox N0 t v
  | none => X.fail
def zStore (P : Program) (N0 : Nat) (t : TypeId) (a x : Operand) (_ : CallX) (A : Tm) : X Value := match ev N0 A a, ev N0 A x with
  | some v, some x => (xstore P N0 t v x).bind fun _ => X.pure undef
  | _, _ => X.fail
def zNil (P : Program) (N0 : Nat) (x : Operand) (A : Tm) : Option Value := match ev N0 A x with
  | some v => match isPtr v || isMethV P v with
    | true => some v
    | false => none
  | none => none
structure Db where
  f : Value → Value → Option Value
def bAdd : Value → Value → Option Value
  | .int k a, .int k' b => match kEq k k' with
    | false => none
    | true => mkI k (wr k (a + b))
  | x, y => xbin .add x y
def bSub : Value → Value → Option Value
  | .int k a, .int k' b => match kEq k k' with
    | false => none
    | true => mkI k (wr k (a - b))
  | _, _ => none
def bEql : Value → Value → Option Value
  | .int k a, .int k' b => match kEq k k' with
    | false => none
    | true => mkB (eqI a b)
  | .string a, .string b => mkB (eqL a.data.toList b.data.toList)
  | _, _ => none
def bNeq : Value → Value → Option Value
  | .int k a, .int k' b => match kEq k k' with
    | false => none
    | true => mkB (!eqI a b)
  | .string a, .string b => mkB (!eqL a.data.toList b.data.toList)
  | _, _ => none
def bLss : Value → Value → Option Value
  | .int k a, .int k' b => match kEq k k' with
    | false => none
    | true => mkB (ltI a b)
  | x, y => xbin .lss x y
def bGeq : Value → Value → Option Value
  | .int k a, .int k' b => match kEq k k' with
    | false => none
    | true => mkB (!ltI a b)
  | x, y => xbin .geq x y
def bLeq : Value → Value → Option Value
  | .int k a, .int k' b => match kEq k k' with
    | false => none
    | true => mkB (!ltI b a)
  | x, y => xbin .leq x y
def dBin (op : BinOp) : Db := match op with
  | .add => ⟨bAdd⟩
  | .sub => ⟨bSub⟩
  | .eql => ⟨bEql⟩
  | .neq => ⟨bNeq⟩
  | .lss => ⟨bLss⟩
  | .geq => ⟨bGeq⟩
  | .leq => ⟨bLeq⟩
  | op => ⟨xbin op⟩
theorem dBin_eq (op : BinOp) (x y : Value) : (dBin op).f x y = xbin op x y := by
  cases op <;> first
    | rfl
    | (cases x <;> cases y <;> rfl)
def zBin2 (P : Program) (op : BinOp) (t : TypeId) (y : Operand) (a b : Value) : X Value := match op, eqAs P t a b with
  | .eql, some r => fB r fun r => X.pure (.bool r)
  | .neq, some r => fB (!r) fun r => X.pure (.bool r)
  | op, _ => xnil P op t y a b
def zBin (P : Program) (N0 : Nat) (op : BinOp) (t : TypeId) (x y : Operand) (_ : CallX) (A : Tm) : X Value := match ev N0 A x, ev N0 A y with
  | some a, some b => match (dBin op).f a b with
    | some v => X.pure v
    | none => zBin2 P op t y a b
  | _, _ => X.fail
def zInA (P : Program) (N0 : Nat) (t : TypeId) (x i : Operand) (A : Tm) : Option Value := match ev N0 A x, ev N0 A i with
  | some x, some i => xindexAddr P t x i
  | _, _ => none
def zIn (P : Program) (N0 : Nat) (t : TypeId) (x i : Operand) (A : Tm) : Option Value := match ev N0 A x, ev N0 A i with
  | some x, some i => xindex P t x i
  | _, _ => none
def zFA (P : Program) (N0 : Nat) (t : TypeId) (x : Operand) (f : Nat) (A : Tm) : Option Value := match ev N0 A x with
  | some v => xfieldAddr P t v f
  | none => none
def zEx (N0 : Nat) (x : Operand) (i : Nat) (A : Tm) : Option Value := match ev N0 A x with
  | some (.tuple vs) => vs.toList[i]?
  | _ => none
def zCall (N0 : Nat) (f : Operand) (args : List Operand) (call : CallX) (A : Tm) : X Value := match ev N0 A f, evs (ev N0 A) args with
  | some (.func (.func g) a b), some l => fL (a.toList ++ (l ++ b.toList)) fun l => call.run g l
  | _, _ => X.fail
def zInv (P : Program) (N0 : Nat) (f : Operand) (name : String) (args : List Operand) (call : CallX) (A : Tm) : X Value := match ev N0 A f, evs (ev N0 A) args with
  | some (.iface t v), some l => match xmeth P t name with
    | some g => fL (v :: l) fun l => call.run g l
    | none => X.fail
  | _, _ => X.fail
def zRest (P : Program) (N0 : Nat) (o : Oper) (_ : CallX) (A : Tm) : X Value := xop P N0 (ev N0 A) o
def zBi (P : Program) (N0 : Nat) (b : Builtin) (args : List Operand) (ts : List TypeId) (_ : CallX) (A : Tm) : X Value := match evs (ev N0 A) args, b, ts with
  | some [x], .len, [t] => xlen P t x
  | some [x], .cap, [t] => xcap P t x
  | some [x, y], .append, [t, u] => xappend P N0 t u x y
  | some [x, y], .copy, [t, _] => xcopy P N0 t x y
  | some [x], .clear, [t] => xclear P N0 t x
  | some l, b, _ => X.lift (xmm b l)
  | _, _, _ => X.fail
def zDefer (N0 : Nat) (c : Call) (call : CallX) (A : Tm) : X Value := match c with
  | ⟨.value f, ⟨[]⟩, _⟩ => match ev N0 A f with
      | some (.func (.func g) ⟨[]⟩ b) => match call.idle g with
        | some m => match Nat.beq b.toList.length m && allPtr b.toList with
          | true => X.pure undef
          | false => X.fail
        | none => X.fail
      | _ => X.fail
  | _ => X.fail
/-- An operation without its guard. -/
def decOp (P : Program) (N0 : Nat) (o : Oper) : Dec := match o.op with
  | .move x => ⟨.pure fun A => ev N0 A x⟩
  | .assign x => ⟨.pure fun A => ev N0 A x⟩
  | .pick c a b => ⟨.pure (zPick N0 c a b)⟩
  | .box t x => ⟨.eff (zBox N0 t x)⟩
  | .load t a => ⟨.eff (zLoad P N0 t a)⟩
  | .store t a x => ⟨.eff (zStore P N0 t a x)⟩
  | .nilCheck x => ⟨.pure (zNil P N0 x)⟩
  | .binOp op t x y _ => ⟨.eff (zBin P N0 op t x y)⟩
  | .indexAddr t x i => ⟨.pure (zInA P N0 t x i)⟩
  | .index t x i => ⟨.pure (zIn P N0 t x i)⟩
  | .fieldAddr t x f => ⟨.pure (zFA P N0 t x f)⟩
  | .extract x i => ⟨.pure (zEx N0 x i)⟩
  | .call c => match c.callee with
    | .builtin b => ⟨.eff (zBi P N0 b c.args.toList c.argTypes.toList)⟩
    | .value f => ⟨.eff (zCall N0 f c.args.toList)⟩
    | .invoke f name => ⟨.eff (zInv P N0 f name c.args.toList)⟩
  | .defer c => ⟨.eff (zDefer N0 c)⟩
  | _ => ⟨.eff (zRest P N0 o)⟩
def Dk.go (d : Dk) (call : CallX) (A : Tm) : X Value := match d with
  | .pure f => X.lift (f A)
  | .eff f => f call A
def plainOp (P : Program) (N0 : Nat) (call : CallX) (A : Tm) (o : Oper) : X Value := match o.op with
  | .call ⟨.value f, args, _⟩ => match ev N0 A f, evs (ev N0 A) args.toList with
    | some (.func (.func g) a b), some l => fL (a.toList ++ (l ++ b.toList)) fun l => call.run g l
    | _, _ => X.fail
  | .call ⟨.invoke f name, args, _⟩ => match ev N0 A f, evs (ev N0 A) args.toList with
    | some (.iface t v), some l => match xmeth P t name with
      | some g => fL (v :: l) fun l => call.run g l
      | none => X.fail
    | _, _ => X.fail
  | .defer ⟨.value f, ⟨[]⟩, _⟩ => match ev N0 A f with
    | some (.func (.func g) ⟨[]⟩ b) => match call.idle g with
      | some m => match Nat.beq b.toList.length m && allPtr b.toList with
        | true => X.pure undef
        | false => X.fail
      | none => X.fail
    | _ => X.fail
  | _ => xop P N0 (ev N0 A) o
theorem lift_none {α : Type} : X.lift (none : Option α) = X.fail := rfl
theorem decOp_eq (call : CallX) (A : Tm) (o : Oper) : plainOp P N0 call A o = (decOp P N0 o).k.go call A := by
  obtain ⟨dst, op, ty, pos, after, guard⟩ := o
  cases op
  case pick c a b =>
    simp only [plainOp, decOp, Dk.go, zPick, xop]
    cases ev N0 A c with
    | none => rfl
    | some v => cases v <;> first | rfl | (rename_i q; cases q <;> rfl)
  case nilCheck x =>
    simp only [plainOp, decOp, Dk.go, zNil, xop]
    cases ev N0 A x with
    | none => rfl
    | some v => dsimp only; cases (isPtr v || isMethV P v) <;> rfl
  case binOp op t x y yt =>
    simp only [plainOp, decOp, Dk.go, zBin, xop, dBin_eq]
    cases ev N0 A x <;> cases ev N0 A y <;> rfl
  case indexAddr t x i =>
    simp only [plainOp, decOp, Dk.go, zInA, xop]
    cases ev N0 A x <;> cases ev N0 A i <;> rfl
  case index t x i =>
    simp only [plainOp, decOp, Dk.go, zIn, xop]
    cases ev N0 A x <;> cases ev N0 A i <;> rfl
  case fieldAddr t x i =>
    simp only [plainOp, decOp, Dk.go, zFA, xop]
    cases ev N0 A x <;> rfl
  case extract x i =>
    simp only [plainOp, decOp, Dk.go, zEx, xop]
    cases ev N0 A x with
    | none => rfl
    | some v => cases v <;> rfl
  case call c =>
    obtain ⟨callee, args, ts⟩ := c
    cases callee <;> rfl
  case defer c =>
    obtain ⟨callee, ⟨args⟩, ts⟩ := c
    cases callee <;> first
      | (cases args <;> rfl)
      | rfl
  all_goals rfl

def zIf (d : Dk) (t : Tmp) (b : Bool) (call : CallX) (A : Tm) : X Value := match A.get t with
  | some (.bool true) => match b with
    | true => d.go call A
    | false => X.pure undef
  | some (.bool false) => match b with
    | true => X.pure undef
    | false => d.go call A
  | some (.tuple _) => X.pure undef
  | _ => X.fail
/-- An operation with its guard. -/
def decX (P : Program) (N0 : Nat) (ops : List Oper) (o : Oper) : Dec := match o.guard with
  | none => decOp P N0 o
  | some (j, b) => match ops[j]? with
    | some oj => match oj.dst with
      | some t => ⟨.eff (zIf (decOp P N0 o).k t b)⟩
      | none => ⟨.eff fun _ _ => X.fail⟩
    | none => ⟨.eff fun _ _ => X.fail⟩
theorem decX_eq (call : CallX) (ops : List Oper) (A : Tm) (o : Oper) : valX P N0 call ops A o = (decX P N0 ops o).k.go call A := by
  have h1 : valX P N0 call ops A o = match wantX ops A o with
      | some true => plainOp P N0 call A o
      | some false => X.pure undef
      | none => X.fail := by
    unfold valX plainOp
    rfl
  rw [h1, decOp_eq]
  unfold wantX decX
  cases hg : o.guard with
  | none => rfl
  | some g =>
    obtain ⟨j, b⟩ := g
    dsimp only
    cases hj : ops[j]? with
    | none => rfl
    | some oj =>
      dsimp only
      cases ht : oj.dst with
      | none => rfl
      | some t =>
        show _ = zIf (decOp P N0 o).k t b call A
        unfold zIf
        dsimp only
        cases ha : T.get A t with
        | none => rfl
        | some v =>
          cases v <;> first
            | rfl
            | (rename_i c; cases c <;> cases b <;> rfl)

def putK (n : Nat) (d : Option Tmp) (A : Tm) (v : Value) (k : Tm → X Tm) : X Tm := match d with
  | none => k A
  | some d => match Nat.blt d n with
    | true => T.setK A d v k
    | false => X.fail
theorem putK_eq (n : Nat) (d : Option Tmp) (A : Tm) (v : Value) (k : Tm → X Tm) : (match doPut n A d v with | some A => k A | none => X.fail) = putK n d A v k := by
  unfold doPut putK
  cases d with
  | none => rfl
  | some d =>
    dsimp only
    cases Nat.blt d n with
    | false => rfl
    | true => dsimp only; rw [T.setK_eq, T.setK_eq]
def zDo (n : Nat) (d : Option Tmp) (k : Dk) (call : CallX) (A : Tm) (ih : Tm → X Tm) : X Tm := match k with
  | .pure f => match f A with
    | some v => putK n d A v ih
    | none => X.fail
  | .eff f => (f call A).bind fun v => putK n d A v ih
noncomputable def opsZ (P : Program) (N0 : Nat) (call : CallX) (n : Nat) (ops l : List Oper) : Tm → X Tm :=
  List.rec (fun A => X.pure A) (fun o _ ih A => zDo n o.dst (decX P N0 ops o).k call A ih) l
theorem opsZ_eq (call : CallX) (n : Nat) (ops : List Oper) : ∀ (l : List Oper) (A : Tm), opsX P N0 call n ops l A = opsZ P N0 call n ops l A
  | [], A => rfl
  | o :: l, A => by
    show (valX P N0 call ops A o).bind (fun v => match doPut n A o.dst v with | some A => opsX P N0 call n ops l A | none => X.fail) = zDo n o.dst (decX P N0 ops o).k call A fun A => opsZ P N0 call n ops l A
    have e : (fun v => match doPut n A o.dst v with | some A => opsX P N0 call n ops l A | none => X.fail) = fun v => putK n o.dst A v fun A => opsZ P N0 call n ops l A := by
      funext v
      rw [putK_eq]
      congr 1
      funext A
      exact opsZ_eq call n ops l A
    rw [e, decX_eq]
    unfold zDo Dk.go
    cases (decX P N0 ops o).k with
    | pure f => dsimp only; rw [X.lift_bind]; cases f A <;> rfl
    | eff f => rfl
noncomputable def opsMZ (P : Program) (N0 : Nat) (call : CallX) (n : Nat) (ops l : List Oper) : Tm → X (Tm × List (Nat × Nat)) :=
  List.rec (fun A => X.pure (A, [])) (fun o _ ih A => ((decX P N0 ops o).k.go call A).told.bind fun p => match doPut n A o.dst p.1 with
    | some A => (ih A).bind fun q => X.pure (q.1, p.2 :: q.2)
    | none => X.fail) l
theorem opsMZ_eq (call : CallX) (n : Nat) (ops : List Oper) : ∀ (l : List Oper) (A : Tm), opsM P N0 call n ops l A = opsMZ P N0 call n ops l A
  | [], A => rfl
  | o :: l, A => by
    show (valX P N0 call ops A o).told.bind (fun p => match doPut n A o.dst p.1 with | some A => (opsM P N0 call n ops l A).bind fun q => X.pure (q.1, p.2 :: q.2) | none => X.fail) =
      ((decX P N0 ops o).k.go call A).told.bind fun p => match doPut n A o.dst p.1 with | some A => (opsMZ P N0 call n ops l A).bind fun q => X.pure (q.1, p.2 :: q.2) | none => X.fail
    rw [decX_eq]
    congr 1
    funext p
    cases doPut n A o.dst p.1 with
    | none => rfl
    | some B => dsimp only; rw [opsMZ_eq call n ops l B]
/-- What is said of a region once. -/
structure Stat where
  ok : Bool
  bef : List Nat
def statZ (ops : Array Oper) : Stat := match statOk ops with
  | true => ⟨true, befs ops.toList []⟩
  | false => ⟨false, []⟩
noncomputable def drawZ (P : Program) (N0 : Nat) (call : CallX) (n : Nat) (ops : Array Oper) (A : Tm) : X Tm := match statZ ops with
  | ⟨true, bef⟩ => (opsMZ P N0 call n ops.toList ops.toList A).bind fun p => match allOk noc [] (bef.zip p.2) with
    | true => X.pure p.1
    | false => X.fail
  | ⟨false, _⟩ => X.fail
theorem drawZ_eq (call : CallX) (n : Nat) (ops : Array Oper) (A : Tm) : drawX P N0 call n ops A = drawZ P N0 call n ops A := by
  unfold drawX drawZ statZ
  rw [opsMZ_eq]
  cases statOk ops <;> rfl

/-- Code read. -/
structure Dc where
  f : CallX → CodeX → Nat → Tm → X (Ex × Tm)
def zNorm (A : Tm) : X (Ex × Tm) := X.pure (.normal, A)
noncomputable def zReg (P : Program) (N0 : Nat) (ops : List Oper) (call : CallX) (_ : CodeX) (n : Nat) (A : Tm) : X (Ex × Tm) := (opsZ P N0 call n ops ops A).bind zNorm
noncomputable def zDraw (P : Program) (N0 : Nat) (ops : Array Oper) (call : CallX) (_ : CodeX) (n : Nat) (A : Tm) : X (Ex × Tm) := (drawZ P N0 call n ops A).bind zNorm
def zSeq2 (b : Code) (self : CodeX) (n : Nat) (p : Ex × Tm) : X (Ex × Tm) := match p with
  | (.normal, A) => self n b A
  | p => X.pure p
def zSeq (a b : Code) (_ : CallX) (self : CodeX) (n : Nat) (A : Tm) : X (Ex × Tm) := (self n a A).bind (zSeq2 b self n)
def zCond (N0 : Nat) (c : Operand) (a b : Code) (_ : CallX) (self : CodeX) (n : Nat) (A : Tm) : X (Ex × Tm) := match ev N0 A c with
  | some (.bool true) => self n a A
  | some (.bool false) => self n b A
  | _ => X.fail
def zBlk2 (id : Nat) (p : Ex × Tm) : X (Ex × Tm) := match p with
  | (.exit i, A) => match Nat.beq i id with
    | true => X.pure (.normal, A)
    | false => X.pure (.exit i, A)
  | p => X.pure p
def zBlk (id : Nat) (b : Code) (_ : CallX) (self : CodeX) (n : Nat) (A : Tm) : X (Ex × Tm) := (self n b A).bind (zBlk2 id)
def zLoop (b : Code) (_ : CallX) (self : CodeX) (n : Nat) (A : Tm) : X (Ex × Tm) := (self n b A).bind (zSeq2 (.loop b) self n)
noncomputable def decC (P : Program) (N0 : Nat) (c : Code) : Dc := match c with
  | .skip => ⟨fun _ _ _ A => X.pure (.normal, A)⟩
  | .label _ => ⟨fun _ _ _ A => X.pure (.normal, A)⟩
  | .region _ ops d => match d with
    | false => ⟨zReg P N0 ops.toList⟩
    | true => ⟨zDraw P N0 ops⟩
  | .seq a b => ⟨zSeq a b⟩
  | .cond c a b => ⟨zCond N0 c a b⟩
  | .block id b => ⟨zBlk id b⟩
  | .loop b => ⟨zLoop b⟩
  | .scope b => ⟨fun _ self n A => self n b A⟩
  | .exit id => ⟨fun _ _ _ A => X.pure (.exit id, A)⟩
  | .ret => ⟨fun _ _ _ A => X.pure (.ret, A)⟩
  | _ => ⟨fun _ _ _ _ => X.fail⟩
theorem decC_eq (call : CallX) (self : CodeX) (n : Nat) (c : Code) (A : Tm) : codeF P N0 call self n c A = (decC P N0 c).f call self n A := by
  cases c
  case region id ops d =>
    cases d
    · show (opsX P N0 call n ops.toList ops.toList A).bind _ = (opsZ P N0 call n ops.toList ops.toList A).bind _
      rw [opsZ_eq]
      rfl
    · show (drawX P N0 call n ops A).bind _ = (drawZ P N0 call n ops A).bind _
      rw [drawZ_eq]
      rfl
  all_goals rfl
noncomputable def exeZ (P : Program) (N0 : Nat) (K : Known P N0) (k : Nat) : CallX × CodeX :=
  Nat.rec (⟨fun _ _ => X.fail, K.idle⟩, fun _ _ _ => X.fail) (fun _ p => (⟨callF P K p.2, K.idle⟩, fun n c A => (decC P N0 c).f p.1 p.2 n A)) k
theorem exeZ_eq (K : Known P N0) : ∀ k, exe P N0 K k = exeZ P N0 K k
  | 0 => rfl
  | k + 1 => by
    show (⟨callF P K (exe P N0 K k).2, K.idle⟩, codeF P N0 (exe P N0 K k).1 (exe P N0 K k).2) = ((⟨callF P K (exeZ P N0 K k).2, K.idle⟩, fun n c A => (decC P N0 c).f (exeZ P N0 K k).1 (exeZ P N0 K k).2 n A) : CallX × CodeX)
    rw [exeZ_eq K k]
    congr 1
    funext n c A
    exact decC_eq _ _ n c A
end
end Go.Rx
