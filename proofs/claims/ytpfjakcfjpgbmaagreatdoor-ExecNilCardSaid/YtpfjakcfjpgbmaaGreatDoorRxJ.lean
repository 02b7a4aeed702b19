/- A chain of code taken piece by piece, and regions of plain operations at values that are not known. -/
import Derived.Test.YtpfjakcfjpgbmaaGreatDoorRxH
namespace Go.Rx
set_option linter.unusedVariables false
set_option linter.unusedSimpArgs false
noncomputable section
variable {P : Program} {N0 b0 : Nat} {w0 : World}

/-- the first j pieces of a chain -/
noncomputable def preRun (self : CodeX) (n : Nat) (j : Nat) : Code → Tm → X (Ex × Tm) :=
  Nat.rec (fun _ A => X.pure (.normal, A)) (fun _ ih c A => (self n (fstC c) A).bind fun p => match p with
    | (.normal, A) => ih (sndC c) A
    | p => X.pure p) j
def dropC : Nat → Code → Code
  | 0, c => c
  | j + 1, c => dropC j (sndC c)
def isSeqs : Nat → Code → Bool
  | 0, _ => true
  | j + 1, c => match c with
    | .seq _ b => isSeqs j b
    | _ => false
theorem Yields.stepE {K : Known P N0} (hF : Fit P) (hE : K.env w0) {fn : Func} {v : Value} {c c' : Code} {A A1 : Tm} {s s1 : St} {k : Nat}
    (h : ((exeZ P N0 K k).2 fn.ntmps c A).run s = some ((.normal, A1), s1)) (hy : Yields P N0 b0 w0 fn v c' A1 s1.h) : Yields P N0 b0 w0 fn v (.seq c c') A s.h := by
  intro ρ w a r hA
  rw [← exeZ_eq] at h
  exact wp_seq (wpK_wp ((exe_ok hF hE k).2 fn.ntmps c A A1 .normal s s1 ρ w a _ r hA h fun ρ' w' a' _ r' hA' => hy ρ' w' a' r' hA'))
theorem Yields.pre {K : Known P N0} (hF : Fit P) (hE : K.env w0) {fn : Func} {v : Value} {k : Nat} : ∀ (j : Nat) {c : Code} {A A1 : Tm} {s s1 : St}, isSeqs j c = true →
    (preRun (exeZ P N0 K k).2 fn.ntmps j c A).run s = some ((.normal, A1), s1) → Yields P N0 b0 w0 fn v (dropC j c) A1 s1.h → Yields P N0 b0 w0 fn v c A s.h
  | 0, c, A, A1, s, s1, _, h, hy => by
    obtain ⟨e, rfl⟩ := X.pure_some h
    cases e
    exact hy
  | j + 1, c, A, A1, s, s1, hc, h, hy => by
    cases c with
    | seq a b =>
      obtain ⟨⟨x, A2⟩, s2, h1, h2⟩ := X.bind_some (show (((exeZ P N0 K k).2 fn.ntmps a A).bind fun p => match p with
        | (.normal, A) => preRun (exeZ P N0 K k).2 fn.ntmps j b A
        | p => X.pure p).run s = some ((.normal, A1), s1) from h)
      cases x with
      | normal => exact Yields.stepE hF hE h1 (Yields.pre hF hE j hc h2 hy)
      | exit i => obtain ⟨e, _⟩ := X.pure_some h2; cases e
      | ret => obtain ⟨e, _⟩ := X.pure_some h2; cases e
    | _ => cases hc
theorem Yields.sub {fn : Func} {v : Value} {c : Code} {A B : Tm} {h : T AObj} (hB : ∀ t u, B.get t = some u → A.get t = some u) (hy : Yields P N0 b0 w0 fn v c B h) : Yields P N0 b0 w0 fn v c A h :=
  fun ρ w a r hA => hy ρ w a r (hA.sub hB)

/-! Plain operations, one by one. -/
theorem opsX_cons {call : CallX} {n : Nat} {ops l : List Oper} {A A' : Tm} {o : Oper} {v : Value} (hv : valX P N0 call ops A o = X.pure v) (hp : doPut n A o.dst v = some A') :
    opsX P N0 call n ops (o :: l) A = opsX P N0 call n ops l A' := by
  rw [opsX, hv, X.pure_bind, hp]
theorem doPut_some {n d : Nat} {A : Tm} {v : Value} (h : Nat.blt d n = true) : doPut n A (some d) v = some (A.set d v) := by
  unfold doPut
  simp only [h]
  exact T.setK_eq ..
theorem valX_move {call : CallX} {ops : List Oper} {A : Tm} {o : Oper} {x : Operand} {v : Value} (hg : o.guard = none) (ho : o.op = .move x) (hx : ev N0 A x = some v) : valX P N0 call ops A o = X.pure v := by
  unfold valX wantX
  rw [hg]
  simp only [ho, xop, hx]
  rfl
theorem valX_assign {call : CallX} {ops : List Oper} {A : Tm} {o : Oper} {x : Operand} {v : Value} (hg : o.guard = none) (ho : o.op = .assign x) (hx : ev N0 A x = some v) : valX P N0 call ops A o = X.pure v := by
  unfold valX wantX
  rw [hg]
  simp only [ho, xop, hx]
  rfl
theorem valX_bin {call : CallX} {ops : List Oper} {A : Tm} {o : Oper} {op : BinOp} {t r : TypeId} {x y : Operand} {a b v : Value} (hg : o.guard = none) (ho : o.op = .binOp op t x y r)
    (hx : ev N0 A x = some a) (hy : ev N0 A y = some b) (h : xbin op a b = some v) : valX P N0 call ops A o = X.pure v := by
  unfold valX wantX
  rw [hg]
  simp only [ho, xop, hx, hy, h]
theorem valX_conv {call : CallX} {ops : List Oper} {A : Tm} {o : Oper} {s d : TypeId} {x : Operand} {a v : Value} (hg : o.guard = none) (ho : o.op = .convert s d x)
    (hx : ev N0 A x = some a) (h : xconv P s d a = some v) : valX P N0 call ops A o = X.pure v := by
  unfold valX wantX
  rw [hg]
  simp only [ho, xop, hx, h]
theorem region_run {K : Known P N0} {k id n : Nat} {ops : Array Oper} {A A' : Tm} {s : St} (h : opsX P N0 (exe P N0 K k).1 n ops.toList ops.toList A = X.pure A') :
    ((exeZ P N0 K (k + 1)).2 n (.region id ops false) A).run s = some ((.normal, A'), s) := by
  rw [← exeZ_eq]
  show ((opsX P N0 (exe P N0 K k).1 n ops.toList ops.toList A).bind fun A => X.pure (Ex.normal, A)).run s = _
  rw [h]
  rfl
def opsOf : Code → Array Oper
  | .region _ ops _ => ops
  | _ => #[]
def opAt (c : Code) (i : Nat) : Oper := (opsOf c).toList.getD i ⟨none, .move (.tmp 0), 0, "", #[], none⟩
end
end Go.Rx
