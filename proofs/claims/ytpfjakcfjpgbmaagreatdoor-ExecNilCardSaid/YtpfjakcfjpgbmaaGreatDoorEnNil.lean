/- ExecNil: its runs, at a statement that is not looked at but for its kind. Printed by tools/ennil.py. -/
import Derived.Test.YtpfjakcfjpgbmaaGreatDoorEnPre
import Derived.Test.YtpfjakcfjpgbmaaGreatDoorEnRun
import Derived.Test.YtpfjakcfjpgbmaaGreatDoorEnFew
namespace Go.Proofs.YtpfjakcfjpgbmaaGreatDoor
set_option linter.unusedVariables false
set_option linter.unusedSimpArgs false
open Go.RowKit Go.Rx

/-- what the run does not look at -/
structure NilA where
  t : ByteArray
  nm : ByteArray
  j : ByteArray
  l : ByteArray
  r : ByteArray
  g : Int
  m : Int
  n : Int
  p0 : Int
  p1 : ByteArray
  p2 : ByteArray
  p3 : Int
  p4 : Int
  p5 : ByteArray
  p6 : ByteArray
  p7 : Int
  p8 : Bool
  p9 : Int
structure Sl where
  o : Option Addr
  n : Nat
  c : Nat
def Sl.v (s : Sl) : Value := .slice s.o s.n s.c
structure Nil5 where
  n : Sl
  r : Sl
  x : Sl
  w : Sl
  o : Sl
def stL (k : Int) (a : NilA) (c : Sl) (s : Nil5) : List Value := [.int .i64 k, .string a.t, .string a.nm, .slice c.o c.n c.c, .slice s.n.o s.n.n s.n.c, .slice s.r.o s.r.n s.r.c, .slice s.x.o s.x.n s.x.c, .slice s.w.o s.w.n s.w.c, .string a.j, .string a.l, .string a.r, .int .i64 a.g, .slice s.o.o s.o.n s.o.c, .int .i64 a.m, .int .i64 a.n]
def plL (a : NilA) : List Value := [.int .i64 a.p0, .string a.p1, .string a.p2, .int .i64 a.p3, .int .i64 a.p4, .string a.p5, .string a.p6, .int .i64 a.p7, .bool a.p8, .int .i64 a.p9]
noncomputable def H1 : T AObj := (((((H0.set 12 .dead).set 13 .dead).set 14 .dead).set 15 .dead).set 16 .dead).set 17 .dead
noncomputable def body4 : Code := bodyOf Tryz.f4
noncomputable def reg2 : Code := fstC (dropC 2 body4)
noncomputable def nilPre (k : Int) (a : NilA) (c : Sl) (s : Nil5) : Option ((Ex × Tm) × St) := (preRun (exeZ Tryz.prog 12 known1 6000).2 Tryz.f4.ntmps 2 body4 (argA [.agg ⟨stL k a c s⟩, .agg ⟨plL a⟩] 0)).run ⟨18, H1, 0, 0⟩
noncomputable def afterFew (s : St) : St := ⟨25, ((((s.h.set 20 .dead).set 21 .dead).set 22 .dead).set 23 .dead).set 24 .dead, 0, 0⟩
noncomputable def tmpsFew (A : Tm) (k : Int) (a : NilA) (c : Sl) (s b : Nil5) : Tm := (A.set 11 (.agg ⟨stL k a c s⟩)).set 12 (.agg ⟨stL k a c b⟩)
noncomputable def nilRun (k : Int) (a : NilA) (c : Sl) (s b : Nil5) : Bool := match nilPre k a c s with
  | some ((.normal, A), s1) => match (valX Tryz.prog 12 (exe Tryz.prog 12 known1 5999).1 (opsOf reg2).toList (tmpsFew A k a c s b) (opAt reg2 2)).run (afterFew s1) with
    | some (_, s2) => endsAs Tryz.prog Tryz.f4 (.bool true) (((exeZ Tryz.prog 12 known1 6000).2 Tryz.f4.ntmps (dropC 3 body4) (tmpsFew A k a c s b)).run s2)
    | none => false
  | _ => false
set_option maxRecDepth 1000000
theorem nil_neg (n : Nat) (a : NilA) (c : Sl) (s b : Nil5) : nilRun (.negSucc n) a c s b = true := by kernel_rfl
theorem nil_big (n : Nat) (a : NilA) (c : Sl) (s b : Nil5) : nilRun (.ofNat (n + 8)) a c s b = true := by kernel_rfl
theorem nil_0 (a : NilA) (c : Sl) (s b : Nil5) : nilRun (.ofNat 0) a c s b = true := by kernel_rfl
theorem nil_1 (a : NilA) (c : Sl) (s b : Nil5) : nilRun (.ofNat 1) a c s b = true := by kernel_rfl
theorem nil_2 (a : NilA) (c : Sl) (s b : Nil5) : nilRun (.ofNat 2) a c s b = true := by kernel_rfl
theorem nil_3 (a : NilA) (c : Sl) (s b : Nil5) : nilRun (.ofNat 3) a c s b = true := by kernel_rfl
theorem nil_4 (a : NilA) (c : Sl) (s b : Nil5) : nilRun (.ofNat 4) a c s b = true := by kernel_rfl
theorem nil_5 (a : NilA) (c : Sl) (s b : Nil5) : nilRun (.ofNat 5) a c s b = true := by kernel_rfl
theorem nil_6 (a : NilA) (c : Sl) (s b : Nil5) : nilRun (.ofNat 6) a c s b = true := by kernel_rfl
theorem nil_7 (a : NilA) (c : Sl) (s b : Nil5) : nilRun (.ofNat 7) a c s b = true := by kernel_rfl
theorem nil_run (k : Int) (a : NilA) (c : Sl) (s b : Nil5) : nilRun k a c s b = true := by
  match k with
  | .negSucc n => exact nil_neg n a c s b
  | .ofNat 0 => exact nil_0 a c s b
  | .ofNat 1 => exact nil_1 a c s b
  | .ofNat 2 => exact nil_2 a c s b
  | .ofNat 3 => exact nil_3 a c s b
  | .ofNat 4 => exact nil_4 a c s b
  | .ofNat 5 => exact nil_5 a c s b
  | .ofNat 6 => exact nil_6 a c s b
  | .ofNat 7 => exact nil_7 a c s b
  | .ofNat (n + 8) => exact nil_big n a c s b
/-- what the prefix leaves -/
theorem nil_free (k : Int) (a : NilA) (c : Sl) (s : Nil5) : (nilPre k a c s).bind (fun p => some (((((p.2.h.get 20).isNone && (p.2.h.get 21).isNone) && (p.2.h.get 22).isNone) && (p.2.h.get 23).isNone) && (p.2.h.get 24).isNone)) = some true := by kernel_rfl
theorem nil_load (k : Int) (a : NilA) (c : Sl) (s : Nil5) : (nilPre k a c s).bind (fun p => ((valX Tryz.prog 12 (exe Tryz.prog 12 known1 5999).1 (opsOf reg2).toList p.1.2 (opAt reg2 0)).run p.2).map fun q => (q.1, q.2.h)) = (nilPre k a c s).bind fun p => some (.agg ⟨stL k a c s⟩, p.2.h) := by kernel_rfl
end Go.Proofs.YtpfjakcfjpgbmaaGreatDoor
