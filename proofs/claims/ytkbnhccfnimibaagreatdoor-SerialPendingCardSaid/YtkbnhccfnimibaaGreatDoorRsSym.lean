/- A region that takes a byte argument's residue. -/
import Derived.Test.YtkbnhccfnimibaaGreatDoorRsSan
import Derived.Test.YtkbnhccfnimibaaGreatDoorRsLaw
import Derived.Test.YtkbnhccfnimibaaGreatDoorRxJ
namespace Go.Proofs.YtkbnhccfnimibaaGreatDoor
set_option linter.unusedVariables false
set_option linter.unusedSimpArgs false
open Go.RowKit Go.Rx

theorem left_of' {w w' : World} {ρ : Rx.Ren} {h : T AObj} (r : Rel 10 w.heap.size w ρ h w') : Left w w' := ⟨r.os, r.out, r.low⟩
/-- `t := int(x % q)`, x a byte: the region's four operations -/
structure RemShape (c : Code) (x d0 d1 d2 t : Nat) (q : Int) : Prop where
  reg : ∃ id, c = .region id (opsOf c) false
  ops : (opsOf c).toList = [opAt c 0, opAt c 1, opAt c 2, opAt c 3]
  g0 : (opAt c 0).guard = none
  g1 : (opAt c 1).guard = none
  g2 : (opAt c 2).guard = none
  g3 : (opAt c 3).guard = none
  o0 : (opAt c 0).op = .move (.tmp x)
  o1 : (opAt c 1).op = .binOp .rem 5 (.tmp d0) (.const (.int .u8 q)) 5
  o2 : (opAt c 2).op = .convert 5 3 (.tmp d1)
  o3 : (opAt c 3).op = .assign (.tmp d2)
  t0 : (opAt c 0).dst = some d0
  t1 : (opAt c 1).dst = some d1
  t2 : (opAt c 2).dst = some d2
  t3 : (opAt c 3).dst = some t
theorem get_self {A : Tm} {i : Nat} {v : Value} : (A.set i v).get i = some v := by rw [T.get_set, if_pos rfl]
theorem rem_opsX {c : Code} {x d0 d1 d2 t : Nat} {q : Int} (h : RemShape c x d0 d1 d2 t q) {call : CallX} {n : Nat} {A : Tm} {b m : Int} (hx : A.get x = some (.int .u8 b)) (hm : xbin .rem (.int .u8 b) (.int .u8 q) = some (.int .u8 m))
    (hc : xconv Tryz.prog 5 3 (.int .u8 m) = some (.int .i64 m)) (l0 : Nat.blt d0 n = true) (l1 : Nat.blt d1 n = true) (l2 : Nat.blt d2 n = true) (l3 : Nat.blt t n = true) :
    opsX Tryz.prog 10 call n (opsOf c).toList (opsOf c).toList A = X.pure ((((A.set d0 (.int .u8 b)).set d1 (.int .u8 m)).set d2 (.int .i64 m)).set t (.int .i64 m)) := by
  suffices hh : ∀ l, l = (opsOf c).toList → opsX Tryz.prog 10 call n l (opsOf c).toList A = X.pure ((((A.set d0 (.int .u8 b)).set d1 (.int .u8 m)).set d2 (.int .i64 m)).set t (.int .i64 m)) from hh _ rfl
  intro l _
  rw [h.ops]
  rw [opsX_cons (v := .int .u8 b) (valX_move h.g0 h.o0 hx) (by rw [h.t0]; exact doPut_some l0)]
  rw [opsX_cons (v := .int .u8 m) (valX_bin h.g1 h.o1 get_self rfl hm) (by rw [h.t1]; exact doPut_some l1)]
  rw [opsX_cons (v := .int .i64 m) (valX_conv h.g2 h.o2 get_self hc) (by rw [h.t2]; exact doPut_some l2)]
  rw [opsX_cons (v := .int .i64 m) (valX_assign h.g3 h.o3 get_self) (by rw [h.t3]; exact doPut_some l3)]
  rfl
end Go.Proofs.YtkbnhccfnimibaaGreatDoor
