/- SerialTimes: its runs, as they are asked; its two regions that take residues. -/
import Derived.Test.YtkbnhccfnimibaaGreatDoorRsSym
namespace Go.Proofs.YtkbnhccfnimibaaGreatDoor
set_option linter.unusedVariables false
set_option linter.unusedSimpArgs false
open Go.RowKit Go.Rx

def vU (n : Nat) : Value := .int .u8 (.ofNat n)
def vI (n : Nat) : Value := .int .i64 (.ofNat n)
noncomputable def timesPre (n k : Nat) : Option ((Ex × Tm) × St) := (preRun (exeZ Tryz.prog 10 known2 6000).2 Tryz.f3.ntmps 2 (bodyOf Tryz.f3) (argA [vU n, vU k] 0)).run ⟨10, H0, 0, 0⟩
noncomputable def timesMid (m n k : Nat) : Option ((Ex × Tm) × St) := match timesPre n k with
  | some ((.normal, A), s) => (preRun (exeZ Tryz.prog 10 known2 6000).2 Tryz.f3.ntmps 7 (dropC 3 (bodyOf Tryz.f3)) (((((A.set 19 (vU n)).set 20 (vU m)).set 21 (vI m)).set 22 (vI (m + 1))).set 6 (vI (m + 1)))).run s
  | _ => none
noncomputable def timesRun (m x n k : Nat) : Bool := match timesMid m n k with
  | some ((.normal, A), s) => endsAs Tryz.prog Tryz.f3 (.bool true) (((exeZ Tryz.prog 10 known2 6000).2 Tryz.f3.ntmps (dropC 11 (bodyOf Tryz.f3)) (((((A.set 68 (vU k)).set 69 (vI k)).set 70 (vI (m + 1))).set 71 (vI x)).set 14 (vI x))).run s)
  | _ => false
set_option maxRecDepth 1000000
theorem times_get (n k : Nat) : (timesPre n k).bind (fun p => p.1.2.get 0) = some (vU n) := by kernel_rfl
noncomputable def reg1 : Code := fstC (dropC 2 (bodyOf Tryz.f3))
noncomputable def reg2 : Code := fstC (dropC 10 (bodyOf Tryz.f3))
theorem blt_of {a b : Nat} (h : a < b) : Nat.blt a b = true := Nat.ble_eq_true_of_le h
theorem conv8 {k : Nat} (h : k < 256) : xconv Tryz.prog 5 3 (vU k) = some (vI k) := by
  have h1 : Tryz.prog.underlying 5 = some (.int .u8) := by kernel_rfl
  have h2 : Tryz.prog.underlying 3 = some (.int .i64) := by kernel_rfl
  unfold xconv vU
  rw [h1, h2]
  show mkI .i64 (wr .i64 (.ofNat k)) = _
  have : wr .i64 (Int.ofNat k) = Int.ofNat k := by
    show (match Nat.blt k 9223372036854775808 with | true => Int.ofNat k | false => _) = _
    rw [blt_of (by omega)]
  rw [this]
  unfold mkI
  rw [fI_eq]
  rfl
theorem remU {n m : Nat} (h : n % 5 = m) : xbin .rem (vU n) (.int .u8 5) = some (vU m) := by
  show mkI .u8 (Int.tmod (.ofNat n) 5) = _
  have : Int.tmod (.ofNat n) 5 = .ofNat m := by rw [← h]; rfl
  rw [this]
  unfold mkI
  rw [fI_eq]
  rfl
theorem remI {k m x : Nat} (h : k % (m + 1) = x) : xbin .rem (vI k) (vI (m + 1)) = some (vI x) := by
  show (match eqI (Int.ofNat (m + 1)) 0 with | true => none | false => mkI .i64 (Int.tmod (.ofNat k) (.ofNat (m + 1)))) = _
  have h1 : eqI (Int.ofNat (m + 1)) 0 = false := by
    rw [eqI_eq]
    exact beq_eq_false_iff_ne.2 (fun e => by cases e)
  have h2 : Int.tmod (.ofNat k) (.ofNat (m + 1)) = .ofNat x := by rw [← h]; rfl
  rw [h1, h2]
  unfold mkI
  rw [fI_eq]
  rfl
theorem addI0 : xbin .add (.int .i64 1) (vI 0) = some (vI 1) := by kernel_rfl
theorem addI1 : xbin .add (.int .i64 1) (vI 1) = some (vI 2) := by kernel_rfl
theorem addI2 : xbin .add (.int .i64 1) (vI 2) = some (vI 3) := by kernel_rfl
theorem addI3 : xbin .add (.int .i64 1) (vI 3) = some (vI 4) := by kernel_rfl
theorem addI4 : xbin .add (.int .i64 1) (vI 4) = some (vI 5) := by kernel_rfl
theorem addI {m : Nat} (h : m < 5) : xbin .add (.int .i64 1) (vI m) = some (vI (m + 1)) := by
  have : m = 0 ∨ m = 1 ∨ m = 2 ∨ m = 3 ∨ m = 4 := by omega
  rcases this with e | e | e | e | e <;> rw [e]
  · exact addI0
  · exact addI1
  · exact addI2
  · exact addI3
  · exact addI4
theorem reg1_ops : (opsOf reg1).toList = [opAt reg1 0, opAt reg1 1, opAt reg1 2, opAt reg1 3, opAt reg1 4] := by kernel_rfl
theorem reg1_is : reg1 = .region 2 (opsOf reg1) false := by kernel_rfl
theorem reg1_run {call : CallX} {A : Tm} {n m : Nat} (h0 : A.get 0 = some (vU n)) (hm : n % 5 = m) (hl : m < 5) :
    opsX Tryz.prog 10 call Tryz.f3.ntmps (opsOf reg1).toList (opsOf reg1).toList A = X.pure (((((A.set 19 (vU n)).set 20 (vU m)).set 21 (vI m)).set 22 (vI (m + 1))).set 6 (vI (m + 1))) := by
  suffices hh : ∀ l, l = (opsOf reg1).toList → opsX Tryz.prog 10 call Tryz.f3.ntmps l (opsOf reg1).toList A = X.pure (((((A.set 19 (vU n)).set 20 (vU m)).set 21 (vI m)).set 22 (vI (m + 1))).set 6 (vI (m + 1))) from hh _ rfl
  intro l _
  rw [reg1_ops]
  rw [opsX_cons (v := vU n) (valX_move (x := .tmp 0) (by kernel_rfl) (by kernel_rfl) h0) (by rw [show (opAt reg1 0).dst = some 19 by kernel_rfl]; exact doPut_some (by kernel_rfl))]
  rw [opsX_cons (v := vU m) (valX_bin (op := .rem) (t := 5) (r := 5) (x := .tmp 19) (y := .const (.int .u8 5)) (by kernel_rfl) (by kernel_rfl) get_self rfl (remU hm)) (by rw [show (opAt reg1 1).dst = some 20 by kernel_rfl]; exact doPut_some (by kernel_rfl))]
  rw [opsX_cons (v := vI m) (valX_conv (s := 5) (d := 3) (x := .tmp 20) (by kernel_rfl) (by kernel_rfl) get_self (conv8 (by omega))) (by rw [show (opAt reg1 2).dst = some 21 by kernel_rfl]; exact doPut_some (by kernel_rfl))]
  rw [opsX_cons (v := vI (m + 1)) (valX_bin (op := .add) (t := 3) (r := 3) (x := .const (.int .i64 1)) (y := .tmp 21) (by kernel_rfl) (by kernel_rfl) rfl get_self (addI hl)) (by rw [show (opAt reg1 3).dst = some 22 by kernel_rfl]; exact doPut_some (by kernel_rfl))]
  rw [opsX_cons (v := vI (m + 1)) (valX_assign (x := .tmp 22) (by kernel_rfl) (by kernel_rfl) get_self) (by rw [show (opAt reg1 4).dst = some 6 by kernel_rfl]; exact doPut_some (by kernel_rfl))]
  rfl
theorem get_set_ne {A : Tm} {i j : Nat} {v : Value} (h : i ≠ j) : (A.set i v).get j = A.get j := by rw [T.get_set, if_neg h]
theorem reg2_ops : (opsOf reg2).toList = [opAt reg2 0, opAt reg2 1, opAt reg2 2, opAt reg2 3, opAt reg2 4] := by kernel_rfl
theorem reg2_is : reg2 = .region 18 (opsOf reg2) false := by kernel_rfl
theorem reg2_run {call : CallX} {A : Tm} {k m x : Nat} (h1 : A.get 1 = some (vU k)) (h6 : A.get 6 = some (vI (m + 1))) (hm : k % (m + 1) = x) (hk : k < 256) :
    opsX Tryz.prog 10 call Tryz.f3.ntmps (opsOf reg2).toList (opsOf reg2).toList A = X.pure (((((A.set 68 (vU k)).set 69 (vI k)).set 70 (vI (m + 1))).set 71 (vI x)).set 14 (vI x)) := by
  suffices hh : ∀ l, l = (opsOf reg2).toList → opsX Tryz.prog 10 call Tryz.f3.ntmps l (opsOf reg2).toList A = X.pure (((((A.set 68 (vU k)).set 69 (vI k)).set 70 (vI (m + 1))).set 71 (vI x)).set 14 (vI x)) from hh _ rfl
  intro l _
  rw [reg2_ops]
  rw [opsX_cons (v := vU k) (valX_move (x := .tmp 1) (by kernel_rfl) (by kernel_rfl) h1) (by rw [show (opAt reg2 0).dst = some 68 by kernel_rfl]; exact doPut_some (by kernel_rfl))]
  rw [opsX_cons (v := vI k) (valX_conv (s := 5) (d := 3) (x := .tmp 68) (by kernel_rfl) (by kernel_rfl) get_self (conv8 hk)) (by rw [show (opAt reg2 1).dst = some 69 by kernel_rfl]; exact doPut_some (by kernel_rfl))]
  rw [opsX_cons (v := vI (m + 1)) (valX_move (x := .tmp 6) (by kernel_rfl) (by kernel_rfl) (by
    show ((A.set 68 (vU k)).set 69 (vI k)).get 6 = _
    rw [get_set_ne (by decide), get_set_ne (by decide)]; exact h6)) (by rw [show (opAt reg2 2).dst = some 70 by kernel_rfl]; exact doPut_some (by kernel_rfl))]
  rw [opsX_cons (v := vI x) (valX_bin (op := .rem) (t := 3) (r := 3) (x := .tmp 69) (y := .tmp 70) (by kernel_rfl) (by kernel_rfl) (by
    show (((A.set 68 (vU k)).set 69 (vI k)).set 70 (vI (m + 1))).get 69 = some (vI k)
    rw [get_set_ne (by decide)]; exact get_self) get_self (remI hm)) (by rw [show (opAt reg2 3).dst = some 71 by kernel_rfl]; exact doPut_some (by kernel_rfl))]
  rw [opsX_cons (v := vI x) (valX_assign (x := .tmp 71) (by kernel_rfl) (by kernel_rfl) get_self) (by rw [show (opAt reg2 4).dst = some 14 by kernel_rfl]; exact doPut_some (by kernel_rfl))]
  rfl
end Go.Proofs.YtkbnhccfnimibaaGreatDoor
