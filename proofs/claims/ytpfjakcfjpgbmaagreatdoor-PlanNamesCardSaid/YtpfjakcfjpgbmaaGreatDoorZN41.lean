/- PlanNames: its regions that take residues. PlanNames: its runs, as they are asked. -/
import Derived.Test.YtpfjakcfjpgbmaaGreatDoorZN40
namespace Go.Proofs.YtpfjakcfjpgbmaaGreatDoor
set_option linter.unusedVariables false
set_option linter.unusedSimpArgs false
open Go.RowKit Go.Rx

section
variable {P : Program} {N0 : Nat}
theorem bindX_assoc {α β γ : Type} (m : X α) (f : α → X β) (g : β → X γ) : (m.bind f).bind g = m.bind fun a => (f a).bind g := X.ext fun s => by
  show (match (match m.run s with | some (a, s) => (f a).run s | none => none) with | some (b, s) => (g b).run s | none => none) = (match m.run s with | some (a, s) => ((f a).bind g).run s | none => none)
  cases m.run s with
  | none => rfl
  | some p => rfl
theorem opsX_app {call : CallX} {n : Nat} {ops : List Oper} : ∀ (l m : List Oper) (A : Tm), opsX P N0 call n ops (l ++ m) A = (opsX P N0 call n ops l A).bind fun A => opsX P N0 call n ops m A
  | [], m, A => by
    rw [List.nil_append]
    show _ = (X.pure A).bind _
    rw [X.pure_bind]
  | o :: l, m, A => by
    rw [List.cons_append, opsX, opsX, bindX_assoc]
    congr 1
    funext v
    split
    · exact opsX_app l m _
    · rfl
theorem runX_bind {α β : Type} {m : X α} {f : α → X β} {s s1 : St} {a : α} (h : m.run s = some (a, s1)) : (m.bind f).run s = (f a).run s1 := by
  show (match m.run s with | some (a, s) => (f a).run s | none => none) = _
  rw [h]
/-- A region with a call whose result is known: two operations, the call, the rest. -/
noncomputable def stepX (P : Program) (N0 : Nat) (call : CallX) (n : Nat) (c : Code) (d : Nat) (v : Value) (A : Tm) (s : St) : Option ((Value × Tm) × St) :=
  match (opsX P N0 call n (opsOf c).toList ((opsOf c).toList.take 2) A).run s with
  | some (A1, s1) => match (opsX P N0 call n (opsOf c).toList ((opsOf c).toList.drop 3) (A1.set d v)).run s1 with
    | some (A2, s2) => some (((A1.get (d - 1)).getD (.bool false), A2), s2)
    | none => none
  | none => none
theorem stepX_ok {call : CallX} {n d : Nat} {c : Code} {x : Value} {v : Value} {A A' : Tm} {s s' : St} {o : Oper} (h : stepX P N0 call n c d v A s = some ((x, A'), s'))
    (hl : (opsOf c).toList = (opsOf c).toList.take 2 ++ o :: (opsOf c).toList.drop 3) (hx : (∀ b, x ≠ .bool b)) (hc : ∀ A1 : Tm, A1.get (d - 1) = some x → valX P N0 call (opsOf c).toList A1 o = X.pure v) (ho : o.dst = some d) (hd : Nat.blt d n = true) :
    (opsX P N0 call n (opsOf c).toList (opsOf c).toList A).run s = some (A', s') := by
  unfold stepX at h
  split at h
  case h_2 => cases h
  case h_1 A1 s1 h1 =>
    split at h
    case h_2 => cases h
    case h_1 A2 s2 h2 =>
      simp only [Option.some.injEq, Prod.mk.injEq] at h
      obtain ⟨⟨e1, rfl⟩, rfl⟩ := h
      have e2 : A1.get (d - 1) = some x := by
        cases e : A1.get (d - 1) with
        | none => rw [e] at e1; exact (hx false e1.symm).elim
        | some y => rw [e] at e1; rw [← e1]; rfl
      have key : opsX P N0 call n (opsOf c).toList ((opsOf c).toList.take 2 ++ o :: (opsOf c).toList.drop 3) A =
          (opsX P N0 call n (opsOf c).toList ((opsOf c).toList.take 2) A).bind fun A => opsX P N0 call n (opsOf c).toList (o :: (opsOf c).toList.drop 3) A := opsX_app _ _ _
      rw [← hl] at key
      rw [key, runX_bind h1, opsX_cons (hc A1 e2) (by rw [ho]; exact doPut_some hd)]
      exact h2
theorem region_runS {K : Known P N0} {k id n : Nat} {ops : Array Oper} {A A' : Tm} {s s' : St} (h : (opsX P N0 (exe P N0 K k).1 n ops.toList ops.toList A).run s = some (A', s')) :
    ((exeZ P N0 K (k + 1)).2 n (.region id ops false) A).run s = some ((.normal, A'), s') := by
  rw [← exeZ_eq]
  show ((opsX P N0 (exe P N0 K k).1 n ops.toList ops.toList A).bind fun A => X.pure (Ex.normal, A)).run s = _
  rw [runX_bind h]
  rfl
end
theorem yields_calls {P : Program} {N0 : Nat} {w : World} (hF : Fit P) {f : FuncId} {fn : Func} {c : Code} {v : Value} {args : List Value} (hfn : P.funcs[f]? = some fn) (hc : fn.body = some c) (hlen : args.length ≤ fn.ntmps) (hp : ∀ ρ u, u ∈ args → VRel ρ u u)
    {H0 : T AObj} {ρ0 : Go.Rx.Ren} (hr : Rel N0 w.heap.size w ρ0 H0 w) (hy : Go.Rx.Yields P N0 w.heap.size w fn v c (argA args 0) H0) :
    Calls P f ⟨args⟩ w fun e w' => e = .returned v ∧ ∃ ρ' h', Rel N0 w.heap.size w ρ' h' w' := by
  refine calls_of_wp_defers hfn hc ?_
  refine Code.wp_mono ?_ (hy ρ0 w _ hr ⟨by simp; omega, fun d hd => (by cases hd), fun t u hu => ?_⟩)
  · rintro x a' w' ⟨hx, hd, he, hr'⟩
    rcases hx with rfl | rfl
    · exact leaves_idle he ⟨rfl, hr'⟩ _ hd
    · exact leaves_idle he ⟨rfl, hr'⟩ _ hd
  · obtain ⟨_, h2⟩ := argA_get hu
    rw [Nat.sub_zero] at h2
    have hlt : t < args.length := (List.getElem?_eq_some_iff.1 h2).1
    have hm := hp ρ0 u (List.mem_of_getElem? h2)
    simp only [Array.getD_eq_getD_getElem?, Array.getElem?_append, List.size_toArray, hlt, if_true, List.getElem?_toArray, h2, Option.getD_some]
    exact hm
theorem call_rest {x : Int} {m k : Nat} (h1 : Nat.ble 1 m = true) (h2 : Nat.ble m 1000 = true) : (exe Tryz.prog 12 known3 (k + 1)).1.run 10 [.int .i64 x, .int .i64 (.ofNat m)] = X.pure (.int .i64 (restOf x (.ofNat m))) := by
  show callF Tryz.prog known3 (exe Tryz.prog 12 known3 k).2 10 [.int .i64 x, .int .i64 (.ofNat m)] = _
  unfold callF
  have e1 : (known3.fn 10).bind (fun g => g [.int .i64 x, .int .i64 (.ofNat m)]) = none := rfl
  have e2 : known3.op 10 = some restM := rfl
  rw [e1, e2]
  show restM [.int .i64 x, .int .i64 (.ofNat m)] = _
  unfold restM
  dsimp only
  rw [h1, h2]
theorem valX_rest {ops : List Oper} {A : Tm} {o : Oper} {t : Nat} {ts : Array TypeId} {x : Int} {m k : Nat} (hg : o.guard = none) (ho : o.op = .call ⟨.value (.func 10), #[.tmp t, .const (.int .i64 (.ofNat m))], ts⟩)
    (hx : A.get t = some (.int .i64 x)) (h1 : Nat.ble 1 m = true) (h2 : Nat.ble m 1000 = true) : valX Tryz.prog 12 (exe Tryz.prog 12 known3 (k + 1)).1 ops A o = X.pure (.int .i64 (restOf x (.ofNat m))) := by
  unfold valX wantX
  rw [hg]
  simp only [ho]
  have e : evs (ev 12 A) (#[Operand.tmp t, Operand.const (.int .i64 (.ofNat m))] : Array Operand).toList = some [.int .i64 x, .int .i64 (.ofNat m)] := by
    have e0 : ev 12 A (.tmp t) = some (.int .i64 x) := hx
    have e1 : ev 12 A (.const (.int .i64 (.ofNat m))) = some (.int .i64 (.ofNat m)) := rfl
    simp only [evs, e0, e1]
  rw [e]
  show (fL ([] ++ ([.int .i64 x, .int .i64 (.ofNat m)] ++ [])) fun l => (exe Tryz.prog 12 known3 (k + 1)).1.run 10 l) = _
  rw [fL_eq]
  exact call_rest h1 h2
end Go.Proofs.YtpfjakcfjpgbmaaGreatDoor

namespace Go.Proofs.YtpfjakcfjpgbmaaGreatDoor
set_option linter.unusedVariables false
set_option linter.unusedSimpArgs false
open Go.RowKit Go.Rx

def vN (n : Int) : Value := .int .i64 n
def vI (n : Nat) : Value := .int .i64 (.ofNat n)
noncomputable def bodyN : Code := bodyOf Tryz.f3
noncomputable def reg0 : Code := fstC (dropC 7 bodyN)
noncomputable def reg1 : Code := fstC (dropC 8 bodyN)
noncomputable def reg2 : Code := fstC (dropC 9 bodyN)
noncomputable def reg3 : Code := fstC (dropC 11 bodyN)
noncomputable def call0 : CallX := (exe Tryz.prog 12 known3 5999).1
noncomputable def preN (b : Bool) (n0 n1 n2 n3 : Int) : Option ((Ex × Tm) × St) := (preRun (exeZ Tryz.prog 12 known3 6000).2 Tryz.f3.ntmps 7 bodyN (argA [.agg ⟨[vN n0, vN n1, vN n2, vN n3]⟩, .bool b] 0)).run ⟨12, H0, 0, 0⟩
noncomputable def tailN (x y z j : Nat) (p : Option ((Ex × Tm) × St)) : Option (Value × Value × Value × Value × Bool) := match p with
  | some ((.normal, A), s) => match stepX Tryz.prog 12 call0 Tryz.f3.ntmps reg0 71 (vI x) A s with
    | some ((u0, A), s) => match stepX Tryz.prog 12 call0 Tryz.f3.ntmps reg1 76 (vI y) A s with
      | some ((u1, A), s) => match stepX Tryz.prog 12 call0 Tryz.f3.ntmps reg2 81 (vI z) A s with
        | some ((u2, A), s) => match (preRun (exeZ Tryz.prog 12 known3 6000).2 Tryz.f3.ntmps 1 (dropC 10 bodyN) A).run s with
          | some ((.normal, A), s) => match stepX Tryz.prog 12 call0 Tryz.f3.ntmps reg3 94 (vI j) A s with
            | some ((u3, A), s) => some (u0, u1, u2, u3, endsAs Tryz.prog Tryz.f3 (.bool true) (((exeZ Tryz.prog 12 known3 6000).2 Tryz.f3.ntmps (dropC 12 bodyN) A).run s))
            | none => none
          | _ => none
        | none => none
      | none => none
    | none => none
  | _ => none
noncomputable def runN (b : Bool) (j x y z : Nat) (n0 n1 n2 n3 : Int) : Option (Value × Value × Value × Value × Bool) := tailN x y z j (preN b n0 n1 n2 n3)
def okN (n0 n1 n2 n3 : Int) : Option (Value × Value × Value × Value × Bool) := some (vN n0, vN n1, vN n2, vN n3, true)
theorem six_eq {α : Type} {f : Nat → α} {b : α} (h : [f 0, f 1, f 2, f 3, f 4, f 5] = [b, b, b, b, b, b]) {z : Nat} (hz : z < 6) : f z = b := by
  simp only [List.cons.injEq, and_true] at h
  obtain ⟨h0, h1, h2, h3, h4, h5⟩ := h
  rcases six hz with rfl | rfl | rfl | rfl | rfl | rfl <;> assumption
end Go.Proofs.YtpfjakcfjpgbmaaGreatDoor
