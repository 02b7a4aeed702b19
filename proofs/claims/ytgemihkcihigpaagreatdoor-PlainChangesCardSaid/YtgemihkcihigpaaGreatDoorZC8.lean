/- PlainChanges, the tied card: an update changes exactly the rows that satisfy its condition, using their old values, a delete removes exactly these, and an inserted row is counted. Conditions: none beyond the row's own. -/
import Derived.Test.YtgemihkcihigpaaGreatDoorTie
import Derived.Test.YtgemihkcihigpaaGreatDoorCards
import Derived.Test.YtgemihkcihigpaaGreatDoorZB35
import Derived.Test.YtgemihkcihigpaaGreatDoorZB36
import Derived.Test.YtgemihkcihigpaaGreatDoorZC7
set_option linter.unusedVariables false
set_option linter.unusedSimpArgs false
namespace Go.Proofs.YtgemihkcihigpaaGreatDoor
section
open Go.ChangeShapes Go.WideShapes Go.ChangeAt Go.RowKit
theorem chg_law {al : Option Addr} {cl : Nat} {l : List Int} {w : World} (sl : SlV intR (fun _ => True) w (.slice al l.length cl) l) (_ : ∀ x ∈ l, Rng x) (n : Int) (_ : -9223372036854775808 <= n /\ n <= 9223372036854775807) (add : Int) (_ : -9223372036854775808 <= add /\ add <= 9223372036854775807) (hK : KindsAt w) :
 Calls Tryz.prog 10 #[.slice al l.length cl, .int .i64 n, .int .i64 add] w fun e w' => e = .returned (.bool true) /\ Below w.heap.size w w' := chg_walk sl hK
set_option maxRecDepth 100000 in
theorem plainChanges_lifted (os : Os) (started : os.Started) (H : Type) (enc : TypeId × Value -> H) :
 ReturnsInHanded {} Tryz.checked os 10 .any (fun w args => (Rows.plainChangesSpec.pre enc Tryz.prog Tryz.f10 [] false w args /\ laidMetH Tryz.prog Rows.plainChangesRow.laid w) /\ sizedMet enc Tryz.prog Tryz.f10 (OpenSpec.ofChange Rows.plainChangesSpec) false w args) (Rows.plainChangesSpec.post enc Tryz.prog Tryz.f10 false true false false) := by
 refine returns_laid (C := Tryz.checked) Tryz.own started (by kernel_rfl) Tryz.func10
  (ChangeSpec.witness_shaped (enc := enc) (C := Tryz.checked) (os := os) (X := fun w _ => laidMetH Tryz.prog Rows.plainChangesRow.laid w) false (laidWorld os) #[.slice none 0 0, .int .i64 0, .int .i64 0] 8 rfl (World.shaped_of_RefB (by kernel_rfl) (by kernel_rfl)) (by kernel_rfl) (by kernel_rfl) (by kernel_rfl) (door_met os _)) ?_
 intro W base args ds gs before hval0 hW hsz0 hL hSh
 have hval : ∀ (j : Nat) t v, Tryz.f10.params[j]? = some t -> args[j]? = some v -> Value.okWide Tryz.prog W .any base t v := hval0
 have hsz : (DataW.weightsEach Tryz.prog (Tryz.f10.params.toList ++ Rows.plainChangesSpec.plain.varTypes Tryz.prog) (ds ++ gs)).all (· <= reachBytes) = true := hsz0
 clear hsz0 hval0
 have hW' := hW
 obtain ⟨p, q, hA0, hV, rfl, hfz, hnd⟩ := hW
 have hA : DataW.TrodAll enc Tryz.prog W 0 (fun _ => true) true Tryz.f10.params.toList args.toList ds p := hA0
 rw [Tryz.params10] at hA hval hsz
 obtain ⟨v0, vs0, d0, ds0, p0, q0, hargs, rfl, rfl, h0, r0⟩ := trodAll_cons hA
 obtain ⟨v1, vs1, d1, ds1, p1, q1, rfl, rfl, rfl, h1, r1⟩ := trodAll_cons r0
 obtain ⟨v2, vs2, d2, ds2, p2, q2, rfl, rfl, rfl, h2, r2⟩ := trodAll_cons r1
 obtain ⟨rfl, rfl, rfl⟩ := trodAll_nil r2
 obtain rfl : args = #[v0, v1, v2] := by cases args; simp_all
 obtain ⟨rfl, rfl⟩ := trodVars_none hV
 obtain ⟨_, _, _, rfl, s0, g0⟩ := open_ints (hval 0 22 v0 rfl rfl) h0 hsz (j := 0) rfl rfl
 obtain ⟨n, rfl, rfl, rfl, wn⟩ := open_int Tryz.underlying2 (hval 1 2 v1 rfl rfl) h1
 have bdn : -9223372036854775808 <= n /\ n <= 9223372036854775807 := by simpa [Lit.wf, IntKind.min, IntKind.max, IntKind.signed, IntKind.bits] using wn
 obtain ⟨add, rfl, rfl, rfl, wadd⟩ := open_int Tryz.underlying2 (hval 2 2 v2 rfl rfl) h2
 have bdadd : -9223372036854775808 <= add /\ add <= 9223372036854775807 := by simpa [Lit.wf, IntKind.min, IntKind.max, IntKind.signed, IntKind.bits] using wadd
 clear hA0
 refine (chg_law s0 g0 n bdn add bdadd (kinds_of_laid (List.mem_cons_self ..) hL)).mono fun e W' ⟨he, hb⟩ => ?_
 subst he
 exact ⟨_, rfl, law_post Tryz.laidOut (by kernel_rfl) rfl Tryz.underlying4 rfl rfl hW' hb⟩
theorem plainChanges_holds : Rows.PlainChangesSaid :=
 OpenClaim.holds_of_wide 10 Tryz.f10 rfl rfl rfl rfl rfl rfl rfl ⟨rfl, rfl, rfl, rfl, rfl⟩ rfl rfl rfl rfl rfl (by kernel_rfl) Tryz.func10 (by kernel_rfl)
  (of_decide_eq_true (by kernel_rfl)) (by unfold Func.isWrapper; first | (rw [if_pos (by decide +kernel)]; kernel_rfl) | (rw [if_neg (by decide +kernel)]; exact ⟨rfl, rfl⟩))
  (fun os started H enc _ => plainChanges_lifted os started H enc)
end
section
open Go
theorem plainChanges_card : Rows.PlainChangesCardSaid :=
 Claim7.holds_tied_plain_at .later [] _ _ _ _ plainChanges_holds (fun _ h => by cases h) (by kernel_rfl) (fun _ h => by cases h) plainChanges_row_tie rfl ⟨rfl, rfl⟩ (by kernel_rfl) rfl
  (fun f fn hf hfn => by
   obtain rfl : f = 10 := (Option.some.inj ((show Tryz.prog.funcNamed Tryz.f10.name = some 10 by kernel_rfl).symm.trans hf)).symm
   obtain rfl : fn = Tryz.f10 := (Option.some.inj (Tryz.func10.symm.trans hfn)).symm
   refine ⟨by kernel_rfl, fun j t ht => ?_⟩
   have h := List.all_eq_true.1 (show Tryz.f10.params.toList.all (fun t => !Tryz.prog.wantsStandIn t) = true by kernel_rfl) t (List.mem_of_getElem? (by simpa using ht))
   exact (by simpa using h : Tryz.prog.wantsStandIn t = false))
  (by kernel_rfl)
end
end Go.Proofs.YtgemihkcihigpaaGreatDoor
