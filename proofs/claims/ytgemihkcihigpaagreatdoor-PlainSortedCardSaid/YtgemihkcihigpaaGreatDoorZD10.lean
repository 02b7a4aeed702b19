/- PlainSorted, the tied card: for arbitrary rows and sort columns, Sorted returns the rows in the order of the reference; Same agrees with the reference, is reflexive, and sorting twice changes nothing. Conditions: none beyond the row's own. -/
import Derived.Test.YtgemihkcihigpaaGreatDoorTie
import Derived.Test.YtgemihkcihigpaaGreatDoorCards
import Derived.Test.YtgemihkcihigpaaGreatDoorZB36
import Derived.Test.YtgemihkcihigpaaGreatDoorZD8
import Derived.Test.YtgemihkcihigpaaGreatDoorZD9
set_option linter.unusedVariables false
set_option linter.unusedSimpArgs false
namespace Go.Proofs.YtgemihkcihigpaaGreatDoor
section
open Go.ChangeShapes Go.WideShapes Go.ChangeAt Go.RowKit
theorem srt_law {al ay a0 a1 : Option Addr} {cl cy c0 c1 : Nat} {l L0 L1 : List (List Val)} {N : List Int} {e0 k0 e1 k1 : Int} {w : World} (sl : SlV rowR (fun _ => True) w (.slice al l.length cl) l) (fl : FineL l) (sn : SlV intR (fun _ => True) w (.slice ay N.length cy) N) (_ : ∀ x ∈ N, Rng x)
 (s0 : SlV rowR (fun _ => True) w (.slice a0 L0.length c0) L0) (f0 : FineL L0) (s1 : SlV rowR (fun _ => True) w (.slice a1 L1.length c1) L1) (f1 : FineL L1) (hK : KindsAt w) :
 Calls Tryz.prog 8 #[.slice al l.length cl, .slice ay N.length cy, .agg #[.int .i64 e0, .slice a0 L0.length c0, .int .i64 k0, .int .i64 e1, .slice a1 L1.length c1, .int .i64 k1]] w fun e w' => e = .returned (.bool true) /\ Below w.heap.size w w' := srt_walk sl fl sn s0 f0 s1 f1 hK
set_option maxRecDepth 100000 in
theorem plainSorted_lifted (os : Os) (started : os.Started) (H : Type) (enc : TypeId × Value -> H) :
 ReturnsInHanded {} Tryz.checked os 8 .any (fun w args => (Rows.plainSortedSpec.pre enc Tryz.prog Tryz.f8 [] false w args /\ laidMetH Tryz.prog Rows.plainSortedRow.laid w) /\ sizedMet enc Tryz.prog Tryz.f8 (OpenSpec.ofChange Rows.plainSortedSpec) false w args) (Rows.plainSortedSpec.post enc Tryz.prog Tryz.f8 false true false false) := by
 refine returns_laid (C := Tryz.checked) Tryz.own started (by kernel_rfl) Tryz.func8
  (ChangeSpec.witness_shaped (enc := enc) (C := Tryz.checked) (os := os) (X := fun w _ => laidMetH Tryz.prog Rows.plainSortedRow.laid w) false (laidWorld os) #[.slice none 0 0, .slice none 0 0, .agg #[.int .i64 0, .slice none 0 0, .int .i64 0, .int .i64 0, .slice none 0 0, .int .i64 0]] 8 rfl (World.shaped_of_RefB (by kernel_rfl) (by kernel_rfl)) (by kernel_rfl) (by kernel_rfl) (by kernel_rfl) (door_met os _)) ?_
 intro W base args ds gs before hval0 hW hsz0 hL hSh
 have hval : ∀ (j : Nat) t v, Tryz.f8.params[j]? = some t -> args[j]? = some v -> Value.okWide Tryz.prog W .any base t v := hval0
 have hsz : (DataW.weightsEach Tryz.prog (Tryz.f8.params.toList ++ Rows.plainSortedSpec.plain.varTypes Tryz.prog) (ds ++ gs)).all (· <= reachBytes) = true := hsz0
 clear hsz0 hval0
 have hW' := hW
 obtain ⟨p, q, hA0, hV, rfl, hfz, hnd⟩ := hW
 have hA : DataW.TrodAll enc Tryz.prog W 0 (fun _ => true) true Tryz.f8.params.toList args.toList ds p := hA0
 rw [Tryz.params8] at hA hval hsz
 obtain ⟨v0, vs0, d0, ds0, p0, q0, hargs, rfl, rfl, h0, r0⟩ := trodAll_cons hA
 obtain ⟨v1, vs1, d1, ds1, p1, q1, rfl, rfl, rfl, h1, r1⟩ := trodAll_cons r0
 obtain ⟨v2, vs2, d2, ds2, p2, q2, rfl, rfl, rfl, h2, r2⟩ := trodAll_cons r1
 obtain ⟨rfl, rfl, rfl⟩ := trodAll_nil r2
 obtain rfl : args = #[v0, v1, v2] := by cases args; simp_all
 obtain ⟨rfl, rfl⟩ := trodVars_none hV
 obtain ⟨_, _, _, rfl, s0, g0⟩ := open_rrows (hval 0 41 v0 rfl rfl) h0 hsz (j := 0) rfl rfl
 obtain ⟨_, _, _, rfl, s1, g1⟩ := open_ints (hval 1 22 v1 rfl rfl) h1 hsz (j := 1) rfl rfl
 obtain ⟨_, _, _, _, _, _, _, _, _, _, rfl, g2a, g2b, g2c, g2d⟩ := open_ans2 (hval 2 66 v2 rfl rfl) h2 hsz (j := 2) rfl rfl
 clear hA0
 refine (srt_law s0 g0 s1 g1 g2a g2b g2c g2d (kinds_of_laid (List.mem_cons_self ..) hL)).mono fun e W' ⟨he, hb⟩ => ?_
 subst he
 exact ⟨_, rfl, law_post Tryz.laidOut (by kernel_rfl) rfl Tryz.underlying4 rfl rfl hW' hb⟩
theorem plainSorted_holds : Rows.PlainSortedSaid :=
 OpenClaim.holds_of_wide 8 Tryz.f8 rfl rfl rfl rfl rfl rfl rfl ⟨rfl, rfl, rfl, rfl, rfl⟩ rfl rfl rfl rfl rfl (by kernel_rfl) Tryz.func8 (by kernel_rfl)
  (of_decide_eq_true (by kernel_rfl)) (by unfold Func.isWrapper; first | (rw [if_pos (by decide +kernel)]; kernel_rfl) | (rw [if_neg (by decide +kernel)]; exact ⟨rfl, rfl⟩))
  (fun os started H enc _ => plainSorted_lifted os started H enc)
end
section
open Go
theorem plainSorted_card : Rows.PlainSortedCardSaid :=
 Claim7.holds_tied_plain_at .later [] _ _ _ _ plainSorted_holds (fun _ h => by cases h) (by kernel_rfl) (fun _ h => by cases h) plainSorted_row_tie rfl ⟨rfl, rfl⟩ (by kernel_rfl) rfl
  (fun f fn hf hfn => by
   obtain rfl : f = 8 := (Option.some.inj ((show Tryz.prog.funcNamed Tryz.f8.name = some 8 by kernel_rfl).symm.trans hf)).symm
   obtain rfl : fn = Tryz.f8 := (Option.some.inj (Tryz.func8.symm.trans hfn)).symm
   refine ⟨by kernel_rfl, fun j t ht => ?_⟩
   have h := List.all_eq_true.1 (show Tryz.f8.params.toList.all (fun t => !Tryz.prog.wantsStandIn t) = true by kernel_rfl) t (List.mem_of_getElem? (by simpa using ht))
   exact (by simpa using h : Tryz.prog.wantsStandIn t = false))
  (by kernel_rfl)
end
end Go.Proofs.YtgemihkcihigpaaGreatDoor
