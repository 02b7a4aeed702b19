/- vintnerref02.Rows: rows one before the other. -/
import Derived.Test.YtgemihkcihigpaaGreatDoorZB17
import Derived.Test.YtgemihkcihigpaaGreatDoorZD1
set_option linter.unusedVariables false
set_option linter.unusedSimpArgs false
namespace Go.Proofs.YtgemihkcihigpaaGreatDoor
open Go.Lib (hid)
section
open Go.RowKit
def FineR (r : List Val) : Prop := ∀ v ∈ r, v.s.size <= 140737488355328
theorem ordI_len (a b : Nat) : ordI (decide (a < b)) (decide (b < a)) = cmpN (a : Int) (b : Int) := by
 unfold cmpN ordI
 by_cases h1 : a < b
 · simp [h1]
 · by_cases h2 : b < a
   · simp [h1, h2]
   · simp [h1, h2]
set_option maxRecDepth 100000 in
set_option maxHeartbeats 4000000 in
theorem rrows_any {p q : Nat -> Prop} {aa ab : Option Addr} {ca cb : Nat} {A B : List Val} {w : World} (hA : SlV valR p w (.slice aa A.length ca) A) (hB : SlV valR q w (.slice ab B.length cb) B) (hs : FineR A) :
 Calls Tryz.prog 119 #[.slice aa A.length ca, .slice ab B.length cb] w fun e w' => e = .returned (.int .i64 (cmpR A B)) /\ Below w.heap.size w w' := by
 obtain ⟨_, _, hAl, hA⟩ := hA.row
 obtain ⟨_, _, hBl, hB⟩ := hB.row
 have HA := hid hA
 have HB := hid hB
 have HS := hid hs
 clear hA hB hs
 go_enter Tryz.func119, Tryz.ntmps119
 go_wp2_with fail
 go_loopw [5] (fun i wr => ∃ k : Nat, k <= A.length /\ k <= B.length /\ i = .int .i64 k /\ Hid (cmpR A B = cmpR (A.drop k) (B.drop k)) /\ Hid (Below w.heap.size w wr)) (fun i _ => A.length - (intOf i).toNat)
 case atStart => exact ⟨0, Nat.zero_le _, Nat.zero_le _, rfl, rfl, Below.refl _ _⟩
 case round =>
  obtain ⟨k, hk, hkb, rfl, HC, HG⟩ := hrel
  by_cases hlt : k < A.length /\ k < B.length
  · obtain ⟨hkA, hkB⟩ := hlt
    have HST := hid (HC.out.trans (cmpR_step A B k hkA hkB))
    obtain ⟨ba, oa, rfl, _, hba⟩ := HA.out.addr (by intro e; rw [e] at hkA; cases hkA)
    obtain ⟨bb, ob, rfl, _, hbb⟩ := HB.out.addr (by intro e; rw [e] at hkB; cases hkB)
    have X := HA.out.val k hkA
    have Y := HB.out.val k hkB
    have hfx := HS.out _ (List.getElem_mem hkA)
    obtain ⟨x, hx⟩ : ∃ x, x = A[k] := ⟨_, rfl⟩
    obtain ⟨y, hy⟩ : ∃ y, y = B[k] := ⟨_, rfl⟩
    rw [<- hx, <- hy] at HST
    rw [<- hx] at X hfx
    rw [<- hy] at Y
    obtain ⟨c, hc⟩ : ∃ c, cmpV x y = c := ⟨_, rfl⟩
    rw [hc] at HST
    have HCV := hid hc
    have HX := hid X
    have HY := hid Y
    have HFX := hid hfx
    clear X Y hx hy hc hfx
    go_upto_region 4 with (fail)
    refine wp_region_class (Below wr.heap.size wr) (by kernel_rfl) (by kernel_rfl) (Below.drew b0R) (fun ne => ?_)
    have e0 := fun z : Wld (Below wr.heap.size wr) => ((HG.out.trans (z.good.mono HG.out.size)).cell (p := ⟨ba, oa + k * 3, none⟩) hba).trans HX.out.1
    have e1 := fun z : Wld (Below wr.heap.size wr) => ((HG.out.trans (z.good.mono HG.out.size)).cell (p := ⟨ba, oa + k * 3 + 1, none⟩) hba).trans HX.out.2.1
    have e2 := fun z : Wld (Below wr.heap.size wr) => ((HG.out.trans (z.good.mono HG.out.size)).cell (p := ⟨ba, oa + k * 3 + 2, none⟩) hba).trans HX.out.2.2
    have f0 := fun z : Wld (Below wr.heap.size wr) => ((HG.out.trans (z.good.mono HG.out.size)).cell (p := ⟨bb, ob + k * 3, none⟩) hbb).trans HY.out.1
    have f1 := fun z : Wld (Below wr.heap.size wr) => ((HG.out.trans (z.good.mono HG.out.size)).cell (p := ⟨bb, ob + k * 3 + 1, none⟩) hbb).trans HY.out.2.1
    have f2 := fun z : Wld (Below wr.heap.size wr) => ((HG.out.trans (z.good.mono HG.out.size)).cell (p := ⟨bb, ob + k * 3 + 2, none⟩) hbb).trans HY.out.2.2
    repeat (go_big_quiet_step ((go_at_call 115; (refine Calls.mono (rcompare_any x y HFX.out _) ?_); rintro e w2 ⟨rfl, b2⟩; exact ⟨congrArg (fun q => Ending.returned (Value.int .i64 q)) HCV.out, class_below _ b2 (Nat.le_refl _)⟩)))
    refine wpQuiet_nil ?_
    intro w3 b3
    have B3 := hid (HG.out.trans (b3.mono HG.out.size))
    clear b3 e0 e1 e2 f0 f1 f2 ne
    by_cases hc0 : c = 0
    · subst hc0
      go_wp2_with fail
      go_roundw
      case rel => exact ⟨k + 1, by omega, by omega, by go_num, (by rw [HST.out, if_pos rfl]; exact rfl), B3.out⟩
      case measure => simp [intOf]; omega
    · have d1 : (c != 0) = true := by simpa using hc0
      have HE := hid (show cmpR A B = c by rw [HST.out, if_neg hc0])
      go_wp2_with fail
      go_ret
      exact ⟨by rw [HE.out]; rfl, B3.out⟩
  · have hE := HC.out.trans (cmpR_end A B k hk hkb (by omega))
    rw [<- ordI_len] at hE
    have HE := hid hE
    have con := order_any (decide (A.length < B.length)) (decide (B.length < A.length)) wr
    clear hE
    rcases (show k = A.length \/ (k < A.length /\ k = B.length) by omega) with h1 | ⟨h1, h2⟩
    · have d1 : decide ((k : Int) < (A.length : Int)) = false := by simp; omega
      go_wp2_with fail
      refine con.mono ?_
      rintro e w2 ⟨rfl, rfl⟩
      clear con
      go_wp2_with fail
      go_ret
      exact ⟨by rw [HE.out]; rfl, HG.out⟩
    · subst h2
      have d1 : decide ((B.length : Int) < (A.length : Int)) = true := by simp; omega
      have d2 : decide (B.length < A.length) = true := by simp; omega
      have HE2 := hid (show cmpR A B = ordI (decide (A.length < B.length)) true by rw [HE.out, d2])
      clear con
      have con := order_any (decide (A.length < B.length)) true wr
      go_wp2_with fail
      refine con.mono ?_
      rintro e w2 ⟨rfl, rfl⟩
      clear con d1 d2
      go_wp2_with fail
      go_ret
      exact ⟨by rw [HE2.out]; rfl, HG.out⟩
end
end Go.Proofs.YtgemihkcihigpaaGreatDoor
