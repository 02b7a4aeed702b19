/- The reference's order of rows: a column of a row, and which of two rows stands ahead. -/
import Derived.Test.YtgemihkcihigpaaGreatDoorZB30
import Derived.Test.YtgemihkcihigpaaGreatDoorZD2
set_option linter.unusedVariables false
set_option linter.unusedSimpArgs false
namespace Go.Proofs.YtgemihkcihigpaaGreatDoor
open Go.Lib (hid)
section
open Go.RowKit
theorem atV_fine {A : List Val} (hs : FineR A) (n : Int) : (atV A n).s.size <= 140737488355328 := by
 unfold atV
 split
 · rename_i h
   rw [List.getD_eq_getElem?_getD]
   have hk : n.toNat < A.length := by omega
   rw [List.getElem?_eq_getElem hk]
   exact hs _ (List.getElem_mem hk)
 · exact Nat.zero_le _
set_option maxRecDepth 100000 in
set_option maxHeartbeats 4000000 in
theorem rat_any {p : Nat -> Prop} {aa : Option Addr} {ca : Nat} {A : List Val} {w : World} (hA : SlV valR p w (.slice aa A.length ca) A) (n : Int) :
 Calls Tryz.prog 118 #[.slice aa A.length ca, .int .i64 n] w fun e w' => e = .returned (.agg #[.int .i64 (atV A n).kind, .int .i64 (atV A n).n, .string (atV A n).s]) /\ Below w.heap.size w w' := by
 obtain ⟨_, _, hAl, hA⟩ := hA.row
 have HA := hid hA
 clear hA
 rcases (show n < 0 \/ (0 <= n /\ (A.length : Int) <= n) \/ (0 <= n /\ n < A.length) by omega) with h | ⟨h1, h2⟩ | ⟨h1, h2⟩
 · have HE := hid (show atV A n = val0 by unfold atV; rw [if_neg (by omega)])
   have d1 : decide (n < 0) = true := decide_eq_true h
   go_enter Tryz.func118, Tryz.ntmps118
   go_upto_region 1 with (fail)
   generalize hW : World.alloc _ _ = W
   have hb : Below w.heap.size w W := by rw [<- hW]; exact (b0R).alloc (Nat.le_refl _) _
   have hq : W.heap[w.heap.size]? = some (.cells #[.int .i64 0, .int .i64 0, .string ⟨#[]⟩] 55 (0, 0)) := by rw [<- hW]; exact heap_alloc_new _ _
   have HQ := hid hq
   have BW := hid hb
   have g0 := cells_of hq 0
   have g1 := cells_of hq 1
   have g2 := cells_of hq 2
   have e0 := free_of hq 0
   have e1 := free_of hq 1
   have e2 := free_of hq 2
   simp only [gT, gZ, gS] at g0 g1 g2
   clear hW hq hb
   go_wp2_with fail
   refine bodyPost_ret (results_cell1 rfl _ _ w.heap.size 55 _ (0, 0) _ rfl (vstored_at HQ.out) Tryz.underlying55 rfl (by kernel_rfl)) rfl ?_
   exact ⟨by rw [HE.out]; rfl, ((BW.out.setCell (p := ⟨w.heap.size, 0, none⟩) (Nat.le_refl _) _).setCell (p := ⟨w.heap.size, 1, none⟩) (Nat.le_refl _) _).setCell (p := ⟨w.heap.size, 2, none⟩) (Nat.le_refl _) _⟩
 · have HE := hid (show atV A n = val0 by unfold atV; rw [if_neg (by omega)])
   have d1 : decide (n < 0) = false := decide_eq_false (by omega)
   have d2 : decide (n ≥ (A.length : Int)) = true := decide_eq_true h2
   go_enter Tryz.func118, Tryz.ntmps118
   go_upto_region 1 with (fail)
   generalize hW : World.alloc _ _ = W
   have hb : Below w.heap.size w W := by rw [<- hW]; exact (b0R).alloc (Nat.le_refl _) _
   have hq : W.heap[w.heap.size]? = some (.cells #[.int .i64 0, .int .i64 0, .string ⟨#[]⟩] 55 (0, 0)) := by rw [<- hW]; exact heap_alloc_new _ _
   have HQ := hid hq
   have BW := hid hb
   have g0 := cells_of hq 0
   have g1 := cells_of hq 1
   have g2 := cells_of hq 2
   have e0 := free_of hq 0
   have e1 := free_of hq 1
   have e2 := free_of hq 2
   simp only [gT, gZ, gS] at g0 g1 g2
   clear hW hq hb
   go_wp2_with fail
   refine bodyPost_ret (results_cell1 rfl _ _ w.heap.size 55 _ (0, 0) _ rfl (vstored_at HQ.out) Tryz.underlying55 rfl (by kernel_rfl)) rfl ?_
   exact ⟨by rw [HE.out]; rfl, ((BW.out.setCell (p := ⟨w.heap.size, 0, none⟩) (Nat.le_refl _) _).setCell (p := ⟨w.heap.size, 1, none⟩) (Nat.le_refl _) _).setCell (p := ⟨w.heap.size, 2, none⟩) (Nat.le_refl _) _⟩
 · obtain ⟨k, rfl⟩ : ∃ k : Nat, n = k := ⟨n.toNat, by omega⟩
   have hk : k < A.length := by omega
   have HE := hid (show atV A k = A[k] by unfold atV; rw [if_pos ⟨h1, h2⟩, Int.toNat_natCast, List.getD_eq_getElem?_getD, List.getElem?_eq_getElem hk]; rfl)
   obtain ⟨ba, oa, rfl, _, hba⟩ := HA.out.addr (by intro e; rw [e] at hk; cases hk)
   obtain ⟨x, hx⟩ : ∃ x, A[k] = x := ⟨_, rfl⟩
   obtain ⟨x0, x1, x2⟩ := HA.out.val k hk
   rw [hx] at x0 x1 x2 HE
   clear hx
   have d1 : decide ((k : Int) < 0) = false := decide_eq_false (by omega)
   have d2 : decide (A.length <= k) = false := decide_eq_false (by omega)
   go_enter Tryz.func118, Tryz.ntmps118
   go_upto_region 1 with (fail)
   generalize hW : World.alloc _ _ = W
   have hb : Below w.heap.size w W := by rw [<- hW]; exact (b0R).alloc (Nat.le_refl _) _
   have hq : W.heap[w.heap.size]? = some (.cells #[.int .i64 0, .int .i64 0, .string ⟨#[]⟩] 55 (0, 0)) := by rw [<- hW]; exact heap_alloc_new _ _
   have HQ := hid hq
   have BW := hid hb
   have g0 := cells_of hq 0
   have g1 := cells_of hq 1
   have g2 := cells_of hq 2
   have e0 := free_of hq 0
   have e1 := free_of hq 1
   have e2 := free_of hq 2
   simp only [gT, gZ, gS] at g0 g1 g2
   replace x0 := (hb.cell (p := ⟨ba, oa + k * 3, none⟩) hba).trans x0
   replace x1 := (hb.cell (p := ⟨ba, oa + k * 3 + 1, none⟩) hba).trans x1
   replace x2 := (hb.cell (p := ⟨ba, oa + k * 3 + 2, none⟩) hba).trans x2
   clear hW hq hb
   go_wp2_with fail
   refine bodyPost_ret (results_cell1 rfl _ _ w.heap.size 55 _ (0, 0) _ rfl (vstored_at HQ.out) Tryz.underlying55 rfl (by kernel_rfl)) rfl ?_
   exact ⟨by rw [HE.out], ((BW.out.setCell (p := ⟨w.heap.size, 0, none⟩) (Nat.le_refl _) _).setCell (p := ⟨w.heap.size, 1, none⟩) (Nat.le_refl _) _).setCell (p := ⟨w.heap.size, 2, none⟩) (Nat.le_refl _) _⟩
set_option maxRecDepth 100000 in
set_option maxHeartbeats 4000000 in
theorem ahead_any {p q r : Nat -> Prop} {aa ab ay : Option Addr} {ca cb cy : Nat} {A B : List Val} {N : List Int} {w : World} (hA : SlV valR p w (.slice aa A.length ca) A) (hB : SlV valR q w (.slice ab B.length cb) B) (hN : SlV intR r w (.slice ay N.length cy) N) (hs : FineR A) :
 Calls Tryz.prog 62 #[.slice aa A.length ca, .slice ab B.length cb, .slice ay N.length cy] w fun e w' => e = .returned (.bool (decide (cmpBy A B N < 0))) /\ Below w.heap.size w w' := by
 have HA := hid hA
 have HB := hid hB
 have HS := hid hs
 obtain ⟨_, _, hNl, hN⟩ := hN.row
 have HN := hid hN
 clear hA hB hN hs
 go_enter Tryz.func62, Tryz.ntmps62
 go_wp2_with fail
 go_loopw [7] (fun i wr => ∃ k : Nat, k <= N.length /\ i = .int .i64 k /\ Hid (cmpBy A B N = cmpBy A B (N.drop k)) /\ Hid (Below w.heap.size w wr)) (fun i _ => N.length - (intOf i).toNat)
 case atStart => exact ⟨0, Nat.zero_le _, rfl, rfl, Below.refl _ _⟩
 case round =>
  obtain ⟨k, hk, rfl, HC, HG⟩ := hrel
  by_cases hlt : k < N.length
  · obtain ⟨bn, on, rfl, _, hbn⟩ := HN.out.addr (by intro e; rw [e] at hlt; cases hlt)
    have hx := (HG.out.cell (p := ⟨bn, on + k, none⟩) hbn).trans (HN.out.int k hlt)
    have hst := HC.out
    rw [List.drop_eq_getElem_cons hlt, cmpBy] at hst
    obtain ⟨n, hn⟩ : ∃ n, n = N[k] := ⟨_, rfl⟩
    rw [<- hn] at hx hst
    have hfx := atV_fine HS.out n
    obtain ⟨x, hxx⟩ : ∃ x, x = atV A n := ⟨_, rfl⟩
    obtain ⟨y, hyy⟩ : ∃ y, y = atV B n := ⟨_, rfl⟩
    rw [<- hxx, <- hyy] at hst
    rw [<- hxx] at hfx
    obtain ⟨c, hc⟩ : ∃ c, cmpV x y = c := ⟨_, rfl⟩
    rw [hc] at hst
    have HST := hid hst
    have HCV := hid hc
    have HFX := hid hfx
    have HXX := hid hxx.symm
    have HYY := hid hyy.symm
    have HNX := hid hx
    have hbw : bn < wr.heap.size := Nat.lt_of_lt_of_le hbn HG.out.size
    clear hn hst hxx hyy hc hfx
    go_upto_region 4 with (fail)
    clear hx
    refine wp_region_class (Below wr.heap.size wr) (by kernel_rfl) (by kernel_rfl) (Below.drew b0R) (fun ne => ?_)
    have e0 := fun z : Wld (Below wr.heap.size wr) => (z.good.cell (p := ⟨bn, on + k, none⟩) hbw).trans HNX.out
    have HGA := hid (fun z : Wld (Below wr.heap.size wr) => HA.out.below (HG.out.trans (z.good.mono HG.out.size)))
    have HGB := hid (fun z : Wld (Below wr.heap.size wr) => HB.out.below (HG.out.trans (z.good.mono HG.out.size)))
    repeat (go_big_quiet_step (first | (go_at_call 118; (with_reducible refine Calls.mono (rat_any (HGA.out _) n) ?_); rintro e w2 ⟨rfl, b2⟩; exact ⟨congrArg (fun v : Val => Ending.returned (.agg #[.int .i64 v.kind, .int .i64 v.n, .string v.s])) HXX.out, class_below _ b2 (Nat.le_refl _)⟩) | (go_at_call 118; (with_reducible refine Calls.mono (rat_any (HGB.out _) n) ?_); rintro e w2 ⟨rfl, b2⟩; exact ⟨congrArg (fun v : Val => Ending.returned (.agg #[.int .i64 v.kind, .int .i64 v.n, .string v.s])) HYY.out, class_below _ b2 (Nat.le_refl _)⟩) | (go_at_call 115; (refine Calls.mono (rcompare_any x y HFX.out _) ?_); rintro e w2 ⟨rfl, b2⟩; exact ⟨congrArg (fun q => Ending.returned (Value.int .i64 q)) HCV.out, class_below _ b2 (Nat.le_refl _)⟩)))
    refine wpQuiet_nil ?_
    intro w1 b1
    have G1 := hid (HG.out.trans (b1.mono HG.out.size))
    clear b1 e0 HGA HGB ne
    by_cases hc0 : c = 0
    · subst hc0
      have HN := hid (HST.out.trans (if_pos rfl))
      go_wp2_with fail
      go_roundw
      case rel => exact ⟨k + 1, by omega, by go_num, HN.out, G1.out⟩
      case measure => simp [intOf]; omega
    · have hq : (c != 0) = true := by simpa using hc0
      have HN := hid (HST.out.trans (if_neg hc0))
      clear hc0
      go_wp2_with fail
      go_ret
      exact ⟨by rw [HN.out]; rfl, G1.out⟩
  · have hkm : k = N.length := by omega
    have hst := HC.out
    rw [hkm, List.drop_length, cmpBy] at hst
    have HN := hid hst
    have con := rrows_any (HA.out.below HG.out) (HB.out.below HG.out) HS.out
    obtain ⟨c, hc⟩ : ∃ c, cmpR A B = c := ⟨_, rfl⟩
    rw [hc] at con HN
    clear hst hkm hc
    go_wp2_with fail
    refine con.mono ?_
    rintro e w2 ⟨rfl, b2⟩
    have B2 := hid (HG.out.trans (b2.mono HG.out.size))
    clear con b2
    go_wp2_with fail
    go_ret
    exact ⟨by rw [HN.out]; rfl, B2.out⟩
end
end Go.Proofs.YtgemihkcihigpaaGreatDoor
