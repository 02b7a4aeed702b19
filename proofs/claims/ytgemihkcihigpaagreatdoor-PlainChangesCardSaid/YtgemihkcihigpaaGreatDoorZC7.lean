/- PlainChanges: the walk. -/
import Derived.Test.YtgemihkcihigpaaGreatDoorZB34
import Derived.Test.YtgemihkcihigpaaGreatDoorZC6
set_option linter.unusedVariables false
set_option linter.unusedSimpArgs false
namespace Go.Proofs.YtgemihkcihigpaaGreatDoor
open Go.Lib (hid)
section
open Go.RowKit
def NewBn (n S : Nat) (cs : Array Value) (T : TypeId) (u : Value) (w : World) : Prop := ∃ q, u = .slice (some ⟨q, 0, none⟩) n n /\ S <= q /\ w.heap[q]? = some (.cells cs T (0, 0))
theorem NewBn.rs {n S S' : Nat} {cs : Array Value} {T : TypeId} {u : Value} {w w' : World} (hT : T ≠ 27) (h : NewBn n S' cs T u w) (hr : RS S w w') : NewBn n S' cs T u w' := by
 obtain ⟨q, h1, h2, h3⟩ := h
 exact ⟨q, h1, h2, hr.other h3 hT⟩
def DidN (N : Int) (u : Value) : Prop := ∃ b1 d1 b2 d2 x y, u = .tuple #[.agg #[.slice b1 2 d1, .slice b2 2 d2], .agg #[.int .i64 0, .slice x 0 y, .int .i64 N]]
def AnsN (N : Int) (u : Value) : Prop := ∃ x y, u = .agg #[.int .i64 0, .slice x 0 y, .int .i64 N]
def DidRowX (x : Val) (u : Value) (w : World) : Prop := ∃ b1 d1 b2 d2 rb ro d3, u = .tuple #[.agg #[.slice b1 2 d1, .slice b2 2 d2], .agg #[.int .i64 0, .slice (some ⟨rb, ro, none⟩) 1 d3, .int .i64 1]] /\ RowOne x rb ro w
def AnsRowX (x : Val) (u : Value) (w : World) : Prop := ∃ rb ro d3, u = .agg #[.int .i64 0, .slice (some ⟨rb, ro, none⟩) 1 d3, .int .i64 1] /\ RowOne x rb ro w
def NewK (cs : Array Value) (T : TypeId) (u : Value) (w : World) : Prop := ∃ g, u = .slice (some ⟨g, 0, none⟩) 1 1 /\ w.heap[g]? = some (.cells cs T (0, 0))
theorem NewK.below {cs : Array Value} {T : TypeId} {u : Value} {w w' : World} (h : NewK cs T u w) (hb : Below w.heap.size w w') : NewK cs T u w' := by
 obtain ⟨g, h1, h2⟩ := h
 exact ⟨g, h1, (hb.block _ (lt_of_block h2)).trans h2⟩
theorem sets_two {p : Nat -> Prop} {g : Nat} {c e : SetV} {w : World} (h : w.heap[g]? = some (.cells #[.string c.col, .string c.col2, .int .i64 c.val.kind, .int .i64 c.val.n, .string c.val.s, .string e.col, .string e.col2, .int .i64 e.val.kind, .int .i64 e.val.n, .string e.val.s] 81 (0, 0))) (hp : p g) : SlV setR p w (.slice (some ⟨g, 0, none⟩) 2 2) [c, e] := by
 refine ⟨some ⟨g, 0, none⟩, 2, rfl, Nat.le_refl _, by simp, Or.inr ⟨g, 0, rfl, hp, lt_of_block h, fun i hi => ?_⟩⟩
 have hi' : i < 2 := hi
 have hs : setR.sz = 5 := rfl
 have hc := fun o => cells_of h o
 rw [hs]
 rcases (show i = 0 \/ i = 1 by omega) with rfl | rfl
 · refine ⟨setEnc c, fun j hj => ?_, rfl⟩
   rcases (show j = 0 \/ j = 1 \/ j = 2 \/ j = 3 \/ j = 4 by omega) with rfl | rfl | rfl | rfl | rfl
   · exact (hc 0).trans rfl
   · exact (hc 1).trans rfl
   · exact (hc 2).trans rfl
   · exact (hc 3).trans rfl
   · exact (hc 4).trans rfl
 · refine ⟨setEnc e, fun j hj => ?_, rfl⟩
   rcases (show j = 0 \/ j = 1 \/ j = 2 \/ j = 3 \/ j = 4 by omega) with rfl | rfl | rfl | rfl | rfl
   · exact (hc 5).trans rfl
   · exact (hc 6).trans rfl
   · exact (hc 7).trans rfl
   · exact (hc 8).trans rfl
   · exact (hc 9).trans rfl
theorem updC_at {p : Nat -> Prop} {add : Int} {cv : Val} {g1 g2 : Nat} {w : World} (h1 : w.heap[g1]? = some (.cells #[.string sA, .string sA, .int .i64 (wh add).kind, .int .i64 (wh add).n, .string (wh add).s, .string sB, .string noStr, .int .i64 (tx sNew).kind, .int .i64 (tx sNew).n, .string (tx sNew).s] 81 (0, 0))) (h2 : w.heap[g2]? = some (.cells #[.string sA, .int .i64 6, .int .i64 (cv).kind, .int .i64 (cv).n, .string (cv).s] 60 (0, 0))) (p1 : p g1) (p2 : p g2) :
 StmtV p w (.agg #[.int .i64 5, .string sT, .string ⟨#[]⟩, .slice none 0 0, .slice none 0 0, .slice none 0 0, .slice (some ⟨g1, 0, none⟩) 2 2, .slice (some ⟨g2, 0, none⟩) 1 1, .string ⟨#[]⟩, .string ⟨#[]⟩, .string ⟨#[]⟩, .int .i64 0, .slice none 0 0, .int .i64 0, .int .i64 0]) (updC add cv) :=
 ⟨none, 0, none, 0, none, 0, some ⟨g1, 0, none⟩, 2, some ⟨g2, 0, none⟩, 1, none, 0, rfl, nil_sl, nil_sl, nil_sl, sets_two (c := ⟨sA, sA, wh add⟩) (e := ⟨sB, noStr, tx sNew⟩) h1 p1, one_cond (c := condA 6 cv) h2 p2, nil_sl⟩
theorem sumC1_at {p : Nat -> Prop} {cv : Val} {g1 g2 : Nat} {w : World} (h1 : w.heap[g1]? = some (.cells #[.string sA] 9 (0, 0))) (h2 : w.heap[g2]? = some (.cells #[.string sA, .int .i64 6, .int .i64 (cv).kind, .int .i64 (cv).n, .string (cv).s] 60 (0, 0))) (p1 : p g1) (p2 : p g2) :
 StmtV p w (.agg #[.int .i64 7, .string sT, .string ⟨#[]⟩, .slice none 0 0, .slice (some ⟨g1, 0, none⟩) 1 1, .slice none 0 0, .slice none 0 0, .slice (some ⟨g2, 0, none⟩) 1 1, .string ⟨#[]⟩, .string ⟨#[]⟩, .string ⟨#[]⟩, .int .i64 2, .slice none 0 0, .int .i64 0, .int .i64 0]) (sumC (chW cv)) :=
 ⟨none, 0, some ⟨g1, 0, none⟩, 1, none, 0, none, 0, some ⟨g2, 0, none⟩, 1, none, 0, rfl, nil_sl, one_str h1 p1, nil_sl, nil_sl, one_cond (c := condA 6 cv) h2 p2, nil_sl⟩
theorem sumC2_at {p : Nat -> Prop} {g1 g2 : Nat} {w : World} (h1 : w.heap[g1]? = some (.cells #[.string sA] 9 (0, 0))) (h2 : w.heap[g2]? = some (.cells #[.string sB, .int .i64 1, .int .i64 (tx sNew).kind, .int .i64 (tx sNew).n, .string (tx sNew).s] 60 (0, 0))) (p1 : p g1) (p2 : p g2) :
 StmtV p w (.agg #[.int .i64 7, .string sT, .string ⟨#[]⟩, .slice none 0 0, .slice (some ⟨g1, 0, none⟩) 1 1, .slice none 0 0, .slice none 0 0, .slice (some ⟨g2, 0, none⟩) 1 1, .string ⟨#[]⟩, .string ⟨#[]⟩, .string ⟨#[]⟩, .int .i64 2, .slice none 0 0, .int .i64 0, .int .i64 0]) (sumC newW) :=
 ⟨none, 0, some ⟨g1, 0, none⟩, 1, none, 0, none, 0, some ⟨g2, 0, none⟩, 1, none, 0, rfl, nil_sl, one_str h1 p1, nil_sl, nil_sl, one_cond (c := condB 1 (tx sNew)) h2 p2, nil_sl⟩
theorem delC1_at {p : Nat -> Prop} {cv : Val} {g2 : Nat} {w : World} (h2 : w.heap[g2]? = some (.cells #[.string sA, .int .i64 6, .int .i64 (cv).kind, .int .i64 (cv).n, .string (cv).s] 60 (0, 0))) (p2 : p g2) :
 StmtV p w (.agg #[.int .i64 6, .string sT, .string ⟨#[]⟩, .slice none 0 0, .slice none 0 0, .slice none 0 0, .slice none 0 0, .slice (some ⟨g2, 0, none⟩) 1 1, .string ⟨#[]⟩, .string ⟨#[]⟩, .string ⟨#[]⟩, .int .i64 0, .slice none 0 0, .int .i64 0, .int .i64 0]) (delC (chW cv)) :=
 ⟨none, 0, none, 0, none, 0, none, 0, some ⟨g2, 0, none⟩, 1, none, 0, rfl, nil_sl, nil_sl, nil_sl, nil_sl, one_cond (c := condA 6 cv) h2 p2, nil_sl⟩
theorem delC2_at {p : Nat -> Prop} {g2 : Nat} {w : World} (h2 : w.heap[g2]? = some (.cells #[.string sB, .int .i64 1, .int .i64 (tx sNew).kind, .int .i64 (tx sNew).n, .string (tx sNew).s] 60 (0, 0))) (p2 : p g2) :
 StmtV p w (.agg #[.int .i64 6, .string sT, .string ⟨#[]⟩, .slice none 0 0, .slice none 0 0, .slice none 0 0, .slice none 0 0, .slice (some ⟨g2, 0, none⟩) 1 1, .string ⟨#[]⟩, .string ⟨#[]⟩, .string ⟨#[]⟩, .int .i64 0, .slice none 0 0, .int .i64 0, .int .i64 0]) (delC newW) :=
 ⟨none, 0, none, 0, none, 0, none, 0, some ⟨g2, 0, none⟩, 1, none, 0, rfl, nil_sl, nil_sl, nil_sl, nil_sl, one_cond (c := condB 1 (tx sNew)) h2 p2, nil_sl⟩
theorem insC_at {p : Nat -> Prop} {add : Int} {g : Nat} {w : World} (h1 : w.heap[g]? = some (.cells #[.int .i64 (wh add).kind, .int .i64 (wh add).n, .string (wh add).s, .int .i64 (tx sNew).kind, .int .i64 (tx sNew).n, .string (tx sNew).s] 55 (0, 0))) (p1 : p g) :
 StmtV p w (.agg #[.int .i64 4, .string sT, .string ⟨#[]⟩, .slice none 0 0, .slice none 0 0, .slice (some ⟨g, 0, none⟩) 2 2, .slice none 0 0, .slice none 0 0, .string ⟨#[]⟩, .string ⟨#[]⟩, .string ⟨#[]⟩, .int .i64 0, .slice none 0 0, .int .i64 0, .int .i64 0]) (insS sT [wh add, tx sNew]) := ins_at (r := [wh add, tx sNew]) (two_vals h1 p1)
def UpdCD (add : Int) (cv : Val) (S : Nat) (u : Value) (w : World) : Prop := ∃ q0 q1, u = .agg #[.int .i64 5, .string sT, .string ⟨#[]⟩, .slice none 0 0, .slice none 0 0, .slice none 0 0, .slice (some ⟨q0, 0, none⟩) 2 2, .slice (some ⟨q1, 0, none⟩) 1 1, .string ⟨#[]⟩, .string ⟨#[]⟩, .string ⟨#[]⟩, .int .i64 0, .slice none 0 0, .int .i64 0, .int .i64 0] /\ w.heap[q0]? = some (.cells #[.string sA, .string sA, .int .i64 (wh add).kind, .int .i64 (wh add).n, .string (wh add).s, .string sB, .string noStr, .int .i64 (tx sNew).kind, .int .i64 (tx sNew).n, .string (tx sNew).s] 81 (0, 0)) /\ w.heap[q1]? = some (.cells #[.string sA, .int .i64 6, .int .i64 (cv).kind, .int .i64 (cv).n, .string (cv).s] 60 (0, 0))
theorem UpdCD.rs {add : Int} {cv : Val} {S S' : Nat} {u : Value} {w w' : World} (h : UpdCD add cv S u w) (hr : RS S' w w') : UpdCD add cv S u w' := by
 obtain ⟨q0, q1, h0, k0, k1⟩ := h
 exact ⟨q0, q1, h0, hr.other k0 (by decide), hr.other k1 (by decide)⟩
def SumCD  (S : Nat) (u : Value) (w : World) : Prop := ∃ q0 q1, u = .agg #[.int .i64 7, .string sT, .string ⟨#[]⟩, .slice none 0 0, .slice (some ⟨q0, 0, none⟩) 1 1, .slice none 0 0, .slice none 0 0, .slice (some ⟨q1, 0, none⟩) 1 1, .string ⟨#[]⟩, .string ⟨#[]⟩, .string ⟨#[]⟩, .int .i64 2, .slice none 0 0, .int .i64 0, .int .i64 0] /\ w.heap[q0]? = some (.cells #[.string sA] 9 (0, 0)) /\ w.heap[q1]? = some (.cells #[.string sB, .int .i64 1, .int .i64 (tx sNew).kind, .int .i64 (tx sNew).n, .string (tx sNew).s] 60 (0, 0))
theorem SumCD.rs  {S S' : Nat} {u : Value} {w w' : World} (h : SumCD  S u w) (hr : RS S' w w') : SumCD  S u w' := by
 obtain ⟨q0, q1, h0, k0, k1⟩ := h
 exact ⟨q0, q1, h0, hr.other k0 (by decide), hr.other k1 (by decide)⟩
def DelCD  (S : Nat) (u : Value) (w : World) : Prop := ∃ q0, u = .agg #[.int .i64 6, .string sT, .string ⟨#[]⟩, .slice none 0 0, .slice none 0 0, .slice none 0 0, .slice none 0 0, .slice (some ⟨q0, 0, none⟩) 1 1, .string ⟨#[]⟩, .string ⟨#[]⟩, .string ⟨#[]⟩, .int .i64 0, .slice none 0 0, .int .i64 0, .int .i64 0] /\ w.heap[q0]? = some (.cells #[.string sB, .int .i64 1, .int .i64 (tx sNew).kind, .int .i64 (tx sNew).n, .string (tx sNew).s] 60 (0, 0))
theorem DelCD.rs  {S S' : Nat} {u : Value} {w w' : World} (h : DelCD  S u w) (hr : RS S' w w') : DelCD  S u w' := by
 obtain ⟨q0, h0, k0⟩ := h
 exact ⟨q0, h0, hr.other k0 (by decide)⟩
def InsCD (add : Int) (S : Nat) (u : Value) (w : World) : Prop := ∃ q0, u = .agg #[.int .i64 4, .string sT, .string ⟨#[]⟩, .slice none 0 0, .slice none 0 0, .slice (some ⟨q0, 0, none⟩) 2 2, .slice none 0 0, .slice none 0 0, .string ⟨#[]⟩, .string ⟨#[]⟩, .string ⟨#[]⟩, .int .i64 0, .slice none 0 0, .int .i64 0, .int .i64 0] /\ w.heap[q0]? = some (.cells #[.int .i64 (wh add).kind, .int .i64 (wh add).n, .string (wh add).s, .int .i64 (tx sNew).kind, .int .i64 (tx sNew).n, .string (tx sNew).s] 55 (0, 0))
theorem InsCD.rs {add : Int} {S S' : Nat} {u : Value} {w w' : World} (h : InsCD add S u w) (hr : RS S' w w') : InsCD add S u w' := by
 obtain ⟨q0, h0, k0⟩ := h
 exact ⟨q0, h0, hr.other k0 (by decide)⟩
def K5 : Keep := ⟨14, 10, 11, 12, 16, 15, 12, 11, 47, 36, 48⟩
theorem K5_ap : K5.Apart := ⟨by decide, by decide, by decide, by decide, by decide, by decide, by decide⟩
def K9 : Keep := ⟨9, 5, 6, 7, 11, 10, 19, 18, 80, 74, 81⟩
theorem K9_ap : K9.Apart := ⟨by decide, by decide, by decide, by decide, by decide, by decide, by decide⟩
def KI : Keep := ⟨10, 6, 7, 8, 12, 11, 23, 22, 98, 91, 99⟩
theorem KI_ap : KI.Apart := ⟨by decide, by decide, by decide, by decide, by decide, by decide, by decide⟩
set_option maxRecDepth 100000 in
set_option maxHeartbeats 64000000 in
theorem chg_walk {p : Nat -> Prop} {al : Option Addr} {cl : Nat} {l : List Int} {n add : Int} {w : World} (hl : SlV intR p w (.slice al l.length cl) l) (hK : KindsAt w) :
 Calls Tryz.prog 10 #[.slice al l.length cl, .int .i64 n, .int .i64 add] w fun e w' => e = .returned (.bool true) /\ Below w.heap.size w w' := by
 have HK := hid hK
 have HL := hid hl
 have con := sanity_any w hK
 have hm := mask3 n
 clear hK hl
 go_enter Tryz.func10, Tryz.ntmps10
 go_wp2_with fail
 refine con.mono ?_
 rintro e w1 ⟨rfl, b1⟩
 have B1 := hid b1
 have con := filled_any (HL.out.below b1) (HK.out.below b1)
 clear b1
 go_wp2_with fail
 refine con.mono ?_
 rintro e w2 ⟨a1, c1, a2, c2, rfl, b2, t2⟩
 have B2 := hid (B1.out.trans (b2.mono B1.out.size))
 obtain ⟨cv, hv⟩ : ∃ v : Val, v = ⟨1, n % 8, noStr⟩ := ⟨_, rfl⟩
 obtain ⟨CH, LE, NE, f, ln, x1, x2, hF⟩ := chg_f l (fillM l) (by unfold fillM; split <;> omega) add cv
 have HF := hid hF
 obtain ⟨A, hA⟩ : ∃ A, fillA l (fillM l) = A := ⟨_, rfl⟩
 obtain ⟨B, hB⟩ : ∃ B, fillB l (fillM l) = B := ⟨_, rfl⟩
 rw [hA, hB] at t2
 rw [hA, hB] at HF
 have T2 := hid t2
 clear con b2 t2 hA hB hF
 go_upto_region 3 with (fail)
 generalize hX : World.alloc _ _ = W3
 have b3 : Below w2.heap.size w2 W3 := by rw [<- hX]; exact (b0R).alloc (Nat.le_refl _) _
 have G8 := hid (show W3.heap[w2.heap.size]? = some (.cells #[.slice a1 2 c1, .slice a2 2 c2] 27 (0, 0)) by rw [<- hX]; exact heap_alloc_new _ _)
 have T3 := hid (T2.out.below b3)
 have B3 := hid (B2.out.trans (b3.mono B2.out.size))
 have con := whole_any (n % 8) W3
 obtain ⟨q8, hq8⟩ : ∃ q, w2.heap.size = q := ⟨_, rfl⟩
 rw [hq8] at G8 ⊢
 clear hX b3 T2 B2 hq8
 go_wp2_with fail
 refine con.mono ?_
 rintro e w4 ⟨rfl, b4⟩
 replace G8 := cy b4 G8
 have T4 := hid (T3.out.below b4)
 have B4 := hid (B3.out.trans (b4.mono B3.out.size))
 clear con b4 T3 B3 hm
 go_upto_region 4 with (fail)
 generalize hX : World.alloc _ _ = W5
 have b5 : Below w4.heap.size w4 W5 := by rw [<- hX]; exact (b0R).alloc (Nat.le_refl _) _
 have G9 := hid (show W5.heap[w4.heap.size]? = some (.cells #[.string sA, .int .i64 6, .int .i64 (cv).kind, .int .i64 (cv).n, .string (cv).s] 60 (0, 0)) by rw [<- hX, hv]; exact heap_alloc_new _ _)
 replace G8 := cy b5 G8
 have T := hid (T4.out.below b5)
 have BW := hid (B4.out.trans (b5.mono B4.out.size))
 obtain ⟨q9, hq9⟩ : ∃ q, w4.heap.size = q := ⟨_, rfl⟩
 rw [hq9] at G9 ⊢
 clear hX b5 T4 B4 hv hq9
 have x0 := cells_of G8.out 0
 have x1' := cells_of G8.out 1
 have y0 := cells_of G9.out 0
 have y1 := cells_of G9.out 1
 have y2 := cells_of G9.out 2
 have y3 := cells_of G9.out 3
 have y4 := cells_of G9.out 4
 simp only [gT, gZ, gS] at x0 x1' y0 y1 y2 y3 y4
 go_wp2_with fail
 generalize hX : World.alloc _ _ = X
 have bx : Below W5.heap.size W5 X := by rw [<- hX]; exact (b0R).alloc (Nat.le_refl _) _
 have q1 : X.heap[W5.heap.size]? = some (.cells #[.string sA, .int .i64 6, .int .i64 (cv).kind, .int .i64 (cv).n, .string (cv).s] 60 (0, 0)) := by rw [<- hX]; exact heap_alloc_new _ _
 replace T := hid (T.out.below bx)
 replace BW := hid (BW.out.trans (bx.mono BW.out.size))
 replace G8 := cy bx G8
 replace G9 := cy bx G9
 have con := count_any (p' := fun _ => True) T.out (one_cond (c := condA 6 cv) q1 trivial) HF.out.i0 (by decide) (HK.out.below BW.out) HF.out.n1
 clear hX q1 bx x0 x1' y0 y1 y2 y3 y4
 refine con.mono ?_
 rintro e V ⟨rfl, b6⟩
 replace T := hid (T.out.below b6).bound
 replace BW := hid (BW.out.trans (b6.mono BW.out.size))
 replace G8 := cy b6 G8
 replace G9 := cy b6 G9
 have HKV := hid (HK.out.below BW.out)
 clear con b6
 go_upto_region 5 with (fail)
 apply wp_region_growj 17 16 (RS V.heap.size) (KeepJ K5 V.heap.size (CH) (B)) [37, 38, 39, 40, 41, 42, 43, 44, 45, 46, 47, 36, 48, 49, 11, 12]
  [fun _ u _ => u = .agg #[.slice a1 2 c1, .slice a2 2 c2],
   fun _ u _ => u = .int .i64 add,
   fun _ u _ => u = .agg #[.int .i64 (wh add).kind, .int .i64 (wh add).n, .string (wh add).s],
   fun _ u _ => u = .agg #[.string sA, .string sA, .int .i64 (wh add).kind, .int .i64 (wh add).n, .string (wh add).s],
   fun _ u _ => u = .agg #[.int .i64 (tx sNew).kind, .int .i64 (tx sNew).n, .string (tx sNew).s],
   fun _ u _ => u = .agg #[.string sB, .string noStr, .int .i64 (tx sNew).kind, .int .i64 (tx sNew).n, .string (tx sNew).s],
   fun _ u w' => NewBn 2 V.heap.size #[.string sA, .string sA, .int .i64 (wh add).kind, .int .i64 (wh add).n, .string (wh add).s, .string sB, .string noStr, .int .i64 (tx sNew).kind, .int .i64 (tx sNew).n, .string (tx sNew).s] 81 u w',
   fun _ u _ => u = .agg #[.string sA, .int .i64 6, .int .i64 (cv).kind, .int .i64 (cv).n, .string (cv).s],
   fun _ u w' => NewB V.heap.size #[.string sA, .int .i64 6, .int .i64 (cv).kind, .int .i64 (cv).n, .string (cv).s] 60 u w',
   fun _ u w' => UpdCD add cv V.heap.size u w',
   fun _ u _ => DidN (f : Int) u,
   fun _ u _ => DidN (f : Int) u,
   fun _ u _ => StVal u,
   fun _ u _ => AnsN (f : Int) u,
   fun _ u w' => PtrS V.heap.size u w',
   fun _ u w' => PtrA V.heap.size u w',
   fun _ _ _ => True]
  (Below V.heap.size V) (Below V.heap.size V) (fun _ => True)
 case hF =>
  intro v
  simp only [setAll, List.foldl_cons, List.foldl_nil, Act.put, List.setIfInBounds_toArray, List.set_cons_succ, List.set_cons_zero]
  exact rfl
 case hm => kernel_rfl
 case hB => kernel_rfl
 case hsz => kernel_rfl
 case hR => exact fun w1 w2 h => Or.inl h
 case hC => exact fun w1 w2 h b => RS.base (Nat.le_refl _) h b
 case hCp => exact fun w1 w2 h b => h.trans (b.mono h.size)
 case hDm => exact fun _ _ _ _ => trivial
 case hw => exact Below.drew b0R
 case hwp => exact Below.drew b0R
 case hJ0 => exact fun v => keep_start _ _ _ _ v _
 case hS =>
  intro D hD v u
  simp only [List.mem_cons, List.not_mem_nil, or_false] at hD
  rcases hD with rfl | rfl | rfl | rfl | rfl | rfl | rfl | rfl | rfl | rfl | rfl | rfl | rfl | rfl | rfl | rfl | rfl
  · exact fun w1 w2 h _ => h
  · exact fun w1 w2 h _ => h
  · exact fun w1 w2 h _ => h
  · exact fun w1 w2 h _ => h
  · exact fun w1 w2 h _ => h
  · exact fun w1 w2 h _ => h
  · exact fun w1 w2 h hr => h.rs (by decide) hr
  · exact fun w1 w2 h _ => h
  · exact fun w1 w2 h hr => h.rs (by decide) hr
  · exact fun w1 w2 h hr => h.rs hr
  · exact fun w1 w2 h _ => h
  · exact fun w1 w2 h _ => h
  · exact fun w1 w2 h _ => h
  · exact fun w1 w2 h _ => h
  · exact fun w1 w2 ⟨q, e, h, z⟩ hr => ⟨q, e, h, z.rs hr⟩
  · exact fun w1 w2 ⟨q, e, h, z⟩ hr => ⟨q, e, h, hr.other z (by decide)⟩
  · exact fun w1 w2 h _ => h
 case hob =>
  simp only [List.take_succ_cons, List.take_zero]
  apply growjx_cons rfl
  · intro v w1 X hX h1 hd
    have HX := hid hX
    clear hX
    clear hd
    have q0 := (h1.block _ (lt_of_block G8.out)).trans G8.out
    have x0 := cells_of q0 0
    have x1 := cells_of q0 1
    simp only [gT, gZ, gS] at x0 x1
    clear q0
    clear h1
    go_wp2_with fail
    and_intros <;> first | exact Below.refl _ _ | rfl | exact HX.out _ _ (keep_other b0R (by decide) (by decide))
  apply growjx_cons rfl
  · intro v w1 X hX h1 hd
    have HX := hid hX
    clear hX
    clear hd
    clear h1
    go_wp2_with fail
    and_intros <;> first | exact Below.refl _ _ | rfl | exact HX.out _ _ (keep_other b0R (by decide) (by decide))
  apply growjx_cons rfl
  · intro v w1 X hX h1 hd
    have HX := hid hX
    clear hX
    have g1 : v 38 = .int .i64 add := hd 1 _ _ _ rfl rfl rfl rfl
    clear hd
    rw [g1]
    clear g1
    have con := whole_any add w1
    clear h1
    go_wp2_with fail
    refine con.mono ?_
    rintro e w2 ⟨rfl, b2⟩
    have B2 := hid b2
    clear con b2
    go_wp2_with fail
    and_intros <;> first | exact Below.refl _ _ | rfl | exact B2.out | exact HX.out _ _ (keep_other B2.out (by decide) (by decide))
  apply growjx_cons rfl
  · intro v w1 X hX h1 hd
    have HX := hid hX
    clear hX
    have g0 : v 39 = .agg #[.int .i64 (wh add).kind, .int .i64 (wh add).n, .string (wh add).s] := hd 2 _ _ _ rfl rfl rfl rfl
    clear hd
    rw [g0]
    clear g0 h1
    go_wp2_with fail
    and_intros <;> first | exact Below.refl _ _ | rfl | exact HX.out _ _ (keep_other b0R (by decide) (by decide))
  apply growjx_cons rfl
  · intro v w1 X hX h1 hd
    have HX := hid hX
    clear hX
    clear hd
    have con := text_any sNew w1
    clear h1
    go_wp2_with fail
    refine con.mono ?_
    rintro e w2 ⟨rfl, b2⟩
    have B2 := hid b2
    clear con b2
    go_wp2_with fail
    and_intros <;> first | exact Below.refl _ _ | rfl | exact B2.out | exact HX.out _ _ (keep_other B2.out (by decide) (by decide))
  apply growjx_cons rfl
  · intro v w1 X hX h1 hd
    have HX := hid hX
    clear hX
    have g0 : v 41 = .agg #[.int .i64 (tx sNew).kind, .int .i64 (tx sNew).n, .string (tx sNew).s] := hd 4 _ _ _ rfl rfl rfl rfl
    clear hd
    rw [g0]
    clear g0 h1
    go_wp2_with fail
    and_intros <;> first | exact Below.refl _ _ | rfl | exact HX.out _ _ (keep_other b0R (by decide) (by decide))
  apply growjx_cons rfl
  · intro v w1 X hX h1 hd
    have HX := hid hX
    clear hX
    have g1 : v 40 = .agg #[.string sA, .string sA, .int .i64 (wh add).kind, .int .i64 (wh add).n, .string (wh add).s] := hd 3 _ _ _ rfl rfl rfl rfl
    have g2 : v 42 = .agg #[.string sB, .string noStr, .int .i64 (tx sNew).kind, .int .i64 (tx sNew).n, .string (tx sNew).s] := hd 5 _ _ _ rfl rfl rfl rfl
    clear hd
    rw [g1, g2]
    have HSW := hid h1.size
    clear g1 g2 h1
    go_wp2_with fail
    have hb3 : Below w1.heap.size w1 (w1.alloc (.cells #[.string sA, .string sA, .int .i64 (wh add).kind, .int .i64 (wh add).n, .string (wh add).s, .string sB, .string noStr, .int .i64 (tx sNew).kind, .int .i64 (tx sNew).n, .string (tx sNew).s] 81)) := (b0R).alloc (Nat.le_refl _) _
    and_intros <;> first | exact Below.refl _ _ | rfl | exact hb3 | exact ⟨w1.heap.size, rfl, HSW.out, heap_alloc_new _ _⟩ | exact HX.out _ _ (keep_other hb3 (by decide) (by decide))
  apply growjx_cons rfl
  · intro v w1 X hX h1 hd
    have HX := hid hX
    clear hX
    clear hd
    have q0 := (h1.block _ (lt_of_block G9.out)).trans G9.out
    have y0 := cells_of q0 0
    have y1 := cells_of q0 1
    have y2 := cells_of q0 2
    have y3 := cells_of q0 3
    have y4 := cells_of q0 4
    simp only [gT, gZ, gS] at y0 y1 y2 y3 y4
    clear q0
    clear h1
    go_wp2_with fail
    and_intros <;> first | exact Below.refl _ _ | rfl | exact HX.out _ _ (keep_other b0R (by decide) (by decide))
  apply growjx_cons rfl
  · intro v w1 X hX h1 hd
    have HX := hid hX
    clear hX
    have g1 : v 44 = .agg #[.string sA, .int .i64 6, .int .i64 (cv).kind, .int .i64 (cv).n, .string (cv).s] := hd 7 _ _ _ rfl rfl rfl rfl
    clear hd
    rw [g1]
    have HSW := hid h1.size
    clear g1 h1
    go_wp2_with fail
    have hb3 : Below w1.heap.size w1 (w1.alloc (.cells #[.string sA, .int .i64 6, .int .i64 (cv).kind, .int .i64 (cv).n, .string (cv).s] 60)) := (b0R).alloc (Nat.le_refl _) _
    and_intros <;> first | exact Below.refl _ _ | rfl | exact hb3 | exact ⟨w1.heap.size, rfl, HSW.out, heap_alloc_new _ _⟩ | exact HX.out _ _ (keep_other hb3 (by decide) (by decide))
  apply growjx_cons rfl
  · intro v w1 X hX h1 hd
    have HX := hid hX
    clear hX
    obtain ⟨q0, g0, _, hq0⟩ : NewBn 2 V.heap.size #[.string sA, .string sA, .int .i64 (wh add).kind, .int .i64 (wh add).n, .string (wh add).s, .string sB, .string noStr, .int .i64 (tx sNew).kind, .int .i64 (tx sNew).n, .string (tx sNew).s] 81 (v 43) w1 := hd 6 _ _ _ rfl rfl rfl rfl
    obtain ⟨q1, g1, _, hq1⟩ : NewB V.heap.size #[.string sA, .int .i64 6, .int .i64 (cv).kind, .int .i64 (cv).n, .string (cv).s] 60 (v 45) w1 := hd 8 _ _ _ rfl rfl rfl rfl
    clear hd
    rw [g0, g1]
    have HH := hid (show _ /\ _ from ⟨hq0, hq1⟩)
    clear g0 hq0 g1 hq1 h1
    go_wp2_with fail
    and_intros <;> first | exact Below.refl _ _ | rfl | exact ⟨q0, q1, rfl, HH.out.1, HH.out.2⟩ | exact HX.out _ _ (keep_other b0R (by decide) (by decide))
  apply growjx_cons rfl
  · intro v w1 X hX h1 hd
    have HX := hid hX
    clear hX
    have g0 : v 37 = .agg #[.slice a1 2 c1, .slice a2 2 c2] := hd 0 _ _ _ rfl rfl rfl rfl
    obtain ⟨q0, q1, g4, hq0, hq1⟩ : UpdCD add cv V.heap.size (v 46) w1 := hd 9 _ _ _ rfl rfl rfl rfl
    clear hd
    rw [g0, g4]
    have con := do_two (T.out.below h1) (updC_at (p := fun _ => True) hq0 hq1 trivial trivial) HF.out.i0 (by decide) ⟨rfl, Nat.zero_le _, Nat.zero_le _, Nat.zero_le _, Nat.zero_le _⟩ (HKV.out.below h1) HF.out.u.1 HF.out.u.2 rfl
    clear g0 g4 hq0 hq1 h1
    go_wp2_with fail
    refine con.mono ?_
    rintro e w2 ⟨b1, d1, b2, d2, b3, d3, rfl, bb, tt, rr⟩
    have B2 := hid bb
    have J2 := hid (HX.out (.tuple #[.agg #[.slice b1 2 d1, .slice b2 2 d2], .agg #[.int .i64 0, .slice b3 0 d3, .int .i64 (f : Int)]]) w2 (keep_call K5_ap bb (fun k h => h.2) rfl tt))
    have R2 := hid (show DidN (f : Int) (.tuple #[.agg #[.slice b1 2 d1, .slice b2 2 d2], .agg #[.int .i64 0, .slice b3 0 d3, .int .i64 (f : Int)]]) from ⟨b1, d1, b2, d2, b3, d3, rfl⟩)
    clear con bb rr tt
    go_wp2_with fail
    and_intros <;> first | exact Below.refl _ _ | rfl | exact B2.out | exact R2.out | exact J2.out
  apply growjx_cons rfl
  · intro v w1 X hX h1 hd
    have HX := hid hX
    clear hX
    obtain ⟨b1, d1, b2, d2, b3, d3, g5⟩ : DidN (f : Int) (v 47) := hd 10 _ _ _ rfl rfl rfl rfl
    clear hd
    have J2 := hid (HX.out (.tuple #[.agg #[.slice b1 2 d1, .slice b2 2 d2], .agg #[.int .i64 0, .slice b3 0 d3, .int .i64 (f : Int)]]) w1 (keep_move K5_ap b0R (by kernel_rfl) g5.symm))
    rw [g5]
    have R2 := hid (show DidN (f : Int) (.tuple #[.agg #[.slice b1 2 d1, .slice b2 2 d2], .agg #[.int .i64 0, .slice b3 0 d3, .int .i64 (f : Int)]]) from ⟨b1, d1, b2, d2, b3, d3, rfl⟩)
    clear g5 h1
    go_wp2_with fail
    and_intros <;> first | exact Below.refl _ _ | rfl | exact R2.out | exact J2.out
  apply growjx_cons rfl
  · intro v w1 X hX h1 hd
    have HX := hid hX
    clear hX
    obtain ⟨b1, d1, b2, d2, b3, d3, g5⟩ : DidN (f : Int) (v 36) := hd 11 _ _ _ rfl rfl rfl rfl
    clear hd
    have J2 := hid (HX.out (.agg #[.slice b1 2 d1, .slice b2 2 d2]) w1 (keep_ext K5_ap b0R (by kernel_rfl) ⟨_, g5⟩))
    rw [g5]
    have R2 := hid (show StVal (.agg #[.slice b1 2 d1, .slice b2 2 d2]) from ⟨b1, d1, b2, d2, rfl⟩)
    clear g5 h1
    go_wp2_with fail
    and_intros <;> first | exact Below.refl _ _ | rfl | exact R2.out | exact J2.out
  apply growjx_cons rfl
  · intro v w1 X hX h1 hd
    have HX := hid hX
    clear hX
    obtain ⟨b1, d1, b2, d2, b3, d3, g5⟩ : DidN (f : Int) (v 36) := hd 11 _ _ _ rfl rfl rfl rfl
    clear hd
    rw [g5]
    have R2 := hid (show AnsN (f : Int) (.agg #[.int .i64 0, .slice b3 0 d3, .int .i64 (f : Int)]) from ⟨b3, d3, rfl⟩)
    clear g5 h1
    go_wp2_with fail
    and_intros <;> first | exact Below.refl _ _ | rfl | exact R2.out | exact HX.out _ _ (keep_other b0R (by decide) (by decide))
  apply growjx_cons rfl
  · intro v w1 X hX h1 hd
    have HX := hid hX
    clear hX
    clear hd
    have HSW := hid h1.size
    clear h1
    go_wp2_with fail
    have hb3 : Below w1.heap.size w1 (w1.alloc (.cells #[.slice none 0 0, .slice none 0 0] 27)) := (b0R).alloc (Nat.le_refl _) _
    have hz : (w1.alloc (.cells #[.slice none 0 0, .slice none 0 0] 27)).heap[w1.heap.size]? = some (.cells #[.slice none 0 0, .slice none 0 0] 27 (0, 0)) := heap_alloc_new _ _
    have hs : SBox (w1.alloc (.cells #[.slice none 0 0, .slice none 0 0] 27)) w1.heap.size := ⟨_, _, _, _, _, _, hz, by decide, by decide⟩
    have J2 := HX.out _ _ (keep_alloc K5_ap hb3 HSW.out rfl hz)
    and_intros <;> first | exact Below.refl _ _ | rfl | exact hb3 | exact ⟨_, rfl, HSW.out, hs⟩ | exact J2
  apply growjx_cons rfl
  · intro v w1 X hX h1 hd
    have HX := hid hX
    clear hX
    clear hd
    have HSW := hid h1.size
    clear h1
    go_wp2_with fail
    have hb3 : Below w1.heap.size w1 (w1.alloc (.cells #[.int .i64 0, .slice none 0 0, .int .i64 0] 43)) := (b0R).alloc (Nat.le_refl _) _
    have hn : (w1.alloc (.cells #[.int .i64 0, .slice none 0 0, .int .i64 0] 43)).heap[w1.heap.size]? = some (.cells #[.int .i64 0, .slice none 0 0, .int .i64 0] 43 (0, 0)) := heap_alloc_new _ _
    have J2 := HX.out _ _ (keep_alloc2 K5_ap hb3 HSW.out rfl (lt_of_block hn))
    and_intros <;> first | exact Below.refl _ _ | rfl | exact hb3 | exact ⟨_, rfl, HSW.out, hn⟩ | exact J2
  apply growjx_one rfl
  · intro v w1 X hX h1 hp hd
    have HX := hid hX
    clear hX
    obtain ⟨q, g1, hq, hs⟩ : PtrS V.heap.size (v 11) w1 := hd 14 _ _ _ rfl rfl rfl rfl
    obtain ⟨b1, d1, b2, d2, g2⟩ : StVal (v 48) := hd 12 _ _ _ rfl rfl rfl rfl
    clear hd
    have HS := hid hs
    have HQ := hid hq
    obtain ⟨y1, n1, z1, y2, n2, z2, hz, _, _⟩ := hs
    have m0 := cells_of hz 0
    have m1 := cells_of hz 1
    have f0 := free_of hz 0
    have f1 := free_of hz 1
    simp only [gT, gZ, gS] at m0 m1
    have hg := grown_tra (grown_cell w1 ⟨q, 0, none⟩ (.slice b1 2 d1)) (grown_cell _ ⟨q, 1, none⟩ (.slice b2 2 d2))
    have RR := hid (show RS V.heap.size w1 ((w1.setCell ⟨q, 0, none⟩ (.slice b1 2 d1)).setCell ⟨q, 1, none⟩ (.slice b2 2 d2)) from Or.inr ⟨q, HQ.out, HS.out, ⟨_, _, _, _, _, _, stbox_put hz, by decide, by decide⟩, hg⟩)
    have J2 := hid (HX.out (.tuple #[]) ((w1.setCell ⟨q, 0, none⟩ (.slice b1 2 d1)).setCell ⟨q, 1, none⟩ (.slice b2 2 d2)) (keep_store K5_ap hg hg.size g1 g2 (stbox_put hz) (by kernel_rfl) (by kernel_rfl)))
    rw [g1, g2]
    clear g1 g2 hq hz h1 hp hg
    go_wp2_with fail
    and_intros <;> first | exact Below.refl _ _ | rfl | exact RR.out | exact trivial | exact J2.out | exact ⟨_, J2.out⟩
  exact growj_nil
 case hend =>
  intro v w9 h1 hdm hL hd
  obtain ⟨L, hJ, hLt⟩ := hL
  obtain ⟨qs5, x5, y5, z5, u5, pp, gs', hS11, hbox, htwo, hpp⟩ := keep_end hJ (hLt _ (by decide)) (hLt _ (by decide)) (hLt _ (by decide)) (hLt _ (by decide))
  have gs : v 11 = .pointer (some ⟨qs5, 0, none⟩) := gs'
  obtain ⟨qa5, ga, hqa, hza⟩ : PtrA V.heap.size (v 12) w9 := hd 15 _ _ _ rfl rfl rfl
  obtain ⟨ta5, tb5, gx⟩ : AnsN (f : Int) (v 49) := hd 13 _ _ _ rfl rfl rfl
  have hap : ∀ k, pp k -> k ≠ qa5 := fun k hk e => (hpp k hk).2.2 (by rw [e]; exact ga)
  have hne : qs5 ≠ qa5 := by
   rintro rfl
   exact absurd (hbox.symm.trans hza) (by simp)
  clear hd hdm hJ hLt gs' hS11
  rw [gs, ga, gx]
  have m0 := cells_of hza 0
  have m1 := cells_of hza 1
  have m2 := cells_of hza 2
  have n0 := free_of hza 0
  have n1 := free_of hza 1
  have n2 := free_of hza 2
  simp only [gT, gZ, gS] at m0 m1 m2
  have HZ := hid hza
  have HBX := hid hbox
  have HT := hid (show _ /\ _ from ⟨htwo, hap⟩)
  have HB := hid h1
  have HQ := hid hqa
  have HN := hid hne
  clear h1 hqa hza hbox htwo hap hpp hne gs ga gx
  generalize v 36 = k36, v 37 = k37, v 38 = k38, v 39 = k39, v 40 = k40, v 41 = k41, v 42 = k42, v 43 = k43, v 44 = k44, v 45 = k45, v 46 = k46, v 47 = k47, v 48 = k48
  simp only [List.drop_succ_cons, List.drop_zero]
  go_upto_region 6 with (fail)
  generalize hA : World.setCell _ _ _ = U
  have hU : ((w9.setCell ⟨qa5, 0, none⟩ (.int .i64 0)).setCell ⟨qa5, 1, none⟩ (.slice ta5 0 tb5)).setCell ⟨qa5, 2, none⟩ (.int .i64 (f : Int)) = U := hA
  have gU : w9.grownBy U (some qa5) := by
   rw [<- hU]
   exact grown_tra (grown_tra (grown_cell w9 ⟨qa5, 0, none⟩ _) (grown_cell _ ⟨qa5, 1, none⟩ _)) (grown_cell _ ⟨qa5, 2, none⟩ _)
  have As5 := hid (show U.heap[qa5]? = some (.cells #[.int .i64 0, .slice ta5 0 tb5, .int .i64 (f : Int)] 43 (0, 0)) by
   rw [<- hU]
   exact (heap_setCell_same _ _ _ _ _ _ ((heap_setCell_same _ _ _ _ _ _ ((heap_setCell_same _ _ _ _ _ _ HZ.out).trans rfl)).trans rfl)).trans rfl)
  have Gs5 := hid ((gU.block qs5 (lt_of_block HBX.out) (fun e => HN.out (Option.some.inj e))).trans HBX.out)
  have Ts5 := hid (HT.out.1.keep (fun k hk hl => gU.block k hl (fun e => HT.out.2 k hk (Option.some.inj e)))).bound
  have bU : Below V.heap.size V U := HB.out.grown gU HB.out.size (fun j e => by cases e; exact HQ.out)
  replace G8 := cy bU G8
  replace G9 := cy bU G9
  replace T := hid (T.out.below bU).bound
  replace BW := hid (BW.out.trans (bU.mono BW.out.size))
  replace HKV := hid (HK.out.below BW.out)
  clear hA hU gU bU m0 m1 m2 n0 n1 n2 HZ HBX HT HB HQ HN
  apply wp_region_growt 5 [50, 51, 52, 53, 54]
   [fun _ u _ => u = .agg #[.slice x5 2 y5, .slice z5 2 u5],
    fun _ u _ => u = .agg #[.int .i64 (tx sNew).kind, .int .i64 (tx sNew).n, .string (tx sNew).s],
    fun _ u _ => u = .agg #[.string sB, .int .i64 1, .int .i64 (tx sNew).kind, .int .i64 (tx sNew).n, .string (tx sNew).s],
    fun _ y w' => NewK #[.string sB, .int .i64 1, .int .i64 (tx sNew).kind, .int .i64 (tx sNew).n, .string (tx sNew).s] 60 y w',
    fun _ u _ => u = .int .i64 (f : Int)]
   (Below U.heap.size U)
  case hF =>
   intro v
   simp only [setAll, List.foldl_cons, List.foldl_nil, Act.put, List.setIfInBounds_toArray, List.set_cons_succ, List.set_cons_zero]
   exact rfl
  case hm => kernel_rfl
  case hB => kernel_rfl
  case hsz => kernel_rfl
  case hC => exact fun w1 w2 h b => h.trans (b.mono h.size)
  case hw => exact Below.drew b0R
  case hS =>
   intro D hD v u
   simp only [List.mem_cons, List.not_mem_nil, or_false] at hD
   rcases hD with rfl | rfl | rfl | rfl | rfl
   · exact fun w1 w2 h _ => h
   · exact fun w1 w2 h _ => h
   · exact fun w1 w2 h _ => h
   · exact fun w1 w2 h hb => h.below hb
   · exact fun w1 w2 h _ => h
  case hob =>
   simp only [List.take_succ_cons, List.take_zero]
   apply growt_cons
   · intro v w1 h1 hd
     clear hd
     have q0 := (h1.block _ (lt_of_block Gs5.out)).trans Gs5.out
     have x0 := cells_of q0 0
     have x1 := cells_of q0 1
     simp only [gT, gZ, gS] at x0 x1
     clear q0
     clear h1
     go_wp2_with fail
     first | exact Below.refl _ _ | exact ⟨Below.refl _ _, rfl⟩ | exact ⟨rfl, Below.refl _ _⟩
   apply growt_cons
   · intro v w1 h1 hd
     clear hd
     have con := text_any sNew w1
     clear h1
     go_wp2_with fail
     refine con.mono ?_
     rintro e w2 ⟨rfl, b2⟩
     have B2 := hid b2
     clear con b2
     go_wp2_with fail
     first | exact ⟨B2.out, rfl, rfl, rfl⟩ | exact ⟨B2.out, rfl⟩ | exact ⟨rfl, B2.out⟩
   apply growt_cons
   · intro v w1 h1 hd
     have g1 : v 51 = .agg #[.int .i64 (tx sNew).kind, .int .i64 (tx sNew).n, .string (tx sNew).s] := hd 1 _ _ _ rfl rfl rfl rfl
     clear hd
     rw [g1]
     clear g1 h1
     go_wp2_with fail
     first | exact ⟨Below.refl _ _, rfl⟩ | exact ⟨rfl, Below.refl _ _⟩ | exact Below.refl _ _ | exact ⟨Below.refl _ _, rfl, rfl⟩ | exact ⟨Below.refl _ _, rfl, rfl, rfl⟩
   apply growt_cons
   · intro v w1 h1 hd
     have g52 : v 52 = .agg #[.string sB, .int .i64 1, .int .i64 (tx sNew).kind, .int .i64 (tx sNew).n, .string (tx sNew).s] := hd 2 _ _ _ rfl rfl rfl rfl
     clear hd
     rw [g52]
     clear g52 h1
     go_wp2_with fail
     have hb3 : Below w1.heap.size w1 (w1.alloc (.cells #[.string sB, .int .i64 1, .int .i64 (tx sNew).kind, .int .i64 (tx sNew).n, .string (tx sNew).s] 60)) := (b0R).alloc (Nat.le_refl _) _
     first | exact ⟨hb3, w1.heap.size, rfl, heap_alloc_new _ _⟩ | exact ⟨⟨w1.heap.size, rfl, heap_alloc_new _ _⟩, hb3⟩
   apply growt_cons
   · intro v w1 h1 hd
     have g1 : v 50 = .agg #[.slice x5 2 y5, .slice z5 2 u5] := hd 0 _ _ _ rfl rfl rfl rfl
     obtain ⟨g, g2, hg⟩ : NewK #[.string sB, .int .i64 1, .int .i64 (tx sNew).kind, .int .i64 (tx sNew).n, .string (tx sNew).s] 60 (v 53) w1 := hd 3 _ _ _ rfl rfl rfl rfl
     clear hd
     rw [g1, g2]
     have con := count_any (Ts5.out.below h1) (one_cond (c := condB 1 (tx sNew)) (p := fun _ => True) hg trivial) HF.out.i1 (by decide) (HKV.out.below h1) HF.out.n2
     clear g1 g2 hg h1
     go_wp2_with fail
     refine con.mono ?_
     rintro e w2 ⟨rfl, b2⟩
     have B2 := hid b2
     clear con b2
     go_wp2_with fail
     first | exact ⟨B2.out, rfl⟩ | exact ⟨rfl, B2.out⟩ | exact B2.out
   exact growt_nil
  case hend =>
   intro v w9 h1 hd
   have g54 : v 54 = .int .i64 (f : Int) := hd 4 _ _ _ rfl rfl rfl
   clear hd
   rw [g54]
   replace G8 := cy h1 G8
   replace G9 := cy h1 G9
   replace T := hid (T.out.below h1).bound
   replace As5 := cy h1 As5
   replace Gs5 := cy h1 Gs5
   replace Ts5 := hid (Ts5.out.below h1).bound
   replace BW := hid (BW.out.trans (h1.mono BW.out.size))
   replace HKV := hid (HK.out.below BW.out)
   clear g54 h1
   generalize v 50 = k50, v 51 = k51, v 52 = k52, v 53 = k53
   simp only [List.drop_succ_cons, List.drop_zero]
   go_upto_region 7 with (fail)
   have x0 := cells_of G8.out 0
   have x1' := cells_of G8.out 1
   have y0 := cells_of G9.out 0
   have y1 := cells_of G9.out 1
   have y2 := cells_of G9.out 2
   have y3 := cells_of G9.out 3
   have y4 := cells_of G9.out 4
   simp only [gT, gZ, gS] at x0 x1' y0 y1 y2 y3 y4
   have h9 := lt_of_block G9.out
   go_wp2_with fail
   generalize hX : World.alloc _ _ = X
   have hX2 : allocs w9 [_, _] = X := hX
   have bx := allocs_self hX2
   have q1 : X.heap[w9.heap.size]? = some (.cells #[.string sA] 9 (0, 0)) := allocs_get hX2 0 rfl
   have q2 : X.heap[w9.heap.size + 1]? = some (.cells #[.string sA, .int .i64 6, .int .i64 (cv).kind, .int .i64 (cv).n, .string (cv).s] 60 (0, 0)) := allocs_get hX2 1 rfl
   replace G8 := cy bx G8
   replace G9 := cy bx G9
   replace T := hid (T.out.below bx).bound
   replace As5 := cy bx As5
   replace Gs5 := cy bx Gs5
   replace Ts5 := hid (Ts5.out.below bx).bound
   replace BW := hid (BW.out.trans (bx.mono BW.out.size))
   replace HKV := hid (HK.out.below BW.out)
   have con := do_two T.out (sumC1_at (p := fun _ => True) q1 q2 trivial trivial) HF.out.i0 (by decide) ⟨rfl, Nat.zero_le _, show 1 <= 500000 by decide, Nat.zero_le _, Nat.zero_le _⟩ HKV.out (stepS_qry rfl) HF.out.s1 rfl
   clear h9 hX hX2 bx q1 q2 x0 x1' y0 y1 y2 y3 y4
   refine con.mono ?_
   rintro e w10 ⟨e1, e2, e3, e4, ra, rc, rfl, b10, _, r10⟩
   have R10 := hid r10
   replace G8 := cy b10 G8
   replace G9 := cy b10 G9
   replace T := hid (T.out.below b10).bound
   replace As5 := cy b10 As5
   replace Gs5 := cy b10 Gs5
   replace Ts5 := hid (Ts5.out.below b10).bound
   replace BW := hid (BW.out.trans (b10.mono BW.out.size))
   replace HKV := hid (HK.out.below BW.out)
   clear con b10 r10
   go_upto_region 8 with (fail)
   generalize hA : World.alloc _ _ = V8
   have hZ : allocs w10 [_, _] = V8 := hA
   have bz := allocs_self hZ
   obtain ⟨rb, ro, rfl, hrw⟩ := rows_cells (R10.out.below bz) Nat.one_pos
   have RW := hid (show RowOne x1 rb ro V8 from hrw 0 Nat.one_pos x1 rfl)
   have A15 := hid (show V8.heap[w10.heap.size + 1]? = some (.cells #[.int .i64 0, .slice (some ⟨rb, ro, none⟩) 1 rc, .int .i64 1] 43 (0, 0)) from allocs_get hZ 1 rfl)
   replace G8 := cy bz G8
   replace G9 := cy bz G9
   replace T := hid (T.out.below bz).bound
   replace As5 := cy bz As5
   replace Gs5 := cy bz Gs5
   replace Ts5 := hid (Ts5.out.below bz).bound
   replace BW := hid (BW.out.trans (bz.mono BW.out.size))
   replace HKV := hid (HK.out.below BW.out)
   obtain ⟨q15, hq15⟩ : ∃ q, w10.heap.size + 1 = q := ⟨_, rfl⟩
   rw [hq15] at A15 ⊢
   obtain ⟨q14, hq14⟩ : ∃ q, w10.heap.size = q := ⟨_, rfl⟩
   rw [hq14]
   clear hA hZ bz hq15 hq14 hrw R10
   apply wp_region_growr 13 12 (RS V8.heap.size) [65, 66, 67, 68, 69, 70, 71, 64, 72, 73, 16, 17]
    [fun _ u _ => u = .agg #[.slice x5 2 y5, .slice z5 2 u5],
     fun _ u w' => NewB V8.heap.size #[.string sA] 9 u w',
     fun _ u _ => u = .agg #[.int .i64 (tx sNew).kind, .int .i64 (tx sNew).n, .string (tx sNew).s],
     fun _ u _ => u = .agg #[.string sB, .int .i64 1, .int .i64 (tx sNew).kind, .int .i64 (tx sNew).n, .string (tx sNew).s],
     fun _ u w' => NewB V8.heap.size #[.string sB, .int .i64 1, .int .i64 (tx sNew).kind, .int .i64 (tx sNew).n, .string (tx sNew).s] 60 u w',
     fun _ u w' => SumCD V8.heap.size u w',
     fun _ u w' => DidRowX x2 u w',
     fun _ u w' => DidRowX x2 u w',
     fun _ u _ => StVal u,
     fun _ u w' => AnsRowX x2 u w',
     fun _ u w' => PtrS V8.heap.size u w',
     fun _ u w' => PtrA V8.heap.size u w',
     fun _ _ _ => True]
    (Below V8.heap.size V8) (Below V8.heap.size V8) (fun _ => True)
   case hF =>
    intro v
    simp only [setAll, List.foldl_cons, List.foldl_nil, Act.put, List.setIfInBounds_toArray, List.set_cons_succ, List.set_cons_zero]
    exact rfl
   case hm => kernel_rfl
   case hB => kernel_rfl
   case hsz => kernel_rfl
   case hR => exact fun w1 w2 h => Or.inl h
   case hC => exact fun w1 w2 h b => RS.base (Nat.le_refl _) h b
   case hCp => exact fun w1 w2 h b => h.trans (b.mono h.size)
   case hDm => exact fun _ _ _ _ => trivial
   case hw => exact Below.drew b0R
   case hwp => exact Below.drew b0R
   case hS =>
    intro D hD v u
    simp only [List.mem_cons, List.not_mem_nil, or_false] at hD
    rcases hD with rfl | rfl | rfl | rfl | rfl | rfl | rfl | rfl | rfl | rfl | rfl | rfl | rfl
    · exact fun w1 w2 h _ => h
    · exact fun w1 w2 h hr => h.rs (by decide) hr
    · exact fun w1 w2 h _ => h
    · exact fun w1 w2 h _ => h
    · exact fun w1 w2 h hr => h.rs (by decide) hr
    · exact fun w1 w2 h hr => h.rs hr
    · exact fun w1 w2 ⟨b1, d1, b2, d2, rb, ro, d3, e, h⟩ hr => ⟨b1, d1, b2, d2, rb, ro, d3, e, h.rs hr⟩
    · exact fun w1 w2 ⟨b1, d1, b2, d2, rb, ro, d3, e, h⟩ hr => ⟨b1, d1, b2, d2, rb, ro, d3, e, h.rs hr⟩
    · exact fun w1 w2 h _ => h
    · exact fun w1 w2 ⟨rb, ro, d3, e, h⟩ hr => ⟨rb, ro, d3, e, h.rs hr⟩
    · exact fun w1 w2 ⟨q, e, h, z⟩ hr => ⟨q, e, h, z.rs hr⟩
    · exact fun w1 w2 ⟨q, e, h, z⟩ hr => ⟨q, e, h, hr.other z (by decide)⟩
    · exact fun w1 w2 h _ => h
   case hob =>
    simp only [List.take_succ_cons, List.take_zero]
    apply growr_cons rfl
    · intro v w1 h1 hd
      clear hd
      have q0 := (h1.block _ (lt_of_block Gs5.out)).trans Gs5.out
      have x0 := cells_of q0 0
      have x1 := cells_of q0 1
      simp only [gT, gZ, gS] at x0 x1
      clear q0
      clear h1
      go_wp2_with fail
      first | exact Below.refl _ _ | exact ⟨Below.refl _ _, rfl⟩ | exact ⟨rfl, Below.refl _ _⟩
    apply growr_cons rfl
    · intro v w1 h1 hd
      clear hd
      have HSW := hid h1.size
      clear h1
      go_wp2_with fail
      have hb3 : Below w1.heap.size w1 (w1.alloc (.cells #[.string sA] 9)) := (b0R).alloc (Nat.le_refl _) _
      first | exact ⟨hb3, w1.heap.size, rfl, HSW.out, heap_alloc_new _ _⟩ | exact ⟨⟨w1.heap.size, rfl, HSW.out, heap_alloc_new _ _⟩, hb3⟩
    apply growr_cons rfl
    · intro v w1 h1 hd
      clear hd
      have con := text_any sNew w1
      clear h1
      go_wp2_with fail
      refine con.mono ?_
      rintro e w2 ⟨rfl, b2⟩
      have B2 := hid b2
      clear con b2
      go_wp2_with fail
      first | exact ⟨B2.out, rfl, rfl, rfl⟩ | exact ⟨B2.out, rfl⟩ | exact ⟨rfl, B2.out⟩
    apply growr_cons rfl
    · intro v w1 h1 hd
      have g1 : v 67 = .agg #[.int .i64 (tx sNew).kind, .int .i64 (tx sNew).n, .string (tx sNew).s] := hd 2 _ _ _ rfl rfl rfl rfl
      clear hd
      rw [g1]
      clear g1 h1
      go_wp2_with fail
      first | exact ⟨Below.refl _ _, rfl⟩ | exact ⟨rfl, Below.refl _ _⟩ | exact Below.refl _ _ | exact ⟨Below.refl _ _, rfl, rfl⟩ | exact ⟨Below.refl _ _, rfl, rfl, rfl⟩
    apply growr_cons rfl
    · intro v w1 h1 hd
      have g1 : v 68 = .agg #[.string sB, .int .i64 1, .int .i64 (tx sNew).kind, .int .i64 (tx sNew).n, .string (tx sNew).s] := hd 3 _ _ _ rfl rfl rfl rfl
      clear hd
      rw [g1]
      have HSW := hid h1.size
      clear g1 h1
      go_wp2_with fail
      have hb3 : Below w1.heap.size w1 (w1.alloc (.cells #[.string sB, .int .i64 1, .int .i64 (tx sNew).kind, .int .i64 (tx sNew).n, .string (tx sNew).s] 60)) := (b0R).alloc (Nat.le_refl _) _
      first | exact ⟨hb3, w1.heap.size, rfl, HSW.out, heap_alloc_new _ _⟩ | exact ⟨⟨w1.heap.size, rfl, HSW.out, heap_alloc_new _ _⟩, hb3⟩
    apply growr_cons rfl
    · intro v w1 h1 hd
      obtain ⟨q1, g1, _, hq1⟩ : NewB V8.heap.size #[.string sA] 9 (v 66) w1 := hd 1 _ _ _ rfl rfl rfl rfl
      obtain ⟨q2, g2, _, hq2⟩ : NewB V8.heap.size #[.string sB, .int .i64 1, .int .i64 (tx sNew).kind, .int .i64 (tx sNew).n, .string (tx sNew).s] 60 (v 69) w1 := hd 4 _ _ _ rfl rfl rfl rfl
      clear hd
      rw [g1, g2]
      have HH := hid (show _ /\ _ from ⟨hq1, hq2⟩)
      clear g1 g2 hq1 hq2 h1
      go_wp2_with fail
      first | exact ⟨Below.refl _ _, q1, q2, rfl, HH.out.1, HH.out.2⟩ | exact ⟨⟨q1, q2, rfl, HH.out.1, HH.out.2⟩, Below.refl _ _⟩
    apply growr_ahead rfl (by kernel_rfl)
    · intro v w1 h1 hp hd
      have g0 : v 65 = .agg #[.slice x5 2 y5, .slice z5 2 u5] := hd 0 _ _ _ rfl rfl rfl rfl
      obtain ⟨q1, q2, g4, hg1, hg2⟩ : SumCD V8.heap.size (v 70) w1 := hd 5 _ _ _ rfl rfl rfl rfl
      clear hd
      rw [g0, g4]
      have con := do_two (Ts5.out.below h1) (sumC2_at (p := fun _ => True) hg1 hg2 trivial trivial) HF.out.i1 (by decide) ⟨rfl, Nat.zero_le _, show 1 <= 500000 by decide, Nat.zero_le _, Nat.zero_le _⟩ (HKV.out.below h1) (stepS_qry rfl) HF.out.s2 rfl
      clear g0 g4 hg1 hg2 h1 hp
      go_wp2_with fail
      refine con.mono ?_
      rintro e w2 ⟨b1, d1, b2, d2, b3, d3, rfl, bb, _, rr⟩
      have B2 := hid bb
      obtain ⟨rb, ro, rfl, hrw⟩ := rows_cells rr Nat.one_pos
      have hrow := hrw 0 Nat.one_pos x2 rfl
      have R2 := hid (show DidRowX x2 (.tuple #[.agg #[.slice b1 2 d1, .slice b2 2 d2], .agg #[.int .i64 0, .slice (some ⟨rb, ro, none⟩) 1 d3, .int .i64 1]]) w2 from ⟨b1, d1, b2, d2, rb, ro, d3, rfl, hrow⟩)
      clear con bb rr hrow
      go_wp2_with fail
      first | exact ⟨B2.out, R2.out⟩ | exact ⟨R2.out, B2.out⟩
    apply growr_cons rfl
    · intro v w1 h1 hd
      obtain ⟨b1, d1, b2, d2, rb, ro, d3, g5, hrow⟩ : DidRowX x2 (v 71) w1 := hd 6 _ _ _ rfl rfl rfl rfl
      clear hd
      rw [g5]
      have R2 := hid (show DidRowX x2 (.tuple #[.agg #[.slice b1 2 d1, .slice b2 2 d2], .agg #[.int .i64 0, .slice (some ⟨rb, ro, none⟩) 1 d3, .int .i64 1]]) w1 from ⟨b1, d1, b2, d2, rb, ro, d3, rfl, hrow⟩)
      clear g5 h1 hrow
      go_wp2_with fail
      first | exact ⟨Below.refl _ _, R2.out⟩ | exact ⟨R2.out, Below.refl _ _⟩
    apply growr_cons rfl
    · intro v w1 h1 hd
      obtain ⟨b1, d1, b2, d2, rb, ro, d3, g5, hrow⟩ : DidRowX x2 (v 64) w1 := hd 7 _ _ _ rfl rfl rfl rfl
      clear hd
      rw [g5]
      have R2 := hid (show StVal (.agg #[.slice b1 2 d1, .slice b2 2 d2]) from ⟨b1, d1, b2, d2, rfl⟩)
      clear g5 h1 hrow
      go_wp2_with fail
      first | exact ⟨Below.refl _ _, R2.out⟩ | exact ⟨R2.out, Below.refl _ _⟩
    apply growr_cons rfl
    · intro v w1 h1 hd
      obtain ⟨b1, d1, b2, d2, rb, ro, d3, g5, hrow⟩ : DidRowX x2 (v 64) w1 := hd 7 _ _ _ rfl rfl rfl rfl
      clear hd
      rw [g5]
      have R2 := hid (show AnsRowX x2 (.agg #[.int .i64 0, .slice (some ⟨rb, ro, none⟩) 1 d3, .int .i64 1]) w1 from ⟨rb, ro, d3, rfl, hrow⟩)
      clear g5 h1 hrow
      go_wp2_with fail
      first | exact ⟨Below.refl _ _, R2.out⟩ | exact ⟨R2.out, Below.refl _ _⟩
    apply growr_cons rfl
    · intro v w1 h1 hd
      clear hd
      have HSW := hid h1.size
      clear h1
      go_wp2_with fail
      have hb3 : Below w1.heap.size w1 (w1.alloc (.cells #[.slice none 0 0, .slice none 0 0] 27)) := (b0R).alloc (Nat.le_refl _) _
      have hs : SBox (w1.alloc (.cells #[.slice none 0 0, .slice none 0 0] 27)) w1.heap.size := ⟨_, _, _, _, _, _, heap_alloc_new _ _, by decide, by decide⟩
      first | exact ⟨hb3, _, rfl, HSW.out, hs⟩ | exact ⟨⟨_, rfl, HSW.out, hs⟩, hb3⟩ | exact ⟨hb3, HSW.out, hs⟩
    apply growr_cons rfl
    · intro v w1 h1 hd
      clear hd
      have HSW := hid h1.size
      clear h1
      go_wp2_with fail
      have hb3 : Below w1.heap.size w1 (w1.alloc (.cells #[.int .i64 0, .slice none 0 0, .int .i64 0] 43)) := (b0R).alloc (Nat.le_refl _) _
      have hn : (w1.alloc (.cells #[.int .i64 0, .slice none 0 0, .int .i64 0] 43)).heap[w1.heap.size]? = some (.cells #[.int .i64 0, .slice none 0 0, .int .i64 0] 43 (0, 0)) := heap_alloc_new _ _
      first | exact ⟨hb3, _, rfl, HSW.out, hn⟩ | exact ⟨⟨_, rfl, HSW.out, hn⟩, hb3⟩ | exact ⟨hb3, HSW.out, hn⟩
    apply growr_one rfl
    · intro v w1 h1 hp hd
      obtain ⟨q, g1, hq, hs⟩ : PtrS V8.heap.size (v 16) w1 := hd 10 _ _ _ rfl rfl rfl rfl
      obtain ⟨b1, d1, b2, d2, g2⟩ : StVal (v 72) := hd 8 _ _ _ rfl rfl rfl rfl
      clear hd
      rw [g1, g2]
      have HS := hid hs
      have HQ := hid hq
      obtain ⟨y1, n1, z1, y2, n2, z2, hz, _, _⟩ := hs
      have m0 := cells_of hz 0
      have m1 := cells_of hz 1
      have f0 := free_of hz 0
      have f1 := free_of hz 1
      simp only [gT, gZ, gS] at m0 m1
      have RR := hid (show RS V8.heap.size w1 ((w1.setCell ⟨q, 0, none⟩ (.slice b1 2 d1)).setCell ⟨q, 1, none⟩ (.slice b2 2 d2)) from Or.inr ⟨q, HQ.out, HS.out, ⟨_, _, _, _, _, _, stbox_put hz, by decide, by decide⟩, grown_tra (grown_cell w1 ⟨q, 0, none⟩ _) (grown_cell _ ⟨q, 1, none⟩ _)⟩)
      clear g1 g2 hq hz h1 hp
      go_wp2_with fail
      first | exact RR.out | exact ⟨RR.out, trivial⟩ | exact ⟨trivial, RR.out⟩
    exact growr_nil
   case hend =>
    intro v w12 h1 hdm hd
    obtain ⟨q17, g17, hq17, hz17⟩ : PtrA V8.heap.size (v 17) w12 := hd 11 _ _ _ rfl rfl rfl
    obtain ⟨sb, so, sc, g73, hrow⟩ : AnsRowX x2 (v 73) w12 := hd 9 _ _ _ rfl rfl rfl
    clear hd hdm
    rw [g17, g73]
    have m0 := cells_of hz17 0
    have m1 := cells_of hz17 1
    have m2 := cells_of hz17 2
    have n0 := free_of hz17 0
    have n1 := free_of hz17 1
    have n2 := free_of hz17 2
    simp only [gT, gZ, gS] at m0 m1 m2
    have HZ := hid hz17
    have HR := hid hrow
    have HB := hid h1
    have HQ := hid hq17
    clear h1 hq17 hz17 hrow g17 g73
    generalize v 16 = k16, v 64 = k64, v 65 = k65, v 66 = k66, v 67 = k67, v 68 = k68, v 69 = k69, v 70 = k70, v 71 = k71, v 72 = k72
    simp only [List.drop_succ_cons, List.drop_zero]
    go_upto_region 9 with (fail)
    generalize hA : World.setCell _ _ _ = U9
    have hU : ((w12.setCell ⟨q17, 0, none⟩ (.int .i64 0)).setCell ⟨q17, 1, none⟩ (.slice (some ⟨sb, so, none⟩) 1 sc)).setCell ⟨q17, 2, none⟩ (.int .i64 1) = U9 := hA
    have gU : w12.grownBy U9 (some q17) := by
     rw [<- hU]
     exact grown_tra (grown_tra (grown_cell w12 ⟨q17, 0, none⟩ _) (grown_cell _ ⟨q17, 1, none⟩ _)) (grown_cell _ ⟨q17, 2, none⟩ _)
    have A17 := hid (show U9.heap[q17]? = some (.cells #[.int .i64 0, .slice (some ⟨sb, so, none⟩) 1 sc, .int .i64 1] 43 (0, 0)) by
     rw [<- hU]
     exact (heap_setCell_same _ _ _ _ _ _ ((heap_setCell_same _ _ _ _ _ _ ((heap_setCell_same _ _ _ _ _ _ HZ.out).trans rfl)).trans rfl)).trans rfl)
    have RV := hid (HR.out.grown gU (ans_cell HZ.out).1 (ans_cell HZ.out).2)
    have bU : Below V8.heap.size V8 U9 := HB.out.grown gU HB.out.size (fun j e => by cases e; exact HQ.out)
    replace G8 := cy bU G8
    replace G9 := cy bU G9
    replace T := hid (T.out.below bU).bound
    replace As5 := cy bU As5
    replace Gs5 := cy bU Gs5
    replace Ts5 := hid (Ts5.out.below bU).bound
    replace A15 := cy bU A15
    replace RW := hid (RW.out.below bU)
    replace BW := hid (BW.out.trans (bU.mono BW.out.size))
    replace HKV := hid (HK.out.below BW.out)
    clear hA hU gU bU m0 m1 m2 n0 n1 n2 HZ HR HB HQ
    apply wp_region_growj 12 11 (RS U9.heap.size) (KeepJ K9 U9.heap.size (LE) (B)) [75, 76, 77, 78, 79, 80, 74, 81, 82, 18, 19]
     [fun _ u _ => u = .agg #[.slice x5 2 y5, .slice z5 2 u5],
      fun _ u _ => u = .agg #[.int .i64 (tx sNew).kind, .int .i64 (tx sNew).n, .string (tx sNew).s],
      fun _ u _ => u = .agg #[.string sB, .int .i64 1, .int .i64 (tx sNew).kind, .int .i64 (tx sNew).n, .string (tx sNew).s],
      fun _ u w' => NewB U9.heap.size #[.string sB, .int .i64 1, .int .i64 (tx sNew).kind, .int .i64 (tx sNew).n, .string (tx sNew).s] 60 u w',
      fun _ u w' => DelCD U9.heap.size u w',
      fun _ u _ => DidN (f : Int) u,
      fun _ u _ => DidN (f : Int) u,
      fun _ u _ => StVal u,
      fun _ u _ => AnsN (f : Int) u,
      fun _ u w' => PtrS U9.heap.size u w',
      fun _ u w' => PtrA U9.heap.size u w',
      fun _ _ _ => True]
     (Below U9.heap.size U9) (Below U9.heap.size U9) (fun _ => True)
    case hF =>
     intro v
     simp only [setAll, List.foldl_cons, List.foldl_nil, Act.put, List.setIfInBounds_toArray, List.set_cons_succ, List.set_cons_zero]
     exact rfl
    case hm => kernel_rfl
    case hB => kernel_rfl
    case hsz => kernel_rfl
    case hR => exact fun w1 w2 h => Or.inl h
    case hC => exact fun w1 w2 h b => RS.base (Nat.le_refl _) h b
    case hCp => exact fun w1 w2 h b => h.trans (b.mono h.size)
    case hDm => exact fun _ _ _ _ => trivial
    case hw => exact Below.drew b0R
    case hwp => exact Below.drew b0R
    case hJ0 => exact fun v => keep_start _ _ _ _ v _
    case hS =>
     intro D hD v u
     simp only [List.mem_cons, List.not_mem_nil, or_false] at hD
     rcases hD with rfl | rfl | rfl | rfl | rfl | rfl | rfl | rfl | rfl | rfl | rfl | rfl
     · exact fun w1 w2 h _ => h
     · exact fun w1 w2 h _ => h
     · exact fun w1 w2 h _ => h
     · exact fun w1 w2 h hr => h.rs (by decide) hr
     · exact fun w1 w2 h hr => h.rs hr
     · exact fun w1 w2 h _ => h
     · exact fun w1 w2 h _ => h
     · exact fun w1 w2 h _ => h
     · exact fun w1 w2 h _ => h
     · exact fun w1 w2 ⟨q, e, h, z⟩ hr => ⟨q, e, h, z.rs hr⟩
     · exact fun w1 w2 ⟨q, e, h, z⟩ hr => ⟨q, e, h, hr.other z (by decide)⟩
     · exact fun w1 w2 h _ => h
    case hob =>
     simp only [List.take_succ_cons, List.take_zero]
     apply growjx_cons rfl
     · intro v w1 X hX h1 hd
       have HX := hid hX
       clear hX
       clear hd
       have q0 := (h1.block _ (lt_of_block Gs5.out)).trans Gs5.out
       have x0 := cells_of q0 0
       have x1 := cells_of q0 1
       simp only [gT, gZ, gS] at x0 x1
       clear q0
       clear h1
       go_wp2_with fail
       and_intros <;> first | exact Below.refl _ _ | rfl | exact HX.out _ _ (keep_other b0R (by decide) (by decide))
     apply growjx_cons rfl
     · intro v w1 X hX h1 hd
       have HX := hid hX
       clear hX
       clear hd
       have con := text_any sNew w1
       clear h1
       go_wp2_with fail
       refine con.mono ?_
       rintro e w2 ⟨rfl, b2⟩
       have B2 := hid b2
       clear con b2
       go_wp2_with fail
       and_intros <;> first | exact Below.refl _ _ | rfl | exact B2.out | exact HX.out _ _ (keep_other B2.out (by decide) (by decide))
     apply growjx_cons rfl
     · intro v w1 X hX h1 hd
       have HX := hid hX
       clear hX
       have g0 : v 76 = .agg #[.int .i64 (tx sNew).kind, .int .i64 (tx sNew).n, .string (tx sNew).s] := hd 1 _ _ _ rfl rfl rfl rfl
       clear hd
       rw [g0]
       clear g0 h1
       go_wp2_with fail
       and_intros <;> first | exact Below.refl _ _ | rfl | exact HX.out _ _ (keep_other b0R (by decide) (by decide))
     apply growjx_cons rfl
     · intro v w1 X hX h1 hd
       have HX := hid hX
       clear hX
       have g1 : v 77 = .agg #[.string sB, .int .i64 1, .int .i64 (tx sNew).kind, .int .i64 (tx sNew).n, .string (tx sNew).s] := hd 2 _ _ _ rfl rfl rfl rfl
       clear hd
       rw [g1]
       have HSW := hid h1.size
       clear g1 h1
       go_wp2_with fail
       have hb3 : Below w1.heap.size w1 (w1.alloc (.cells #[.string sB, .int .i64 1, .int .i64 (tx sNew).kind, .int .i64 (tx sNew).n, .string (tx sNew).s] 60)) := (b0R).alloc (Nat.le_refl _) _
       and_intros <;> first | exact Below.refl _ _ | rfl | exact hb3 | exact ⟨w1.heap.size, rfl, HSW.out, heap_alloc_new _ _⟩ | exact HX.out _ _ (keep_other hb3 (by decide) (by decide))
     apply growjx_cons rfl
     · intro v w1 X hX h1 hd
       have HX := hid hX
       clear hX
       obtain ⟨q0, g0, _, hq0⟩ : NewB U9.heap.size #[.string sB, .int .i64 1, .int .i64 (tx sNew).kind, .int .i64 (tx sNew).n, .string (tx sNew).s] 60 (v 78) w1 := hd 3 _ _ _ rfl rfl rfl rfl
       clear hd
       rw [g0]
       have HH := hid (show _ from hq0)
       clear g0 hq0 h1
       go_wp2_with fail
       and_intros <;> first | exact Below.refl _ _ | rfl | exact ⟨q0, rfl, HH.out⟩ | exact HX.out _ _ (keep_other b0R (by decide) (by decide))
     apply growjx_cons rfl
     · intro v w1 X hX h1 hd
       have HX := hid hX
       clear hX
       have g0 : v 75 = .agg #[.slice x5 2 y5, .slice z5 2 u5] := hd 0 _ _ _ rfl rfl rfl rfl
       obtain ⟨q0, g4, hq0⟩ : DelCD U9.heap.size (v 79) w1 := hd 4 _ _ _ rfl rfl rfl rfl
       clear hd
       rw [g0, g4]
       have con := do_two (Ts5.out.below h1) (delC2_at (p := fun _ => True) hq0 trivial) HF.out.i1 (by decide) ⟨rfl, Nat.zero_le _, Nat.zero_le _, Nat.zero_le _, Nat.zero_le _⟩ (HKV.out.below h1) HF.out.d1.1 HF.out.d1.2 rfl
       clear g0 g4 hq0 h1
       go_wp2_with fail
       refine con.mono ?_
       rintro e w2 ⟨b1, d1, b2, d2, b3, d3, rfl, bb, tt, rr⟩
       have B2 := hid bb
       have J2 := hid (HX.out (.tuple #[.agg #[.slice b1 2 d1, .slice b2 2 d2], .agg #[.int .i64 0, .slice b3 0 d3, .int .i64 (f : Int)]]) w2 (keep_call K9_ap bb (fun k h => h.2) rfl tt))
       have R2 := hid (show DidN (f : Int) (.tuple #[.agg #[.slice b1 2 d1, .slice b2 2 d2], .agg #[.int .i64 0, .slice b3 0 d3, .int .i64 (f : Int)]]) from ⟨b1, d1, b2, d2, b3, d3, rfl⟩)
       clear con bb rr tt
       go_wp2_with fail
       and_intros <;> first | exact Below.refl _ _ | rfl | exact B2.out | exact R2.out | exact J2.out
     apply growjx_cons rfl
     · intro v w1 X hX h1 hd
       have HX := hid hX
       clear hX
       obtain ⟨b1, d1, b2, d2, b3, d3, g5⟩ : DidN (f : Int) (v 80) := hd 5 _ _ _ rfl rfl rfl rfl
       clear hd
       have J2 := hid (HX.out (.tuple #[.agg #[.slice b1 2 d1, .slice b2 2 d2], .agg #[.int .i64 0, .slice b3 0 d3, .int .i64 (f : Int)]]) w1 (keep_move K9_ap b0R (by kernel_rfl) g5.symm))
       rw [g5]
       have R2 := hid (show DidN (f : Int) (.tuple #[.agg #[.slice b1 2 d1, .slice b2 2 d2], .agg #[.int .i64 0, .slice b3 0 d3, .int .i64 (f : Int)]]) from ⟨b1, d1, b2, d2, b3, d3, rfl⟩)
       clear g5 h1
       go_wp2_with fail
       and_intros <;> first | exact Below.refl _ _ | rfl | exact R2.out | exact J2.out
     apply growjx_cons rfl
     · intro v w1 X hX h1 hd
       have HX := hid hX
       clear hX
       obtain ⟨b1, d1, b2, d2, b3, d3, g5⟩ : DidN (f : Int) (v 74) := hd 6 _ _ _ rfl rfl rfl rfl
       clear hd
       have J2 := hid (HX.out (.agg #[.slice b1 2 d1, .slice b2 2 d2]) w1 (keep_ext K9_ap b0R (by kernel_rfl) ⟨_, g5⟩))
       rw [g5]
       have R2 := hid (show StVal (.agg #[.slice b1 2 d1, .slice b2 2 d2]) from ⟨b1, d1, b2, d2, rfl⟩)
       clear g5 h1
       go_wp2_with fail
       and_intros <;> first | exact Below.refl _ _ | rfl | exact R2.out | exact J2.out
     apply growjx_cons rfl
     · intro v w1 X hX h1 hd
       have HX := hid hX
       clear hX
       obtain ⟨b1, d1, b2, d2, b3, d3, g5⟩ : DidN (f : Int) (v 74) := hd 6 _ _ _ rfl rfl rfl rfl
       clear hd
       rw [g5]
       have R2 := hid (show AnsN (f : Int) (.agg #[.int .i64 0, .slice b3 0 d3, .int .i64 (f : Int)]) from ⟨b3, d3, rfl⟩)
       clear g5 h1
       go_wp2_with fail
       and_intros <;> first | exact Below.refl _ _ | rfl | exact R2.out | exact HX.out _ _ (keep_other b0R (by decide) (by decide))
     apply growjx_cons rfl
     · intro v w1 X hX h1 hd
       have HX := hid hX
       clear hX
       clear hd
       have HSW := hid h1.size
       clear h1
       go_wp2_with fail
       have hb3 : Below w1.heap.size w1 (w1.alloc (.cells #[.slice none 0 0, .slice none 0 0] 27)) := (b0R).alloc (Nat.le_refl _) _
       have hz : (w1.alloc (.cells #[.slice none 0 0, .slice none 0 0] 27)).heap[w1.heap.size]? = some (.cells #[.slice none 0 0, .slice none 0 0] 27 (0, 0)) := heap_alloc_new _ _
       have hs : SBox (w1.alloc (.cells #[.slice none 0 0, .slice none 0 0] 27)) w1.heap.size := ⟨_, _, _, _, _, _, hz, by decide, by decide⟩
       have J2 := HX.out _ _ (keep_alloc K9_ap hb3 HSW.out rfl hz)
       and_intros <;> first | exact Below.refl _ _ | rfl | exact hb3 | exact ⟨_, rfl, HSW.out, hs⟩ | exact J2
     apply growjx_cons rfl
     · intro v w1 X hX h1 hd
       have HX := hid hX
       clear hX
       clear hd
       have HSW := hid h1.size
       clear h1
       go_wp2_with fail
       have hb3 : Below w1.heap.size w1 (w1.alloc (.cells #[.int .i64 0, .slice none 0 0, .int .i64 0] 43)) := (b0R).alloc (Nat.le_refl _) _
       have hn : (w1.alloc (.cells #[.int .i64 0, .slice none 0 0, .int .i64 0] 43)).heap[w1.heap.size]? = some (.cells #[.int .i64 0, .slice none 0 0, .int .i64 0] 43 (0, 0)) := heap_alloc_new _ _
       have J2 := HX.out _ _ (keep_alloc2 K9_ap hb3 HSW.out rfl (lt_of_block hn))
       and_intros <;> first | exact Below.refl _ _ | rfl | exact hb3 | exact ⟨_, rfl, HSW.out, hn⟩ | exact J2
     apply growjx_one rfl
     · intro v w1 X hX h1 hp hd
       have HX := hid hX
       clear hX
       obtain ⟨q, g1, hq, hs⟩ : PtrS U9.heap.size (v 18) w1 := hd 9 _ _ _ rfl rfl rfl rfl
       obtain ⟨b1, d1, b2, d2, g2⟩ : StVal (v 81) := hd 7 _ _ _ rfl rfl rfl rfl
       clear hd
       have HS := hid hs
       have HQ := hid hq
       obtain ⟨y1, n1, z1, y2, n2, z2, hz, _, _⟩ := hs
       have m0 := cells_of hz 0
       have m1 := cells_of hz 1
       have f0 := free_of hz 0
       have f1 := free_of hz 1
       simp only [gT, gZ, gS] at m0 m1
       have hg := grown_tra (grown_cell w1 ⟨q, 0, none⟩ (.slice b1 2 d1)) (grown_cell _ ⟨q, 1, none⟩ (.slice b2 2 d2))
       have RR := hid (show RS U9.heap.size w1 ((w1.setCell ⟨q, 0, none⟩ (.slice b1 2 d1)).setCell ⟨q, 1, none⟩ (.slice b2 2 d2)) from Or.inr ⟨q, HQ.out, HS.out, ⟨_, _, _, _, _, _, stbox_put hz, by decide, by decide⟩, hg⟩)
       have J2 := hid (HX.out (.tuple #[]) ((w1.setCell ⟨q, 0, none⟩ (.slice b1 2 d1)).setCell ⟨q, 1, none⟩ (.slice b2 2 d2)) (keep_store K9_ap hg hg.size g1 g2 (stbox_put hz) (by kernel_rfl) (by kernel_rfl)))
       rw [g1, g2]
       clear g1 g2 hq hz h1 hp hg
       go_wp2_with fail
       and_intros <;> first | exact Below.refl _ _ | rfl | exact RR.out | exact trivial | exact J2.out | exact ⟨_, J2.out⟩
     exact growj_nil
    case hend =>
     intro v w9 h1 hdm hL hd
     obtain ⟨L, hJ, hLt⟩ := hL
     obtain ⟨qs9, x9, y9, z9, u9, pp, gs', hS11, hbox, htwo, hpp⟩ := keep_end hJ (hLt _ (by decide)) (hLt _ (by decide)) (hLt _ (by decide)) (hLt _ (by decide))
     have gs : v 18 = .pointer (some ⟨qs9, 0, none⟩) := gs'
     obtain ⟨qa9, ga, hqa, hza⟩ : PtrA U9.heap.size (v 19) w9 := hd 10 _ _ _ rfl rfl rfl
     obtain ⟨ta9, tb9, gx⟩ : AnsN (f : Int) (v 82) := hd 8 _ _ _ rfl rfl rfl
     have hap : ∀ k, pp k -> k ≠ qa9 := fun k hk e => (hpp k hk).2.2 (by rw [e]; exact ga)
     have hne : qs9 ≠ qa9 := by
      rintro rfl
      exact absurd (hbox.symm.trans hza) (by simp)
     clear hd hdm hJ hLt gs' hS11
     rw [gs, ga, gx]
     have m0 := cells_of hza 0
     have m1 := cells_of hza 1
     have m2 := cells_of hza 2
     have n0 := free_of hza 0
     have n1 := free_of hza 1
     have n2 := free_of hza 2
     simp only [gT, gZ, gS] at m0 m1 m2
     have HZ := hid hza
     have HBX := hid hbox
     have HT := hid (show _ /\ _ from ⟨htwo, hap⟩)
     have HB := hid h1
     have HQ := hid hqa
     have HN := hid hne
     clear h1 hqa hza hbox htwo hap hpp hne gs ga gx
     generalize v 74 = k74, v 75 = k75, v 76 = k76, v 77 = k77, v 78 = k78, v 79 = k79, v 80 = k80, v 81 = k81
     simp only [List.drop_succ_cons, List.drop_zero]
     go_upto_region 10 with (fail)
     generalize hA : World.setCell _ _ _ = U10
     have hU : ((w9.setCell ⟨qa9, 0, none⟩ (.int .i64 0)).setCell ⟨qa9, 1, none⟩ (.slice ta9 0 tb9)).setCell ⟨qa9, 2, none⟩ (.int .i64 (f : Int)) = U10 := hA
     have gU : w9.grownBy U10 (some qa9) := by
      rw [<- hU]
      exact grown_tra (grown_tra (grown_cell w9 ⟨qa9, 0, none⟩ _) (grown_cell _ ⟨qa9, 1, none⟩ _)) (grown_cell _ ⟨qa9, 2, none⟩ _)
     have As9 := hid (show U10.heap[qa9]? = some (.cells #[.int .i64 0, .slice ta9 0 tb9, .int .i64 (f : Int)] 43 (0, 0)) by
      rw [<- hU]
      exact (heap_setCell_same _ _ _ _ _ _ ((heap_setCell_same _ _ _ _ _ _ ((heap_setCell_same _ _ _ _ _ _ HZ.out).trans rfl)).trans rfl)).trans rfl)
     have Gs9 := hid ((gU.block qs9 (lt_of_block HBX.out) (fun e => HN.out (Option.some.inj e))).trans HBX.out)
     have Ts9 := hid (HT.out.1.keep (fun k hk hl => gU.block k hl (fun e => HT.out.2 k hk (Option.some.inj e)))).bound
     have bU : Below U9.heap.size U9 U10 := HB.out.grown gU HB.out.size (fun j e => by cases e; exact HQ.out)
     replace G8 := cy bU G8
     replace G9 := cy bU G9
     replace T := hid (T.out.below bU).bound
     replace As5 := cy bU As5
     replace Gs5 := cy bU Gs5
     replace Ts5 := hid (Ts5.out.below bU).bound
     replace A15 := cy bU A15
     replace RW := hid (RW.out.below bU)
     replace A17 := cy bU A17
     replace RV := hid (RV.out.below bU)
     replace BW := hid (BW.out.trans (bU.mono BW.out.size))
     replace HKV := hid (HK.out.below BW.out)
     clear hA hU gU bU m0 m1 m2 n0 n1 n2 HZ HBX HT HB HQ HN
     have x0 := cells_of G8.out 0
     have x1' := cells_of G8.out 1
     have y0 := cells_of G9.out 0
     have y1 := cells_of G9.out 1
     have y2 := cells_of G9.out 2
     have y3 := cells_of G9.out 3
     have y4 := cells_of G9.out 4
     simp only [gT, gZ, gS] at x0 x1' y0 y1 y2 y3 y4
     go_wp2_with fail
     generalize hX : World.alloc _ _ = X
     have bx : Below U10.heap.size U10 X := by rw [<- hX]; exact (b0R).alloc (Nat.le_refl _) _
     have q2 : X.heap[U10.heap.size]? = some (.cells #[.string sA, .int .i64 6, .int .i64 (cv).kind, .int .i64 (cv).n, .string (cv).s] 60 (0, 0)) := by rw [<- hX]; exact heap_alloc_new _ _
     replace G8 := cy bx G8
     replace G9 := cy bx G9
     replace T := hid (T.out.below bx).bound
     replace As5 := cy bx As5
     replace Gs5 := cy bx Gs5
     replace Ts5 := hid (Ts5.out.below bx).bound
     replace A15 := cy bx A15
     replace RW := hid (RW.out.below bx)
     replace A17 := cy bx A17
     replace RV := hid (RV.out.below bx)
     replace As9 := cy bx As9
     replace Gs9 := cy bx Gs9
     replace Ts9 := hid (Ts9.out.below bx).bound
     replace BW := hid (BW.out.trans (bx.mono BW.out.size))
     replace HKV := hid (HK.out.below BW.out)
     have con := do_two T.out (delC1_at (p := fun _ => True) q2 trivial) HF.out.i0 (by decide) ⟨rfl, Nat.zero_le _, Nat.zero_le _, Nat.zero_le _, Nat.zero_le _⟩ HKV.out HF.out.d2.1 HF.out.d2.2 rfl
     clear hX bx q2 x0 x1' y0 y1 y2 y3 y4
     refine con.mono ?_
     rintro e w13 ⟨xd, yd, zd, ud, ta10, tb10, rfl, b13, td, _⟩
     have TD := hid td
     replace G8 := cy b13 G8
     replace G9 := cy b13 G9
     replace T := hid (T.out.below b13).bound
     replace As5 := cy b13 As5
     replace Gs5 := cy b13 Gs5
     replace Ts5 := hid (Ts5.out.below b13).bound
     replace A15 := cy b13 A15
     replace RW := hid (RW.out.below b13)
     replace A17 := cy b13 A17
     replace RV := hid (RV.out.below b13)
     replace As9 := cy b13 As9
     replace Gs9 := cy b13 Gs9
     replace Ts9 := hid (Ts9.out.below b13).bound
     replace BW := hid (BW.out.trans (b13.mono BW.out.size))
     replace HKV := hid (HK.out.below BW.out)
     clear con b13 td
     go_upto_region 11 with (fail)
     generalize hA : World.alloc _ _ = V11
     have hZ : allocs w13 [_, _] = V11 := hA
     have bz := allocs_self hZ
     have A21 := hid (show V11.heap[w13.heap.size + 1]? = some (.cells #[.int .i64 0, .slice ta10 0 tb10, .int .i64 (f : Int)] 43 (0, 0)) from allocs_get hZ 1 rfl)
     have G20 := hid (show V11.heap[w13.heap.size]? = some (.cells #[.slice xd 2 yd, .slice zd 2 ud] 27 (0, 0)) from allocs_get hZ 0 rfl)
     replace TD := hid (TD.out.below bz).bound
     replace G8 := cy bz G8
     replace G9 := cy bz G9
     replace T := hid (T.out.below bz).bound
     replace As5 := cy bz As5
     replace Gs5 := cy bz Gs5
     replace Ts5 := hid (Ts5.out.below bz).bound
     replace A15 := cy bz A15
     replace RW := hid (RW.out.below bz)
     replace A17 := cy bz A17
     replace RV := hid (RV.out.below bz)
     replace As9 := cy bz As9
     replace Gs9 := cy bz Gs9
     replace Ts9 := hid (Ts9.out.below bz).bound
     replace BW := hid (BW.out.trans (bz.mono BW.out.size))
     replace HKV := hid (HK.out.below BW.out)
     obtain ⟨q21, hq21⟩ : ∃ q, w13.heap.size + 1 = q := ⟨_, rfl⟩
     rw [hq21] at A21 ⊢
     obtain ⟨q20, hq20⟩ : ∃ q, w13.heap.size = q := ⟨_, rfl⟩
     rw [hq20] at G20 ⊢
     clear hA hZ bz hq21 hq20
     apply wp_region_growj 13 12 (RS V11.heap.size) (KeepJ KI V11.heap.size (NE) (B)) [92, 93, 94, 95, 96, 97, 98, 91, 99, 100, 22, 23]
      [fun _ u _ => u = .agg #[.slice x9 2 y9, .slice z9 2 u9],
       fun _ u _ => u = .int .i64 add,
       fun _ u _ => u = .agg #[.int .i64 (wh add).kind, .int .i64 (wh add).n, .string (wh add).s],
       fun _ u _ => u = .agg #[.int .i64 (tx sNew).kind, .int .i64 (tx sNew).n, .string (tx sNew).s],
       fun _ u w' => NewBn 2 V11.heap.size #[.int .i64 (wh add).kind, .int .i64 (wh add).n, .string (wh add).s, .int .i64 (tx sNew).kind, .int .i64 (tx sNew).n, .string (tx sNew).s] 55 u w',
       fun _ u w' => InsCD add V11.heap.size u w',
       fun _ u _ => DidN 1 u,
       fun _ u _ => DidN 1 u,
       fun _ u _ => StVal u,
       fun _ u _ => AnsN 1 u,
       fun _ u w' => PtrS V11.heap.size u w',
       fun _ u w' => PtrA V11.heap.size u w',
       fun _ _ _ => True]
      (Below V11.heap.size V11) (Below V11.heap.size V11) (fun _ => True)
     case hF =>
      intro v
      simp only [setAll, List.foldl_cons, List.foldl_nil, Act.put, List.setIfInBounds_toArray, List.set_cons_succ, List.set_cons_zero]
      exact rfl
     case hm => kernel_rfl
     case hB => kernel_rfl
     case hsz => kernel_rfl
     case hR => exact fun w1 w2 h => Or.inl h
     case hC => exact fun w1 w2 h b => RS.base (Nat.le_refl _) h b
     case hCp => exact fun w1 w2 h b => h.trans (b.mono h.size)
     case hDm => exact fun _ _ _ _ => trivial
     case hw => exact Below.drew b0R
     case hwp => exact Below.drew b0R
     case hJ0 => exact fun v => keep_start _ _ _ _ v _
     case hS =>
      intro D hD v u
      simp only [List.mem_cons, List.not_mem_nil, or_false] at hD
      rcases hD with rfl | rfl | rfl | rfl | rfl | rfl | rfl | rfl | rfl | rfl | rfl | rfl | rfl
      · exact fun w1 w2 h _ => h
      · exact fun w1 w2 h _ => h
      · exact fun w1 w2 h _ => h
      · exact fun w1 w2 h _ => h
      · exact fun w1 w2 h hr => h.rs (by decide) hr
      · exact fun w1 w2 h hr => h.rs hr
      · exact fun w1 w2 h _ => h
      · exact fun w1 w2 h _ => h
      · exact fun w1 w2 h _ => h
      · exact fun w1 w2 h _ => h
      · exact fun w1 w2 ⟨q, e, h, z⟩ hr => ⟨q, e, h, z.rs hr⟩
      · exact fun w1 w2 ⟨q, e, h, z⟩ hr => ⟨q, e, h, hr.other z (by decide)⟩
      · exact fun w1 w2 h _ => h
     case hob =>
      simp only [List.take_succ_cons, List.take_zero]
      apply growjx_cons rfl
      · intro v w1 X hX h1 hd
        have HX := hid hX
        clear hX
        clear hd
        have q0 := (h1.block _ (lt_of_block Gs9.out)).trans Gs9.out
        have x0 := cells_of q0 0
        have x1 := cells_of q0 1
        simp only [gT, gZ, gS] at x0 x1
        clear q0
        clear h1
        go_wp2_with fail
        and_intros <;> first | exact Below.refl _ _ | rfl | exact HX.out _ _ (keep_other b0R (by decide) (by decide))
      apply growjx_cons rfl
      · intro v w1 X hX h1 hd
        have HX := hid hX
        clear hX
        clear hd
        clear h1
        go_wp2_with fail
        and_intros <;> first | exact Below.refl _ _ | rfl | exact HX.out _ _ (keep_other b0R (by decide) (by decide))
      apply growjx_cons rfl
      · intro v w1 X hX h1 hd
        have HX := hid hX
        clear hX
        have g1 : v 93 = .int .i64 add := hd 1 _ _ _ rfl rfl rfl rfl
        clear hd
        rw [g1]
        clear g1
        have con := whole_any add w1
        clear h1
        go_wp2_with fail
        refine con.mono ?_
        rintro e w2 ⟨rfl, b2⟩
        have B2 := hid b2
        clear con b2
        go_wp2_with fail
        and_intros <;> first | exact Below.refl _ _ | rfl | exact B2.out | exact HX.out _ _ (keep_other B2.out (by decide) (by decide))
      apply growjx_cons rfl
      · intro v w1 X hX h1 hd
        have HX := hid hX
        clear hX
        clear hd
        have con := text_any sNew w1
        clear h1
        go_wp2_with fail
        refine con.mono ?_
        rintro e w2 ⟨rfl, b2⟩
        have B2 := hid b2
        clear con b2
        go_wp2_with fail
        and_intros <;> first | exact Below.refl _ _ | rfl | exact B2.out | exact HX.out _ _ (keep_other B2.out (by decide) (by decide))
      apply growjx_cons rfl
      · intro v w1 X hX h1 hd
        have HX := hid hX
        clear hX
        have g1 : v 94 = .agg #[.int .i64 (wh add).kind, .int .i64 (wh add).n, .string (wh add).s] := hd 2 _ _ _ rfl rfl rfl rfl
        have g2 : v 95 = .agg #[.int .i64 (tx sNew).kind, .int .i64 (tx sNew).n, .string (tx sNew).s] := hd 3 _ _ _ rfl rfl rfl rfl
        clear hd
        rw [g1, g2]
        have HSW := hid h1.size
        clear g1 g2 h1
        go_wp2_with fail
        have hb3 : Below w1.heap.size w1 (w1.alloc (.cells #[.int .i64 (wh add).kind, .int .i64 (wh add).n, .string (wh add).s, .int .i64 (tx sNew).kind, .int .i64 (tx sNew).n, .string (tx sNew).s] 55)) := (b0R).alloc (Nat.le_refl _) _
        and_intros <;> first | exact Below.refl _ _ | rfl | exact hb3 | exact ⟨w1.heap.size, rfl, HSW.out, heap_alloc_new _ _⟩ | exact HX.out _ _ (keep_other hb3 (by decide) (by decide))
      apply growjx_cons rfl
      · intro v w1 X hX h1 hd
        have HX := hid hX
        clear hX
        obtain ⟨q0, g0, _, hq0⟩ : NewBn 2 V11.heap.size #[.int .i64 (wh add).kind, .int .i64 (wh add).n, .string (wh add).s, .int .i64 (tx sNew).kind, .int .i64 (tx sNew).n, .string (tx sNew).s] 55 (v 96) w1 := hd 4 _ _ _ rfl rfl rfl rfl
        clear hd
        rw [g0]
        have con := lins_any sT (some ⟨q0, 0, none⟩) 2 2 w1
        have HH := hid hq0
        clear g0 hq0 h1
        go_wp2_with fail
        refine con.mono ?_
        rintro e w2 ⟨rfl, b2⟩
        have B2 := hid b2
        have H2 := cy b2 HH
        clear con b2
        go_wp2_with fail
        and_intros <;> first | exact Below.refl _ _ | rfl | exact B2.out | exact ⟨q0, rfl, H2.out⟩ | exact HX.out _ _ (keep_other B2.out (by decide) (by decide))
      apply growjx_cons rfl
      · intro v w1 X hX h1 hd
        have HX := hid hX
        clear hX
        have g0 : v 92 = .agg #[.slice x9 2 y9, .slice z9 2 u9] := hd 0 _ _ _ rfl rfl rfl rfl
        obtain ⟨q0, g4, hq0⟩ : InsCD add V11.heap.size (v 97) w1 := hd 5 _ _ _ rfl rfl rfl rfl
        clear hd
        rw [g0, g4]
        have con := do_two (Ts9.out.below h1) (insC_at (p := fun _ => True) hq0 trivial) HF.out.i2 (by decide) (ins_small (Nat.le_trans (show (2 : Nat) <= 2 from Nat.le_refl _) (by decide))) (HKV.out.below h1) HF.out.ins.1 HF.out.ins.2 rfl
        clear g0 g4 hq0 h1
        go_wp2_with fail
        refine con.mono ?_
        rintro e w2 ⟨b1, d1, b2, d2, b3, d3, rfl, bb, tt, rr⟩
        have B2 := hid bb
        have J2 := hid (HX.out (.tuple #[.agg #[.slice b1 2 d1, .slice b2 2 d2], .agg #[.int .i64 0, .slice b3 0 d3, .int .i64 1]]) w2 (keep_call KI_ap bb (fun k h => h.2) rfl tt))
        have R2 := hid (show DidN 1 (.tuple #[.agg #[.slice b1 2 d1, .slice b2 2 d2], .agg #[.int .i64 0, .slice b3 0 d3, .int .i64 1]]) from ⟨b1, d1, b2, d2, b3, d3, rfl⟩)
        clear con bb rr tt
        go_wp2_with fail
        and_intros <;> first | exact Below.refl _ _ | rfl | exact B2.out | exact R2.out | exact J2.out
      apply growjx_cons rfl
      · intro v w1 X hX h1 hd
        have HX := hid hX
        clear hX
        obtain ⟨b1, d1, b2, d2, b3, d3, g5⟩ : DidN 1 (v 98) := hd 6 _ _ _ rfl rfl rfl rfl
        clear hd
        have J2 := hid (HX.out (.tuple #[.agg #[.slice b1 2 d1, .slice b2 2 d2], .agg #[.int .i64 0, .slice b3 0 d3, .int .i64 1]]) w1 (keep_move KI_ap b0R (by kernel_rfl) g5.symm))
        rw [g5]
        have R2 := hid (show DidN 1 (.tuple #[.agg #[.slice b1 2 d1, .slice b2 2 d2], .agg #[.int .i64 0, .slice b3 0 d3, .int .i64 1]]) from ⟨b1, d1, b2, d2, b3, d3, rfl⟩)
        clear g5 h1
        go_wp2_with fail
        and_intros <;> first | exact Below.refl _ _ | rfl | exact R2.out | exact J2.out
      apply growjx_cons rfl
      · intro v w1 X hX h1 hd
        have HX := hid hX
        clear hX
        obtain ⟨b1, d1, b2, d2, b3, d3, g5⟩ : DidN 1 (v 91) := hd 7 _ _ _ rfl rfl rfl rfl
        clear hd
        have J2 := hid (HX.out (.agg #[.slice b1 2 d1, .slice b2 2 d2]) w1 (keep_ext KI_ap b0R (by kernel_rfl) ⟨_, g5⟩))
        rw [g5]
        have R2 := hid (show StVal (.agg #[.slice b1 2 d1, .slice b2 2 d2]) from ⟨b1, d1, b2, d2, rfl⟩)
        clear g5 h1
        go_wp2_with fail
        and_intros <;> first | exact Below.refl _ _ | rfl | exact R2.out | exact J2.out
      apply growjx_cons rfl
      · intro v w1 X hX h1 hd
        have HX := hid hX
        clear hX
        obtain ⟨b1, d1, b2, d2, b3, d3, g5⟩ : DidN 1 (v 91) := hd 7 _ _ _ rfl rfl rfl rfl
        clear hd
        rw [g5]
        have R2 := hid (show AnsN 1 (.agg #[.int .i64 0, .slice b3 0 d3, .int .i64 1]) from ⟨b3, d3, rfl⟩)
        clear g5 h1
        go_wp2_with fail
        and_intros <;> first | exact Below.refl _ _ | rfl | exact R2.out | exact HX.out _ _ (keep_other b0R (by decide) (by decide))
      apply growjx_cons rfl
      · intro v w1 X hX h1 hd
        have HX := hid hX
        clear hX
        clear hd
        have HSW := hid h1.size
        clear h1
        go_wp2_with fail
        have hb3 : Below w1.heap.size w1 (w1.alloc (.cells #[.slice none 0 0, .slice none 0 0] 27)) := (b0R).alloc (Nat.le_refl _) _
        have hz : (w1.alloc (.cells #[.slice none 0 0, .slice none 0 0] 27)).heap[w1.heap.size]? = some (.cells #[.slice none 0 0, .slice none 0 0] 27 (0, 0)) := heap_alloc_new _ _
        have hs : SBox (w1.alloc (.cells #[.slice none 0 0, .slice none 0 0] 27)) w1.heap.size := ⟨_, _, _, _, _, _, hz, by decide, by decide⟩
        have J2 := HX.out _ _ (keep_alloc KI_ap hb3 HSW.out rfl hz)
        and_intros <;> first | exact Below.refl _ _ | rfl | exact hb3 | exact ⟨_, rfl, HSW.out, hs⟩ | exact J2
      apply growjx_cons rfl
      · intro v w1 X hX h1 hd
        have HX := hid hX
        clear hX
        clear hd
        have HSW := hid h1.size
        clear h1
        go_wp2_with fail
        have hb3 : Below w1.heap.size w1 (w1.alloc (.cells #[.int .i64 0, .slice none 0 0, .int .i64 0] 43)) := (b0R).alloc (Nat.le_refl _) _
        have hn : (w1.alloc (.cells #[.int .i64 0, .slice none 0 0, .int .i64 0] 43)).heap[w1.heap.size]? = some (.cells #[.int .i64 0, .slice none 0 0, .int .i64 0] 43 (0, 0)) := heap_alloc_new _ _
        have J2 := HX.out _ _ (keep_alloc2 KI_ap hb3 HSW.out rfl (lt_of_block hn))
        and_intros <;> first | exact Below.refl _ _ | rfl | exact hb3 | exact ⟨_, rfl, HSW.out, hn⟩ | exact J2
      apply growjx_one rfl
      · intro v w1 X hX h1 hp hd
        have HX := hid hX
        clear hX
        obtain ⟨q, g1, hq, hs⟩ : PtrS V11.heap.size (v 22) w1 := hd 10 _ _ _ rfl rfl rfl rfl
        obtain ⟨b1, d1, b2, d2, g2⟩ : StVal (v 99) := hd 8 _ _ _ rfl rfl rfl rfl
        clear hd
        have HS := hid hs
        have HQ := hid hq
        obtain ⟨y1, n1, z1, y2, n2, z2, hz, _, _⟩ := hs
        have m0 := cells_of hz 0
        have m1 := cells_of hz 1
        have f0 := free_of hz 0
        have f1 := free_of hz 1
        simp only [gT, gZ, gS] at m0 m1
        have hg := grown_tra (grown_cell w1 ⟨q, 0, none⟩ (.slice b1 2 d1)) (grown_cell _ ⟨q, 1, none⟩ (.slice b2 2 d2))
        have RR := hid (show RS V11.heap.size w1 ((w1.setCell ⟨q, 0, none⟩ (.slice b1 2 d1)).setCell ⟨q, 1, none⟩ (.slice b2 2 d2)) from Or.inr ⟨q, HQ.out, HS.out, ⟨_, _, _, _, _, _, stbox_put hz, by decide, by decide⟩, hg⟩)
        have J2 := hid (HX.out (.tuple #[]) ((w1.setCell ⟨q, 0, none⟩ (.slice b1 2 d1)).setCell ⟨q, 1, none⟩ (.slice b2 2 d2)) (keep_store KI_ap hg hg.size g1 g2 (stbox_put hz) (by kernel_rfl) (by kernel_rfl)))
        rw [g1, g2]
        clear g1 g2 hq hz h1 hp hg
        go_wp2_with fail
        and_intros <;> first | exact Below.refl _ _ | rfl | exact RR.out | exact trivial | exact J2.out | exact ⟨_, J2.out⟩
      exact growj_nil
     case hend =>
      intro v w9 h1 hdm hL hd
      obtain ⟨L, hJ, hLt⟩ := hL
      obtain ⟨qsI, xI, yI, zI, uI, pp, gs', hS11, hbox, htwo, hpp⟩ := keep_end hJ (hLt _ (by decide)) (hLt _ (by decide)) (hLt _ (by decide)) (hLt _ (by decide))
      have gs : v 22 = .pointer (some ⟨qsI, 0, none⟩) := gs'
      obtain ⟨qaI, ga, hqa, hza⟩ : PtrA V11.heap.size (v 23) w9 := hd 11 _ _ _ rfl rfl rfl
      obtain ⟨taI, tbI, gx⟩ : AnsN 1 (v 100) := hd 9 _ _ _ rfl rfl rfl
      have hap : ∀ k, pp k -> k ≠ qaI := fun k hk e => (hpp k hk).2.2 (by rw [e]; exact ga)
      have hne : qsI ≠ qaI := by
       rintro rfl
       exact absurd (hbox.symm.trans hza) (by simp)
      clear hd hdm hJ hLt gs' hS11
      rw [gs, ga, gx]
      have m0 := cells_of hza 0
      have m1 := cells_of hza 1
      have m2 := cells_of hza 2
      have n0 := free_of hza 0
      have n1 := free_of hza 1
      have n2 := free_of hza 2
      simp only [gT, gZ, gS] at m0 m1 m2
      have HZ := hid hza
      have HBX := hid hbox
      have HT := hid (show _ /\ _ from ⟨htwo, hap⟩)
      have HB := hid h1
      have HQ := hid hqa
      have HN := hid hne
      clear h1 hqa hza hbox htwo hap hpp hne gs ga gx
      generalize v 91 = k91, v 92 = k92, v 93 = k93, v 94 = k94, v 95 = k95, v 96 = k96, v 97 = k97, v 98 = k98, v 99 = k99
      simp only [List.drop_succ_cons, List.drop_zero]
      go_upto_region 12 with (fail)
      generalize hA : World.setCell _ _ _ = U12
      have hU : ((w9.setCell ⟨qaI, 0, none⟩ (.int .i64 0)).setCell ⟨qaI, 1, none⟩ (.slice taI 0 tbI)).setCell ⟨qaI, 2, none⟩ (.int .i64 1) = U12 := hA
      have gU : w9.grownBy U12 (some qaI) := by
       rw [<- hU]
       exact grown_tra (grown_tra (grown_cell w9 ⟨qaI, 0, none⟩ _) (grown_cell _ ⟨qaI, 1, none⟩ _)) (grown_cell _ ⟨qaI, 2, none⟩ _)
      have AsI := hid (show U12.heap[qaI]? = some (.cells #[.int .i64 0, .slice taI 0 tbI, .int .i64 1] 43 (0, 0)) by
       rw [<- hU]
       exact (heap_setCell_same _ _ _ _ _ _ ((heap_setCell_same _ _ _ _ _ _ ((heap_setCell_same _ _ _ _ _ _ HZ.out).trans rfl)).trans rfl)).trans rfl)
      have GsI := hid ((gU.block qsI (lt_of_block HBX.out) (fun e => HN.out (Option.some.inj e))).trans HBX.out)
      have TsI := hid (HT.out.1.keep (fun k hk hl => gU.block k hl (fun e => HT.out.2 k hk (Option.some.inj e)))).bound
      have bU : Below V11.heap.size V11 U12 := HB.out.grown gU HB.out.size (fun j e => by cases e; exact HQ.out)
      replace G8 := cy bU G8
      replace G9 := cy bU G9
      replace T := hid (T.out.below bU).bound
      replace As5 := cy bU As5
      replace Gs5 := cy bU Gs5
      replace Ts5 := hid (Ts5.out.below bU).bound
      replace A15 := cy bU A15
      replace RW := hid (RW.out.below bU)
      replace A17 := cy bU A17
      replace RV := hid (RV.out.below bU)
      replace As9 := cy bU As9
      replace Gs9 := cy bU Gs9
      replace Ts9 := hid (Ts9.out.below bU).bound
      replace A21 := cy bU A21
      replace G20 := cy bU G20
      replace TD := hid (TD.out.below bU).bound
      replace BW := hid (BW.out.trans (bU.mono BW.out.size))
      replace HKV := hid (HK.out.below BW.out)
      clear hA hU gU bU m0 m1 m2 n0 n1 n2 HZ HBX HT HB HQ HN
      obtain ⟨i1, j1, l1, p0, _, p2, _⟩ := RW.out
      obtain ⟨i2, j2, l2, r0, _, r2, _⟩ := RV.out
      have z15 := cells_of A15.out 1
      have z17 := cells_of A17.out 1
      simp only [gT, gZ, gS] at z15 z17
      go_upto_region 14 with (fail)
      have HP := hid (show _ /\ _ /\ _ /\ _ from ⟨p0, p2, r0, r2⟩)
      have HLT := hid (show _ /\ _ /\ _ /\ _ from ⟨World.block_lt_of_cell? U12 _ p0, World.block_lt_of_cell? U12 _ p2, World.block_lt_of_cell? U12 _ r0, World.block_lt_of_cell? U12 _ r2⟩)
      clear z15 z17 p0 p2 r0 r2
      go_cut [24] from 101 to 149 (fun x24 wx => x24 = .bool true /\ Hid (Below U12.heap.size U12 wx))
      case first =>
       have hs := HF.out.sum
       refine wp_region_class_tail 23 (Below U12.heap.size U12) (by kernel_rfl) (by kernel_rfl) (Below.drew b0R) (fun ne => ?_)
       have z15 := fun z : Wld (Below U12.heap.size U12) => cells_of ((z.good.block _ (lt_of_block A15.out)).trans A15.out) 1
       have z17 := fun z : Wld (Below U12.heap.size U12) => cells_of ((z.good.block _ (lt_of_block A17.out)).trans A17.out) 1
       have p0 := fun z : Wld (Below U12.heap.size U12) => (z.good.cell (p := ⟨rb, ro, none⟩) HLT.out.1).trans HP.out.1
       have p2 := fun z : Wld (Below U12.heap.size U12) => (z.good.cell (p := ⟨i1, j1 + 1, none⟩) HLT.out.2.1).trans HP.out.2.1
       have r0 := fun z : Wld (Below U12.heap.size U12) => (z.good.cell (p := ⟨sb, so, none⟩) HLT.out.2.2.1).trans HP.out.2.2.1
       have r2 := fun z : Wld (Below U12.heap.size U12) => (z.good.cell (p := ⟨i2, j2 + 1, none⟩) HLT.out.2.2.2).trans HP.out.2.2.2
       simp only [gT, gZ, gS] at z15 z17
       by_cases hf0 : f = 0
       · subst hf0
         clear hs
         simp only [List.take_succ_cons, List.take_zero, List.drop_succ_cons, List.drop_zero]
         repeat (go_big_quiet_step (fail))
         refine wpQuiet_nil ?_
         intro w3 b3
         have B3 := hid b3
         clear b3 z15 z17 p0 p2 r0 r2
         go_wp2_with fail
         go_meet
         exact ⟨rfl, B3.out⟩
       · have hx := hs.resolve_left hf0
         have d1 : ((f : Int) == 0) = false := by simp; omega
         have d2 : (f == 0) = false := by simp; omega
         have d3 : decide (f = 0) = false := by simp; omega
         have d4 : decide ((f : Int) = 0) = false := by simp; omega
         have HX := hid hx
         clear hs hx
         simp only [List.take_succ_cons, List.take_zero, List.drop_succ_cons, List.drop_zero]
         repeat (go_big_quiet_step (fail))
         refine wpQuiet_nil ?_
         intro w3 b3
         have B3 := hid b3
         clear b3 z15 z17 p0 p2 r0 r2
         go_wp2_with fail
         go_meet
         refine ⟨?_, B3.out⟩
         exact congrArg Value.bool (beq_iff_eq.2 HX.out)
      case rest =>
       obtain ⟨rfl, hbw⟩ := hcut
       obtain ⟨W, hW⟩ : ∃ W, W = wc := ⟨_, rfl⟩
       subst hW
       replace G8 := cy hbw.out G8
       replace G9 := cy hbw.out G9
       replace T := hid (T.out.below hbw.out).bound
       replace As5 := cy hbw.out As5
       replace Gs5 := cy hbw.out Gs5
       replace Ts5 := hid (Ts5.out.below hbw.out).bound
       replace A15 := cy hbw.out A15
       replace RW := hid (RW.out.below hbw.out)
       replace A17 := cy hbw.out A17
       replace RV := hid (RV.out.below hbw.out)
       replace As9 := cy hbw.out As9
       replace Gs9 := cy hbw.out Gs9
       replace Ts9 := hid (Ts9.out.below hbw.out).bound
       replace A21 := cy hbw.out A21
       replace G20 := cy hbw.out G20
       replace TD := hid (TD.out.below hbw.out).bound
       replace AsI := cy hbw.out AsI
       replace GsI := cy hbw.out GsI
       replace TsI := hid (TsI.out.below hbw.out).bound
       replace BW := hid (BW.out.trans (hbw.out.mono BW.out.size))
       replace HKV := hid (HK.out.below BW.out)
       clear hbw
       have HAL := hid (fun z : Wld (Below W.heap.size W) => (by
        have h := alike_any (s := twoS LE B) (t := twoS LE B) (Ts9.out.below z.good) (TD.out.below z.good) (fun L hL => ⟨(HF.out.i2.small (by decide)).2.1 L hL, (HF.out.i2.small (by decide)).2.2 L hL⟩) (fun L hL => ⟨(HF.out.i2.small (by decide)).2.1 L hL, (HF.out.i2.small (by decide)).2.2 L hL⟩) (HKV.out.below z.good)
        rw [HF.out.al] at h
        exact h : Calls Tryz.prog 32 #[.agg #[.slice x9 2 y9, .slice z9 2 u9], .agg #[.slice xd 2 yd, .slice zd 2 ud]] z.val fun e w' => e = .returned (.bool true) /\ Below z.val.heap.size z.val w'))
       have HC2 := hid (fun z : Wld (Below W.heap.size W) => (count_any (p' := fun _ => True) (aw := none) (cw := 0) (W := []) (TsI.out.below z.good) nil_sl HF.out.i3 (by decide) (HKV.out.below z.good) HF.out.c2 : Calls Tryz.prog 23 #[.agg #[.slice xI 2 yI, .slice zI 2 uI], .string ⟨#[116]⟩, .string ⟨#[]⟩, .string ⟨#[]⟩, .string ⟨#[]⟩, .slice none 0 0] z.val fun e w' => e = .returned (.int .i64 ((ln : Int) - (f : Int) + 1)) /\ Below z.val.heap.size z.val w'))
       have HC1 := hid (fun z : Wld (Below W.heap.size W) => (count_any (p' := fun _ => True) (aw := none) (cw := 0) (W := []) (Ts5.out.below z.good) nil_sl HF.out.i1 (by decide) (HKV.out.below z.good) HF.out.c1 : Calls Tryz.prog 23 #[.agg #[.slice x5 2 y5, .slice z5 2 u5], .string ⟨#[116]⟩, .string ⟨#[]⟩, .string ⟨#[]⟩, .string ⟨#[]⟩, .slice none 0 0] z.val fun e w' => e = .returned (.int .i64 ((ln : Int))) /\ Below z.val.heap.size z.val w'))
       have HC0 := hid (fun z : Wld (Below W.heap.size W) => (count_any (p' := fun _ => True) (aw := none) (cw := 0) (W := []) (T.out.below z.good) nil_sl HF.out.i0 (by decide) (HKV.out.below z.good) HF.out.c0 : Calls Tryz.prog 23 #[.agg #[.slice a1 2 c1, .slice a2 2 c2], .string ⟨#[116]⟩, .string ⟨#[]⟩, .string ⟨#[]⟩, .string ⟨#[]⟩, .slice none 0 0] z.val fun e w' => e = .returned (.int .i64 ((ln : Int))) /\ Below z.val.heap.size z.val w'))
       obtain ⟨hl1, hl2⟩ := HF.out.le
       have hw1 : IntKind.i64.wrap ((ln : Int) - (f : Int)) = (ln : Int) - (f : Int) := by rw [IntKind.wrap_i64]; omega
       have hw2 : IntKind.i64.wrap ((ln : Int) - (f : Int) + 1) = (ln : Int) - (f : Int) + 1 := by rw [IntKind.wrap_i64]; omega
       go_upto_region 15 with (fail)
       refine wp_region_class_tail 54 (Below W.heap.size W) (by kernel_rfl) (by kernel_rfl) (Below.drew b0R) (fun ne => ?_)
       have cAs52 := fun z : Wld (Below W.heap.size W) => cells_of ((z.good.block _ (lt_of_block As5.out)).trans As5.out) 2
       have cAs92 := fun z : Wld (Below W.heap.size W) => cells_of ((z.good.block _ (lt_of_block As9.out)).trans As9.out) 2
       have cA212 := fun z : Wld (Below W.heap.size W) => cells_of ((z.good.block _ (lt_of_block A21.out)).trans A21.out) 2
       have cAsI2 := fun z : Wld (Below W.heap.size W) => cells_of ((z.good.block _ (lt_of_block AsI.out)).trans AsI.out) 2
       have cGs90 := fun z : Wld (Below W.heap.size W) => cells_of ((z.good.block _ (lt_of_block Gs9.out)).trans Gs9.out) 0
       have cGs91 := fun z : Wld (Below W.heap.size W) => cells_of ((z.good.block _ (lt_of_block Gs9.out)).trans Gs9.out) 1
       have cG200 := fun z : Wld (Below W.heap.size W) => cells_of ((z.good.block _ (lt_of_block G20.out)).trans G20.out) 0
       have cG201 := fun z : Wld (Below W.heap.size W) => cells_of ((z.good.block _ (lt_of_block G20.out)).trans G20.out) 1
       have cGsI0 := fun z : Wld (Below W.heap.size W) => cells_of ((z.good.block _ (lt_of_block GsI.out)).trans GsI.out) 0
       have cGsI1 := fun z : Wld (Below W.heap.size W) => cells_of ((z.good.block _ (lt_of_block GsI.out)).trans GsI.out) 1
       have cG80 := fun z : Wld (Below W.heap.size W) => cells_of ((z.good.block _ (lt_of_block G8.out)).trans G8.out) 0
       have cG81 := fun z : Wld (Below W.heap.size W) => cells_of ((z.good.block _ (lt_of_block G8.out)).trans G8.out) 1
       have cGs50 := fun z : Wld (Below W.heap.size W) => cells_of ((z.good.block _ (lt_of_block Gs5.out)).trans Gs5.out) 0
       have cGs51 := fun z : Wld (Below W.heap.size W) => cells_of ((z.good.block _ (lt_of_block Gs5.out)).trans Gs5.out) 1
       simp only [gT, gZ, gS] at cAs52 cAs92 cA212 cAsI2 cGs90 cGs91 cG200 cG201 cGsI0 cGsI1 cG80 cG81 cGs50 cGs51
       simp only [List.take_succ_cons, List.take_zero, List.drop_succ_cons, List.drop_zero]
       repeat (go_big_quiet_step (first | ((go_at_call 32; (with_reducible refine Calls.mono (HAL.out _) ?_); rintro e w3 ⟨rfl, b3⟩; exact ⟨rfl, class_below _ b3 (Nat.le_refl _)⟩)) | ((go_at_call 23; (with_reducible refine Calls.mono (HC2.out _) ?_); rintro e w3 ⟨rfl, b3⟩; exact ⟨rfl, class_below _ b3 (Nat.le_refl _)⟩)) | ((go_at_call 23; (with_reducible refine Calls.mono (HC1.out _) ?_); rintro e w3 ⟨rfl, b3⟩; exact ⟨rfl, class_below _ b3 (Nat.le_refl _)⟩)) | ((go_at_call 23; (with_reducible refine Calls.mono (HC0.out _) ?_); rintro e w3 ⟨rfl, b3⟩; exact ⟨rfl, class_below _ b3 (Nat.le_refl _)⟩))))
       refine wpQuiet_nil ?_
       intro w3 b3
       have BE := hid (BW.out.trans (b3.mono BW.out.size))
       clear b3 cAs52 cAs92 cA212 cAsI2 cGs90 cGs91 cG200 cG201 cGsI0 cGsI1 cG80 cG81 cGs50 cGs51 HAL HC2 HC1 HC0
       go_wp2_with fail
       go_ret
       exact ⟨rfl, BE.out⟩
end
end Go.Proofs.YtgemihkcihigpaaGreatDoor
