/- The laws' sanity check holds. -/
import Derived.Test.YtgemihkcihigpaaGreatDoorZB33
set_option linter.unusedVariables false
set_option linter.unusedSimpArgs false
namespace Go.Proofs.YtgemihkcihigpaaGreatDoor
open Go.Lib (hid)
section
open Go.RowKit
theorem sel_at {p : Nat -> Prop} {g1 g2 : Nat} {w : World} (h1 : w.heap[g1]? = some (.cells #[.string sB] 9 (0, 0))) (h2 : w.heap[g2]? = some (.cells #[.string sA] 9 (0, 0))) (p1 : p g1) (p2 : p g2) :
 StmtV p w (.agg #[.int .i64 7, .string sT, .string ⟨#[]⟩, .slice none 0 0, .slice (some ⟨g1, 0, none⟩) 1 1, .slice none 0 0, .slice none 0 0, .slice none 0 0, .string ⟨#[]⟩, .string ⟨#[]⟩, .string ⟨#[]⟩, .int .i64 0, .slice (some ⟨g2, 0, none⟩) 1 1, .int .i64 0, .int .i64 0]) selS :=
 ⟨none, 0, some ⟨g1, 0, none⟩, 1, none, 0, none, 0, none, 0, some ⟨g2, 0, none⟩, 1, rfl, nil_sl, one_str h1 p1, nil_sl, nil_sl, nil_sl, one_str h2 p2⟩
theorem sum_at {p : Nat -> Prop} {g1 g2 : Nat} {w : World} (h1 : w.heap[g1]? = some (.cells #[.string sA] 9 (0, 0))) (h2 : w.heap[g2]? = some (.cells #[.string sB, .int .i64 1, .int .i64 (tx sY).kind, .int .i64 (tx sY).n, .string (tx sY).s] 60 (0, 0))) (p1 : p g1) (p2 : p g2) :
 StmtV p w (.agg #[.int .i64 7, .string sT, .string ⟨#[]⟩, .slice none 0 0, .slice (some ⟨g1, 0, none⟩) 1 1, .slice none 0 0, .slice none 0 0, .slice (some ⟨g2, 0, none⟩) 1 1, .string ⟨#[]⟩, .string ⟨#[]⟩, .string ⟨#[]⟩, .int .i64 2, .slice none 0 0, .int .i64 0, .int .i64 0]) sumS :=
 ⟨none, 0, some ⟨g1, 0, none⟩, 1, none, 0, none, 0, some ⟨g2, 0, none⟩, 1, none, 0, rfl, nil_sl, one_str h1 p1, nil_sl, nil_sl, one_cond (c := ⟨sB, 1, tx sY⟩) h2 p2, nil_sl⟩
theorem upd_at {p : Nat -> Prop} {g1 g2 : Nat} {w : World} (h1 : w.heap[g1]? = some (.cells #[.string sA, .string sA, .int .i64 (wh 5).kind, .int .i64 (wh 5).n, .string (wh 5).s] 81 (0, 0))) (h2 : w.heap[g2]? = some (.cells #[.string sA, .int .i64 5, .int .i64 (wh 1).kind, .int .i64 (wh 1).n, .string (wh 1).s] 60 (0, 0))) (p1 : p g1) (p2 : p g2) :
 StmtV p w (.agg #[.int .i64 5, .string sT, .string ⟨#[]⟩, .slice none 0 0, .slice none 0 0, .slice none 0 0, .slice (some ⟨g1, 0, none⟩) 1 1, .slice (some ⟨g2, 0, none⟩) 1 1, .string ⟨#[]⟩, .string ⟨#[]⟩, .string ⟨#[]⟩, .int .i64 0, .slice none 0 0, .int .i64 0, .int .i64 0]) updS :=
 ⟨none, 0, none, 0, none, 0, some ⟨g1, 0, none⟩, 1, some ⟨g2, 0, none⟩, 1, none, 0, rfl, nil_sl, nil_sl, nil_sl, one_set (c := ⟨sA, sA, wh 5⟩) h1 p1, one_cond (c := ⟨sA, 5, wh 1⟩) h2 p2, nil_sl⟩
theorem san_upd_s : stepS (twoS san2 []) updS = twoS (changeRows (twoS san2 []) updS) [] := by
 rw [stepS_chg (Or.inl rfl) san_upd.1]
 unfold changeS
 rw [show updS.table = sT from rfl, findT_t]
 rfl
def SumD (S : Nat) (u : Value) (w : World) : Prop := ∃ q1 q2, u = .agg #[.int .i64 7, .string sT, .string ⟨#[]⟩, .slice none 0 0, .slice (some ⟨q1, 0, none⟩) 1 1, .slice none 0 0, .slice none 0 0, .slice (some ⟨q2, 0, none⟩) 1 1, .string ⟨#[]⟩, .string ⟨#[]⟩, .string ⟨#[]⟩, .int .i64 2, .slice none 0 0, .int .i64 0, .int .i64 0] /\
 w.heap[q1]? = some (.cells #[.string sA] 9 (0, 0)) /\ w.heap[q2]? = some (.cells #[.string sB, .int .i64 1, .int .i64 (tx sY).kind, .int .i64 (tx sY).n, .string (tx sY).s] 60 (0, 0))
theorem SumD.rs {S S' : Nat} {u : Value} {w w' : World} (h : SumD S u w) (hr : RS S' w w') : SumD S u w' := by
 obtain ⟨q1, q2, h0, h1, h2⟩ := h
 exact ⟨q1, q2, h0, hr.other h1 (by decide), hr.other h2 (by decide)⟩
def UpdD (S : Nat) (u : Value) (w : World) : Prop := ∃ q1 q2, u = .agg #[.int .i64 5, .string sT, .string ⟨#[]⟩, .slice none 0 0, .slice none 0 0, .slice none 0 0, .slice (some ⟨q1, 0, none⟩) 1 1, .slice (some ⟨q2, 0, none⟩) 1 1, .string ⟨#[]⟩, .string ⟨#[]⟩, .string ⟨#[]⟩, .int .i64 0, .slice none 0 0, .int .i64 0, .int .i64 0] /\
 w.heap[q1]? = some (.cells #[.string sA, .string sA, .int .i64 (wh 5).kind, .int .i64 (wh 5).n, .string (wh 5).s] 81 (0, 0)) /\ w.heap[q2]? = some (.cells #[.string sA, .int .i64 5, .int .i64 (wh 1).kind, .int .i64 (wh 1).n, .string (wh 1).s] 60 (0, 0))
theorem UpdD.rs {S S' : Nat} {u : Value} {w w' : World} (h : UpdD S u w) (hr : RS S' w w') : UpdD S u w' := by
 obtain ⟨q1, q2, h0, h1, h2⟩ := h
 exact ⟨q1, q2, h0, hr.other h1 (by decide), hr.other h2 (by decide)⟩
def DidRow (u : Value) (w : World) : Prop := ∃ b1 d1 b2 d2 rb ro d3, u = .tuple #[.agg #[.slice b1 2 d1, .slice b2 2 d2], .agg #[.int .i64 0, .slice (some ⟨rb, ro, none⟩) 1 d3, .int .i64 1]] /\ RowOne val0 rb ro w
def AnsRow (u : Value) (w : World) : Prop := ∃ rb ro d3, u = .agg #[.int .i64 0, .slice (some ⟨rb, ro, none⟩) 1 d3, .int .i64 1] /\ RowOne val0 rb ro w
def DidNone (u : Value) : Prop := ∃ b1 d1 b2 d2 x y, u = .tuple #[.agg #[.slice b1 2 d1, .slice b2 2 d2], .agg #[.int .i64 0, .slice x 0 y, .int .i64 1]]
def AnsNone (u : Value) : Prop := ∃ x y, u = .agg #[.int .i64 0, .slice x 0 y, .int .i64 1]
def StVal (u : Value) : Prop := ∃ b1 d1 b2 d2, u = .agg #[.slice b1 2 d1, .slice b2 2 d2]
def PtrS (S : Nat) (u : Value) (w : World) : Prop := ∃ q, u = .pointer (some ⟨q, 0, none⟩) /\ S <= q /\ SBox w q
def PtrA (S : Nat) (u : Value) (w : World) : Prop := ∃ q, u = .pointer (some ⟨q, 0, none⟩) /\ S <= q /\ w.heap[q]? = some (.cells #[.int .i64 0, .slice none 0 0, .int .i64 0] 43 (0, 0))
set_option maxRecDepth 100000 in
set_option maxHeartbeats 16000000 in
theorem sanity_any (w : World) (hK : KindsAt w) : Calls Tryz.prog 13 #[] w fun e w' => e = .returned (.bool true) /\ Below w.heap.size w w' := by
 have HK := hid hK
 have con := begun_any w hK
 clear hK
 go_enter Tryz.func13, Tryz.ntmps13
 go_wp2_with fail
 refine con.mono ?_
 rintro e w1 ⟨a1, c1, a2, c2, rfl, b1, t1⟩
 have B1 := hid b1
 have T1 := hid t1
 have con := whole_any 2 w1
 clear b1 t1
 go_wp2_with fail
 refine con.mono ?_
 rintro e w2 ⟨rfl, b2⟩
 have B2 := hid (B1.out.trans (b2.mono B1.out.size))
 have T2 := hid (T1.out.below b2)
 have con := text_any sX w2
 clear b2 T1 B1
 go_wp2_with fail
 refine con.mono ?_
 rintro e w3 ⟨rfl, b3⟩
 have B3 := hid (B2.out.trans (b3.mono B2.out.size))
 have T3 := hid (T2.out.below b3)
 clear b3 T2 B2 con
 go_wp2_with fail
 generalize hX : World.alloc _ _ = X
 have bx : Below w3.heap.size w3 X := by rw [<- hX]; exact (b0R).alloc (Nat.le_refl _) _
 have HV := hid (show X.heap[w3.heap.size]? = some (.cells #[.int .i64 (wh 2).kind, .int .i64 (wh 2).n, .string (wh 2).s, .int .i64 (tx sX).kind, .int .i64 (tx sX).n, .string (tx sX).s] 55 (0, 0)) from by rw [<- hX]; exact heap_alloc_new _ _)
 have B4 := hid (B3.out.trans (bx.mono B3.out.size))
 have T4 := hid (T3.out.below bx)
 have con := lins_any sT (some ⟨w3.heap.size, 0, none⟩) 2 2 X
 clear hX bx T3 B3
 refine con.mono ?_
 rintro e w4 ⟨rfl, b4⟩
 have B5 := hid (B4.out.trans (b4.mono B4.out.size))
 have con := do_two (T4.out.below b4) (ins_at (two_vals (p := fun _ => True) ((b4.block _ (lt_of_block HV.out)).trans HV.out) trivial)) (inv_two (n := 48) (fun r hr => absurd hr List.not_mem_nil) (fun r hr => absurd hr List.not_mem_nil) (by decide) (by decide)) (by decide) (ins_small (by decide)) (HK.out.below B5.out) (ins_t (A := []) (B := []) (a := wh 2) (b := tx sX) (Or.inr rfl) (Or.inr ⟨rfl, by decide⟩)).2 (stepA_ins rfl (ins_t (A := []) (B := []) (a := wh 2) (b := tx sX) (Or.inr rfl) (Or.inr ⟨rfl, by decide⟩)).1) rfl
 clear b4 T4 B4
 go_wp2_with fail
 refine con.mono ?_
 rintro e w5 ⟨a1, c1, a2, c2, z3, y3, rfl, b5, t5, _⟩
 have B6 := hid (B5.out.trans (b5.mono B5.out.size))
 have T6 := hid (show TwoAt _ w5 a1 c1 a2 c2 san1 [] from t5.bound)
 clear con b5 t5 B5
 go_upto_region 2 with (fail)
 generalize hA : World.alloc _ _ = Z
 have hZ : allocs w5 [_, _] = Z := hA
 have G := hid (show Z.heap[w5.heap.size]? = some (.cells #[.slice a1 2 c1, .slice a2 2 c2] 27 (0, 0)) from allocs_get hZ 0 rfl)
 have bz := allocs_self hZ
 have B7 := hid (B6.out.trans (bz.mono B6.out.size))
 have HT := hid (show TwoAt (fun k => k < w5.heap.size) Z a1 c1 a2 c2 san1 [] from (T6.out.below bz).weaken fun k h => h.2)
 have HKV := hid (HK.out.below B7.out)
 have HGW := hid (show w.heap.size <= w5.heap.size from B6.out.size)
 obtain ⟨g, hg⟩ : ∃ g, w5.heap.size = g := ⟨_, rfl⟩
 rw [hg] at G HT HGW ⊢
 clear hA hZ bz hg T6 B6
 apply wp_region_growa 9 (fun w1 w2 => w1.grownBy w2 (some (g))) [20, 21, 22, 23, 24, 25, 19, 26, 27]
  [fun _ u _ => u = .agg #[.slice a1 2 c1, .slice a2 2 c2],
   fun _ u _ => u = .agg #[.int .i64 (wh 1).kind, .int .i64 (wh 1).n, .string (wh 1).s],
   fun _ u _ => u = .agg #[.int .i64 (val0).kind, .int .i64 (val0).n, .string (val0).s],
   fun _ u w' => NewTwoV Z.heap.size (wh 1) (val0) u w',
   fun _ u w' => InsAt Z.heap.size sT (wh 1) (val0) u w',
   fun _ u w' => DidAt (fun k => k < g \/ Z.heap.size <= k) (san1 ++ [[wh 1, val0]]) (([] : List (List Val))) u w',
   fun _ u w' => DidAt (fun k => k < g \/ Z.heap.size <= k) (san1 ++ [[wh 1, val0]]) (([] : List (List Val))) u w',
   fun _ u w' => NowAt (fun k => k < g \/ Z.heap.size <= k) (san1 ++ [[wh 1, val0]]) (([] : List (List Val))) u w',
   fun _ _ _ => True,
   fun _ _ _ => True]
  (fun w' => Z.grownBy w' (some (g))) (Below Z.heap.size Z) (BoxAt (g) (fun k => k < g \/ Z.heap.size <= k) (san1 ++ [[wh 1, val0]]) (([] : List (List Val))))
 case hF =>
  intro v
  simp only [setAll, List.foldl_cons, List.foldl_nil, Act.put, List.setIfInBounds_toArray, List.set_cons_succ, List.set_cons_zero]
  exact rfl
 case hm => kernel_rfl
 case hB => kernel_rfl
 case hsz => kernel_rfl
 case hR => exact fun w1 w2 h => grownBy_of_below _ h
 case hC => exact fun w1 w2 h b => grown_tra h b
 case hCp => exact fun w1 w2 h b => h.trans (b.mono h.size)
 case hDm => exact fun w1 w2 h b => h.below b
 case hw => exact grownBy_of_below _ (Below.drew b0R)
 case hwp => exact Below.drew b0R
 case hS =>
  intro D hD v u
  simp only [List.mem_cons, List.not_mem_nil, or_false] at hD
  rcases hD with rfl | rfl | rfl | rfl | rfl | rfl | rfl | rfl | rfl | rfl
  · exact fun w1 w2 h _ => h
  · exact fun w1 w2 h _ => h
  · exact fun w1 w2 h _ => h
  · exact fun w1 w2 h hb => h.grown (by exact lt_of_block G.out) hb
  · exact fun w1 w2 h hb => h.grown (by exact lt_of_block G.out) hb
  · exact fun w1 w2 h hb => h.grown ((fun h => h.elim (fun h => Nat.lt_irrefl _ h) (fun h => absurd h (Nat.not_le.2 (lt_of_block G.out))))) hb
  · exact fun w1 w2 h hb => h.grown ((fun h => h.elim (fun h => Nat.lt_irrefl _ h) (fun h => absurd h (Nat.not_le.2 (lt_of_block G.out))))) hb
  · exact fun w1 w2 h hb => h.grown ((fun h => h.elim (fun h => Nat.lt_irrefl _ h) (fun h => absurd h (Nat.not_le.2 (lt_of_block G.out))))) hb
  · exact fun w1 w2 h _ => h
  · exact fun w1 w2 h _ => h
 case hob =>
  apply growr_ahead rfl (by kernel_rfl)
  · intro v w1 h1 hp hd
    clear hd
    have q0 := (hp.block _ (lt_of_block G.out)).trans G.out
    have x0 := cells_of q0 0
    have x1 := cells_of q0 1
    simp only [gT, gZ, gS] at x0 x1
    clear q0
    clear h1 hp
    go_wp2_with fail
    first | exact Below.refl _ _ | exact ⟨Below.refl _ _, rfl⟩ | exact ⟨rfl, Below.refl _ _⟩
  apply growr_cons rfl
  · intro v w1 h1 hd
    clear hd
    have con := whole_any 1 w1
    clear h1
    go_wp2_with fail
    refine con.mono ?_
    rintro e w2 ⟨rfl, b2⟩
    have B2 := hid b2
    clear con b2
    go_wp2_with fail
    first | exact ⟨B2.out, rfl, rfl, rfl⟩ | exact ⟨B2.out, rfl⟩ | exact ⟨rfl, B2.out⟩
  apply growr_cons rfl
  · intro v w1 h1 hd
    clear hd h1
    go_wp2_with fail
    first | exact ⟨Below.refl _ _, rfl, rfl, rfl⟩ | exact ⟨Below.refl _ _, rfl⟩ | exact ⟨rfl, Below.refl _ _⟩
  apply growr_cons rfl
  · intro v w1 h1 hd
    have g1 : v 21 = .agg #[.int .i64 (wh 1).kind, .int .i64 (wh 1).n, .string (wh 1).s] := hd 1 _ _ _ rfl rfl rfl rfl
    have g2 : v 22 = .agg #[.int .i64 (val0).kind, .int .i64 (val0).n, .string (val0).s] := hd 2 _ _ _ rfl rfl rfl rfl
    clear hd
    rw [g1, g2]
    have HSW := hid h1.size
    clear g1 g2 h1
    go_wp2_with fail
    have hb3 : Below w1.heap.size w1 (w1.alloc (.cells #[.int .i64 (wh 1).kind, .int .i64 (wh 1).n, .string (wh 1).s, .int .i64 (val0).kind, .int .i64 (val0).n, .string (val0).s] 55)) := (b0R).alloc (Nat.le_refl _) _
    first | exact ⟨hb3, w1.heap.size, rfl, HSW.out, heap_alloc_new _ _⟩ | exact ⟨⟨w1.heap.size, rfl, HSW.out, heap_alloc_new _ _⟩, hb3⟩
  apply growr_cons rfl
  · intro v w1 h1 hd
    obtain ⟨gq, g3, hg1, hg2⟩ : NewTwoV Z.heap.size (wh 1) (val0) (v 23) w1 := hd 3 _ _ _ rfl rfl rfl rfl
    clear hd
    rw [g3]
    have HG := hid (show _ /\ _ from ⟨hg1, hg2⟩)
    have con := lins_any sT (some ⟨gq, 0, none⟩) 2 2 w1
    clear g3 hg1 hg2 h1
    go_wp2_with fail
    refine con.mono ?_
    rintro e w2 ⟨rfl, b2⟩
    have B2 := hid b2
    have R2 := hid (show InsAt Z.heap.size sT (wh 1) (val0) _ w2 from ⟨gq, rfl, HG.out.1, (b2.block _ (lt_of_block HG.out.2)).trans HG.out.2⟩)
    clear con b2
    go_wp2_with fail
    first | exact ⟨B2.out, R2.out⟩ | exact ⟨R2.out, B2.out⟩
  apply growr_ahead rfl (by kernel_rfl)
  · intro v w1 h1 hp hd
    have g0 : v 20 = .agg #[.slice a1 2 c1, .slice a2 2 c2] := hd 0 _ _ _ rfl rfl rfl rfl
    obtain ⟨gq, g4, hg1, hg2⟩ : InsAt Z.heap.size sT (wh 1) (val0) (v 24) w1 := hd 4 _ _ _ rfl rfl rfl rfl
    clear hd
    rw [g0, g4]
    have HSW := hid hp.size
    have con := do_two (HT.out.below hp) (ins_at (two_vals (p := fun _ => True) hg2 trivial)) san_inv1 (by decide) (ins_small (Nat.le_trans (show (2 : Nat) <= 2 from Nat.le_refl _) (by decide))) (HKV.out.below hp) ((ins_t (A := san1) (B := []) (a := wh 1) (b := val0) (Or.inr rfl) (Or.inl rfl))).2 (stepA_ins rfl ((ins_t (A := san1) (B := []) (a := wh 1) (b := val0) (Or.inr rfl) (Or.inl rfl))).1) rfl
    clear g0 g4 hg1 hg2 h1 hp
    go_wp2_with fail
    refine con.mono ?_
    rintro e w2 ⟨b1, d1, b2, d2, b3, d3, rfl, bb, tt, _⟩
    have B2 := hid bb
    have R2 := hid (show DidAt (fun k => k < g \/ Z.heap.size <= k) (san1 ++ [[wh 1, val0]]) (([] : List (List Val))) _ w2 from ⟨b1, d1, b2, d2, b3, d3, rfl, tt.weaken fun k hk => hk.imp id (fun h => Nat.le_trans HSW.out h)⟩)
    clear con bb tt
    go_wp2_with fail
    first | exact ⟨B2.out, R2.out⟩ | exact ⟨R2.out, B2.out⟩
  apply growr_cons rfl
  · intro v w1 h1 hd
    obtain ⟨b1, d1, b2, d2, b3, d3, g5, tt⟩ : DidAt (fun k => k < g \/ Z.heap.size <= k) (san1 ++ [[wh 1, val0]]) (([] : List (List Val))) (v 25) w1 := hd 5 _ _ _ rfl rfl rfl rfl
    clear hd
    rw [g5]
    have R2 := hid (show DidAt (fun k => k < g \/ Z.heap.size <= k) (san1 ++ [[wh 1, val0]]) (([] : List (List Val))) _ w1 from ⟨b1, d1, b2, d2, b3, d3, rfl, tt⟩)
    clear g5 tt h1
    go_wp2_with fail
    first | exact ⟨Below.refl _ _, R2.out⟩ | exact ⟨R2.out, Below.refl _ _⟩
  apply growr_cons rfl
  · intro v w1 h1 hd
    obtain ⟨b1, d1, b2, d2, b3, d3, g6, tt⟩ : DidAt (fun k => k < g \/ Z.heap.size <= k) (san1 ++ [[wh 1, val0]]) (([] : List (List Val))) (v 19) w1 := hd 6 _ _ _ rfl rfl rfl rfl
    clear hd
    rw [g6]
    have R2 := hid (show NowAt (fun k => k < g \/ Z.heap.size <= k) (san1 ++ [[wh 1, val0]]) (([] : List (List Val))) _ w1 from ⟨b1, d1, b2, d2, rfl, tt⟩)
    clear g6 tt h1
    go_wp2_with fail
    first | exact ⟨Below.refl _ _, R2.out⟩ | exact ⟨R2.out, Below.refl _ _⟩
  apply growr_cons rfl
  · intro v w1 h1 hd
    obtain ⟨b1, d1, b2, d2, b3, d3, g6, tt⟩ : DidAt (fun k => k < g \/ Z.heap.size <= k) (san1 ++ [[wh 1, val0]]) (([] : List (List Val))) (v 19) w1 := hd 6 _ _ _ rfl rfl rfl rfl
    clear hd
    rw [g6]
    clear g6 tt h1
    go_wp2_with fail
    first | exact Below.refl _ _ | exact ⟨Below.refl _ _, trivial⟩ | exact ⟨trivial, Below.refl _ _⟩
  apply growr_one rfl
  · intro v w1 h1 hp hd
    obtain ⟨b1, d1, b2, d2, g7, tt⟩ : NowAt (fun k => k < g \/ Z.heap.size <= k) (san1 ++ [[wh 1, val0]]) (([] : List (List Val))) (v 26) w1 := hd 7 _ _ _ rfl rfl rfl rfl
    clear hd
    rw [g7]
    have hz := (hp.block _ (lt_of_block G.out)).trans G.out
    have m0 := cells_of hz 0
    have m1 := cells_of hz 1
    have n0 := free_of hz 0
    have n1 := free_of hz 1
    simp only [gT, gZ, gS] at m0 m1
    have RR := hid (ret_first (x0 := .slice b1 2 d1) (x1 := .slice b2 2 d2) b0R hz)
    have RT := hid (tt.keep (w' := (w1.setCell ⟨g, 0, none⟩ (.slice b1 2 d1)).setCell ⟨g, 1, none⟩ (.slice b2 2 d2)) fun k hk hl => RR.out.1.block k hl (by intro e; have e1 := Option.some.inj e; exact absurd (e1 ▸ hk) ((fun h => h.elim (fun h => Nat.lt_irrefl _ h) (fun h => absurd h (Nat.not_le.2 (lt_of_block G.out)))))))
    clear g7 tt h1 hp hz
    go_wp2_with fail
    have hfin : w1.grownBy ((w1.setCell ⟨g, 0, none⟩ (.slice b1 2 d1)).setCell ⟨g, 1, none⟩ (.slice b2 2 d2)) (some (g)) /\ BoxAt (g) (fun k => k < g \/ Z.heap.size <= k) (san1 ++ [[wh 1, val0]]) (([] : List (List Val))) ((w1.setCell ⟨g, 0, none⟩ (.slice b1 2 d1)).setCell ⟨g, 1, none⟩ (.slice b2 2 d2)) := ⟨RR.out.1, b1, d1, b2, d2, RR.out.2, RT.out⟩
    first | exact hfin | exact ⟨hfin.2, hfin.1⟩
  exact growr_nil
 case hend =>
  intro v w9 h1 hdm hd
  clear hd
  have H9 := hid (show _ /\ BoxAt g (fun k => k < g \/ Z.heap.size <= k) san2 [] w9 from ⟨h1, hdm⟩)
  clear h1 hdm
  have B9 := hid (show Below w.heap.size w w9 from B7.out.grown H9.out.1 B7.out.size (fun j e => by cases e; exact HGW.out))
  obtain ⟨a1, c1, a2, c2, hbox, htwo⟩ := H9.out.2
  have G9 := hid hbox
  have T9 := hid htwo
  have x0 := cells_of hbox 0
  have x1 := cells_of hbox 1
  simp only [gT, gZ, gS] at x0 x1
  clear hbox htwo H9 G HT HKV B7
  go_wp2_with fail
  generalize hX : World.alloc _ _ = X2
  have hX2 : allocs w9 [_, _] = X2 := hX
  have bx := allocs_self hX2
  have q1 : X2.heap[w9.heap.size]? = some (.cells #[.string sB] 9 (0, 0)) := allocs_get hX2 0 rfl
  have q2 : X2.heap[w9.heap.size + 1]? = some (.cells #[.string sA] 9 (0, 0)) := allocs_get hX2 1 rfl
  have B10 := hid (B9.out.trans (bx.mono B9.out.size))
  have G10 := cy bx G9
  have T10 := hid (T9.out.below bx)
  have con := do_two T10.out (sel_at (p := fun _ => True) q1 q2 trivial trivial) san_inv2 (by decide) ⟨rfl, Nat.zero_le _, by decide, Nat.zero_le _, by decide⟩ (HK.out.below B10.out) (stepS_qry rfl) san_sel rfl
  clear hX hX2 bx q1 q2 x0 x1 B9 G9 T9
  refine con.mono ?_
  rintro e w11 ⟨e1, e2, e3, e4, ra, rc, rfl, b11, _, r11⟩
  have B11 := hid (B10.out.trans (b11.mono B10.out.size))
  have G11 := cy b11 G10
  have T11 := hid ((T10.out.below b11).bound)
  have R11 := hid r11
  clear con b11 r11
  go_upto_region 4 with (fail)
  generalize hA : World.alloc _ _ = V
  have hV : allocs w11 [_, _] = V := hA
  have bv := allocs_self hV
  obtain ⟨rb, ro, rfl, hrow⟩ := rows_cells (R11.out.below bv) (by decide)
  have AB := hid (show V.heap[w11.heap.size + 1]? = some (.cells #[.int .i64 0, .slice (some ⟨rb, ro, none⟩) 2 rc, .int .i64 2] 43 (0, 0)) from allocs_get hV 1 rfl)
  have AR := hid (show RowOne val0 rb ro V /\ RowOne (tx sX) rb (ro + 1) V from ⟨hrow 0 (by decide) val0 rfl, hrow 1 (by decide) (tx sX) rfl⟩)
  have BV := hid (B11.out.trans (bv.mono B11.out.size))
  have GV := cy bv G11
  have TV := hid ((T11.out.below bv))
  have HKV := hid (HK.out.below BV.out)
  clear hA hV bv hrow R11
  apply wp_region_growr 13 12 (RS V.heap.size) [37, 38, 39, 40, 41, 42, 43, 36, 44, 45, 5, 6]
   [fun _ u _ => u = .agg #[.slice a1 2 c1, .slice a2 2 c2],
    fun _ u w' => NewB V.heap.size #[.string sA] 9 u w',
    fun _ u _ => u = .agg #[.int .i64 (tx sY).kind, .int .i64 (tx sY).n, .string (tx sY).s],
    fun _ u _ => u = .agg #[.string sB, .int .i64 1, .int .i64 (tx sY).kind, .int .i64 (tx sY).n, .string (tx sY).s],
    fun _ u w' => NewB V.heap.size #[.string sB, .int .i64 1, .int .i64 (tx sY).kind, .int .i64 (tx sY).n, .string (tx sY).s] 60 u w',
    fun _ u w' => SumD V.heap.size u w',
    fun _ u w' => DidRow u w',
    fun _ u w' => DidRow u w',
    fun _ u _ => StVal u,
    fun _ u w' => AnsRow u w',
    fun _ u w' => PtrS V.heap.size u w',
    fun _ u w' => PtrA V.heap.size u w',
    fun _ _ _ => True]
   (Below V.heap.size V) (Below V.heap.size V) (fun _ => True)
  case hF =>
   intro v
   simp only [setAll, List.foldl_cons, List.foldl_nil, Act.put, List.setIfInBounds_toArray, List.set_cons_succ, List.set_cons_zero]
   exact rfl
  case hm => kernel_rfl
  case hB => kernel_rfl
  case hsz => kernel_rfl
  case hR => exact fun w1 w2 h => Or.inl h
  case hC => exact fun w1 w2 h b => RS.base (Nat.le_refl _) h b
  case hCp => exact fun w1 w2 h b => h.trans (b.mono h.size)
  case hDm => exact fun _ _ _ _ => trivial
  case hw => exact Below.drew b0R
  case hwp => exact Below.drew b0R
  case hS =>
   intro D hD v u
   simp only [List.mem_cons, List.not_mem_nil, or_false] at hD
   rcases hD with rfl | rfl | rfl | rfl | rfl | rfl | rfl | rfl | rfl | rfl | rfl | rfl | rfl
   · exact fun w1 w2 h _ => h
   · exact fun w1 w2 h hr => h.rs (by decide) hr
   · exact fun w1 w2 h _ => h
   · exact fun w1 w2 h _ => h
   · exact fun w1 w2 h hr => h.rs (by decide) hr
   · exact fun w1 w2 h hr => h.rs hr
   · exact fun w1 w2 ⟨b1, d1, b2, d2, rb, ro, d3, e, h⟩ hr => ⟨b1, d1, b2, d2, rb, ro, d3, e, h.rs hr⟩
   · exact fun w1 w2 ⟨b1, d1, b2, d2, rb, ro, d3, e, h⟩ hr => ⟨b1, d1, b2, d2, rb, ro, d3, e, h.rs hr⟩
   · exact fun w1 w2 h _ => h
   · exact fun w1 w2 ⟨rb, ro, d3, e, h⟩ hr => ⟨rb, ro, d3, e, h.rs hr⟩
   · exact fun w1 w2 ⟨q, e, h, z⟩ hr => ⟨q, e, h, z.rs hr⟩
   · exact fun w1 w2 ⟨q, e, h, z⟩ hr => ⟨q, e, h, hr.other z (by decide)⟩
   · exact fun w1 w2 h _ => h
  case hob =>
   simp only [List.take_succ_cons, List.take_zero]
   apply growr_cons rfl
   · intro v w1 h1 hd
     clear hd
     have q0 := (h1.block _ (lt_of_block GV.out)).trans GV.out
     have x0 := cells_of q0 0
     have x1 := cells_of q0 1
     simp only [gT, gZ, gS] at x0 x1
     clear q0
     clear h1
     go_wp2_with fail
     first | exact Below.refl _ _ | exact ⟨Below.refl _ _, rfl⟩ | exact ⟨rfl, Below.refl _ _⟩
   apply growr_cons rfl
   · intro v w1 h1 hd
     clear hd
     have HSW := hid h1.size
     clear h1
     go_wp2_with fail
     have hb3 : Below w1.heap.size w1 (w1.alloc (.cells #[.string sA] 9)) := (b0R).alloc (Nat.le_refl _) _
     first | exact ⟨hb3, w1.heap.size, rfl, HSW.out, heap_alloc_new _ _⟩ | exact ⟨⟨w1.heap.size, rfl, HSW.out, heap_alloc_new _ _⟩, hb3⟩
   apply growr_cons rfl
   · intro v w1 h1 hd
     clear hd
     have con := text_any sY w1
     clear h1
     go_wp2_with fail
     refine con.mono ?_
     rintro e w2 ⟨rfl, b2⟩
     have B2 := hid b2
     clear con b2
     go_wp2_with fail
     first | exact ⟨B2.out, rfl, rfl, rfl⟩ | exact ⟨B2.out, rfl⟩ | exact ⟨rfl, B2.out⟩
   apply growr_cons rfl
   · intro v w1 h1 hd
     have g1 : v 39 = .agg #[.int .i64 (tx sY).kind, .int .i64 (tx sY).n, .string (tx sY).s] := hd 2 _ _ _ rfl rfl rfl rfl
     clear hd
     rw [g1]
     clear g1 h1
     go_wp2_with fail
     first | exact ⟨Below.refl _ _, rfl⟩ | exact ⟨rfl, Below.refl _ _⟩ | exact Below.refl _ _ | exact ⟨Below.refl _ _, rfl, rfl⟩ | exact ⟨Below.refl _ _, rfl, rfl, rfl⟩
   apply growr_cons rfl
   · intro v w1 h1 hd
     have g1 : v 40 = .agg #[.string sB, .int .i64 1, .int .i64 (tx sY).kind, .int .i64 (tx sY).n, .string (tx sY).s] := hd 3 _ _ _ rfl rfl rfl rfl
     clear hd
     rw [g1]
     have HSW := hid h1.size
     clear g1 h1
     go_wp2_with fail
     have hb3 : Below w1.heap.size w1 (w1.alloc (.cells #[.string sB, .int .i64 1, .int .i64 (tx sY).kind, .int .i64 (tx sY).n, .string (tx sY).s] 60)) := (b0R).alloc (Nat.le_refl _) _
     first | exact ⟨hb3, w1.heap.size, rfl, HSW.out, heap_alloc_new _ _⟩ | exact ⟨⟨w1.heap.size, rfl, HSW.out, heap_alloc_new _ _⟩, hb3⟩
   apply growr_cons rfl
   · intro v w1 h1 hd
     obtain ⟨q1, g1, _, hq1⟩ : NewB V.heap.size #[.string sA] 9 (v 38) w1 := hd 1 _ _ _ rfl rfl rfl rfl
     obtain ⟨q2, g2, _, hq2⟩ : NewB V.heap.size #[.string sB, .int .i64 1, .int .i64 (tx sY).kind, .int .i64 (tx sY).n, .string (tx sY).s] 60 (v 41) w1 := hd 4 _ _ _ rfl rfl rfl rfl
     clear hd
     rw [g1, g2]
     have HH := hid (show _ /\ _ from ⟨hq1, hq2⟩)
     clear g1 g2 hq1 hq2 h1
     go_wp2_with fail
     first | exact ⟨Below.refl _ _, q1, q2, rfl, HH.out.1, HH.out.2⟩ | exact ⟨⟨q1, q2, rfl, HH.out.1, HH.out.2⟩, Below.refl _ _⟩
   apply growr_ahead rfl (by kernel_rfl)
   · intro v w1 h1 hp hd
     have g0 : v 37 = .agg #[.slice a1 2 c1, .slice a2 2 c2] := hd 0 _ _ _ rfl rfl rfl rfl
     obtain ⟨q1, q2, g4, hg1, hg2⟩ : SumD V.heap.size (v 42) w1 := hd 5 _ _ _ rfl rfl rfl rfl
     clear hd
     rw [g0, g4]
     have con := do_two (TV.out.below h1) (sum_at (p := fun _ => True) hg1 hg2 trivial trivial) san_inv2 (by decide) ⟨rfl, Nat.zero_le _, by decide, Nat.zero_le _, by decide⟩ (HKV.out.below h1) (stepS_qry rfl) san_sum rfl
     clear g0 g4 hg1 hg2 h1 hp
     go_wp2_with fail
     refine con.mono ?_
     rintro e w2 ⟨b1, d1, b2, d2, b3, d3, rfl, bb, _, rr⟩
     have B2 := hid bb
     obtain ⟨rb, ro, rfl, hrw⟩ := rows_cells rr (by decide)
     have hrow := hrw 0 (by decide) val0 rfl
     have R2 := hid (show DidRow (.tuple #[.agg #[.slice b1 2 d1, .slice b2 2 d2], .agg #[.int .i64 0, .slice (some ⟨rb, ro, none⟩) 1 d3, .int .i64 1]]) w2 from ⟨b1, d1, b2, d2, rb, ro, d3, rfl, hrow⟩)
     clear con bb rr hrow
     go_wp2_with fail
     first | exact ⟨B2.out, R2.out⟩ | exact ⟨R2.out, B2.out⟩
   apply growr_cons rfl
   · intro v w1 h1 hd
     obtain ⟨b1, d1, b2, d2, rb, ro, d3, g5, hrow⟩ : DidRow (v 43) w1 := hd 6 _ _ _ rfl rfl rfl rfl
     clear hd
     rw [g5]
     have R2 := hid (show DidRow (.tuple #[.agg #[.slice b1 2 d1, .slice b2 2 d2], .agg #[.int .i64 0, .slice (some ⟨rb, ro, none⟩) 1 d3, .int .i64 1]]) w1 from ⟨b1, d1, b2, d2, rb, ro, d3, rfl, hrow⟩)
     clear g5 h1 hrow
     go_wp2_with fail
     first | exact ⟨Below.refl _ _, R2.out⟩ | exact ⟨R2.out, Below.refl _ _⟩
   apply growr_cons rfl
   · intro v w1 h1 hd
     obtain ⟨b1, d1, b2, d2, rb, ro, d3, g5, hrow⟩ : DidRow (v 36) w1 := hd 7 _ _ _ rfl rfl rfl rfl
     clear hd
     rw [g5]
     have R2 := hid (show StVal (.agg #[.slice b1 2 d1, .slice b2 2 d2]) from ⟨b1, d1, b2, d2, rfl⟩)
     clear g5 h1 hrow
     go_wp2_with fail
     first | exact ⟨Below.refl _ _, R2.out⟩ | exact ⟨R2.out, Below.refl _ _⟩
   apply growr_cons rfl
   · intro v w1 h1 hd
     obtain ⟨b1, d1, b2, d2, rb, ro, d3, g5, hrow⟩ : DidRow (v 36) w1 := hd 7 _ _ _ rfl rfl rfl rfl
     clear hd
     rw [g5]
     have R2 := hid (show AnsRow (.agg #[.int .i64 0, .slice (some ⟨rb, ro, none⟩) 1 d3, .int .i64 1]) w1 from ⟨rb, ro, d3, rfl, hrow⟩)
     clear g5 h1 hrow
     go_wp2_with fail
     first | exact ⟨Below.refl _ _, R2.out⟩ | exact ⟨R2.out, Below.refl _ _⟩
   apply growr_cons rfl
   · intro v w1 h1 hd
     clear hd
     have HSW := hid h1.size
     clear h1
     go_wp2_with fail
     have hb3 : Below w1.heap.size w1 (w1.alloc (.cells #[.slice none 0 0, .slice none 0 0] 27)) := (b0R).alloc (Nat.le_refl _) _
     have hs : SBox (w1.alloc (.cells #[.slice none 0 0, .slice none 0 0] 27)) w1.heap.size := ⟨_, _, _, _, _, _, heap_alloc_new _ _, by decide, by decide⟩
     first | exact ⟨hb3, _, rfl, HSW.out, hs⟩ | exact ⟨⟨_, rfl, HSW.out, hs⟩, hb3⟩ | exact ⟨hb3, HSW.out, hs⟩
   apply growr_cons rfl
   · intro v w1 h1 hd
     clear hd
     have HSW := hid h1.size
     clear h1
     go_wp2_with fail
     have hb3 : Below w1.heap.size w1 (w1.alloc (.cells #[.int .i64 0, .slice none 0 0, .int .i64 0] 43)) := (b0R).alloc (Nat.le_refl _) _
     have hn : (w1.alloc (.cells #[.int .i64 0, .slice none 0 0, .int .i64 0] 43)).heap[w1.heap.size]? = some (.cells #[.int .i64 0, .slice none 0 0, .int .i64 0] 43 (0, 0)) := heap_alloc_new _ _
     first | exact ⟨hb3, _, rfl, HSW.out, hn⟩ | exact ⟨⟨_, rfl, HSW.out, hn⟩, hb3⟩ | exact ⟨hb3, HSW.out, hn⟩
   apply growr_one rfl
   · intro v w1 h1 hp hd
     obtain ⟨q, g1, hq, hs⟩ : PtrS V.heap.size (v 5) w1 := hd 10 _ _ _ rfl rfl rfl rfl
     obtain ⟨b1, d1, b2, d2, g2⟩ : StVal (v 44) := hd 8 _ _ _ rfl rfl rfl rfl
     clear hd
     rw [g1, g2]
     have HS := hid hs
     have HQ := hid hq
     obtain ⟨y1, n1, z1, y2, n2, z2, hz, _, _⟩ := hs
     have m0 := cells_of hz 0
     have m1 := cells_of hz 1
     have f0 := free_of hz 0
     have f1 := free_of hz 1
     simp only [gT, gZ, gS] at m0 m1
     have RR := hid (show RS V.heap.size w1 ((w1.setCell ⟨q, 0, none⟩ (.slice b1 2 d1)).setCell ⟨q, 1, none⟩ (.slice b2 2 d2)) from Or.inr ⟨q, HQ.out, HS.out, ⟨_, _, _, _, _, _, stbox_put hz, by decide, by decide⟩, grown_tra (grown_cell w1 ⟨q, 0, none⟩ _) (grown_cell _ ⟨q, 1, none⟩ _)⟩)
     clear g1 g2 hq hz h1 hp
     go_wp2_with fail
     first | exact RR.out | exact ⟨RR.out, trivial⟩ | exact ⟨trivial, RR.out⟩
   exact growr_nil
  case hend =>
   intro v w12 h1 hdm hd
   obtain ⟨q6, g6, hq6, hz6⟩ : PtrA V.heap.size (v 6) w12 := hd 11 _ _ _ rfl rfl rfl
   obtain ⟨sb, so, sc, g45, hrow⟩ : AnsRow (v 45) w12 := hd 9 _ _ _ rfl rfl rfl
   clear hd hdm
   rw [g6, g45]
   have m0 := cells_of hz6 0
   have m1 := cells_of hz6 1
   have m2 := cells_of hz6 2
   have n0 := free_of hz6 0
   have n1 := free_of hz6 1
   have n2 := free_of hz6 2
   simp only [gT, gZ, gS] at m0 m1 m2
   have HZ := hid hz6
   have HR := hid hrow
   have HB := hid h1
   have HQ := hid hq6
   clear h1 hq6 hz6 hrow g6 g45
   simp only [List.drop_succ_cons, List.drop_zero]
   go_upto_region 5 with (fail)
   generalize hA : World.setCell _ _ _ = U
   have hU : ((w12.setCell ⟨q6, 0, none⟩ (.int .i64 0)).setCell ⟨q6, 1, none⟩ (.slice (some ⟨sb, so, none⟩) 1 sc)).setCell ⟨q6, 2, none⟩ (.int .i64 1) = U := hA
   have gU : w12.grownBy U (some q6) := by
    rw [<- hU]
    exact grown_tra (grown_tra (grown_cell w12 ⟨q6, 0, none⟩ _) (grown_cell _ ⟨q6, 1, none⟩ _)) (grown_cell _ ⟨q6, 2, none⟩ _)
   have BB := hid (show U.heap[q6]? = some (.cells #[.int .i64 0, .slice (some ⟨sb, so, none⟩) 1 sc, .int .i64 1] 43 (0, 0)) by
    rw [<- hU]
    exact (heap_setCell_same _ _ _ _ _ _ ((heap_setCell_same _ _ _ _ _ _ ((heap_setCell_same _ _ _ _ _ _ HZ.out).trans rfl)).trans rfl)).trans rfl)
   have BR := hid (HR.out.grown gU (ans_cell HZ.out).1 (ans_cell HZ.out).2)
   have BU := hid (show Below V.heap.size V U from HB.out.grown gU HB.out.size (fun j e => by cases e; exact HQ.out))
   have BWU := hid (BV.out.trans (BU.out.mono BV.out.size))
   have GU := cy BU.out GV
   have TU := hid (TV.out.below BU.out)
   have ABU := cy BU.out AB
   have ARU := hid (show _ /\ _ from ⟨AR.out.1.below BU.out, AR.out.2.below BU.out⟩)
   have HKU := hid (HK.out.below BWU.out)
   clear hA hU gU m0 m1 m2 n0 n1 n2 HZ HR HB HQ
   apply wp_region_growr 15 14 (RS U.heap.size) [47, 48, 49, 50, 51, 52, 53, 54, 55, 46, 56, 57, 7, 8]
    [fun _ u _ => u = .agg #[.slice a1 2 c1, .slice a2 2 c2],
     fun _ u _ => u = .agg #[.int .i64 (wh 5).kind, .int .i64 (wh 5).n, .string (wh 5).s],
     fun _ u _ => u = .agg #[.string sA, .string sA, .int .i64 (wh 5).kind, .int .i64 (wh 5).n, .string (wh 5).s],
     fun _ u w' => NewB U.heap.size #[.string sA, .string sA, .int .i64 (wh 5).kind, .int .i64 (wh 5).n, .string (wh 5).s] 81 u w',
     fun _ u _ => u = .agg #[.int .i64 (wh 1).kind, .int .i64 (wh 1).n, .string (wh 1).s],
     fun _ u _ => u = .agg #[.string sA, .int .i64 5, .int .i64 (wh 1).kind, .int .i64 (wh 1).n, .string (wh 1).s],
     fun _ u w' => NewB U.heap.size #[.string sA, .int .i64 5, .int .i64 (wh 1).kind, .int .i64 (wh 1).n, .string (wh 1).s] 60 u w',
     fun _ u w' => UpdD U.heap.size u w',
     fun _ u _ => DidNone u,
     fun _ u _ => DidNone u,
     fun _ u _ => StVal u,
     fun _ u _ => AnsNone u,
     fun _ u w' => PtrS U.heap.size u w',
     fun _ u w' => PtrA U.heap.size u w',
     fun _ _ _ => True]
    (Below U.heap.size U) (Below U.heap.size U) (fun _ => True)
   case hF =>
    intro v
    simp only [setAll, List.foldl_cons, List.foldl_nil, Act.put, List.setIfInBounds_toArray, List.set_cons_succ, List.set_cons_zero]
    exact rfl
   case hm => kernel_rfl
   case hB => kernel_rfl
   case hsz => kernel_rfl
   case hR => exact fun w1 w2 h => Or.inl h
   case hC => exact fun w1 w2 h b => RS.base (Nat.le_refl _) h b
   case hCp => exact fun w1 w2 h b => h.trans (b.mono h.size)
   case hDm => exact fun _ _ _ _ => trivial
   case hw => exact Below.drew b0R
   case hwp => exact Below.drew b0R
   case hS =>
    intro D hD v u
    simp only [List.mem_cons, List.not_mem_nil, or_false] at hD
    rcases hD with rfl | rfl | rfl | rfl | rfl | rfl | rfl | rfl | rfl | rfl | rfl | rfl | rfl | rfl | rfl
    · exact fun w1 w2 h _ => h
    · exact fun w1 w2 h _ => h
    · exact fun w1 w2 h _ => h
    · exact fun w1 w2 h hr => h.rs (by decide) hr
    · exact fun w1 w2 h _ => h
    · exact fun w1 w2 h _ => h
    · exact fun w1 w2 h hr => h.rs (by decide) hr
    · exact fun w1 w2 h hr => h.rs hr
    · exact fun w1 w2 h _ => h
    · exact fun w1 w2 h _ => h
    · exact fun w1 w2 h _ => h
    · exact fun w1 w2 h _ => h
    · exact fun w1 w2 ⟨q, e, h, z⟩ hr => ⟨q, e, h, z.rs hr⟩
    · exact fun w1 w2 ⟨q, e, h, z⟩ hr => ⟨q, e, h, hr.other z (by decide)⟩
    · exact fun w1 w2 h _ => h
   case hob =>
    simp only [List.take_succ_cons, List.take_zero]
    apply growr_cons rfl
    · intro v w1 h1 hd
      clear hd
      have q0 := (h1.block _ (lt_of_block GU.out)).trans GU.out
      have x0 := cells_of q0 0
      have x1 := cells_of q0 1
      simp only [gT, gZ, gS] at x0 x1
      clear q0
      clear h1
      go_wp2_with fail
      first | exact Below.refl _ _ | exact ⟨Below.refl _ _, rfl⟩ | exact ⟨rfl, Below.refl _ _⟩
    apply growr_cons rfl
    · intro v w1 h1 hd
      clear hd
      have con := whole_any 5 w1
      clear h1
      go_wp2_with fail
      refine con.mono ?_
      rintro e w2 ⟨rfl, b2⟩
      have B2 := hid b2
      clear con b2
      go_wp2_with fail
      first | exact ⟨B2.out, rfl, rfl, rfl⟩ | exact ⟨B2.out, rfl⟩ | exact ⟨rfl, B2.out⟩
    apply growr_cons rfl
    · intro v w1 h1 hd
      have g1 : v 48 = .agg #[.int .i64 (wh 5).kind, .int .i64 (wh 5).n, .string (wh 5).s] := hd 1 _ _ _ rfl rfl rfl rfl
      clear hd
      rw [g1]
      clear g1 h1
      go_wp2_with fail
      first | exact ⟨Below.refl _ _, rfl⟩ | exact ⟨rfl, Below.refl _ _⟩ | exact Below.refl _ _ | exact ⟨Below.refl _ _, rfl, rfl⟩ | exact ⟨Below.refl _ _, rfl, rfl, rfl⟩
    apply growr_cons rfl
    · intro v w1 h1 hd
      have g1 : v 49 = .agg #[.string sA, .string sA, .int .i64 (wh 5).kind, .int .i64 (wh 5).n, .string (wh 5).s] := hd 2 _ _ _ rfl rfl rfl rfl
      clear hd
      rw [g1]
      have HSW := hid h1.size
      clear g1 h1
      go_wp2_with fail
      have hb3 : Below w1.heap.size w1 (w1.alloc (.cells #[.string sA, .string sA, .int .i64 (wh 5).kind, .int .i64 (wh 5).n, .string (wh 5).s] 81)) := (b0R).alloc (Nat.le_refl _) _
      first | exact ⟨hb3, w1.heap.size, rfl, HSW.out, heap_alloc_new _ _⟩ | exact ⟨⟨w1.heap.size, rfl, HSW.out, heap_alloc_new _ _⟩, hb3⟩
    apply growr_cons rfl
    · intro v w1 h1 hd
      clear hd
      have con := whole_any 1 w1
      clear h1
      go_wp2_with fail
      refine con.mono ?_
      rintro e w2 ⟨rfl, b2⟩
      have B2 := hid b2
      clear con b2
      go_wp2_with fail
      first | exact ⟨B2.out, rfl, rfl, rfl⟩ | exact ⟨B2.out, rfl⟩ | exact ⟨rfl, B2.out⟩
    apply growr_cons rfl
    · intro v w1 h1 hd
      have g1 : v 51 = .agg #[.int .i64 (wh 1).kind, .int .i64 (wh 1).n, .string (wh 1).s] := hd 4 _ _ _ rfl rfl rfl rfl
      clear hd
      rw [g1]
      clear g1 h1
      go_wp2_with fail
      first | exact ⟨Below.refl _ _, rfl⟩ | exact ⟨rfl, Below.refl _ _⟩ | exact Below.refl _ _ | exact ⟨Below.refl _ _, rfl, rfl⟩ | exact ⟨Below.refl _ _, rfl, rfl, rfl⟩
    apply growr_cons rfl
    · intro v w1 h1 hd
      have g1 : v 52 = .agg #[.string sA, .int .i64 5, .int .i64 (wh 1).kind, .int .i64 (wh 1).n, .string (wh 1).s] := hd 5 _ _ _ rfl rfl rfl rfl
      clear hd
      rw [g1]
      have HSW := hid h1.size
      clear g1 h1
      go_wp2_with fail
      have hb3 : Below w1.heap.size w1 (w1.alloc (.cells #[.string sA, .int .i64 5, .int .i64 (wh 1).kind, .int .i64 (wh 1).n, .string (wh 1).s] 60)) := (b0R).alloc (Nat.le_refl _) _
      first | exact ⟨hb3, w1.heap.size, rfl, HSW.out, heap_alloc_new _ _⟩ | exact ⟨⟨w1.heap.size, rfl, HSW.out, heap_alloc_new _ _⟩, hb3⟩
    apply growr_cons rfl
    · intro v w1 h1 hd
      obtain ⟨q1, g1, _, hq1⟩ : NewB U.heap.size #[.string sA, .string sA, .int .i64 (wh 5).kind, .int .i64 (wh 5).n, .string (wh 5).s] 81 (v 50) w1 := hd 3 _ _ _ rfl rfl rfl rfl
      obtain ⟨q2, g2, _, hq2⟩ : NewB U.heap.size #[.string sA, .int .i64 5, .int .i64 (wh 1).kind, .int .i64 (wh 1).n, .string (wh 1).s] 60 (v 53) w1 := hd 6 _ _ _ rfl rfl rfl rfl
      clear hd
      rw [g1, g2]
      have HH := hid (show _ /\ _ from ⟨hq1, hq2⟩)
      clear g1 g2 hq1 hq2 h1
      go_wp2_with fail
      first | exact ⟨Below.refl _ _, q1, q2, rfl, HH.out.1, HH.out.2⟩ | exact ⟨⟨q1, q2, rfl, HH.out.1, HH.out.2⟩, Below.refl _ _⟩
    apply growr_ahead rfl (by kernel_rfl)
    · intro v w1 h1 hp hd
      have g0 : v 47 = .agg #[.slice a1 2 c1, .slice a2 2 c2] := hd 0 _ _ _ rfl rfl rfl rfl
      obtain ⟨q1, q2, g4, hg1, hg2⟩ : UpdD U.heap.size (v 54) w1 := hd 7 _ _ _ rfl rfl rfl rfl
      clear hd
      rw [g0, g4]
      have con := do_two (TU.out.below h1) (upd_at (p := fun _ => True) hg1 hg2 trivial trivial) san_inv2 (by decide) ⟨rfl, Nat.zero_le _, by decide, Nat.zero_le _, by decide⟩ (HKU.out.below h1) san_upd_s san_upd.2 rfl
      clear g0 g4 hg1 hg2 h1 hp
      go_wp2_with fail
      refine con.mono ?_
      rintro e w2 ⟨b1, d1, b2, d2, b3, d3, rfl, bb, _, rr⟩
      have B2 := hid bb
      have R2 := hid (show DidNone (.tuple #[.agg #[.slice b1 2 d1, .slice b2 2 d2], .agg #[.int .i64 0, .slice b3 0 d3, .int .i64 1]]) from ⟨b1, d1, b2, d2, b3, d3, rfl⟩)
      clear con bb rr
      go_wp2_with fail
      first | exact ⟨B2.out, R2.out⟩ | exact ⟨R2.out, B2.out⟩
    apply growr_cons rfl
    · intro v w1 h1 hd
      obtain ⟨b1, d1, b2, d2, b3, d3, g5⟩ : DidNone (v 55) := hd 8 _ _ _ rfl rfl rfl rfl
      clear hd
      rw [g5]
      have R2 := hid (show DidNone (.tuple #[.agg #[.slice b1 2 d1, .slice b2 2 d2], .agg #[.int .i64 0, .slice b3 0 d3, .int .i64 1]]) from ⟨b1, d1, b2, d2, b3, d3, rfl⟩)
      clear g5 h1
      go_wp2_with fail
      first | exact ⟨Below.refl _ _, R2.out⟩ | exact ⟨R2.out, Below.refl _ _⟩
    apply growr_cons rfl
    · intro v w1 h1 hd
      obtain ⟨b1, d1, b2, d2, b3, d3, g5⟩ : DidNone (v 46) := hd 9 _ _ _ rfl rfl rfl rfl
      clear hd
      rw [g5]
      have R2 := hid (show StVal (.agg #[.slice b1 2 d1, .slice b2 2 d2]) from ⟨b1, d1, b2, d2, rfl⟩)
      clear g5 h1
      go_wp2_with fail
      first | exact ⟨Below.refl _ _, R2.out⟩ | exact ⟨R2.out, Below.refl _ _⟩
    apply growr_cons rfl
    · intro v w1 h1 hd
      obtain ⟨b1, d1, b2, d2, b3, d3, g5⟩ : DidNone (v 46) := hd 9 _ _ _ rfl rfl rfl rfl
      clear hd
      rw [g5]
      have R2 := hid (show AnsNone (.agg #[.int .i64 0, .slice b3 0 d3, .int .i64 1]) from ⟨b3, d3, rfl⟩)
      clear g5 h1
      go_wp2_with fail
      first | exact ⟨Below.refl _ _, R2.out⟩ | exact ⟨R2.out, Below.refl _ _⟩
    apply growr_cons rfl
    · intro v w1 h1 hd
      clear hd
      have HSW := hid h1.size
      clear h1
      go_wp2_with fail
      have hb3 : Below w1.heap.size w1 (w1.alloc (.cells #[.slice none 0 0, .slice none 0 0] 27)) := (b0R).alloc (Nat.le_refl _) _
      have hs : SBox (w1.alloc (.cells #[.slice none 0 0, .slice none 0 0] 27)) w1.heap.size := ⟨_, _, _, _, _, _, heap_alloc_new _ _, by decide, by decide⟩
      first | exact ⟨hb3, _, rfl, HSW.out, hs⟩ | exact ⟨⟨_, rfl, HSW.out, hs⟩, hb3⟩ | exact ⟨hb3, HSW.out, hs⟩
    apply growr_cons rfl
    · intro v w1 h1 hd
      clear hd
      have HSW := hid h1.size
      clear h1
      go_wp2_with fail
      have hb3 : Below w1.heap.size w1 (w1.alloc (.cells #[.int .i64 0, .slice none 0 0, .int .i64 0] 43)) := (b0R).alloc (Nat.le_refl _) _
      have hn : (w1.alloc (.cells #[.int .i64 0, .slice none 0 0, .int .i64 0] 43)).heap[w1.heap.size]? = some (.cells #[.int .i64 0, .slice none 0 0, .int .i64 0] 43 (0, 0)) := heap_alloc_new _ _
      first | exact ⟨hb3, _, rfl, HSW.out, hn⟩ | exact ⟨⟨_, rfl, HSW.out, hn⟩, hb3⟩ | exact ⟨hb3, HSW.out, hn⟩
    apply growr_one rfl
    · intro v w1 h1 hp hd
      obtain ⟨q, g1, hq, hs⟩ : PtrS U.heap.size (v 7) w1 := hd 12 _ _ _ rfl rfl rfl rfl
      obtain ⟨b1, d1, b2, d2, g2⟩ : StVal (v 56) := hd 10 _ _ _ rfl rfl rfl rfl
      clear hd
      rw [g1, g2]
      have HS := hid hs
      have HQ := hid hq
      obtain ⟨y1, n1, z1, y2, n2, z2, hz, _, _⟩ := hs
      have m0 := cells_of hz 0
      have m1 := cells_of hz 1
      have f0 := free_of hz 0
      have f1 := free_of hz 1
      simp only [gT, gZ, gS] at m0 m1
      have RR := hid (show RS U.heap.size w1 ((w1.setCell ⟨q, 0, none⟩ (.slice b1 2 d1)).setCell ⟨q, 1, none⟩ (.slice b2 2 d2)) from Or.inr ⟨q, HQ.out, HS.out, ⟨_, _, _, _, _, _, stbox_put hz, by decide, by decide⟩, grown_tra (grown_cell w1 ⟨q, 0, none⟩ _) (grown_cell _ ⟨q, 1, none⟩ _)⟩)
      clear g1 g2 hq hz h1 hp
      go_wp2_with fail
      first | exact RR.out | exact ⟨RR.out, trivial⟩ | exact ⟨trivial, RR.out⟩
    exact growr_nil
   case hend =>
    intro v w13 h1 hdm hd
    obtain ⟨q8, g8, hq8, hz8⟩ : PtrA U.heap.size (v 8) w13 := hd 13 _ _ _ rfl rfl rfl
    obtain ⟨tc, td, g57⟩ : AnsNone (v 57) := hd 11 _ _ _ rfl rfl rfl
    clear hd hdm
    rw [g8, g57]
    have m0 := cells_of hz8 0
    have m1 := cells_of hz8 1
    have m2 := cells_of hz8 2
    have n0 := free_of hz8 0
    have n1 := free_of hz8 1
    have n2 := free_of hz8 2
    simp only [gT, gZ, gS] at m0 m1 m2
    have HZ := hid hz8
    have HB := hid h1
    have HQ := hid hq8
    clear h1 hq8 hz8 g8 g57
    simp only [List.drop_succ_cons, List.drop_zero]
    go_upto_region 6 with (fail)
    generalize hA : World.setCell _ _ _ = Y
    have hY : ((w13.setCell ⟨q8, 0, none⟩ (.int .i64 0)).setCell ⟨q8, 1, none⟩ (.slice tc 0 td)).setCell ⟨q8, 2, none⟩ (.int .i64 1) = Y := hA
    have gY : w13.grownBy Y (some q8) := by
     rw [<- hY]
     exact grown_tra (grown_tra (grown_cell w13 ⟨q8, 0, none⟩ _) (grown_cell _ ⟨q8, 1, none⟩ _)) (grown_cell _ ⟨q8, 2, none⟩ _)
    have hc : Y.heap[q8]? = some (.cells #[.int .i64 0, .slice tc 0 td, .int .i64 1] 43 (0, 0)) := by
     rw [<- hY]
     exact (heap_setCell_same _ _ _ _ _ _ ((heap_setCell_same _ _ _ _ _ _ ((heap_setCell_same _ _ _ _ _ _ HZ.out).trans rfl)).trans rfl)).trans rfl
    have bY : Below U.heap.size U Y := HB.out.grown gY HB.out.size (fun j e => by cases e; exact HQ.out)
    have BF := hid (BWU.out.trans (bY.mono BWU.out.size))
    have ha := (bY.block _ (lt_of_block ABU.out)).trans ABU.out
    have hb := (bY.block _ (lt_of_block BB.out)).trans BB.out
    obtain ⟨i1, j1, k1, p0, p1, p2, p3⟩ := ARU.out.1.below bY
    obtain ⟨i2, j2, k2, r0, r1, r2, r3⟩ := ARU.out.2.below bY
    obtain ⟨i3, j3, k3, s0, s1, s2, s3⟩ := BR.out.below bY
    have e0 := cells_of ha 0
    have e1 := cells_of ha 1
    have e2 := cells_of ha 2
    have f0 := cells_of hb 0
    have f1 := cells_of hb 1
    have f2 := cells_of hb 2
    have o0 := cells_of hc 0
    have o1 := cells_of hc 1
    have o2 := cells_of hc 2
    simp only [gT, gZ, gS] at e0 e1 e2 f0 f1 f2 o0 o1 o2
    have p1' : Y.cell? ⟨i1, j1, none⟩ = some (.int .i64 0) := p1
    have r3' : Y.cell? ⟨i2, j2 + 2, none⟩ = some (.string ⟨#[120]⟩) := r3
    have s1' : Y.cell? ⟨i3, j3, none⟩ = some (.int .i64 0) := s1
    clear hA hY gY bY ha hb hc m0 m1 m2 n0 n1 n2 HZ HB HQ p1 p2 p3 r1 r2 r3 s1 s2 s3
    go_wp2_with fail
    go_ret
    exact ⟨rfl, BF.out⟩
end
end Go.Proofs.YtgemihkcihigpaaGreatDoor
