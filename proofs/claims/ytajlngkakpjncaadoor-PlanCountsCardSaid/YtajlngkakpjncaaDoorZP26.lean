/- plan.names: the column names of a statement. -/
import Derived.Test.YtajlngkakpjncaaDoorZP25
import Derived.Outline
namespace Go.Proofs.YtajlngkakpjncaaDoor
set_option linter.unusedVariables false
set_option linter.unusedSimpArgs false
open Go.RowKit

/-- a statement's value -/
def StmtV (p : Nat → Prop) (w : World) (v : Value) (s : Stmt) : Prop :=
  ∃ a3 c3 a4 c4 a5 c5 a6 c6 a7 c7 a12 c12, v = .agg #[.int .i64 s.kind, .string s.table, .string s.name, .slice a3 s.cols.length c3, .slice a4 s.names.length c4, .slice a5 s.row.length c5, .slice a6 s.sets.length c6, .slice a7 s.wher.length c7,
      .string s.join, .string s.left, .string s.right, .int .i64 s.agg, .slice a12 s.order.length c12, .int .i64 s.mode, .int .i64 s.n] ∧
    SlV colR p w (.slice a3 s.cols.length c3) s.cols ∧ SlV strF p w (.slice a4 s.names.length c4) s.names ∧ (a4 = none → c4 = 0) ∧ SlV valR p w (.slice a5 s.row.length c5) s.row ∧ SlV setR p w (.slice a6 s.sets.length c6) s.sets ∧
    SlV condR p w (.slice a7 s.wher.length c7) s.wher ∧ SlV strF p w (.slice a12 s.order.length c12) s.order ∧ (a12 = none → c12 = 0)
theorem StmtV.keep {p : Nat → Prop} {w w' : World} {v : Value} {s : Stmt} (h : StmtV p w v s) (hk : ∀ k, p k → k < w.heap.size → w'.heap[k]? = w.heap[k]?) : StmtV p w' v s := by
  obtain ⟨a3, c3, a4, c4, a5, c5, a6, c6, a7, c7, a12, c12, h0, h1, h2, h3, h4, h5, h6, h7, h8⟩ := h
  exact ⟨a3, c3, a4, c4, a5, c5, a6, c6, a7, c7, a12, c12, h0, h1.keep hk, h2.keep hk, h3, h4.keep hk, h5.keep hk, h6.keep hk, h7.keep hk, h8⟩
theorem StmtV.below {p : Nat → Prop} {w w' : World} {v : Value} {s : Stmt} (h : StmtV p w v s) (hb : Below w.heap.size w w') : StmtV p w' v s := h.keep fun k _ hk => hb.block k hk
/-- no list of a statement is long -/
def Stmt.short (s : Stmt) : Prop := s.names.length ≤ 1000000 ∧ s.order.length ≤ 1000000 ∧ s.sets.length ≤ 1000000 ∧ s.wher.length ≤ 1000000

theorem setNames_take (L : List SetV) (k : Nat) (h : k < L.length) : setNames (L.take (k + 1)) = setNames (L.take k) ++ (if L[k].col2.toList.isEmpty then [L[k].col] else [L[k].col, L[k].col2]) := by
  unfold setNames
  rw [List.take_add_one, List.getElem?_eq_getElem h, List.flatMap_append]
  simp
theorem setNames_len : ∀ L : List SetV, (setNames L).length ≤ 2 * L.length
  | [] => Nat.le_refl _
  | x :: L => by
    have h := setNames_len L
    unfold setNames at *
    rw [List.flatMap_cons, List.length_append, List.length_cons]
    have h2 : (if x.col2.toList.isEmpty = true then [x.col] else [x.col, x.col2]).length ≤ 2 := by split <;> simp
    omega
theorem colNames_take (L : List Cond) (k : Nat) (h : k < L.length) : (L.take (k + 1)).map (·.col) = (L.take k).map (·.col) ++ [L[k].col] := by
  rw [List.take_add_one, List.getElem?_eq_getElem h, List.map_append]
  rfl
theorem one_str (w : World) (s : ByteArray) : ∀ j u, ([.string s] : List Value)[j]? = some u → (w.alloc (.cells #[.string s] 9)).cell? ((⟨w.heap.size, 0, none⟩ : Addr).add j) = some u := by
  intro j u hj
  rw [addr_add, cells_of (heap_alloc_new w _)]
  simpa using hj

def headNames (s : Stmt) : List ByteArray := if s.kind = 5 then setNames s.sets else if s.kind = 7 then s.names ++ s.order else []
theorem headNames5 {s : Stmt} (h : s.kind = 5) : headNames s = setNames s.sets := by unfold headNames; rw [if_pos h]
theorem headNames7 {s : Stmt} (h : s.kind = 7) : headNames s = s.names ++ s.order := by unfold headNames; rw [if_neg (by omega), if_pos h]
theorem headNames0 {s : Stmt} (h : s.kind ≠ 5) (h2 : s.kind ≠ 7) : headNames s = [] := by unfold headNames; rw [if_neg h, if_neg h2]
theorem headNames_len (s : Stmt) (hs : s.short) : (headNames s).length ≤ 2000000 := by
  obtain ⟨h1, h2, h3, h4⟩ := hs
  unfold headNames
  split
  · have := setNames_len s.sets; omega
  · split
    · rw [List.length_append]; omega
    · simp
/-- where the names have come to -/
def NamesAt (W1 : World) (l : List ByteArray) (v : Value) (wx : World) : Prop := wx.ownsRow W1.heap.size 9 1 v l.length (l.flatMap strEnc) ∧ Below W1.heap.size W1 wx

theorem NamesAt.push {W1 : World} {l : List ByteArray} {v v' : Value} {wx w1 : World} {o : Obj} {x : ByteArray} (h : NamesAt W1 l v wx) (ho : w1.ownsRow W1.heap.size 9 1 v' (l.length + 1) (l.flatMap strEnc ++ [.string x])) (hg : (wx.alloc o).grownBy w1 v.ownBlock) :
    NamesAt W1 (l ++ [x]) v' w1 :=
  ⟨by simpa [strEnc] using ho, (h.2.alloc h.2.size o).grown hg (by have := h.2.size; simp; omega) (fun k hk => (h.1.lt k hk).1)⟩

set_option maxRecDepth 100000 in
set_option maxHeartbeats 4000000 in
theorem names_any {p : Nat → Prop} {sv : Value} {s : Stmt} {w : World} (hS : StmtV p w sv s) (hs : s.short) :
    Calls Tryd.prog 29 #[sv] w fun e w' => (∃ v, e = .returned v ∧ w'.ownsRow w.heap.size 9 1 v (namesOf s).length ((namesOf s).flatMap strEnc)) ∧ Below w.heap.size w w' := by
  obtain ⟨i0, hi, hz0, hz1, hz2⟩ := info_parts info_str
  obtain ⟨a3, c3, a4, c4, a5, c5, a6, c6, a7, c7, a12, c12, rfl, _, h4, n4, _, h6, h7, h12, n12⟩ := hS
  obtain ⟨l4, l12, l6, l7⟩ := hs
  obtain ⟨_, _, _, h4⟩ := h4.row
  obtain ⟨_, _, _, h6⟩ := h6.row
  obtain ⟨_, _, _, h7⟩ := h7.row
  obtain ⟨_, _, _, h12⟩ := h12.row
  obtain ⟨W1, hW1⟩ : ∃ W1, w.alloc (.cells #[.int .i64 s.kind, .string s.table, .string s.name, .slice a3 s.cols.length c3, .slice a4 s.names.length c4, .slice a5 s.row.length c5, .slice a6 s.sets.length c6, .slice a7 s.wher.length c7,
      .string s.join, .string s.left, .string s.right, .int .i64 s.agg, .slice a12 s.order.length c12, .int .i64 s.mode, .int .i64 s.n] 50) = W1 := ⟨_, rfl⟩
  have hs1 : W1.heap.size = w.heap.size + 1 := by rw [← hW1]; simp
  have hb1 : Below w.heap.size w W1 := by rw [← hW1]; exact (Below.refl _ _).alloc (Nat.le_refl _) _
  have hk1 : W1.heap[w.heap.size]? = some (.cells #[.int .i64 s.kind, .string s.table, .string s.name, .slice a3 s.cols.length c3, .slice a4 s.names.length c4, .slice a5 s.row.length c5, .slice a6 s.sets.length c6, .slice a7 s.wher.length c7, .string s.join, .string s.left, .string s.right, .int .i64 s.agg, .slice a12 s.order.length c12, .int .i64 s.mode, .int .i64 s.n] 50 (0, 0)) := by rw [← hW1]; exact heap_alloc_new w _
  have K1 := Lib.hid hk1
  have B1 := Lib.hid hb1
  have S1 := Lib.hid hs1
  have R4 := Lib.hid (h4.below hb1)
  have R6 := Lib.hid (h6.below hb1)
  have R7 := Lib.hid (h7.below hb1)
  have R12 := Lib.hid (h12.below hb1)
  have d0 := cells_of hk1 0
  have d4 := cells_of hk1 4
  have d6 := cells_of hk1 6
  have d12 := cells_of hk1 12
  simp only [List.getElem?_toArray, List.getElem?_cons_zero, List.getElem?_cons_succ] at d0 d4 d6 d12
  have HW1 := Lib.hid hW1
  clear h4 h6 h7 h12 hb1 hs1 hk1 hW1
  go_enter Tryd.func29, Tryd.ntmps29
  go_upto_region 2 with (fail)
  rw [HW1.out]
  go_upto_block 0 with (fail)
  go_cut [3] (fun s3 wx => NamesAt W1 (headNames s) s3 wx)
  case first =>
    by_cases hk5 : s.kind = 5
    · have e5 : (s.kind == 5) = true := by simp [hk5]
      have HH := Lib.hid (headNames5 hk5)
      clear hk5
      go_wp2_with fail
      go_loopw [3, 15] (fun u i wr => ∃ (k : Nat) (v : Value), k ≤ s.sets.length ∧ i = .int .i64 k ∧ v = u ∧ NamesAt W1 (setNames (s.sets.take k)) v wr) (fun _ i _ => s.sets.length - (intOf i).toNat)
      case atStart => exact ⟨0, _, Nat.zero_le _, rfl, rfl, World.ownsRow_nil _ _ _ _, Below.refl _ _⟩
      case round =>
        obtain ⟨k, v, hk, rfl, rfl, hN⟩ := hrel
        have N0 := Lib.hid hN
        have hln := setNames_len (s.sets.take k)
        have hlk : (s.sets.take k).length ≤ k := List.length_take_le _ _
        by_cases hlt : k < s.sets.length
        · obtain ⟨b, off, rfl, _, hbl⟩ := R6.out.addr (by intro e; rw [e] at hlt; cases hlt)
          obtain ⟨c0, c1, c2, c3', c4'⟩ := (R6.out.below hN.2).set k hlt
          have hsz := hN.2.size
          have HT := Lib.hid (setNames_take s.sets k hlt)
          obtain ⟨l, hl⟩ : ∃ l, setNames (s.sets.take k) = l := ⟨_, rfl⟩
          rw [hl] at N0 hln HT
          clear hN hl
          go_upto_region 7 with (fail)
          obtain ⟨W2, hW2⟩ : ∃ W2, wr.alloc (.cells #[.string s.sets[k].col, .string s.sets[k].col2, .int .i64 s.sets[k].val.kind, .int .i64 s.sets[k].val.n, .string s.sets[k].val.s] 107) = W2 := ⟨_, rfl⟩
          have hb2 : W2.heap[wr.heap.size]? = some (.cells #[.string s.sets[k].col, .string s.sets[k].col2, .int .i64 s.sets[k].val.kind, .int .i64 s.sets[k].val.n, .string s.sets[k].val.s] 107 (0, 0)) := by rw [← hW2]; exact heap_alloc_new _ _
          have N2 : NamesAt W1 l v W2 := by rw [← hW2]; exact ⟨N0.out.1.alloc _, N0.out.2.alloc hsz _⟩
          have hs2 : W2.heap.size = wr.heap.size + 1 := by rw [← hW2]; simp
          rw [hW2]
          have N2' := Lib.hid N2
          have S2 := Lib.hid hs2
          have HB2 := Lib.hid hb2
          have d0 := cells_of hb2 0
          simp only [List.getElem?_toArray, List.getElem?_cons_zero, List.getElem?_cons_succ] at d0
          clear N0 hW2 hs2 N2 hb2 c0 c1 c2 c3' c4'
          cases hE : s.sets[k].col2.toList.isEmpty
          · rw [hE] at HT
            have hE2 : (!s.sets[k].col2.toList.isEmpty) = true := by rw [hE]; rfl
            go_wp2_with (first | (at_builtin; refine wpList_append_own _ rfl (.tmp 19) (.tmp 22) 45 rfl W1.heap.size 9 i0 _ 1 16 Tryd.underlying45 hi hz0 hz1 hz2 rfl (by decide) _ l.length _ rfl (N2'.out.1.alloc _) ⟨W2.heap.size, 0, none⟩ 1 1 [.string s.sets[k].col] rfl rfl (one_str _ _) (str_cells _) (by unfold maxLen; omega) (by omega) (by have := N2'.out.2.size; simp; omega) ?_; intro v1 w1 o1 g1 hx1; clear hx1; have d1 := cells_of ((g1.block wr.heap.size (by have := S2.out; simp; omega) (row_not HB2.out N2'.out.1 (by decide))).trans ((heap_alloc_old _ _ (lt_of_block HB2.out)).trans HB2.out)) 1; simp only [List.getElem?_toArray, List.getElem?_cons_zero, List.getElem?_cons_succ] at d1; have N3 := Lib.hid (N2'.out.push o1 g1); clear o1 g1) | (at_builtin; refine wpList_append_own _ rfl (.tmp 27) (.tmp 30) 45 rfl W1.heap.size 9 i0 _ 1 16 Tryd.underlying45 hi hz0 hz1 hz2 rfl (by decide) _ (l ++ [s.sets[k].col]).length _ rfl (N3.out.1.alloc _) ⟨w1.heap.size, 0, none⟩ 1 1 [.string s.sets[k].col2] rfl rfl (one_str _ _) (str_cells _) (by unfold maxLen; simp; omega) (by simp; omega) (by have := N3.out.2.size; simp; omega) ?_; intro v2 w2 o2 g2 hx2; clear hx2; have N4 := Lib.hid (N3.out.push o2 g2); clear o2 g2))
            go_roundw
            case rel => exact ⟨k + 1, _, by omega, by go_num, rfl, by rw [HT.out]; simpa using N4.out⟩
            case measure => simp [intOf]; omega
          · rw [hE] at HT
            have hE2 : (!s.sets[k].col2.toList.isEmpty) = false := by rw [hE]; rfl
            go_wp2_with (at_builtin; refine wpList_append_own _ rfl _ _ 45 rfl W1.heap.size 9 i0 _ 1 16 Tryd.underlying45 hi hz0 hz1 hz2 rfl (by decide) _ l.length _ rfl (N2'.out.1.alloc _) ⟨W2.heap.size, 0, none⟩ 1 1 [.string s.sets[k].col] rfl rfl (one_str _ _) (str_cells _) (by unfold maxLen; omega) (by omega) (by have := N2'.out.2.size; simp; omega) ?_; intro v1 w1 o1 g1 hx1; clear hx1; have d1 := cells_of ((g1.block wr.heap.size (by have := S2.out; simp; omega) (row_not HB2.out N2'.out.1 (by decide))).trans ((heap_alloc_old _ _ (lt_of_block HB2.out)).trans HB2.out)) 1; simp only [List.getElem?_toArray, List.getElem?_cons_zero, List.getElem?_cons_succ] at d1; have N3 := Lib.hid (N2'.out.push o1 g1); clear o1 g1)
            go_roundw
            case rel => exact ⟨k + 1, _, by omega, by go_num, rfl, by rw [HT.out]; simpa using N3.out⟩
            case measure => simp [intOf]; omega
        · have hkl : k = s.sets.length := by omega
          subst hkl
          rw [List.take_length] at hN
          have N1 := Lib.hid hN
          clear hN N0
          go_wp2_with fail
          go_meet
          rw [HH.out]
          exact N1.out
    · have e5 : (s.kind == 5) = false := by simp [hk5]
      by_cases hk7 : s.kind = 7
      · have e7 : (s.kind == 7) = true := by simp [hk7]
        have HH := Lib.hid (headNames7 hk7)
        clear hk7 hk5
        go_wp2_with fail
        refine (concat_any (p := p) (q := p) W1.heap.size _ s.names s.order a4 a12 c4 c12 (by go_cell) (by go_cell) (R4.out.below ((Below.refl _ _).alloc (Nat.le_refl _) _)) (R12.out.below ((Below.refl _ _).alloc (Nat.le_refl _) _)) n4 n12 (by omega) (by omega)).mono ?_
        rintro e w2 ⟨⟨v, rfl, o2⟩, b2⟩
        have C2 := Lib.hid (((Below.refl W1.heap.size W1).alloc (Nat.le_refl _) _).trans (b2.mono (by simp)))
        have O2 := Lib.hid o2
        clear o2 b2
        go_wp2_with fail
        go_meet
        rw [HH.out]
        exact ⟨owns_base O2.out (by simp), C2.out⟩
      · have e7 : (s.kind == 7) = false := by simp [hk7]
        have HH := Lib.hid (headNames0 hk5 hk7)
        clear hk7 hk5
        go_wp2_with fail
        go_meet
        rw [HH.out]
        exact ⟨World.ownsRow_nil _ _ _ _, Below.refl _ _⟩
  case rest =>
    have N9 := Lib.hid hcut
    have hHL := headNames_len s ⟨l4, l12, l6, l7⟩
    have d7 := cells_of ((hcut.2.block w.heap.size (by rw [S1.out]; omega)).trans K1.out) 7
    simp only [List.getElem?_toArray, List.getElem?_cons_zero, List.getElem?_cons_succ] at d7
    clear hcut d0 d4 d6 d12
    go_wp2_with fail
    go_loopw [3, 44] (fun u i wr => ∃ (k : Nat) (v : Value), k ≤ s.wher.length ∧ i = .int .i64 k ∧ v = u ∧ NamesAt W1 (headNames s ++ (s.wher.take k).map (·.col)) v wr) (fun _ i _ => s.wher.length - (intOf i).toNat)
    case atStart => exact ⟨0, _, Nat.zero_le _, rfl, rfl, by simpa using N9.out⟩
    case round =>
      obtain ⟨k, v, hk, rfl, rfl, hN⟩ := hrel
      have N0 := Lib.hid hN
      have hlk : (s.wher.take k).length ≤ k := List.length_take_le _ _
      have hln : (headNames s ++ (s.wher.take k).map (·.col)).length ≤ 2000000 + k := by rw [List.length_append, List.length_map]; omega
      by_cases hlt : k < s.wher.length
      · obtain ⟨b, off, rfl, _, hbl⟩ := R7.out.addr (by intro e; rw [e] at hlt; cases hlt)
        obtain ⟨c0, c1, c2, c3', c4'⟩ := (R7.out.below hN.2).cond k hlt
        have hsz := hN.2.size
        have HT := Lib.hid (show headNames s ++ (s.wher.take (k + 1)).map (·.col) = (headNames s ++ (s.wher.take k).map (·.col)) ++ [s.wher[k].col] by rw [colNames_take s.wher k hlt, List.append_assoc])
        obtain ⟨l, hl⟩ : ∃ l, headNames s ++ (s.wher.take k).map (·.col) = l := ⟨_, rfl⟩
        rw [hl] at N0 hln HT
        clear hN hl d7
        go_upto_region 16 with (fail)
        obtain ⟨W2, hW2⟩ : ∃ W2, wr.alloc (.cells #[.string s.wher[k].col, .int .i64 s.wher[k].op, .int .i64 s.wher[k].val.kind, .int .i64 s.wher[k].val.n, .string s.wher[k].val.s] 44) = W2 := ⟨_, rfl⟩
        have hb2 : W2.heap[wr.heap.size]? = some (.cells #[.string s.wher[k].col, .int .i64 s.wher[k].op, .int .i64 s.wher[k].val.kind, .int .i64 s.wher[k].val.n, .string s.wher[k].val.s] 44 (0, 0)) := by rw [← hW2]; exact heap_alloc_new _ _
        have N2 : NamesAt W1 l v W2 := by rw [← hW2]; exact ⟨N0.out.1.alloc _, N0.out.2.alloc hsz _⟩
        rw [hW2]
        have N2' := Lib.hid N2
        have d0 := cells_of hb2 0
        simp only [List.getElem?_toArray, List.getElem?_cons_zero, List.getElem?_cons_succ] at d0
        clear N0 hW2 N2 hb2 c0 c1 c2 c3' c4'
        go_wp2_with (at_builtin; refine wpList_append_own _ rfl _ _ 45 rfl W1.heap.size 9 i0 _ 1 16 Tryd.underlying45 hi hz0 hz1 hz2 rfl (by decide) _ l.length _ rfl (N2'.out.1.alloc _) ⟨W2.heap.size, 0, none⟩ 1 1 [.string s.wher[k].col] rfl rfl (one_str _ _) (str_cells _) (by unfold maxLen; omega) (by omega) (by have := N2'.out.2.size; simp; omega) ?_; intro v1 w1 o1 g1 hx1; clear hx1; have N3 := Lib.hid (N2'.out.push o1 g1); clear o1 g1)
        go_roundw
        case rel => exact ⟨k + 1, _, by omega, by go_num, rfl, by rw [HT.out]; exact N3.out⟩
        case measure => simp [intOf]; omega
      · have hkl : k = s.wher.length := by omega
        subst hkl
        rw [List.take_length] at hN
        have N1 := Lib.hid hN
        clear hN N0
        go_wp2_with fail
        go_ret
        exact ⟨⟨_, rfl, owns_base N1.out.1 (by rw [S1.out]; omega)⟩, B1.out.trans (N1.out.2.mono B1.out.size)⟩
end Go.Proofs.YtajlngkakpjncaaDoor
