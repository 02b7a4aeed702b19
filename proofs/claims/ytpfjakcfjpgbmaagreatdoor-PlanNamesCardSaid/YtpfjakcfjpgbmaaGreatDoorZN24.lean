/- plan.index: the access path of an index. -/
import Derived.Test.YtpfjakcfjpgbmaaGreatDoorZN22
import Derived.Test.YtpfjakcfjpgbmaaGreatDoorZN23
import Derived.Deep.DeepCutAuto
import Derived.Deep.CutBlock
namespace Go.Proofs.YtpfjakcfjpgbmaaGreatDoor
set_option linter.unusedVariables false
set_option linter.unusedSimpArgs false
open Go.RowKit

theorem cells_of {w : World} {b : Nat} {cs : Array Value} {T : TypeId} {fz : Nat × Nat} (h : w.heap[b]? = some (.cells cs T fz)) (j : Nat) : w.cell? ⟨b, j, none⟩ = cs[j]? := by
  simp [World.cell?, h]
theorem free_of {w : World} {b : Nat} {cs : Array Value} {T : TypeId} (h : w.heap[b]? = some (.cells cs T (0, 0))) (j : Nat) : w.frozen? ⟨b, j, none⟩ = false := by
  simp [World.frozen?, h]
/-- the four cells of a boxed table and the two of boxed statistics -/
def Boxes (B : Nat) (T : Tab) (S : Sta) (ac : Option Addr) (cc : Nat) (ai : Option Addr) (ci : Nat) (av : Option Addr) (cv : Nat) (w : World) : Prop :=
  w.heap[B]? = some (.cells #[.int .i64 T.id, .string T.name, .slice ac T.cols.length cc, .slice ai T.idx.length ci] 43 (0, 0)) ∧
  w.heap[B + 1]? = some (.cells #[.int .i64 S.rows, .slice av S.vals.length cv] 54 (0, 0))
theorem Boxes.below {B : Nat} {T : Tab} {S : Sta} {ac ai av : Option Addr} {cc ci cv : Nat} {w w' : World} (h : Boxes B T S ac cc ai ci av cv w) (hb : Below w.heap.size w w') : Boxes B T S ac cc ai ci av cv w' :=
  ⟨(hb.block _ (lt_of_block h.1)).trans h.1, (hb.block _ (lt_of_block h.2)).trans h.2⟩
theorem Boxes.cells {B : Nat} {T : Tab} {S : Sta} {ac ai av : Option Addr} {cc ci cv : Nat} {w : World} (h : Boxes B T S ac cc ai ci av cv w) :
    w.cell? ⟨B, 2, none⟩ = some (.slice ac T.cols.length cc) ∧ w.cell? ⟨B, 3, none⟩ = some (.slice ai T.idx.length ci) ∧ w.cell? ⟨B + 1, 0, none⟩ = some (.int .i64 S.rows) ∧ w.cell? ⟨B + 1, 1, none⟩ = some (.slice av S.vals.length cv) :=
  ⟨cells_of h.1 2, cells_of h.1 3, cells_of h.2 0, cells_of h.2 1⟩
theorem firstV_none : firstV none = .tuple #[.agg #[.int .i64 0, .int .i64 0, .string ⟨#[]⟩], .bool false] := rfl
theorem firstV_some (v : Val) : firstV (some v) = .tuple #[.agg #[.int .i64 v.kind, .int .i64 v.n, .string v.s], .bool true] := rfl
theorem keyV_len (v : Val) : (keyV v).length ≤ 83 := by
  unfold keyV
  split
  · exact keyOne_len v (by assumption)
  · simp
theorem mk_size (l : List UInt8) : (⟨l.toArray⟩ : ByteArray).size = l.length := List.size_toArray

theorem row_one {p : Nat → Prop} (w : World) (e : TypeId) (x : Int) (hp : p w.heap.size) : RowAt intR p (w.alloc (.cells #[.int .i64 x] e)) (some ⟨w.heap.size, 0, none⟩) [x] :=
  Or.inr ⟨_, _, rfl, hp, by simp, fun t ht => ⟨[.int .i64 x], fun j hj => by
    have h0 : t = 0 := by simpa using ht
    have h1 : j = 0 := by simpa [intR] using hj
    subst h0 h1
    simp [cells_of (heap_alloc_new w _), intR], by
    have h0 : t = 0 := by simpa using ht
    subst h0
    rfl⟩⟩
theorem row_two {p : Nat → Prop} (w : World) (e : TypeId) (x y : Int) (hp : p w.heap.size) : RowAt intR p (w.alloc (.cells #[.int .i64 x, .int .i64 y] e)) (some ⟨w.heap.size, 0, none⟩) [x, y] :=
  Or.inr ⟨_, _, rfl, hp, by simp, fun t ht => ⟨[.int .i64 ([x, y][t])], fun j hj => by
    have h0 : t = 0 ∨ t = 1 := by simp at ht; omega
    have h1 : j = 0 := by simpa [intR] using hj
    subst h1
    rcases h0 with rfl | rfl <;> simp [cells_of (heap_alloc_new w _), intR], rfl⟩⟩
theorem row_two' {p : Nat → Prop} (w : World) (e : TypeId) (x y : Int) (b : Nat) (hb : b = w.heap.size) (hp : p w.heap.size) : RowAt intR p (w.alloc (.cells #[.int .i64 x, .int .i64 y] e)) (some ⟨b, 0, none⟩) [x, y] := by
  subst hb
  exact row_two w e x y hp
theorem drop_cons {α : Type} (X : List α) (k : Nat) (h : k < X.length) : X.drop k = X[k] :: X.drop (k + 1) := List.drop_eq_getElem_cons h
theorem idxGo_nil (T : Tab) (S : Sta) (W : List Cond) (X : List Int) (p : List UInt8) (r : Int) : idxGo T S W (X.drop X.length) p r = ⟨p, [], [], r⟩ := by rw [List.drop_length]; rfl
theorem idxGo_out (T : Tab) (S : Sta) (W : List Cond) (X : List Int) (k : Nat) (h : k < X.length) (p : List UInt8) (r : Int) (ho : X[k] < 0 ∨ (T.cols.length : Int) ≤ X[k]) : idxGo T S W (X.drop k) p r = ⟨p, [], [], r⟩ := by
  rw [drop_cons X k h, idxGo, if_pos ho]
theorem nameAt_of (T : Tab) (j : Nat) (h : j < T.cols.length) : nameAt T j = T.cols[j].1 := by
  unfold nameAt
  rw [Int.toNat_natCast, List.getD_eq_getElem?_getD, List.getElem?_eq_getElem h]
  rfl
theorem idxGo_eq (T : Tab) (S : Sta) (W : List Cond) (X : List Int) (k : Nat) (h : k < X.length) (p : List UInt8) (r : Int) (j : Nat) (hj : j < T.cols.length) (hx : X[k] = j) (v : Val) (hv : condF W T.cols[j].1 [1] = some v) :
    idxGo T S W (X.drop k) p r = idxGo T S W (X.drop (k + 1)) (p ++ keyV v) (leftOf r S j) := by
  rw [drop_cons X k h, idxGo, if_neg (by rw [hx]; omega), hx, nameAt_of T j hj, hv]
theorem idxGo_end (T : Tab) (S : Sta) (W : List Cond) (X : List Int) (k : Nat) (h : k < X.length) (p : List UInt8) (r : Int) (j : Nat) (hj : j < T.cols.length) (hx : X[k] = j) (hv : condF W T.cols[j].1 [1] = none) :
    idxGo T S W (X.drop k) p r = idxEnd W T.cols[j].1 p r := by
  rw [drop_cons X k h, idxGo, if_neg (by rw [hx]; omega), hx, nameAt_of T j hj, hv]
theorem idxEnd_nn {W : List Cond} {nm : ByteArray} (p : List UInt8) (r : Int) (h1 : condF W nm [5, 6] = none) (h2 : condF W nm [3, 4] = none) : idxEnd W nm p r = ⟨p, [], [], r⟩ := by
  simp [idxEnd, h1, h2]
theorem idxEnd_sn {W : List Cond} {nm : ByteArray} (p : List UInt8) (r : Int) {v : Val} (h1 : condF W nm [5, 6] = some v) (h2 : condF W nm [3, 4] = none) : idxEnd W nm p r = ⟨p, keyV v, [], (r + 2) / 3⟩ := by
  simp [idxEnd, h1, h2]
theorem idxEnd_ns {W : List Cond} {nm : ByteArray} (p : List UInt8) (r : Int) {u : Val} (h1 : condF W nm [5, 6] = none) (h2 : condF W nm [3, 4] = some u) : idxEnd W nm p r = ⟨p, [], keyV u, (r + 2) / 3⟩ := by
  simp [idxEnd, h1, h2]
theorem idxEnd_ss {W : List Cond} {nm : ByteArray} (p : List UInt8) (r : Int) {v u : Val} (h1 : condF W nm [5, 6] = some v) (h2 : condF W nm [3, 4] = some u) : idxEnd W nm p r = ⟨p, keyV v, keyV u, ((r + 2) / 3 + 2) / 3⟩ := by
  simp [idxEnd, h1, h2]
theorem cut_mk (s : ByteArray) : mkStr (cut16 s.data.toList) = s.extract 0 (min s.size 16) := by
  apply ByteArray.ext
  rw [ByteArray.data_extract]
  apply Array.toList_inj.1
  rw [Array.toList_extract]
  show s.data.toList.take 16 = _
  rw [List.extract_eq_take_drop]
  simp only [List.drop_zero, Nat.sub_zero]
  have e : s.data.toList.length = s.size := by rw [Array.length_toList]; rfl
  rcases Nat.le_total s.size 16 with h | h
  · rw [Nat.min_eq_left h, List.take_of_length_le (by omega), List.take_of_length_le (by omega)]
  · rw [Nat.min_eq_right h]
def IdxRel (G : Idx) (W1 : World) (s9 s10 s11 s12 : Value) (wx : World) : Prop :=
  ∃ P F H : ByteArray, s9 = .int .i64 G.rest ∧ s10 = .string P ∧ s11 = .string F ∧ s12 = .string H ∧ P.data.toList = G.pre ∧ F.data.toList = G.lo ∧ H.data.toList = G.hi ∧
    P.size ≤ 11681211533492224 ∧ F.size ≤ 83 ∧ H.size ≤ 83 ∧ Below W1.heap.size W1 wx
theorem IdxRel.mk (G : Idx) (W1 : World) (r : Int) (P F H : ByteArray) (wx : World) (hG : G = ⟨P.data.toList, F.data.toList, H.data.toList, r⟩) (hP : P.size ≤ 11681211533492224) (hF : F.size ≤ 83) (hH : H.size ≤ 83) (hb : Below W1.heap.size W1 wx) :
    IdxRel G W1 (.int .i64 r) (.string P) (.string F) (.string H) wx := by
  subst hG
  exact ⟨P, F, H, rfl, rfl, rfl, rfl, rfl, rfl, rfl, hP, hF, hH, hb⟩

set_option maxRecDepth 100000 in
set_option maxHeartbeats 8000000 in
theorem index_any {p q r0 : Nat → Prop} {tv sv : Value} {T : Tab} {S : Sta} {W : List Cond} {aw : Option Addr} {cw : Nat} {w : World} (hT : TabV p w tv T) (hS : StaV q w sv S) (hW : SlV condR r0 w (.slice aw W.length cw) W)
    (hf : ∀ c ∈ W, c.val.fine) (he : Env w) (n : Nat) (hn : n < T.idx.length) :
    Calls Tryz.prog 157 #[tv, sv, .slice aw W.length cw, .int .i64 n] w fun e w' => e = .returned (byIdx T S W n).enc ∧ Below w.heap.size w w' := by
  obtain ⟨ac, cc, ai, ci, rfl, hc, hi⟩ := hT
  obtain ⟨av, cv, rfl, hv⟩ := hS
  obtain ⟨_, _, hWl, hW2⟩ := hW.row
  obtain ⟨_, _, hTl, hc2⟩ := hc.row
  obtain ⟨_, _, hIl, hi2⟩ := hi.row
  obtain ⟨bi, oi, rfl, _, hbi⟩ := hi2.addr (by intro e; rw [e] at hn; cases hn)
  obtain ⟨ax, cx, x0, x1, x2, hx⟩ := hi2.ix n hn
  obtain ⟨_, _, hXl, hx2⟩ := hx.row
  have HW := Lib.hid hW2
  have HC := Lib.hid hc2
  have HV := Lib.hid hv
  have HX := Lib.hid hx2
  have HF := Lib.hid hf
  have HE := Lib.hid he
  have hD : (T.idx.getD n default) = T.idx[n] := by rw [List.getD_eq_getElem?_getD, List.getElem?_eq_getElem hn]; rfl
  have HD := Lib.hid hD
  have hb3 : Below w.heap.size w (((w.alloc (.cells #[.int .i64 T.id, .string T.name, .slice ac T.cols.length cc, .slice (some ⟨bi, oi, none⟩) T.idx.length ci] 43)).alloc (.cells #[.int .i64 S.rows, .slice av S.vals.length cv] 54)).alloc
    (.cells #[.int .i64 0, .string ⟨#[]⟩, .string ⟨#[]⟩, .int .i64 0] 47)) := (((Below.refl _ _).alloc (Nat.le_refl _) _).alloc (by simp) _).alloc (by simp; omega) _
  have hsta : StaV q w (.agg #[.int .i64 S.rows, .slice av S.vals.length cv]) S := ⟨av, cv, rfl, hv⟩
  have HS := Lib.hid (hsta.below hb3)
  have HS0 := Lib.hid hsta
  have B3 := Lib.hid hb3
  clear hW2 hc2 hc hv hx hx2 hf he hi hi2 hD x0 x2 hsta hb3 hW
  go_enter Tryz.func157, Tryz.ntmps157
  go_wp2_with fail
  refine (rows_any HS.out).mono ?_
  rintro e w1 ⟨rfl, b1⟩
  have hs1 : w.heap.size + 3 ≤ w1.heap.size := by have := b1.size; simp at this; omega
  have hB : Boxes w.heap.size T S ac cc (some ⟨bi, oi, none⟩) ci av cv w1 := by
    have e1 : w.heap.size + 1 = (w.alloc (.cells #[.int .i64 T.id, .string T.name, .slice ac T.cols.length cc, .slice (some ⟨bi, oi, none⟩) T.idx.length ci] 43)).heap.size := by simp
    refine ⟨(b1.block _ (by simp; omega)).trans ((heap_alloc_old _ _ (by simp only [World.size_alloc]; omega)).trans ((heap_alloc_old _ _ (by simp only [World.size_alloc]; omega)).trans (heap_alloc_new w _))), (b1.block _ (by simp)).trans ((heap_alloc_old _ _ (by simp only [World.size_alloc]; omega)).trans ?_)⟩
    rw [e1]
    exact heap_alloc_new _ _
  have hK : w1.heap[w.heap.size + 2]? = some (.cells #[.int .i64 0, .string ⟨#[]⟩, .string ⟨#[]⟩, .int .i64 0] 47 (0, 0)) := by
    have e1 : w.heap.size + 2 = ((w.alloc (.cells #[.int .i64 T.id, .string T.name, .slice ac T.cols.length cc, .slice (some ⟨bi, oi, none⟩) T.idx.length ci] 43)).alloc (.cells #[.int .i64 S.rows, .slice av S.vals.length cv] 54)).heap.size := by simp
    refine (b1.block _ (by simp)).trans ?_
    rw [e1]
    exact heap_alloc_new _ _
  have hb1 : Below w.heap.size w w1 := B3.out.trans (b1.mono B3.out.size)
  obtain ⟨d2, d3, d4, d5⟩ := hB.cells
  rw [← hb1.cell hbi] at x1
  have HB := Lib.hid hB
  have HK := Lib.hid hK
  have B1 := Lib.hid hb1
  clear b1 hB hK hb1 HS
  go_upto_block 0 with (fail)
  clear x1 d2 d3 d4 d5
  go_cut [9, 10, 11, 12] (fun s9 s10 s11 s12 wx => IdxRel (idxGo T S W T.idx[n].cols [] (rowsOf S)) w1 s9 s10 s11 s12 wx)
  case first =>
    have hr0 := rowsOf_bd S
    go_wp2_with fail
    go_loopw [9, 10, 11, 12, 31] (fun s9 s10 s11 s12 i wr => ∃ (k : Nat) (P : ByteArray) (r : Int), k ≤ T.idx[n].cols.length ∧ i = .int .i64 k ∧ s9 = .int .i64 r ∧ s10 = .string P ∧ s11 = .string ⟨#[]⟩ ∧ s12 = .string ⟨#[]⟩ ∧
      0 ≤ r ∧ r ≤ 1000000 ∧ P.size ≤ 83 * k ∧ idxGo T S W T.idx[n].cols [] (rowsOf S) = idxGo T S W (T.idx[n].cols.drop k) P.data.toList r ∧ Below w1.heap.size w1 wr) (fun _ _ _ _ i _ => T.idx[n].cols.length - (intOf i).toNat)
    case atStart => exact ⟨0, ⟨#[]⟩, _, by omega, rfl, rfl, rfl, rfl, rfl, hr0.1, hr0.2, Nat.le_refl _, rfl, Below.refl _ _⟩
    case round =>
      obtain ⟨k, P, r, hk, rfl, rfl, rfl, rfl, rfl, hr1, hr2, hP, hG, hb⟩ := hrel
      have HG := Lib.hid hG
      have hw : Below w.heap.size w wr := B1.out.trans (hb.mono B1.out.size)
      obtain ⟨d2, _, d4, d5⟩ := (HB.out.below hb).cells
      have CR := Lib.hid hb
      clear hb hG
      by_cases hk1 : k < T.idx[n].cols.length
      · obtain ⟨bx, ox, rfl, _, _⟩ := HX.out.addr (by intro e; rw [e] at hk1; cases hk1)
        have x0 := (HX.out.below hw).int k hk1
        have hout := idxGo_out T S W T.idx[n].cols k hk1 P.data.toList r
        have HO := Lib.hid hout
        clear hout
        rcases (show T.idx[n].cols[k] < 0 ∨ (T.cols.length : Int) ≤ T.idx[n].cols[k] ∨ (0 ≤ T.idx[n].cols[k] ∧ T.idx[n].cols[k] < T.cols.length) by omega) with h1 | h1 | h1
        · have HO2 := Lib.hid (HO.out (Or.inl h1))
          clear HO
          generalize T.idx[n].cols[k] = c at *
          clear hw
          go_wp2_with fail
          go_meet
          exact IdxRel.mk _ _ _ _ _ _ _ (HG.out.trans HO2.out) (by omega) (Nat.zero_le _) (Nat.zero_le _) CR.out
        · have HO2 := Lib.hid (HO.out (Or.inr h1))
          clear HO
          have h2 : ¬ T.idx[n].cols[k] < 0 := by omega
          generalize T.idx[n].cols[k] = c at *
          clear hw
          go_wp2_with fail
          go_meet
          exact IdxRel.mk _ _ _ _ _ _ _ (HG.out.trans HO2.out) (by omega) (Nat.zero_le _) (Nat.zero_le _) CR.out
        · obtain ⟨j, hxk⟩ : ∃ j : Nat, T.idx[n].cols[k] = j := ⟨T.idx[n].cols[k].toNat, by omega⟩
          have hj : j < T.cols.length := by omega
          rw [hxk] at x0
          have HXK := Lib.hid hxk
          clear HO h1 hxk
          obtain ⟨bc, oc, rfl, _, _⟩ := HC.out.addr (by intro e; rw [e] at hj; cases hj)
          obtain ⟨y0, _⟩ := (HC.out.below hw).col j hj
          clear hw
          have h2 : ¬ (j : Int) < 0 := by omega
          have h3 : (j : Int) < (T.cols.length : Int) := by omega
          have CX := Lib.hid (CR.out.alloc CR.out.size (.cells #[.int .i64 1] 3))
          go_wp2_with fail
          refine (first_any aw cw W r0 (fun _ => True) T.cols[j].1 _ 0 1 [1] _ (HW.out.below (B1.out.trans (CX.out.mono B1.out.size))) hWl (row_one _ _ _ trivial) (by simp)).mono ?_
          rintro e w2 ⟨rfl, b2⟩
          have C2 := Lib.hid (CX.out.trans (b2.mono CX.out.size))
          clear b2 CX d2 d4 d5 x0 y0
          cases heq : condF W T.cols[j].1 [1] with
          | some v =>
            rw [firstV_some]
            obtain ⟨cv1, hcv1, rfl, _⟩ := condF_some heq
            have HU := Lib.hid (HF.out cv1 hcv1)
            have HEQ := Lib.hid heq
            have hks : (⟨(keyV cv1.val).toArray⟩ : ByteArray).size ≤ 83 := by rw [mk_size]; exact keyV_len _
            have E2 := Lib.hid ((HE.out.below (B1.out.trans (C2.out.mono B1.out.size))).below ((Below.refl _ _).alloc (Nat.le_refl _) (.cells #[.int .i64 cv1.val.kind, .int .i64 cv1.val.n, .string cv1.val.s] 101)))
            clear heq hcv1
            go_wp2_with fail
            refine (pkey_any cv1.val HU.out _ E2.out).mono ?_
            rintro e w3 ⟨rfl, b3⟩
            have C3 := Lib.hid ((C2.out.alloc C2.out.size _).trans (b3.mono (by have := C2.out.size; simp; omega)))
            clear b3
            obtain ⟨_, _, d4, d5⟩ := (HB.out.below C3.out).cells
            go_wp2_with fail
            have hlb := leftOf_bd r S j hr1 hr2
            refine (left_any (HS0.out.below (B1.out.trans (C3.out.mono B1.out.size))) r j hr1 hr2 (by omega)).mono ?_
            rintro e w4 ⟨rfl, b4⟩
            have C4 := Lib.hid (C3.out.trans (b4.mono C3.out.size))
            clear b4 d4 d5
            go_wp2_with fail
            go_roundw
            case rel => exact ⟨k + 1, _, _, by omega, by go_num, rfl, rfl, rfl, rfl, hlb.1, hlb.2, by rw [ByteArray.size_append]; omega, HG.out.trans ((idxGo_eq T S W T.idx[n].cols k hk1 _ _ j hj HXK.out _ HEQ.out).trans (by rw [ByteArray.data_append, Array.toList_append])), C4.out⟩
            case measure => simp [intOf]; omega
          | none =>
            rw [firstV_none]
            have HEQ := Lib.hid heq
            have CX := Lib.hid ((C2.out.alloc C2.out.size (.cells #[.int .i64 0, .int .i64 0, .string ⟨#[]⟩] 101)).alloc (by have := C2.out.size; simp; omega) (.cells #[.int .i64 5, .int .i64 6] 3))
            clear heq
            go_wp2_with fail
            refine (first_any aw cw W r0 (fun _ => True) T.cols[j].1 (w2.heap.size + 1) 0 2 [5, 6] _ (HW.out.below (B1.out.trans (CX.out.mono B1.out.size))) hWl (row_two' _ _ _ _ _ (by simp) trivial) (by simp)).mono ?_
            rintro e w5 ⟨rfl, b5⟩
            have C5 := Lib.hid (CX.out.trans (b5.mono CX.out.size))
            clear b5 CX
            cases hlo : condF W T.cols[j].1 [5, 6] with
            | none =>
              rw [firstV_none]
              have HLO := Lib.hid hlo
              have HFS := Lib.hid (Nat.zero_le 0)
              clear hlo
              have CX := Lib.hid ((C5.out.alloc C5.out.size (.cells #[.int .i64 0, .int .i64 0, .string ⟨#[]⟩] 101)).alloc (by have := C5.out.size; simp; omega) (.cells #[.int .i64 3, .int .i64 4] 3))
              go_wp2_with fail
              refine (first_any aw cw W r0 (fun _ => True) T.cols[j].1 (w5.heap.size + 1) 0 2 [3, 4] _ (HW.out.below (B1.out.trans (CX.out.mono B1.out.size))) hWl (row_two' _ _ _ _ _ (by simp) trivial) (by simp)).mono ?_
              rintro e w7 ⟨rfl, b7⟩
              have C7 := Lib.hid (CX.out.trans (b7.mono CX.out.size))
              clear b7
              cases hhi : condF W T.cols[j].1 [3, 4] with
              | none =>
                rw [firstV_none]
                have HH := Lib.hid hhi
                clear hhi
                go_wp2_with fail
                go_meet
                exact IdxRel.mk _ _ _ _ _ _ _ (HG.out.trans ((idxGo_end T S W T.idx[n].cols k hk1 _ _ j hj HXK.out HEQ.out).trans (idxEnd_nn _ _ HLO.out HH.out))) (by omega) (by first | exact HFS.out | exact Nat.zero_le _) (Nat.zero_le _) (C7.out.alloc C7.out.size _)
              | some u =>
                rw [firstV_some]
                obtain ⟨cu, hcu, rfl, _⟩ := condF_some hhi
                have HU := Lib.hid (HF.out cu hcu)
                have HH := Lib.hid hhi
                have hks : (⟨(keyV cu.val).toArray⟩ : ByteArray).size ≤ 83 := by rw [mk_size]; exact keyV_len _
                have E7 := Lib.hid ((HE.out.below (B1.out.trans (C7.out.mono B1.out.size))).below ((Below.refl _ _).alloc (Nat.le_refl _) (.cells #[.int .i64 cu.val.kind, .int .i64 cu.val.n, .string cu.val.s] 101)))
                clear hhi hcu
                go_wp2_with fail
                refine (pkey_any cu.val HU.out _ E7.out).mono ?_
                rintro e w8 ⟨rfl, b8⟩
                have C8 := Lib.hid ((C7.out.alloc C7.out.size _).trans (b8.mono (by have := C7.out.size; simp; omega)))
                clear b8
                go_wp2_with fail
                go_meet
                exact IdxRel.mk _ _ _ _ _ _ _ (HG.out.trans ((idxGo_end T S W T.idx[n].cols k hk1 _ _ j hj HXK.out HEQ.out).trans (idxEnd_ns _ _ HLO.out HH.out))) (by omega) (by first | exact HFS.out | exact Nat.zero_le _) hks C8.out
            | some v =>
              rw [firstV_some]
              obtain ⟨cv1, hcv1, rfl, _⟩ := condF_some hlo
              have HU1 := Lib.hid (HF.out cv1 hcv1)
              have HLO := Lib.hid hlo
              have hks1 : (⟨(keyV cv1.val).toArray⟩ : ByteArray).size ≤ 83 := by rw [mk_size]; exact keyV_len _
              have HFS := Lib.hid hks1
              have E5 := Lib.hid ((HE.out.below (B1.out.trans (C5.out.mono B1.out.size))).below ((Below.refl _ _).alloc (Nat.le_refl _) (.cells #[.int .i64 cv1.val.kind, .int .i64 cv1.val.n, .string cv1.val.s] 101)))
              clear hlo hcv1
              go_wp2_with fail
              refine (pkey_any cv1.val HU1.out _ E5.out).mono ?_
              rintro e w6 ⟨rfl, b6⟩
              have C6 := Lib.hid ((C5.out.alloc C5.out.size _).trans (b6.mono (by have := C5.out.size; simp; omega)))
              clear b6
              have CX := Lib.hid (C6.out.alloc C6.out.size (.cells #[.int .i64 3, .int .i64 4] 3))
              go_wp2_with fail
              refine (first_any aw cw W r0 (fun _ => True) T.cols[j].1 w6.heap.size 0 2 [3, 4] _ (HW.out.below (B1.out.trans (CX.out.mono B1.out.size))) hWl (row_two' _ _ _ _ _ (by simp) trivial) (by simp)).mono ?_
              rintro e w7 ⟨rfl, b7⟩
              have C7 := Lib.hid (CX.out.trans (b7.mono CX.out.size))
              clear b7
              cases hhi : condF W T.cols[j].1 [3, 4] with
              | none =>
                rw [firstV_none]
                have HH := Lib.hid hhi
                clear hhi
                go_wp2_with fail
                go_meet
                exact IdxRel.mk _ _ _ _ _ _ _ (HG.out.trans ((idxGo_end T S W T.idx[n].cols k hk1 _ _ j hj HXK.out HEQ.out).trans (idxEnd_sn _ _ HLO.out HH.out))) (by omega) (by first | exact HFS.out | exact Nat.zero_le _) (Nat.zero_le _) (C7.out.alloc C7.out.size _)
              | some u =>
                rw [firstV_some]
                obtain ⟨cu, hcu, rfl, _⟩ := condF_some hhi
                have HU := Lib.hid (HF.out cu hcu)
                have HH := Lib.hid hhi
                have hks : (⟨(keyV cu.val).toArray⟩ : ByteArray).size ≤ 83 := by rw [mk_size]; exact keyV_len _
                have E7 := Lib.hid ((HE.out.below (B1.out.trans (C7.out.mono B1.out.size))).below ((Below.refl _ _).alloc (Nat.le_refl _) (.cells #[.int .i64 cu.val.kind, .int .i64 cu.val.n, .string cu.val.s] 101)))
                clear hhi hcu
                go_wp2_with fail
                refine (pkey_any cu.val HU.out _ E7.out).mono ?_
                rintro e w8 ⟨rfl, b8⟩
                have C8 := Lib.hid ((C7.out.alloc C7.out.size _).trans (b8.mono (by have := C7.out.size; simp; omega)))
                clear b8
                go_wp2_with fail
                go_meet
                exact IdxRel.mk _ _ _ _ _ _ _ (HG.out.trans ((idxGo_end T S W T.idx[n].cols k hk1 _ _ j hj HXK.out HEQ.out).trans (idxEnd_ss _ _ HLO.out HH.out))) (by omega) (by first | exact HFS.out | exact Nat.zero_le _) hks C8.out
      · have hkl : k = T.idx[n].cols.length := by omega
        subst hkl
        clear hw
        go_wp2_with fail
        go_meet
        exact IdxRel.mk _ _ _ _ _ _ _ (HG.out.trans (idxGo_nil T S W T.idx[n].cols _ _)) (by omega) (Nat.zero_le _) (Nat.zero_le _) CR.out
  case rest =>
    obtain ⟨P, F, H, rfl, rfl, rfl, rfl, hP, hF, hH, sP, sF, sH, hb⟩ := hcut
    have hg := idxGo_bd T S W T.idx[n].cols [] (rowsOf S) (rowsOf_bd S).1 (rowsOf_bd S).2
    have hres : (byIdx T S W n).enc = .agg #[.int .i64 n, .string ((P ++ F).extract 0 (min (P ++ F).size 16)), .string ((P ++ H).extract 0 (min (P ++ H).size 16)), .int .i64 (3 + 2 * (idxGo T S W T.idx[n].cols [] (rowsOf S)).rest)] := by
      unfold byIdx
      rw [HD.out]
      unfold Way.enc
      simp only
      rw [← cut_mk, ← cut_mk, ← hP, ← hF, ← hH, ByteArray.data_append, ByteArray.data_append, Array.toList_append, Array.toList_append]
    have RES := Lib.hid hres
    generalize (idxGo T S W T.idx[n].cols [] (rowsOf S)).rest = r at *
    have CB := Lib.hid hb
    have hblk : wc.heap[w.heap.size + 1 + 1]? = _ := (hb.block (w.heap.size + 1 + 1) (by omega)).trans HK.out
    have HBLK := Lib.hid hblk
    have e0 := cells_of hblk 0
    have e1 := cells_of hblk 1
    have e2 := cells_of hblk 2
    have e3 := cells_of hblk 3
    have f0 := free_of hblk 0
    have f1 := free_of hblk 1
    have f2 := free_of hblk 2
    have f3 := free_of hblk 3
    clear hres hP hF hH hb hblk
    simp only [List.getElem?_toArray, List.getElem?_cons_zero, List.getElem?_cons_succ] at e0 e1 e2 e3
    go_wp2_with fail
    refine (cut_any _ _).mono ?_
    rintro e w2 ⟨rfl, rfl⟩
    go_wp2_with fail
    refine (cut_any _ _).mono ?_
    rintro e w2 ⟨rfl, rfl⟩
    go_wp2_with fail
    refine bodyPost_ret (v := .agg #[.int .i64 n, .string ((P ++ F).extract 0 (min (P ++ F).size 16)), .string ((P ++ H).extract 0 (min (P ++ H).size 16)), .int .i64 (3 + 2 * r)]) (by simp [results, Tryz.results157, go_sem, e0, e1, e2, e3, f0, f1, f2, f3]) rfl ⟨by rw [RES.out], ?_⟩
    exact ((((B1.out.trans (CB.out.mono B1.out.size)).setCell (p := ⟨w.heap.size + 1 + 1, 0, none⟩) (by simp only; omega) _).setCell (p := ⟨w.heap.size + 1 + 1, 1, none⟩) (by simp only; omega) _).setCell (p := ⟨w.heap.size + 1 + 1, 2, none⟩) (by simp only; omega) _).setCell (p := ⟨w.heap.size + 1 + 1, 3, none⟩) (by simp only; omega) _
end Go.Proofs.YtpfjakcfjpgbmaaGreatDoor
