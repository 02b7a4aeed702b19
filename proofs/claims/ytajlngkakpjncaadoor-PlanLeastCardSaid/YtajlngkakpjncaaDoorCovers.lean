/- plan.Covers. -/
import Derived.Test.YtajlngkakpjncaaDoorBest
import Derived.Outline
namespace Go.Proofs.YtajlngkakpjncaaDoor
set_option linter.unusedVariables false
set_option linter.unusedSimpArgs false
open Go.RowKit

theorem covKey_drop (r : List Val) (X : List Int) (k : Nat) (h : k < X.length) : covKey r (X.drop k) = if X[k] < 0 ∨ (r.length : Int) ≤ X[k] then [] else keyV (r.getD X[k].toNat default) ++ covKey r (X.drop (k + 1)) := by
  rw [drop_cons X k h, covKey]
/-- the comparison at the end, as the walk spells it -/
theorem within_eq (K : List UInt8) (k lo hi : ByteArray) (hk : k.data.toList = K) (m : Nat) (hm : m = min k.size hi.size) :
    (!Op.bytesLess k.toList lo.toList && (Op.bytesLess (k.extract 0 m).toList hi.toList || (k.extract 0 m).toList == hi.toList)) = within K lo.data.toList hi.data.toList := by
  subst hk hm
  have e1 : k.data.toList.length = k.size := by rw [Array.length_toList]; rfl
  have e2 : hi.data.toList.length = hi.size := by rw [Array.length_toList]; rfl
  have e3 : (k.extract 0 (min k.size hi.size)).data.toList = k.data.toList.take (min k.data.toList.length hi.data.toList.length) := by
    rw [ByteArray.data_extract, Array.toList_extract, List.extract_eq_take_drop, e1, e2]
    simp
  unfold within
  rw [toList_data, toList_data, toList_data, toList_data, e3]

set_option maxRecDepth 100000 in
set_option maxHeartbeats 4000000 in
theorem covers_any {p q : Nat → Prop} {tv : Value} {T : Tab} {w : World} (hT : TabV p w tv T) (x : Way) (cv : Value) (ar : Option Addr) (cr : Nat) (r : List Val) (hr : SlV valR q w (.slice ar r.length cr) r) (hf : ∀ v ∈ r, v.fine) (he : Env w) (hcv : ∃ a n c, cv = .slice a n c) :
    Calls Tryd.prog 20 #[tv, .agg #[.int .i64 x.index, .string x.lo, .string x.hi, .int .i64 x.cost], cv, .slice ar r.length cr] w fun e w' => e = .returned (.bool (coversOf T x r)) ∧ Below w.heap.size w w' := by
  obtain ⟨aw, nw, cw, rfl⟩ := hcv
  obtain ⟨xi, xl, xh, xc⟩ := x
  obtain ⟨ac, cc, ai, ci, rfl, _, hi⟩ := hT
  obtain ⟨_, _, hIl, hi⟩ := hi.row
  obtain ⟨_, _, hRl, hr⟩ := hr.row
  by_cases hout : xi < 0 ∨ (T.idx.length : Int) ≤ xi
  · have hcov : coversOf T ⟨xi, xl, xh, xc⟩ r = true := by unfold coversOf; rw [if_pos hout]
    have HC := Lib.hid hcov
    clear hcov hi hr he hf
    rcases (show xi < 0 ∨ (¬ xi < 0 ∧ (T.idx.length : Int) ≤ xi) by omega) with h1 | ⟨h1, h2⟩
    · clear hout
      go_enter Tryd.func20, Tryd.ntmps20
      go_wp2_with fail
      go_ret
      exact ⟨by rw [HC.out]; rfl, by go_grown⟩
    · clear hout
      go_enter Tryd.func20, Tryd.ntmps20
      go_wp2_with fail
      go_ret
      exact ⟨by rw [HC.out]; rfl, by go_grown⟩
  · obtain ⟨n, rfl⟩ : ∃ n : Nat, xi = n := ⟨xi.toNat, by omega⟩
    have hlt : n < T.idx.length := by omega
    obtain ⟨bi, oi, rfl, _, hbi⟩ := hi.addr (by intro e; rw [e] at hlt; cases hlt)
    obtain ⟨ax, cx, x0, x1, x2, hx⟩ := hi.ix n hlt
    obtain ⟨_, _, hXl, hx⟩ := hx.row
    have hD : (T.idx.getD n default) = T.idx[n] := by rw [List.getD_eq_getElem?_getD, List.getElem?_eq_getElem hlt]; rfl
    have hcov : coversOf T ⟨n, xl, xh, xc⟩ r = within (cut16 (covKey r T.idx[n].cols)) xl.data.toList xh.data.toList := by
      unfold coversOf
      rw [if_neg hout, Int.toNat_natCast, hD]
    have HC := Lib.hid hcov
    have HX := Lib.hid hx
    have HR := Lib.hid hr
    have HE := Lib.hid he
    have HF := Lib.hid hf
    obtain ⟨W1, hW1⟩ : ∃ W1, (w.alloc (.cells #[.int .i64 T.id, .string T.name, .slice ac T.cols.length cc, .slice (some ⟨bi, oi, none⟩) T.idx.length ci] 30)).alloc (.cells #[.int .i64 n, .string xl, .string xh, .int .i64 xc] 52) = W1 := ⟨_, rfl⟩
    have hs1 : W1.heap.size = w.heap.size + 1 + 1 := by rw [← hW1]; simp
    have hb1 : Below w.heap.size w W1 := by rw [← hW1]; exact ((Below.refl _ _).alloc (Nat.le_refl _) _).alloc (by simp) _
    have hk0 : W1.heap[w.heap.size]? = some (.cells #[.int .i64 T.id, .string T.name, .slice ac T.cols.length cc, .slice (some ⟨bi, oi, none⟩) T.idx.length ci] 30 (0, 0)) := by
      rw [← hW1]; exact (heap_alloc_old _ _ (by simp)).trans (heap_alloc_new w _)
    have hk1 : W1.heap[w.heap.size + 1]? = some (.cells #[.int .i64 n, .string xl, .string xh, .int .i64 xc] 52 (0, 0)) := by
      have := heap_alloc_new (w.alloc (.cells #[.int .i64 T.id, .string T.name, .slice ac T.cols.length cc, .slice (some ⟨bi, oi, none⟩) T.idx.length ci] 30)) (.cells #[.int .i64 n, .string xl, .string xh, .int .i64 xc] 52)
      rw [World.size_alloc, hW1] at this
      exact this
    have K0 := Lib.hid hk0
    have K1 := Lib.hid hk1
    have B1 := Lib.hid hb1
    have S1 := Lib.hid hs1
    have HW1 := Lib.hid hW1
    have d3 := cells_of hk0 3
    have g0 := cells_of hk1 0
    simp only [List.getElem?_toArray, List.getElem?_cons_zero, List.getElem?_cons_succ] at d3 g0
    have x1' := (hb1.cell hbi).trans x1
    have h1 : ¬ ((n : Int) < 0) := by omega
    have h2 : ¬ ((T.idx.length : Int) ≤ (n : Int)) := by omega
    clear hcov hx hr he hf hi hD x0 x1 x2 hk0 hk1 hb1 hs1 hW1 hout
    go_enter Tryd.func20, Tryd.ntmps20
    go_upto_region 1 with (fail)
    rw [HW1.out]
    go_upto_block 0 with (fail)
    go_cut [9] (fun s9 wx => ∃ K : ByteArray, s9 = .string K ∧ K.data.toList = covKey r T.idx[n].cols ∧ Below W1.heap.size W1 wx)
    case first =>
      clear d3 g0 x1'
      go_wp2_with fail
      go_loopw [9, 31] (fun s9 i wr => ∃ (k : Nat) (K : ByteArray), k ≤ T.idx[n].cols.length ∧ i = .int .i64 k ∧ s9 = .string K ∧ K.size ≤ 83 * k ∧ covKey r T.idx[n].cols = K.data.toList ++ covKey r (T.idx[n].cols.drop k) ∧ Below W1.heap.size W1 wr) (fun _ i _ => T.idx[n].cols.length - (intOf i).toNat)
      case atStart => exact ⟨0, _, by omega, rfl, rfl, Nat.le_refl _, rfl, Below.refl _ _⟩
      case round =>
        obtain ⟨k, K, hk, rfl, rfl, hK, hG, hb⟩ := hrel
        have HG := Lib.hid hG
        have hw : Below w.heap.size w wr := B1.out.trans (hb.mono B1.out.size)
        have CR := Lib.hid hb
        clear hb hG
        by_cases hk1 : k < T.idx[n].cols.length
        · obtain ⟨bx, ox, rfl, _, _⟩ := HX.out.addr (by intro e; rw [e] at hk1; cases hk1)
          have x0 := (HX.out.below hw).int k hk1
          have hcd := covKey_drop r T.idx[n].cols k hk1
          have HCD := Lib.hid hcd
          clear hcd
          by_cases ho : T.idx[n].cols[k] < 0 ∨ (r.length : Int) ≤ T.idx[n].cols[k]
          · have HE2 := Lib.hid (HG.out.trans (by rw [HCD.out, if_pos ho, List.append_nil]))
            rcases (show T.idx[n].cols[k] < 0 ∨ (¬ T.idx[n].cols[k] < 0 ∧ (r.length : Int) ≤ T.idx[n].cols[k]) by omega) with h3 | ⟨h3, h4⟩
            · generalize T.idx[n].cols[k] = c at *
              clear hw ho HCD
              go_wp2_with fail
              go_meet
              exact ⟨K, rfl, HE2.out.symm, CR.out⟩
            · generalize T.idx[n].cols[k] = c at *
              clear hw ho HCD
              go_wp2_with fail
              go_meet
              exact ⟨K, rfl, HE2.out.symm, CR.out⟩
          · obtain ⟨j, hxk⟩ : ∃ j : Nat, T.idx[n].cols[k] = j := ⟨T.idx[n].cols[k].toNat, by omega⟩
            have hj : j < r.length := by omega
            rw [hxk] at x0
            have hgd : r.getD j default = r[j] := by rw [List.getD_eq_getElem?_getD, List.getElem?_eq_getElem hj]; rfl
            have HE2 := Lib.hid (HG.out.trans (by rw [HCD.out, if_neg ho, hxk, Int.toNat_natCast, hgd, ← List.append_assoc]))
            clear HCD ho hxk hgd
            obtain ⟨br, orr, rfl, _, _⟩ := HR.out.addr (by intro e; rw [e] at hj; cases hj)
            obtain ⟨y0, y1, y2⟩ := (HR.out.below hw).val j hj
            have HU := Lib.hid (HF.out r[j] (List.getElem_mem hj))
            have HE3 := Lib.hid (HE.out.below hw)
            have hks : (⟨(keyV r[j]).toArray⟩ : ByteArray).size ≤ 83 := by rw [mk_size]; exact keyV_len _
            have h3 : ¬ (j : Int) < 0 := by omega
            have h4 : ¬ (r.length : Int) ≤ (j : Int) := by omega
            clear hw
            go_wp2_with fail
            refine (pkey_any r[j] HU.out _ HE3.out).mono ?_
            rintro e w3 ⟨rfl, b3⟩
            have C3 := Lib.hid (CR.out.trans (b3.mono CR.out.size))
            clear b3 y0 y1 y2 x0
            go_wp2_with fail
            go_roundw
            case rel => exact ⟨k + 1, _, by omega, by go_num, rfl, by rw [ByteArray.size_append]; omega, by rw [ByteArray.data_append, Array.toList_append]; exact HE2.out, C3.out⟩
            case measure => simp [intOf]; omega
        · have hkl : k = T.idx[n].cols.length := by omega
          subst hkl
          have HE2 := Lib.hid (HG.out.trans (by rw [List.drop_length, covKey, List.append_nil]))
          clear hw
          go_wp2_with fail
          go_meet
          exact ⟨K, rfl, HE2.out.symm, CR.out⟩
    case rest =>
      obtain ⟨K, rfl, hK, hb⟩ := hcut
      have CB := Lib.hid hb
      have g := (hb.block (w.heap.size + 1) (by rw [S1.out]; omega)).trans K1.out
      have g1 := cells_of g 1
      have g2 := cells_of g 2
      simp only [List.getElem?_toArray, List.getElem?_cons_zero, List.getElem?_cons_succ] at g1 g2
      clear d3 g0 x1' g hb
      go_wp2_with fail
      refine (cut_any _ _).mono ?_
      rintro e w2 ⟨rfl, rfl⟩
      obtain ⟨k, hk⟩ : ∃ k, k = K.extract 0 (min K.size 16) := ⟨_, rfl⟩
      rw [← hk]
      have hkd : k.data.toList = cut16 (covKey r T.idx[n].cols) := by
        rw [hk, ← cut_mk, hK]
        rfl
      have WE := Lib.hid (fun m hm => within_eq _ k xl xh hkd m hm)
      clear hk hkd hK
      cases hc1 : (!Op.bytesLess k.toList xl.toList)
      · go_wp2_with fail
        go_quiet (fail)
        go_wp2_with fail
        go_ret
        exact ⟨by rw [HC.out, ← WE.out _ rfl, hc1]; rfl, below_drewN (B1.out.trans (CB.out.mono B1.out.size)) _⟩
      · go_wp2_with fail
        go_quiet (fail)
        go_wp2_with fail
        go_ret
        exact ⟨by rw [HC.out, ← WE.out (min (k.size : Int) (xh.size : Int)).toNat (by omega), hc1]; rfl, below_drewN (B1.out.trans (CB.out.mono B1.out.size)) _⟩
end Go.Proofs.YtajlngkakpjncaaDoor
