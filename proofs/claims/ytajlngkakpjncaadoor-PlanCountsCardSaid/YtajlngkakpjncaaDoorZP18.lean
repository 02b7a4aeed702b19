/- The reference's comparison of values and its Fits. -/
import Derived.Test.YtajlngkakpjncaaDoorZP10
import Derived.Test.YtajlngkakpjncaaDoorZP16
import Derived.Test.YtajlngkakpjncaaDoorZP17
namespace Go.Proofs.YtajlngkakpjncaaDoor
set_option linter.unusedVariables false
set_option linter.unusedSimpArgs false
open Go.RowKit

def placeV (k : Int) : Int := if k < 0 ∨ 2 < k then 3 else k
def ordI (l m : Bool) : Int := if l then -1 else if m then 1 else 0
def cmpL : List UInt8 → List UInt8 → Int
  | [], [] => 0
  | [], _ :: _ => -1
  | _ :: _, [] => 1
  | a :: x, b :: y => if a = b then cmpL x y else if a.toNat < b.toNat then -1 else 1
theorem cmpL_drop (A B : List UInt8) (k : Nat) (hA : k < A.length) (hB : k < B.length) :
    cmpL (A.drop k) (B.drop k) = if A[k] = B[k] then cmpL (A.drop (k + 1)) (B.drop (k + 1)) else if A[k].toNat < B[k].toNat then -1 else 1 := by
  rw [List.drop_eq_getElem_cons hA, List.drop_eq_getElem_cons hB, cmpL]
theorem cmpL_end (A B : List UInt8) (k : Nat) (h : k = A.length ∨ k = B.length) (hA : k ≤ A.length) (hB : k ≤ B.length) :
    cmpL (A.drop k) (B.drop k) = ordI (decide (A.length < B.length)) (decide (B.length < A.length)) := by
  rcases (show k = A.length ∧ A.length = B.length ∨ k = A.length ∧ A.length < B.length ∨ k = B.length ∧ B.length < A.length by omega) with ⟨h1, h2⟩ | ⟨h1, h2⟩ | ⟨h1, h2⟩
  · rw [List.drop_of_length_le (by omega), List.drop_of_length_le (by omega)]
    simp [cmpL, ordI, h2]
  · rw [List.drop_of_length_le (by omega), List.drop_eq_getElem_cons (by omega)]
    simp [cmpL, ordI, h2]
  · rw [show B.drop k = [] from List.drop_eq_nil_of_le (by omega), List.drop_eq_getElem_cons (by omega)]
    have : ¬ A.length < B.length := by omega
    simp [cmpL, ordI, h2, this]
def cmpV (a b : Val) : Int :=
  if placeV a.kind ≠ placeV b.kind then ordI (decide (placeV a.kind < placeV b.kind)) (decide (placeV b.kind < placeV a.kind))
  else if placeV a.kind = 1 then ordI (decide (a.n < b.n)) (decide (b.n < a.n))
  else if placeV a.kind = 2 then cmpL a.s.data.toList b.s.data.toList else 0
def opOk (op c : Int) : Bool :=
  if op = 1 then c == 0 else if op = 2 then !(c == 0) else if op = 3 then decide (c < 0) else if op = 4 then decide (c ≤ 0) else if op = 5 then decide (0 < c) else if op = 6 then decide (0 ≤ c) else false
def fitsV (a : Val) (op : Int) (b : Val) : Bool :=
  if placeV a.kind = 0 ∨ placeV b.kind = 0 ∨ placeV a.kind = 3 ∨ placeV b.kind = 3 then false
  else if placeV a.kind ≠ placeV b.kind then op == 2
  else opOk op (cmpV a b)
def fitsOne (T : Tab) (r : List Val) (c : Cond) : Bool :=
  if 0 ≤ colOf T c.col ∧ colOf T c.col < r.length then fitsV (r.getD (colOf T c.col).toNat default) c.op c.val else true
def fitsR (T : Tab) (r : List Val) (W : List Cond) : Bool := W.all (fitsOne T r)

theorem order_any (l m : Bool) (w : World) :
    Calls Tryd.prog 67 #[.bool l, .bool m] w fun e w' => e = .returned (.int .i64 (ordI l m)) ∧ w = w' := by
  cases l <;> cases m
  all_goals
    go_enter Tryd.func67, Tryd.ntmps67
    go_wp2_with fail
    go_ret
    exact ⟨rfl, rfl⟩
theorem order_q (l m : Bool) (w : World) (n : Nat) :
    Calls Tryd.prog 67 #[.bool l, .bool m] (w.drewN n) fun e w' => e = .returned (.int .i64 (ordI l m)) ∧ w' = w.drewN n := (order_any l m _).mono fun _ _ ⟨a, b⟩ => ⟨a, b.symm⟩
theorem place_any (k : Int) (w : World) :
    Calls Tryd.prog 58 #[.int .i64 k] w fun e w' => e = .returned (.int .i64 (placeV k)) ∧ w = w' := by
  unfold placeV
  by_cases h1 : k < 0
  · rw [if_pos (Or.inl h1)]
    go_enter Tryd.func58, Tryd.ntmps58
    go_wp2_with fail
    go_ret
    exact ⟨rfl, rfl⟩
  · by_cases h2 : 2 < k
    · rw [if_pos (Or.inr h2)]
      go_enter Tryd.func58, Tryd.ntmps58
      go_wp2_with fail
      go_ret
      exact ⟨rfl, rfl⟩
    · rw [if_neg (by omega)]
      go_enter Tryd.func58, Tryd.ntmps58
      go_wp2_with fail
      go_ret
      exact ⟨rfl, rfl⟩

set_option maxHeartbeats 2000000 in
theorem texts_any (a b : ByteArray) (ha : a.size ≤ 140737488355328) (w : World) :
    Calls Tryd.prog 68 #[.string a, .string b] w fun e w' => e = .returned (.int .i64 (cmpL a.data.toList b.data.toList)) ∧ Below w.heap.size w w' := by
  go_enter Tryd.func68, Tryd.ntmps68
  go_wp2_with fail
  go_loopw [5] (fun i wr => ∃ k : Nat, k ≤ a.size ∧ k ≤ b.size ∧ i = .int .i64 k ∧ cmpL a.data.toList b.data.toList = cmpL (a.data.toList.drop k) (b.data.toList.drop k) ∧ Below w.heap.size w wr) (fun i _ => a.size - (intOf i).toNat)
  case atStart => exact ⟨0, by omega, by omega, rfl, rfl, Below.refl _ _⟩
  case round =>
    obtain ⟨j, hja, hjb, rfl, hc, hb⟩ := hrel
    have HC := Lib.hid hc
    have HB := Lib.hid hb
    clear hc hb
    have la : a.data.toList.length = a.size := by rw [Array.length_toList]; rfl
    have lb : b.data.toList.length = b.size := by rw [Array.length_toList]; rfl
    by_cases h1 : j < a.size
    · by_cases h2 : j < b.size
      · have hd := cmpL_drop a.data.toList b.data.toList j (by omega) (by omega)
        have ea : a.data.toList[j] = a[j] := by rw [Array.getElem_toList]; rfl
        have eb : b.data.toList[j] = b[j] := by rw [Array.getElem_toList]; rfl
        rw [ea, eb] at hd
        have HD := Lib.hid (HC.out.trans hd)
        clear hd ea eb la lb
        by_cases hz : a[j] = b[j]
        · have HZ := Lib.hid hz
          have hz1 : (((a[j]).toNat : Int) == ((b[j]).toNat : Int)) = true := by rw [hz]; simp
          clear hz
          go_wp2_with fail
          go_quiet (fail)
          go_wp2_with fail
          go_roundw
          case rel => exact ⟨j + 1, by omega, by omega, by go_num, HD.out.trans (if_pos HZ.out), below_drewN HB.out _⟩
          case measure => simp [intOf]; omega
        · have hne : (a[j]).toNat ≠ (b[j]).toNat := fun e => hz (UInt8.toNat.inj e)
          have HZ := Lib.hid (HD.out.trans (if_neg hz))
          clear hz
          have hz1 : (((a[j]).toNat : Int) == ((b[j]).toNat : Int)) = false := by simp; omega
          by_cases hl : (a[j]).toNat < (b[j]).toNat
          · have hl1 : ((a[j]).toNat : Int) < ((b[j]).toNat : Int) := by omega
            have hl2 : ¬ ((b[j]).toNat : Int) < ((a[j]).toNat : Int) := by omega
            have HR := Lib.hid (HZ.out.trans (if_pos hl))
            clear hl hne HD
            go_wp2_with fail
            go_quiet (fail)
            go_wp2_with fail
            generalize hW : wr.drewN _ = W
            have BW := Lib.hid (hW ▸ below_drewN HB.out _ : Below w.heap.size w W)
            clear hW HB
            refine wp_region_class (Below W.heap.size W) (by kernel_rfl) (by kernel_rfl) (Below.drew (Below.refl _ _)) (fun ne => ?_)
            repeat (go_big_quiet_step ((go_at_call 67; refine (order_any _ _ _).mono ?_; rintro e w2 ⟨rfl, rfl⟩; exact ⟨rfl, class_below _ (Below.refl _ _) (Nat.le_refl _)⟩)))
            refine wpQuiet_nil ?_
            intro w4 b4
            have C4 := Lib.hid (BW.out.trans (b4.mono BW.out.size))
            clear b4
            go_wp2_with fail
            go_ret
            exact ⟨by rw [HR.out]; first | rfl | (simp [ordI]; omega), C4.out⟩
          · have hl1 : ((b[j]).toNat : Int) < ((a[j]).toNat : Int) := by omega
            have hl2 : ¬ ((a[j]).toNat : Int) < ((b[j]).toNat : Int) := by omega
            have HR := Lib.hid (HZ.out.trans (if_neg hl))
            clear hl hne HD
            go_wp2_with fail
            go_quiet (fail)
            go_wp2_with fail
            generalize hW : wr.drewN _ = W
            have BW := Lib.hid (hW ▸ below_drewN HB.out _ : Below w.heap.size w W)
            clear hW HB
            refine wp_region_class (Below W.heap.size W) (by kernel_rfl) (by kernel_rfl) (Below.drew (Below.refl _ _)) (fun ne => ?_)
            repeat (go_big_quiet_step ((go_at_call 67; refine (order_any _ _ _).mono ?_; rintro e w2 ⟨rfl, rfl⟩; exact ⟨rfl, class_below _ (Below.refl _ _) (Nat.le_refl _)⟩)))
            refine wpQuiet_nil ?_
            intro w4 b4
            have C4 := Lib.hid (BW.out.trans (b4.mono BW.out.size))
            clear b4
            go_wp2_with fail
            go_ret
            exact ⟨by rw [HR.out]; first | rfl | (simp [ordI]; omega), C4.out⟩
      · have HE := Lib.hid (HC.out.trans (cmpL_end _ _ j (by omega) (by omega) (by omega)))
        rw [la, lb] at HE
        clear la lb
        go_wp2_with fail
        refine (order_any _ _ _).mono ?_
        rintro e w2 ⟨rfl, rfl⟩
        go_wp2_with fail
        go_ret
        exact ⟨by rw [HE.out]; rfl, HB.out⟩
    · have HE := Lib.hid (HC.out.trans (cmpL_end _ _ j (by omega) (by omega) (by omega)))
      rw [la, lb] at HE
      clear la lb
      go_wp2_with fail
      refine (order_any _ _ _).mono ?_
      rintro e w2 ⟨rfl, rfl⟩
      go_wp2_with fail
      go_ret
      exact ⟨by rw [HE.out]; rfl, HB.out⟩

set_option maxHeartbeats 2000000 in
theorem rcompare_any (a b : Val) (ha : a.s.size ≤ 140737488355328) (w : World) :
    Calls Tryd.prog 59 #[a.enc, b.enc] w fun e w' => e = .returned (.int .i64 (cmpV a b)) ∧ Below w.heap.size w w' := by
  have HB := Lib.hid (((Below.refl w.heap.size w).alloc (Nat.le_refl _) (.cells #[.int .i64 a.kind, .int .i64 a.n, .string a.s] 41)).alloc (by simp) (.cells #[.int .i64 b.kind, .int .i64 b.n, .string b.s] 41))
  obtain ⟨x, hx⟩ : ∃ x, placeV a.kind = x := ⟨_, rfl⟩
  obtain ⟨y, hy⟩ : ∃ y, placeV b.kind = y := ⟨_, rfl⟩
  have hv : cmpV a b = if x ≠ y then ordI (decide (x < y)) (decide (y < x)) else if x = 1 then ordI (decide (a.n < b.n)) (decide (b.n < a.n)) else if x = 2 then cmpL a.s.data.toList b.s.data.toList else 0 := by unfold cmpV; rw [hx, hy]
  have HX := Lib.hid hx
  have HY := Lib.hid hy
  clear hx hy
  show Calls _ _ #[.agg #[.int .i64 a.kind, .int .i64 a.n, .string a.s], .agg #[.int .i64 b.kind, .int .i64 b.n, .string b.s]] _ _
  go_enter Tryd.func59, Tryd.ntmps59
  go_upto_region 1 with (fail)
  have HV := Lib.hid hv
  clear hv
  go_wp2_with fail
  refine (place_any _ _).mono ?_
  rintro e w2 ⟨rfl, rfl⟩
  rw [HX.out]
  go_wp2_with fail
  refine (place_any _ _).mono ?_
  rintro e w2 ⟨rfl, rfl⟩
  rw [HY.out]
  by_cases h1 : x = y
  · subst h1
    have HW := Lib.hid (HV.out.trans (if_neg (by simp)))
    clear HV
    by_cases h2 : x = 1
    · subst h2
      have HV := Lib.hid (HW.out.trans (if_pos rfl))
      go_wp2_with fail
      refine (order_any _ _ _).mono ?_
      rintro e w2 ⟨rfl, rfl⟩
      go_wp2_with fail
      go_ret
      exact ⟨by rw [HV.out]; rfl, HB.out⟩
    · have HV := Lib.hid (HW.out.trans (if_neg h2))
      clear HW
      by_cases h3 : x = 2
      · subst h3
        have HW := Lib.hid (HV.out.trans (if_pos rfl))
        go_wp2_with fail
        refine (texts_any _ _ ha _).mono ?_
        rintro e w2 ⟨rfl, b2⟩
        go_wp2_with fail
        go_ret
        exact ⟨by rw [HW.out]; rfl, HB.out.trans (b2.mono HB.out.size)⟩
      · have HW := Lib.hid (HV.out.trans (if_neg h3))
        go_wp2_with fail
        go_ret
        exact ⟨by rw [HW.out]; rfl, HB.out⟩
  · have HW := Lib.hid (HV.out.trans (if_pos h1))
    clear HV
    go_wp2_with fail
    refine (order_any _ _ _).mono ?_
    rintro e w2 ⟨rfl, rfl⟩
    go_wp2_with fail
    go_ret
    exact ⟨by rw [HW.out]; rfl, HB.out⟩

set_option maxHeartbeats 4000000 in
theorem rvfits_any (a b : Val) (op : Int) (ha : a.s.size ≤ 140737488355328) (w : World) :
    Calls Tryd.prog 36 #[a.enc, .int .i64 op, b.enc] w fun e w' => e = .returned (.bool (fitsV a op b)) ∧ Below w.heap.size w w' := by
  have HB := Lib.hid (((Below.refl w.heap.size w).alloc (Nat.le_refl _) (.cells #[.int .i64 a.kind, .int .i64 a.n, .string a.s] 41)).alloc (by simp) (.cells #[.int .i64 b.kind, .int .i64 b.n, .string b.s] 41))
  obtain ⟨x, hx⟩ : ∃ x, placeV a.kind = x := ⟨_, rfl⟩
  obtain ⟨y, hy⟩ : ∃ y, placeV b.kind = y := ⟨_, rfl⟩
  have hv : fitsV a op b = if x = 0 ∨ y = 0 ∨ x = 3 ∨ y = 3 then false else if x ≠ y then op == 2 else opOk op (cmpV a b) := by unfold fitsV; rw [hx, hy]
  have HX := Lib.hid hx
  have HY := Lib.hid hy
  clear hx hy
  show Calls _ _ #[.agg #[.int .i64 a.kind, .int .i64 a.n, .string a.s], .int .i64 op, .agg #[.int .i64 b.kind, .int .i64 b.n, .string b.s]] _ _
  go_enter Tryd.func36, Tryd.ntmps36
  go_upto_region 1 with (fail)
  have HV := Lib.hid hv
  clear hv
  go_wp2_with fail
  refine (place_any _ _).mono ?_
  rintro e w2 ⟨rfl, rfl⟩
  rw [HX.out]
  go_wp2_with fail
  refine (place_any _ _).mono ?_
  rintro e w2 ⟨rfl, rfl⟩
  rw [HY.out]
  have go0 : ∀ h : x = 0 ∨ y = 0 ∨ x = 3 ∨ y = 3, fitsV a op b = false := fun h => HV.out.trans (if_pos h)
  by_cases h0 : x = 0
  · have HW := Lib.hid (go0 (Or.inl h0))
    clear go0 HV
    subst h0
    go_wp2_with fail
    go_ret
    exact ⟨by rw [HW.out]; rfl, HB.out⟩
  by_cases h1 : y = 0
  · have HW := Lib.hid (go0 (Or.inr (Or.inl h1)))
    clear go0 HV
    subst h1
    go_wp2_with fail
    go_ret
    exact ⟨by rw [HW.out]; rfl, HB.out⟩
  by_cases h2 : x = 3
  · have HW := Lib.hid (go0 (Or.inr (Or.inr (Or.inl h2))))
    clear go0 HV
    subst h2
    go_wp2_with fail
    go_ret
    exact ⟨by rw [HW.out]; rfl, HB.out⟩
  by_cases h3 : y = 3
  · have HW := Lib.hid (go0 (Or.inr (Or.inr (Or.inr h3))))
    clear go0 HV
    subst h3
    go_wp2_with fail
    go_ret
    exact ⟨by rw [HW.out]; rfl, HB.out⟩
  have HU := Lib.hid (HV.out.trans (if_neg (by omega)))
  clear go0 HV
  have p0 : (x == 0) = false := by simp [h0]
  have p1 : (y == 0) = false := by simp [h1]
  have p2 : (x == 3) = false := by simp [h2]
  have p3 : (y == 3) = false := by simp [h3]
  by_cases h4 : x = y
  · subst h4
    have HW := Lib.hid (HU.out.trans (if_neg (by simp)))
    clear HU HX HY
    go_wp2_with fail
    refine (rcompare_any a b ha _).mono ?_
    rintro e w2 ⟨rfl, b2⟩
    have HC := Lib.hid (HB.out.trans (b2.mono HB.out.size))
    clear b2
    generalize cmpV a b = c at *
    have e1 := HW.out
    unfold opOk at e1
    by_cases o1 : op = 1
    · subst o1
      have HF := Lib.hid (e1.trans (if_pos rfl))
      clear e1 HW
      go_wp2_with fail
      go_ret
      exact ⟨by rw [HF.out]; rfl, HC.out⟩
    rw [if_neg o1] at e1
    by_cases o2 : op = 2
    · subst o2
      have HF := Lib.hid (e1.trans (if_pos rfl))
      clear e1 HW
      go_wp2_with fail
      go_ret
      exact ⟨by rw [HF.out]; rfl, HC.out⟩
    rw [if_neg o2] at e1
    by_cases o3 : op = 3
    · subst o3
      have HF := Lib.hid (e1.trans (if_pos rfl))
      clear e1 HW
      go_wp2_with fail
      go_ret
      exact ⟨by rw [HF.out]; rfl, HC.out⟩
    rw [if_neg o3] at e1
    by_cases o4 : op = 4
    · subst o4
      have HF := Lib.hid (e1.trans (if_pos rfl))
      clear e1 HW
      go_wp2_with fail
      go_ret
      exact ⟨by rw [HF.out]; rfl, HC.out⟩
    rw [if_neg o4] at e1
    by_cases o5 : op = 5
    · subst o5
      have HF := Lib.hid (e1.trans (if_pos rfl))
      clear e1 HW
      go_wp2_with fail
      go_ret
      exact ⟨by rw [HF.out]; rfl, HC.out⟩
    rw [if_neg o5] at e1
    by_cases o6 : op = 6
    · subst o6
      have HF := Lib.hid (e1.trans (if_pos rfl))
      clear e1 HW
      go_wp2_with fail
      go_ret
      exact ⟨by rw [HF.out]; rfl, HC.out⟩
    rw [if_neg o6] at e1
    have HF := Lib.hid e1
    clear e1 HW
    have q1 : (op == 1) = false := by simp [o1]
    have q2 : (op == 2) = false := by simp [o2]
    have q3 : (op == 3) = false := by simp [o3]
    have q4 : (op == 4) = false := by simp [o4]
    have q5 : (op == 5) = false := by simp [o5]
    have q6 : (op == 6) = false := by simp [o6]
    go_wp2_with fail
    go_ret
    exact ⟨by rw [HF.out]; rfl, HC.out⟩
  · have HW := Lib.hid (HU.out.trans (if_pos h4))
    clear HU HX HY
    go_wp2_with fail
    go_ret
    exact ⟨by rw [HW.out]; rfl, HB.out⟩

theorem fitsR_all {T : Tab} {r : List Val} {W : List Cond} (h : ∀ t (ht : t < W.length), fitsOne T r W[t] = true) : fitsR T r W = true := by
  unfold fitsR
  rw [List.all_eq_true]
  intro x hx
  obtain ⟨t, ht, rfl⟩ := List.getElem_of_mem hx
  exact h t ht
theorem fitsR_not {T : Tab} {r : List Val} {W : List Cond} (t : Nat) (ht : t < W.length) (h : fitsOne T r W[t] = false) : fitsR T r W = false := by
  cases hf : fitsR T r W
  · rfl
  · unfold fitsR at hf
    rw [List.all_eq_true] at hf
    have := hf _ (List.getElem_mem ht)
    rw [h] at this
    cases this

set_option maxHeartbeats 4000000 in
theorem rfits_any {p q q2 : Nat → Prop} {tv : Value} {T : Tab} {w : World} (hT : TabV p w tv T) (ar : Option Addr) (cr : Nat) (r : List Val) (hr : SlV valR q w (.slice ar r.length cr) r) (hf : ∀ v ∈ r, v.s.size ≤ 140737488355328)
    (aw : Option Addr) (cw : Nat) (W : List Cond) (hW : SlV condR q2 w (.slice aw W.length cw) W) :
    Calls Tryd.prog 19 #[tv, .slice ar r.length cr, .slice aw W.length cw] w fun e w' => e = .returned (.bool (fitsR T r W)) ∧ Below w.heap.size w w' := by
  have HT := Lib.hid hT
  obtain ⟨ac, cc, ai, ci, rfl, _, _⟩ := hT
  obtain ⟨_, _, hRl, hr⟩ := hr.row
  obtain ⟨_, _, hWl, hW⟩ := hW.row
  have HR := Lib.hid hr
  have HW := Lib.hid hW
  have HF := Lib.hid hf
  clear hr hW hf
  go_enter Tryd.func19, Tryd.ntmps19
  go_wp2_with fail
  generalize hw1 : w.alloc _ = W1
  have hb1 : Below w.heap.size w W1 := by rw [← hw1]; exact (Below.refl _ _).alloc (Nat.le_refl _) _
  have hk1 : W1.heap[w.heap.size]? = some (.cells #[.int .i64 T.id, .string T.name, .slice ac T.cols.length cc, .slice ai T.idx.length ci] 30 (0, 0)) := by rw [← hw1]; exact heap_alloc_new w _
  have B1 := Lib.hid hb1
  have K1 := Lib.hid hk1
  clear hb1 hk1 hw1
  go_loopw [7] (fun i wr => ∃ k : Nat, k ≤ W.length ∧ i = .int .i64 k ∧ (∀ t (ht : t < W.length), t < k → fitsOne T r W[t] = true) ∧ Below W1.heap.size W1 wr) (fun i _ => W.length - (intOf i).toNat)
  case atStart => exact ⟨0, by omega, rfl, fun t _ ht => by omega, Below.refl _ _⟩
  case round =>
    obtain ⟨k, hk, rfl, hall, hb⟩ := hrel
    have HA := Lib.hid hall
    have CB := Lib.hid hb
    clear hall hb
    by_cases h1 : k < W.length
    · obtain ⟨bw, ow, rfl, _, hbw⟩ := HW.out.addr (by intro e; rw [e] at h1; cases h1)
      have BB := Lib.hid (B1.out.trans (CB.out.mono B1.out.size))
      obtain ⟨c0, c1, c2, c3, c4⟩ := HW.out.cond k h1
      have C0 := Lib.hid c0
      have C1 := Lib.hid c1
      have C2 := Lib.hid c2
      have C3 := Lib.hid c3
      have C4 := Lib.hid c4
      clear c0 c1 c2 c3 c4
      obtain ⟨c, hc⟩ : ∃ c, c = W[k] := ⟨_, rfl⟩
      rw [← hc] at C0 C1 C2 C3 C4
      have HC := Lib.hid hc
      clear hc
      go_upto_region 4 with (fail)
      refine wp_region_class (Below wr.heap.size wr) (by kernel_rfl) (by kernel_rfl) (Below.drew (Below.refl _ _)) (fun ne => ?_)
      have hgo : ∀ x : Wld (Below wr.heap.size wr), Below w.heap.size w x.val := fun x => BB.out.trans (x.good.mono BB.out.size)
      have e0 := fun x : Wld (Below wr.heap.size wr) => ((hgo x).cell (p := ⟨bw, ow + k * 5, none⟩) hbw).trans C0.out
      have hkx : ∀ x : Wld (Below wr.heap.size wr), x.val.heap[w.heap.size]? = _ := fun x => ((CB.out.trans (x.good.mono CB.out.size)).block _ (lt_of_block K1.out)).trans K1.out
      have d0 := fun x : Wld (Below wr.heap.size wr) => cells_of (hkx x) 0
      have d1 := fun x : Wld (Below wr.heap.size wr) => cells_of (hkx x) 1
      have d2 := fun x : Wld (Below wr.heap.size wr) => cells_of (hkx x) 2
      have d3 := fun x : Wld (Below wr.heap.size wr) => cells_of (hkx x) 3
      simp only [List.getElem?_toArray, List.getElem?_cons_zero, List.getElem?_cons_succ] at d0 d1 d2 d3
      have HG := Lib.hid hgo
      clear hgo hkx
      repeat (go_big_quiet_step ((go_at_call 35; (with_reducible refine Calls.mono (rcol_any (HT.out.below (HG.out _)) _) ?_); rintro e w2 ⟨rfl, b2⟩; exact ⟨rfl, class_below _ b2 (Nat.le_refl _)⟩)))
      refine wpQuiet_nil ?_
      intro w4 b4
      clear e0 d0 d1 d2 d3 ne HG
      have C4' := Lib.hid (BB.out.trans (b4.mono BB.out.size))
      have CB4 := Lib.hid (CB.out.trans (b4.mono CB.out.size))
      clear b4
      have hone : fitsOne T r c = if 0 ≤ colOf T c.col ∧ colOf T c.col < r.length then fitsV (r.getD (colOf T c.col).toNat default) c.op c.val else true := rfl
      generalize colOf T c.col = x at *
      by_cases hp : 0 ≤ x ∧ x < r.length
      · obtain ⟨m, rfl⟩ : ∃ m : Nat, x = m := ⟨x.toNat, by omega⟩
        have hm : m < r.length := by omega
        have hgd : r.getD m default = r[m] := by rw [List.getD_eq_getElem?_getD, List.getElem?_eq_getElem hm]; rfl
        rw [if_pos hp, Int.toNat_natCast, hgd] at hone
        have HO := Lib.hid hone
        have p1 : (0 : Int) ≤ (m : Int) := by omega
        have p2 : (m : Int) < (r.length : Int) := by omega
        obtain ⟨br, orr, rfl, _, hbr⟩ := HR.out.addr (by intro e; rw [e] at hm; cases hm)
        obtain ⟨y0, y1, y2⟩ := HR.out.val m hm
        have hs := HF.out r[m] (List.getElem_mem hm)
        have Y0 := Lib.hid y0
        have Y1 := Lib.hid y1
        have Y2 := Lib.hid y2
        clear hone hgd hp y0 y1 y2
        generalize r[m] = v at *
        obtain ⟨vk, vn, vs⟩ := v
        go_upto_region 6 with (fail)
        refine wp_region_class (Below w4.heap.size w4) (by kernel_rfl) (by kernel_rfl) (Below.drew (Below.refl _ _)) (fun ne => ?_)
        have hgo : ∀ x : Wld (Below w4.heap.size w4), Below w.heap.size w x.val := fun x => C4'.out.trans (x.good.mono C4'.out.size)
        have e1 := fun x : Wld (Below w4.heap.size w4) => ((hgo x).cell (p := ⟨bw, ow + k * 5 + 1, none⟩) hbw).trans C1.out
        have e2 := fun x : Wld (Below w4.heap.size w4) => ((hgo x).cell (p := ⟨bw, ow + k * 5 + 2, none⟩) hbw).trans C2.out
        have e3 := fun x : Wld (Below w4.heap.size w4) => ((hgo x).cell (p := ⟨bw, ow + k * 5 + 3, none⟩) hbw).trans C3.out
        have e4 := fun x : Wld (Below w4.heap.size w4) => ((hgo x).cell (p := ⟨bw, ow + k * 5 + 4, none⟩) hbw).trans C4.out
        have f0 := fun x : Wld (Below w4.heap.size w4) => ((hgo x).cell (p := ⟨br, orr + m * 3, none⟩) hbr).trans Y0.out
        have f1 := fun x : Wld (Below w4.heap.size w4) => ((hgo x).cell (p := ⟨br, orr + m * 3 + 1, none⟩) hbr).trans Y1.out
        have f2 := fun x : Wld (Below w4.heap.size w4) => ((hgo x).cell (p := ⟨br, orr + m * 3 + 2, none⟩) hbr).trans Y2.out
        clear hgo
        repeat (go_big_quiet_step ((go_at_call 36; (refine Calls.mono (rvfits_any ⟨vk, vn, vs⟩ c.val c.op hs _) ?_); rintro e w2 ⟨rfl, b2⟩; exact ⟨rfl, class_below _ b2 (Nat.le_refl _)⟩)))
        refine wpQuiet_nil ?_
        intro w5 b5
        clear e1 e2 e3 e4 f0 f1 f2 ne
        have C5 := Lib.hid (C4'.out.trans (b5.mono C4'.out.size))
        have CB5 := Lib.hid (CB4.out.trans (b5.mono CB4.out.size))
        clear b5
        cases hfv : fitsV ⟨vk, vn, vs⟩ c.op c.val
        · have HZ := Lib.hid (fitsR_not (T := T) (r := r) k h1 (by rw [← HC.out, HO.out, hfv]))
          go_wp2_with fail
          go_ret
          exact ⟨by rw [HZ.out]; rfl, C5.out⟩
        · have HZ := Lib.hid (show fitsOne T r W[k] = true by rw [← HC.out, HO.out, hfv])
          go_wp2_with fail
          go_roundw
          case rel => exact ⟨k + 1, by omega, by go_num, fun t ht htk => by rcases (show t < k ∨ t = k by omega) with h | rfl; exact HA.out t ht h; exact HZ.out, CB5.out⟩
          case measure => simp [intOf]; omega
      · rw [if_neg hp] at hone
        have HZ := Lib.hid (show fitsOne T r W[k] = true by rw [← HC.out, hone])
        clear hone
        rcases (show ¬ 0 ≤ x ∨ (0 ≤ x ∧ ¬ x < r.length) by omega) with p1 | ⟨p1, p2⟩
        · clear hp
          go_wp2_with fail
          go_roundw
          case rel => exact ⟨k + 1, by omega, by go_num, fun t ht htk => by rcases (show t < k ∨ t = k by omega) with h | rfl; exact HA.out t ht h; exact HZ.out, CB4.out⟩
          case measure => simp [intOf]; omega
        · clear hp
          go_wp2_with fail
          go_roundw
          case rel => exact ⟨k + 1, by omega, by go_num, fun t ht htk => by rcases (show t < k ∨ t = k by omega) with h | rfl; exact HA.out t ht h; exact HZ.out, CB4.out⟩
          case measure => simp [intOf]; omega
    · have hkl : k = W.length := by omega
      subst hkl
      have HZ := Lib.hid (fitsR_all fun t ht => HA.out t ht ht)
      go_wp2_with fail
      go_ret
      exact ⟨by rw [HZ.out]; rfl, B1.out.trans (CB.out.mono B1.out.size)⟩
end Go.Proofs.YtajlngkakpjncaaDoor
