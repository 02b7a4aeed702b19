/- value.Compare: what it computes. -/
import Derived.Test.YtajlngkakpjncaaDoorZP18
import Derived.Test.YtajlngkakpjncaaDoorZP11
import Derived.Test.YtajlngkakpjncaaDoorZP1
namespace Go.Proofs.YtajlngkakpjncaaDoor
set_option linter.unusedVariables false
set_option linter.unusedSimpArgs false
open Go.RowKit

/-- the table of comparison functions lies where the program laid it -/
def KindsAt (w : World) : Prop :=
  w.cell? ⟨0, 0, none⟩ = some (.func (.func 136) #[] #[]) ∧ w.cell? ⟨0, 1, none⟩ = some (.func (.func 137) #[] #[]) ∧ w.cell? ⟨0, 2, none⟩ = some (.func (.func 139) #[] #[])
theorem KindsAt.below {w w' : World} (h : KindsAt w) (hb : Below w.heap.size w w') : KindsAt w' := by
  have hl := World.block_lt_of_cell? w _ h.1
  exact ⟨(hb.cell (p := ⟨0, 0, none⟩) hl).trans h.1, (hb.cell (p := ⟨0, 1, none⟩) hl).trans h.2.1, (hb.cell (p := ⟨0, 2, none⟩) hl).trans h.2.2⟩

def cmpN (a b : Int) : Int := ordI (decide (a < b)) (decide (b < a))
theorem nani_any (x : Int) (w : World) : Calls Tryd.prog 62 #[.int .i64 x] w fun e w' => e = .returned (.bool false) ∧ w = w' := by
  go_enter Tryd.func62, Tryd.ntmps62
  go_wp2_with fail
  go_ret
  exact ⟨by simp, rfl⟩
theorem nanl_any (x : Int) (w : World) : Calls Tryd.prog 141 #[.int .i64 x] w fun e w' => e = .returned (.bool false) ∧ w = w' := by
  go_enter Tryd.func141, Tryd.ntmps141
  go_wp2_with fail
  go_ret
  exact ⟨by simp, rfl⟩
theorem cmpi_any (x y : Int) (w : World) : Calls Tryd.prog 41 #[.int .i64 x, .int .i64 y] w fun e w' => e = .returned (.int .i64 (cmpN x y)) ∧ w = w' := by
  unfold cmpN
  rcases (show x < y ∨ x = y ∨ y < x by omega) with h | rfl | h
  · have h2 : ¬ y < x := by omega
    go_enter Tryd.func41, Tryd.ntmps41
    go_wp2_with (go_at_call 62; refine (nani_any _ _).mono ?_; rintro e w1 ⟨rfl, rfl⟩)
    go_ret
    exact ⟨by simp [ordI, h], rfl⟩
  · go_enter Tryd.func41, Tryd.ntmps41
    go_wp2_with (go_at_call 62; refine (nani_any _ _).mono ?_; rintro e w1 ⟨rfl, rfl⟩)
    go_ret
    exact ⟨by simp [ordI], rfl⟩
  · have h2 : ¬ x < y := by omega
    go_enter Tryd.func41, Tryd.ntmps41
    go_wp2_with (go_at_call 62; refine (nani_any _ _).mono ?_; rintro e w1 ⟨rfl, rfl⟩)
    go_ret
    exact ⟨by simp [ordI, h, h2], rfl⟩
theorem cmpl_any (x y : Int) (w : World) : Calls Tryd.prog 138 #[.int .i64 x, .int .i64 y] w fun e w' => e = .returned (.int .i64 (cmpN x y)) ∧ w = w' := by
  unfold cmpN
  rcases (show x < y ∨ x = y ∨ y < x by omega) with h | rfl | h
  · have h2 : ¬ y < x := by omega
    go_enter Tryd.func138, Tryd.ntmps138
    go_wp2_with (go_at_call 141; refine (nanl_any _ _).mono ?_; rintro e w1 ⟨rfl, rfl⟩)
    go_ret
    exact ⟨by simp [ordI, h], rfl⟩
  · go_enter Tryd.func138, Tryd.ntmps138
    go_wp2_with (go_at_call 141; refine (nanl_any _ _).mono ?_; rintro e w1 ⟨rfl, rfl⟩)
    go_ret
    exact ⟨by simp [ordI], rfl⟩
  · have h2 : ¬ x < y := by omega
    go_enter Tryd.func138, Tryd.ntmps138
    go_wp2_with (go_at_call 141; refine (nanl_any _ _).mono ?_; rintro e w1 ⟨rfl, rfl⟩)
    go_ret
    exact ⟨by simp [ordI, h, h2], rfl⟩
theorem cmpL_lib : ∀ a b : List UInt8, Lib.compareBytes a b = cmpL a b
  | [], [] => rfl
  | [], _ :: _ => rfl
  | _ :: _, [] => rfl
  | a :: x, b :: y => by
    rw [Lib.compareBytes, cmpL, cmpL_lib x y]
    by_cases h : a = b
    · subst h
      have : ¬ a < a := UInt8.lt_irrefl a
      simp [this]
    · rw [if_neg h]
      have hne : a.toNat ≠ b.toNat := fun e => h (UInt8.toNat.inj e)
      by_cases h1 : a < b
      · have : a.toNat < b.toNat := UInt8.lt_iff_toNat_lt.1 h1
        rw [if_pos h1, if_pos this]
      · have h2 : ¬ a.toNat < b.toNat := fun e => h1 (UInt8.lt_iff_toNat_lt.2 e)
        have h3 : b < a := UInt8.lt_iff_toNat_lt.2 (by omega)
        rw [if_neg h1, if_neg h2, if_pos h3]
theorem scmp_any (a b : ByteArray) (w : World) : Calls Tryd.prog 140 #[.string a, .string b] w fun e w' => e = .returned (.int .i64 (cmpL a.data.toList b.data.toList)) ∧ w = w' := by
  rw [← cmpL_lib]
  exact (Tryd.strings_Compare a b w).mono fun _ _ ⟨h, h'⟩ => ⟨h, h'.symm⟩
theorem rank_any (k : Int) (w : World) : Calls Tryd.prog 42 #[.int .i64 k] w fun e w' => e = .returned (.int .i64 (placeV k)) ∧ w = w' := by
  have h0 : knownB k = false → placeV k = 3 := fun h => by
    unfold knownB at h
    unfold placeV
    rw [if_pos (by simp at h; omega)]
  have h1 : knownB k = true → placeV k = k := fun h => by
    unfold knownB at h
    unfold placeV
    rw [if_neg (by simp at h; omega)]
  have H0 := Lib.hid h0
  have H1 := Lib.hid h1
  clear h0 h1
  go_enter Tryd.func42, Tryd.ntmps42
  go_wp2_with fail
  refine (known_any k _).mono ?_
  rintro e w1 ⟨rfl, rfl⟩
  cases hk : knownB k
  · go_wp2_with fail
    go_ret
    exact ⟨by rw [H0.out hk]; rfl, rfl⟩
  · go_wp2_with fail
    go_ret
    exact ⟨by rw [H1.out hk]; rfl, rfl⟩
theorem k1_any (a b : Val) (w : World) : Calls Tryd.prog 136 #[a.enc, b.enc] w fun e w' => e = .returned (.int .i64 0) ∧ Below w.heap.size w w' := by
  unfold Val.enc
  go_enter Tryd.func136, Tryd.ntmps136
  go_wp2_with fail
  go_ret
  exact ⟨rfl, ((Below.refl _ _).alloc (Nat.le_refl _) _).alloc (by simp) _⟩
theorem k2_any (a b : Val) (w : World) : Calls Tryd.prog 137 #[a.enc, b.enc] w fun e w' => e = .returned (.int .i64 (cmpN a.n b.n)) ∧ Below w.heap.size w w' := by
  unfold Val.enc
  go_enter Tryd.func137, Tryd.ntmps137
  go_wp2_with (go_at_call 138; refine (cmpl_any _ _ _).mono ?_; rintro e w1 ⟨rfl, rfl⟩)
  go_ret
  exact ⟨rfl, ((Below.refl _ _).alloc (Nat.le_refl _) _).alloc (by simp) _⟩
theorem k3_any (a b : Val) (w : World) : Calls Tryd.prog 139 #[a.enc, b.enc] w fun e w' => e = .returned (.int .i64 (cmpL a.s.data.toList b.s.data.toList)) ∧ Below w.heap.size w w' := by
  unfold Val.enc
  go_enter Tryd.func139, Tryd.ntmps139
  go_wp2_with (go_at_call 140; refine (scmp_any _ _ _).mono ?_; rintro e w1 ⟨rfl, rfl⟩)
  go_ret
  exact ⟨rfl, ((Below.refl _ _).alloc (Nat.le_refl _) _).alloc (by simp) _⟩

set_option maxHeartbeats 2000000 in
/-- value.Compare, for every two values -/
theorem vcmp_any (a b : Val) (w : World) (hK : KindsAt w) : Calls Tryd.prog 23 #[a.enc, b.enc] w fun e w' => e = .returned (.int .i64 (cmpV a b)) ∧ Below w.heap.size w w' := by
  have e0 : placeV a.kind ≠ placeV b.kind → cmpV a b = cmpN (placeV a.kind) (placeV b.kind) := fun h => by unfold cmpV cmpN; rw [if_pos h]
  have e1 : ∀ k, placeV a.kind = placeV b.kind → a.kind = k → 0 ≤ k → k ≤ 2 → cmpV a b = if k = 1 then cmpN a.n b.n else if k = 2 then cmpL a.s.data.toList b.s.data.toList else 0 := fun k h hk h0 h1 => by
    have hp : placeV a.kind = k := by rw [hk]; unfold placeV; rw [if_neg (by omega)]
    unfold cmpV cmpN
    rw [if_neg (by simpa using h), hp]
  have e2 : placeV a.kind = placeV b.kind → knownB a.kind = false → cmpV a b = 0 := fun h hk => by
    have hp : placeV a.kind = 3 := by unfold placeV; unfold knownB at hk; rw [if_pos (by simp at hk; omega)]
    unfold cmpV
    rw [if_neg (by simpa using h), hp]
    simp
  have e3 : cmpN (placeV a.kind) (placeV b.kind) = 0 ↔ placeV a.kind = placeV b.kind := by
    unfold cmpN ordI
    by_cases h1 : placeV a.kind < placeV b.kind
    · simp [h1]; omega
    · by_cases h2 : placeV b.kind < placeV a.kind
      · simp [h1, h2]; omega
      · simp [h1, h2]; omega
  have E0 := Lib.hid e0
  have E1 := Lib.hid e1
  have E2 := Lib.hid e2
  have E3 := Lib.hid e3
  have HK := Lib.hid hK
  clear e0 e1 e2 e3 hK
  generalize hC : cmpV a b = C at E0 E1 E2 ⊢
  clear hC
  obtain ⟨ak, an, asx⟩ := a
  obtain ⟨bk, bn, bsx⟩ := b
  obtain ⟨c, hc⟩ : ∃ c, c = cmpN (placeV ak) (placeV bk) := ⟨_, rfl⟩
  simp only at E0 E1 E2 E3
  rw [← hc] at E0 E3
  have HC := Lib.hid hc.symm
  clear hc
  unfold Val.enc
  simp only
  go_enter Tryd.func23, Tryd.ntmps23
  go_upto_region 1 with (fail)
  generalize hW : World.alloc _ _ = W
  have hA : allocs w [_, _] = W := hW
  have ka := allocs_get hA 0 rfl
  have kb := allocs_get hA 1 rfl
  have hb := allocs_self hA
  simp only [Nat.add_zero] at ka
  have KA := Lib.hid ka
  have KB := Lib.hid kb
  have BW := Lib.hid hb
  have HKW := Lib.hid (HK.out.below hb)
  clear hW hA ka kb hb
  refine wp_region_class (Below W.heap.size W) (by kernel_rfl) (by kernel_rfl) (Below.drew (Below.refl _ _)) (fun ne => ?_)
  have q0 := fun z : Wld (Below W.heap.size W) => cells_of ((z.good.block _ (lt_of_block KA.out)).trans KA.out) 0
  have q1 := fun z : Wld (Below W.heap.size W) => cells_of ((z.good.block _ (lt_of_block KB.out)).trans KB.out) 0
  simp only [List.getElem?_toArray, List.getElem?_cons_zero, List.getElem?_cons_succ] at q0 q1
  repeat (go_big_quiet_step (first | (go_at_call 42; (with_reducible refine Calls.mono (rank_any _ _) ?_); rintro e w2 ⟨rfl, rfl⟩; exact ⟨rfl, class_below _ (Below.refl _ _) (Nat.le_refl _)⟩) | (go_at_call 41; (with_reducible refine Calls.mono (cmpi_any _ _ _) ?_); rintro e w2 ⟨rfl, rfl⟩; exact ⟨congrArg (fun q => Ending.returned (Value.int .i64 q)) HC.out, class_below _ (Below.refl _ _) (Nat.le_refl _)⟩)))
  refine wpQuiet_nil ?_
  intro w1 b1
  clear q0 q1 ne
  have B1 := Lib.hid (BW.out.trans (b1.mono BW.out.size))
  have KA1 := Lib.hid ((b1.block _ (lt_of_block KA.out)).trans KA.out)
  have KB1 := Lib.hid ((b1.block _ (lt_of_block KB.out)).trans KB.out)
  have HK1 := Lib.hid (HKW.out.below b1)
  clear b1
  by_cases hp : placeV ak = placeV bk
  · have hc0 : c = 0 := E3.out.2 hp
    have HP := Lib.hid hp
    clear hp
    subst hc0
    have q0 := cells_of KA1.out 0
    simp only [List.getElem?_toArray, List.getElem?_cons_zero, List.getElem?_cons_succ] at q0
    go_wp2_with fail
    refine (known_any ak _).mono ?_
    rintro e w2 ⟨rfl, rfl⟩
    cases hk : knownB ak
    · have HKN := Lib.hid (E2.out HP.out hk)
      clear hk
      go_wp2_with fail
      go_ret
      exact ⟨by rw [HKN.out]; rfl, B1.out⟩
    · have h012 : ak = 0 ∨ ak = 1 ∨ ak = 2 := by unfold knownB at hk; simp at hk; omega
      clear hk
      rcases h012 with rfl | rfl | rfl
      · have HE := Lib.hid (E1.out 0 HP.out rfl (by decide) (by decide))
        go_upto_region 4 with (fail)
        refine wp_region_class (Below w1.heap.size w1) (by kernel_rfl) (by kernel_rfl) (Below.drew (Below.refl _ _)) (fun ne => ?_)
        have k0 := fun z : Wld (Below w1.heap.size w1) => (HK1.out.below z.good).1
        have a0 := fun z : Wld (Below w1.heap.size w1) => cells_of ((z.good.block _ (lt_of_block KA1.out)).trans KA1.out) 0
        have a1 := fun z : Wld (Below w1.heap.size w1) => cells_of ((z.good.block _ (lt_of_block KA1.out)).trans KA1.out) 1
        have a2 := fun z : Wld (Below w1.heap.size w1) => cells_of ((z.good.block _ (lt_of_block KA1.out)).trans KA1.out) 2
        have b0 := fun z : Wld (Below w1.heap.size w1) => cells_of ((z.good.block _ (lt_of_block KB1.out)).trans KB1.out) 0
        have b1 := fun z : Wld (Below w1.heap.size w1) => cells_of ((z.good.block _ (lt_of_block KB1.out)).trans KB1.out) 1
        have b2 := fun z : Wld (Below w1.heap.size w1) => cells_of ((z.good.block _ (lt_of_block KB1.out)).trans KB1.out) 2
        simp only [List.getElem?_toArray, List.getElem?_cons_zero, List.getElem?_cons_succ] at a0 a1 a2 b0 b1 b2
        repeat (go_big_quiet_step ((go_at_call 136; (refine Calls.mono (k1_any ⟨0, an, asx⟩ ⟨bk, bn, bsx⟩ _) ?_); rintro e w2 ⟨rfl, b2⟩; exact ⟨rfl, class_below _ b2 (Nat.le_refl _)⟩)))
        refine wpQuiet_nil ?_
        intro w3 b3
        have B3 := Lib.hid (B1.out.trans (b3.mono B1.out.size))
        clear b3 k0 a0 a1 a2 b0 b1 b2 ne q0
        go_wp2_with fail
        go_ret
        exact ⟨by rw [HE.out]; rfl, B3.out⟩
      · have HE := Lib.hid (E1.out 1 HP.out rfl (by decide) (by decide))
        go_upto_region 4 with (fail)
        refine wp_region_class (Below w1.heap.size w1) (by kernel_rfl) (by kernel_rfl) (Below.drew (Below.refl _ _)) (fun ne => ?_)
        have k0 := fun z : Wld (Below w1.heap.size w1) => (HK1.out.below z.good).2.1
        have a0 := fun z : Wld (Below w1.heap.size w1) => cells_of ((z.good.block _ (lt_of_block KA1.out)).trans KA1.out) 0
        have a1 := fun z : Wld (Below w1.heap.size w1) => cells_of ((z.good.block _ (lt_of_block KA1.out)).trans KA1.out) 1
        have a2 := fun z : Wld (Below w1.heap.size w1) => cells_of ((z.good.block _ (lt_of_block KA1.out)).trans KA1.out) 2
        have b0 := fun z : Wld (Below w1.heap.size w1) => cells_of ((z.good.block _ (lt_of_block KB1.out)).trans KB1.out) 0
        have b1 := fun z : Wld (Below w1.heap.size w1) => cells_of ((z.good.block _ (lt_of_block KB1.out)).trans KB1.out) 1
        have b2 := fun z : Wld (Below w1.heap.size w1) => cells_of ((z.good.block _ (lt_of_block KB1.out)).trans KB1.out) 2
        simp only [List.getElem?_toArray, List.getElem?_cons_zero, List.getElem?_cons_succ] at a0 a1 a2 b0 b1 b2
        repeat (go_big_quiet_step ((go_at_call 137; (refine Calls.mono (k2_any ⟨1, an, asx⟩ ⟨bk, bn, bsx⟩ _) ?_); rintro e w2 ⟨rfl, b2⟩; exact ⟨rfl, class_below _ b2 (Nat.le_refl _)⟩)))
        refine wpQuiet_nil ?_
        intro w3 b3
        have B3 := Lib.hid (B1.out.trans (b3.mono B1.out.size))
        clear b3 k0 a0 a1 a2 b0 b1 b2 ne q0
        go_wp2_with fail
        go_ret
        exact ⟨by rw [HE.out]; rfl, B3.out⟩
      · have HE := Lib.hid (E1.out 2 HP.out rfl (by decide) (by decide))
        go_upto_region 4 with (fail)
        refine wp_region_class (Below w1.heap.size w1) (by kernel_rfl) (by kernel_rfl) (Below.drew (Below.refl _ _)) (fun ne => ?_)
        have k0 := fun z : Wld (Below w1.heap.size w1) => (HK1.out.below z.good).2.2
        have a0 := fun z : Wld (Below w1.heap.size w1) => cells_of ((z.good.block _ (lt_of_block KA1.out)).trans KA1.out) 0
        have a1 := fun z : Wld (Below w1.heap.size w1) => cells_of ((z.good.block _ (lt_of_block KA1.out)).trans KA1.out) 1
        have a2 := fun z : Wld (Below w1.heap.size w1) => cells_of ((z.good.block _ (lt_of_block KA1.out)).trans KA1.out) 2
        have b0 := fun z : Wld (Below w1.heap.size w1) => cells_of ((z.good.block _ (lt_of_block KB1.out)).trans KB1.out) 0
        have b1 := fun z : Wld (Below w1.heap.size w1) => cells_of ((z.good.block _ (lt_of_block KB1.out)).trans KB1.out) 1
        have b2 := fun z : Wld (Below w1.heap.size w1) => cells_of ((z.good.block _ (lt_of_block KB1.out)).trans KB1.out) 2
        simp only [List.getElem?_toArray, List.getElem?_cons_zero, List.getElem?_cons_succ] at a0 a1 a2 b0 b1 b2
        repeat (go_big_quiet_step ((go_at_call 139; (refine Calls.mono (k3_any ⟨2, an, asx⟩ ⟨bk, bn, bsx⟩ _) ?_); rintro e w2 ⟨rfl, b2⟩; exact ⟨rfl, class_below _ b2 (Nat.le_refl _)⟩)))
        refine wpQuiet_nil ?_
        intro w3 b3
        have B3 := Lib.hid (B1.out.trans (b3.mono B1.out.size))
        clear b3 k0 a0 a1 a2 b0 b1 b2 ne q0
        go_wp2_with fail
        go_ret
        exact ⟨by rw [HE.out]; rfl, B3.out⟩
  · have hne : c ≠ 0 := fun e => hp (E3.out.1 e)
    have h2 : (c != 0) = true := by simpa using hne
    have HE := Lib.hid (E0.out hp)
    clear hp hne
    go_wp2_with fail
    go_ret
    exact ⟨by rw [HE.out]; rfl, B1.out⟩
end Go.Proofs.YtajlngkakpjncaaDoor
