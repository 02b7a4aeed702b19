/- value.Compare: it only makes memory. -/
import Derived.Test.YtajlngkakpjncaaDoorZP19
import Derived.Sort.Grow
import Derived.Lib.AppendIntMem
namespace Go.Proofs.YtajlngkakpjncaaDoor
set_option linter.unusedVariables false
set_option linter.unusedSimpArgs false
open Go.RowKit Go.Sort Go.Lib

/-- memory has been made, and the order drawn: nothing else -/
def Gr (w w' : World) : Prop := ∃ q os, w' = grow (w.drewN q) os
theorem Gr.refl (w : World) : Gr w w := ⟨0, #[], by rw [grow_empty]; rfl⟩
theorem Gr.trans {a b c : World} (h : Gr a b) (k : Gr b c) : Gr a c := by
  obtain ⟨q, os, rfl⟩ := h
  obtain ⟨q', os', rfl⟩ := k
  refine ⟨q + q', os ++ os', ?_⟩
  show grow (grow ((a.drewN q).drewN q') os) os' = _
  rw [grow_grow, World.drewN_drewN]
theorem Gr.alloc {a b : World} (h : Gr a b) (o : Obj) : Gr a (b.alloc o) := h.trans ⟨0, #[o], by rw [alloc_eq_grow]; rfl⟩
theorem Gr.drewN {a b : World} (h : Gr a b) (n : Nat) : Gr a (b.drewN n) := h.trans ⟨n, #[], by rw [grow_empty]⟩
theorem Gr.drew {a b : World} (h : Gr a b) : Gr a b.drew := h.drewN 1
theorem Gr.below {a b : World} (h : Gr a b) : Below a.heap.size a b := by
  obtain ⟨q, os, rfl⟩ := h
  exact below_grow _ _ (Nat.le_refl _) q os
theorem gr_allocs : ∀ {os : List Obj} {w W : World}, allocs w os = W → Gr w W
  | [], w, W, h => h ▸ Gr.refl _
  | o :: r, w, W, h => ((Gr.refl w).alloc o).trans (gr_allocs (os := r) h)
theorem class_gr {w0 : World} (x : Wld (Gr w0)) {w1 : World} (h : Gr x.val w1) : ∃ y : Wld (Gr w0), w1 = y.val := ⟨⟨w1, x.good.trans h⟩, rfl⟩

theorem k1_gr (a b : Val) (w : World) : Calls Tryd.prog 136 #[a.enc, b.enc] w fun e w' => e = .returned (.int .i64 0) ∧ Gr w w' := by
  unfold Val.enc
  go_enter Tryd.func136, Tryd.ntmps136
  go_wp2_with fail
  go_ret
  exact ⟨rfl, ((Gr.refl _).alloc _).alloc _⟩
theorem k2_gr (a b : Val) (w : World) : Calls Tryd.prog 137 #[a.enc, b.enc] w fun e w' => e = .returned (.int .i64 (cmpN a.n b.n)) ∧ Gr w w' := by
  unfold Val.enc
  go_enter Tryd.func137, Tryd.ntmps137
  go_wp2_with (go_at_call 138; refine (cmpl_any _ _ _).mono ?_; rintro e w1 ⟨rfl, rfl⟩)
  go_ret
  exact ⟨rfl, ((Gr.refl _).alloc _).alloc _⟩
theorem k3_gr (a b : Val) (w : World) : Calls Tryd.prog 139 #[a.enc, b.enc] w fun e w' => e = .returned (.int .i64 (cmpL a.s.data.toList b.s.data.toList)) ∧ Gr w w' := by
  unfold Val.enc
  go_enter Tryd.func139, Tryd.ntmps139
  go_wp2_with (go_at_call 140; refine (scmp_any _ _ _).mono ?_; rintro e w1 ⟨rfl, rfl⟩)
  go_ret
  exact ⟨rfl, ((Gr.refl _).alloc _).alloc _⟩

set_option maxHeartbeats 2000000 in
/-- value.Compare, for every two values -/
theorem vcmp_gr (a b : Val) (w : World) (hK : KindsAt w) : Calls Tryd.prog 23 #[a.enc, b.enc] w fun e w' => e = .returned (.int .i64 (cmpV a b)) ∧ Gr w w' := by
  have e0 : placeV a.kind ≠ placeV b.kind → cmpV a b = cmpN (placeV a.kind) (placeV b.kind) := fun h => by unfold cmpV cmpN; rw [if_pos h]
  have e1 : ∀ k, placeV a.kind = placeV b.kind → a.kind = k → 0 ≤ k → k ≤ 2 → cmpV a b = if k = 1 then cmpN a.n b.n else if k = 2 then cmpL a.s.data.toList b.s.data.toList else 0 := fun k h hk h0 h1 => by
    have hp : placeV a.kind = k := by rw [hk]; unfold placeV; rw [if_neg (by omega)]
    unfold cmpV cmpN
    rw [if_neg (by simpa using h), hp]
  have e2 : placeV a.kind = placeV b.kind → knownB a.kind = false → cmpV a b = 0 := fun h hk => by
    have hp : placeV a.kind = 3 := by unfold placeV; unfold knownB at hk; rw [if_pos (by simp at hk; omega)]
    unfold cmpV
    rw [if_neg (by simpa using h), hp]
    simp
  have e3 : cmpN (placeV a.kind) (placeV b.kind) = 0 ↔ placeV a.kind = placeV b.kind := by
    unfold cmpN ordI
    by_cases h1 : placeV a.kind < placeV b.kind
    · simp [h1]; omega
    · by_cases h2 : placeV b.kind < placeV a.kind
      · simp [h1, h2]; omega
      · simp [h1, h2]; omega
  have E0 := Lib.hid e0
  have E1 := Lib.hid e1
  have E2 := Lib.hid e2
  have E3 := Lib.hid e3
  have HK := Lib.hid hK
  clear e0 e1 e2 e3 hK
  generalize hC : cmpV a b = C at E0 E1 E2 ⊢
  clear hC
  obtain ⟨ak, an, asx⟩ := a
  obtain ⟨bk, bn, bsx⟩ := b
  obtain ⟨c, hc⟩ : ∃ c, c = cmpN (placeV ak) (placeV bk) := ⟨_, rfl⟩
  simp only at E0 E1 E2 E3
  rw [← hc] at E0 E3
  have HC := Lib.hid hc.symm
  clear hc
  unfold Val.enc
  simp only
  go_enter Tryd.func23, Tryd.ntmps23
  go_upto_region 1 with (fail)
  generalize hW : World.alloc _ _ = W
  have hA : allocs w [_, _] = W := hW
  have ka := allocs_get hA 0 rfl
  have kb := allocs_get hA 1 rfl
  have hb := gr_allocs hA
  simp only [Nat.add_zero] at ka
  have KA := Lib.hid ka
  have KB := Lib.hid kb
  have BW := Lib.hid hb
  have HKW := Lib.hid (HK.out.below hb.below)
  clear hW hA ka kb hb
  refine wp_region_class (Gr W) (by kernel_rfl) (by kernel_rfl) (Gr.refl _).drew (fun ne => ?_)
  have q0 := fun z : Wld (Gr W) => cells_of ((z.good.below.block _ (lt_of_block KA.out)).trans KA.out) 0
  have q1 := fun z : Wld (Gr W) => cells_of ((z.good.below.block _ (lt_of_block KB.out)).trans KB.out) 0
  simp only [List.getElem?_toArray, List.getElem?_cons_zero, List.getElem?_cons_succ] at q0 q1
  repeat (go_big_quiet_step (first | (go_at_call 42; (with_reducible refine Calls.mono (rank_any _ _) ?_); rintro e w2 ⟨rfl, rfl⟩; exact ⟨rfl, class_gr _ (Gr.refl _)⟩) | (go_at_call 41; (with_reducible refine Calls.mono (cmpi_any _ _ _) ?_); rintro e w2 ⟨rfl, rfl⟩; exact ⟨congrArg (fun q => Ending.returned (Value.int .i64 q)) HC.out, class_gr _ (Gr.refl _)⟩)))
  refine wpQuiet_nil ?_
  intro w1 b1
  clear q0 q1 ne
  have B1 := Lib.hid (BW.out.trans b1)
  have KA1 := Lib.hid ((b1.below.block _ (lt_of_block KA.out)).trans KA.out)
  have KB1 := Lib.hid ((b1.below.block _ (lt_of_block KB.out)).trans KB.out)
  have HK1 := Lib.hid (HKW.out.below b1.below)
  clear b1
  by_cases hp : placeV ak = placeV bk
  · have hc0 : c = 0 := E3.out.2 hp
    have HP := Lib.hid hp
    clear hp
    subst hc0
    have q0 := cells_of KA1.out 0
    simp only [List.getElem?_toArray, List.getElem?_cons_zero, List.getElem?_cons_succ] at q0
    go_wp2_with fail
    refine (known_any ak _).mono ?_
    rintro e w2 ⟨rfl, rfl⟩
    cases hk : knownB ak
    · have HKN := Lib.hid (E2.out HP.out hk)
      clear hk
      go_wp2_with fail
      go_ret
      exact ⟨by rw [HKN.out]; rfl, B1.out⟩
    · have h012 : ak = 0 ∨ ak = 1 ∨ ak = 2 := by unfold knownB at hk; simp at hk; omega
      clear hk
      rcases h012 with rfl | rfl | rfl
      · have HE := Lib.hid (E1.out 0 HP.out rfl (by decide) (by decide))
        go_upto_region 4 with (fail)
        refine wp_region_class (Gr w1) (by kernel_rfl) (by kernel_rfl) (Gr.refl _).drew (fun ne => ?_)
        have k0 := fun z : Wld (Gr w1) => (HK1.out.below z.good.below).1
        have a0 := fun z : Wld (Gr w1) => cells_of ((z.good.below.block _ (lt_of_block KA1.out)).trans KA1.out) 0
        have a1 := fun z : Wld (Gr w1) => cells_of ((z.good.below.block _ (lt_of_block KA1.out)).trans KA1.out) 1
        have a2 := fun z : Wld (Gr w1) => cells_of ((z.good.below.block _ (lt_of_block KA1.out)).trans KA1.out) 2
        have b0 := fun z : Wld (Gr w1) => cells_of ((z.good.below.block _ (lt_of_block KB1.out)).trans KB1.out) 0
        have b1 := fun z : Wld (Gr w1) => cells_of ((z.good.below.block _ (lt_of_block KB1.out)).trans KB1.out) 1
        have b2 := fun z : Wld (Gr w1) => cells_of ((z.good.below.block _ (lt_of_block KB1.out)).trans KB1.out) 2
        simp only [List.getElem?_toArray, List.getElem?_cons_zero, List.getElem?_cons_succ] at a0 a1 a2 b0 b1 b2
        repeat (go_big_quiet_step ((go_at_call 136; (refine Calls.mono (k1_gr ⟨0, an, asx⟩ ⟨bk, bn, bsx⟩ _) ?_); rintro e w2 ⟨rfl, b2⟩; exact ⟨rfl, class_gr _ b2⟩)))
        refine wpQuiet_nil ?_
        intro w3 b3
        have B3 := Lib.hid (B1.out.trans b3)
        clear b3 k0 a0 a1 a2 b0 b1 b2 ne q0
        go_wp2_with fail
        go_ret
        exact ⟨by rw [HE.out]; rfl, B3.out⟩
      · have HE := Lib.hid (E1.out 1 HP.out rfl (by decide) (by decide))
        go_upto_region 4 with (fail)
        refine wp_region_class (Gr w1) (by kernel_rfl) (by kernel_rfl) (Gr.refl _).drew (fun ne => ?_)
        have k0 := fun z : Wld (Gr w1) => (HK1.out.below z.good.below).2.1
        have a0 := fun z : Wld (Gr w1) => cells_of ((z.good.below.block _ (lt_of_block KA1.out)).trans KA1.out) 0
        have a1 := fun z : Wld (Gr w1) => cells_of ((z.good.below.block _ (lt_of_block KA1.out)).trans KA1.out) 1
        have a2 := fun z : Wld (Gr w1) => cells_of ((z.good.below.block _ (lt_of_block KA1.out)).trans KA1.out) 2
        have b0 := fun z : Wld (Gr w1) => cells_of ((z.good.below.block _ (lt_of_block KB1.out)).trans KB1.out) 0
        have b1 := fun z : Wld (Gr w1) => cells_of ((z.good.below.block _ (lt_of_block KB1.out)).trans KB1.out) 1
        have b2 := fun z : Wld (Gr w1) => cells_of ((z.good.below.block _ (lt_of_block KB1.out)).trans KB1.out) 2
        simp only [List.getElem?_toArray, List.getElem?_cons_zero, List.getElem?_cons_succ] at a0 a1 a2 b0 b1 b2
        repeat (go_big_quiet_step ((go_at_call 137; (refine Calls.mono (k2_gr ⟨1, an, asx⟩ ⟨bk, bn, bsx⟩ _) ?_); rintro e w2 ⟨rfl, b2⟩; exact ⟨rfl, class_gr _ b2⟩)))
        refine wpQuiet_nil ?_
        intro w3 b3
        have B3 := Lib.hid (B1.out.trans b3)
        clear b3 k0 a0 a1 a2 b0 b1 b2 ne q0
        go_wp2_with fail
        go_ret
        exact ⟨by rw [HE.out]; rfl, B3.out⟩
      · have HE := Lib.hid (E1.out 2 HP.out rfl (by decide) (by decide))
        go_upto_region 4 with (fail)
        refine wp_region_class (Gr w1) (by kernel_rfl) (by kernel_rfl) (Gr.refl _).drew (fun ne => ?_)
        have k0 := fun z : Wld (Gr w1) => (HK1.out.below z.good.below).2.2
        have a0 := fun z : Wld (Gr w1) => cells_of ((z.good.below.block _ (lt_of_block KA1.out)).trans KA1.out) 0
        have a1 := fun z : Wld (Gr w1) => cells_of ((z.good.below.block _ (lt_of_block KA1.out)).trans KA1.out) 1
        have a2 := fun z : Wld (Gr w1) => cells_of ((z.good.below.block _ (lt_of_block KA1.out)).trans KA1.out) 2
        have b0 := fun z : Wld (Gr w1) => cells_of ((z.good.below.block _ (lt_of_block KB1.out)).trans KB1.out) 0
        have b1 := fun z : Wld (Gr w1) => cells_of ((z.good.below.block _ (lt_of_block KB1.out)).trans KB1.out) 1
        have b2 := fun z : Wld (Gr w1) => cells_of ((z.good.below.block _ (lt_of_block KB1.out)).trans KB1.out) 2
        simp only [List.getElem?_toArray, List.getElem?_cons_zero, List.getElem?_cons_succ] at a0 a1 a2 b0 b1 b2
        repeat (go_big_quiet_step ((go_at_call 139; (refine Calls.mono (k3_gr ⟨2, an, asx⟩ ⟨bk, bn, bsx⟩ _) ?_); rintro e w2 ⟨rfl, b2⟩; exact ⟨rfl, class_gr _ b2⟩)))
        refine wpQuiet_nil ?_
        intro w3 b3
        have B3 := Lib.hid (B1.out.trans b3)
        clear b3 k0 a0 a1 a2 b0 b1 b2 ne q0
        go_wp2_with fail
        go_ret
        exact ⟨by rw [HE.out]; rfl, B3.out⟩
  · have hne : c ≠ 0 := fun e => hp (E3.out.1 e)
    have h2 : (c != 0) = true := by simpa using hne
    have HE := Lib.hid (E0.out hp)
    clear hp hne
    go_wp2_with fail
    go_ret
    exact ⟨by rw [HE.out]; rfl, B1.out⟩
end Go.Proofs.YtajlngkakpjncaaDoor
