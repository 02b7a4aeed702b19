/- The reference's comparison of values and its Fits. -/
import Derived.Test.YtgemihkcihigpaaGreatDoorZB10
import Derived.Test.YtgemihkcihigpaaGreatDoorZB8
set_option linter.unusedVariables false
set_option linter.unusedSimpArgs false
namespace Go.Proofs.YtgemihkcihigpaaGreatDoor
open Go.Lib (hid)
section
open Go.RowKit
theorem order_any (l m : Bool) (w : World) :
 Calls Tryz.prog 146 #[.bool l, .bool m] w fun e w' => e = .returned (.int .i64 (ordI l m)) /\ w = w' := by
 cases l <;> cases m
 all_goals
  go_enter Tryz.func146, Tryz.ntmps146
  go_wp2_with fail
  go_ret
  exact ⟨rfl, rfl⟩
theorem place_any (k : Int) (w : World) :
 Calls Tryz.prog 125 #[.int .i64 k] w fun e w' => e = .returned (.int .i64 (placeV k)) /\ w = w' := by
 unfold placeV
 by_cases h1 : k < 0
 · rw [if_pos (Or.inl h1)]
   go_enter Tryz.func125, Tryz.ntmps125
   go_wp2_with fail
   go_ret
   exact ⟨rfl, rfl⟩
 · by_cases h2 : 2 < k
   · rw [if_pos (Or.inr h2)]
     go_enter Tryz.func125, Tryz.ntmps125
     go_wp2_with fail
     go_ret
     exact ⟨rfl, rfl⟩
   · rw [if_neg (by omega)]
     go_enter Tryz.func125, Tryz.ntmps125
     go_wp2_with fail
     go_ret
     exact ⟨rfl, rfl⟩
set_option maxHeartbeats 2000000 in
theorem texts_any (a b : ByteArray) (ha : a.size <= 140737488355328) (w : World) :
 Calls Tryz.prog 147 #[.string a, .string b] w fun e w' => e = .returned (.int .i64 (cmpL a.data.toList b.data.toList)) /\ Below w.heap.size w w' := by
 go_enter Tryz.func147, Tryz.ntmps147
 go_wp2_with fail
 go_loopw [5] (fun i wr => ∃ k : Nat, k <= a.size /\ k <= b.size /\ i = .int .i64 k /\ cmpL a.data.toList b.data.toList = cmpL (a.data.toList.drop k) (b.data.toList.drop k) /\ Below w.heap.size w wr) (fun i _ => a.size - (intOf i).toNat)
 case atStart => exact ⟨0, by omega, by omega, rfl, rfl, Below.refl _ _⟩
 case round =>
  obtain ⟨j, hja, hjb, rfl, hc, hb⟩ := hrel
  have HC := hid hc
  have HB := hid hb
  clear hc hb
  have la : a.data.toList.length = a.size := by rw [Array.length_toList]; rfl
  have lb : b.data.toList.length = b.size := by rw [Array.length_toList]; rfl
  by_cases h1 : j < a.size
  · by_cases h2 : j < b.size
    · have hd := cmpL_drop a.data.toList b.data.toList j (by omega) (by omega)
      have ea : a.data.toList[j] = a[j] := by rw [Array.getElem_toList]; rfl
      have eb : b.data.toList[j] = b[j] := by rw [Array.getElem_toList]; rfl
      rw [ea, eb] at hd
      have HD := hid (HC.out.trans hd)
      clear hd ea eb la lb
      by_cases hz : a[j] = b[j]
      · have HZ := hid hz
        have hz1 : (((a[j]).toNat : Int) == ((b[j]).toNat : Int)) = true := by rw [hz]; simp
        clear hz
        go_wp2_with fail
        go_quiet (fail)
        go_wp2_with fail
        go_roundw
        case rel => exact ⟨j + 1, by omega, by omega, by go_num, HD.out.trans (if_pos HZ.out), below_drewN HB.out _⟩
        case measure => simp [intOf]; omega
      · have hne : (a[j]).toNat ≠ (b[j]).toNat := fun e => hz (UInt8.toNat.inj e)
        have HZ := hid (HD.out.trans (if_neg hz))
        clear hz
        have hz1 : (((a[j]).toNat : Int) == ((b[j]).toNat : Int)) = false := by simp; omega
        by_cases hl : (a[j]).toNat < (b[j]).toNat
        · have hl1 : ((a[j]).toNat : Int) < ((b[j]).toNat : Int) := by omega
          have hl2 : ¬ ((b[j]).toNat : Int) < ((a[j]).toNat : Int) := by omega
          have HR := hid (HZ.out.trans (if_pos hl))
          clear hl hne HD
          go_wp2_with fail
          go_quiet (fail)
          go_wp2_with fail
          generalize hW : wr.drewN _ = W
          have BW := hid (hW ▸ below_drewN HB.out _ : Below w.heap.size w W)
          clear hW HB
          refine wp_region_class (Below W.heap.size W) (by kernel_rfl) (by kernel_rfl) (Below.drew b0R) (fun ne => ?_)
          repeat (go_big_quiet_step ((go_at_call 146; refine (order_any _ _ _).mono ?_; rintro e w2 ⟨rfl, rfl⟩; exact ⟨rfl, class_below _ b0R (Nat.le_refl _)⟩)))
          refine wpQuiet_nil ?_
          intro w4 b4
          have C4 := hid (BW.out.trans (b4.mono BW.out.size))
          clear b4
          go_wp2_with fail
          go_ret
          exact ⟨by rw [HR.out]; first | rfl | (simp [ordI]; omega), C4.out⟩
        · have hl1 : ((b[j]).toNat : Int) < ((a[j]).toNat : Int) := by omega
          have hl2 : ¬ ((a[j]).toNat : Int) < ((b[j]).toNat : Int) := by omega
          have HR := hid (HZ.out.trans (if_neg hl))
          clear hl hne HD
          go_wp2_with fail
          go_quiet (fail)
          go_wp2_with fail
          generalize hW : wr.drewN _ = W
          have BW := hid (hW ▸ below_drewN HB.out _ : Below w.heap.size w W)
          clear hW HB
          refine wp_region_class (Below W.heap.size W) (by kernel_rfl) (by kernel_rfl) (Below.drew b0R) (fun ne => ?_)
          repeat (go_big_quiet_step ((go_at_call 146; refine (order_any _ _ _).mono ?_; rintro e w2 ⟨rfl, rfl⟩; exact ⟨rfl, class_below _ b0R (Nat.le_refl _)⟩)))
          refine wpQuiet_nil ?_
          intro w4 b4
          have C4 := hid (BW.out.trans (b4.mono BW.out.size))
          clear b4
          go_wp2_with fail
          go_ret
          exact ⟨by rw [HR.out]; first | rfl | (simp [ordI]; omega), C4.out⟩
    · have HE := hid (HC.out.trans (cmpL_end _ _ j (by omega) (by omega) (by omega)))
      rw [la, lb] at HE
      clear la lb
      go_wp2_with fail
      refine (order_any _ _ _).mono ?_
      rintro e w2 ⟨rfl, rfl⟩
      go_wp2_with fail
      go_ret
      exact ⟨by rw [HE.out]; rfl, HB.out⟩
  · have HE := hid (HC.out.trans (cmpL_end _ _ j (by omega) (by omega) (by omega)))
    rw [la, lb] at HE
    clear la lb
    go_wp2_with fail
    refine (order_any _ _ _).mono ?_
    rintro e w2 ⟨rfl, rfl⟩
    go_wp2_with fail
    go_ret
    exact ⟨by rw [HE.out]; rfl, HB.out⟩
set_option maxHeartbeats 2000000 in
theorem rcompare_any (a b : Val) (ha : a.s.size <= 140737488355328) (w : World) :
 Calls Tryz.prog 115 #[a.enc, b.enc] w fun e w' => e = .returned (.int .i64 (cmpV a b)) /\ Below w.heap.size w w' := by
 have HB := hid (((Below.refl w.heap.size w).alloc (Nat.le_refl _) (.cells #[.int .i64 a.kind, .int .i64 a.n, .string a.s] 55)).alloc (by simp) (.cells #[.int .i64 b.kind, .int .i64 b.n, .string b.s] 55))
 obtain ⟨x, hx⟩ : ∃ x, placeV a.kind = x := ⟨_, rfl⟩
 obtain ⟨y, hy⟩ : ∃ y, placeV b.kind = y := ⟨_, rfl⟩
 have hv : cmpV a b = if x ≠ y then ordI (decide (x < y)) (decide (y < x)) else if x = 1 then ordI (decide (a.n < b.n)) (decide (b.n < a.n)) else if x = 2 then cmpL a.s.data.toList b.s.data.toList else 0 := by unfold cmpV; rw [hx, hy]
 have HX := hid hx
 have HY := hid hy
 clear hx hy
 show Calls _ _ #[.agg #[.int .i64 a.kind, .int .i64 a.n, .string a.s], .agg #[.int .i64 b.kind, .int .i64 b.n, .string b.s]] _ _
 go_enter Tryz.func115, Tryz.ntmps115
 go_upto_region 1 with (fail)
 have HV := hid hv
 clear hv
 go_wp2_with fail
 refine (place_any _ _).mono ?_
 rintro e w2 ⟨rfl, rfl⟩
 rw [HX.out]
 go_wp2_with fail
 refine (place_any _ _).mono ?_
 rintro e w2 ⟨rfl, rfl⟩
 rw [HY.out]
 by_cases h1 : x = y
 · subst h1
   have HW := hid (HV.out.trans (if_neg (by simp)))
   clear HV
   by_cases h2 : x = 1
   · subst h2
     have HV := hid (HW.out.trans (if_pos rfl))
     go_wp2_with fail
     refine (order_any _ _ _).mono ?_
     rintro e w2 ⟨rfl, rfl⟩
     go_wp2_with fail
     go_ret
     exact ⟨by rw [HV.out]; rfl, HB.out⟩
   · have HV := hid (HW.out.trans (if_neg h2))
     clear HW
     by_cases h3 : x = 2
     · subst h3
       have HW := hid (HV.out.trans (if_pos rfl))
       go_wp2_with fail
       refine (texts_any _ _ ha _).mono ?_
       rintro e w2 ⟨rfl, b2⟩
       go_wp2_with fail
       go_ret
       exact ⟨by rw [HW.out]; rfl, HB.out.trans (b2.mono HB.out.size)⟩
     · have HW := hid (HV.out.trans (if_neg h3))
       go_wp2_with fail
       go_ret
       exact ⟨by rw [HW.out]; rfl, HB.out⟩
 · have HW := hid (HV.out.trans (if_pos h1))
   clear HV
   go_wp2_with fail
   refine (order_any _ _ _).mono ?_
   rintro e w2 ⟨rfl, rfl⟩
   go_wp2_with fail
   go_ret
   exact ⟨by rw [HW.out]; rfl, HB.out⟩
end
end Go.Proofs.YtgemihkcihigpaaGreatDoor
