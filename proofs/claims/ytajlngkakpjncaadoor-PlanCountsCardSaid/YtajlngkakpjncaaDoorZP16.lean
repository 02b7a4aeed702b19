/- The reference's Key; the key of a single value, the program's and the reference's. -/
import Derived.Test.YtajlngkakpjncaaDoorZP13
import Derived.Test.YtajlngkakpjncaaDoorZP9
import Derived.Test.YtajlngkakpjncaaDoorZP2
namespace Go.Proofs.YtajlngkakpjncaaDoor
set_option linter.unusedVariables false
set_option linter.unusedSimpArgs false
open Go.RowKit

theorem valsAt_at {w wr : World} {b off : Nat} {L : List Val} (h : ValsAt w (some ⟨b, off, none⟩) L) (k : Nat) (hk : k < L.length) (hb : Below w.heap.size w wr) :
    wr.cell? ⟨b, off + k * 3, none⟩ = some (.int .i64 (L.getD k default).kind) ∧ wr.cell? ⟨b, off + k * 3 + 1, none⟩ = some (.int .i64 (L.getD k default).n) ∧ wr.cell? ⟨b, off + k * 3 + 2, none⟩ = some (.string (L.getD k default).s) := by
  obtain h0 | ⟨b', off', ha, hc⟩ := h
  · rw [h0] at hk; cases hk
  simp only [Option.some.injEq, Addr.mk.injEq] at ha
  obtain ⟨rfl, rfl, _⟩ := ha
  obtain ⟨c0, c1, c2⟩ := hc k hk
  have hbl := World.block_lt_of_cell? w _ c0
  simp only at hbl
  rw [← hb.cell hbl] at c0 c1 c2
  exact ⟨c0, c1, c2⟩
theorem escB_app : ∀ a b : List UInt8, escB (a ++ b) = escB a ++ escB b
  | [], _ => rfl
  | c :: a, b => by
    rw [List.cons_append, escB, escB, escB_app a b]
    split <;> simp
theorem escB_take (s : ByteArray) (j : Nat) (h : j < s.size) : escB (s.data.toList.take (j + 1)) = escB (s.data.toList.take j) ++ escB [s[j]] := by
  rw [List.take_succ_eq_append_getElem (by simpa using h), escB_app]
  rfl
theorem extract_one (s : ByteArray) (j : Nat) (h : j < s.size) : s.extract j (j + 1) = ⟨[s[j]].toArray⟩ := by
  apply ByteArray.ext
  rw [ByteArray.data_extract]
  apply Array.ext
  · simp; omega
  · intro i h1 h2
    simp at h2
    subst h2
    simp
    rfl
theorem size_be8 (l : List UInt8) (n : Int) (h : l = be 8 n) : (⟨l.toArray⟩ : ByteArray).size = 8 := by
  subst h
  exact be_len 8 n
theorem rkey_no (a : Option Addr) (cap : Nat) (L : List Val) (w : World) (h : ValsAt w a L) (hn : L.length ≤ 140737488351232) (hr : rightsB L = false) :
    Calls Tryd.prog 61 #[.slice a L.length cap] w fun e w' => e = .returned (.string ⟨(keyOf L).toArray⟩) ∧ Below w.heap.size w w' := by
  have hk : keyOf L = [] := by simp [keyOf, hr]
  rw [hk]
  go_enter Tryd.func61, Tryd.ntmps61
  go_wp2_with fail
  refine (rrights_any a cap L w h hn).mono ?_
  rintro e w1 ⟨rfl, b1⟩
  rw [hr]
  go_wp2_with fail
  go_ret
  exact ⟨rfl, b1⟩

/-- the front of a number's eight bytes, as the reference makes it -/
theorem front_bytes (W : ByteArray) (n : Int) (h : W = ⟨(be 8 n).toArray⟩) :
    0 < W.size ∧ 1 ≤ W.size ∧ (∀ h0 : 0 < W.size, byteOf (bits .xor .i64 (wrap64 ((W[0]'h0).toNat : Int)) 128) = byteOf (n / 72057594037927936 + 128)) ∧ W.extract 1 W.size = ⟨(be 7 n).toArray⟩ ∧ (W.extract 1 W.size).size ≤ 8 ∧ W.size ≤ 8 := by
  have hf := be_front 7 n
  have hs : W.size = 8 := by rw [h]; exact be_len 8 n
  refine ⟨by omega, by omega, fun h0 => ?_, ?_, by rw [ByteArray.size_extract]; omega, by omega⟩
  · have ew : wrap64 ((W[0]'h0).toNat : Int) = ((W[0]'h0).toNat : Int) := by
      have := (W[0]'h0).toNat_lt
      unfold wrap64
      omega
    rw [ew]
    have e : (W[0]'h0) = byteOf (n / 72057594037927936) := by
      subst h
      have e1 : (be 8 n)[0]? = some (byteOf (n / 72057594037927936)) := by rw [hf]; rfl
      have e2 : (be 8 n).toArray[0]'(by rw [List.size_toArray, be_len]; omega) = byteOf (n / 72057594037927936) := by
        rw [List.getElem_toArray]
        exact (List.getElem?_eq_some_iff.1 e1).2
      exact e2
    rw [e]
    have hx := xor7 (byteOf (n / 72057594037927936)).toNat (by have := (byteOf (n / 72057594037927936)).toNat_lt; omega)
    have e2 : bits .xor .i64 ((byteOf (n / 72057594037927936)).toNat : Int) 128 = (((byteOf (n / 72057594037927936)).toNat ^^^ 128 : Nat) : Int) := by
      have hlt := (byteOf (n / 72057594037927936)).toNat_lt
      generalize (byteOf (n / 72057594037927936)).toNat = c at *
      show IntKind.i64.wrap ((BitVec.ofInt 64 (c : Int) ^^^ BitVec.ofInt 64 128).toNat : Int) = _
      have e3 : (BitVec.ofInt 64 (c : Int) ^^^ BitVec.ofInt 64 128).toNat = c ^^^ 128 := by
        rw [BitVec.toNat_xor, BitVec.toNat_ofInt, BitVec.toNat_ofInt]
        congr 1
        omega
      rw [e3, hx, IntKind.wrap_i64]
      omega
    rw [e2, hx]
    refine byteOf_congr ?_
    unfold byteOf
    simp only [UInt8.toNat_ofNat']
    omega
  · subst h
    apply ByteArray.ext
    rw [ByteArray.data_extract]
    apply Array.toList_inj.1
    rw [Array.toList_extract]
    show List.extract (be 8 n) 1 _ = _
    rw [List.extract_eq_take_drop, hs, hf]
    simp only [List.drop_succ_cons, List.drop_zero]
    exact List.take_of_length_le (by rw [be_len]; omega)

set_option maxRecDepth 100000 in
set_option maxHeartbeats 2000000 in
theorem rkey_yes (a : Option Addr) (cap : Nat) (L : List Val) (w : World) (h : ValsAt w a L) (hr : rightsB L = true) (hf : ∀ v ∈ L, v.fine) :
    Calls Tryd.prog 61 #[.slice a L.length cap] w fun e w' => e = .returned (.string ⟨(keyOf L).toArray⟩) ∧ Below w.heap.size w w' := by
  have hk : keyOf L = keyRaw L := by simp [keyOf, hr]
  rw [hk]
  clear hk
  have hr' := hr
  simp only [rightsB, Bool.and_eq_true, decide_eq_true_eq] at hr'
  obtain ⟨hall, h6⟩ := hr'
  have HALL := Lib.hid hall
  have HF := Lib.hid hf
  have H := Lib.hid h
  have HR := Lib.hid hr
  clear hall hf h hr
  go_enter Tryd.func61, Tryd.ntmps61
  go_wp2_with fail
  refine (rrights_any a cap L w H.out (by omega)).mono ?_
  rintro e w1 ⟨rfl, b1⟩
  rw [HR.out]
  have B1 := Lib.hid b1
  clear b1
  go_wp2_with fail
  go_loopw [3, 4] (fun s i wr => ∃ (k : Nat) (acc : ByteArray), k ≤ L.length ∧ i = .int .i64 k ∧ s = .string acc ∧ acc.data.toList = keyRaw (L.take k) ∧ Below w.heap.size w wr) (fun _ i _ => L.length - (intOf i).toNat)
  case atStart => exact ⟨0, _, by omega, rfl, rfl, rfl, B1.out⟩
  case round =>
    obtain ⟨k, acc, hk, rfl, rfl, hacc, hb⟩ := hrel
    have C0 := Lib.hid hb
    have HA := Lib.hid hacc
    have hsz : acc.size ≤ 498 := by
      have h2 := keyRaw_len (L.take k) (List.all_eq_true.2 fun x hx => List.all_eq_true.1 HALL.out x (List.mem_of_mem_take hx))
      have hlk : (L.take k).length ≤ 6 := by rw [List.length_take]; omega
      rw [← hacc, Array.length_toList] at h2
      have : acc.data.size = acc.size := rfl
      omega
    clear hb hacc
    by_cases h1 : k < L.length
    · have hrk : rightB (L.getD k default) = true := List.all_eq_true.1 HALL.out _ (getD_mem L k h1)
      have HT := Lib.hid (keyRaw_take L k h1)
      obtain ⟨b, off, ha⟩ : ∃ b off, a = some ⟨b, off, none⟩ := by
        obtain h0 | ⟨b, off, ha, _⟩ := H.out
        · rw [h0] at h1; cases h1
        · exact ⟨b, off, ha⟩
      subst ha
      have CELLS : ∀ wr, Below w.heap.size w wr → _ := fun wr hb => valsAt_at H.out k h1 hb
      generalize hv : L.getD k default = v at *
      clear hv
      obtain ⟨kd, n, s⟩ := v
      have CELL := Lib.hid CELLS
      clear CELLS
      have hkb : 0 ≤ kd ∧ kd ≤ 2 := by
        simp only [rightB, knownB, Bool.and_eq_true, decide_eq_true_eq] at hrk
        exact hrk.1
      obtain ⟨hkb0, hkb2⟩ := hkb
      have HT2 := Lib.hid ((congrArg (· ++ keyOne ⟨kd, n, s⟩) HA.out).trans HT.out.symm)
      clear HT HA
      obtain ⟨c0, _, _⟩ := CELL.out _ C0.out
      go_wp2_with fail
      refine (rone_any _ _).mono ?_
      rintro e w2 ⟨rfl, b2⟩
      have C2 := Lib.hid (C0.out.trans (b2.mono C0.out.size))
      clear b2 c0
      obtain ⟨c0, c1, c2⟩ := CELL.out _ C2.out
      by_cases hk1 : kd = 1
      · subst hk1
        go_wp2_with fail
        refine (rwhole_any _ _).mono ?_
        rintro e w3 ⟨rfl, b3⟩
        have C3 := Lib.hid (C2.out.trans (b3.mono C2.out.size))
        clear b3 c0 c1 c2
        obtain ⟨W, hW⟩ : ∃ W : ByteArray, W = ⟨(be 8 n).toArray⟩ := ⟨_, rfl⟩
        rw [← hW]
        obtain ⟨w0, w1', wx, we, w2', w3'⟩ := front_bytes W n hW
        have WX := Lib.hid (wx w0)
        have WE := Lib.hid we
        clear wx we hW
        go_wp2_with fail
        refine wp_region_class (Below w3.heap.size w3) (by kernel_rfl) (by kernel_rfl) (Below.drew (Below.refl _ _)) (fun ne => ?_)
        repeat (go_big_quiet_step ((go_at_call 76; refine (rone_any _ _).mono ?_; rintro e w2 ⟨rfl, b2⟩; exact ⟨rfl, class_below _ b2 (Nat.le_refl _)⟩)))
        refine wpQuiet_nil ?_
        intro w4 b4
        have C4 := Lib.hid (C3.out.trans (b4.mono C3.out.size))
        clear b4
        obtain ⟨c0, c1, c2⟩ := CELL.out _ C4.out
        go_wp2_with fail
        go_roundw
        case rel =>
          refine ⟨k + 1, _, by omega, by go_num, rfl, ?_, C4.out⟩
          rw [← HT2.out, WE.out]
          simp only [ByteArray.data_append, Array.toList_append, List.append_assoc]
          congr 1
          simp only [keyOne, if_true, keyInt_front]
          rw [← WX.out]
          simp
        case measure => simp [intOf]; omega
      · have e1 : (kd == 1) = false := by simp [hk1]
        by_cases hk2 : kd = 2
        · subst hk2
          have hs40 : s.size ≤ 40 := by simpa [rightB, knownB] using hrk
          go_wp2_with fail
          go_loopw [3, 6] (fun t i wr => ∃ (j : Nat) (r : ByteArray), j ≤ s.size ∧ i = .int .i64 j ∧ t = .string r ∧ r.data.toList = acc.data.toList ++ byteOf 3 :: escB (s.data.toList.take j) ∧ Below w.heap.size w wr) (fun _ i _ => s.size - (intOf i).toNat)
          case atStart => exact ⟨0, _, by omega, rfl, rfl, by simp [escB], C2.out⟩
          case round =>
            obtain ⟨j, r, hj, rfl, rfl, hr, hb⟩ := hrel
            have HR2 := Lib.hid hr
            have C3 := Lib.hid hb
            have hrs : r.size ≤ 600 := by
              have h2 := escB_len (s.data.toList.take j)
              have h3 : (s.data.toList.take j).length ≤ 40 := by rw [List.length_take, Array.length_toList]; have : s.data.size = s.size := rfl; omega
              have h4 := congrArg List.length hr
              simp only [List.length_append, List.length_cons, Array.length_toList] at h4
              have e5 : r.data.size = r.size := rfl
              have e6 : acc.data.size = acc.size := rfl
              omega
            clear hr hb c0 c1 c2
            obtain ⟨c0, c1, c2⟩ := CELL.out _ C3.out
            by_cases hjl : j < s.size
            · have ET := Lib.hid (escB_take s j hjl)
              have EX := Lib.hid (extract_one s j hjl)
              have hxs : (s.extract j (j + 1)).size ≤ 1 := by rw [ByteArray.size_extract]; omega
              by_cases hz : s[j] = 0
              · have hz1 : (((s[j]).toNat : Int) == 0) = true := by rw [hz]; rfl
                have HZ := Lib.hid hz
                clear hz
                go_wp2_with fail
                refine (rone_any _ _).mono ?_
                rintro e w4 ⟨rfl, b4⟩
                have C4 := Lib.hid (C3.out.trans (b4.mono C3.out.size))
                clear b4
                go_wp2_with fail
                go_roundw
                case rel =>
                  refine ⟨j + 1, _, by omega, by go_num, rfl, ?_, C4.out⟩
                  rw [EX.out, ET.out]
                  simp only [ByteArray.data_append, Array.toList_append, HR2.out, List.append_assoc, List.cons_append]
                  congr 3
                  simp [escB, HZ.out]
                  rfl
                case measure => simp [intOf]; omega
              · have hz1 : (((s[j]).toNat : Int) == 0) = false := by
                  simp only [beq_eq_false_iff_ne, ne_eq]
                  intro e
                  exact hz (UInt8.toNat.inj (by rw [show (s[j]).toNat = 0 by omega]; rfl))
                go_wp2_with fail
                go_roundw
                case rel =>
                  refine ⟨j + 1, _, by omega, by go_num, rfl, ?_, C3.out⟩
                  rw [EX.out, ET.out]
                  simp only [ByteArray.data_append, Array.toList_append, HR2.out, List.append_assoc, List.cons_append]
                  congr 3
                  simp [escB, hz]
                case measure => simp [intOf]; omega
            · have hjl2 : j = s.size := by omega
              subst hjl2
              go_wp2_with fail
              refine (rone_any _ _).mono ?_
              rintro e w4 ⟨rfl, b4⟩
              have C4 := Lib.hid (C3.out.trans (b4.mono C3.out.size))
              clear b4
              go_wp2_with fail
              refine (rone_any _ _).mono ?_
              rintro e w5 ⟨rfl, b5⟩
              have C5 := Lib.hid (C4.out.trans (b5.mono C4.out.size))
              clear b5
              go_wp2_with fail
              go_roundw
              case rel =>
                refine ⟨k + 1, _, by omega, by go_num, rfl, ?_, C5.out⟩
                rw [← HT2.out]
                have hta : s.data.toList.take s.size = s.data.toList := List.take_of_length_le (by rw [Array.length_toList]; exact Nat.le_refl _)
                simp only [ByteArray.data_append, Array.toList_append, HR2.out, List.append_assoc, List.cons_append, hta]
                congr 1
              case measure => simp [intOf]; omega
        · have e2 : (kd == 2) = false := by simp [hk2]
          go_wp2_with fail
          go_roundw
          case rel =>
            refine ⟨k + 1, _, by omega, by go_num, rfl, ?_, C2.out⟩
            rw [← HT2.out]
            simp only [ByteArray.data_append, Array.toList_append]
            congr 1
            simp [keyOne, hk1, hk2]
          case measure => simp [intOf]; omega
    · have hkl : k = L.length := by omega
      subst hkl
      rw [List.take_length] at HA
      go_wp2_with fail
      go_ret
      exact ⟨ret_str HA.out, C0.out⟩
theorem one_val (w : World) (v : Val) (b : Nat) (h0 : w.cell? ⟨b, 0, none⟩ = some (.int .i64 v.kind)) (h1 : w.cell? ⟨b, 1, none⟩ = some (.int .i64 v.n)) (h2 : w.cell? ⟨b, 2, none⟩ = some (.string v.s)) : ValsAt w (some ⟨b, 0, none⟩) [v] :=
  Or.inr ⟨b, 0, rfl, fun t ht => by
    have : t = 0 := by simpa using ht
    subst this
    exact ⟨h0, h1, h2⟩⟩
theorem pkey_any (v : Val) (hf : v.fine) (w : World) (he : Env w) :
    Calls Tryd.prog 37 #[v.enc] w fun e w' => e = .returned (.string ⟨(keyV v).toArray⟩) ∧ Below w.heap.size w w' := by
  have hK := Lib.hid (keyOf_one v)
  have hb : Below w.heap.size w ((w.alloc (.cells #[.int .i64 v.kind, .int .i64 v.n, .string v.s] 41)).alloc (.cells #[.int .i64 v.kind, .int .i64 v.n, .string v.s] 41)) := ((Below.refl _ _).alloc (Nat.le_refl _) _).alloc (by simp) _
  have HE := Lib.hid (he.below hb)
  have HB := Lib.hid hb
  have HV := Lib.hid (one_val ((w.alloc (.cells #[.int .i64 v.kind, .int .i64 v.n, .string v.s] 41)).alloc (.cells #[.int .i64 v.kind, .int .i64 v.n, .string v.s] 41)) v (w.heap.size + 1) (by go_cell) (by go_cell) (by go_cell))
  have HF := Lib.hid hf
  clear he hb hf
  rw [← hK.out]
  show Calls _ _ #[.agg #[.int .i64 v.kind, .int .i64 v.n, .string v.s]] _ _
  go_enter Tryd.func37, Tryd.ntmps37
  go_wp2_with fail
  cases hr : rightsB [v]
  · refine (key_no _ _ [v] _ HV.out (by simp) hr).mono ?_
    rintro e w2 ⟨rfl, b2⟩
    go_wp2_with fail
    go_ret
    exact ⟨rfl, HB.out.trans (b2.mono HB.out.size)⟩
  · refine (key_yes _ _ [v] _ HV.out hr (by simpa using HF.out) HE.out).mono ?_
    rintro e w2 ⟨rfl, b2⟩
    go_wp2_with fail
    go_ret
    exact ⟨rfl, HB.out.trans (b2.mono HB.out.size)⟩
theorem rpkey_any (v : Val) (hf : v.fine) (w : World) :
    Calls Tryd.prog 39 #[v.enc] w fun e w' => e = .returned (.string ⟨(keyV v).toArray⟩) ∧ Below w.heap.size w w' := by
  have hK := Lib.hid (keyOf_one v)
  have hb : Below w.heap.size w ((w.alloc (.cells #[.int .i64 v.kind, .int .i64 v.n, .string v.s] 41)).alloc (.cells #[.int .i64 v.kind, .int .i64 v.n, .string v.s] 41)) := ((Below.refl _ _).alloc (Nat.le_refl _) _).alloc (by simp) _
  have HB := Lib.hid hb
  have HV := Lib.hid (one_val ((w.alloc (.cells #[.int .i64 v.kind, .int .i64 v.n, .string v.s] 41)).alloc (.cells #[.int .i64 v.kind, .int .i64 v.n, .string v.s] 41)) v (w.heap.size + 1) (by go_cell) (by go_cell) (by go_cell))
  have HF := Lib.hid hf
  clear hb hf
  rw [← hK.out]
  show Calls _ _ #[.agg #[.int .i64 v.kind, .int .i64 v.n, .string v.s]] _ _
  go_enter Tryd.func39, Tryd.ntmps39
  go_wp2_with fail
  cases hr : rightsB [v]
  · refine (rkey_no _ _ [v] _ HV.out (by simp) hr).mono ?_
    rintro e w2 ⟨rfl, b2⟩
    go_wp2_with fail
    go_ret
    exact ⟨rfl, HB.out.trans (b2.mono HB.out.size)⟩
  · refine (rkey_yes _ _ [v] _ HV.out hr (by simpa using HF.out)).mono ?_
    rintro e w2 ⟨rfl, b2⟩
    go_wp2_with fail
    go_ret
    exact ⟨rfl, HB.out.trans (b2.mono HB.out.size)⟩
end Go.Proofs.YtajlngkakpjncaaDoor
