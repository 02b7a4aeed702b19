/- value.Key. -/
import Derived.Test.YtpfjakcfjpgbmaaGreatDoorZN14
import Derived.Test.YtpfjakcfjpgbmaaGreatDoorZN19
import Derived.Shelf.Strings.BuilderK
namespace Go.Proofs.YtpfjakcfjpgbmaaGreatDoor
set_option linter.unusedVariables false
set_option linter.unusedSimpArgs false
open Go.RowKit

theorem wb_k (B b : Nat) (bs : List Value) (c : Int) (w : World) (h : Lib.IsBuilderF 287 5 B b bs w) (hlen : bs.length + 1 ≤ 140737488355328) (hBw : B ≤ w.heap.size) :
    Calls Tryz.prog 223 #[.pointer (some ⟨b, 0, none⟩), .int .u8 c] w fun e w' => e = .returned .nilIface ∧ Lib.IsBuilderF 287 5 B b (bs ++ [.int .u8 c]) w' ∧ Below B w w' ∧ Lib.OthersKept 5 (some b) w w' :=
  (Any.Builder_WriteByte_k Tryz.lays167 Tryz.Builder_Extra_167 B b bs c w h hlen hBw).mono fun _ _ ⟨h0, h1, h2, h3⟩ => ⟨h0, Or.inr h1, h2, h3⟩
theorem ws_k (B b : Nat) (bs : List Value) (s : ByteArray) (w : World) (h : Lib.IsBuilderF 287 5 B b bs w) (hlen : bs.length + s.size ≤ 140737488355328) (hBw : B ≤ w.heap.size) :
    Calls Tryz.prog 232 #[.pointer (some ⟨b, 0, none⟩), .string s] w fun e w' => e = .returned (.tuple #[.int .i64 s.size, .nilIface]) ∧ Lib.IsBuilderF 287 5 B b (bs ++ Lib.strCells s) w' ∧ Below B w w' ∧ Lib.OthersKept 5 (some b) w w' :=
  (Any.Builder_WriteString_k Tryz.lays166 Tryz.Builder_Extra_166 B b bs s w h hlen hBw).mono fun _ _ ⟨h0, h1, h2, h3⟩ => ⟨h0, Or.inr h1, h2, h3⟩
theorem str_k (B b : Nat) (l : List UInt8) (w : World) (h : Lib.IsBuilderF 287 5 B b (Lib.byteCells l) w) (hBw : B ≤ w.heap.size) :
    Calls Tryz.prog 222 #[.pointer (some ⟨b, 0, none⟩)] w fun e w' => e = .returned (.string ⟨l.toArray⟩) ∧ Below B w w' :=
  (Any.Builder_String_any_k Tryz.lays169 Tryz.Builder_Extra_169 B b l w h hBw).mono fun _ _ ⟨h0, _, h2, _⟩ => ⟨h0, h2⟩
theorem isb_below {T e : TypeId} {B b : Nat} {bs : List Value} {w w' : World} (h : Lib.IsBuilderF T e B b bs w) (hb : Below w.heap.size w w') : Lib.IsBuilderF T e B b bs w' := by
  have key : ∀ p, Lib.BuilderAtF T e B b p bs w → Lib.BuilderAtF T e B b p bs w' := by
    intro p h
    have hlt := h.lt
    obtain ⟨h1, v, h2, ⟨hl, h3⟩, h4⟩ := h
    refine ⟨h1, v, (hb.block _ hlt).trans h2, ⟨hl, ?_⟩, h4⟩
    rcases h3 with h3 | ⟨g, cap, cur, fz, e1, e2, e3, r⟩
    · exact Or.inl h3
    · exact Or.inr ⟨g, cap, cur, fz, e1, e2, (hb.block _ (Array.getElem?_eq_some_iff.1 e3).1).trans e3, r⟩
  exact h.elim (fun x => Or.inl (key _ x)) (fun x => Or.inr (key _ x))
theorem isb_new (T e : TypeId) (w : World) : Lib.IsBuilderF T e w.heap.size w.heap.size (Lib.byteCells []) (w.alloc (.cells #[.pointer none, .slice none 0 0] T)) :=
  Or.inl ⟨Nat.le_refl _, _, heap_alloc_new w _, World.ownsRowF_nil _ _ _ _, by simp [Value.ownBlock]⟩


/-- the variable that strings.Index reads -/
def Env (w : World) : Prop := ∃ m, w.cell? ⟨2, 0, none⟩ = some (.int .i64 m)
theorem Env.below {w w' : World} (h : Env w) (hb : Below w.heap.size w w') : Env w' := by
  obtain ⟨m, hm⟩ := h
  exact ⟨m, (hb.cell (p := ⟨2, 0, none⟩) (World.block_lt_of_cell? w _ hm)).trans hm⟩
theorem countB_small (s : ByteArray) (hs : s.size ≤ 40) : s.size + Lib.countB s ⟨#[0]⟩ * (⟨#[0, 255]⟩ : ByteArray).size ≤ 140737488355328 := by
  have h := Lib.countB_mul_le ⟨#[0]⟩ (by decide) s.size s (Nat.le_refl _)
  have e : (⟨#[0]⟩ : ByteArray).size = 1 := rfl
  have e2 : (⟨#[0, 255]⟩ : ByteArray).size = 2 := rfl
  rw [e] at h
  rw [e2]
  omega
theorem rall_any (s : ByteArray) (w : World) (hs : s.size ≤ 40) (he : Env w) :
    Calls Tryz.prog 234 #[.string s, .string ⟨#[0]⟩, .string ⟨#[0, 255]⟩] w fun e w' => e = .returned (.string ⟨(escB s.data.toList).toArray⟩) ∧ Below w.heap.size w w' := by
  obtain ⟨m, hm⟩ := he
  have := Tryz.strings_ReplaceAll s ⟨#[0]⟩ ⟨#[0, 255]⟩ m w (by omega) hm (by decide) (countB_small s hs)
  have e : Lib.replaceAll s.data.toList (⟨#[0]⟩ : ByteArray).data.toList (⟨#[0, 255]⟩ : ByteArray).data.toList = escB s.data.toList := replaceAll_esc _
  rw [e] at this
  exact this
theorem strCells_mk (l : List UInt8) : Lib.strCells ⟨l.toArray⟩ = Lib.byteCells l := rfl
theorem u8_one (n : Int) (h0 : 0 ≤ n) (h1 : n ≤ 255) : [Value.int .u8 n] = Lib.byteCells [byteOf n] := by
  show [Value.int .u8 n] = [Value.int .u8 (byteOf n).toNat]
  congr 2
  unfold byteOf
  rw [UInt8.toNat_ofNat']
  omega
theorem isb_lt {T e : TypeId} {B b : Nat} {bs : List Value} {w : World} (h : Lib.IsBuilderF T e B b bs w) : b < w.heap.size := h.elim (fun x => x.lt) (fun x => x.lt)
theorem block3 {w : World} {b : Nat} {x y z : Value} {T : TypeId} {fz : Nat × Nat} (h : w.heap[b]? = some (.cells #[x, y, z] T fz)) : w.cell? ⟨b, 0, none⟩ = some x ∧ w.cell? ⟨b, 1, none⟩ = some y ∧ w.cell? ⟨b, 2, none⟩ = some z := by
  simp [World.cell?, h]

theorem key_no (a : Option Addr) (cap : Nat) (L : List Val) (w : World) (h : ValsAt w a L) (hn : L.length ≤ 140737488351232) (hr : rightsB L = false) :
    Calls Tryz.prog 199 #[.slice a L.length cap] w fun e w' => e = .returned (.string ⟨(keyOf L).toArray⟩) ∧ Below w.heap.size w w' := by
  have hk : keyOf L = [] := by simp [keyOf, hr]
  rw [hk]
  go_enter Tryz.func199, Tryz.ntmps199
  go_wp2_with fail
  refine (rights_any a cap L w h hn).mono ?_
  rintro e w1 ⟨rfl, b1⟩
  rw [hr]
  go_wp2_with fail
  go_ret
  exact ⟨rfl, b1⟩

set_option maxHeartbeats 1000000 in
theorem key_yes (a : Option Addr) (cap : Nat) (L : List Val) (w : World) (h : ValsAt w a L) (hr : rightsB L = true) (hf : ∀ v ∈ L, v.fine) (he : Env w) :
    Calls Tryz.prog 199 #[.slice a L.length cap] w fun e w' => e = .returned (.string ⟨(keyOf L).toArray⟩) ∧ Below w.heap.size w w' := by
  have hk : keyOf L = keyRaw L := by simp [keyOf, hr]
  rw [hk]
  clear hk
  have hr' := hr
  simp only [rightsB, Bool.and_eq_true, decide_eq_true_eq] at hr'
  obtain ⟨hall, h6⟩ := hr'
  have HALL := Lib.hid hall
  have HF := Lib.hid hf
  have HE := Lib.hid he
  have H := Lib.hid h
  have HR := Lib.hid hr
  clear hall hf he h hr
  go_enter Tryz.func199, Tryz.ntmps199
  go_wp2_with fail
  refine (rights_any a cap L w H.out (by omega)).mono ?_
  rintro e w1 ⟨rfl, b1⟩
  rw [HR.out]
  have B1 := Lib.hid b1
  clear b1
  go_wp2_with fail
  go_loopw [11] (fun i wr => ∃ k : Nat, k ≤ L.length ∧ i = .int .i64 k ∧ Lib.IsBuilderF 287 5 w1.heap.size w1.heap.size (Lib.byteCells (keyRaw (L.take k))) wr ∧ Below w1.heap.size w1 wr) (fun i _ => L.length - (intOf i).toNat)
  case atStart => exact ⟨0, by omega, rfl, isb_new _ _ _, (Below.refl _ _).alloc (Nat.le_refl _) _⟩
  case round =>
    obtain ⟨k, hk, rfl, hi, hb⟩ := hrel
    by_cases h1 : k < L.length
    · have hrk : rightB (L.getD k default) = true := List.all_eq_true.1 HALL.out _ (getD_mem L k h1)
      have hfk : (L.getD k default).fine := HF.out _ (getD_mem L k h1)
      have hlen := keyRaw_len (L.take k) (List.all_eq_true.2 fun x hx => List.all_eq_true.1 HALL.out x (List.mem_of_mem_take hx))
      have hlk : (L.take k).length ≤ 6 := by rw [List.length_take]; omega
      have ht := keyRaw_take L k h1
      obtain h0 | ⟨b, off, rfl, hc⟩ := H.out
      · rw [h0] at h1; cases h1
      obtain ⟨c0, c1, c2⟩ := hc k h1
      have hbl := World.block_lt_of_cell? w _ c0
      simp only at hbl
      have hbw : Below w.heap.size w wr := B1.out.trans (hb.mono B1.out.size)
      rw [← hbw.cell hbl] at c0 c1 c2
      generalize hv : L.getD k default = v at *
      have HT := Lib.hid ht
      have HW := Lib.hid (HE.out.below hbw)
      have C0 := Lib.hid hb
      clear hv hc ht hbw
      obtain ⟨kd, n, s⟩ := v
      simp only at c0 c1 c2
      have hi1 : Lib.IsBuilderF 287 5 w1.heap.size w1.heap.size (Lib.byteCells (keyRaw (L.take k))) (wr.alloc (.cells #[.int .i64 kd, .int .i64 n, .string s] 101)) := isb_below hi ((Below.refl _ _).alloc (Nat.le_refl _) _)
      have hsz := hb.size
      have hlt := isb_lt hi
      have hkb : 0 ≤ kd ∧ kd ≤ 2 := by
        simp only [rightB, knownB, Bool.and_eq_true, decide_eq_true_eq] at hrk
        exact hrk.1
      obtain ⟨hkb0, hkb2⟩ := hkb
      have I1 := Lib.hid hi1
      clear hi1 hb hi
      have hbl : (Lib.byteCells (keyRaw (L.take k))).length ≤ 498 := by rw [Lib.byteCells_length]; omega
      have HBL := Lib.hid hbl
      clear hbl hlen
      go_wp2_with fail
      refine (wb_k _ _ _ _ _ I1.out (by have := HBL.out; omega) (by simp; omega)).mono ?_
      rintro e w2 ⟨rfl, i2, b2, k2⟩
      obtain ⟨d0, d1, d2⟩ := block3 (k2 wr.heap.size _ (heap_alloc_new wr _) (by simp; omega) (by intro c fz e; cases e))
      have C2 := Lib.hid (C0.out.trans (((Below.refl _ _).alloc hsz _).trans b2))
      have W2 := Lib.hid (HE.out.below (B1.out.trans (C2.out.mono B1.out.size)))
      rw [u8_one _ (by omega) (by omega), ← Lib.byteCells_append] at i2
      have I2 := Lib.hid i2
      clear b2 k2 i2
      by_cases hk1 : kd = 1
      · subst hk1
        have hx := xor_sign n hfk
        have hw0 : 0 ≤ bits .xor .u64 (IntKind.u64.wrap n) 9223372036854775808 ∧ bits .xor .u64 (IntKind.u64.wrap n) 9223372036854775808 ≤ 18446744073709551615 := by rw [hx]; have := hfk.1; have := hfk.2; simp only at *; omega
        have HX := Lib.hid hx
        clear hx
        have HW0 := Lib.hid hw0
        clear hw0 hfk
        go_wp2_with fail
        refine (whole_any _ HW0.out.1 HW0.out.2 _).mono ?_
        rintro e w3 ⟨rfl, b3⟩
        rw [HX.out]
        have C3 := Lib.hid (C2.out.trans (b3.mono C2.out.size))
        have I3 := Lib.hid (isb_below I2.out b3)
        clear b3
        go_wp2_with fail
        refine (ws_k _ _ _ _ _ I3.out (by have := HBL.out; have : (⟨(be 8 (n + 9223372036854775808)).toArray⟩ : ByteArray).size = 8 := be_len _ _; rw [Lib.byteCells_append, List.length_append, Lib.byteCells_length [_]]; simp only [List.length_cons, List.length_nil]; omega) C3.out.size).mono ?_
        rintro e w4 ⟨rfl, i4, b4, _⟩
        rw [strCells_mk, ← Lib.byteCells_append] at i4
        have I4 := Lib.hid i4
        have C4 := Lib.hid (C3.out.trans b4)
        clear b4 i4
        go_wp2_with fail
        go_roundw
        case rel => exact ⟨k + 1, by omega, by go_num, by rw [HT.out]; simpa [keyOne, keyInt, List.append_assoc] using I4.out, C4.out⟩
        case measure => simp [intOf]; omega
      · by_cases hk2 : kd = 2
        · subst hk2
          have hs40 : s.size ≤ 40 := by simpa [rightB, knownB] using hrk
          go_wp2_with fail
          refine (rall_any s _ hs40 W2.out).mono ?_
          rintro e w3 ⟨rfl, b3⟩
          have C3 := Lib.hid (C2.out.trans (b3.mono C2.out.size))
          have I3 := Lib.hid (isb_below I2.out b3)
          clear b3
          have hel : (⟨(escB s.data.toList).toArray⟩ : ByteArray).size ≤ 80 := by
            have := escB_len s.data.toList
            have h2 : s.data.toList.length = s.size := by rw [Array.length_toList]; rfl
            show (escB s.data.toList).toArray.size ≤ 80
            rw [List.size_toArray]; omega
          have HEL := Lib.hid hel
          clear hel
          go_wp2_with fail
          refine (ws_k _ _ _ _ _ I3.out (by have := HBL.out; have := HEL.out; rw [Lib.byteCells_append, List.length_append, Lib.byteCells_length [_]]; simp only [List.length_cons, List.length_nil]; omega) C3.out.size).mono ?_
          rintro e w4 ⟨rfl, i4, b4, _⟩
          rw [strCells_mk, ← Lib.byteCells_append] at i4
          have I4 := Lib.hid i4
          have C4 := Lib.hid (C3.out.trans b4)
          clear b4 i4
          go_wp2_with fail
          refine (ws_k _ _ _ _ _ I4.out (by
            have := HBL.out; have := HEL.out
            have e2 : (⟨#[0, 1]⟩ : ByteArray).size = 2 := rfl
            have e3 : (⟨(escB s.data.toList).toArray⟩ : ByteArray).size = (escB s.data.toList).length := List.size_toArray
            rw [e3] at this
            rw [Lib.byteCells_append, Lib.byteCells_append, List.length_append, List.length_append, Lib.byteCells_length [_], Lib.byteCells_length (escB _)]; simp only [List.length_cons, List.length_nil]; omega) C4.out.size).mono ?_
          rintro e w5 ⟨rfl, i5, b5, _⟩
          have e01 : Lib.strCells ⟨#[0, 1]⟩ = Lib.byteCells [0, 1] := rfl
          rw [e01, ← Lib.byteCells_append] at i5
          have I5 := Lib.hid i5
          have C5 := Lib.hid (C4.out.trans b5)
          clear b5 i5 e01
          go_wp2_with fail
          go_roundw
          case rel => exact ⟨k + 1, by omega, by go_num, by rw [HT.out]; simpa [keyOne, List.append_assoc] using I5.out, C5.out⟩
          case measure => simp [intOf]; omega
        · have e1 : (kd == 1) = false := by simp [hk1]
          have e2 : (kd == 2) = false := by simp [hk2]
          go_wp2_with fail
          go_roundw
          case rel => exact ⟨k + 1, by omega, by go_num, by rw [HT.out]; simpa [keyOne, hk1, hk2] using I2.out, C2.out⟩
          case measure => simp [intOf]; omega
    · have hkl : k = L.length := by omega
      subst hkl
      rw [List.take_length] at hi
      have I := Lib.hid hi
      have CC := Lib.hid hb
      clear hi hb
      go_wp2_with fail
      refine (str_k _ _ _ _ I.out CC.out.size).mono ?_
      rintro e w3 ⟨rfl, b3⟩
      have C3 := Lib.hid (B1.out.trans ((CC.out.trans b3).mono B1.out.size))
      clear b3
      go_wp2_with fail
      go_ret
      exact ⟨rfl, C3.out⟩

end Go.Proofs.YtpfjakcfjpgbmaaGreatDoor
