/- plan.first: the value of the first condition on a column with one of the operators. -/
import Derived.Test.YtpfjakcfjpgbmaaGreatDoorZN16
import Derived.Test.YtpfjakcfjpgbmaaGreatDoorZN19
namespace Go.Proofs.YtpfjakcfjpgbmaaGreatDoor
set_option linter.unusedVariables false
set_option linter.unusedSimpArgs false
open Go.RowKit

theorem cont_any {p : Nat → Prop} {w : World} {b off : Nat} {L : List Int} {cap : Nat} (h : RowAt intR p w (some ⟨b, off, none⟩) L) (hL : L.length ≤ 140737488355328) (x : Int) :
    Calls Tryz.prog 139 #[.slice (some ⟨b, off, none⟩) L.length cap, .int .i64 x] w fun e w' => e = .returned (.bool (L.contains x)) ∧ w = w' := by
  refine (Tryz.slices_Contains_int b off L.length cap L x w (Nat.le_refl _) (by omega) (fun j hj => by rw [h.int j hj]; simp [List.getElem?_eq_getElem hj])).mono ?_
  rintro e w' ⟨rfl, rfl⟩
  rw [List.take_length]
  exact ⟨rfl, rfl⟩

/-- what plan.first returns -/
def firstV (o : Option Val) : Value := .tuple #[(o.getD ⟨0, 0, noStr⟩).enc, .bool o.isSome]

set_option maxHeartbeats 1000000 in
theorem first_any (a : Option Addr) (cap : Nat) (L : List Cond) (p q : Nat → Prop) (name : ByteArray) (b off oc : Nat) (O : List Int) (w : World) (h : RowAt condR p w a L) (hL : L.length ≤ 140737488355328)
    (ho : RowAt intR q w (some ⟨b, off, none⟩) O) (hO : O.length ≤ 140737488355328) :
    Calls Tryz.prog 216 #[.slice a L.length cap, .string name, .slice (some ⟨b, off, none⟩) O.length oc] w fun e w' => e = .returned (firstV (condF L name O)) ∧ Below w.heap.size w w' := by
  have H := Lib.hid h
  have HO := Lib.hid ho
  clear h ho
  go_enter Tryz.func216, Tryz.ntmps216
  go_wp2_with fail
  obtain ⟨W1, hW1⟩ : ∃ W1, w.alloc (.cells #[.int .i64 0, .int .i64 0, .string ⟨#[]⟩] 101) = W1 := ⟨_, rfl⟩
  have hs1 : W1.heap.size = w.heap.size + 1 := by rw [← hW1]; simp
  have B1 := Lib.hid (show Below w.heap.size w W1 by rw [← hW1]; exact (Below.refl _ _).alloc (Nat.le_refl _) _)
  have K1 := Lib.hid (show W1.heap[w.heap.size]? = some (.cells #[.int .i64 0, .int .i64 0, .string ⟨#[]⟩] 101 (0, 0)) by rw [← hW1]; exact heap_alloc_new w _)
  rw [hW1]
  have S1 := Lib.hid hs1
  clear hW1 hs1
  go_loopw [12] (fun i wr => ∃ k : Nat, k ≤ L.length ∧ i = .int .i64 k ∧ (∀ t (ht : t < L.length), t < k → condOn name O L[t] = false) ∧ Below W1.heap.size W1 wr) (fun i _ => L.length - (intOf i).toNat)
  case atStart => exact ⟨0, by omega, rfl, fun t _ ht => by omega, Below.refl _ _⟩
  case round =>
    obtain ⟨k, hk, rfl, hall, hb⟩ := hrel
    have HA := Lib.hid hall
    clear hall
    by_cases h1 : k < L.length
    · obtain ⟨bw, offw, rfl, _, hbl⟩ := H.out.addr (by intro e; rw [e] at h1; cases h1)
      have hbw : Below w.heap.size w wr := B1.out.trans (hb.mono B1.out.size)
      obtain ⟨c0, c1, c2, c3, c4⟩ := (H.out.below hbw).cond k h1
      have OO := Lib.hid (HO.out.below (hbw.alloc hbw.size (.cells #[.string L[k].col, .int .i64 L[k].op, .int .i64 L[k].val.kind, .int .i64 L[k].val.n, .string L[k].val.s] 103)))
      have C0 := Lib.hid hb
      clear hb hbw
      by_cases hn : sEq L[k].col name = true
      · have hn' : (L[k].col.toList == name.toList) = true := hn
        have HN := Lib.hid hn
        clear hn
        go_wp2_with fail
        refine (cont_any OO.out hO _).mono ?_
        rintro e w2 ⟨rfl, rfl⟩
        by_cases hop : O.contains L[k].op = true
        · rw [hop]
          go_wp2_with fail
          refine (right_any L[k].val _).mono ?_
          rintro e w3 ⟨rfl, b3⟩
          have C3 := Lib.hid ((C0.out.alloc C0.out.size _).trans (b3.mono (by have := C0.out.size; simp; omega)))
          have d : ∀ j v, (#[Value.string L[k].col, .int .i64 L[k].op, .int .i64 L[k].val.kind, .int .i64 L[k].val.n, .string L[k].val.s] : Array Value)[j]? = some v → w3.cell? ⟨wr.heap.size, j, none⟩ = some v := by
            intro j v hj
            simp [World.cell?, (b3.block wr.heap.size (by simp)).trans (heap_alloc_new wr _), hj]
          have d2 := d 2 _ rfl
          have d3 := d 3 _ rfl
          have d4 := d 4 _ rfl
          clear d b3 c0 c1 c2 c3 c4
          cases hr : rightB L[k].val
          · go_wp2_with fail
            go_roundw
            case rel => exact ⟨k + 1, by omega, by go_num, fun t ht htk => by rcases (show t < k ∨ t = k by omega) with h | rfl; exact HA.out t ht h; simp [condOn, hr], C3.out⟩
            case measure => simp [intOf]; omega
          · by_cases hk0 : L[k].val.kind = 0
            · have hk1 : (L[k].val.kind != 0) = false := by simp [hk0]
              have HK := Lib.hid hk0
              clear hk0
              go_wp2_with fail
              go_roundw
              case rel => exact ⟨k + 1, by omega, by go_num, fun t ht htk => by rcases (show t < k ∨ t = k by omega) with h | rfl; exact HA.out t ht h; simp [condOn, HK.out], C3.out⟩
              case measure => simp [intOf]; omega
            · have hk1 : (L[k].val.kind != 0) = true := by simp [hk0]
              have hblk := (C3.out.block w.heap.size (by rw [S1.out]; omega)).trans K1.out
              have e0 : w3.cell? ⟨w.heap.size, 0, none⟩ = some (.int .i64 0) := by simp [World.cell?, hblk]
              have e1 : w3.cell? ⟨w.heap.size, 1, none⟩ = some (.int .i64 0) := by simp [World.cell?, hblk]
              have e2 : w3.cell? ⟨w.heap.size, 2, none⟩ = some (.string ⟨#[]⟩) := by simp [World.cell?, hblk]
              have f0 : ∀ o, w3.frozen? ⟨w.heap.size, o, none⟩ = false := fun o => by simp [World.frozen?, hblk]
              have f1 := f0 0
              have f2 := f0 1
              have f3 := f0 2
              clear f0 hblk
              go_wp2_with fail
              refine bodyPost_ret (v := .tuple #[.agg #[.int .i64 L[k].val.kind, .int .i64 L[k].val.n, .string L[k].val.s], .bool true]) (by simp [results, Tryz.results216, go_sem, e0, e1, e2, f1, f2, f3]) rfl ⟨?_, ?_⟩
              · rw [condF_hit h1 (by simp only [condOn, HN.out, hop, hr, Bool.true_and]; simpa using hk0) (fun t ht => HA.out t (by omega) ht)]; rfl
              · exact (((B1.out.trans (C3.out.mono B1.out.size)).setCell (p := ⟨w.heap.size, 0, none⟩) (Nat.le_refl _) _).setCell (p := ⟨w.heap.size, 1, none⟩) (Nat.le_refl _) _).setCell (p := ⟨w.heap.size, 2, none⟩) (Nat.le_refl _) _
        · have hop' : O.contains L[k].op = false := by simpa using hop
          rw [hop']
          go_wp2_with fail
          go_roundw
          case rel => exact ⟨k + 1, by omega, by go_num, fun t ht htk => by rcases (show t < k ∨ t = k by omega) with h | rfl; exact HA.out t ht h; simp only [condOn, hop', Bool.and_false, Bool.false_and], C0.out.alloc C0.out.size _⟩
          case measure => simp [intOf]; omega
      · have hn' : (L[k].col.toList == name.toList) = false := by simpa [sEq] using hn
        have HN := Lib.hid hn
        clear hn
        go_wp2_with fail
        go_roundw
        case rel => exact ⟨k + 1, by omega, by go_num, fun t ht htk => by rcases (show t < k ∨ t = k by omega) with h | rfl; exact HA.out t ht h; simp [condOn, HN.out], C0.out.alloc C0.out.size _⟩
        case measure => simp [intOf]; omega
    · have hkl : k = L.length := by omega
      subst hkl
      have C0 := Lib.hid hb
      have hblk := (hb.block w.heap.size (by rw [S1.out]; omega)).trans K1.out
      have e0 : wr.cell? ⟨w.heap.size, 0, none⟩ = some (.int .i64 0) := by simp [World.cell?, hblk]
      have e1 : wr.cell? ⟨w.heap.size, 1, none⟩ = some (.int .i64 0) := by simp [World.cell?, hblk]
      have e2 : wr.cell? ⟨w.heap.size, 2, none⟩ = some (.string ⟨#[]⟩) := by simp [World.cell?, hblk]
      have f0 : ∀ o, wr.frozen? ⟨w.heap.size, o, none⟩ = false := fun o => by simp [World.frozen?, hblk]
      have f1 := f0 0
      have f2 := f0 1
      have f3 := f0 2
      clear f0 hblk hb
      go_wp2_with fail
      refine bodyPost_ret (v := .tuple #[.agg #[.int .i64 0, .int .i64 0, .string ⟨#[]⟩], .bool false]) (by simp [results, Tryz.results216, go_sem, e0, e1, e2, f1, f2, f3]) rfl ⟨?_, ?_⟩
      · rw [condF_miss (fun t ht => HA.out t ht ht)]; rfl
      · exact (((B1.out.trans (C0.out.mono B1.out.size)).setCell (p := ⟨w.heap.size, 0, none⟩) (Nat.le_refl _) _).setCell (p := ⟨w.heap.size, 1, none⟩) (Nat.le_refl _) _).setCell (p := ⟨w.heap.size, 2, none⟩) (Nat.le_refl _) _
end Go.Proofs.YtpfjakcfjpgbmaaGreatDoor
