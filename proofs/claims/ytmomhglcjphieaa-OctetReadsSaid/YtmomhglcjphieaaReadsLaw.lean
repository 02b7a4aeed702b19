/- OctetReads: for every string and every sequence of at most 60 operations, a reader returns the same results, position and failure state as the reference; a nil reader always fails, and the zero value reads the empty string. Conditions: none beyond the row's own. -/
import Derived.Test.YtmomhglcjphieaaSanity
import Derived.Test.YtmomhglcjphieaaViews
import Derived.Test.YtmomhglcjphieaaCodec
namespace Go.Proofs.Ytmomhglcjphieaa
set_option linter.unusedVariables false
open Go.ChangeShapes Go.WideShapes Go.ChangeAt Go.RowKit

/-- the operations, as they lie in memory: 'K' the kinds, 'A' the arguments -/
def AsksAt (w : World) (a : Option Addr) (K A : List Int) (n : Nat) : Prop :=
  K.length = n ∧ A.length = n ∧ (n = 0 ∨ ∃ b off, a = some ⟨b, off, none⟩ ∧ ∀ t, t < n → w.cell? ⟨b, off + t * 2, none⟩ = some (.int .u8 (K.getD t 0)) ∧ w.cell? ⟨b, off + t * 2 + 1, none⟩ = some (.int .i64 (A.getD t 0)))

theorem open_asks {H : Type} {enc : TypeId × Value → H} {P : Program} {w : World} {r : Reach} {b0 : Nat} {t e : TypeId} {f0 f1 : Field} {v : Value} {d : DataW H} {p : List MemPlace} (hs : P.underlying t = some (.slice e)) (he : P.underlying e = some (.struct #[f0, f1]))
    (o0 : f0.offset = 0) (o1 : f1.offset = 1) (k0 : P.cellsOf f0.type = 1) (k1 : P.cellsOf f1.type = 1) (u0 : P.underlying f0.type = some (.int .u8)) (u1 : P.underlying f1.type = some (.int .i64)) (hc : P.cellsOf e = 2) (hby : P.bytesOf e = 16)
    (hv : Value.okWide P w r b0 t v) (h : DataW.Trod enc P w 0 (fun _ => true) true t v d p)
    (hreach : ∀ elems sp, d = .slice elems sp → (elems.length + sp.length) * P.bytesOf e ≤ reachBytes) :
    ∃ (a : Option Addr) (n cap : Nat) (K A : List Int), v = .slice a n cap ∧ AsksAt w a K A n ∧ (n ≤ cap ∧ cap * 16 ≤ 140737488351232) ∧ (∀ t, 0 ≤ K.getD t 0 ∧ K.getD t 0 ≤ 255) := by
  obtain ⟨a, n, cap, hv, hn, hb, hel⟩ := open_view hs hc (by omega) hby hv h hreach
  have each : ∀ i, i < n → ∃ x : Int × Int, (∃ b off, a = some ⟨b, off, none⟩ ∧ w.cell? ⟨b, off + i * 2, none⟩ = some (.int .u8 x.1) ∧ w.cell? ⟨b, off + i * 2 + 1, none⟩ = some (.int .i64 x.2)) ∧ 0 ≤ x.1 ∧ x.1 ≤ 255 := by
    intro i hi
    rcases hel with h0 | ⟨b, off, ha, hel⟩
    · omega
    obtain ⟨cs, m, y, h1, h2, h3⟩ := hel i hi
    match cs, h1 with
    | [c0, c1], _ =>
      obtain ⟨y0, y1, m', _, _, t0, t1⟩ := trod_struct2 he h3
      rw [o0, k0] at t0
      rw [o1, k1] at t1
      obtain ⟨x, e0, _, wx⟩ := DataW.trod_int u0 t0
      obtain ⟨x', e1, _, _⟩ := DataW.trod_int u1 t1
      simp at e0 e1
      subst e0 e1
      exact ⟨(x, x'), ⟨b, off, ha, h2 0 (by omega), h2 1 (by omega)⟩, by simpa [Lit.wf, IntKind.min, IntKind.max, IntKind.signed, IntKind.bits] using wx⟩
  obtain ⟨Z, hZ, hZ2⟩ := list_of each
  have g1 : ∀ t, (Z.map (·.1)).getD t 0 = (Z.getD t (0, 0)).1 := fun t => by
    rcases Nat.lt_or_ge t Z.length with h | h
    · simp [List.getD, h]
    · simp [List.getD, List.getElem?_eq_none h]
  have g2 : ∀ t, (Z.map (·.2)).getD t 0 = (Z.getD t (0, 0)).2 := fun t => by
    rcases Nat.lt_or_ge t Z.length with h | h
    · simp [List.getD, h]
    · simp [List.getD, List.getElem?_eq_none h]
  refine ⟨a, n, cap, Z.map (·.1), Z.map (·.2), hv, ⟨by simpa using hZ, by simpa using hZ, ?_⟩, ⟨hn, hb⟩, fun t => ?_⟩
  · rcases Nat.eq_zero_or_pos n with h0 | h0
    · exact Or.inl h0
    · obtain ⟨⟨b, off, ha, _⟩, _⟩ := hZ2 0 h0
      refine Or.inr ⟨b, off, ha, fun t ht => ?_⟩
      obtain ⟨⟨b', off', ha', hc'⟩, _⟩ := hZ2 t ht
      rw [ha] at ha'
      simp only [Option.some.injEq, Addr.mk.injEq] at ha'
      obtain ⟨rfl, rfl, _⟩ := ha'
      rw [g1, g2]
      exact hc'
  · rw [g1]
    rcases Nat.lt_or_ge t n with ht | ht
    · exact (hZ2 t ht).2
    · have e : Z.getD t (0, 0) = (0, 0) := by simp [List.getD, List.getElem?_eq_none (show Z.length ≤ t by omega)]
      rw [e]; decide

theorem take_zero {w : World} {b : Nat} (h : Rd 49 w b ⟨#[]⟩ 0 false) :
    Calls Try.prog 21 #[.pointer (some ⟨b, 0, none⟩), .int .i64 0] w fun e w' => e = .returned (.string ⟨#[]⟩) ∧ Rd 49 w' b ⟨#[]⟩ 0 false ∧ w.grownBy w' (some b) := by
  have h1 := take_any 0 h (by decide) (Nat.le_refl _)
  have e1 : takeS ⟨#[]⟩ 0 false 0 = ⟨#[]⟩ := by apply ByteArray.ext; rfl
  rw [e1] at h1
  exact h1

set_option maxRecDepth 100000 in
set_option maxHeartbeats 2000000 in
theorem reads_walk (s : ByteArray) (hs : s.size ≤ 140737488351232) (a : Option Addr) (n cap : Nat) (K A : List Int) {w : World} (hA : AsksAt w a K A n) (hcap : n ≤ cap ∧ cap * 16 ≤ 140737488351232) (hK : ∀ t, 0 ≤ K.getD t 0 ∧ K.getD t 0 ≤ 255) :
    Calls Try.prog 10 #[.string s, .slice a n cap] w fun e w' => e = .returned (.bool true) ∧ Below w.heap.size w w' := by
  have hn : n ≤ 140737488351232 := by omega
  clear hcap
  have hm : s.size ≤ maxLen := by unfold maxLen; omega
  have hm0 : (⟨#[]⟩ : ByteArray).size ≤ maxLen := by decide
  have HA := Lib.hid hA
  have HK := Lib.hid hK
  clear hA hK
  go_enter Try.func10, Try.ntmps10
  go_wp2_with fail
  refine (sanity_any _).mono ?_
  rintro e w1 ⟨rfl, b1⟩
  have z1 := b1.size
  have C1 := Lib.hid b1
  clear b1
  go_wp2_with fail
  refine (read_any s _).mono ?_
  rintro e w2 ⟨rfl, e2⟩
  have C2 : Hid (Below w.heap.size w w2) := Lib.hid (by rw [← e2]; exact C1.out.alloc C1.out.size _)
  have R2 : Hid (Rd 49 w2 w1.heap.size s 0 false) := Lib.hid (by rw [← e2]; exact Rd.made _ _ _)
  have z2 : w2.heap.size = w1.heap.size + 1 := by rw [← e2]; simp
  clear e2
  go_wp2_with fail
  go_loopw [10] (fun i wr => ∃ j p f, j ≤ n ∧ i = .int .i64 (j : Nat) ∧ p ≤ s.size ∧ Rd 49 wr w1.heap.size s p f ∧ Rd 47 wr (w1.heap.size + 1) s p f ∧ Rd 49 wr (w1.heap.size + 1 + 1) ⟨#[]⟩ 0 false ∧ Below w.heap.size w wr) (fun i _ => n - (intOf i).toNat)
  case atStart =>
    refine ⟨0, 0, false, by omega, rfl, by omega, (R2.out.alloc _).alloc _, ?_, ?_, ?_⟩
    · have h := Rd.made w2 47 s
      rw [z2] at h
      exact h.alloc _
    · have h := Rd.made (w2.alloc (.cells #[.string s, .int .i64 0, .bool false] 47)) 49 ⟨#[]⟩
      rw [World.size_alloc, z2] at h
      exact h
    · exact (C2.out.alloc C2.out.size _).alloc (by have := C2.out.size; simp; omega) _
  case round =>
    obtain ⟨j, p, f, hj, rfl, hp, hR, hW, hZ, hb⟩ := hrel
    have RR := Lib.hid hR
    have WW := Lib.hid hW
    have ZZ := Lib.hid hZ
    have CC := Lib.hid hb
    clear hR hW hZ C1 C2 R2 z2
    by_cases h1 : j < n
    · by_cases h2 : j < 60
      · obtain ⟨_, _, h0 | ⟨b, off, rfl, hc⟩⟩ := HA.out
        · omega
        obtain ⟨c0, c1⟩ := hc j h1
        have hbl := World.block_lt_of_cell? w _ c0
        simp only at hbl
        rw [← hb.cell hbl] at c0
        rw [← hb.cell hbl] at c1
        obtain ⟨k0, k1⟩ := HK.out j
        clear hc hb
        generalize K.getD j 0 = k at *
        generalize A.getD j 0 = N at *
        have h3 : k % 3 = 0 ∨ k % 3 = 1 ∨ k % 3 = 2 := by omega
        rcases h3 with h3 | h3 | h3 <;> rcases Int.lt_or_le k 128 with h4 | h4
        · skip
          go_wp2_with fail
          refine (num_any N RR.out hm hp).mono ?_
          rintro e w5 ⟨rfl, r5, g5⟩
          have R5 := Lib.hid r5
          have W5 := Lib.hid (WW.out.kept g5 (by simp only [ne_eq, Option.some.injEq]; omega))
          have Z5 := Lib.hid (ZZ.out.kept g5 (by simp only [ne_eq, Option.some.injEq]; omega))
          have C5 := Lib.hid (below_reader CC.out g5 (by omega))
          clear r5 g5
          go_wp2_with fail
          refine (rnum_any N W5.out hm hp).mono ?_
          rintro e w6 ⟨rfl, r6, g6⟩
          have R6 := Lib.hid (R5.out.kept g6 (by simp only [ne_eq, Option.some.injEq]; omega))
          have W6 := Lib.hid r6
          have Z6 := Lib.hid (Z5.out.kept g6 (by simp only [ne_eq, Option.some.injEq]; omega))
          have C6 := Lib.hid (below_reader C5.out g6 (by omega))
          clear r6 g6
          have hp7 : takeP s p f (clamp8 N) ≤ s.size := takeP_le _ _ hp
          generalize takeP s p f (clamp8 N) = p7 at *
          generalize takeF s p f (clamp8 N) = f7 at *
          go_wp2_with fail
          refine (num_nil _ _).mono ?_
          rintro e w7 ⟨rfl, b7⟩
          have R7 := Lib.hid (R6.out.below b7 R6.out.lt)
          have W7 := Lib.hid (W6.out.below b7 W6.out.lt)
          have Z7 := Lib.hid (Z6.out.below b7 Z6.out.lt)
          have C7 := Lib.hid (C6.out.trans (b7.mono C6.out.size))
          clear b7
          have w71 := W7.out.c1
          have w72 := W7.out.c2
          go_wp2_with fail
          go_quiet (first | (go_at_call 23; exact Calls.quiet_of_same (at_q R7.out _)) | (go_at_call 24; exact Calls.quiet_of (left_q R7.out hm hp7 _)) | (go_at_call 25; exact Calls.quiet_of_same (failed_q R7.out _)))
          go_wp2_with fail
          go_roundw
          case rel => exact ⟨j + 1, p7, f7, by omega, by go_num, hp7, R7.out.drewN _, W7.out.drewN _, Z7.out.drewN _, below_drewN C7.out _⟩
          case measure => simp [intOf]; omega
        · skip
          go_wp2_with fail
          refine (num_any (bits .and .i64 N 7) RR.out hm hp).mono ?_
          rintro e w5 ⟨rfl, r5, g5⟩
          have R5 := Lib.hid r5
          have W5 := Lib.hid (WW.out.kept g5 (by simp only [ne_eq, Option.some.injEq]; omega))
          have Z5 := Lib.hid (ZZ.out.kept g5 (by simp only [ne_eq, Option.some.injEq]; omega))
          have C5 := Lib.hid (below_reader CC.out g5 (by omega))
          clear r5 g5
          go_wp2_with fail
          refine (rnum_any (bits .and .i64 N 7) W5.out hm hp).mono ?_
          rintro e w6 ⟨rfl, r6, g6⟩
          have R6 := Lib.hid (R5.out.kept g6 (by simp only [ne_eq, Option.some.injEq]; omega))
          have W6 := Lib.hid r6
          have Z6 := Lib.hid (Z5.out.kept g6 (by simp only [ne_eq, Option.some.injEq]; omega))
          have C6 := Lib.hid (below_reader C5.out g6 (by omega))
          clear r6 g6
          have hp7 : takeP s p f (clamp8 (bits .and .i64 N 7)) ≤ s.size := takeP_le _ _ hp
          generalize takeP s p f (clamp8 (bits .and .i64 N 7)) = p7 at *
          generalize takeF s p f (clamp8 (bits .and .i64 N 7)) = f7 at *
          go_wp2_with fail
          refine (num_nil _ _).mono ?_
          rintro e w7 ⟨rfl, b7⟩
          have R7 := Lib.hid (R6.out.below b7 R6.out.lt)
          have W7 := Lib.hid (W6.out.below b7 W6.out.lt)
          have Z7 := Lib.hid (Z6.out.below b7 Z6.out.lt)
          have C7 := Lib.hid (C6.out.trans (b7.mono C6.out.size))
          clear b7
          have w71 := W7.out.c1
          have w72 := W7.out.c2
          go_wp2_with fail
          go_quiet (first | (go_at_call 23; exact Calls.quiet_of_same (at_q R7.out _)) | (go_at_call 24; exact Calls.quiet_of (left_q R7.out hm hp7 _)) | (go_at_call 25; exact Calls.quiet_of_same (failed_q R7.out _)))
          go_wp2_with fail
          go_roundw
          case rel => exact ⟨j + 1, p7, f7, by omega, by go_num, hp7, R7.out.drewN _, W7.out.drewN _, Z7.out.drewN _, below_drewN C7.out _⟩
          case measure => simp [intOf]; omega
        · skip
          go_wp2_with fail
          refine (txt_any RR.out hm hp).mono ?_
          rintro e w5 ⟨rfl, r5, g5⟩
          have R5 := Lib.hid r5
          have W5 := Lib.hid (WW.out.kept g5 (by simp only [ne_eq, Option.some.injEq]; omega))
          have Z5 := Lib.hid (ZZ.out.kept g5 (by simp only [ne_eq, Option.some.injEq]; omega))
          have C5 := Lib.hid (below_reader CC.out g5 (by omega))
          clear r5 g5
          go_wp2_with fail
          refine (rtxt_any W5.out hm hp).mono ?_
          rintro e w6 ⟨rfl, r6, g6⟩
          have R6 := Lib.hid (R5.out.kept g6 (by simp only [ne_eq, Option.some.injEq]; omega))
          have W6 := Lib.hid r6
          have Z6 := Lib.hid (Z5.out.kept g6 (by simp only [ne_eq, Option.some.injEq]; omega))
          have C6 := Lib.hid (below_reader C5.out g6 (by omega))
          clear r6 g6
          have hp7 : textP s p f ≤ s.size := textP_le _ hp
          generalize textP s p f = p7 at *
          generalize textF s p f = f7 at *
          go_wp2_with fail
          refine (txt_nil _).mono ?_
          rintro e w7 ⟨rfl, rfl⟩
          have R7 := R6
          have W7 := W6
          have Z7 := Z6
          have C7 := C6
          have w71 := W7.out.c1
          have w72 := W7.out.c2
          go_wp2_with fail
          go_quiet (first | (go_at_call 23; exact Calls.quiet_of_same (at_q R7.out _)) | (go_at_call 24; exact Calls.quiet_of (left_q R7.out hm hp7 _)) | (go_at_call 25; exact Calls.quiet_of_same (failed_q R7.out _)))
          go_wp2_with fail
          go_roundw
          case rel => exact ⟨j + 1, p7, f7, by omega, by go_num, hp7, R7.out.drewN _, W7.out.drewN _, Z7.out.drewN _, below_drewN C7.out _⟩
          case measure => simp [intOf]; omega
        · skip
          go_wp2_with fail
          refine (txt_any RR.out hm hp).mono ?_
          rintro e w5 ⟨rfl, r5, g5⟩
          have R5 := Lib.hid r5
          have W5 := Lib.hid (WW.out.kept g5 (by simp only [ne_eq, Option.some.injEq]; omega))
          have Z5 := Lib.hid (ZZ.out.kept g5 (by simp only [ne_eq, Option.some.injEq]; omega))
          have C5 := Lib.hid (below_reader CC.out g5 (by omega))
          clear r5 g5
          go_wp2_with fail
          refine (rtxt_any W5.out hm hp).mono ?_
          rintro e w6 ⟨rfl, r6, g6⟩
          have R6 := Lib.hid (R5.out.kept g6 (by simp only [ne_eq, Option.some.injEq]; omega))
          have W6 := Lib.hid r6
          have Z6 := Lib.hid (Z5.out.kept g6 (by simp only [ne_eq, Option.some.injEq]; omega))
          have C6 := Lib.hid (below_reader C5.out g6 (by omega))
          clear r6 g6
          have hp7 : textP s p f ≤ s.size := textP_le _ hp
          generalize textP s p f = p7 at *
          generalize textF s p f = f7 at *
          go_wp2_with fail
          refine (txt_nil _).mono ?_
          rintro e w7 ⟨rfl, rfl⟩
          have R7 := R6
          have W7 := W6
          have Z7 := Z6
          have C7 := C6
          have w71 := W7.out.c1
          have w72 := W7.out.c2
          go_wp2_with fail
          go_quiet (first | (go_at_call 23; exact Calls.quiet_of_same (at_q R7.out _)) | (go_at_call 24; exact Calls.quiet_of (left_q R7.out hm hp7 _)) | (go_at_call 25; exact Calls.quiet_of_same (failed_q R7.out _)))
          go_wp2_with fail
          go_roundw
          case rel => exact ⟨j + 1, p7, f7, by omega, by go_num, hp7, R7.out.drewN _, W7.out.drewN _, Z7.out.drewN _, below_drewN C7.out _⟩
          case measure => simp [intOf]; omega
        · skip
          go_wp2_with fail
          refine (take_any N RR.out hm hp).mono ?_
          rintro e w5 ⟨rfl, r5, g5⟩
          have R5 := Lib.hid r5
          have W5 := Lib.hid (WW.out.kept g5 (by simp only [ne_eq, Option.some.injEq]; omega))
          have Z5 := Lib.hid (ZZ.out.kept g5 (by simp only [ne_eq, Option.some.injEq]; omega))
          have C5 := Lib.hid (below_reader CC.out g5 (by omega))
          clear r5 g5
          go_wp2_with fail
          refine (rtake_any N W5.out hm hp).mono ?_
          rintro e w6 ⟨rfl, r6, g6⟩
          have R6 := Lib.hid (R5.out.kept g6 (by simp only [ne_eq, Option.some.injEq]; omega))
          have W6 := Lib.hid r6
          have Z6 := Lib.hid (Z5.out.kept g6 (by simp only [ne_eq, Option.some.injEq]; omega))
          have C6 := Lib.hid (below_reader C5.out g6 (by omega))
          clear r6 g6
          have hp7 : takeP s p f N ≤ s.size := takeP_le _ _ hp
          generalize takeP s p f N = p7 at *
          generalize takeF s p f N = f7 at *
          go_wp2_with fail
          refine (take_nil _ _).mono ?_
          rintro e w7 ⟨rfl, rfl⟩
          have R7 := R6
          have W7 := W6
          have Z7 := Z6
          have C7 := C6
          have w71 := W7.out.c1
          have w72 := W7.out.c2
          go_wp2_with fail
          go_quiet (first | (go_at_call 23; exact Calls.quiet_of_same (at_q R7.out _)) | (go_at_call 24; exact Calls.quiet_of (left_q R7.out hm hp7 _)) | (go_at_call 25; exact Calls.quiet_of_same (failed_q R7.out _)))
          go_wp2_with fail
          go_roundw
          case rel => exact ⟨j + 1, p7, f7, by omega, by go_num, hp7, R7.out.drewN _, W7.out.drewN _, Z7.out.drewN _, below_drewN C7.out _⟩
          case measure => simp [intOf]; omega
        · skip
          go_wp2_with fail
          refine (take_any (bits .and .i64 N 7) RR.out hm hp).mono ?_
          rintro e w5 ⟨rfl, r5, g5⟩
          have R5 := Lib.hid r5
          have W5 := Lib.hid (WW.out.kept g5 (by simp only [ne_eq, Option.some.injEq]; omega))
          have Z5 := Lib.hid (ZZ.out.kept g5 (by simp only [ne_eq, Option.some.injEq]; omega))
          have C5 := Lib.hid (below_reader CC.out g5 (by omega))
          clear r5 g5
          go_wp2_with fail
          refine (rtake_any (bits .and .i64 N 7) W5.out hm hp).mono ?_
          rintro e w6 ⟨rfl, r6, g6⟩
          have R6 := Lib.hid (R5.out.kept g6 (by simp only [ne_eq, Option.some.injEq]; omega))
          have W6 := Lib.hid r6
          have Z6 := Lib.hid (Z5.out.kept g6 (by simp only [ne_eq, Option.some.injEq]; omega))
          have C6 := Lib.hid (below_reader C5.out g6 (by omega))
          clear r6 g6
          have hp7 : takeP s p f (bits .and .i64 N 7) ≤ s.size := takeP_le _ _ hp
          generalize takeP s p f (bits .and .i64 N 7) = p7 at *
          generalize takeF s p f (bits .and .i64 N 7) = f7 at *
          go_wp2_with fail
          refine (take_nil _ _).mono ?_
          rintro e w7 ⟨rfl, rfl⟩
          have R7 := R6
          have W7 := W6
          have Z7 := Z6
          have C7 := C6
          have w71 := W7.out.c1
          have w72 := W7.out.c2
          go_wp2_with fail
          go_quiet (first | (go_at_call 23; exact Calls.quiet_of_same (at_q R7.out _)) | (go_at_call 24; exact Calls.quiet_of (left_q R7.out hm hp7 _)) | (go_at_call 25; exact Calls.quiet_of_same (failed_q R7.out _)))
          go_wp2_with fail
          go_roundw
          case rel => exact ⟨j + 1, p7, f7, by omega, by go_num, hp7, R7.out.drewN _, W7.out.drewN _, Z7.out.drewN _, below_drewN C7.out _⟩
          case measure => simp [intOf]; omega
      · go_wp2_with fail
        refine (left_any ZZ.out hm0 (Nat.le_refl _)).mono ?_
        rintro e w5 ⟨rfl, n1, rfl⟩
        go_wp2_with fail
        refine (at_any (ZZ.out.drewN _)).mono ?_
        rintro e w5 ⟨rfl, rfl⟩
        go_wp2_with fail
        refine (failed_any (ZZ.out.drewN _)).mono ?_
        rintro e w5 ⟨rfl, rfl⟩
        go_wp2_with fail
        refine (take_zero (ZZ.out.drewN _)).mono ?_
        rintro e w5 ⟨rfl, r5, g5⟩
        have Z5 := Lib.hid r5
        have C5 := Lib.hid (below_reader (below_drewN CC.out _) g5 (by omega))
        clear r5 g5
        go_wp2_with fail
        refine (take_no Z5.out hm0 (Nat.le_refl _) (Or.inr (Or.inr (by decide)))).mono ?_
        rintro e w6 ⟨rfl, r6, g6⟩
        have Z6 := Lib.hid r6
        have C6 := Lib.hid (below_reader C5.out g6 (by omega))
        clear r6 g6
        go_wp2_with fail
        refine (failed_any Z6.out).mono ?_
        rintro e w7 ⟨rfl, rfl⟩
        go_wp2_with fail
        refine (failed_nil _).mono ?_
        rintro e w7 ⟨rfl, rfl⟩
        go_wp2_with fail
        refine (left_nil _).mono ?_
        rintro e w7 ⟨rfl, rfl⟩
        go_wp2_with fail
        refine (at_nil _).mono ?_
        rintro e w7 ⟨rfl, rfl⟩
        go_wp2_with fail
        go_ret
        exact ⟨rfl, C6.out⟩
    · go_wp2_with fail
      refine (left_any ZZ.out hm0 (Nat.le_refl _)).mono ?_
      rintro e w5 ⟨rfl, n1, rfl⟩
      go_wp2_with fail
      refine (at_any (ZZ.out.drewN _)).mono ?_
      rintro e w5 ⟨rfl, rfl⟩
      go_wp2_with fail
      refine (failed_any (ZZ.out.drewN _)).mono ?_
      rintro e w5 ⟨rfl, rfl⟩
      go_wp2_with fail
      refine (take_zero (ZZ.out.drewN _)).mono ?_
      rintro e w5 ⟨rfl, r5, g5⟩
      have Z5 := Lib.hid r5
      have C5 := Lib.hid (below_reader (below_drewN CC.out _) g5 (by omega))
      clear r5 g5
      go_wp2_with fail
      refine (take_no Z5.out hm0 (Nat.le_refl _) (Or.inr (Or.inr (by decide)))).mono ?_
      rintro e w6 ⟨rfl, r6, g6⟩
      have Z6 := Lib.hid r6
      have C6 := Lib.hid (below_reader C5.out g6 (by omega))
      clear r6 g6
      go_wp2_with fail
      refine (failed_any Z6.out).mono ?_
      rintro e w7 ⟨rfl, rfl⟩
      go_wp2_with fail
      refine (failed_nil _).mono ?_
      rintro e w7 ⟨rfl, rfl⟩
      go_wp2_with fail
      refine (left_nil _).mono ?_
      rintro e w7 ⟨rfl, rfl⟩
      go_wp2_with fail
      refine (at_nil _).mono ?_
      rintro e w7 ⟨rfl, rfl⟩
      go_wp2_with fail
      go_ret
      exact ⟨rfl, C6.out⟩

/-- the view of the second argument, over this translation -/
theorem asks_view {H : Type} {enc : TypeId × Value → H} {w : World} {r : Reach} {b0 : Nat} {v : Value} {d : DataW H} {p : List MemPlace}
    (hv : Value.okWide Try.prog w r b0 44 v) (h : DataW.Trod enc Try.prog w 0 (fun _ => true) true 44 v d p)
    (hreach : ∀ elems sp, d = .slice elems sp → (elems.length + sp.length) * Try.prog.bytesOf 51 ≤ reachBytes) :
    ∃ (a : Option Addr) (n cap : Nat) (K A : List Int), v = .slice a n cap ∧ AsksAt w a K A n ∧ (n ≤ cap ∧ cap * 16 ≤ 140737488351232) ∧ (∀ t, 0 ≤ K.getD t 0 ∧ K.getD t 0 ≤ 255) :=
  open_asks Try.underlying44 Try.underlying51 rfl rfl (by kernel_rfl) (by kernel_rfl) Try.underlying5 Try.underlying3 (by kernel_rfl) (by kernel_rfl) hv h hreach

set_option maxRecDepth 100000 in
theorem octetReads_lifted (os : Os) (started : os.Started) (H : Type) (enc : TypeId × Value → H) :
    ReturnsInHanded {} Try.checked os 10 .any (Rows.octetReadsSpec.pre6 enc Try.prog Try.f10 Rows.octetReadsRow.domain false) (Rows.octetReadsSpec.post enc Try.prog Try.f10 false true false false) := by
  refine returnsInHanded_of_change_sized (C := Try.checked) Try.own started (by kernel_rfl) Try.func10
    (ChangeSpec.witness6 (enc := enc) (C := Try.checked) false ⟨#[], #[.string .empty, .slice none 0 0], []⟩ 8 (by kernel_rfl) (by kernel_rfl) (by kernel_rfl) (by kernel_rfl)) ?_
  intro W base args ds gs before hval0 hW _ hsz0 _
  have hval : ∀ (j : Nat) t v, Try.f10.params[j]? = some t → args[j]? = some v → Value.okWide Try.prog W .any base t v := hval0
  have hsz : (DataW.weightsEach Try.prog (Try.f10.params.toList ++ Rows.octetReadsSpec.plain.varTypes Try.prog) (ds ++ gs)).all (· ≤ reachBytes) = true := hsz0
  clear hsz0 hval0
  have hW' := hW
  obtain ⟨p, q, hA0, hV, rfl, hfz, hnd⟩ := hW
  have hA : DataW.TrodAll enc Try.prog W 0 (fun _ => true) true Try.f10.params.toList args.toList ds p := hA0
  rw [Try.params10] at hA hval hsz
  obtain ⟨v0, vs0, d0, ds0, p0, q0, hargs, rfl, rfl, h0, r0⟩ := trodAll_cons hA
  obtain ⟨v1, vs1, d1, ds1, p1, q1, rfl, rfl, rfl, h1, r1⟩ := trodAll_cons r0
  obtain ⟨rfl, rfl, rfl⟩ := trodAll_nil r1
  obtain rfl : args = #[v0, v1] := by cases args; simp_all
  obtain ⟨rfl, rfl⟩ := trodVars_none hV
  obtain ⟨s, rfl, rfl, rfl, hs⟩ := Go.ChangeMaps.open_string Try.underlying9 (hval 0 9 v0 rfl rfl) h0
  have zs : s.size ≤ 140737488351232 := sized_size hsz (j := 0) rfl rfl
  obtain ⟨a, n, cap, K, A, rfl, hA, hcap, hK⟩ := asks_view (hval 1 44 v1 rfl rfl) h1 (fun elems sp he => sized_slice hsz (j := 1) rfl (by rw [← he]; rfl) Try.underlying44)
  clear hA0
  refine (reads_walk s zs a n cap K A hA hcap hK).mono fun e W' ⟨he, hb⟩ => ?_
  subst he
  exact ⟨_, rfl, law_post Try.laidOut (by kernel_rfl) rfl Try.underlying4 rfl rfl hW' hb⟩

theorem octetReads_holds : Rows.OctetReadsSaid :=
  OpenClaim.holds_of_wide 10 Try.f10 rfl rfl rfl rfl rfl rfl rfl ⟨rfl, rfl, rfl, rfl, rfl⟩ rfl rfl rfl rfl rfl (by kernel_rfl) Try.func10 (by kernel_rfl)
    (of_decide_eq_true (by kernel_rfl)) (by unfold Func.isWrapper; first | (rw [if_pos (by decide +kernel)]; kernel_rfl) | (rw [if_neg (by decide +kernel)]; exact ⟨rfl, rfl⟩))
    (fun os started H enc _ => octetReads_lifted os started H enc)

end Go.Proofs.Ytmomhglcjphieaa
