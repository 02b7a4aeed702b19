/- Ask.stats: the statistics of the first table. -/
import Derived.Test.YtajlngkakpjncaaDoorRaw
namespace Go.Proofs.YtajlngkakpjncaaDoor
set_option linter.unusedVariables false
set_option linter.unusedSimpArgs false
open Go.RowKit

theorem slice_form {R : Rep Int} {p : Nat → Prop} {w : World} {a : Option Addr} {cap : Nat} {L : List Int} (h : SlV R p w (.slice a L.length cap) L) : L = [] ∨ ∃ b off, a = some ⟨b, off, none⟩ := by
  obtain ⟨_, _, _, h⟩ := h.row
  rcases h with h | ⟨b, off, ha, _⟩
  · exact Or.inl h
  · exact Or.inr ⟨b, off, ha⟩
set_option maxRecDepth 100000 in
set_option maxHeartbeats 8000000 in
theorem stats_any {p : Nat → Prop} {aT aU aW aV : Option Addr} {nT nU nW cT cU cW cV : Nat} {LV : List Int} {r0 r1 : Int} {w : World} (hV : SlV intR p w (.slice aV LV.length cV) LV) :
    Calls Tryd.prog 12 #[.agg #[.slice aT nT cT, .slice aU nU cU, .slice aW nW cW, .slice aV LV.length cV, .int .i64 r0, .int .i64 r1]] w
      fun e w' => (∃ a n c, e = .returned (.agg #[.int .i64 r0, .slice aV (LV.take 12).length cV, .int .i64 r1, .slice a n c])) ∧ Below w.heap.size w w' := by
  obtain ⟨_, hc, hL, _⟩ := hV.row
  obtain ⟨n, hn, hn1, hn2⟩ : ∃ n : Nat, (LV.take 12).length = n ∧ n ≤ LV.length ∧ min (LV.length : Int) 12 = n := ⟨_, rfl, by simp; omega, by simp; omega⟩
  rw [hn]
  have hA := allocs_get (w := w) (os := [.cells #[.slice aT nT cT, .slice aU nU cU, .slice aW nW cW, .slice aV LV.length cV, .int .i64 r0, .int .i64 r1] 25 (0, 0), .cells #[.int .i64 0, .slice none 0 0, .int .i64 0, .slice none 0 0] 34 (0, 0)]) rfl
  have hF := slice_form hV
  clear hn hV
  go_enter Tryd.func12, Tryd.ntmps12
  go_upto_region 2 with (fail)
  generalize hW : World.alloc _ _ = W
  have hA' : allocs w [_, _] = W := hW
  have hq := allocs_get hA' 0 rfl
  have hr : W.heap[w.heap.size + 1]? = some _ := allocs_get hA' 1 rfl
  have hb := allocs_self hA'
  have BW := Lib.hid hb
  have RW := Lib.hid hr
  have q4 := fun z : Wld (Below W.heap.size W) => cells_of ((z.good.block _ (lt_of_block hq)).trans hq) 4
  have q5 := fun z : Wld (Below W.heap.size W) => cells_of ((z.good.block _ (lt_of_block hq)).trans hq) 5
  simp only [List.getElem?_toArray, List.getElem?_cons_zero, List.getElem?_cons_succ, Nat.add_zero] at q4 q5
  have fin : ∀ aV' : Option Addr, aV = aV' → True := fun _ _ => trivial
  clear hA hA' hW hq hr hb fin
  have hnc : n ≤ cV := by omega
  rcases aV with _ | ⟨b, off, sp⟩
  · have hL0 : LV.length = 0 := by
      rcases hF with h | ⟨_, _, h⟩
      · rw [h]; rfl
      · cases h
    obtain rfl : n = 0 := by omega
    clear hF
    refine wp_region_class_tail 15 (Below W.heap.size W) (by kernel_rfl) (by kernel_rfl) (Below.drew (Below.refl _ _)) (fun ne => ?_)
    simp only [List.take_succ_cons, List.take_zero, List.drop_succ_cons, List.drop_zero]
    repeat (go_big_quiet_step (fail))
    refine wpQuiet_nil ?_
    intro w7 b7
    have hr := (b7.block _ (lt_of_block RW.out)).trans RW.out
    have g0 := cells_of hr 0
    have g1 := cells_of hr 1
    have g2 := cells_of hr 2
    have g3 := cells_of hr 3
    have f0 := free_of hr 0
    have f1 := free_of hr 1
    have f2 := free_of hr 2
    have f3 := free_of hr 3
    simp only [List.getElem?_toArray, List.getElem?_cons_zero, List.getElem?_cons_succ] at g0 g1 g2 g3
    have B7 := Lib.hid (BW.out.trans (b7.mono BW.out.size))
    clear b7 hr q4 q5
    go_wp2_with fail
    refine bodyPost_ret (v := .agg #[.int .i64 r0, .slice none 0 cV, .int .i64 r1, .slice none 0 cV]) (by simp [results, Tryd.results12, go_sem, g0, g1, g2, g3, f0, f1, f2, f3]) rfl ⟨⟨_, _, _, rfl⟩, below_set4 B7.out (Nat.le_succ _)⟩
  · obtain ⟨m, hm, hm1⟩ : ∃ m : Nat, (n : Int).tdiv 2 = m ∧ m ≤ n := ⟨n / 2, by rw [Int.tdiv_eq_ediv_of_nonneg (by omega)]; omega, by omega⟩
    have hm2 : m ≤ cV := by omega
    clear hF
    refine wp_region_class_tail 15 (Below W.heap.size W) (by kernel_rfl) (by kernel_rfl) (Below.drew (Below.refl _ _)) (fun ne => ?_)
    simp only [List.take_succ_cons, List.take_zero, List.drop_succ_cons, List.drop_zero]
    repeat (go_big_quiet_step (fail))
    refine wpQuiet_nil ?_
    intro w7 b7
    have hr := (b7.block _ (lt_of_block RW.out)).trans RW.out
    have g0 := cells_of hr 0
    have g1 := cells_of hr 1
    have g2 := cells_of hr 2
    have g3 := cells_of hr 3
    have f0 := free_of hr 0
    have f1 := free_of hr 1
    have f2 := free_of hr 2
    have f3 := free_of hr 3
    simp only [List.getElem?_toArray, List.getElem?_cons_zero, List.getElem?_cons_succ] at g0 g1 g2 g3
    have B7 := Lib.hid (BW.out.trans (b7.mono BW.out.size))
    clear b7 hr q4 q5
    by_cases hcm : cV = m
    · subst hcm
      go_wp2_with fail
      refine bodyPost_ret (v := .agg #[.int .i64 r0, .slice (some ⟨b, off, sp⟩) n cV, .int .i64 r1, .slice (some ⟨b, off, sp⟩) 0 0]) (by simp [results, Tryd.results12, go_sem, g0, g1, g2, g3, f0, f1, f2, f3]) rfl ⟨⟨_, _, _, rfl⟩, below_set4 B7.out (Nat.le_succ _)⟩
    · go_wp2_with fail
      refine bodyPost_ret (v := .agg #[.int .i64 r0, .slice (some ⟨b, off, sp⟩) n cV, .int .i64 r1, .slice (some ((⟨b, off, sp⟩ : Addr).add m)) (n - m) (cV - m)]) (by simp [results, Tryd.results12, go_sem, g0, g1, g2, g3, f0, f1, f2, f3]) rfl ⟨⟨_, _, _, rfl⟩, below_set4 B7.out (Nat.le_succ _)⟩
end Go.Proofs.YtajlngkakpjncaaDoor
