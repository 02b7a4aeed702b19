/- slices.SortFunc of values by value.Compare: afterwards the slice holds as many values, and nothing else has turned. -/
import Derived.Test.YtajlngkakpjncaaDoorZP23
import Derived.Test.YtajlngkakpjncaaDoorZP21
import Derived.Test.YtajlngkakpjncaaDoorZP4
import Derived.Test.YtajlngkakpjncaaDoorZP1
import Derived.Test.YtajlngkakpjncaaDoorZP6
namespace Go.Proofs.YtajlngkakpjncaaDoor
set_option linter.unusedVariables false
set_option linter.unusedSimpArgs false
open Go.RowKit Go.Sort Go.Shelf Go.Lib

theorem flat_at {α : Type} {sz : Nat} {enc : α → List Value} (hl : ∀ x, (enc x).length = sz) : ∀ (L : List α) (t : Nat) (ht : t < L.length) (j : Nat), j < sz → (L.flatMap enc)[t * sz + j]? = (enc L[t])[j]?
  | [], t, ht, _, _ => by cases ht
  | x :: L, 0, _, j, hj => by
    rw [List.flatMap_cons, Nat.zero_mul, Nat.zero_add, List.getElem?_append_left (by rw [hl]; exact hj)]
    rfl
  | x :: L, t + 1, ht, j, hj => by
    rw [List.flatMap_cons, List.getElem?_append_right (by rw [hl, Nat.add_mul]; omega), hl, show (t + 1) * sz + j - sz = t * sz + j by rw [Nat.add_mul]; omega]
    exact flat_at hl L t (by simpa using ht) j hj
/-- a new block, as a row -/
theorem flatK_list {α : Type} [Inhabited α] {enc : α → List Value} {k : Nat} (hk : ∀ x, (enc x).length = k) (h0 : 0 < k) (d : Array α) : (flatK enc k d).toList = d.toList.flatMap enc := by
  have hl : (d.toList.flatMap enc).length = d.size * k := by
    have key : ∀ l : List α, (l.flatMap enc).length = l.length * k := fun l => by
      induction l with
      | nil => simp
      | cons x l ih => rw [List.flatMap_cons, List.length_append, ih, hk, List.length_cons, Nat.add_mul, Nat.one_mul, Nat.add_comm]
    rw [key, Array.length_toList]
  refine List.ext_getElem (by simp [hl]) fun t h1 h2 => ?_
  have ht : t < d.size * k := by simpa using h1
  have hq : t / k < d.size := by rw [Nat.div_lt_iff_lt_mul h0]; exact ht
  have hr := Nat.mod_lt t h0
  have e := flat_at hk d.toList (t / k) (by simpa using hq) (t % k) hr
  rw [Nat.div_add_mod' t k, List.getElem?_eq_getElem h2] at e
  have e2 := get_flatK enc k d t ht
  rw [getElem!_pos (flatK enc k d) t (by simpa using ht)] at e2
  rw [Array.getElem_toList, e2, getElem!_pos d (t / k) hq]
  have hx : t % k < (enc d[t / k]).length := by rw [hk]; exact hr
  rw [getElem!_pos (enc d[t / k]) (t % k) hx]
  have e3 : (enc d.toList[t / k])[t % k]? = some (enc d[t / k])[t % k] := by
    rw [Array.getElem_toList, List.getElem?_eq_getElem hx]
  rw [e3] at e
  exact (Option.some.inj e).symm
theorem sortK_block {α : Type} [Inhabited α] {enc : α → List Value} {k : Nat} {w : World} {blk off m : Nat} {dk : Array α} {os : Array Obj} {j : Nat} (hj : j < w.heap.size) (hne : j ≠ blk) : (sortWorldK enc k w blk off m dk os).heap[j]? = w.heap[j]? := by
  unfold sortWorldK
  have hs : (putRowK enc k (Sort.ahead w m) blk off dk).heap.size = w.heap.size := size_putRowK ..
  rw [heap_grow_old _ _ (by rw [hs]; exact hj)]
  have : blk ≠ j := fun e => hne e.symm
  simp [putRowK, putRow, mapBlock, Sort.ahead, Array.getElem?_modify, this]
theorem sortK_grown {α : Type} [Inhabited α] (enc : α → List Value) (k : Nat) (w : World) (blk off m : Nat) (dk : Array α) (os : Array Obj) : w.grownBy (sortWorldK enc k w blk off m dk os) (some blk) :=
  ⟨rfl, rfl, rfl, size_sortWorldK_c enc k w blk off m dk os, fun j hj hne => sortK_block hj (fun e => hne (by rw [e]))⟩
theorem sortK_owns {α : Type} [Inhabited α] {enc : α → List Value} {k : Nat} (hk : ∀ x, (enc x).length = k) (h0 : 0 < k) {w : World} {B g n c m : Nat} {e : TypeId} {xs : List Value} {dk : Array α} {os : Array Obj} (h : w.ownsRow B e k (.slice (some ⟨g, 0, none⟩) n c) n xs) (hd : dk.size = n) :
    (sortWorldK enc k w g 0 m dk os).ownsRow B e k (.slice (some ⟨g, 0, none⟩) n c) n (dk.toList.flatMap enc) := by
  have hl : (dk.toList.flatMap enc).length = n * k := by rw [← flatK_list hk h0]; simp [hd]
  refine ⟨hl, ?_⟩
  rcases h.2 with ⟨e', _⟩ | ⟨g', cap, cur, e', h1, h2, h3, h4, h5, h6⟩
  · cases e'
  · simp only [Value.slice.injEq, Option.some.injEq, Addr.mk.injEq, and_true, true_and] at e'
    obtain ⟨rfl, rfl⟩ := e'
    have hg := (Array.getElem?_eq_some_iff.1 h2).1
    refine Or.inr ⟨g, c, putCells id 0 (flatK enc k dk) cur, rfl, h1, ?_, h3, h4, by simp [putCells, h5], ?_⟩
    · unfold sortWorldK
      have hs : (putRowK enc k (Sort.ahead w m) g 0 dk).heap.size = w.heap.size := size_putRowK ..
      rw [heap_grow_old _ _ (by rw [hs]; exact hg)]
      simp only [putRowK, putRow, mapBlock, Sort.ahead, Array.getElem?_modify, if_true]
      
      first
        | rw [h2]; rfl
        | (rw [show _ = some (Obj.cells cur e (0, 0)) from h2]; rfl)
    · have hsz : (flatK enc k dk).size = n * k := by simp [hd]
      have hle : n * k ≤ cur.size := by rw [h5]; exact Nat.mul_le_mul_right _ h3
      rw [← flatK_list hk h0]
      refine List.ext_getElem (by simp [putCells, hsz]; omega) fun t a1 a2 => ?_
      have ht : t < n * k := by simpa [hd] using a2
      simp only [List.getElem_take, Array.getElem_toList, putCells, Array.getElem_mapIdx]
      rw [if_pos ⟨Nat.zero_le _, by rw [hsz]; omega⟩, Nat.sub_zero, getElem!_pos _ t (by rw [hsz]; exact ht)]
      rfl
theorem KindsAt.block {w w' : World} (h : KindsAt w) (hb : w'.heap[0]? = w.heap[0]?) : KindsAt w' :=
  ⟨(World.cell?_of_block hb).trans h.1, (World.cell?_of_block hb).trans h.2.1, (World.cell?_of_block hb).trans h.2.2⟩
theorem owns_holds {w : World} {B g n c : Nat} {e : TypeId} {L : List Val} (h : w.ownsRow B e 3 (.slice (some ⟨g, 0, none⟩) n c) n (L.flatMap valEnc)) (hL : L.length = n) : HoldsK valEnc 3 w g 0 L.toArray := by
  intro j hj
  have hs : (flatK valEnc 3 L.toArray).size = n * 3 := by simp [hL]
  rw [Nat.zero_add]
  refine ⟨?_, World.ownsRow.frozenAt h j⟩
  have e := flatK_list (enc := valEnc) (k := 3) (fun _ => rfl) (by decide) L.toArray
  rw [World.ownsRow.cellAt h j (by rw [← hs]; exact hj), ← show L.toArray.toList = L from rfl, ← e, getElem!_pos _ j hj, Array.getElem?_toList, Array.getElem?_eq_getElem hj]
  rfl
theorem cmp_lays {w : World} {g n : Nat} (hK : KindsAt w) (hne : 0 ≠ g) : CmpLays Tryd.prog 23 #[] valEnc 3 cmpV g 0 n w := by
  intro m os dk _ x y
  have hkl : 0 < w.heap.size := World.block_lt_of_cell? w _ hK.1
  exact vcmp_gr x y (sortWorldK valEnc 3 w g 0 m dk os) (hK.block (sortK_block hkl hne))
theorem val_one (x : Val) : ∀ v ∈ valEnc x, v.oneCell' = true := by
  intro v hv
  simp only [valEnc, List.mem_cons, List.not_mem_nil, or_false] at hv
  rcases hv with rfl | rfl | rfl <;> rfl
theorem sort_con {g c : Nat} {L : List Val} {w : World} (hcmp : CmpLays Tryd.prog 23 #[] valEnc 3 cmpV g 0 L.toArray.size w) (hH : HoldsK valEnc 3 w g 0 L.toArray) (hg : g < w.heap.size) (hn : L.toArray.size < 4611686018427387904) :
    Calls Tryd.prog 44 #[.slice (some ⟨g, 0, none⟩) L.toArray.size c, .func (.func 23) #[] #[]] w fun e w' => e = .returned (.tuple #[]) ∧ ∃ d' n os, PermIn 0 L.toArray.size L.toArray d' ∧ SortedIn (ltOf cmpV) 0 L.toArray.size d' ∧ w' = sortWorldK valEnc 3 w g 0 n d' os := by
  have eg : ∀ args w, (callFunc 23 args).run Tryd.prog w = .ok (.enter 23 args) w := enters_of Tryd.func23 (by kernel_rfl) rfl
  have h := AnyQ.slices_SortFunc Tryd.sortVal 3 Tryd.isAgg41 Tryd.sizeOf41 valEnc (fun _ => rfl) val_one cmpV tot_cmpV.swo 23 #[] g 0 c L.toArray w eg hcmp hH hg hn
  change Calls Tryd.prog 44 _ _ _ at h
  exact h
/-- slices.SortFunc of values: as many values; what they are does not matter here -/
theorem sort_any {B g n c : Nat} {L : List Val} {w : World} (h : w.ownsRow B 41 3 (.slice (some ⟨g, 0, none⟩) n c) n (L.flatMap valEnc)) (hL : L.length = n) (hn : n ≤ 1000000) (hK : KindsAt w) (hne : 0 ≠ g) :
    Calls Tryd.prog 44 #[.slice (some ⟨g, 0, none⟩) n c, .func (.func 23) #[] #[]] w fun e w' => e = .returned (.tuple #[]) ∧ ∃ L' : List Val, L'.length = n ∧ w.grownBy w' (some g) ∧ w'.ownsRow B 41 3 (.slice (some ⟨g, 0, none⟩) n c) n (L'.flatMap valEnc) := by
  have hs : L.toArray.size = n := hL
  have hcon := sort_con (c := c) (cmp_lays hK hne) (owns_holds h hL) (World.ownsRow.lt h g rfl).2 (by rw [hs]; exact Nat.lt_of_le_of_lt hn (by decide))
  rw [hs] at hcon
  refine Calls.mono hcon ?_
  rintro e w' ⟨rfl, d', q, os, hp, _, rfl⟩
  have hd : d'.size = n := hp.1.trans hs
  refine ⟨rfl, d'.toList, by rw [Array.length_toList]; exact hd, ?_, ?_⟩
  · exact sortK_grown valEnc 3 w g 0 q d' os
  · exact sortK_owns (enc := valEnc) (k := 3) (fun _ => rfl) (by decide) h hd
theorem sort_nil (c : Nat) (w : World) : Calls Tryd.prog 44 #[.slice none 0 c, .func (.func 23) #[] #[]] w fun e w' => e = .returned (.tuple #[]) ∧ w' = w :=
  AnyF.slices_SortFunc_none Tryd.sortVal none c _ w
end Go.Proofs.YtajlngkakpjncaaDoor
