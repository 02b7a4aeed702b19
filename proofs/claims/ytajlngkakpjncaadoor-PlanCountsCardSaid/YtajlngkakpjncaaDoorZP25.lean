/- plan.names: the column names of a statement. 'is a name in no table': the closure of plan.Plan, and slices.ContainsFunc with it. -/
import Derived.Test.YtajlngkakpjncaaDoorZP17
import Derived.Lib.AppendZeros
import Derived.Laws.AppendOwnNone
import Derived.Maps.AppendAt
import Derived.Test.YtajlngkakpjncaaDoorZP4
import Derived.LoopN
namespace Go.Proofs.YtajlngkakpjncaaDoor
set_option linter.unusedVariables false
set_option linter.unusedSimpArgs false
open Go.RowKit

theorem info_str : (Tryd.prog.info? 9).map (fun i => (i.zero, i.size, i.bytes)) = some (some (.string ⟨#[]⟩), 1, 16) := by kernel_rfl
def strEnc (s : ByteArray) : List Value := [.string s]

set_option maxRecDepth 100000 in
theorem grow_any (n : Nat) (hn : n ≤ 17592186044416) (w : World) : Calls Tryd.prog 65 #[.slice none 0 0, .int .i64 n] w
    fun e w' => (∃ v, e = .returned v ∧ w'.ownsRow w.heap.size 9 1 v 0 []) ∧ Below w.heap.size w w' := by
  obtain ⟨i0, hi, hz0, hz1, hz2⟩ := info_parts info_str
  by_cases h0 : n = 0
  · subst h0
    go_enter Tryd.func65, Tryd.ntmps65
    go_wp2_with fail
    go_ret
    exact ⟨⟨_, rfl, World.ownsRow_nil _ _ _ _⟩, Below.refl _ _⟩
  · have hr := Lib.run_append_nil_zeros (P := Tryd.prog) w 45 3 45 9 i0 _ .i64 .i64 Tryd.underlying45 Tryd.underlying3 hi hz0 n (by omega) (by omega) (by omega) (by rw [hz2]; omega)
    have HR := Lib.hid hr
    clear hr
    have hpos : (0 : Int) < (n : Int) := by omega
    go_enter Tryd.func65, Tryd.ntmps65
    go_wp2_with (at_builtin; refine Lib.wpList_append_run _ rfl _ _ _ _ rfl _ _ rfl rfl _ _ HR.out ?_)
    go_ret
    refine ⟨⟨_, rfl, World.ownsRow_made w _ _ (Nat.le_refl _) (grownCap_le_maxLen w n 0 9 (by unfold maxLen; omega)) ?_⟩, ((Below.refl _ _).alloc (Nat.le_refl _) _).drew⟩
    have := grownCap_ge w n 0 9
    simp [size_zeroCells]
    omega

theorem grow_int (m : Int) (h0 : 0 ≤ m) (h1 : m ≤ 17592186044416) (w : World) : Calls Tryd.prog 65 #[.slice none 0 0, .int .i64 m] w
    fun e w' => (∃ v, e = .returned v ∧ w'.ownsRow w.heap.size 9 1 v 0 []) ∧ Below w.heap.size w w' := by
  obtain ⟨n, rfl⟩ : ∃ n : Nat, m = n := ⟨m.toNat, by omega⟩
  exact grow_any n (by omega) w
theorem str_cells (x : ByteArray) : ∀ u ∈ strEnc x, u.oneCell' = true := by
  intro u hu
  simp [strEnc] at hu
  subst hu
  rfl
def strF : Rep ByteArray := flatR 1 strEnc fun _ => rfl
theorem strF_eq : strR = strF := rfl

set_option maxRecDepth 100000 in
set_option maxHeartbeats 1000000 in
theorem concat_any {p q : Nat → Prop} (bs : Nat) (w : World) (A B : List ByteArray) (a b : Option Addr) (ca cb : Nat) (h0 : w.cell? ⟨bs, 0, none⟩ = some (.slice a A.length ca)) (h1 : w.cell? ⟨bs, 1, none⟩ = some (.slice b B.length cb))
    (ha : RowAt strF p w a A) (hb : RowAt strF q w b B) (na : a = none → ca = 0) (nb : b = none → cb = 0) (lA : A.length ≤ 4398046511104) (lB : B.length ≤ 4398046511104) :
    Calls Tryd.prog 50 #[.slice (some ⟨bs, 0, none⟩) 2 2] w fun e w' => (∃ v, e = .returned v ∧ w'.ownsRow w.heap.size 9 1 v (A ++ B).length ((A ++ B).flatMap strEnc)) ∧ Below w.heap.size w w' := by
  obtain ⟨i0, hi, hz0, hz1, hz2⟩ := info_parts info_str
  have HA := Lib.hid ha
  have HB := Lib.hid hb
  have hbs := World.block_lt_of_cell? w _ h0
  simp only at hbs
  have H0 := Lib.hid h0
  have H1 := Lib.hid h1
  clear ha hb
  go_enter Tryd.func50, Tryd.ntmps50
  go_wp2_with fail
  refine wp_loop_rounds 3 ?_
  repeat any_goals (rw [rounds_succ]; go_wp2_with fail)
  refine (grow_int _ (by omega) (by omega) _).mono ?_
  rintro e w2 ⟨⟨v0, rfl, o0⟩, b2⟩
  have C2 := Lib.hid b2
  have O0 := Lib.hid o0
  have c0 := (b2.cell (p := ⟨bs, 0, none⟩) hbs).trans H0.out
  have RA := Lib.hid (HA.out.below b2)
  clear o0 b2 h0 h1
  go_wp2_with fail
  refine wp_loop_rounds 3 ?_
  rw [rounds_succ]
  go_wp2_with (at_builtin; refine wpList_append_flat rfl _ _ 45 rfl w.heap.size 9 i0 _ 1 16 Tryd.underlying45 hi hz0 hz1 hz2 rfl (by decide) _ 0 [] rfl O0.out A a ca rfl RA.out na str_cells (by unfold maxLen; omega) (by omega) C2.out.size ?_; intro v1 w3 o1 g1)
  have C3 := Lib.hid (C2.out.grown g1 C2.out.size (fun k hk => (O0.out.lt k hk).1))
  have O1 := Lib.hid o1
  have c1 := (C3.out.cell (p := ⟨bs, 1, none⟩) hbs).trans H1.out
  have RB := Lib.hid (HB.out.below C3.out)
  clear o1 g1 c0
  go_wp2_with fail
  rw [rounds_succ]
  go_wp2_with (at_builtin; refine wpList_append_flat rfl _ _ 45 rfl w.heap.size 9 i0 _ 1 16 Tryd.underlying45 hi hz0 hz1 hz2 rfl (by decide) _ (0 + A.length) _ rfl O1.out B b cb rfl RB.out nb str_cells (by unfold maxLen; omega) (by omega) C3.out.size ?_; intro v2 w4 o2 g2)
  have C4 := Lib.hid (C3.out.grown g2 C3.out.size (fun k hk => (O1.out.lt k hk).1))
  have O2 := Lib.hid o2
  clear o2 g2 c1
  go_wp2_with fail
  rw [rounds_succ]
  go_wp2_with fail
  go_ret
  exact ⟨⟨_, rfl, by simpa using O2.out⟩, C4.out⟩
end Go.Proofs.YtajlngkakpjncaaDoor

namespace Go.Proofs.YtajlngkakpjncaaDoor
set_option linter.unusedVariables false
set_option linter.unusedSimpArgs false
open Go.RowKit

/-- a table's box -/
def TabBox (p : Nat → Prop) (w : World) (b : Nat) (T : Tab) : Prop :=
  ∃ ac cc ai ci, w.heap[b]? = some (.cells #[.int .i64 T.id, .string T.name, .slice ac T.cols.length cc, .slice ai T.idx.length ci] 30 (0, 0)) ∧ SlV colR p w (.slice ac T.cols.length cc) T.cols ∧ SlV ixR p w (.slice ai T.idx.length ci) T.idx
theorem TabBox.below {p : Nat → Prop} {w w' : World} {b : Nat} {T : Tab} (h : TabBox p w b T) (hb : Below w.heap.size w w') : TabBox p w' b T := by
  obtain ⟨ac, cc, ai, ci, h0, h1, h2⟩ := h
  exact ⟨ac, cc, ai, ci, (hb.block _ (lt_of_block h0)).trans h0, h1.below hb, h2.below hb⟩
theorem TabBox.cells {p : Nat → Prop} {w : World} {b : Nat} {T : Tab} (h : TabBox p w b T) : ∃ ac cc ai ci, w.cell? ⟨b, 0, none⟩ = some (.int .i64 T.id) ∧ w.cell? ⟨b, 1, none⟩ = some (.string T.name) ∧ w.cell? ⟨b, 2, none⟩ = some (.slice ac T.cols.length cc) ∧ w.cell? ⟨b, 3, none⟩ = some (.slice ai T.idx.length ci) ∧
    TabV p w (.agg #[.int .i64 T.id, .string T.name, .slice ac T.cols.length cc, .slice ai T.idx.length ci]) T := by
  obtain ⟨ac, cc, ai, ci, h0, h1, h2⟩ := h
  exact ⟨ac, cc, ai, ci, cells_of h0 0, cells_of h0 1, cells_of h0 2, cells_of h0 3, ac, cc, ai, ci, rfl, h1, h2⟩
def BoolBox (w : World) (b : Nat) (x : Bool) : Prop := w.heap[b]? = some (.cells #[.bool x] 4 (0, 0))
theorem BoolBox.below {w w' : World} {b : Nat} {x : Bool} (h : BoolBox w b x) (hb : Below w.heap.size w w') : BoolBox w' b x := (hb.block _ (lt_of_block h)).trans h

set_option maxHeartbeats 1000000 in
theorem strange_any {p q : Nat → Prop} {w : World} {bt bu b2 : Nat} {T U : Tab} {two : Bool} (hT : TabBox p w bt T) (hU : TabBox q w bu U) (h2 : BoolBox w b2 two) (name : ByteArray) :
    Calls Tryd.prog 26 #[.string name, .pointer (some ⟨bt, 0, none⟩), .pointer (some ⟨b2, 0, none⟩), .pointer (some ⟨bu, 0, none⟩)] w fun e w' => e = .returned (.bool (strangeB T U two name)) ∧ Below w.heap.size w w' := by
  obtain ⟨ac, cc, ai, ci, t0, t1, t2, t3, hTV⟩ := hT.cells
  have HT := Lib.hid hTV
  have HU := Lib.hid hU
  have H2 := Lib.hid h2
  clear hT hU h2 hTV
  go_enter Tryd.func26, Tryd.ntmps26
  go_wp2_with fail
  refine (col_any HT.out name).mono ?_
  rintro e w1 ⟨rfl, b1⟩
  have B1 := Lib.hid b1
  have v2 := cells_of (H2.out.below b1) 0
  simp only [List.getElem?_toArray, List.getElem?_cons_zero] at v2
  obtain ⟨bc, dc, bi, di, u0, u1, u2, u3, hUV⟩ := (HU.out.below b1).cells
  have HUV := Lib.hid hUV
  clear b1 t0 t1 t2 t3 hUV
  by_cases hl : colOf T name < 0
  · cases two
    · go_wp2_with fail
      go_ret
      exact ⟨by simp [strangeB, hl], B1.out⟩
    · go_wp2_with fail
      refine (col_any HUV.out name).mono ?_
      rintro e w2 ⟨rfl, b2⟩
      have B2 := Lib.hid (B1.out.trans (b2.mono B1.out.size))
      clear b2
      go_wp2_with fail
      go_ret
      exact ⟨by simp [strangeB, hl], B2.out⟩
  · have hl2 : 0 ≤ colOf T name := by omega
    go_wp2_with fail
    go_ret
    exact ⟨by simp [strangeB]; omega, B1.out⟩

set_option maxHeartbeats 1000000 in
theorem ifs_any {p q r : Nat → Prop} {w : World} {bt bu b2 : Nat} {T U : Tab} {two : Bool} (hT : TabBox p w bt T) (hU : TabBox q w bu U) (h2 : BoolBox w b2 two) (a : Option Addr) (cap : Nat) (L : List ByteArray) (h : RowAt strF r w a L) (hL : L.length ≤ 140737488355328) :
    Calls Tryd.prog 49 #[.slice a L.length cap, .func (.func 26) #[] #[.pointer (some ⟨bt, 0, none⟩), .pointer (some ⟨b2, 0, none⟩), .pointer (some ⟨bu, 0, none⟩)]] w
      fun e w' => e = .returned (.int .i64 (idxOf (strangeB T U two) L)) ∧ Below w.heap.size w w' := by
  have H := Lib.hid h
  have HT := Lib.hid hT
  have HU := Lib.hid hU
  have H2 := Lib.hid h2
  clear h hT hU h2
  go_enter Tryd.func49, Tryd.ntmps49
  go_wp2_with fail
  go_loopw [8] (fun i wr => ∃ k : Nat, k ≤ L.length ∧ i = .int .i64 k ∧ (∀ t (ht : t < L.length), t < k → strangeB T U two L[t] = false) ∧ Below w.heap.size w wr) (fun i _ => L.length - (intOf i).toNat)
  case atStart => exact ⟨0, by omega, rfl, fun t _ ht => by omega, Below.refl _ _⟩
  case round =>
    obtain ⟨k, hk, rfl, hall, hb⟩ := hrel
    have HA := Lib.hid hall
    clear hall
    by_cases h1 : k < L.length
    · obtain ⟨b, off, rfl, _, hbl⟩ := H.out.addr (by intro e; rw [e] at h1; cases h1)
      have c0 : wr.cell? ⟨b, off + k, none⟩ = some (.string L[k]) := RowAt.str (H.out.below hb) k h1
      have CC := Lib.hid hb
      clear hb
      go_wp2_with fail
      refine (strange_any (HT.out.below CC.out) (HU.out.below CC.out) (H2.out.below CC.out) L[k]).mono ?_
      rintro e w2 ⟨rfl, b2⟩
      have C2 := Lib.hid (CC.out.trans (b2.mono CC.out.size))
      clear b2
      cases hs : strangeB T U two L[k]
      · go_wp2_with fail
        go_roundw
        case rel => exact ⟨k + 1, by omega, by go_num, fun t ht htk => by rcases (show t < k ∨ t = k by omega) with h | rfl; exact HA.out t ht h; exact hs, C2.out⟩
        case measure => simp [intOf]; omega
      · go_wp2_with fail
        go_ret
        exact ⟨by rw [idxOf_hit h1 hs (fun t ht => HA.out t (by omega) ht)]; rfl, C2.out⟩
    · have hkl : k = L.length := by omega
      subst hkl
      go_wp2_with fail
      go_ret
      exact ⟨by rw [idxOf_miss (fun t ht => HA.out t ht ht)]; rfl, hb⟩
theorem idxOf_any {α : Type} (p : α → Bool) (L : List α) : decide (0 ≤ idxOf p L) = L.any p := by
  cases h : L.any p
  · rw [List.any_eq_false] at h
    have : idxOf p L = -1 := idxOf_miss fun t ht => by simpa using h L[t] (List.getElem_mem ht)
    rw [this]; rfl
  · rw [decide_eq_true_eq]
    rcases (show idxOf p L < 0 ∨ 0 ≤ idxOf p L by omega) with h1 | h1
    · have := idxOf_neg p L h1
      rw [List.any_eq_true] at h
      obtain ⟨x, hx, hp⟩ := h
      rw [this x hx] at hp
      cases hp
    · exact h1
theorem contf_any {p q r : Nat → Prop} {w : World} {bt bu b2 : Nat} {T U : Tab} {two : Bool} (hT : TabBox p w bt T) (hU : TabBox q w bu U) (h2 : BoolBox w b2 two) (a : Option Addr) (cap : Nat) (L : List ByteArray) (h : RowAt strF r w a L) (hL : L.length ≤ 140737488355328) :
    Calls Tryd.prog 28 #[.slice a L.length cap, .func (.func 26) #[] #[.pointer (some ⟨bt, 0, none⟩), .pointer (some ⟨b2, 0, none⟩), .pointer (some ⟨bu, 0, none⟩)]] w
      fun e w' => e = .returned (.bool (L.any (strangeB T U two))) ∧ Below w.heap.size w w' := by
  rw [← idxOf_any]
  go_enter Tryd.func28, Tryd.ntmps28
  go_wp2_with fail
  refine (ifs_any hT hU h2 a cap L h hL).mono ?_
  rintro e w2 ⟨rfl, b2⟩
  go_wp2_with fail
  go_ret
  exact ⟨rfl, b2⟩
end Go.Proofs.YtajlngkakpjncaaDoor
