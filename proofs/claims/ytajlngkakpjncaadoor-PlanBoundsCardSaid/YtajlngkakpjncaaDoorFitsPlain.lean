/- A row that fits the conditions is covered by every access path: plain, no program in sight. -/
import Derived.Test.YtajlngkakpjncaaDoorRFits
import Derived.Test.YtajlngkakpjncaaDoorModel
import Derived.Test.YtajlngkakpjncaaDoorOrder
namespace Go.Proofs.YtajlngkakpjncaaDoor
set_option linter.unusedVariables false
set_option linter.unusedSimpArgs false
open Go

theorem ordI_le {l m : Bool} (h : ordI l m ≤ 0) (h2 : l = false) : m = false := by
  subst h2; cases m
  · rfl
  · simp [ordI] at h
theorem ordI_ge {l m : Bool} (h : 0 ≤ ordI l m) : l = false := by
  cases l
  · rfl
  · simp [ordI] at h
theorem cmpL_le : ∀ a b : List UInt8, cmpL a b ≤ 0 → leB a b = true
  | [], _, _ => leB_nil _
  | _ :: _, [], h => by simp [cmpL] at h
  | c :: x, d :: y, h => by
    rw [cmpL] at h
    rw [leB_cons]
    by_cases e : c = d
    · subst e
      rw [if_pos rfl] at h
      simp [cmpL_le x y h]
    · rw [if_neg e] at h
      by_cases l : c.toNat < d.toNat
      · have : c < d := UInt8.lt_iff_toNat_lt.2 l
        simp [this]
      · rw [if_neg l] at h
        omega
theorem cmpL_ge : ∀ a b : List UInt8, 0 ≤ cmpL a b → leB b a = true
  | _, [], _ => leB_nil _
  | [], _ :: _, h => by simp [cmpL] at h
  | c :: x, d :: y, h => by
    rw [cmpL] at h
    rw [leB_cons]
    by_cases e : c = d
    · subst e
      rw [if_pos rfl] at h
      simp [cmpL_ge x y h]
    · rw [if_neg e] at h
      by_cases l : c.toNat < d.toNat
      · rw [if_pos l] at h
        omega
      · have hne : c.toNat ≠ d.toNat := fun e' => e (UInt8.toNat.inj e')
        have : d < c := UInt8.lt_iff_toNat_lt.2 (by omega)
        simp [this]

/-- two values of one kind that may be compared -/
structure Pair (a b : Val) : Prop where
  ra : rightB a = true
  rb : rightB b = true
  fa : a.fine
  fb : b.fine
  k : (a.kind = 1 ∧ b.kind = 1) ∨ (a.kind = 2 ∧ b.kind = 2)
theorem under_cons (c : UInt8) (x u : List UInt8) : under (c :: x) (c :: u) = under x u := under_pre [c] x u
theorem leB_cons_same (c : UInt8) (x u : List UInt8) : leB (c :: x) (c :: u) = leB x u := leB_pre [c] x u
theorem pair_num {a b : Val} (ha : a.kind = 1) (hb : b.kind = 1) : cmpV a b = ordI (decide (a.n < b.n)) (decide (b.n < a.n)) := by
  unfold cmpV
  rw [ha, hb, if_neg (by simp), if_pos (by decide)]
theorem pair_str {a b : Val} (ha : a.kind = 2) (hb : b.kind = 2) : cmpV a b = cmpL a.s.data.toList b.s.data.toList := by
  unfold cmpV
  rw [ha, hb, if_neg (by simp), if_neg (by decide), if_pos (by decide)]
theorem key_num {a : Val} (h : rightB a = true) (k : a.kind = 1) : keyV a = byteOf 2 :: be 8 (a.n + 9223372036854775808) := by
  unfold keyV keyOne keyInt
  rw [if_pos h, k]
  rfl
theorem key_str {a : Val} (h : rightB a = true) (k : a.kind = 2) : keyV a = byteOf 3 :: (escB a.s.data.toList ++ [0, 1]) := by
  unfold keyV keyOne
  rw [if_pos h, k]
  rfl
theorem pair_le {a b : Val} (h : Pair a b) (hc : cmpV a b ≤ 0) (rest : List UInt8) : under (keyV a ++ rest) (keyV b) = true := by
  obtain ⟨ra, rb, fa, fb, ⟨ka, kb⟩ | ⟨ka, kb⟩⟩ := h
  · rw [pair_num ka kb] at hc
    rw [key_num ra ka, key_num rb kb, List.cons_append, under_cons]
    have hle : a.n ≤ b.n := by
      by_cases h1 : a.n < b.n
      · omega
      · have := ordI_le hc (by simpa using h1)
        simp at this
        omega
    unfold Val.fine at fa fb
    unfold under
    rw [List.take_left' (by rw [be_len, be_len])]
    exact be_le 8 _ _ (by omega) (by omega) (by simp only [Int.reducePow]; omega)
  · rw [pair_str ka kb] at hc
    rw [key_str ra ka, key_str rb kb, List.cons_append, under_cons]
    exact esc_upper _ _ rest (cmpL_le _ _ hc)
theorem pair_ge {a b : Val} (h : Pair a b) (hc : 0 ≤ cmpV a b) (rest : List UInt8) : leB (keyV b) (keyV a ++ rest) = true := by
  obtain ⟨ra, rb, fa, fb, ⟨ka, kb⟩ | ⟨ka, kb⟩⟩ := h
  · rw [pair_num ka kb] at hc
    rw [key_num ra ka, key_num rb kb, List.cons_append, leB_cons_same]
    have hle : b.n ≤ a.n := by
      have := ordI_ge hc
      simp at this
      omega
    unfold Val.fine at fa fb
    exact leB_app_right _ _ _ (be_le 8 _ _ (by omega) (by omega) (by simp only [Int.reducePow]; omega))
  · rw [pair_str ka kb] at hc
    rw [key_str ra ka, key_str rb kb, List.cons_append, leB_cons_same]
    exact esc_lower _ _ rest (cmpL_ge _ _ hc)
theorem pair_eq {a b : Val} (h : Pair a b) (hc : cmpV a b = 0) : keyV a = keyV b := by
  obtain ⟨ra, rb, fa, fb, ⟨ka, kb⟩ | ⟨ka, kb⟩⟩ := h
  · rw [pair_num ka kb] at hc
    have h1 := ordI_ge (by omega : 0 ≤ ordI (decide (a.n < b.n)) (decide (b.n < a.n)))
    have h2 := ordI_le (by omega : ordI (decide (a.n < b.n)) (decide (b.n < a.n)) ≤ 0) h1
    simp at h1 h2
    rw [key_num ra ka, key_num rb kb, show a.n = b.n by omega]
  · rw [pair_str ka kb] at hc
    have e : a.s.data.toList = b.s.data.toList := leB_antisymm _ _ (cmpL_le _ _ (by omega)) (cmpL_ge _ _ (by omega))
    rw [key_str ra ka, key_str rb kb, e]

theorem place_right {v : Val} (h : rightB v = true) : placeV v.kind = v.kind ∧ 0 ≤ v.kind ∧ v.kind ≤ 2 := by
  simp only [rightB, knownB, Bool.and_eq_true, decide_eq_true_eq] at h
  unfold placeV
  rw [if_neg (by omega)]
  omega
/-- what it means that a value fits, but for Ne -/
theorem fits_pair {a b : Val} {op : Int} (ra : rightB a = true) (rb : rightB b = true) (fa : a.fine) (fb : b.fine) (ho : op ≠ 2) (h : fitsV a op b = true) : Pair a b ∧ opOk op (cmpV a b) = true := by
  obtain ⟨pa, a0, a2⟩ := place_right ra
  obtain ⟨pb, b0, b2⟩ := place_right rb
  unfold fitsV at h
  rw [pa, pb] at h
  by_cases h0 : a.kind = 0 ∨ b.kind = 0 ∨ a.kind = 3 ∨ b.kind = 3
  · rw [if_pos h0] at h; cases h
  rw [if_neg h0] at h
  by_cases h1 : a.kind = b.kind
  · rw [if_neg (by simp [h1])] at h
    exact ⟨⟨ra, rb, fa, fb, by omega⟩, h⟩
  · rw [if_pos h1] at h
    simp at h
    exact absurd h ho

/-- a row of a table -/
structure RowOk (T : Tab) (r : List Val) : Prop where
  len : r.length = T.cols.length
  ok : ∀ v ∈ r, rightB v = true ∧ v.fine
  col : ∀ c : Int, 0 ≤ c → c < T.cols.length → colOf T (nameAt T c) = c
theorem fits_cond {T : Tab} {r : List Val} {W : List Cond} (hr : RowOk T r) (hW : ∀ c ∈ W, c.val.fine) (hf : fitsR T r W = true) {c : Int} (h0 : 0 ≤ c) (h1 : c < T.cols.length) {ops : List Int} {v : Val} (ho : 2 ∉ ops) (h : condF W (nameAt T c) ops = some v) :
    Pair (r.getD c.toNat default) v ∧ ∃ op ∈ ops, opOk op (cmpV (r.getD c.toNat default) v) = true := by
  obtain ⟨cd, hm, rfl, hcol, hop, hrv, hk⟩ := condF_some h
  have h2 : fitsOne T r cd = true := List.all_eq_true.1 hf cd hm
  unfold fitsOne at h2
  rw [hcol, hr.col c h0 h1, if_pos ⟨h0, by rw [hr.len]; exact h1⟩] at h2
  have hlt : c.toNat < r.length := by rw [hr.len]; omega
  have hg : r.getD c.toNat default ∈ r := by rw [List.getD_eq_getElem?_getD, List.getElem?_eq_getElem hlt]; exact List.getElem_mem hlt
  obtain ⟨g1, g2⟩ := hr.ok _ hg
  obtain ⟨q1, q2⟩ := fits_pair g1 hrv g2 (hW cd hm) (by rintro e; rw [e] at hop; exact ho hop) h2
  exact ⟨q1, cd.op, hop, q2⟩
theorem opOk_eq {c : Int} (h : opOk 1 c = true) : c = 0 := by simpa [opOk] using h
theorem opOk_hi {op c : Int} (ho : op ∈ [3, 4]) (h : opOk op c = true) : c ≤ 0 := by
  simp only [List.mem_cons, List.not_mem_nil, or_false] at ho
  rcases ho with rfl | rfl <;> simp [opOk] at h <;> omega
theorem opOk_lo {op c : Int} (ho : op ∈ [5, 6]) (h : opOk op c = true) : 0 ≤ c := by
  simp only [List.mem_cons, List.not_mem_nil, or_false] at ho
  rcases ho with rfl | rfl <;> simp [opOk] at h <;> omega

theorem covKey_cons {r : List Val} {c : Int} {cs : List Int} (h : 0 ≤ c) (h1 : c < r.length) : covKey r (c :: cs) = keyV (r.getD c.toNat default) ++ covKey r cs := by
  rw [covKey, if_neg (by omega)]
theorem idx_covers {T : Tab} (S : Sta) {r : List Val} {W : List Cond} (hr : RowOk T r) (hW : ∀ c ∈ W, c.val.fine) (hf : fitsR T r W = true) : ∀ (cs : List Int) (p : List UInt8) (n : Int),
    leB ((idxGo T S W cs p n).pre ++ (idxGo T S W cs p n).lo) (p ++ covKey r cs) = true ∧ under (p ++ covKey r cs) ((idxGo T S W cs p n).pre ++ (idxGo T S W cs p n).hi) = true
  | [], p, n => by
    simp only [idxGo, covKey, List.append_nil]
    exact ⟨leB_refl _, by simpa using under_pre_only p []⟩
  | c :: cs, p, n => by
    rw [idxGo]
    by_cases ho : c < 0 ∨ (T.cols.length : Int) ≤ c
    · rw [if_pos ho]
      simp only [List.append_nil]
      exact ⟨leB_app_right _ _ _ (leB_refl _), under_pre_only _ _⟩
    · rw [if_neg ho]
      have h0 : 0 ≤ c := by omega
      have h1 : c < T.cols.length := by omega
      rw [covKey_cons h0 (by rw [hr.len]; exact h1)]
      cases h : condF W (nameAt T c) [1] with
      | some v =>
        simp only
        obtain ⟨q, op, hop, ok⟩ := fits_cond hr hW hf h0 h1 (by decide) h
        obtain rfl : op = 1 := by simpa using hop
        rw [pair_eq q (opOk_eq ok), ← List.append_assoc]
        exact idx_covers S hr hW hf cs _ _
      | none =>
        simp only [idxEnd]
        rw [leB_pre, under_pre]
        constructor
        · cases h2 : condF W (nameAt T c) [5, 6] with
          | none => exact leB_nil _
          | some v =>
            obtain ⟨q, op, hop, ok⟩ := fits_cond hr hW hf h0 h1 (by decide) h2
            exact pair_ge q (opOk_lo hop ok) _
        · cases h2 : condF W (nameAt T c) [3, 4] with
          | none => exact under_nil _
          | some v =>
            obtain ⟨q, op, hop, ok⟩ := fits_cond hr hW hf h0 h1 (by decide) h2
            exact pair_le q (opOk_hi hop ok) _
theorem le_less : ∀ x u : List UInt8, leB x u = true → (Op.bytesLess x u || x == u) = true := by
  intro x u h
  cases h2 : Op.bytesLess x u
  · have : leB u x = true := by unfold leB; rw [h2]; rfl
    rw [leB_antisymm _ _ h this]
    simp
  · rfl
theorem within_of {k lo hi : List UInt8} (h1 : leB lo k = true) (h2 : under k hi = true) : within k lo hi = true := by
  unfold within
  unfold leB at h1
  rw [h1, Bool.true_and]
  have e : k.take (min k.length hi.length) = k.take hi.length := by
    rw [Nat.min_comm, ← List.take_take, List.take_length]
  rw [e]
  exact le_less _ _ h2
/-- a row that fits is covered by every way -/
theorem ways_cover {T : Tab} (S : Sta) {r : List Val} {W : List Cond} (hr : RowOk T r) (hW : ∀ c ∈ W, c.val.fine) (hf : fitsR T r W = true) : ∀ x ∈ waysOf T S W, coversOf T x r = true := by
  intro x hx
  rcases List.mem_cons.1 hx with rfl | hx
  · unfold coversOf scanOf
    simp
  · obtain ⟨n, hn, rfl⟩ := List.mem_map.1 hx
    unfold coversOf byIdx
    simp only
    split
    · rfl
    · rw [mkStr_data, mkStr_data, Int.toNat_natCast]
      obtain ⟨h1, h2⟩ := idx_covers S hr hW hf (T.idx.getD n default).cols [] (rowsOf S)
      exact within_of (leB_take 16 _ _ h1) (under_take 16 _ _ h2)
end Go.Proofs.YtajlngkakpjncaaDoor
