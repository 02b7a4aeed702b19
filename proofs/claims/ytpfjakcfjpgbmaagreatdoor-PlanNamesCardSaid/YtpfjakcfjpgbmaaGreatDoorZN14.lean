/- What a row's key is: plain. What package plan computes: plain data, no program in sight. Tables, conditions, statistics and access paths in memory. The small functions of package plan: col, led, rows, between, left. -/
import Derived.Test.YtpfjakcfjpgbmaaGreatDoorZN13
import Derived.Test.YtpfjakcfjpgbmaaGreatDoorZN8
import Derived.Lib.CountLaws
import Derived.Lib.Replace
import Derived.Lib.SplitLaws
import Derived.Test.YtpfjakcfjpgbmaaGreatDoorZN4
import Derived.LoopN
namespace Go.Proofs.YtpfjakcfjpgbmaaGreatDoor
set_option linter.unusedVariables false
set_option linter.unusedSimpArgs false
open Go.RowKit

/-- the number of a value is one of the machine's -/
def Val.fine (v : Val) : Prop := -9223372036854775808 ≤ v.n ∧ v.n ≤ 9223372036854775807
def keyInt (n : Int) : List UInt8 := be 8 (n + 9223372036854775808)
def keyOne (v : Val) : List UInt8 :=
  byteOf (v.kind + 1) :: (if v.kind = 1 then keyInt v.n else if v.kind = 2 then escB v.s.data.toList ++ [0, 1] else [])
def keyRaw : List Val → List UInt8
  | [] => []
  | v :: L => keyOne v ++ keyRaw L
def keyOf (L : List Val) : List UInt8 := if rightsB L then keyRaw L else []
/-- the key of a single value -/
def keyV (v : Val) : List UInt8 := if rightB v then keyOne v else []
theorem keyRaw_app (L M : List Val) : keyRaw (L ++ M) = keyRaw L ++ keyRaw M := by
  induction L with
  | nil => rfl
  | cons v L ih => simp [keyRaw, ih]
theorem keyOf_one (v : Val) : keyOf [v] = keyV v := by
  simp [keyOf, keyV, rightsB, keyRaw]
theorem keyRaw_take (L : List Val) (k : Nat) (h : k < L.length) : keyRaw (L.take (k + 1)) = keyRaw (L.take k) ++ keyOne (L.getD k default) := by
  rw [List.take_add_one, List.getElem?_eq_getElem h, keyRaw_app, List.getD_eq_getElem?_getD, List.getElem?_eq_getElem h]
  simp [keyRaw]
theorem escB_len : ∀ l : List UInt8, (escB l).length ≤ 2 * l.length
  | [] => Nat.le_refl _
  | c :: l => by
    have := escB_len l
    rw [escB]
    split <;> simp <;> omega
theorem keyInt_len (n : Int) : (keyInt n).length = 8 := be_len _ _
theorem keyOne_len (v : Val) (h : rightB v = true) : (keyOne v).length ≤ 83 := by
  unfold keyOne
  by_cases h1 : v.kind = 1
  · rw [if_pos h1]; simp [keyInt_len]
  · rw [if_neg h1]
    by_cases h2 : v.kind = 2
    · rw [if_pos h2]
      have hl := escB_len v.s.data.toList
      simp [rightB, h2] at h
      have : v.s.data.toList.length = v.s.size := by rw [Array.length_toList]; rfl
      simp; omega
    · rw [if_neg h2]; simp
theorem keyRaw_len : ∀ L : List Val, L.all rightB = true → (keyRaw L).length ≤ 83 * L.length
  | [], _ => by simp [keyRaw]
  | v :: L, h => by
    simp only [List.all_cons, Bool.and_eq_true] at h
    have h1 := keyOne_len v h.1
    have h2 := keyRaw_len L h.2
    simp [keyRaw]; omega

/-- the library's words for an exchange of one byte -/
theorem index_one_cons (c x : UInt8) (s : List UInt8) : Lib.index (c :: s) [x] = if c = x then 0 else if Lib.index s [x] = -1 then -1 else Lib.index s [x] + 1 := by
  rw [Lib.index]
  by_cases h : c = x
  · subst h; simp [List.isPrefixOf]
  · have : (x == c) = false := by simp; exact fun e => h e.symm
    simp [List.isPrefixOf, this, h]
theorem index_one_nil (x : UInt8) : Lib.index [] [x] = -1 := rfl
def swapB (x : UInt8) (new : List UInt8) : List UInt8 → List UInt8
  | [] => []
  | c :: s => (if c = x then new else [c]) ++ swapB x new s
theorem swap_miss (x : UInt8) (new : List UInt8) : ∀ s : List UInt8, Lib.index s [x] = -1 → swapB x new s = s
  | [], _ => rfl
  | c :: s, h => by
    rw [index_one_cons] at h
    by_cases hc : c = x
    · rw [if_pos hc] at h; cases h
    · rw [if_neg hc] at h
      have hge := Lib.index_ge s [x]
      split at h
      · rename_i h2
        rw [swapB, if_neg hc, swap_miss x new s h2]; rfl
      · omega
theorem swap_hit (x : UInt8) (new : List UInt8) : ∀ (s : List UInt8) (i : Nat), Lib.index s [x] = i → swapB x new s = s.take i ++ new ++ swapB x new (s.drop (i + 1))
  | [], i, h => by rw [index_one_nil] at h; omega
  | c :: s, i, h => by
    rw [index_one_cons] at h
    by_cases hc : c = x
    · rw [if_pos hc] at h
      have : i = 0 := by omega
      subst this
      rw [swapB, if_pos hc]; simp
    · rw [if_neg hc] at h
      have hge := Lib.index_ge s [x]
      split at h
      · omega
      · obtain ⟨j, rfl⟩ : ∃ j, i = j + 1 := ⟨i - 1, by omega⟩
        rw [swapB, if_neg hc, swap_hit x new s j (by omega)]
        simp [List.append_assoc]
theorem replaceK_swap (x : UInt8) (new : List UInt8) : ∀ (k : Nat) (s : List UInt8), Lib.count s [x] ≤ k → Lib.replaceK [x] new k s = swapB x new s
  | 0, s, h => by
    have hi : Lib.index s [x] = -1 := by
      have hge := Lib.index_ge s [x]
      rcases (show Lib.index s [x] < 0 ∨ 0 ≤ Lib.index s [x] by omega) with h1 | h1
      · omega
      · obtain ⟨i, hi⟩ : ∃ i : Nat, Lib.index s [x] = i := ⟨(Lib.index s [x]).toNat, by omega⟩
        rw [Lib.count_hit (by simp) hi] at h
        omega
    rw [swap_miss x new s hi]; rfl
  | k + 1, s, h => by
    have hge := Lib.index_ge s [x]
    rcases (show Lib.index s [x] < 0 ∨ 0 ≤ Lib.index s [x] by omega) with h1 | h1
    · have hi : Lib.index s [x] = -1 := by omega
      rw [swap_miss x new s hi, Lib.replaceK, hi]; rfl
    · obtain ⟨i, hi⟩ : ∃ i : Nat, Lib.index s [x] = i := ⟨(Lib.index s [x]).toNat, by omega⟩
      rw [Lib.count_hit (by simp) hi] at h
      rw [Lib.replaceK_hit _ _ _ _ _ hi, swap_hit x new s i hi, replaceK_swap x new k _ (by simpa using (show Lib.count (s.drop (i + [x].length)) [x] ≤ k by omega))]
      rfl
theorem replaceAll_swap (x : UInt8) (new s : List UInt8) (h : ([x] == new) = false) : Lib.replaceAll s [x] new = swapB x new s := by
  unfold Lib.replaceAll Lib.replace
  rw [if_neg (by rw [h]; exact Bool.false_ne_true)]
  exact replaceK_swap x new _ s (by simp [Lib.replaceNum])
theorem escB_swap : ∀ s : List UInt8, swapB 0 [0, 255] s = escB s
  | [] => rfl
  | c :: s => by
    rw [swapB, escB, escB_swap s]
    split <;> simp
theorem replaceAll_esc (s : List UInt8) : Lib.replaceAll s [0] [0, 255] = escB s := by
  rw [replaceAll_swap 0 [0, 255] s rfl, escB_swap]

theorem xor_top (n : Nat) (h : n < 2 ^ 64) : n ^^^ 2 ^ 63 = (n + 2 ^ 63) % 2 ^ 64 := by
  rcases Nat.lt_or_ge n (2 ^ 63) with h1 | h1
  · rw [Nat.mod_eq_of_lt (by omega)]
    have e : n + 2 ^ 63 = 2 ^ 63 * 1 + n := by omega
    rw [e, Nat.two_pow_add_eq_or_of_lt h1]
    apply Nat.eq_of_testBit_eq
    intro i
    simp only [Nat.testBit_xor, Nat.testBit_or, Nat.mul_one, Nat.testBit_two_pow]
    by_cases hi : 63 = i
    · subst hi
      simp [Nat.testBit_lt_two_pow h1]
    · simp [hi]
  · obtain ⟨m, rfl⟩ : ∃ m, n = 2 ^ 63 + m := ⟨n - 2 ^ 63, by omega⟩
    have hm : m < 2 ^ 63 := by omega
    have e : (2 ^ 63 + m + 2 ^ 63) % 2 ^ 64 = m := by omega
    have e2 : 2 ^ 63 + m = 2 ^ 63 * 1 + m := by omega
    rw [e, e2, Nat.two_pow_add_eq_or_of_lt hm]
    apply Nat.eq_of_testBit_eq
    intro i
    simp only [Nat.testBit_xor, Nat.testBit_or, Nat.mul_one, Nat.testBit_two_pow]
    by_cases hi : 63 = i
    · subst hi
      simp [Nat.testBit_lt_two_pow hm]
    · simp [hi]
theorem xor_sign (n : Int) (h : -9223372036854775808 ≤ n ∧ n ≤ 9223372036854775807) : bits .xor .u64 (IntKind.u64.wrap n) 9223372036854775808 = n + 9223372036854775808 := by
  have h0 : 0 ≤ IntKind.u64.wrap n ∧ IntKind.u64.wrap n < 18446744073709551616 := by rw [IntKind.wrap_u64]; omega
  obtain ⟨m, hm⟩ : ∃ m : Nat, IntKind.u64.wrap n = m := ⟨(IntKind.u64.wrap n).toNat, by omega⟩
  rw [hm]
  have hlt : m < 18446744073709551616 := by omega
  show IntKind.u64.wrap ((BitVec.ofInt 64 (m : Int) ^^^ BitVec.ofInt 64 9223372036854775808).toNat : Int) = _
  have e : (BitVec.ofInt 64 (m : Int) ^^^ BitVec.ofInt 64 9223372036854775808).toNat = (m + 2 ^ 63) % 2 ^ 64 := by
    rw [BitVec.toNat_xor, BitVec.toNat_ofInt, BitVec.toNat_ofInt, ← xor_top m (by omega)]
    congr 1
    omega
  rw [e]
  rw [IntKind.wrap_u64] at hm
  rw [IntKind.wrap_u64]
  omega
/-- the reference's way to the same bytes -/
theorem xor7 (c : Nat) (h : c < 256) : c ^^^ 128 = (c + 128) % 256 := by
  rcases Nat.lt_or_ge c (2 ^ 7) with h1 | h1
  · rw [Nat.mod_eq_of_lt (by omega)]
    have e : c + 128 = 2 ^ 7 * 1 + c := by omega
    rw [e, Nat.two_pow_add_eq_or_of_lt h1]
    apply Nat.eq_of_testBit_eq
    intro i
    rw [show (128 : Nat) = 2 ^ 7 from rfl]
    simp only [Nat.testBit_xor, Nat.testBit_or, Nat.mul_one, Nat.testBit_two_pow]
    by_cases hi : 7 = i
    · subst hi
      simp [Nat.testBit_lt_two_pow h1]
    · simp [hi]
  · obtain ⟨m, rfl⟩ : ∃ m, c = 2 ^ 7 + m := ⟨c - 2 ^ 7, by omega⟩
    have hm : m < 2 ^ 7 := by omega
    have e : (2 ^ 7 + m + 128) % 256 = m := by omega
    have e2 : 2 ^ 7 + m = 2 ^ 7 * 1 + m := by omega
    rw [e, e2, Nat.two_pow_add_eq_or_of_lt hm]
    apply Nat.eq_of_testBit_eq
    intro i
    rw [show (128 : Nat) = 2 ^ 7 from rfl]
    simp only [Nat.testBit_xor, Nat.testBit_or, Nat.mul_one, Nat.testBit_two_pow]
    by_cases hi : 7 = i
    · subst hi
      simp [Nat.testBit_lt_two_pow hm]
    · simp [hi]
theorem keyInt_front (n : Int) : keyInt n = byteOf (n / 72057594037927936 + 128) :: be 7 n := by
  unfold keyInt
  rw [be_front]
  congr 1
  · refine byteOf_congr ?_
    simp only [Int.reducePow]
    omega
  · refine be_congr _ _ 7 fun i hi => ?_
    have h3 : i = 0 ∨ i = 1 ∨ i = 2 ∨ i = 3 ∨ i = 4 ∨ i = 5 ∨ i = 6 := by omega
    rcases h3 with rfl | rfl | rfl | rfl | rfl | rfl | rfl <;> simp only [Int.reducePow] <;> omega
end Go.Proofs.YtpfjakcfjpgbmaaGreatDoor

namespace Go.Proofs.YtpfjakcfjpgbmaaGreatDoor
set_option linter.unusedVariables false
set_option linter.unusedSimpArgs false
open Go

structure Cond where
  col : ByteArray
  op : Int
  val : Val
structure Ix where
  name : ByteArray
  cols : List Int
  root : Int
structure Tab where
  id : Int
  name : ByteArray
  cols : List (ByteArray × Int)
  idx : List Ix
structure Sta where
  rows : Int
  vals : List Int
structure Way where
  index : Int
  lo : ByteArray
  hi : ByteArray
  cost : Int
structure PlanV where
  way : Way
  join : Way
  merge : Bool
  cost : Int

def noStr : ByteArray := ⟨#[]⟩
def mkStr (l : List UInt8) : ByteArray := ⟨l.toArray⟩
theorem mkStr_data (l : List UInt8) : (mkStr l).data.toList = l := rfl
theorem toList_data (s : ByteArray) : s.toList = s.data.toList := ByteArray.toList_eq s
instance : Inhabited Cond := ⟨⟨noStr, 0, default⟩⟩
instance : Inhabited Ix := ⟨⟨noStr, [], 0⟩⟩
def way0 : Way := ⟨0, noStr, noStr, 0⟩
instance : Inhabited Way := ⟨way0⟩
def plan0 : PlanV := ⟨way0, way0, false, 0⟩

/-- the first place at which p holds, or -1 -/
def idxOf {α : Type} (p : α → Bool) (L : List α) : Int := match L.findIdx? p with | some i => (i : Int) | none => -1
theorem idxOf_hit {α : Type} {p : α → Bool} {L : List α} {k : Nat} (hk : k < L.length) (h : p L[k] = true) (hb : ∀ t (ht : t < k), p (L[t]'(by omega)) = false) : idxOf p L = k := by
  have : L.findIdx? p = some k := by
    rw [List.findIdx?_eq_some_iff_getElem]
    exact ⟨hk, h, fun j hj => by rw [hb j hj]; simp⟩
  simp [idxOf, this]
theorem idxOf_miss {α : Type} {p : α → Bool} {L : List α} (hb : ∀ t (ht : t < L.length), p L[t] = false) : idxOf p L = -1 := by
  have : L.findIdx? p = none := by
    rw [List.findIdx?_eq_none_iff]
    intro x hx
    obtain ⟨i, hi, rfl⟩ := List.getElem_of_mem hx
    exact hb i hi
  simp [idxOf, this]
theorem idxOf_bd {α : Type} (p : α → Bool) (L : List α) : -1 ≤ idxOf p L ∧ idxOf p L < L.length := by
  unfold idxOf
  cases h : L.findIdx? p with
  | none => simp; omega
  | some i =>
    rw [List.findIdx?_eq_some_iff_getElem] at h
    obtain ⟨hi, _⟩ := h
    simp; omega
theorem idxOf_spec {α : Type} (p : α → Bool) (L : List α) (h : 0 ≤ idxOf p L) : ∃ (i : Nat) (hi : i < L.length), idxOf p L = i ∧ p L[i] = true ∧ ∀ t (ht : t < i), p (L[t]'(by omega)) = false := by
  unfold idxOf at *
  cases h2 : L.findIdx? p with
  | none => rw [h2] at h; simp at h
  | some i =>
    rw [List.findIdx?_eq_some_iff_getElem] at h2
    obtain ⟨hi, h3, h4⟩ := h2
    exact ⟨i, hi, rfl, h3, fun t ht => by simpa using h4 t ht⟩
theorem idxOf_neg {α : Type} (p : α → Bool) (L : List α) (h : idxOf p L < 0) : ∀ x ∈ L, p x = false := by
  unfold idxOf at h
  cases h2 : L.findIdx? p with
  | none => rw [List.findIdx?_eq_none_iff] at h2; exact fun x hx => h2 x hx
  | some i => rw [h2] at h; simp at h; omega

def sEq (a b : ByteArray) : Bool := a.toList == b.toList
theorem sEq_iff (a b : ByteArray) : sEq a b = true ↔ a = b := by
  unfold sEq
  rw [beq_iff_eq, toList_data, toList_data]
  constructor
  · intro h
    obtain ⟨⟨a⟩⟩ := a
    obtain ⟨⟨b⟩⟩ := b
    simp at h
    rw [h]
  · rintro rfl; rfl
def colOf (T : Tab) (name : ByteArray) : Int := idxOf (fun c => sEq c.1 name) T.cols
def clampI (lo n hi : Int) : Int := max lo (min n hi)
def rowsOf (S : Sta) : Int := clampI 0 S.rows 1000000
theorem rowsOf_bd (S : Sta) : 0 ≤ rowsOf S ∧ rowsOf S ≤ 1000000 := by unfold rowsOf clampI; omega
def valsOf (S : Sta) (c : Int) : Int := if c < S.vals.length then clampI 1 (S.vals.getD c.toNat 0) 1000000 else 1
theorem valsOf_bd (S : Sta) (c : Int) : 1 ≤ valsOf S c ∧ valsOf S c ≤ 1000000 := by
  unfold valsOf clampI
  split <;> omega
def leftOf (n : Int) (S : Sta) (c : Int) : Int := (n + valsOf S c - 1) / valsOf S c
theorem leftOf_bd (n : Int) (S : Sta) (c : Int) (h0 : 0 ≤ n) (h1 : n ≤ 1000000) : 0 ≤ leftOf n S c ∧ leftOf n S c ≤ 1000000 := by
  unfold leftOf
  have hv := valsOf_bd S c
  generalize valsOf S c = v at *
  refine ⟨Int.ediv_nonneg (by omega) (by omega), ?_⟩
  rcases (show n = 0 ∨ 1 ≤ n by omega) with rfl | hn
  · have : (0 + v - 1) / v = 0 := Int.ediv_eq_zero_of_lt (by omega) (by omega)
    omega
  · have : (n + v - 1) / v ≤ n := by
      refine Int.ediv_le_of_le_mul (by omega) ?_
      have : n + v - 1 ≤ n * v := by
        have h2 : 0 ≤ (n - 1) * (v - 1) := Int.mul_nonneg (by omega) (by omega)
        have h3 : (n - 1) * (v - 1) = n * v - n - v + 1 := by rw [Int.sub_mul, Int.mul_sub, Int.mul_sub]; omega
        omega
      exact this
    omega
/-- a condition on a column, with one of the operators -/
def condOn (name : ByteArray) (ops : List Int) (c : Cond) : Bool := sEq c.col name && ops.contains c.op && rightB c.val && decide (c.val.kind ≠ 0)
def condF (W : List Cond) (name : ByteArray) (ops : List Int) : Option Val := (W.find? (condOn name ops)).map (·.val)
theorem condF_hit {W : List Cond} {name : ByteArray} {ops : List Int} {k : Nat} (hk : k < W.length) (h : condOn name ops W[k] = true) (hb : ∀ t (ht : t < k), condOn name ops (W[t]'(by omega)) = false) : condF W name ops = some W[k].val := by
  have : W.find? (condOn name ops) = some W[k] := by
    rw [List.find?_eq_some_iff_getElem]
    exact ⟨h, k, hk, rfl, fun j hj => by rw [hb j hj]; simp⟩
  simp [condF, this]
theorem condF_miss {W : List Cond} {name : ByteArray} {ops : List Int} (hb : ∀ t (ht : t < W.length), condOn name ops W[t] = false) : condF W name ops = none := by
  have : W.find? (condOn name ops) = none := by
    rw [List.find?_eq_none]
    intro x hx
    obtain ⟨i, hi, rfl⟩ := List.getElem_of_mem hx
    rw [hb i hi]; simp
  simp [condF, this]
theorem condF_some {W : List Cond} {name : ByteArray} {ops : List Int} {v : Val} (h : condF W name ops = some v) : ∃ c ∈ W, c.val = v ∧ c.col = name ∧ c.op ∈ ops ∧ rightB v = true ∧ v.kind ≠ 0 := by
  unfold condF at h
  cases h2 : W.find? (condOn name ops) with
  | none => rw [h2] at h; cases h
  | some c =>
    rw [h2] at h
    simp only [Option.map_some, Option.some.injEq] at h
    subst h
    have h3 := List.find?_some h2
    simp only [condOn, Bool.and_eq_true, decide_eq_true_eq, List.contains_iff_mem] at h3
    exact ⟨c, List.mem_of_find?_eq_some h2, rfl, (sEq_iff _ _).1 h3.1.1.1, h3.1.1.2, h3.1.2, h3.2⟩
structure Idx where
  pre : List UInt8
  lo : List UInt8
  hi : List UInt8
  rest : Int
/-- the bounds of the first column without an Eq condition -/
def idxEnd (W : List Cond) (name : ByteArray) (p : List UInt8) (r : Int) : Idx :=
  ⟨p, ((condF W name [5, 6]).map keyV).getD [], ((condF W name [3, 4]).map keyV).getD [],
    if (condF W name [3, 4]).isSome then ((if (condF W name [5, 6]).isSome then (r + 2) / 3 else r) + 2) / 3 else if (condF W name [5, 6]).isSome then (r + 2) / 3 else r⟩
def nameAt (T : Tab) (c : Int) : ByteArray := (T.cols.getD c.toNat default).1
/-- the columns of an index, one after the other -/
def idxGo (T : Tab) (S : Sta) (W : List Cond) : List Int → List UInt8 → Int → Idx
  | [], p, r => ⟨p, [], [], r⟩
  | c :: cs, p, r =>
    if c < 0 ∨ (T.cols.length : Int) ≤ c then ⟨p, [], [], r⟩ else
    match condF W (nameAt T c) [1] with
    | some v => idxGo T S W cs (p ++ keyV v) (leftOf r S c)
    | none => idxEnd W (nameAt T c) p r
def cut16 (l : List UInt8) : List UInt8 := l.take 16
def byIdx (T : Tab) (S : Sta) (W : List Cond) (n : Nat) : Way :=
  let g := idxGo T S W (T.idx.getD n default).cols [] (rowsOf S)
  ⟨n, mkStr (cut16 (g.pre ++ g.lo)), mkStr (cut16 (g.pre ++ g.hi)), 3 + 2 * g.rest⟩
def scanOf (S : Sta) : Way := ⟨-1, noStr, noStr, 1 + rowsOf S⟩
def waysOf (T : Tab) (S : Sta) (W : List Cond) : List Way := scanOf S :: (List.range T.idx.length).map (byIdx T S W)
theorem idxGo_bd (T : Tab) (S : Sta) (W : List Cond) : ∀ (cs : List Int) (p : List UInt8) (r : Int), 0 ≤ r → r ≤ 1000000 → 0 ≤ (idxGo T S W cs p r).rest ∧ (idxGo T S W cs p r).rest ≤ 1000000
  | [], p, r, h0, h1 => ⟨h0, h1⟩
  | c :: cs, p, r, h0, h1 => by
    rw [idxGo]
    split
    · exact ⟨h0, h1⟩
    · split
      · have := leftOf_bd r S c h0 h1
        exact idxGo_bd T S W cs _ _ this.1 this.2
      · unfold idxEnd
        simp only
        split <;> split <;> omega
theorem waysOf_cost (T : Tab) (S : Sta) (W : List Cond) : ∀ x ∈ waysOf T S W, 0 ≤ x.cost ∧ x.cost ≤ 2000003 := by
  intro x hx
  have h0 := rowsOf_bd S
  rcases List.mem_cons.1 hx with rfl | hx
  · simp [scanOf]; omega
  · obtain ⟨n, _, rfl⟩ := List.mem_map.1 hx
    have := idxGo_bd T S W (T.idx.getD n default).cols [] (rowsOf S) h0.1 h0.2
    simp only [byIdx]; omega
/-- the first of least cost -/
def bestGo : Way → List Way → Way
  | m, [] => m
  | m, x :: L => bestGo (if x.cost < m.cost then x else m) L
def bestOf : List Way → Way
  | [] => way0
  | x :: L => bestGo x L
def covKey (r : List Val) : List Int → List UInt8
  | [] => []
  | c :: cs => if c < 0 ∨ (r.length : Int) ≤ c then [] else keyV (r.getD c.toNat default) ++ covKey r cs
def within (k lo hi : List UInt8) : Bool := !Op.bytesLess k lo && (Op.bytesLess (k.take (min k.length hi.length)) hi || k.take (min k.length hi.length) == hi)
def coversOf (T : Tab) (w : Way) (r : List Val) : Bool :=
  if w.index < 0 ∨ (T.idx.length : Int) ≤ w.index then true else
  within (cut16 (covKey r (T.idx.getD w.index.toNat default).cols)) w.lo.data.toList w.hi.data.toList
def ledOf (T : Tab) (c : Int) : Int := idxOf (fun x => decide (0 < x.cols.length) && (x.cols.getD 0 0 == c)) T.idx

structure SetV where
  col : ByteArray
  col2 : ByteArray
  val : Val
structure Stmt where
  kind : Int
  table : ByteArray
  name : ByteArray
  cols : List (ByteArray × Int)
  names : List ByteArray
  row : List Val
  sets : List SetV
  wher : List Cond
  join : ByteArray
  left : ByteArray
  right : ByteArray
  agg : Int
  order : List ByteArray
  mode : Int
  n : Int
def stmt0 : Stmt := ⟨0, noStr, noStr, [], [], [], [], [], noStr, noStr, noStr, 0, [], 0, 0⟩
def setNames (l : List SetV) : List ByteArray := l.flatMap fun x => if x.col2.toList.isEmpty then [x.col] else [x.col, x.col2]
def namesOf (s : Stmt) : List ByteArray :=
  (if s.kind = 5 then setNames s.sets else if s.kind = 7 then s.names ++ s.order else []) ++ s.wher.map (·.col)
def twoOf (s : Stmt) : Bool := decide (s.kind = 7) && !s.join.toList.isEmpty
def strangeB (T U : Tab) (two : Bool) (name : ByteArray) : Bool := decide (colOf T name < 0) && (!two || decide (colOf U name < 0))
def mineOf (T : Tab) (own : Bool) (W : List Cond) : List Cond := W.filter fun c => decide (0 ≤ colOf T c.col) == own
def probeOf (U : Tab) (b : Sta) (r : Int) : Way :=
  if 0 ≤ ledOf U r then ⟨ledOf U r, noStr, noStr, 3 + 2 * leftOf (rowsOf b) b r⟩ else scanOf b
def planOf (T U : Tab) (a b : Sta) (s : Stmt) : PlanV × Int :=
  if s.kind ≠ 5 ∧ s.kind ≠ 6 ∧ s.kind ≠ 7 then (plan0, 1) else
  let two := twoOf s
  let l := colOf T s.left
  let r := colOf U s.right
  if (namesOf s).any (strangeB T U two) || two && (decide (l < 0) || decide (r < 0)) then (plan0, 50) else
  let ways := waysOf T a (mineOf T true s.wher)
  let w := bestOf ways
  if !two then (⟨w, way0, false, w.cost⟩, 0) else
  let others := waysOf U b (mineOf T false s.wher)
  let i := ledOf T l
  let k := ledOf U r
  let probe := probeOf U b r
  let nested : PlanV := ⟨w, probe, false, w.cost + rowsOf a * probe.cost⟩
  if decide (0 ≤ i) && decide (0 ≤ k) && decide ((T.cols.getD l.toNat default).2 = 1) && decide ((U.cols.getD r.toNat default).2 = 1) then
    let x := ways.getD (i + 1).toNat default
    let y := others.getD (k + 1).toNat default
    if x.cost + y.cost < nested.cost then (⟨x, y, true, x.cost + y.cost⟩, 0) else (nested, 0)
  else (nested, 0)
end Go.Proofs.YtpfjakcfjpgbmaaGreatDoor

namespace Go.Proofs.YtpfjakcfjpgbmaaGreatDoor
set_option linter.unusedVariables false
set_option linter.unusedSimpArgs false
open Go.RowKit

theorem RowAt.flat {α : Type} {p : Nat → Prop} {w : World} {b off : Nat} {L : List α} {sz : Nat} {enc : α → List Value} {hl : ∀ x, (enc x).length = sz}
    (h : RowAt (flatR sz enc hl) p w (some ⟨b, off, none⟩) L) (t : Nat) (ht : t < L.length) (j : Nat) (hj : j < sz) : w.cell? ⟨b, off + t * sz + j, none⟩ = (enc L[t])[j]? := by
  obtain ⟨cs, h1, rfl⟩ := h.get t ht
  exact h1 j hj

def colEnc (c : ByteArray × Int) : List Value := [.string c.1, .int .i64 c.2]
def colR : Rep (ByteArray × Int) := flatR 2 colEnc fun _ => rfl
def valEnc (v : Val) : List Value := [.int .i64 v.kind, .int .i64 v.n, .string v.s]
def valR : Rep Val := flatR 3 valEnc fun _ => rfl
def condEnc (c : Cond) : List Value := [.string c.col, .int .i64 c.op, .int .i64 c.val.kind, .int .i64 c.val.n, .string c.val.s]
def condR : Rep Cond := flatR 5 condEnc fun _ => rfl
def wayEnc (x : Way) : List Value := [.int .i64 x.index, .string x.lo, .string x.hi, .int .i64 x.cost]
def wayR : Rep Way := flatR 4 wayEnc fun _ => rfl
def setEnc (x : SetV) : List Value := [.string x.col, .string x.col2, .int .i64 x.val.kind, .int .i64 x.val.n, .string x.val.s]
def setR : Rep SetV := flatR 5 setEnc fun _ => rfl
def Way.enc (x : Way) : Value := .agg #[.int .i64 x.index, .string x.lo, .string x.hi, .int .i64 x.cost]
def Cond.enc (c : Cond) : Value := .agg #[.string c.col, .int .i64 c.op, .int .i64 c.val.kind, .int .i64 c.val.n, .string c.val.s]
def ixR : Rep Ix where
  sz := 3
  ok := fun p w cs x => ∃ a cap, cs = [.string x.name, .slice a x.cols.length cap, .int .i64 x.root] ∧ x.cols.length ≤ cap ∧ x.cols.length ≤ 140737488355328 ∧ RowAt intR p w a x.cols
  len := by rintro p w cs x ⟨a, cap, rfl, _⟩; rfl
  keep := by rintro p w w' cs x ⟨a, cap, h0, h1, h2, h3⟩ hk; exact ⟨a, cap, h0, h1, h2, h3.keep hk⟩
  weaken := by rintro p q w cs x ⟨a, cap, h0, h1, h2, h3⟩ hk; exact ⟨a, cap, h0, h1, h2, h3.weaken hk⟩
  bound := by rintro p w cs x ⟨a, cap, h0, h1, h2, h3⟩; exact ⟨a, cap, h0, h1, h2, h3.bound⟩
/-- a table's value -/
def TabV (p : Nat → Prop) (w : World) (v : Value) (T : Tab) : Prop :=
  ∃ ac cc ai ci, v = .agg #[.int .i64 T.id, .string T.name, .slice ac T.cols.length cc, .slice ai T.idx.length ci] ∧ SlV colR p w (.slice ac T.cols.length cc) T.cols ∧ SlV ixR p w (.slice ai T.idx.length ci) T.idx
theorem TabV.keep {p : Nat → Prop} {w w' : World} {v : Value} {T : Tab} (h : TabV p w v T) (hk : ∀ k, p k → k < w.heap.size → w'.heap[k]? = w.heap[k]?) : TabV p w' v T := by
  obtain ⟨ac, cc, ai, ci, h0, h1, h2⟩ := h
  exact ⟨ac, cc, ai, ci, h0, h1.keep hk, h2.keep hk⟩
theorem TabV.below {p : Nat → Prop} {w w' : World} {v : Value} {T : Tab} (h : TabV p w v T) (hb : Below w.heap.size w w') : TabV p w' v T := h.keep fun k _ hk => hb.block k hk
theorem TabV.bound {p : Nat → Prop} {w : World} {v : Value} {T : Tab} (h : TabV p w v T) : TabV (fun k => p k ∧ k < w.heap.size) w v T := by
  obtain ⟨ac, cc, ai, ci, h0, h1, h2⟩ := h
  exact ⟨ac, cc, ai, ci, h0, h1.bound, h2.bound⟩
theorem TabV.weaken {p q : Nat → Prop} {w : World} {v : Value} {T : Tab} (h : TabV p w v T) (hk : ∀ k, p k → q k) : TabV q w v T := by
  obtain ⟨ac, cc, ai, ci, h0, h1, h2⟩ := h
  exact ⟨ac, cc, ai, ci, h0, h1.weaken hk, h2.weaken hk⟩
def StaV (p : Nat → Prop) (w : World) (v : Value) (S : Sta) : Prop :=
  ∃ a cap, v = .agg #[.int .i64 S.rows, .slice a S.vals.length cap] ∧ SlV intR p w (.slice a S.vals.length cap) S.vals
theorem StaV.keep {p : Nat → Prop} {w w' : World} {v : Value} {S : Sta} (h : StaV p w v S) (hk : ∀ k, p k → k < w.heap.size → w'.heap[k]? = w.heap[k]?) : StaV p w' v S := by
  obtain ⟨a, c, h0, h1⟩ := h
  exact ⟨a, c, h0, h1.keep hk⟩
theorem StaV.below {p : Nat → Prop} {w w' : World} {v : Value} {S : Sta} (h : StaV p w v S) (hb : Below w.heap.size w w') : StaV p w' v S := h.keep fun k _ hk => hb.block k hk

theorem StaV.bound {p : Nat → Prop} {w : World} {v : Value} {S : Sta} (h : StaV p w v S) : StaV (fun k => p k ∧ k < w.heap.size) w v S := by
  obtain ⟨a, c, h0, h1⟩ := h
  exact ⟨a, c, h0, h1.bound⟩
theorem SlV.row {α : Type} {R : Rep α} {p : Nat → Prop} {w : World} {a : Option Addr} {n cap : Nat} {L : List α} (h : SlV R p w (.slice a n cap) L) : n = L.length ∧ n ≤ cap ∧ n ≤ 140737488355328 ∧ RowAt R p w a L := by
  obtain ⟨a', cap', h0, h1, h2, h3⟩ := h
  simp only [Value.slice.injEq] at h0
  obtain ⟨rfl, rfl, rfl⟩ := h0
  exact ⟨rfl, h1, h2, h3⟩
theorem SlV.shape {α : Type} {R : Rep α} {p : Nat → Prop} {w : World} {v : Value} {L : List α} (h : SlV R p w v L) : ∃ a cap, v = .slice a L.length cap := by
  obtain ⟨a, cap, h0, _⟩ := h
  exact ⟨a, cap, h0⟩

theorem RowAt.col {p : Nat → Prop} {w : World} {b off : Nat} {L : List (ByteArray × Int)} (h : RowAt colR p w (some ⟨b, off, none⟩) L) (t : Nat) (ht : t < L.length) :
    w.cell? ⟨b, off + t * 2, none⟩ = some (.string L[t].1) ∧ w.cell? ⟨b, off + t * 2 + 1, none⟩ = some (.int .i64 L[t].2) :=
  ⟨h.flat t ht 0 (by omega), h.flat t ht 1 (by omega)⟩
theorem RowAt.val {p : Nat → Prop} {w : World} {b off : Nat} {L : List Val} (h : RowAt valR p w (some ⟨b, off, none⟩) L) (t : Nat) (ht : t < L.length) :
    w.cell? ⟨b, off + t * 3, none⟩ = some (.int .i64 L[t].kind) ∧ w.cell? ⟨b, off + t * 3 + 1, none⟩ = some (.int .i64 L[t].n) ∧ w.cell? ⟨b, off + t * 3 + 2, none⟩ = some (.string L[t].s) :=
  ⟨h.flat t ht 0 (by omega), h.flat t ht 1 (by omega), h.flat t ht 2 (by omega)⟩
theorem RowAt.cond {p : Nat → Prop} {w : World} {b off : Nat} {L : List Cond} (h : RowAt condR p w (some ⟨b, off, none⟩) L) (t : Nat) (ht : t < L.length) :
    w.cell? ⟨b, off + t * 5, none⟩ = some (.string L[t].col) ∧ w.cell? ⟨b, off + t * 5 + 1, none⟩ = some (.int .i64 L[t].op) ∧ w.cell? ⟨b, off + t * 5 + 2, none⟩ = some (.int .i64 L[t].val.kind) ∧
      w.cell? ⟨b, off + t * 5 + 3, none⟩ = some (.int .i64 L[t].val.n) ∧ w.cell? ⟨b, off + t * 5 + 4, none⟩ = some (.string L[t].val.s) :=
  ⟨h.flat t ht 0 (by omega), h.flat t ht 1 (by omega), h.flat t ht 2 (by omega), h.flat t ht 3 (by omega), h.flat t ht 4 (by omega)⟩
theorem RowAt.way {p : Nat → Prop} {w : World} {b off : Nat} {L : List Way} (h : RowAt wayR p w (some ⟨b, off, none⟩) L) (t : Nat) (ht : t < L.length) :
    w.cell? ⟨b, off + t * 4, none⟩ = some (.int .i64 L[t].index) ∧ w.cell? ⟨b, off + t * 4 + 1, none⟩ = some (.string L[t].lo) ∧ w.cell? ⟨b, off + t * 4 + 2, none⟩ = some (.string L[t].hi) ∧
      w.cell? ⟨b, off + t * 4 + 3, none⟩ = some (.int .i64 L[t].cost) :=
  ⟨h.flat t ht 0 (by omega), h.flat t ht 1 (by omega), h.flat t ht 2 (by omega), h.flat t ht 3 (by omega)⟩
theorem RowAt.set {p : Nat → Prop} {w : World} {b off : Nat} {L : List SetV} (h : RowAt setR p w (some ⟨b, off, none⟩) L) (t : Nat) (ht : t < L.length) :
    w.cell? ⟨b, off + t * 5, none⟩ = some (.string L[t].col) ∧ w.cell? ⟨b, off + t * 5 + 1, none⟩ = some (.string L[t].col2) ∧ w.cell? ⟨b, off + t * 5 + 2, none⟩ = some (.int .i64 L[t].val.kind) ∧
      w.cell? ⟨b, off + t * 5 + 3, none⟩ = some (.int .i64 L[t].val.n) ∧ w.cell? ⟨b, off + t * 5 + 4, none⟩ = some (.string L[t].val.s) :=
  ⟨h.flat t ht 0 (by omega), h.flat t ht 1 (by omega), h.flat t ht 2 (by omega), h.flat t ht 3 (by omega), h.flat t ht 4 (by omega)⟩
theorem RowAt.ix {p : Nat → Prop} {w : World} {b off : Nat} {L : List Ix} (h : RowAt ixR p w (some ⟨b, off, none⟩) L) (t : Nat) (ht : t < L.length) :
    ∃ a cap, w.cell? ⟨b, off + t * 3, none⟩ = some (.string L[t].name) ∧ w.cell? ⟨b, off + t * 3 + 1, none⟩ = some (.slice a L[t].cols.length cap) ∧ w.cell? ⟨b, off + t * 3 + 2, none⟩ = some (.int .i64 L[t].root) ∧
      SlV intR p w (.slice a L[t].cols.length cap) L[t].cols := by
  obtain ⟨cs, h1, a, cap, rfl, h2, h3, h4⟩ := h.get t ht
  exact ⟨a, cap, h1 0 (by decide), h1 1 (by decide), h1 2 (by decide), a, cap, rfl, h2, h3, h4⟩
theorem ValsAt.of {p : Nat → Prop} {w : World} {a : Option Addr} {L : List Val} (h : RowAt valR p w a L) : ValsAt w a L := by
  rcases Nat.eq_zero_or_pos L.length with h0 | h0
  · exact Or.inl (List.eq_nil_of_length_eq_zero h0)
  · obtain ⟨b, off, rfl, _⟩ := h.addr (by intro e; rw [e] at h0; cases h0)
    refine Or.inr ⟨b, off, rfl, fun t ht => ?_⟩
    have := h.val t ht
    rw [List.getD_eq_getElem?_getD, List.getElem?_eq_getElem ht]
    exact this
end Go.Proofs.YtpfjakcfjpgbmaaGreatDoor

namespace Go.Proofs.YtpfjakcfjpgbmaaGreatDoor
set_option linter.unusedVariables false
set_option linter.unusedSimpArgs false
open Go.RowKit

theorem col1_any (c : ByteArray × Int) (name : ByteArray) (bn : Nat) (w : World) (hn : w.cell? ⟨bn, 0, none⟩ = some (.string name)) :
    Calls Tryz.prog 104 #[.agg #[.string c.1, .int .i64 c.2], .pointer (some ⟨bn, 0, none⟩)] w fun e w' => e = .returned (.bool (sEq c.1 name)) ∧ Below w.heap.size w w' := by
  have hbn := World.block_lt_of_cell? w _ hn
  simp only at hbn
  go_enter Tryz.func104, Tryz.ntmps104
  go_wp2_with fail
  go_ret
  exact ⟨rfl, by go_grown⟩

theorem ifcol_any (a : Option Addr) (cap : Nat) (L : List (ByteArray × Int)) (p : Nat → Prop) (name : ByteArray) (bn : Nat) (w : World) (h : RowAt colR p w a L) (hn : w.cell? ⟨bn, 0, none⟩ = some (.string name)) (hL : L.length ≤ 140737488355328) :
    Calls Tryz.prog 103 #[.slice a L.length cap, .func (.func 104) #[] #[.pointer (some ⟨bn, 0, none⟩)]] w fun e w' => e = .returned (.int .i64 (idxOf (fun c => sEq c.1 name) L)) ∧ Below w.heap.size w w' := by
  have H := Lib.hid h
  have HN := Lib.hid hn
  clear h hn
  go_enter Tryz.func103, Tryz.ntmps103
  go_wp2_with fail
  go_loopw [8] (fun i wr => ∃ k : Nat, k ≤ L.length ∧ i = .int .i64 k ∧ (∀ t (ht : t < L.length), t < k → sEq L[t].1 name = false) ∧ Below w.heap.size w wr) (fun i _ => L.length - (intOf i).toNat)
  case atStart => exact ⟨0, by omega, rfl, fun t _ ht => by omega, Below.refl _ _⟩
  case round =>
    obtain ⟨k, hk, rfl, hall, hb⟩ := hrel
    have HA := Lib.hid hall
    clear hall
    by_cases h1 : k < L.length
    · obtain ⟨b, off, rfl, _, hbl⟩ := H.out.addr (by intro e; rw [e] at h1; cases h1)
      obtain ⟨c0, c1⟩ := (H.out.below hb).col k h1
      have hn' := hb.cell (World.block_lt_of_cell? w _ HN.out)
      rw [HN.out] at hn'
      have HN' := Lib.hid hn'
      clear hn'
      have CC := Lib.hid hb
      clear hb
      go_wp2_with fail
      refine (col1_any L[k] name bn _ HN'.out).mono ?_
      rintro e w2 ⟨rfl, b2⟩
      have C2 := Lib.hid (CC.out.trans (b2.mono CC.out.size))
      clear b2
      cases hs : sEq L[k].1 name
      · go_wp2_with fail
        go_roundw
        case rel => exact ⟨k + 1, by omega, by go_num, fun t ht htk => by rcases (show t < k ∨ t = k by omega) with h | rfl; exact HA.out t ht h; exact hs, C2.out⟩
        case measure => simp [intOf]; omega
      · go_wp2_with fail
        go_ret
        exact ⟨by rw [idxOf_hit h1 hs (fun t ht => HA.out t (by omega) ht)]; rfl, C2.out⟩
    · have hkl : k = L.length := by omega
      subst hkl
      go_wp2_with fail
      go_ret
      exact ⟨by rw [idxOf_miss (fun t ht => HA.out t ht ht)]; rfl, hb⟩

theorem col_any {p : Nat → Prop} {tv : Value} {T : Tab} {w : World} (h : TabV p w tv T) (name : ByteArray) :
    Calls Tryz.prog 41 #[tv, .string name] w fun e w' => e = .returned (.int .i64 (colOf T name)) ∧ Below w.heap.size w w' := by
  obtain ⟨ac, cc, ai, ci, rfl, h1, _⟩ := h
  obtain ⟨_, _, hL, hr⟩ := h1.row
  have hr2 := hr.below (((Below.refl w.heap.size w).alloc (Nat.le_refl _) (.cells #[.int .i64 T.id, .string T.name, .slice ac T.cols.length cc, .slice ai T.idx.length ci] 43)).alloc (by simp) (.cells #[.string name] 9))
  have H := Lib.hid hr2
  clear hr2 hr h1
  go_enter Tryz.func41, Tryz.ntmps41
  go_wp2_with fail
  refine (ifcol_any ac cc T.cols p name (w.heap.size + 1) _ H.out (by go_cell) hL).mono ?_
  rintro e w2 ⟨rfl, b2⟩
  go_wp2_with fail
  go_ret
  exact ⟨rfl, ((((Below.refl _ _).alloc (Nat.le_refl _) _).alloc (by simp) _).trans (b2.mono (by simp; omega)))⟩
end Go.Proofs.YtpfjakcfjpgbmaaGreatDoor
