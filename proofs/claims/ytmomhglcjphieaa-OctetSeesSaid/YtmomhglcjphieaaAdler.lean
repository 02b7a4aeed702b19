/- The checksum's plain laws: of a concatenation, of one byte changed, of two neighbours exchanged. -/
import Derived.Test.YtmomhglcjphieaaText
namespace Go.Proofs.Ytmomhglcjphieaa
set_option linter.unusedVariables false
open Go.RowKit

theorem adl_one (a b : Nat) (p : Nat × Nat) (N : Nat) (x : UInt8) (h1 : p.1 < 65521) (h2 : p.2 < 65521) :
    [x].foldl adlStep ((a + p.1 + 65520) % 65521, (b + p.2 + N) % 65521) = ((a + (adlStep p x).1 + 65520) % 65521, (b + (adlStep p x).2 + (N + [x].length * (a + 65520))) % 65521) := by
  obtain ⟨c, d⟩ := p
  have e1 : ((a + c + 65520) % 65521 + x.toNat) % 65521 = (a + (c + x.toNat) % 65521 + 65520) % 65521 := by omega
  have e2 : ((b + d + N) % 65521 + (a + (c + x.toNat) % 65521 + 65520) % 65521) % 65521 = (b + (d + (c + x.toNat) % 65521) % 65521 + (N + 1 * (a + 65520))) % 65521 := by omega
  unfold adlStep
  simp only [List.foldl_cons, List.foldl_nil, List.length_singleton]
  rw [e1, e2]

theorem adl_fold (a b : Nat) (ha : a < 65521) (hb : b < 65521) (l : List UInt8) :
    l.foldl adlStep (a, b) = ((a + (adl l).1 + 65520) % 65521, (b + (adl l).2 + l.length * (a + 65520)) % 65521) := by
  rw [← List.reverse_reverse l]
  generalize l.reverse = r
  induction r with
  | nil =>
    have e : adl ([] : List UInt8).reverse = (1, 0) := rfl
    have h1 : (a + 1 + 65520) % 65521 = a := by omega
    have h2 : (b + 0 + 0) % 65521 = b := by omega
    rw [e, List.reverse_nil, List.foldl_nil, List.length_nil, Nat.zero_mul]
    show (a, b) = ((a + 1 + 65520) % 65521, (b + 0 + 0) % 65521)
    rw [h1, h2]
  | cons x r ih =>
    rw [List.reverse_cons, List.foldl_append, ih, adl_snoc, List.length_append, Nat.add_mul]
    obtain ⟨h1, h2⟩ := adl_lt r.reverse
    clear ih
    exact adl_one a b (adl r.reverse) (r.reverse.length * (a + 65520)) x h1 h2
theorem adl_app (l m : List UInt8) : adl (l ++ m) = (((adl l).1 + (adl m).1 + 65520) % 65521, ((adl l).2 + (adl m).2 + m.length * ((adl l).1 + 65520)) % 65521) := by
  obtain ⟨h1, h2⟩ := adl_lt l
  show (l ++ m).foldl adlStep (1, 0) = _
  rw [List.foldl_append]
  exact adl_fold _ _ h1 h2 m
theorem sum_app (s t : ByteArray) (a b c d n : Nat) (ha : adl s.data.toList = (a, b)) (hc : adl t.data.toList = (c, d)) (hn : t.size = n) :
    sumOf (s ++ t) = (b + d + n % 65521 * (a + 65520)) % 65521 * 65536 + (a + c + 65520) % 65521 := by
  have e : (s ++ t).data.toList = s.data.toList ++ t.data.toList := by simp
  have e2 : (n * (a + 65520)) % 65521 = (n % 65521 * (a + 65520)) % 65521 := by
    rw [Nat.mul_mod, Nat.mul_mod (n % 65521) (a + 65520), Nat.mod_mod]
  unfold sumOf
  rw [e, adl_app, ha, hc, toList_size, hn]
  simp only
  have e3 : (b + d + n * (a + 65520)) % 65521 = (b + d + n % 65521 * (a + 65520)) % 65521 := by rw [Nat.add_mod, e2, ← Nat.add_mod]
  rw [e3]

theorem low16 (a b : Nat) (ha : a < 65521) (hb : b < 65521) : bits .and .u32 ((b : Int) * 65536 + (a : Int)) 65535 = (a : Int) := by
  have e : (BitVec.ofInt 32 ((b : Int) * 65536 + (a : Int)) &&& BitVec.ofInt 32 65535).toNat = a := by
    rw [BitVec.toNat_and, BitVec.toNat_ofInt]
    have h1 : (BitVec.ofInt 32 65535).toNat = 2 ^ 16 - 1 := by decide
    rw [h1, Nat.and_two_pow_sub_one_eq_mod]
    omega
  show IntKind.u32.wrap ((BitVec.ofInt 32 ((b : Int) * 65536 + (a : Int)) &&& BitVec.ofInt 32 65535).toNat : Int) = _
  rw [e, IntKind.wrap_u32]
  omega


theorem adl_mid (l m X : List UInt8) : adl (l ++ (X ++ m)) =
    (((adl l).1 + ((adl X).1 + (adl m).1 + 65520) % 65521 + 65520) % 65521,
     ((adl l).2 + ((adl X).2 + (adl m).2 + m.length * ((adl X).1 + 65520)) % 65521 + (X.length + m.length) * ((adl l).1 + 65520)) % 65521) := by
  rw [adl_app, adl_app, List.length_append]
theorem pair_eq (p q : Nat × Nat) (hp : p.1 < 65521) (hq : q.1 < 65521) (h : p.2 * 65536 + p.1 = q.2 * 65536 + q.1) : p.1 = q.1 ∧ p.2 = q.2 := by omega
theorem adl_one_byte (c : UInt8) : adl [c] = (1 + c.toNat, 1 + c.toNat) := by
  have h := c.toNat_lt
  show ((1 + c.toNat) % 65521, (0 + (1 + c.toNat) % 65521) % 65521) = _
  have e1 : (1 + c.toNat) % 65521 = 1 + c.toNat := by omega
  have e2 : (0 + (1 + c.toNat)) % 65521 = 1 + c.toNat := by omega
  rw [e1, e2]
theorem adl_two (c d : UInt8) : adl [c, d] = (1 + c.toNat + d.toNat, 2 + 2 * c.toNat + d.toNat) := by
  have h := c.toNat_lt
  have h' := d.toNat_lt
  have e : [c, d] = [c] ++ [d] := rfl
  rw [e, adl_snoc, adl_one_byte]
  show ((1 + c.toNat + d.toNat) % 65521, (1 + c.toNat + (1 + c.toNat + d.toNat) % 65521) % 65521) = _
  have e1 : (1 + c.toNat + d.toNat) % 65521 = 1 + c.toNat + d.toNat := by omega
  rw [e1]
  have e2 : (1 + c.toNat + (1 + c.toNat + d.toNat)) % 65521 = 2 + 2 * c.toNat + d.toNat := by omega
  rw [e2]
def sumL (l : List UInt8) : Nat := (adl l).2 * 65536 + (adl l).1
theorem sumL_of (s : ByteArray) : sumOf s = sumL s.data.toList := rfl
theorem byte_ne (l m : List UInt8) (c c' : UInt8) (h : sumL (l ++ ([c] ++ m)) = sumL (l ++ ([c'] ++ m))) : c = c' := by
  obtain ⟨h1, _⟩ := pair_eq _ _ (adl_lt _).1 (adl_lt _).1 h
  rw [adl_mid, adl_mid, adl_one_byte, adl_one_byte] at h1
  have hc := c.toNat_lt
  have hc' := c'.toNat_lt
  have q1 := (adl_lt l).1
  have q2 := (adl_lt m).1
  simp only at h1
  apply UInt8.toNat_inj.1
  generalize c.toNat = x at *
  generalize c'.toNat = y at *
  generalize (adl l).1 = u at *
  generalize (adl m).1 = v at *
  omega
theorem swap_arith (u v K1 K2 x y : Nat) (hx : x < 256) (hy : y < 256)
    (h : (u + (2 + 2 * x + y + v + K1) % 65521 + K2) % 65521 = (u + (2 + 2 * y + x + v + K1) % 65521 + K2) % 65521) : x = y := by omega
theorem swap_ne (l m : List UInt8) (c d : UInt8) (h : sumL (l ++ ([c, d] ++ m)) = sumL (l ++ ([d, c] ++ m))) : c = d := by
  obtain ⟨_, h1⟩ := pair_eq _ _ (adl_lt _).1 (adl_lt _).1 h
  rw [adl_mid, adl_mid, adl_two, adl_two] at h1
  have hc := c.toNat_lt
  have hd := d.toNat_lt
  simp only [List.length_cons, List.length_nil] at h1
  have e : 1 + d.toNat + c.toNat = 1 + c.toNat + d.toNat := by omega
  rw [e] at h1
  exact UInt8.toNat_inj.1 (swap_arith _ _ _ _ _ _ hc hd h1)

end Go.Proofs.Ytmomhglcjphieaa
