/- plan.names: the column names of a statement. -/
import Derived.Test.YtajlngkakpjncaaDoorIndex
import Derived.Lib.AppendZeros
import Derived.Laws.AppendOwnNone
import Derived.Maps.AppendAt
import Derived.Test.YtajlngkakpjncaaDoorAppend
import Derived.LoopN
namespace Go.Proofs.YtajlngkakpjncaaDoor
set_option linter.unusedVariables false
set_option linter.unusedSimpArgs false
open Go.RowKit

theorem info_str : (Tryd.prog.info? 9).map (fun i => (i.zero, i.size, i.bytes)) = some (some (.string ⟨#[]⟩), 1, 16) := by kernel_rfl
def strEnc (s : ByteArray) : List Value := [.string s]

set_option maxRecDepth 100000 in
theorem grow_any (n : Nat) (hn : n ≤ 17592186044416) (w : World) : Calls Tryd.prog 65 #[.slice none 0 0, .int .i64 n] w
    fun e w' => (∃ v, e = .returned v ∧ w'.ownsRow w.heap.size 9 1 v 0 []) ∧ Below w.heap.size w w' := by
  obtain ⟨i0, hi, hz0, hz1, hz2⟩ := info_parts info_str
  by_cases h0 : n = 0
  · subst h0
    go_enter Tryd.func65, Tryd.ntmps65
    go_wp2_with fail
    go_ret
    exact ⟨⟨_, rfl, World.ownsRow_nil _ _ _ _⟩, Below.refl _ _⟩
  · have hr := Lib.run_append_nil_zeros (P := Tryd.prog) w 45 3 45 9 i0 _ .i64 .i64 Tryd.underlying45 Tryd.underlying3 hi hz0 n (by omega) (by omega) (by omega) (by rw [hz2]; omega)
    have HR := Lib.hid hr
    clear hr
    have hpos : (0 : Int) < (n : Int) := by omega
    go_enter Tryd.func65, Tryd.ntmps65
    go_wp2_with (at_builtin; refine Lib.wpList_append_run _ rfl _ _ _ _ rfl _ _ rfl rfl _ _ HR.out ?_)
    go_ret
    refine ⟨⟨_, rfl, World.ownsRow_made w _ _ (Nat.le_refl _) (grownCap_le_maxLen w n 0 9 (by unfold maxLen; omega)) ?_⟩, ((Below.refl _ _).alloc (Nat.le_refl _) _).drew⟩
    have := grownCap_ge w n 0 9
    simp [size_zeroCells]
    omega

theorem grow_int (m : Int) (h0 : 0 ≤ m) (h1 : m ≤ 17592186044416) (w : World) : Calls Tryd.prog 65 #[.slice none 0 0, .int .i64 m] w
    fun e w' => (∃ v, e = .returned v ∧ w'.ownsRow w.heap.size 9 1 v 0 []) ∧ Below w.heap.size w w' := by
  obtain ⟨n, rfl⟩ : ∃ n : Nat, m = n := ⟨m.toNat, by omega⟩
  exact grow_any n (by omega) w
theorem str_cells (x : ByteArray) : ∀ u ∈ strEnc x, u.oneCell' = true := by
  intro u hu
  simp [strEnc] at hu
  subst hu
  rfl
def strF : Rep ByteArray := flatR 1 strEnc fun _ => rfl
theorem strF_eq : strR = strF := rfl

set_option maxRecDepth 100000 in
set_option maxHeartbeats 1000000 in
theorem concat_any {p q : Nat → Prop} (bs : Nat) (w : World) (A B : List ByteArray) (a b : Option Addr) (ca cb : Nat) (h0 : w.cell? ⟨bs, 0, none⟩ = some (.slice a A.length ca)) (h1 : w.cell? ⟨bs, 1, none⟩ = some (.slice b B.length cb))
    (ha : RowAt strF p w a A) (hb : RowAt strF q w b B) (na : a = none → ca = 0) (nb : b = none → cb = 0) (lA : A.length ≤ 4398046511104) (lB : B.length ≤ 4398046511104) :
    Calls Tryd.prog 50 #[.slice (some ⟨bs, 0, none⟩) 2 2] w fun e w' => (∃ v, e = .returned v ∧ w'.ownsRow w.heap.size 9 1 v (A ++ B).length ((A ++ B).flatMap strEnc)) ∧ Below w.heap.size w w' := by
  obtain ⟨i0, hi, hz0, hz1, hz2⟩ := info_parts info_str
  have HA := Lib.hid ha
  have HB := Lib.hid hb
  have hbs := World.block_lt_of_cell? w _ h0
  simp only at hbs
  have H0 := Lib.hid h0
  have H1 := Lib.hid h1
  clear ha hb
  go_enter Tryd.func50, Tryd.ntmps50
  go_wp2_with fail
  refine wp_loop_rounds 3 ?_
  repeat any_goals (rw [rounds_succ]; go_wp2_with fail)
  refine (grow_int _ (by omega) (by omega) _).mono ?_
  rintro e w2 ⟨⟨v0, rfl, o0⟩, b2⟩
  have C2 := Lib.hid b2
  have O0 := Lib.hid o0
  have c0 := (b2.cell (p := ⟨bs, 0, none⟩) hbs).trans H0.out
  have RA := Lib.hid (HA.out.below b2)
  clear o0 b2 h0 h1
  go_wp2_with fail
  refine wp_loop_rounds 3 ?_
  rw [rounds_succ]
  go_wp2_with (at_builtin; refine wpList_append_flat rfl _ _ 45 rfl w.heap.size 9 i0 _ 1 16 Tryd.underlying45 hi hz0 hz1 hz2 rfl (by decide) _ 0 [] rfl O0.out A a ca rfl RA.out na str_cells (by unfold maxLen; omega) (by omega) C2.out.size ?_; intro v1 w3 o1 g1)
  have C3 := Lib.hid (C2.out.grown g1 C2.out.size (fun k hk => (O0.out.lt k hk).1))
  have O1 := Lib.hid o1
  have c1 := (C3.out.cell (p := ⟨bs, 1, none⟩) hbs).trans H1.out
  have RB := Lib.hid (HB.out.below C3.out)
  clear o1 g1 c0
  go_wp2_with fail
  rw [rounds_succ]
  go_wp2_with (at_builtin; refine wpList_append_flat rfl _ _ 45 rfl w.heap.size 9 i0 _ 1 16 Tryd.underlying45 hi hz0 hz1 hz2 rfl (by decide) _ (0 + A.length) _ rfl O1.out B b cb rfl RB.out nb str_cells (by unfold maxLen; omega) (by omega) C3.out.size ?_; intro v2 w4 o2 g2)
  have C4 := Lib.hid (C3.out.grown g2 C3.out.size (fun k hk => (O1.out.lt k hk).1))
  have O2 := Lib.hid o2
  clear o2 g2 c1
  go_wp2_with fail
  rw [rounds_succ]
  go_wp2_with fail
  go_ret
  exact ⟨⟨_, rfl, by simpa using O2.out⟩, C4.out⟩
end Go.Proofs.YtajlngkakpjncaaDoor
