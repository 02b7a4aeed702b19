/- OctetSees: for every string of at least two bytes, changing one byte changes the checksum, and so does exchanging two adjacent bytes that differ. Conditions: none beyond the row's own. -/
import Derived.Test.YtmomhglcjphieaaSanity
import Derived.Test.YtmomhglcjphieaaLaw
import Derived.Test.YtmomhglcjphieaaClass
import Derived.Test.YtmomhglcjphieaaAdler
import Derived.Test.YtmomhglcjphieaaBytes
namespace Go.Proofs.Ytmomhglcjphieaa
set_option linter.unusedVariables false
open Go.ChangeShapes Go.WideShapes Go.ChangeAt Go.RowKit

theorem sees_index (n : Nat) (at_ : Int) (hn : 2 ≤ n) : ∃ k : Nat, (at_.tmod ((n : Int) - 1) + (n : Int) - 1) % ((n : Int) - 1) = (k : Int) ∧ k + 1 < n := by
  have h0 : 0 ≤ (at_.tmod ((n : Int) - 1) + (n : Int) - 1) % ((n : Int) - 1) := Int.emod_nonneg _ (by omega)
  have h1 : (at_.tmod ((n : Int) - 1) + (n : Int) - 1) % ((n : Int) - 1) < (n : Int) - 1 := Int.emod_lt_of_pos _ (by omega)
  obtain ⟨k, hk⟩ := Int.eq_ofNat_of_zero_le h0
  exact ⟨k, hk, by omega⟩

theorem tmod_bd (a n : Int) (h : 0 < n) : -n < a.tmod n ∧ a.tmod n < n := by
  have h1 := Int.tmod_lt_of_pos a h
  have h2 := Int.tmod_lt_of_pos (-a) h
  rw [Int.neg_tmod] at h2
  omega
theorem xor_u8 (c : UInt8) (b : Int) (hb : 0 ≤ b ∧ b ≤ 255) : bits .xor .u8 (c.toNat : Int) b = (((c ^^^ UInt8.ofNat b.toNat).toNat : Nat) : Int) := by
  have hc := c.toNat_lt
  obtain ⟨n, rfl⟩ := Int.eq_ofNat_of_zero_le hb.1
  have h := u8_xor_nat c.toNat n hc (by omega)
  rw [h]
  congr 1
  show _ = (c ^^^ UInt8.ofNat n).toNat
  rw [UInt8.toNat_xor, UInt8.toNat_ofNat']
  congr 1
  omega
theorem xor_self_iff (c b : UInt8) (h : c ^^^ b = c) : b = 0 := by
  have e : c ^^^ (c ^^^ b) = c ^^^ c := by rw [h]
  rw [← UInt8.xor_assoc, UInt8.xor_self, UInt8.zero_xor] at e
  exact e
theorem set_split {α : Type} (l : List α) (k : Nat) (x : α) (h : k < l.length) : l.set k x = l.take k ++ ([x] ++ l.drop (k + 1)) := by
  rw [List.set_eq_take_append_cons_drop, if_pos h]; rfl
theorem own_split {α : Type} (l : List α) (k : Nat) (h : k < l.length) : l = l.take k ++ ([l[k]] ++ l.drop (k + 1)) := by
  have := set_split l k l[k] h
  rwa [List.set_getElem_self] at this
theorem own_split2 {α : Type} (l : List α) (k : Nat) (h : k + 1 < l.length) : l = l.take k ++ ([l[k], l[k + 1]] ++ l.drop (k + 2)) := by
  have e1 := own_split l k (by omega)
  have e2 : l.drop (k + 1) = l[k + 1] :: l.drop (k + 2) := by rw [List.drop_eq_getElem_cons h]
  rw [e2] at e1
  exact e1
theorem swap_split {α : Type} (l : List α) (k : Nat) (x y : α) (h : k + 1 < l.length) : (l.set k x).set (k + 1) y = l.take k ++ ([x, y] ++ l.drop (k + 2)) := by
  have e2 : l.drop (k + 1) = l[k + 1] :: l.drop (k + 2) := by rw [List.drop_eq_getElem_cons h]
  have e3 : (l.take k).length = k := by rw [List.length_take]; omega
  rw [set_split l k x (by omega), e2, List.set_append_right _ _ (by omega), e3]
  have e4 : k + 1 - k = 1 := by omega
  rw [e4]
  rfl
theorem sees_one (l : List UInt8) (k : Nat) (hk : k < l.length) (b : Int) (hb : 0 ≤ b ∧ b ≤ 255) :
    (((sumL l : Nat) : Int) == ((sumL (l.set k (l[k] ^^^ UInt8.ofNat b.toNat)) : Nat) : Int)) = (b == 0) := by
  rw [Bool.eq_iff_iff]
  simp only [beq_iff_eq]
  constructor
  · intro h
    have h' : sumL l = sumL (l.set k (l[k] ^^^ UInt8.ofNat b.toNat)) := by omega
    rw [set_split l k _ hk] at h'
    have h2 := byte_ne (l.take k) (l.drop (k + 1)) l[k] (l[k] ^^^ UInt8.ofNat b.toNat) (by rw [← own_split l k hk]; exact h')
    have h3 := xor_self_iff _ _ h2.symm
    have h4 := congrArg UInt8.toNat h3
    rw [UInt8.toNat_ofNat'] at h4
    have h5 : (0 : UInt8).toNat = 0 := rfl
    omega
  · intro h
    subst h
    have e : l[k] ^^^ UInt8.ofNat (0 : Int).toNat = l[k] := by
      show l[k] ^^^ 0 = l[k]
      exact UInt8.xor_zero
    rw [e, List.set_getElem_self]
theorem sees_two (l : List UInt8) (k : Nat) (hk : k + 1 < l.length) :
    (((sumL l : Nat) : Int) == ((sumL ((l.set k l[k + 1]).set (k + 1) l[k]) : Nat) : Int)) = (((l[k].toNat : Nat) : Int) == ((l[k + 1].toNat : Nat) : Int)) := by
  rw [Bool.eq_iff_iff]
  simp only [beq_iff_eq]
  rw [swap_split l k _ _ hk]
  constructor
  · intro h
    have h' : sumL l = sumL (l.take k ++ ([l[k + 1], l[k]] ++ l.drop (k + 2))) := by omega
    have h2 := swap_ne (l.take k) (l.drop (k + 2)) l[k] l[k + 1] (by rw [← own_split2 l k hk]; exact h')
    rw [h2]
  · intro h
    have h2 : l[k] = l[k + 1] := UInt8.toNat_inj.1 (by omega)
    have h3 := own_split2 l k hk
    rw [h2] at h3
    rw [h2, ← h3]

set_option maxHeartbeats 1000000 in
theorem sees_walk (s : ByteArray) (hs : s.size ≤ 140737488351232) (at_ : Int) (hat : -9223372036854775808 ≤ at_ ∧ at_ ≤ 9223372036854775807) (by_ : Int) (hby : 0 ≤ by_ ∧ by_ ≤ 255) (w : World) :
    Calls Try.prog 4 #[.string s, .int .i64 at_, .int .u8 by_] w fun e w' => e = .returned (.bool true) ∧ Below w.heap.size w w' := by
  have hm : s.size ≤ maxLen := by unfold maxLen; omega
  rcases Nat.lt_or_ge s.size 2 with hlt | hge
  · go_enter Try.func4, Try.ntmps4
    go_wp2_with fail
    refine (sanity_any _).mono ?_
    rintro e w1 ⟨rfl, b1⟩
    go_wp2_with fail
    go_ret
    exact ⟨rfl, b1⟩
  · obtain ⟨k, hk, hk1⟩ := sees_index s.size at_ hge
    have ht1 : -((s.size : Int) - 1) < at_.tmod ((s.size : Int) - 1) := (tmod_bd at_ _ (by omega)).1
    have ht2 : at_.tmod ((s.size : Int) - 1) < (s.size : Int) - 1 := (tmod_bd at_ _ (by omega)).2
    have hlen := toList_size s
    have hx : s.data.toList.getD k 0 = s[k] := by simp [List.getD, show k < s.size by omega]; rfl
    have hy : s.data.toList.getD (k + 1) 0 = s[k + 1] := by simp [List.getD, hk1]; rfl
    go_enter Try.func4, Try.ntmps4
    go_wp2_with fail
    refine (sanity_any _).mono ?_
    rintro e w1 ⟨rfl, b1⟩
    obtain ⟨cap, w2, K1, B1, b2, z2⟩ := str_bytes (P := Try.prog) w1 s Try.underlying9 Try.underlying28 Try.underlying5
    have c1 := B1.cell k (by omega)
    have f1 := B1.free k (by omega)
    rw [hx] at c1
    go_wp2_with fail
    clear c1 f1 K1
    rw [xor_u8 _ _ hby]
    have B3 := B1.set (k := k) (s[k] ^^^ UInt8.ofNat by_.toNat)
    have b3 : Below w1.heap.size w1 (World.setCell w2 ⟨w1.heap.size, k, none⟩ (.int .u8 ((s[k] ^^^ UInt8.ofNat by_.toNat).toNat : Nat))) := b2.setCell (Nat.le_refl _) _
    have z3 : (World.setCell w2 ⟨w1.heap.size, k, none⟩ (.int .u8 ((s[k] ^^^ UInt8.ofNat by_.toNat).toNat : Nat))).heap.size = w1.heap.size + 1 := by simp [World.setCell, z2]
    generalize World.setCell w2 ⟨w1.heap.size, k, none⟩ _ = w3 at *
    clear B1 b2 z2
    obtain ⟨cap4, w4, K4, B4, b4, z4⟩ := str_bytes (P := Try.prog) w3 s Try.underlying9 Try.underlying28 Try.underlying5
    rw [z3] at K4 B4 b4 z4
    have B3' := B3.below b4 (by omega)
    have c4 := B4.cell k (by omega)
    have f4 := B4.free k (by omega)
    have c5 := B4.cell (k + 1) (by omega)
    have f5 := B4.free (k + 1) (by omega)
    rw [hx] at c4
    rw [hy] at c5
    rw [K4]
    go_wp2_with fail
    clear c4 f4 c5 f5 K4
    have B5 := (B4.set (k := k) s[k + 1]).set (k := k + 1) s[k]
    have B5' := (B3'.other (k := w1.heap.size + 1) (o := k) (v := .int .u8 (s[k + 1].toNat : Nat)) (by omega)).other (k := w1.heap.size + 1) (o := k + 1) (v := .int .u8 (s[k].toNat : Nat)) (by omega)
    have b5 := ((b3.trans (b4.mono (by omega))).setCell (p := ⟨w1.heap.size + 1, k, none⟩) (by simp) (.int .u8 (s[k + 1].toNat : Nat))).setCell (p := ⟨w1.heap.size + 1, k + 1, none⟩) (by simp) (.int .u8 (s[k].toNat : Nat))
    generalize World.setCell (World.setCell w4 ⟨w1.heap.size + 1, k, none⟩ _) ⟨w1.heap.size + 1, k + 1, none⟩ _ = w5 at *
    have hone := sees_one s.data.toList k (by omega) by_ hby
    have htwo := sees_two s.data.toList k (by omega)
    have el1 : s.data.toList[k] = s[k] := rfl
    have el2 : s.data.toList[k + 1] = s[k + 1] := rfl
    rw [el1] at hone
    rw [el1, el2] at htwo
    have la : (s.data.toList.set k (s[k] ^^^ UInt8.ofNat by_.toNat)).length = s.size := by rw [List.length_set]; exact hlen
    have lb : ((s.data.toList.set k s[k + 1]).set (k + 1) s[k]).length = s.size := by rw [List.length_set, List.length_set]; exact hlen
    generalize s.data.toList.set k (s[k] ^^^ UInt8.ofNat by_.toNat) = A at *
    generalize (s.data.toList.set k s[k + 1]).set (k + 1) s[k] = B at *
    have hb0 := b1.size
    have hb5 := b5.size
    have l1 := B5'.lt
    have l2 := B5.lt
    have hend : ∀ w9, Below w5.heap.size w5 w9 → Below w.heap.size w w9 := fun w9 b9 => (b1.trans (b5.mono hb0)).trans (b9.mono (by omega))
    have HE := Lib.hid hend
    refine wp_region_class (Below w5.heap.size w5) (by kernel_rfl) (by kernel_rfl) (Below.drew (Below.refl _ _)) (fun ne => ?_)
    have k1 : ∀ x : Wld (Below w5.heap.size w5), (convert 28 9 (.slice (some ⟨w1.heap.size, 0, none⟩) s.size cap)).run Try.prog x.val = .ok (.string ⟨A.toArray⟩) x.val := fun x => by
      have := (B5'.below x.good l1).back (P := Try.prog) Try.underlying28 Try.underlying5 Try.underlying9 cap
      rwa [la] at this
    have k2 : ∀ x : Wld (Below w5.heap.size w5), (convert 28 9 (.slice (some ⟨w1.heap.size + 1, 0, none⟩) s.size cap4)).run Try.prog x.val = .ok (.string ⟨B.toArray⟩) x.val := fun x => by
      have := (B5.below x.good l2).back (P := Try.prog) Try.underlying28 Try.underlying5 Try.underlying9 cap4
      rwa [lb] at this
    have gs : ∀ (r : ByteArray) (n : Nat), r.size ≤ maxLen → sumOf r = n → ∀ x : Wld (Below w5.heap.size w5), Calls Try.prog 18 #[.string r] x.val fun e w'' => e = .returned (.int .u32 (n : Nat)) ∧ ∃ y : Wld (Below w5.heap.size w5), w'' = y.val := fun r n hr hn x =>
      (sum_any r x.val hr).mono fun e w'' ⟨he, hb⟩ => ⟨by rw [he, hn], class_below x hb (Nat.le_refl _)⟩
    have ma : (⟨A.toArray⟩ : ByteArray).size ≤ maxLen := by show A.toArray.size ≤ maxLen; simp; omega
    have mb : (⟨B.toArray⟩ : ByteArray).size ≤ maxLen := by show B.toArray.size ≤ maxLen; simp; omega
    have G1 := Lib.hid (gs s (sumL s.data.toList) hm rfl)
    have G2 := Lib.hid (gs ⟨A.toArray⟩ (sumL A) ma rfl)
    have G3 := Lib.hid (gs ⟨B.toArray⟩ (sumL B) mb rfl)
    clear gs ma mb la lb l1 l2 hend hb0 hb5 B5 B5' b5 B3' b4 b3 B3 B4 z3 z4 ht1 ht2 hk
    have i1 : k < s.size := by omega
    generalize sumL s.data.toList = n1 at *
    generalize sumL A = n2 at *
    generalize sumL B = n3 at *
    repeat (go_big_quiet_step (first | (with_reducible exact G1.out _) | (with_reducible exact G2.out _) | (with_reducible exact G3.out _)))
    refine wpQuiet_nil ?_
    intro w9 b9
    go_wp2_with fail
    go_ret
    exact ⟨rfl, HE.out _ b9⟩

set_option maxRecDepth 100000 in
theorem octetSees_lifted (os : Os) (started : os.Started) (H : Type) (enc : TypeId × Value → H) :
    ReturnsInHanded {} Try.checked os 4 .any (Rows.octetSeesSpec.pre6 enc Try.prog Try.f4 Rows.octetSeesRow.domain false) (Rows.octetSeesSpec.post enc Try.prog Try.f4 false true false false) := by
  refine returnsInHanded_of_change_sized (C := Try.checked) Try.own started (by kernel_rfl) Try.func4
    (ChangeSpec.witness6 (enc := enc) (C := Try.checked) false ⟨#[], #[.string .empty, .int .i64 0, .int .u8 0], []⟩ 8 (by kernel_rfl) (by kernel_rfl) (by kernel_rfl) (by kernel_rfl)) ?_
  intro W base args ds gs before hval0 hW _ hsz0 _
  have hval : ∀ (j : Nat) t v, Try.f4.params[j]? = some t → args[j]? = some v → Value.okWide Try.prog W .any base t v := hval0
  have hsz : (DataW.weightsEach Try.prog (Try.f4.params.toList ++ Rows.octetSeesSpec.plain.varTypes Try.prog) (ds ++ gs)).all (· ≤ reachBytes) = true := hsz0
  clear hsz0 hval0
  have hW' := hW
  obtain ⟨p, q, hA0, hV, rfl, hfz, hnd⟩ := hW
  have hA : DataW.TrodAll enc Try.prog W 0 (fun _ => true) true Try.f4.params.toList args.toList ds p := hA0
  rw [Try.params4] at hA hval hsz
  obtain ⟨v0, vs0, d0, ds0, p0, q0, hargs, rfl, rfl, h0, r0⟩ := trodAll_cons hA
  obtain ⟨v1, vs1, d1, ds1, p1, q1, rfl, rfl, rfl, h1, r1⟩ := trodAll_cons r0
  obtain ⟨v2, vs2, d2, ds2, p2, q2, rfl, rfl, rfl, h2, r2⟩ := trodAll_cons r1
  obtain ⟨rfl, rfl, rfl⟩ := trodAll_nil r2
  obtain rfl : args = #[v0, v1, v2] := by cases args; simp_all
  obtain ⟨rfl, rfl⟩ := trodVars_none hV
  obtain ⟨s, rfl, rfl, rfl, hs⟩ := Go.ChangeMaps.open_string Try.underlying9 (hval 0 9 v0 rfl rfl) h0
  have zs : s.size ≤ 140737488351232 := sized_size hsz (j := 0) rfl rfl
  obtain ⟨at_, rfl, rfl, rfl, wat_⟩ := open_int Try.underlying3 (hval 1 3 v1 rfl rfl) h1
  have bdat_ : -9223372036854775808 ≤ at_ ∧ at_ ≤ 9223372036854775807 := by simpa [Lit.wf, IntKind.min, IntKind.max, IntKind.signed, IntKind.bits] using wat_
  obtain ⟨by_, rfl, rfl, rfl, wby_⟩ := open_int Try.underlying5 (hval 2 5 v2 rfl rfl) h2
  have bdby_ : 0 ≤ by_ ∧ by_ ≤ 255 := by simpa [Lit.wf, IntKind.min, IntKind.max, IntKind.signed, IntKind.bits] using wby_
  clear hA0
  refine (sees_walk s zs at_ bdat_ by_ bdby_ W).mono fun e W' ⟨he, hb⟩ => ?_
  subst he
  exact ⟨_, rfl, law_post Try.laidOut (by kernel_rfl) rfl Try.underlying4 rfl rfl hW' hb⟩

theorem octetSees_holds : Rows.OctetSeesSaid :=
  OpenClaim.holds_of_wide 4 Try.f4 rfl rfl rfl rfl rfl rfl rfl ⟨rfl, rfl, rfl, rfl, rfl⟩ rfl rfl rfl rfl rfl (by kernel_rfl) Try.func4 (by kernel_rfl)
    (of_decide_eq_true (by kernel_rfl)) (by unfold Func.isWrapper; first | (rw [if_pos (by decide +kernel)]; kernel_rfl) | (rw [if_neg (by decide +kernel)]; exact ⟨rfl, rfl⟩))
    (fun os started H enc _ => octetSees_lifted os started H enc)

end Go.Proofs.Ytmomhglcjphieaa
