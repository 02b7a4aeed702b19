/- What a statement and a plan among a law's arguments hold in memory. -/
import Derived.Test.YtpfjakcfjpgbmaaGreatDoorEnNilW
import Derived.Test.YtpfjakcfjpgbmaaGreatDoorRsLaw
import Derived.Deep.Slices
import Derived.ChangeArms
namespace Go.Proofs.YtpfjakcfjpgbmaaGreatDoor
set_option linter.unusedVariables false
set_option linter.unusedSimpArgs false
open Go.ChangeShapes Go.WideShapes Go.ChangeAt Go.RowKit

instance : Inhabited SetV := ⟨⟨⟨#[]⟩, ⟨#[]⟩, ⟨0, 0, ⟨#[]⟩⟩⟩⟩
instance : Inhabited Cond := ⟨⟨⟨#[]⟩, 0, ⟨0, 0, ⟨#[]⟩⟩⟩⟩
instance : Inhabited Val := ⟨⟨0, 0, ⟨#[]⟩⟩⟩
/-- one function for the elements -/
theorem list_of {α : Type} [Inhabited α] {n : Nat} {p : Nat → α → Prop} (h : ∀ i, i < n → ∃ x, p i x) : ∃ l : List α, l.length = n ∧ ∀ i, i < n → p i (l.getD i default) := by
  obtain ⟨f, hf⟩ := Go.Deep.choose_lt h
  refine ⟨(List.range n).map f, by simp, fun i hi => ?_⟩
  have : ((List.range n).map f).getD i default = f i := by simp [List.getD, hi]
  rw [this]
  exact hf i hi

/-- a slice's cells are shared by no string -/
theorem free_of_trod {H : Type} {enc : TypeId × Value → H} {P : Program} {w : World} {fuel : Nat} {t e : TypeId} {b off n cap sz : Nat} {y : DataW H × List MemPlace} (hs : P.underlying t = some (.slice e)) (hc : P.cellsOf e = sz)
    (hf : DataW.trod enc P w 0 (fun _ => true) true fuel t [.slice (some ⟨b, off, none⟩) n cap] = some y) (hz : w.noneFrozen y.2) : ∀ j, j < n * sz → w.frozen? ⟨b, off + j, none⟩ = false := by
  intro j hj
  rcases DataW.trod_slice hs hf with ⟨h, _⟩ | ⟨a, len, cap', elems, rest, m, _, h, rfl, _, _, _, hl, _⟩
  · simp at h
  · simp only [List.cons.injEq, Value.slice.injEq, Option.some.injEq, and_true] at h
    obtain ⟨rfl, rfl, rfl⟩ := h
    refine hz b (off + j) (List.mem_append_left _ (List.mem_map.2 ⟨j, List.mem_range.2 ?_, rfl⟩))
    rw [hc, hl]
    exact Nat.lt_of_lt_of_le hj (Nat.mul_le_mul_right _ (Nat.le_add_right _ _))
set_option maxRecDepth 100000 in
/-- a slice of flat elements -/
theorem sl_open {H : Type} {enc : TypeId × Value → H} {w : World} {fuel : Nat} {α : Type} [Inhabited α] {t e : TypeId} {sz : Nat} {encA : α → List Value} {hl : ∀ x, (encA x).length = sz} (hs : Tryz.prog.underlying t = some (.slice e)) (hc : Tryz.prog.cellsOf e = sz) (hpos : 0 < sz)
    (one : ∀ (cs : List Value) (m : Nat) (y : DataW H × List MemPlace), cs.length = sz → DataW.trod enc Tryz.prog w 0 (fun _ => true) true m e cs = some y → ∃ x, cs = encA x)
    {c : Value} {y : DataW H × List MemPlace} (hf : DataW.trod enc Tryz.prog w 0 (fun _ => true) true fuel t [c] = some y) (hfz : w.noneFrozen y.2) : InSl (flatR sz encA hl) (fun _ => True) w c := by
  rcases Go.Deep.open_slice hs hf with ⟨hcs, hx⟩ | ⟨a, len, cap, m, n, D, Pl, hcs, _, hlen, hm, hmm, hx, hel⟩
  · obtain rfl : c = .slice none 0 0 := by simpa using hcs
    exact ⟨.inl rfl, none, 0, [], rfl, Nat.le_refl _, Or.inl rfl⟩
  · obtain rfl : c = .slice (some a) len cap := by simpa using hcs
    have hmc : m = cap := by simpa using hmm
    obtain ⟨b, off, spot⟩ := a
    have each : ∀ i, i < len → ∃ x : α, ∀ j, j < sz → w.cell? (((⟨b, off, spot⟩ : Addr).add (i * sz)).add j) = (encA x)[j]? := by
      intro i hi
      obtain ⟨cs, h1, h2⟩ := hel i (by omega)
      rw [hc] at h1
      obtain ⟨_, h3, h4⟩ := World.cells?_some h1
      obtain ⟨x, rfl⟩ := one cs _ _ h3 h2
      exact ⟨x, fun j hj => h4 j hj⟩
    rcases Nat.eq_zero_or_pos len with h0 | h0
    · subst h0
      exact ⟨.inr (.inl ⟨_, _, rfl⟩), some ⟨b, off, spot⟩, cap, [], rfl, Nat.zero_le _, Or.inl rfl⟩
    have hspot : spot = none := by
      obtain ⟨x, h1⟩ := each 0 h0
      have h2 := h1 0 hpos
      cases hv : (encA x)[0]? with
      | none => rw [List.getElem?_eq_none_iff, hl] at hv; omega
      | some v =>
        rw [hv] at h2
        simpa [Addr.add] using World.cell?_spot h2
    subst hspot
    obtain ⟨Z, hZ, hZ2⟩ := list_of each
    subst hZ
    have gd : ∀ t (ht : t < Z.length), Z.getD t default = Z[t] := fun t ht => by rw [List.getD_eq_getElem?_getD, List.getElem?_eq_getElem ht]; rfl
    have ad : ∀ i j, ((⟨b, off, none⟩ : Addr).add (i * sz)).add j = ⟨b, off + i * sz + j, none⟩ := by
      intro i j
      have e1 : (⟨b, off, none⟩ : Addr).add (i * sz) = ⟨b, off + i * sz, none⟩ := by unfold Addr.add; split <;> simp_all
      have e2 : (⟨b, off + i * sz, none⟩ : Addr).add j = ⟨b, off + i * sz + j, none⟩ := by unfold Addr.add; split <;> simp_all
      rw [e1, e2]
    refine ⟨.inr (.inr ⟨_, _, _, _, rfl⟩), _, cap, Z, rfl, hlen, ?_⟩
    have hc0 := (hZ2 0 h0) 0 hpos
    rw [ad] at hc0
    have hlt : b < w.heap.size := by
      cases hv : (encA (Z.getD 0 default))[0]? with
      | none => rw [List.getElem?_eq_none_iff, hl] at hv; omega
      | some v => rw [hv] at hc0; exact World.block_lt_of_cell? w _ hc0
    refine Or.inr ⟨b, off, rfl, trivial, ⟨hlt, free_of_trod (sz := sz) hs hc hf hfz⟩, fun t ht => ⟨_, fun j hj => ?_, rfl⟩⟩
    rw [← gd t ht, ← (hZ2 t ht) j hj, ad]
    rfl
theorem oI : Tryz.prog.cellsOf 3 = 1 := by kernel_rfl
theorem oL : Tryz.prog.cellsOf 2 = 1 := by kernel_rfl
theorem oS : Tryz.prog.cellsOf 9 = 1 := by kernel_rfl
theorem oB : Tryz.prog.cellsOf 4 = 1 := by kernel_rfl
theorem oV : Tryz.prog.cellsOf 101 = 3 := by kernel_rfl
theorem oY : Tryz.prog.cellsOf 47 = 4 := by kernel_rfl
theorem oST : Tryz.prog.cellsOf 34 = 15 := by kernel_rfl
theorem oP : Tryz.prog.cellsOf 49 = 10 := by kernel_rfl
theorem oC : Tryz.prog.cellsOf 97 = 2 := by kernel_rfl
theorem oX : Tryz.prog.cellsOf 152 = 5 := by kernel_rfl
theorem oW : Tryz.prog.cellsOf 103 = 5 := by kernel_rfl
theorem oSL : Tryz.prog.cellsOf 28 = 1 := by kernel_rfl
theorem oCL : Tryz.prog.cellsOf 27 = 1 := by kernel_rfl
theorem oRL : Tryz.prog.cellsOf 30 = 1 := by kernel_rfl
theorem oXL : Tryz.prog.cellsOf 31 = 1 := by kernel_rfl
theorem oWL : Tryz.prog.cellsOf 32 = 1 := by kernel_rfl
theorem str_one {H : Type} {enc : TypeId × Value → H} {w : World} (cs : List Value) (m : Nat) (y : DataW H × List MemPlace) (_ : cs.length = 1) (hf : DataW.trod enc Tryz.prog w 0 (fun _ => true) true m 9 cs = some y) : ∃ x : ByteArray, cs = strEnc x := by
  obtain ⟨s, rfl, rfl, -⟩ := DataW.trod_string Tryz.underlying9 hf
  exact ⟨s, rfl⟩
set_option maxRecDepth 100000 in
theorem val_one {H : Type} {enc : TypeId × Value → H} {w : World} (cs : List Value) (m : Nat) (y : DataW H × List MemPlace) (hlen : cs.length = 3) (hf : DataW.trod enc Tryz.prog w 0 (fun _ => true) true m 101 cs = some y) : ∃ x : Val, cs = valEnc x := by
  match cs, hlen with
  | [e0, e1, e2], _ =>
    obtain ⟨xs, n, _, rfl, _, hxl, hfs⟩ := DataW.trod_struct Tryz.underlying101 hf
    match xs, hxl with
    | [x0, x1, x2], _ =>
      have h0 := hfs 0 _ rfl
      have h1 := hfs 1 _ rfl
      have h2 := hfs 2 _ rfl
      simp [oI, oL, oS] at h0 h1 h2
      obtain ⟨y0, q0, _, _⟩ := DataW.trod_int Tryz.underlying3 h0
      obtain ⟨y1, q1, _, w1⟩ := DataW.trod_int Tryz.underlying2 h1
      obtain ⟨y2, q2, hy2, _⟩ := DataW.trod_string Tryz.underlying9 h2
      simp at q0 q1 q2
      subst q0 q1 q2
      exact ⟨⟨y0, y1, y2⟩, rfl⟩
set_option maxRecDepth 100000 in
theorem col_one' {H : Type} {enc : TypeId × Value → H} {w : World} (cs : List Value) (m : Nat) (y : DataW H × List MemPlace) (hlen : cs.length = 2) (hf : DataW.trod enc Tryz.prog w 0 (fun _ => true) true m 97 cs = some y) : ∃ x : ByteArray × Int, cs = colEnc x := by
  match cs, hlen with
  | [e0, e1], _ =>
    obtain ⟨xs, n, _, rfl, _, hxl, hfs⟩ := DataW.trod_struct Tryz.underlying97 hf
    match xs, hxl with
    | [x0, x1], _ =>
      have h0 := hfs 0 _ rfl
      have h1 := hfs 1 _ rfl
      simp [oI, oS] at h0 h1
      obtain ⟨y0, q0, hy0, _⟩ := DataW.trod_string Tryz.underlying9 h0
      obtain ⟨y1, q1, _, w1⟩ := DataW.trod_int Tryz.underlying3 h1
      simp at q0 q1
      subst q0 q1
      exact ⟨(y0, y1), rfl⟩
set_option maxRecDepth 100000 in
theorem cond_one' {H : Type} {enc : TypeId × Value → H} {w : World} (cs : List Value) (m : Nat) (y : DataW H × List MemPlace) (hlen : cs.length = 5) (hf : DataW.trod enc Tryz.prog w 0 (fun _ => true) true m 103 cs = some y) : ∃ x : Cond, cs = condEnc x := by
  match cs, hlen with
  | [e0, e1, e2, e3, e4], _ =>
    obtain ⟨xs, n, _, rfl, _, hxl, hfs⟩ := DataW.trod_struct Tryz.underlying103 hf
    match xs, hxl with
    | [x0, x1, x2], _ =>
      have h0 := hfs 0 _ rfl
      have h1 := hfs 1 _ rfl
      have h2 := hfs 2 _ rfl
      simp [oI, oS, oV] at h0 h1 h2
      obtain ⟨y0, q0, hy0, _⟩ := DataW.trod_string Tryz.underlying9 h0
      obtain ⟨y1, q1, _, w1⟩ := DataW.trod_int Tryz.underlying3 h1
      obtain ⟨y2, q2⟩ := val_one _ _ _ rfl h2
      simp [valEnc] at q0 q1 q2
      obtain ⟨q2, q3, q4⟩ := q2
      subst q0 q1 q2 q3 q4
      exact ⟨⟨y0, y1, y2⟩, rfl⟩
set_option maxRecDepth 100000 in
theorem set_one' {H : Type} {enc : TypeId × Value → H} {w : World} (cs : List Value) (m : Nat) (y : DataW H × List MemPlace) (hlen : cs.length = 5) (hf : DataW.trod enc Tryz.prog w 0 (fun _ => true) true m 152 cs = some y) : ∃ x : SetV, cs = setEnc x := by
  match cs, hlen with
  | [e0, e1, e2, e3, e4], _ =>
    obtain ⟨xs, n, _, rfl, _, hxl, hfs⟩ := DataW.trod_struct Tryz.underlying152 hf
    match xs, hxl with
    | [x0, x1, x2], _ =>
      have h0 := hfs 0 _ rfl
      have h1 := hfs 1 _ rfl
      have h2 := hfs 2 _ rfl
      simp [oS, oV] at h0 h1 h2
      obtain ⟨y0, q0, hy0, _⟩ := DataW.trod_string Tryz.underlying9 h0
      obtain ⟨y1, q1, hy1, _⟩ := DataW.trod_string Tryz.underlying9 h1
      obtain ⟨y2, q2⟩ := val_one _ _ _ rfl h2
      simp [valEnc] at q0 q1 q2
      obtain ⟨q2, q3, q4⟩ := q2
      subst q0 q1 q2 q3 q4
      exact ⟨⟨y0, y1, y2⟩, rfl⟩
set_option maxRecDepth 100000 in
set_option maxHeartbeats 4000000 in
theorem open_stmt {H : Type} {enc : TypeId × Value → H} {w : World} {b0 : Nat} {v : Value} {d : DataW H} {p : List MemPlace} (hv : Value.okWide Tryz.prog w .any b0 34 v) (h : DataW.Trod enc Tryz.prog w 0 (fun _ => true) true 34 v d p) (hfz : w.noneFrozen p) :
    ∃ (k g m n : Int) (t nm j l r : ByteArray) (vc vn vr vx vw vo : Value), v = .agg #[.int .i64 k, .string t, .string nm, vc, vn, vr, vx, vw, .string j, .string l, .string r, .int .i64 g, vo, .int .i64 m, .int .i64 n] ∧
      Rx.Sh vc ∧ InSl strF (fun _ => True) w vn ∧ InSl valR (fun _ => True) w vr ∧ InSl setR (fun _ => True) w vx ∧ InSl condR (fun _ => True) w vw ∧ InSl strF (fun _ => True) w vo := by
  unfold Value.okWide at hv
  rw [Tryz.underlying34] at hv
  obtain ⟨cs, rfl, hsz, _⟩ := hv
  rw [oST] at hsz
  obtain ⟨l⟩ := cs
  match l, hsz with
  | [e0, e1, e2, e3, e4, e5, e6, e7, e8, e9, e10, e11, e12, e13, e14], _ =>
    obtain ⟨fuel, hf⟩ := h
    obtain ⟨xs, n, _, hx, _, hxl, hfs⟩ := DataW.trod_struct Tryz.underlying34 hf
    match xs, hxl with
    | [x0, x1, x2, x3, x4, x5, x6, x7, x8, x9, x10, x11, x12, x13, x14], _ =>
      simp only [Prod.mk.injEq] at hx
      obtain ⟨rfl, rfl⟩ := hx
      have free : ∀ y ∈ [x0, x1, x2, x3, x4, x5, x6, x7, x8, x9, x10, x11, x12, x13, x14], w.noneFrozen y.2 := fun y hy b o hm => hfz b o (List.mem_flatMap.2 ⟨y, hy, hm⟩)
      have h0 := hfs 0 _ rfl
      have h1 := hfs 1 _ rfl
      have h2 := hfs 2 _ rfl
      have h3 := hfs 3 _ rfl
      have h4 := hfs 4 _ rfl
      have h5 := hfs 5 _ rfl
      have h6 := hfs 6 _ rfl
      have h7 := hfs 7 _ rfl
      have h8 := hfs 8 _ rfl
      have h9 := hfs 9 _ rfl
      have h10 := hfs 10 _ rfl
      have h11 := hfs 11 _ rfl
      have h12 := hfs 12 _ rfl
      have h13 := hfs 13 _ rfl
      have h14 := hfs 14 _ rfl
      simp [Value.cells, oI, oS, oSL, oCL, oRL, oXL, oWL] at h0 h1 h2 h3 h4 h5 h6 h7 h8 h9 h10 h11 h12 h13 h14
      obtain ⟨y0, q0, _, w0⟩ := DataW.trod_int Tryz.underlying3 h0
      obtain ⟨y11, q11, _, w11⟩ := DataW.trod_int Tryz.underlying3 h11
      obtain ⟨y13, q13, _, w13⟩ := DataW.trod_int Tryz.underlying3 h13
      obtain ⟨y14, q14, _, w14⟩ := DataW.trod_int Tryz.underlying3 h14
      obtain ⟨y1, q1⟩ := str_one _ _ _ rfl h1
      obtain ⟨y2, q2⟩ := str_one _ _ _ rfl h2
      obtain ⟨y8, q8⟩ := str_one _ _ _ rfl h8
      obtain ⟨y9, q9⟩ := str_one _ _ _ rfl h9
      obtain ⟨y10, q10⟩ := str_one _ _ _ rfl h10
      have s3 := sl_open (encA := colEnc) (hl := fun _ => rfl) Tryz.underlying27 oC (by decide) col_one' h3 (free _ (by simp))
      have s4 := sl_open (encA := strEnc) (hl := fun _ => rfl) Tryz.underlying28 oS (by decide) str_one h4 (free _ (by simp))
      have s5 := sl_open (encA := valEnc) (hl := fun _ => rfl) Tryz.underlying30 oV (by decide) val_one h5 (free _ (by simp))
      have s6 := sl_open (encA := setEnc) (hl := fun _ => rfl) Tryz.underlying31 oX (by decide) set_one' h6 (free _ (by simp))
      have s7 := sl_open (encA := condEnc) (hl := fun _ => rfl) Tryz.underlying32 oW (by decide) cond_one' h7 (free _ (by simp))
      have s12 := sl_open (encA := strEnc) (hl := fun _ => rfl) Tryz.underlying28 oS (by decide) str_one h12 (free _ (by simp))
      simp [strEnc] at q0 q1 q2 q8 q9 q10 q11 q13 q14
      subst q0 q1 q2 q8 q9 q10 q11 q13 q14
      exact ⟨y0, y11, y13, y14, y1, y2, y8, y9, y10, e3, e4, e5, e6, e7, e12, rfl, s3.sh, s4, s5, s6, s7, s12⟩
set_option maxRecDepth 100000 in
theorem way_one {H : Type} {enc : TypeId × Value → H} {w : World} (cs : List Value) (m : Nat) (y : DataW H × List MemPlace) (hlen : cs.length = 4) (hf : DataW.trod enc Tryz.prog w 0 (fun _ => true) true m 47 cs = some y) : ∃ (a d : Int) (b c : ByteArray), cs = [.int .i64 a, .string b, .string c, .int .i64 d] := by
  match cs, hlen with
  | [e0, e1, e2, e3], _ =>
    obtain ⟨xs, n, _, rfl, _, hxl, hfs⟩ := DataW.trod_struct Tryz.underlying47 hf
    match xs, hxl with
    | [x0, x1, x2, x3], _ =>
      have h0 := hfs 0 _ rfl
      have h1 := hfs 1 _ rfl
      have h2 := hfs 2 _ rfl
      have h3 := hfs 3 _ rfl
      simp [oI, oS] at h0 h1 h2 h3
      obtain ⟨y0, q0, _, _⟩ := DataW.trod_int Tryz.underlying3 h0
      obtain ⟨y1, q1, _, _⟩ := DataW.trod_string Tryz.underlying9 h1
      obtain ⟨y2, q2, _, _⟩ := DataW.trod_string Tryz.underlying9 h2
      obtain ⟨y3, q3, _, _⟩ := DataW.trod_int Tryz.underlying3 h3
      simp at q0 q1 q2 q3
      subst q0 q1 q2 q3
      exact ⟨y0, y3, y1, y2, rfl⟩
set_option maxRecDepth 100000 in
theorem open_plan {H : Type} {enc : TypeId × Value → H} {w : World} {b0 : Nat} {v : Value} {d : DataW H} {p : List MemPlace} (hv : Value.okWide Tryz.prog w .any b0 49 v) (h : DataW.Trod enc Tryz.prog w 0 (fun _ => true) true 49 v d p) :
    ∃ (p0 p3 p4 p7 p9 : Int) (p1 p2 p5 p6 : ByteArray) (p8 : Bool), v = .agg #[.int .i64 p0, .string p1, .string p2, .int .i64 p3, .int .i64 p4, .string p5, .string p6, .int .i64 p7, .bool p8, .int .i64 p9] := by
  unfold Value.okWide at hv
  rw [Tryz.underlying49] at hv
  obtain ⟨cs, rfl, hsz, _⟩ := hv
  rw [oP] at hsz
  obtain ⟨l⟩ := cs
  match l, hsz with
  | [e0, e1, e2, e3, e4, e5, e6, e7, e8, e9], _ =>
    obtain ⟨fuel, hf⟩ := h
    obtain ⟨xs, n, _, hx, _, hxl, hfs⟩ := DataW.trod_struct Tryz.underlying49 hf
    match xs, hxl with
    | [x0, x1, x2, x3], _ =>
      have h0 := hfs 0 _ rfl
      have h1 := hfs 1 _ rfl
      have h2 := hfs 2 _ rfl
      have h3 := hfs 3 _ rfl
      simp [Value.cells, oI, oB, oY] at h0 h1 h2 h3
      obtain ⟨a0, a3, a1, a2, q0⟩ := way_one _ _ _ rfl h0
      obtain ⟨b0, b3, b1, b2, q1⟩ := way_one _ _ _ rfl h1
      obtain ⟨y2, q2, _⟩ := DataW.trod_bool Tryz.underlying4 h2
      obtain ⟨y3, q3, _, _⟩ := DataW.trod_int Tryz.underlying3 h3
      simp at q0 q1 q2 q3
      obtain ⟨rfl, rfl, rfl, rfl⟩ := q0
      obtain ⟨rfl, rfl, rfl, rfl⟩ := q1
      subst q2 q3
      exact ⟨a0, a3, b0, b3, y3, a1, a2, b1, b2, y2, rfl⟩
end Go.Proofs.YtpfjakcfjpgbmaaGreatDoor
