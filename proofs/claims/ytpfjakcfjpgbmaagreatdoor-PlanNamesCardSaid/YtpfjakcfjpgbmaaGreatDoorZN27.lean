/- plan.Ways as an operation of the runs. What is known of calls in the run of PlanNames: the words' ends, the list of signs, the access paths. The texts that PlanNames reads, and what lang.Parse gives for them (written by tools/pnparse.py). -/
import Derived.Test.YtpfjakcfjpgbmaaGreatDoorZN15
import Derived.Test.YtpfjakcfjpgbmaaGreatDoorZN18
import Derived.Test.YtpfjakcfjpgbmaaGreatDoorZN26
import Derived.Test.YtpfjakcfjpgbmaaGreatDoorZN13
import Derived.Test.YtpfjakcfjpgbmaaGreatDoorZN17
namespace Go.Proofs.YtpfjakcfjpgbmaaGreatDoor
set_option linter.unusedVariables false
set_option linter.unusedSimpArgs false
open Go.RowKit Go.Rx

def dCols : List Value → Option (List (ByteArray × Int))
  | [] => some []
  | .string s :: .int .i64 k :: l => (dCols l).map fun r => (s, k) :: r
  | _ => none
theorem dCols_eq : ∀ {l : List Value} {M : List (ByteArray × Int)}, dCols l = some M → l = M.flatMap colEnc := by
  intro l
  induction l using dCols.induct with
  | case1 => intro M h; cases h; rfl
  | case2 s k l ih =>
    intro M h
    unfold dCols at h
    obtain ⟨r, h1, rfl⟩ := Option.map_eq_some_iff.1 h
    rw [ih h1]
    rfl
  | case3 l h1 h2 =>
    intro M h
    unfold dCols at h
    split at h <;> simp_all
def dInts : List Value → Option (List Int)
  | [] => some []
  | .int .i64 k :: l => (dInts l).map fun r => k :: r
  | _ => none
theorem dInts_eq : ∀ {l : List Value} {M : List Int}, dInts l = some M → l = M.flatMap fun x => [.int .i64 x] := by
  intro l
  induction l using dInts.induct with
  | case1 => intro M h; cases h; rfl
  | case2 k l ih =>
    intro M h
    unfold dInts at h
    obtain ⟨r, h1, rfl⟩ := Option.map_eq_some_iff.1 h
    rw [ih h1]
    rfl
  | case3 l h1 h2 =>
    intro M h
    unfold dInts at h
    split at h <;> simp_all
def i64B : Int → Bool
  | .ofNat m => Nat.ble m 9223372036854775807
  | .negSucc m => Nat.ble m 9223372036854775807
theorem i64B_fine {v : Val} (h : i64B v.n = true) : v.fine := by
  unfold Val.fine
  cases hn : v.n with
  | ofNat m =>
    rw [hn] at h
    have := Nat.le_of_ble_eq_true h
    simp only [Int.ofNat_eq_natCast]
    omega
  | negSucc m =>
    rw [hn] at h
    have := Nat.le_of_ble_eq_true h
    rw [Int.negSucc_eq]
    omega
def dConds : List Value → Option (List Cond)
  | [] => some []
  | .string s :: .int .i64 op :: .int .i64 k :: .int .i64 n :: .string t :: l => match i64B n with
    | true => (dConds l).map fun r => ⟨s, op, ⟨k, n, t⟩⟩ :: r
    | false => none
  | _ => none
theorem dConds_eq : ∀ {l : List Value} {M : List Cond}, dConds l = some M → l = M.flatMap condEnc ∧ ∀ c ∈ M, c.val.fine := by
  intro l
  induction l using dConds.induct with
  | case1 => intro M h; cases h; exact ⟨rfl, fun _ h => (by cases h)⟩
  | case2 s op k n t l hn ih =>
    intro M h
    unfold dConds at h
    rw [hn] at h
    obtain ⟨r, h1, rfl⟩ := Option.map_eq_some_iff.1 h
    obtain ⟨h2, h3⟩ := ih h1
    refine ⟨by rw [h2]; rfl, fun c hc => ?_⟩
    rcases List.mem_cons.1 hc with rfl | hc
    · exact i64B_fine hn
    · exact h3 c hc
  | case3 s op k n t l hn =>
    intro M h
    unfold dConds at h
    rw [hn] at h
    cases h
  | case4 l h1 h2 =>
    intro M h
    unfold dConds at h
    split at h
    · simp_all
    · exact (h2 _ _ _ _ _ _ rfl).elim
    · cases h
section
variable {N0 b0 : Nat} {w0 : World} {ρ : Ren} {w : World}
/-- its shape, for induction -/
def dIx : List Value → Nat
  | [] => 0
  | .string _ :: _ :: .int .i64 _ :: l => dIx l + 1
  | _ => 0
noncomputable def ixX : List Value → X (List Ix)
  | [] => X.pure []
  | .string nm :: c :: .int .i64 root :: l => (rowX 1 c).bind fun cs => match dInts cs with
    | some is => (ixX l).bind fun r => X.pure (⟨nm, is, root⟩ :: r)
    | none => X.fail
  | _ => X.fail
theorem ints_row {x' : Value} {l : List Value} {M : List Int} (h : RowOk ρ w 1 x' l) (hd : dInts l = some M) : SlV intR (fun _ => True) w x' M := by
  rw [dInts_eq hd] at h
  exact rowX_flat (enc := fun x => [.int .i64 x]) (fun _ => rfl) (fun _ => rfl) (by decide) h
theorem ixX_ok : ∀ {l : List Value} {s s' : St} {M : List Ix}, Rel N0 b0 w0 ρ s.h w → (ixX l).run s = some (M, s') → s'.h = s.h ∧ s'.nx = s.nx ∧ l.length = M.length * 3 ∧
    ∀ t (ht : t < M.length), l[t * 3]? = some (.string M[t].name) ∧ (∃ c, l[t * 3 + 1]? = some c ∧ ∀ c', VRel ρ c c' → SlV intR (fun _ => True) w c' M[t].cols) ∧ l[t * 3 + 2]? = some (.int .i64 M[t].root) := by
  intro l
  induction l using dIx.induct with
  | case1 =>
    intro s s' M r h
    unfold ixX at h
    obtain ⟨rfl, rfl⟩ := X.pure_some h
    exact ⟨rfl, rfl, rfl, fun t ht => (by cases ht)⟩
  | case2 nm c root l ih =>
    intro s s' M r h
    unfold ixX at h
    obtain ⟨cs, s1, h1, h2⟩ := X.bind_some h
    have key : ∀ c', VRel ρ c c' → s1.h = s.h ∧ s1.nx = s.nx ∧ RowOk ρ w 1 c' cs := fun c' hc => rowX_ok r hc h1
    obtain ⟨q1, q2⟩ := rowX_same h1
    split at h2
    case h_2 => cases h2
    case h_1 is hd =>
      obtain ⟨R, s2, h3, h4⟩ := X.bind_some h2
      obtain ⟨rfl, rfl⟩ := X.pure_some h4
      obtain ⟨e1, e2, e3, e4⟩ := ih (q1 ▸ r) h3
      refine ⟨e1.trans q1, e2.trans q2, by simp only [List.length_cons, e3]; omega, fun t ht => ?_⟩
      cases t with
      | zero => exact ⟨rfl, ⟨c, rfl, fun c' hc => ints_row (key c' hc).2.2 hd⟩, rfl⟩
      | succ t =>
        obtain ⟨f1, f2, f3⟩ := e4 t (by simpa using ht)
        have a0 : (t + 1) * 3 = t * 3 + 3 := by omega
        rw [a0]
        exact ⟨f1, f2, f3⟩
  | case3 l h1 h2 =>
    intro s s' M r h
    unfold ixX at h
    split at h
    · simp_all
    · exact (h2 _ _ _ _ rfl).elim
    · cases h
/-! What it computes, in a form that the kernel can run. -/
def sEqX (a b : ByteArray) : Bool := eqL a.data.toList b.data.toList
theorem sEqX_eq : sEqX = sEq := by
  funext a b
  unfold sEqX sEq
  rw [eqL_eq, toList_data, toList_data]
def condOnX (name : ByteArray) (ops : List Int) (c : Cond) : Bool := sEqX c.col name && ops.contains c.op && rightB c.val && decide (c.val.kind ≠ 0)
theorem condOnX_eq : condOnX = condOn := by
  funext n o c
  unfold condOnX condOn
  rw [sEqX_eq]
def condFX (W : List Cond) (name : ByteArray) (ops : List Int) : Option Val := (W.find? (condOnX name ops)).map (·.val)
theorem condFX_eq : condFX = condF := by
  funext W n o
  unfold condFX condF
  rw [condOnX_eq]
def idxEndX (W : List Cond) (name : ByteArray) (p : List UInt8) (r : Int) : Idx :=
  ⟨p, ((condFX W name [5, 6]).map keyV).getD [], ((condFX W name [3, 4]).map keyV).getD [],
    if (condFX W name [3, 4]).isSome then ((if (condFX W name [5, 6]).isSome then (r + 2) / 3 else r) + 2) / 3 else if (condFX W name [5, 6]).isSome then (r + 2) / 3 else r⟩
theorem idxEndX_eq : idxEndX = idxEnd := by
  funext W n p r
  unfold idxEndX idxEnd
  rw [condFX_eq]
def idxGoX (T : Tab) (S : Sta) (W : List Cond) : List Int → List UInt8 → Int → Idx
  | [], p, r => ⟨p, [], [], r⟩
  | c :: cs, p, r =>
    if c < 0 ∨ (T.cols.length : Int) ≤ c then ⟨p, [], [], r⟩ else
    match condFX W (nameAt T c) [1] with
    | some v => idxGoX T S W cs (p ++ keyV v) (leftOf r S c)
    | none => idxEndX W (nameAt T c) p r
theorem idxGoX_eq (T : Tab) (S : Sta) (W : List Cond) : ∀ (cs : List Int) (p : List UInt8) (r : Int), idxGoX T S W cs p r = idxGo T S W cs p r
  | [], p, r => rfl
  | c :: cs, p, r => by
    unfold idxGoX idxGo
    rw [condFX_eq, idxEndX_eq]
    split
    · rfl
    · split
      · rename_i v e
        rw [e]
        exact idxGoX_eq T S W cs _ _
      · rename_i e
        rw [e]
def byIdxX (T : Tab) (S : Sta) (W : List Cond) (n : Nat) : Way :=
  let g := idxGoX T S W (T.idx.getD n default).cols [] (rowsOf S)
  ⟨n, mkStr (cut16 (g.pre ++ g.lo)), mkStr (cut16 (g.pre ++ g.hi)), 3 + 2 * g.rest⟩
theorem byIdxX_eq : byIdxX = byIdx := by
  funext T S W n
  unfold byIdxX byIdx
  rw [idxGoX_eq]
def upX (T : Tab) (S : Sta) (W : List Cond) : Nat → Nat → List Way
  | 0, _ => []
  | k + 1, i => byIdxX T S W i :: upX T S W k (i + 1)
theorem upX_eq (T : Tab) (S : Sta) (W : List Cond) : ∀ k i, upX T S W k i = (List.range' i k).map (byIdx T S W)
  | 0, i => rfl
  | k + 1, i => by rw [upX, upX_eq T S W k, byIdxX_eq]; rfl
def waysX (T : Tab) (S : Sta) (W : List Cond) : List Way := scanOf S :: upX T S W T.idx.length 0
theorem waysX_eq (T : Tab) (S : Sta) (W : List Cond) : waysX T S W = waysOf T S W := by
  unfold waysX waysOf
  rw [upX_eq, List.range_eq_range']
/-- an int made plain -/
def wayX (x : Way) : List Value := fI x.index fun i => fI x.cost fun c => [.int .i64 i, .string x.lo, .string x.hi, .int .i64 c]
theorem wayX_eq (x : Way) : wayX x = wayEnc x := by
  unfold wayX
  rw [fI_eq, fI_eq]
  rfl
def encX : List Way → List Value
  | [] => []
  | x :: l => wayX x ++ encX l
theorem encX_eq : ∀ L : List Way, encX L = L.flatMap wayEnc
  | [] => rfl
  | x :: l => by rw [encX, wayX_eq, encX_eq l]; rfl
noncomputable def tabX : Value → X Tab
  | .agg ⟨[.int .i64 id, .string nm, c, i]⟩ => (rowX 2 c).bind fun cs => (rowX 3 i).bind fun is => match dCols cs with
    | some C => (ixX is).bind fun I => X.pure ⟨id, nm, C, I⟩
    | none => X.fail
  | _ => X.fail
noncomputable def staX : Value → X Sta
  | .agg ⟨[.int .i64 n, v]⟩ => (rowX 1 v).bind fun cs => match dInts cs with
    | some L => X.pure ⟨n, L⟩
    | none => X.fail
  | _ => X.fail
noncomputable def conX (v : Value) : X (List Cond) := (rowX 5 v).bind fun cs => match dConds cs with
  | some L => X.pure L
  | none => X.fail
noncomputable def waysM (N0 : Nat) : List Value → X Value
  | [t, a, c] => (tabX t).bind fun T => (staX a).bind fun S => (conX c).bind fun C => match Nat.ble T.idx.length 1000000 with
    | true => fN (T.idx.length + 1) fun n => xgrow N0 (encX (waysX T S C)) 47 0 0 4 n
    | false => X.fail
  | _ => X.fail
theorem tabX_ok {v v' : Value} {s s' : St} {T : Tab} (r : Rel N0 b0 w0 ρ s.h w) (hv : VRel ρ v v') (h : (tabX v).run s = some (T, s')) : s'.h = s.h ∧ s'.nx = s.nx ∧ TabV (fun _ => True) w v' T := by
  unfold tabX at h
  split at h
  case h_2 => cases h
  case h_1 id nm c i =>
    obtain ⟨cs, s1, h1, h⟩ := X.bind_some h
    obtain ⟨is, s2, h2, h⟩ := X.bind_some h
    split at h
    case h_2 => cases h
    case h_1 C hC =>
      obtain ⟨I, s3, h3, h⟩ := X.bind_some h
      obtain ⟨rfl, rfl⟩ := X.pure_some h
      cases hv with
      | @agg _ a' ha =>
        obtain ⟨a'⟩ := a'
        cases ha with | cons g1 ha => cases ha with | cons g2 ha => cases ha with | cons g3 ha => cases ha with | cons g4 ha => cases ha with | nil =>
        cases g1; cases g2
        obtain ⟨e1, e2, k1⟩ := rowX_ok r g3 h1
        obtain ⟨e3, e4, k2⟩ := rowX_ok (e1 ▸ r) g4 h2
        have r2 : Rel N0 b0 w0 ρ s2.h w := by rw [e3, e1]; exact r
        obtain ⟨e5, e6, k3, k4⟩ := ixX_ok r2 h3
        rw [dCols_eq hC] at k1
        have c1 := rowX_flat (enc := colEnc) (fun _ => rfl) (fun _ => rfl) (by decide) k1
        refine ⟨e5.trans (e3.trans e1), e6.trans (e4.trans e2), ?_⟩
        obtain ⟨ac, n, cc, rfl, p1, p2, p3, p4⟩ := k2
        have c1' := c1
        obtain ⟨a1, cap1, rfl, p5⟩ := c1'
        have hn : n = I.length := by omega
        subst hn
        refine ⟨a1, cap1, ac, cc, rfl, c1, ac, cc, rfl, p1, by dsimp only; omega, ?_⟩
        rcases p4 with p4 | ⟨b, off, rfl, p6, p7⟩
        · exact .inl (List.eq_nil_of_length_eq_zero p4)
        · refine .inr ⟨b, off, rfl, trivial, p6, fun t ht => ?_⟩
          obtain ⟨f1, ⟨c, f2, f3⟩, f4⟩ := k4 t ht
          obtain ⟨v1, q1, q2⟩ := p7 _ _ f1
          obtain ⟨v2, q3, q4⟩ := p7 _ _ f2
          obtain ⟨v3, q5, q6⟩ := p7 _ _ f4
          cases q2; cases q6
          have q7 := f3 v2 q4
          obtain ⟨a2, cap2, rfl, q8, q9, q10⟩ := q7
          refine ⟨[.string I[t].name, .slice a2 I[t].cols.length cap2, .int .i64 I[t].root], fun j hj => ?_, a2, cap2, rfl, q8, q9, q10⟩
          have hj : j < 3 := hj
          rw [show off + t * ixR.sz + j = off + (t * 3 + j) from Nat.add_assoc _ _ _]
          have : j = 0 ∨ j = 1 ∨ j = 2 := by omega
          rcases this with rfl | rfl | rfl
          · exact q1
          · exact q3
          · exact q5
theorem staX_ok {v v' : Value} {s s' : St} {T : Sta} (r : Rel N0 b0 w0 ρ s.h w) (hv : VRel ρ v v') (h : (staX v).run s = some (T, s')) : s'.h = s.h ∧ s'.nx = s.nx ∧ StaV (fun _ => True) w v' T := by
  unfold staX at h
  split at h
  case h_2 => cases h
  case h_1 n x =>
    obtain ⟨cs, s1, h1, h⟩ := X.bind_some h
    split at h
    case h_2 => cases h
    case h_1 L hL =>
      obtain ⟨rfl, rfl⟩ := X.pure_some h
      cases hv with
      | @agg _ a' ha =>
        obtain ⟨a'⟩ := a'
        cases ha with | cons g1 ha => cases ha with | cons g2 ha => cases ha with | nil =>
        cases g1
        obtain ⟨e1, e2, k1⟩ := rowX_ok r g2 h1
        have c1 := ints_row k1 hL
        refine ⟨e1, e2, ?_⟩
        have c1' := c1
        obtain ⟨a1, cap1, rfl, p5⟩ := c1'
        exact ⟨a1, cap1, rfl, c1⟩
theorem conX_ok {v v' : Value} {s s' : St} {C : List Cond} (r : Rel N0 b0 w0 ρ s.h w) (hv : VRel ρ v v') (h : (conX v).run s = some (C, s')) : s'.h = s.h ∧ s'.nx = s.nx ∧ (∃ aw cw, v' = .slice aw C.length cw) ∧ SlV condR (fun _ => True) w v' C ∧ ∀ c ∈ C, c.val.fine := by
  unfold conX at h
  obtain ⟨cs, s1, h1, h⟩ := X.bind_some h
  split at h
  case h_2 => cases h
  case h_1 L hL =>
    obtain ⟨rfl, rfl⟩ := X.pure_some h
    obtain ⟨e1, e2, k1⟩ := rowX_ok r hv h1
    obtain ⟨d1, d2⟩ := dConds_eq hL
    rw [d1] at k1
    have c1 := rowX_flat (enc := condEnc) (fun _ => rfl) (fun _ => rfl) (by decide) k1
    have c1' := c1
    obtain ⟨a1, cap1, rfl, p5⟩ := c1'
    exact ⟨e1, e2, ⟨a1, cap1, rfl⟩, c1, d2⟩
theorem plain_ways : ∀ L : List Way, plainL (L.flatMap wayEnc) = true
  | [] => rfl
  | x :: L => by
    have := plain_ways L
    simp [List.flatMap_cons, wayEnc, plainL, plainV, this]
theorem ways_own {p q r0 : Nat → Prop} {tv sv : Value} {T : Tab} {S : Sta} {C : List Cond} {aw : Option Addr} {cw : Nat} {w : World} (hT : TabV p w tv T) (hS : StaV q w sv S) (hC : SlV condR r0 w (.slice aw C.length cw) C)
    (hf : ∀ c ∈ C, c.val.fine) (he : Env w) (hix : T.idx.length ≤ 1000000) :
    Calls Tryz.prog 30 #[tv, sv, .slice aw C.length cw] w fun e W' => ∃ v, e = .returned v ∧ W'.ownsRow w.heap.size 47 4 v (waysOf T S C).length ((waysOf T S C).flatMap wayEnc) ∧ Below w.heap.size w W' :=
  (callsIn_wide (n := 6)).1 (ways_in 6 (by omega) hT.bound hS.bound hC.bound hf he (fun _ h => h.2) (fun _ h => h.2) (fun _ h => h.2) (by obtain ⟨m, hm⟩ := he; exact World.block_lt_of_cell? w _ hm) hix)
theorem waysM_ok {args args' : List Value} {s s' : St} {v : Value} (he : Env w) (r : Rel N0 b0 w0 ρ s.h w) (ha : VRels ρ args args') (h : (waysM N0 args).run s = some (v, s')) : CallGood Tryz.prog N0 b0 w0 ρ s' v 30 args' w := by
  unfold waysM at h
  split at h
  case h_2 => cases h
  case h_1 t a c =>
    cases ha with | cons g1 ha => cases ha with | cons g2 ha => cases ha with | cons g3 ha => cases ha with | nil =>
    rename_i t' a' c'
    obtain ⟨T, s1, h1, h⟩ := X.bind_some h
    obtain ⟨S, s2, h2, h⟩ := X.bind_some h
    obtain ⟨C, s3, h3, h⟩ := X.bind_some h
    obtain ⟨e1, n1, hT⟩ := tabX_ok r g1 h1
    have r1 : Rel N0 b0 w0 ρ s1.h w := e1 ▸ r
    obtain ⟨e2, n2, hS⟩ := staX_ok r1 g2 h2
    have r2 : Rel N0 b0 w0 ρ s2.h w := e2 ▸ r1
    obtain ⟨e3, n3, ⟨aw, cw, rfl⟩, hC, hf⟩ := conX_ok r2 g3 h3
    have r3 : Rel N0 b0 w0 ρ s3.h w := e3 ▸ r2
    split at h
    case h_2 => cases h
    case h_1 hix =>
      rw [fN_eq] at h
      unfold xgrow at h
      rw [fL_eq] at h
      obtain ⟨j, s4, h4, h⟩ := X.bind_some h
      obtain ⟨rfl, h5, h6, _⟩ := X.new_some h4
      split at h
      case h_2 => cases h
      case h_1 hn =>
        have hn := Nat.le_of_ble_eq_true hn
        obtain ⟨rfl, rfl⟩ := X.pure_some h
        refine .inr ⟨enters_of Tryz.func30 (by kernel_rfl) rfl _ _, (ways_own hT hS hC hf he (Nat.le_of_ble_eq_true hix)).mono ?_⟩
        rintro e W' ⟨v', rfl, ⟨hlen, ⟨rfl, h0⟩ | ⟨g, cap, cur, rfl, hg, hgb, hnc, hcap, hsz, htk⟩⟩, hb⟩
        · unfold waysOf at h0
          simp at h0
        · have hwl : (waysOf T S C).length = T.idx.length + 1 := by unfold waysOf; simp
          rw [encX_eq, waysX_eq] at h6
          have hle : ρ.le (ρ.put s3.nx ⟨g, 0, cap * 4, some 4⟩) := Ren.le_put (r3.new _ hn h5)
          have hl4 : ((waysOf T S C).flatMap wayEnc).length ≤ cap * 4 := by
            rw [hlen]
            exact Nat.mul_le_mul_right 4 hnc
          refine ⟨ρ.put s3.nx ⟨g, 0, cap * 4, some 4⟩, _, rfl, hle, ?_, ?_⟩
          · rw [h6]
            refine r3.made hb hn h5 _ _ hg ⟨rfl, cur, 47, (0, 0), hgb, rfl, hsz, fun x => (by cases x), by dsimp only; omega, ?_, fun j h1 h2 => by dsimp only at h2; omega⟩
            have : (cur.toList.drop 0).take ((waysOf T S C).flatMap wayEnc).length = (waysOf T S C).flatMap wayEnc := by
              rw [List.drop_zero, hlen]
              exact htk
            dsimp only
            rw [this]
            exact .plain (plain_ways _)
          · rw [hwl]
            rw [hwl] at hnc
            have := VRel.slice (ρ := ρ.put s3.nx ⟨g, 0, cap * 4, some 4⟩) (i := s3.nx) 0 (T.idx.length + 1) (cap := T.idx.length + 1) (cap' := cap) Ren.put_self (.inr ⟨4, rfl, hnc, by dsimp only; omega⟩)
            simpa using this
end
end Go.Proofs.YtpfjakcfjpgbmaaGreatDoor

namespace Go.Proofs.YtpfjakcfjpgbmaaGreatDoor
set_option linter.unusedVariables false
set_option linter.unusedSimpArgs false
open Go.RowKit Go.Rx

theorem SAt.still (w w' : World) (h : ∀ i, i < 12 → w'.heap[i]? = w.heap[i]?) (e : SAt w) : SAt w' := by
  obtain ⟨h1, h2, h4⟩ := e
  refine ⟨h1.still _ _ h, ?_, ?_⟩
  · unfold Lib.TabIs World.var? at h2 ⊢
    rw [show Tryz.prog.globalNamed "strings.asciiSpace" = some 1 by kernel_rfl] at h2 ⊢
    simp only [Option.bind_some] at h2 ⊢
    rw [h _ (by decide)]
    exact h2
  · have h5 := h 11 (by decide)
    obtain ⟨x, hx⟩ : ∃ x, w.heap[11]? = some x := ⟨_, Array.getElem?_eq_getElem (by omega)⟩
    rw [hx] at h5
    have := (Array.getElem?_eq_some_iff.1 h5).1
    omega

theorem env_of {w : World} (h : SEnv w) : Env w := h
/-! while -/
def letX (c : UInt8) : Bool := match Nat.ble 97 c.toNat with
  | true => Nat.ble c.toNat 122
  | false => false
def digX (c : UInt8) : Bool := match Nat.ble 48 c.toNat with
  | true => Nat.ble c.toNat 57
  | false => false
def inX (c : UInt8) : Bool := match letX c with
  | true => true
  | false => match digX c with
    | true => true
    | false => Nat.beq c.toNat 95
theorem ble_dec (a b : Nat) : Nat.ble a b = decide (a ≤ b) := by
  cases h : Nat.ble a b
  · rw [eq_comm, decide_eq_false_iff_not]
    intro e
    rw [Nat.ble_eq_true_of_le e] at h
    cases h
  · rw [eq_comm, decide_eq_true_eq]
    exact Nat.le_of_ble_eq_true h
theorem letX_eq (c : UInt8) : letX c = letB c := by
  unfold letX letB
  rw [ble_dec, ble_dec]
  have h1 : (decide (97 ≤ c)) = decide (97 ≤ c.toNat) := rfl
  have h2 : (decide (c ≤ 122)) = decide (c.toNat ≤ 122) := rfl
  rw [h1, h2]
  cases decide (97 ≤ c.toNat) <;> rfl
theorem digX_eq (c : UInt8) : digX c = digB c := by
  unfold digX digB
  rw [ble_dec, ble_dec]
  have h1 : (decide (48 ≤ c)) = decide (48 ≤ c.toNat) := rfl
  have h2 : (decide (c ≤ 57)) = decide (c.toNat ≤ 57) := rfl
  rw [h1, h2]
  cases decide (48 ≤ c.toNat) <;> rfl
theorem inX_eq (c : UInt8) : inX c = inB c := by
  unfold inX inB
  rw [letX_eq, digX_eq]
  have h : (c == 95) = Nat.beq c.toNat 95 := by
    rw [Bool.eq_iff_iff, beq_iff_eq]
    exact ⟨fun e => by rw [e]; rfl, fun e => UInt8.toNat_inj.1 (Nat.eq_of_beq_eq_true e)⟩
  rw [h]
  cases letB c <;> cases digB c <;> rfl
def spanX (p : UInt8 → Bool) : List UInt8 → Nat → Nat
  | [], i => i
  | b :: l, i => match p b with
    | true => spanX p l (i + 1)
    | false => i
theorem spanX_eq (p : UInt8 → Bool) : ∀ (L : List UInt8) (i : Nat), spanX p L i = i + spanN p L
  | [], i => rfl
  | b :: l, i => by
    unfold spanX spanN
    rw [List.takeWhile_cons]
    split
    · rename_i h
      rw [spanX_eq p l (i + 1), if_pos h]
      unfold spanN
      rw [List.length_cons]
      omega
    · rename_i h
      rw [if_neg (by rw [h]; decide)]
      rfl
noncomputable def spanM (p : UInt8 → Bool) (a : ByteArray) (i : Nat) : X Value := match Nat.ble i a.data.toList.length with
  | true => match Nat.ble a.data.toList.length 4294967000 with
    | true => fN (spanX p (a.data.toList.drop i) i) fun n => X.pure (.int .i64 (.ofNat n))
    | false => X.fail
  | false => X.fail
noncomputable def whileM : List Value → X Value
  | [.string a, .int .i64 (.ofNat i), .func (.func g) ⟨[]⟩ ⟨[]⟩] => match Nat.beq g 161 with
    | true => spanM inX a i
    | false => match Nat.beq g 162 with
      | true => spanM digX a i
      | false => X.fail
  | _ => X.fail
section
variable {N0 b0 : Nat} {w0 : World} {ρ : Ren} {w : World}
theorem spanM_ok {p p' : UInt8 → Bool} (hpp : ∀ c, p c = p' c) {g : FuncId} (eg : ∀ args w, (callFunc g args).run Tryz.prog w = .ok (.enter g args) w) (hg : ∀ c w, Calls Tryz.prog g #[.int .u8 (c.toNat : Nat)] w fun e w' => e = .returned (.bool (p' c)) ∧ w = w')
    {a : ByteArray} {i : Nat} {s s' : St} {v : Value} (r : Rel N0 b0 w0 ρ s.h w) (h : (spanM p a i).run s = some (v, s')) : CallGood Tryz.prog N0 b0 w0 ρ s' v 160 [.string a, .int .i64 (.ofNat i), .func (.func g) ⟨[]⟩ ⟨[]⟩] w := by
  have hp : p = p' := funext hpp
  subst hp
  unfold spanM at h
  split at h
  case h_2 => cases h
  case h_1 h1 =>
    split at h
    case h_2 => cases h
    case h_1 h2 =>
      rw [fN_eq] at h
      obtain ⟨rfl, rfl⟩ := X.pure_some h
      have h1 := Nat.le_of_ble_eq_true h1
      have h2 := Nat.le_of_ble_eq_true h2
      rw [Array.length_toList] at h1 h2
      refine .inr ⟨enters_of Tryz.func160 (by kernel_rfl) rfl _ _, (while_any p eg hg a i h1 h2 w).mono ?_⟩
      rintro e w' ⟨rfl, rfl⟩
      exact ⟨ρ, _, rfl, Ren.le_refl _, r, by rw [spanX_eq]; exact .int ..⟩
theorem whileM_ok {args args' : List Value} {s s' : St} {v : Value} (r : Rel N0 b0 w0 ρ s.h w) (ha : VRels ρ args args') (h : (whileM args).run s = some (v, s')) : CallGood Tryz.prog N0 b0 w0 ρ s' v 160 args' w := by
  unfold whileM at h
  split at h
  case h_2 => cases h
  case h_1 a i g =>
    cases ha with | cons g1 ha => cases ha with | cons g2 ha => cases ha with | cons g3 ha => cases ha with | nil =>
    cases g1; cases g2
    cases g3 with
    | @func _ x x' y y' hx hy =>
      obtain ⟨x'⟩ := x'
      obtain ⟨y'⟩ := y'
      cases hx; cases hy
      split at h
      · rename_i hi
        rw [Nat.eq_of_beq_eq_true hi]
        exact spanM_ok inX_eq (enters_of Tryz.func161 (by kernel_rfl) rfl) inner_any r h
      · split at h
        · rename_i hi
          rw [Nat.eq_of_beq_eq_true hi]
          exact spanM_ok digX_eq (enters_of Tryz.func162 (by kernel_rfl) rfl) digit_any r h
        · cases h
end
noncomputable def opN (f : FuncId) : Option (List Value → X Value) := match f with
  | 160 => some whileM
  | 30 => some (waysM 12)
  | 10 => some restM
  | _ => none
theorem opN_ok (b0 : Nat) (w0 : World) (he : SAt w0) (f : FuncId) (m : List Value → X Value) (hm : opN f = some m) (args args' : List Value) (s s' : St) (v : Value) (ρ : Ren) (w : World)
    (r : Rel 12 b0 w0 ρ s.h w) (ha : VRels ρ args args') (h : (m args).run s = some (v, s')) : CallGood Tryz.prog 12 b0 w0 ρ s' v f args' w := by
  unfold opN at hm
  split at hm
  · cases hm
    exact whileM_ok r ha h
  · cases hm
    exact waysM_ok (env_of (he.max.still w0 w (fun i hi => r.low i (Nat.lt_of_lt_of_le hi r.n0le)))) r ha h
  · cases hm
    exact restM_ok r ha h
  · cases hm
/-! the list of signs -/
def signs : List UInt8 := [60, 62, 32, 60, 61, 32, 62, 61, 32, 40, 32, 41, 32, 44, 32, 42, 32, 43, 32, 61, 32, 60, 32, 62]
def retF : Ret := ⟨[(12, .cells [.string ⟨⟨[60, 62]⟩⟩, .string ⟨⟨[60, 61]⟩⟩, .string ⟨⟨[62, 61]⟩⟩, .string ⟨⟨[40]⟩⟩, .string ⟨⟨[41]⟩⟩, .string ⟨⟨[44]⟩⟩, .string ⟨⟨[42]⟩⟩, .string ⟨⟨[43]⟩⟩, .string ⟨⟨[61]⟩⟩, .string ⟨⟨[60]⟩⟩, .string ⟨⟨[62]⟩⟩] 9 0 0 none)], .slice (some ⟨12, 0, none⟩) 11 11⟩
noncomputable def fieldsRun : Option (Value × St) := ((exeZ Tryz.prog 12 known0 4000).1.run 165 [.string ⟨⟨signs⟩⟩]).run ⟨12, H0, 0, 0⟩
set_option maxRecDepth 1000000
theorem runF : fitRet 12 retF fieldsRun = true := by kernel_rfl
def kfn1 (f : FuncId) : Option (List Value → Option Ret) := match f with
  | 165 => some fun
    | [.string a] => match eqL a.data.toList signs with
      | true => some retF
      | false => none
    | _ => none
  | f => kfn0 f
theorem kfn1_ok (f : FuncId) (g : List Value → Option Ret) (h : kfn1 f = some g) (args : List Value) (R : Ret) (hR : g args = some R) : plainL args = true ∧ (∀ (k k' i : Nat) (o o' : AObj), R.objs[k]? = some (i, o) → R.objs[k']? = some (i, o') → k = k') ∧
    ∀ w : World, SAt w → 12 ≤ w.heap.size →
      ((callFunc f ⟨args⟩).run Tryz.prog w = .ok (.value R.v) w ∧ R.objs = [] ∧ plainL (cellsOf R.v) = true) ∨
      ((callFunc f ⟨args⟩).run Tryz.prog w = .ok (.enter f ⟨args⟩) w ∧ Calls Tryz.prog f ⟨args⟩ w fun e w' => ∃ ρ' h' v', e = .returned v' ∧ Rel 12 w.heap.size w ρ' h' w' ∧ VRel ρ' R.v v' ∧ ∀ (k i : Nat) (o : AObj), R.objs[k]? = some (i, o) → 12 ≤ i ∧ h'.get i = some o) := by
  unfold kfn1 at h
  split at h
  · cases h
    dsimp only at hR
    split at hR
    case h_2 => cases hR
    case h_1 a =>
      split at hR
      case h_2 => cases hR
      case h_1 h1 =>
        rw [eqL_eq] at h1
        have ha : a = ⟨⟨signs⟩⟩ := by
          obtain ⟨⟨l⟩⟩ := a
          rw [show l = signs from eq_of_beq h1]
        subst ha
        cases hR
        have hp := runF
        refine ⟨rfl, fit_inj hp, fun w hE _ => .inr ⟨enters_of Tryz.func165 (by kernel_rfl) rfl _ _, ?_⟩⟩
        exact (known_of_run (K := known0) fit (k := 4000) hE.max (rel0 hE) rfl hp).2 (enters_of Tryz.func165 (by kernel_rfl) rfl _ _)
  · obtain ⟨h1, h2, h3⟩ := kfn0_ok _ g h args R hR
    exact ⟨h1, h2, fun w hE hn => h3 w hE.max hn⟩
noncomputable def known1 : Known Tryz.prog 12 := ⟨SAt, SAt.still, kfn1, kfn1_ok, kid, kid_ok, opN, opN_ok⟩
end Go.Proofs.YtpfjakcfjpgbmaaGreatDoor

namespace Go.Proofs.YtpfjakcfjpgbmaaGreatDoor
set_option linter.unusedVariables false
set_option linter.unusedSimpArgs false
open Go.RowKit Go.Rx

def b6 (k : Nat) : UInt8 := UInt8.ofNat (97 + k)
noncomputable def readRun (l : List UInt8) : Option (Value × St) := ((exeZ Tryz.prog 12 known1 4000).1.run 8 [.string ⟨⟨l⟩⟩]).run ⟨12, H0, 0, 0⟩
def txA (x y z : Nat) : List UInt8 := [115, 101, 108, 101, 99, 116, 32, b6 x, 32, 102, 114, 111, 109, 32, 116, 32, 119, 104, 101, 114, 101, 32, b6 y, 32, 61, 32, 51, 32, 111, 114, 100, 101, 114, 32, 98, 121, 32, b6 z]
def txJ (x y z : Nat) : List UInt8 := [115, 101, 108, 101, 99, 116, 32, b6 x, 32, 102, 114, 111, 109, 32, 116, 32, 106, 111, 105, 110, 32, 117, 32, 111, 110, 32, 98, 32, 61, 32, 100, 32, 119, 104, 101, 114, 101, 32, b6 y, 32, 61, 32, 51, 32, 111, 114, 100, 101, 114, 32, 98, 121, 32, b6 z]
def retA (x y z : Nat) : Ret := ⟨[(81, .cells [.string ⟨⟨[b6 x]⟩⟩] 9 0 0 (some 1)), (107, .cells [.string ⟨⟨[b6 y]⟩⟩, .int .i64 1, .int .i64 1, .int .i64 3, .string ⟨⟨[]⟩⟩] 103 0 0 (some 5)), (120, .cells [.string ⟨⟨[b6 z]⟩⟩] 9 0 0 (some 1))], .tuple ⟨[.agg ⟨[.int .i64 7, .string ⟨⟨[116]⟩⟩, .string ⟨⟨[]⟩⟩, .slice none 0 0, .slice (some ⟨81, 0, none⟩) 1 1, .slice none 0 0, .slice none 0 0, .slice (some ⟨107, 0, none⟩) 1 1, .string ⟨⟨[]⟩⟩, .string ⟨⟨[]⟩⟩, .string ⟨⟨[]⟩⟩, .int .i64 0, .slice (some ⟨120, 0, none⟩) 1 1, .int .i64 0, .int .i64 0]⟩, .int .i64 0, .int .i64 0]⟩⟩
def retJ (x y z : Nat) : Ret := ⟨[(106, .cells [.string ⟨⟨[b6 x]⟩⟩] 9 0 0 (some 1)), (145, .cells [.string ⟨⟨[b6 y]⟩⟩, .int .i64 1, .int .i64 1, .int .i64 3, .string ⟨⟨[]⟩⟩] 103 0 0 (some 5)), (158, .cells [.string ⟨⟨[b6 z]⟩⟩] 9 0 0 (some 1))], .tuple ⟨[.agg ⟨[.int .i64 7, .string ⟨⟨[116]⟩⟩, .string ⟨⟨[]⟩⟩, .slice none 0 0, .slice (some ⟨106, 0, none⟩) 1 1, .slice none 0 0, .slice none 0 0, .slice (some ⟨145, 0, none⟩) 1 1, .string ⟨⟨[117]⟩⟩, .string ⟨⟨[98]⟩⟩, .string ⟨⟨[100]⟩⟩, .int .i64 0, .slice (some ⟨158, 0, none⟩) 1 1, .int .i64 0, .int .i64 0]⟩, .int .i64 0, .int .i64 0]⟩⟩
def txF0 : List UInt8 := [99, 114, 101, 97, 116, 101, 32, 116, 97, 98, 108, 101, 32, 116, 32, 40, 97, 32, 105, 110, 116, 44, 32, 98, 32, 116, 101, 120, 116, 41]
def retF0 : Ret := ⟨[(94, .cells [.string ⟨⟨[97]⟩⟩, .int .i64 1, .string ⟨⟨[98]⟩⟩, .int .i64 2] 97 0 0 (some 2))], .tuple ⟨[.agg ⟨[.int .i64 1, .string ⟨⟨[116]⟩⟩, .string ⟨⟨[]⟩⟩, .slice (some ⟨94, 0, none⟩) 2 2, .slice none 0 0, .slice none 0 0, .slice none 0 0, .slice none 0 0, .string ⟨⟨[]⟩⟩, .string ⟨⟨[]⟩⟩, .string ⟨⟨[]⟩⟩, .int .i64 0, .slice none 0 0, .int .i64 0, .int .i64 0]⟩, .int .i64 0, .int .i64 0]⟩⟩
def txF1 : List UInt8 := [99, 114, 101, 97, 116, 101, 32, 105, 110, 100, 101, 120, 32, 105, 32, 111, 110, 32, 116, 32, 40, 98, 44, 32, 97, 41]
def retF1 : Ret := ⟨[(97, .cells [.string ⟨⟨[98]⟩⟩, .string ⟨⟨[97]⟩⟩] 9 0 0 (some 1))], .tuple ⟨[.agg ⟨[.int .i64 2, .string ⟨⟨[116]⟩⟩, .string ⟨⟨[105]⟩⟩, .slice none 0 0, .slice (some ⟨97, 0, none⟩) 2 2, .slice none 0 0, .slice none 0 0, .slice none 0 0, .string ⟨⟨[]⟩⟩, .string ⟨⟨[]⟩⟩, .string ⟨⟨[]⟩⟩, .int .i64 0, .slice none 0 0, .int .i64 0, .int .i64 0]⟩, .int .i64 0, .int .i64 0]⟩⟩
def txF2 : List UInt8 := [99, 114, 101, 97, 116, 101, 32, 116, 97, 98, 108, 101, 32, 117, 32, 40, 99, 32, 105, 110, 116, 44, 32, 100, 32, 116, 101, 120, 116, 41]
def retF2 : Ret := ⟨[(94, .cells [.string ⟨⟨[99]⟩⟩, .int .i64 1, .string ⟨⟨[100]⟩⟩, .int .i64 2] 97 0 0 (some 2))], .tuple ⟨[.agg ⟨[.int .i64 1, .string ⟨⟨[117]⟩⟩, .string ⟨⟨[]⟩⟩, .slice (some ⟨94, 0, none⟩) 2 2, .slice none 0 0, .slice none 0 0, .slice none 0 0, .slice none 0 0, .string ⟨⟨[]⟩⟩, .string ⟨⟨[]⟩⟩, .string ⟨⟨[]⟩⟩, .int .i64 0, .slice none 0 0, .int .i64 0, .int .i64 0]⟩, .int .i64 0, .int .i64 0]⟩⟩
def txF3 : List UInt8 := [114, 101, 110, 97, 109, 101, 32, 116, 32, 97, 32, 116, 111, 32, 101]
def retF3 : Ret := ⟨[], .tuple ⟨[.agg ⟨[.int .i64 3, .string ⟨⟨[116]⟩⟩, .string ⟨⟨[97]⟩⟩, .slice none 0 0, .slice none 0 0, .slice none 0 0, .slice none 0 0, .slice none 0 0, .string ⟨⟨[101]⟩⟩, .string ⟨⟨[]⟩⟩, .string ⟨⟨[]⟩⟩, .int .i64 0, .slice none 0 0, .int .i64 0, .int .i64 0]⟩, .int .i64 0, .int .i64 0]⟩⟩
set_option maxRecDepth 1000000
theorem runF0 : fitRet 12 retF0 (readRun txF0) = true := by kernel_rfl
theorem runF1 : fitRet 12 retF1 (readRun txF1) = true := by kernel_rfl
theorem runF2 : fitRet 12 retF2 (readRun txF2) = true := by kernel_rfl
theorem runF3 : fitRet 12 retF3 (readRun txF3) = true := by kernel_rfl
theorem six {k : Nat} (h : k < 6) : k = 0 ∨ k = 1 ∨ k = 2 ∨ k = 3 ∨ k = 4 ∨ k = 5 := by omega
end Go.Proofs.YtpfjakcfjpgbmaaGreatDoor
