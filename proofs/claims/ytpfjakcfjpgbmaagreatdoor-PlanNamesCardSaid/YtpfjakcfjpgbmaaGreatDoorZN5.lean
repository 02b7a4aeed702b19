/- Copying, making, literals, maps, lengths. Maps whose keys are numbers, texts, or structs of such. One operation of the short run, and that the real one gives the same. -/
import Derived.Test.YtpfjakcfjpgbmaaGreatDoorZN3
import Derived.MapKept
namespace Go.Rx
set_option linter.unusedVariables false
set_option linter.unusedSimpArgs false
noncomputable section
variable {P : Program} {N0 b0 : Nat} {w0 : World} {ρ : Ren} {w : World}

def xcopy (P : Program) (N0 : Nat) (st : TypeId) (s x : Value) : X Value := match P.underlying st with
  | some (.slice e) => match P.info? e, s, lenV x with
    | some I, .slice base dl cap, some n => fN (min n dl) fun n => (xfirst I.size n x).bind fun new => match base with
      | some ⟨i, off, none⟩ => (X.rdc i off 0).bind fun p => match p with
        | (_, _, f0, f1, _) => match oneL new && Nat.ble N0 i && (Nat.ble f1 off || Nat.ble (off + new.length) f0) && Nat.ble f0 1048576 with
          | true => (X.wrc i off new).bind fun _ => X.pure (.int .i64 (.ofNat n))
          | false => X.fail
      | none => match dl, n, cap with
        | 0, 0, 0 => X.pure (.int .i64 (.ofNat 0))
        | _, _, _ => X.fail
      | _ => X.fail
    | _, _, _ => X.fail
  | _ => X.fail
theorem xcopy_ok {st xt ty : TypeId} {x x' y y' v : Value} {s s' : St} (r : Rel N0 b0 w0 ρ s.h w) (hx : VRel ρ x x') (hy : VRel ρ y y') (h : (xcopy P N0 st x y).run s = some (v, s')) :
    Good N0 b0 w0 ρ s' v ((Builtin.copy_ #[st, xt] ty #[x', y']).run P w) := by
  unfold xcopy at h
  split at h
  case h_2 => cases h
  case h_1 e hd =>
    split at h
    case h_2 => cases h
    case h_1 I base dl cap n hI hn =>
      rw [fN_eq] at h
      obtain ⟨new, s1, g1, h'⟩ := X.bind_some h
      clear h
      obtain ⟨g2, g3, new', g4, g5⟩ := xfirst_ok (P := P) r hy g1 (fun l hl => by rw [hn] at hl; cases hl; exact Nat.min_le_left _ _)
      have hlen := lenOf_run (P := P) (w := w) hy hn
      have hmin : Nat.min n dl = min n dl := rfl
      split at h'
      · rename_i i off
        cases hx with
        | slice _ _ hL hok =>
          rename_i L cap'
          obtain ⟨⟨l0, t, f0, f1, lo⟩, s2, k1, h⟩ := X.bind_some h'
          clear h'
          obtain ⟨c, k2, _, _, k3, _⟩ := X.rdc_some k1
          dsimp only at h
          split at h
          case h_2 => cases h
          case h_1 hc =>
            simp only [Bool.and_eq_true, Bool.or_eq_true] at hc
            have c1 := Nat.le_of_ble_eq_true hc.1.1.2
            have c3 : f1 ≤ off ∨ off + new.length ≤ f0 := hc.1.2.imp Nat.le_of_ble_eq_true Nat.le_of_ble_eq_true
            obtain ⟨_, s3, k4, h'⟩ := X.bind_some h
            clear h
            obtain ⟨rfl, rfl⟩ := X.pure_some h'
            obtain ⟨c', t', f0', f1', lo', k5, hle, k6, _⟩ := X.wrc_some k4
            rw [k3, k2] at k5
            cases k5
            rw [g2] at k2
            obtain ⟨w', e3, r'⟩ := Rel.wrc (P := P) r k2 hL c1 hle (Nat.le_of_ble_eq_true hc.2) c3 g5 hc.1.1.1
            simp only [Builtin.copy_, List.getElem?_toArray, List.getElem?_cons_zero, List.getElem?_cons_succ, Sem.run_bind, run_underlying hd, Result.andThen_ok, run_sizeOf' hI, hlen, hmin, g4, e3, Sem.run_pure]
            refine ⟨ρ, w', _, rfl, Ren.le_refl _, ?_, .int ..⟩
            rw [k6, k3, g2]
            exact r'
      · split at h'
        · rename_i hmn
          · obtain ⟨rfl, rfl⟩ := X.pure_some h'
            cases hx
            simp only [Builtin.copy_, List.getElem?_toArray, List.getElem?_cons_zero, List.getElem?_cons_succ, Sem.run_bind, run_underlying hd, Result.andThen_ok, run_sizeOf' hI, hlen, hmin, g4, Sem.run_pure]
            rw [hmn]
            exact Good.same' r g2 (.int ..)
        · cases h'
      · cases h'

def xclear (P : Program) (N0 : Nat) (st : TypeId) (x : Value) : X Value := match P.underlying st with
  | some (.slice e) => match x with
    | .slice (some ⟨i, off, none⟩) n _ => match n with
      | 0 => X.pure undef
      | n => match P.info? e with
        | some I => match I.zero with
          | some z => match Nat.beq (cellsOf z).length I.size && plainL (cellsOf z) && oneL (cellsOf z) with
            | true => fL (repL (cellsOf z) n) fun vs => (X.rdc i off 0).bind fun p => match p with
              | (_, _, f0, f1, _) => match oneL vs && Nat.ble N0 i && (Nat.ble f1 off || Nat.ble (off + vs.length) f0) && Nat.ble f0 1048576 with
                | true => (X.wrc i off vs).bind fun _ => X.pure undef
                | false => X.fail
            | false => X.fail
          | none => X.fail
        | none => X.fail
    | .slice none 0 _ => X.pure undef
    | _ => X.fail
  | _ => X.fail
theorem xclear_ok {st ty : TypeId} {x x' v : Value} {s s' : St} (r : Rel N0 b0 w0 ρ s.h w) (hx : VRel ρ x x') (h : (xclear P N0 st x).run s = some (v, s')) :
    Good N0 b0 w0 ρ s' v ((Builtin.clear_ #[st] ty #[x']).run P w) := by
  have hun : VRel ρ undef (.tuple #[]) := .tuple .nil
  unfold xclear at h
  split at h
  case h_2 => cases h
  case h_1 e hd =>
    split at h
    · rename_i i off n cap
      cases hx with
      | slice _ _ hL hok =>
        rename_i L cap'
        split at h
        · obtain ⟨rfl, rfl⟩ := X.pure_some h
          refine ⟨ρ, w, .tuple #[], ?_, Ren.le_refl _, r, hun⟩
          simp [Builtin.clear_, run_underlying hd]
        · rename_i hn0
          split at h
          case h_2 => cases h
          case h_1 I hI =>
            split at h
            case h_2 => cases h
            case h_1 z hz =>
              split at h
              case h_2 => cases h
              case h_1 hzz =>
                simp only [Bool.and_eq_true] at hzz
                rw [fL_eq] at h
                obtain ⟨⟨l0, t, f0, f1, lo⟩, s2, k1, h'⟩ := X.bind_some h
                clear h
                obtain ⟨c, k2, _, _, k3, _⟩ := X.rdc_some k1
                dsimp only at h'
                split at h'
                case h_2 => cases h'
                case h_1 hc =>
                  simp only [Bool.and_eq_true, Bool.or_eq_true] at hc
                  have c1 := Nat.le_of_ble_eq_true hc.1.1.2
                  have c3 := hc.1.2.imp Nat.le_of_ble_eq_true Nat.le_of_ble_eq_true
                  obtain ⟨_, s3, k4, h⟩ := X.bind_some h'
                  clear h'
                  obtain ⟨rfl, rfl⟩ := X.pure_some h
                  obtain ⟨c', t', f0', f1', lo', k5, hle, k6, _⟩ := X.wrc_some k4
                  rw [k3, k2] at k5
                  cases k5
                  obtain ⟨w', e3, r'⟩ := Rel.wrc (P := P) r k2 hL c1 hle (Nat.le_of_ble_eq_true hc.2) c3 (VRels.plain (repL_plain hzz.1.2 n)) hc.1.1.1
                  refine ⟨ρ, w', .tuple #[], ?_, Ren.le_refl _, by rw [k6, k3]; exact r', hun⟩
                  have hzc : (Builtin.zeroCells z.cells n).toList = repL (cellsOf z) n := by rw [repL_zero, cellsOf_eq]
                  simp only [Builtin.clear_, List.getElem?_toArray, List.getElem?_cons_zero, Sem.run_bind, run_underlying hd, Result.andThen_ok]
                  cases n with
                  | zero => exact absurd rfl hn0
                  | succ n => simp only [Sem.run_bind, run_zeroValue' hI hz, Result.andThen_ok, hzc, e3, Sem.run_pure]
    · obtain ⟨rfl, rfl⟩ := X.pure_some h
      refine ⟨ρ, w, .tuple #[], ?_, Ren.le_refl _, r, hun⟩
      cases hx <;> simp [Builtin.clear_, run_underlying hd]
    · cases h

/-! ### literals -/
def okFs (P : Program) : List Field → Bool
  | [] => true
  | f :: l => (P.info? f.type).isSome && okFs P l
theorem okFs_mem {l : List Field} (h : okFs P l = true) : ∀ f ∈ l, ∃ I, P.info? f.type = some I := by
  induction l with
  | nil => simp
  | cons f l ih =>
    simp only [okFs, Bool.and_eq_true] at h
    intro g hg
    rcases List.mem_cons.1 hg with rfl | hg
    · exact Option.isSome_iff_exists.1 h.1
    · exact ih h.2 g hg
def placeS (P : Program) (fs : List Field) (i : Nat) : Option (Nat × Nat) := match fs[i]? with
  | some f => match P.info? f.type with
    | some I => some (f.offset, I.size)
    | none => none
  | none => none
def xbuild (P : Program) (t : TypeId) (ps : List (Nat × Value)) : Option Value := match P.underlying t, P.info? t with
  | some d, some I => match I.zero with
    | some z => match plainL (cellsOf z), d with
      | true, .struct fs => match okFs P fs.toList with
        | true => match xfill (placeS P fs.toList) (cellsOf z) ps with
          | some c => some (.agg ⟨c⟩)
          | none => none
        | false => none
      | true, .array _ e => match P.info? e with
        | some J => match xfill (fun i => some (i * J.size, J.size)) (cellsOf z) ps with
          | some c => some (.agg ⟨c⟩)
          | none => none
        | none => none
      | _, _ => none
    | none => none
  | _, _ => none
theorem xbuild_ok {t : TypeId} {ps : List (Nat × Value)} {ps' : Array (Nat × Value)} {v : Value} (hp : Parts ρ ps ps'.toList) (h : xbuild P t ps = some v) : ∃ v', (Instr.build t ps').run P w = .ok v' w ∧ VRel ρ v v' := by
  unfold xbuild at h
  split at h
  case h_2 => cases h
  case h_1 d I hd hI =>
    split at h
    case h_2 => cases h
    case h_1 z hz =>
      have hzc : ∀ z : Value, z.cells = ⟨cellsOf z⟩ := fun z => by rw [← cellsOf_eq]
      split at h
      · rename_i fs hpl
        split at h
        case h_2 => cases h
        case h_1 hok =>
          split at h
          case h_2 => cases h
          case h_1 c hc =>
            cases h
            have hm : (fs.mapM fun f => (do pure (f.offset, ← sizeOf f.type) : Sem (Nat × Nat))).run P w = .ok (fs.map fun f => (f.offset, P.cellsOf f.type)) w := mapM_run _ fun f hf => by
              obtain ⟨J, hJ⟩ := okFs_mem hok f (by simpa using hf)
              simp [run_sizeOf' hJ, Program.cellsOf, hJ]
            have hpl' : ∀ i x, placeS P fs.toList i = some x → (fs.map fun f => (f.offset, P.cellsOf f.type))[i]? = some x := fun i x hx => by
              unfold placeS at hx
              split at hx
              case h_2 => cases hx
              case h_1 f hf =>
                split at hx
                case h_2 => cases hx
                case h_1 J hJ =>
                  cases hx
                  have hf' : fs[i]? = some f := by simpa using hf
                  simp [hf', Program.cellsOf, hJ]
            obtain ⟨c', e1, e2⟩ := xfill_ok (place' := fun i => (fs.map fun f => (f.offset, P.cellsOf f.type))[i]?) hpl' hp (VRels.plain hpl) hc
            refine ⟨.agg ⟨c'⟩, ?_, .agg e2⟩
            simp only [Instr.build, Sem.run_bind, run_zeroValue' hI hz, Result.andThen_ok, run_underlying hd, hm, hzc, e1, Sem.run_pure]
      · rename_i e hpl
        split at h
        case h_2 => cases h
        case h_1 J hJ =>
          split at h
          case h_2 => cases h
          case h_1 c hc =>
            cases h
            obtain ⟨c', e1, e2⟩ := xfill_ok (place' := fun i => some (i * J.size, J.size)) (fun _ _ h => h) hp (VRels.plain hpl) hc
            refine ⟨.agg ⟨c'⟩, ?_, .agg e2⟩
            simp only [Instr.build, Sem.run_bind, run_zeroValue' hI hz, Result.andThen_ok, run_underlying hd, run_sizeOf' hJ, hzc, e1, Sem.run_pure]
      · cases h

theorem map_range0 (f : Nat → Value) : (Array.range 0).map f = ⟨[]⟩ := by simp
/-- n times the cells of a zero value. -/
def rep (z : List Value) : Nat → List Value
  | 0 => []
  | n + 1 => z ++ rep z n
theorem rep_nil (n : Nat) : rep [] n = [] := by
  induction n with
  | zero => rfl
  | succ n ih => simpa [rep] using ih
theorem rep_plain {z : List Value} (h : plainL z = true) (n : Nat) : plainL (rep z n) = true := by
  have app : ∀ a b, plainL a = true → plainL b = true → plainL (a ++ b) = true := fun a b ha hb => by
    induction a with
    | nil => exact hb
    | cons x a ih => simp only [plainL, Bool.and_eq_true, List.cons_append] at ha ⊢; exact ⟨ha.1, ih ha.2⟩
  induction n with
  | zero => rfl
  | succ n ih => exact app _ _ h ih
theorem rep_eq (z : Array Value) (n : Nat) : (Array.range (n * z.size)).map (fun i => z[i % z.size]!) = ⟨rep z.toList n⟩ := by
  apply Array.ext'
  apply List.ext_getElem?
  intro i
  have key : ∀ n i, (rep z.toList n)[i]? = if i < n * z.size then some z[i % z.size]! else none := by
    intro n
    induction n with
    | zero => intro i; simp [rep]
    | succ n ih =>
      intro i
      have hz : z.toList.length = z.size := by simp
      simp only [rep, List.getElem?_append, hz]
      rw [Nat.add_mul, Nat.one_mul]
      split
      · rename_i hlt
        rw [if_pos (by omega), Nat.mod_eq_of_lt hlt]
        simp [hlt]
      · rename_i hge
        rw [ih]
        have : i - z.size < n * z.size ↔ i < n * z.size + z.size := by omega
        simp only [this]
        split
        · have : (i - z.size) % z.size = i % z.size := by
            conv => rhs; rw [show i = (i - z.size) + z.size from by omega]
            simp
          rw [this]
        · rfl
  rw [key]
  simp only [Array.toList_map, Array.toList_range, List.getElem?_map, List.getElem?_range']
  by_cases h : i < n * z.size <;> simp [h]
def xbuildSlice (P : Program) (N0 : Nat) (t : TypeId) (len : Nat) (ps : List (Nat × Value)) : X Value := match P.underlying t with
  | some (.slice e) => match P.info? e with
    | some J => match J.zero with
      | some z => match plainL (cellsOf z) && Nat.beq (cellsOf z).length J.size && Nat.blt 0 J.size && Nat.ble (len * J.size) 16777216 with
        | true => fL (rep (cellsOf z) len) fun z => match xfill (fun i => some (i * J.size, J.size)) z ps with
          | some c => (xnew N0 c e).bind fun i => X.pure (.slice (some ⟨i, 0, none⟩) len len)
          | none => X.fail
        | false => X.fail
      | none => X.fail
    | none => X.fail
  | _ => X.fail
theorem slice_new {ρ' : Ren} {i : Nat} {L : Loc} (hL : ρ' i = some L) (hb : L.blk = w.heap.size) (hs : L.sh = 0) (len cap : Nat) : VRel ρ' (.slice (some ⟨i, 0, none⟩) len cap) (.slice (some ⟨w.heap.size, 0, none⟩) len cap) := by
  have := VRel.slice (ρ := ρ') 0 len (cap := cap) (cap' := cap) hL (.inl rfl)
  rwa [hb, hs] at this
theorem xbuildSlice_ok {t : TypeId} {len : Nat} {ps : List (Nat × Value)} {ps' : Array (Nat × Value)} {v : Value} {s s' : St} (r : Rel N0 b0 w0 ρ s.h w) (hp : Parts ρ ps ps'.toList) (h : (xbuildSlice P N0 t len ps).run s = some (v, s')) :
    Good N0 b0 w0 ρ s' v ((Instr.buildSlice t len ps').run P w) := by
  unfold xbuildSlice at h
  split at h
  case h_2 => cases h
  case h_1 e hd =>
    split at h
    case h_2 => cases h
    case h_1 J hJ =>
      split at h
      case h_2 => cases h
      case h_1 z hz =>
        split at h
        case h_2 => cases h
        case h_1 hc =>
          rw [fL_eq] at h
          split at h
          case h_2 => cases h
          case h_1 c hc2 =>
            simp only [Bool.and_eq_true] at hc
            have c1 := Nat.eq_of_beq_eq_true hc.1.1.2
            have c2 : 0 < J.size := blt_iff hc.1.2
            have c3 := Nat.le_of_ble_eq_true hc.2
            have hsz : z.cells.size = J.size := by rw [← c1, ← cellsOf_eq]; simp
            obtain ⟨i, s1, h1, h'⟩ := X.bind_some h
            clear h
            obtain ⟨rfl, rfl⟩ := X.pure_some h'
            obtain ⟨c', e1, e2⟩ := xfill_ok (place' := fun i => some (i * J.size, J.size)) (fun _ _ h => h) hp (VRels.plain (rep_plain hc.1.1.1 len)) hc2
            obtain ⟨ρ', L, hle, hL, hb, hs, hr⟩ := xnew_ok r e2 h1
            refine ⟨ρ', _, .slice (some ⟨w.heap.size, 0, none⟩) len len, ?_, hle, hr, slice_new hL hb hs _ _⟩
            have hno : ¬ (len * J.size > 2 ^ 24) := by omega
            by_cases h0 : len * J.size = 0
            · have hl0 : len = 0 := by rcases Nat.mul_eq_zero.1 h0 with h | h <;> omega
              subst hl0
              have e1' : Instr.fill (fun i => some (i * J.size, J.size)) #[] ps'.toList = some ⟨c'⟩ := e1
              simp [Instr.buildSlice, run_underlying hd, run_sizeOf' hJ]
              rw [map_range0]
              simp [e1', run_newRow]
            · have hrep : (Array.range (len * J.size)).map (fun i => z.cells[i % z.cells.size]!) = ⟨rep (cellsOf z) len⟩ := by
                rw [← hsz, rep_eq, cellsOf_eq]
              simp only [Instr.buildSlice, Sem.run_bind, run_underlying hd, Result.andThen_ok, run_sizeOf' hJ, hno, if_false, h0, run_zeroValue' hJ hz, Sem.run_pure, hrep, e1, run_newRow]
def xmakeSlice (P : Program) (N0 : Nat) (t : TypeId) (l c : Value) : X Value := match P.underlying t, l, c with
  | some (.slice e), .int .i64 l, .int .i64 c => match toN l, toN c, P.info? e with
    | some l, some c, some J => match J.zero with
      | some z => match plainL (cellsOf z) && Nat.beq (cellsOf z).length J.size && Nat.ble l c && Nat.ble c 1048576 && Nat.ble J.bytes 1048576 with
        | true => fL (rep (cellsOf z) c) fun z => (xnew N0 z e).bind fun i => fN l fun l => fN c fun c => X.pure (.slice (some ⟨i, 0, none⟩) l c)
        | false => X.fail
      | none => X.fail
    | _, _, _ => X.fail
  | _, _, _ => X.fail
theorem xmakeSlice_ok {t : TypeId} {l l' c c' v : Value} {s s' : St} (r : Rel N0 b0 w0 ρ s.h w) (hl : VRel ρ l l') (hc : VRel ρ c c') (h : (xmakeSlice P N0 t l c).run s = some (v, s')) :
    Good N0 b0 w0 ρ s' v ((Instr.makeSlice t l' c').run P w) := by
  unfold xmakeSlice at h
  split at h
  case h_2 => cases h
  case h_1 e L C hd =>
    split at h
    case h_2 => cases h
    case h_1 ln cn J hl1 hc1 hJ =>
      have hl1 := toN_some hl1
      have hc1 := toN_some hc1
      subst hl1
      subst hc1
      split at h
      case h_2 => cases h
      case h_1 z hz =>
        split at h
        case h_2 => cases h
        case h_1 hcc =>
          rw [fL_eq] at h
          simp only [Bool.and_eq_true] at hcc
          have c1 := Nat.eq_of_beq_eq_true hcc.1.1.1.2
          have c2 := Nat.le_of_ble_eq_true hcc.1.1.2
          have c3 := Nat.le_of_ble_eq_true hcc.1.2
          have c4 := Nat.le_of_ble_eq_true hcc.2
          have hsz : z.cells.size = J.size := by rw [← c1, ← cellsOf_eq]; simp
          obtain ⟨i, s1, h1, h'⟩ := X.bind_some h
          clear h
          rw [fN_eq, fN_eq] at h'
          obtain ⟨rfl, rfl⟩ := X.pure_some h'
          cases hl
          cases hc
          obtain ⟨ρ', L, hle, hL, hb, hs, hr⟩ := xnew_ok r (VRels.plain (rep_plain hcc.1.1.1.1 cn)) h1
          refine ⟨ρ', _, .slice (some ⟨w.heap.size, 0, none⟩) ln cn, ?_, hle, hr, slice_new hL hb hs _ _⟩
          have w1 : IntKind.i64.wrap (ln : Int) = ln := wrap_small _ (by omega) (by omega)
          have w2 : IntKind.i64.wrap (cn : Int) = cn := wrap_small _ (by omega) (by omega)
          have hm := Nat.mul_le_mul c4 c3
          have hm2 : ((J.bytes : Int) * (cn : Int)) = ((J.bytes * cn : Nat) : Int) := by push_cast; rfl
          have hng : ((decide ((cn : Int) < 0) || decide ((J.bytes : Int) * (cn : Int) > 2 ^ 48) || decide ((ln : Int) < 0)) || decide ((ln : Int) > (cn : Int))) = false := by
            rw [hm2]
            simp only [Bool.or_eq_false_iff, decide_eq_false_iff_not]
            refine ⟨⟨⟨?_, ?_⟩, ?_⟩, ?_⟩ <;> omega
          by_cases h0 : cn * J.size = 0
          · have e0 : rep (cellsOf z) cn = [] := by
              rcases Nat.mul_eq_zero.1 h0 with h | h
              · subst h; rfl
              · have : cellsOf z = [] := List.eq_nil_of_length_eq_zero (by omega)
                rw [this, rep_nil]
            simp only [Instr.makeSlice, Sem.run_bind, run_underlying hd, Result.andThen_ok, asInt, asIntOf, Sem.run_pure, typeInfo, run_program, hJ, w1, w2, hng, Bool.false_eq_true, if_false, run_askRoom, run_sizeOf' hJ, Int.toNat_natCast, h0, if_true, run_newRow, e0, map_range0]
          · have hrep : (Array.range (cn * J.size)).map (fun i => z.cells[i % z.cells.size]!) = ⟨rep (cellsOf z) cn⟩ := by
              rw [← hsz, rep_eq, cellsOf_eq]
            simp only [Instr.makeSlice, Sem.run_bind, run_underlying hd, Result.andThen_ok, asInt, asIntOf, Sem.run_pure, typeInfo, run_program, hJ, w1, w2, hng, Bool.false_eq_true, if_false, run_askRoom, run_sizeOf' hJ, Int.toNat_natCast, h0, run_zeroValue' hJ hz, hrep, run_newRow]
end
end Go.Rx

namespace Go.Rx
set_option linter.unusedVariables false
set_option linter.unusedSimpArgs false
noncomputable section
variable {P : Program} {N0 b0 : Nat} {w0 : World} {ρ : Ren} {w : World}

def isKeyB : TypeDesc → Value → Bool
  | .int j, .int k _ => kEq k j
  | .string, .string _ => true
  | _, _ => false
theorem isKeyB_ok {d : TypeDesc} {k k' : Value} (h : isKeyB d k = true) (hk : VRel ρ k k') : k' = k ∧ MapKept.IsKey d k := by
  unfold isKeyB at h
  split at h
  · cases hk; exact ⟨rfl, kEq_eq h⟩
  · cases hk; exact ⟨rfl, trivial⟩
  · cases h
/-- Two keys of one kind. -/
def keq : Value → Value → Option Bool
  | .int k a, .int k' b => match kEq k k' with
    | true => fB (eqI a b) some
    | false => none
  | .string a, .string b => fB (eqL a.data.toList b.data.toList) some
  | _, _ => none
theorem keq_now {d : TypeDesc} {k k' k2 : Value} {b : Bool} (hd : MapKept.IsKey d k) (hk : VRel ρ k' k2) (h : keq k k' = some b) : k2 = k' ∧ Instr.sameNow d k k' = some b ∧ (b = true → k' = k) := by
  unfold keq at h
  split at h
  · split at h
    · rename_i hkk
      have hkk := kEq_eq hkk
      subst hkk
      rw [fB_eq, eqI_eq] at h
      cases h
      cases hk
      cases d <;> simp [MapKept.IsKey] at hd
      refine ⟨rfl, by simp [Instr.sameNow], fun e => ?_⟩
      rw [eq_of_beq e]
    · cases h
  · rw [fB_eq, eqL_eq] at h
    cases h
    cases hk
    rename_i a b
    have e : (a == b) = (a.data.toList == b.data.toList) := by rw [beq_toListBytes, ByteArray.toList_eq, ByteArray.toList_eq]
    cases d <;> simp [MapKept.IsKey] at hd
    refine ⟨rfl, by simp [Instr.sameNow, e], fun h => ?_⟩
    have h := eq_of_beq h
    have : a = b := ByteArray.ext (Array.ext' h)
    rw [this]
  · cases h
def kfind (k : Value) : List (Value × Value) → Nat → Option (Option (Nat × Value))
  | [], _ => some none
  | (k', v) :: l, i => match keq k k' with
    | some true => fN i fun i => some (some (i, v))
    | some false => kfind k l (i + 1)
    | none => none
theorem kfind_ok {d : TypeDesc} {k : Value} (hk : MapKept.IsKey d k) : ∀ (es : List (Value × Value)) (es' : List MapEntry) (i : Nat) (r : Option (Nat × Value)), VRels ρ (es.map (·.1)) (es'.map (·.key)) → VRels ρ (es.map (·.2)) (es'.map (·.val)) →
    kfind k es i = some r → (r = none ∧ Instr.findNow d k es' i = some none) ∨ ∃ j v v' e, r = some (i + j, v) ∧ VRel ρ v v' ∧ Instr.findNow d k es' i = some (some (i + j, v')) ∧ es'[j]? = some e ∧ e.key = k ∧ j < es.length := by
  intro es
  induction es with
  | nil =>
    intro es' i r h1 h2 h
    cases h
    cases es' with
    | nil => exact .inl ⟨rfl, rfl⟩
    | cons _ _ => cases h1
  | cons p es ih =>
    obtain ⟨k', v⟩ := p
    intro es' i r h1 h2 h
    cases es' with
    | nil => cases h1
    | cons e es' =>
      cases h1 with
      | cons h1 h1s =>
        cases h2 with
        | cons h2 h2s =>
          unfold kfind at h
          split at h
          · rename_i hq
            obtain ⟨e1, e2, e3⟩ := keq_now hk h1 hq
            rw [fN_eq] at h
            cases h
            have e1' : e.key = k' := e1
            refine .inr ⟨0, v, e.val, e, rfl, h2, ?_, rfl, e1'.trans (e3 rfl), by simp⟩
            simp [Instr.findNow, e1', e2]
          · rename_i hq
            obtain ⟨e1, e2, _⟩ := keq_now hk h1 hq
            have e1' : e.key = k' := e1
            rcases ih es' (i + 1) r h1s h2s h with ⟨f1, f2⟩ | ⟨j, u, u', x, f1, f2, f3, f4, f5, f6⟩
            · exact .inl ⟨f1, by simp [Instr.findNow, e1', e2, f2]⟩
            · refine .inr ⟨j + 1, u, u', x, ?_, f2, ?_, by simpa using f4, f5, by simp; omega⟩
              · rw [f1]; congr 2; omega
              · simp only [Instr.findNow, e1', e2, f3]; congr 3; omega
          · cases h

/-! What is asked of a key: it is whole, it stays as it is, and it is found. -/
abbrev Find := List (Value × Value) → Option (Option (Nat × Value))
structure KeyLaw (P : Program) (ρ : Ren) (kt : TypeId) (k : Value) (f : Find) : Prop where
  check : ∀ e w, (Instr.checkKey e 10000 kt k).run P w = .ok () w
  stay : ∀ w, (Instr.keyThatStays k k).run P w = .ok k w
  find : ∀ (es : List (Value × Value)) (es' : List MapEntry) (r : Option (Nat × Value)) (w : World), VRels ρ (es.map (·.1)) (es'.map (·.key)) → VRels ρ (es.map (·.2)) (es'.map (·.val)) → f es = some r →
    (r = none ∧ (Instr.findKey kt k es').run P w = .ok none w) ∨ ∃ j v v' e, r = some (j, v) ∧ VRel ρ v v' ∧ (Instr.findKey kt k es').run P w = .ok (some (j, v')) w ∧ es'[j]? = some e ∧ e.key = k ∧ j < es.length
theorem keyLaw_one {kt : TypeId} {d : TypeDesc} {k : Value} (hd : P.underlying kt = some d) (hk : MapKept.IsKey d k) : KeyLaw P ρ kt k (fun es => kfind k es 0) where
  check e w := MapKept.run_checkKey hd hk e 9999
  stay w := MapKept.run_keyThatStays hk
  find es es' r w h1 h2 h := by
    rcases kfind_ok hk es es' 0 r h1 h2 h with ⟨e1, e2⟩ | ⟨j, v, v', e, e1, e2, e3, e4, e5, e6⟩
    · exact .inl ⟨e1, MapKept.run_findKey hd e2⟩
    · rw [Nat.zero_add] at e1 e3
      exact .inr ⟨j, v, v', e, e1, e2, MapKept.run_findKey hd e3, e4, e5, e6⟩
def flatV : Value → Bool
  | .int .. | .string _ => true
  | _ => false
theorem flatV_is {v : Value} (h : flatV v = true) : (∃ k n, v = .int k n) ∨ ∃ s, v = .string s := by
  unfold flatV at h
  split at h
  · exact .inl ⟨_, _, rfl⟩
  · exact .inr ⟨_, rfl⟩
  · cases h
def flatL : List Value → Bool
  | [] => true
  | v :: l => flatV v && flatL l
def flatF (P : Program) (n : Nat) : List Field → Bool
  | [] => true
  | f :: fs => (match P.underlying f.type with
    | some (.int _) | some .string | some .bool => true
    | _ => false) && Nat.blt f.offset n && flatF P n fs
theorem flat_same {l l' : List Value} (h : VRels ρ l l') (hf : flatL l = true) : l' = l := by
  induction l generalizing l' with
  | nil => cases h; rfl
  | cons v l ih =>
    cases h with
    | cons h1 h2 =>
      simp only [flatL, Bool.and_eq_true] at hf
      rw [ih h2 hf.2]
      congr 1
      rcases flatV_is hf.1 with ⟨k, n, rfl⟩ | ⟨s, rfl⟩ <;> (cases h1; rfl)
theorem flat_bits {l : List Value} (hf : flatL l = true) (n : Nat) : ((l.zip l).all fun (x, y) => Instr.sameBits n x y) = true := by
  induction l with
  | nil => rfl
  | cons v l ih =>
    simp only [flatL, Bool.and_eq_true] at hf
    simp only [List.zip_cons_cons, List.all_cons, ih hf.2, Bool.and_true]
    rcases flatV_is hf.1 with ⟨k, m, rfl⟩ | ⟨s, rfl⟩
    · simp [Instr.sameBits]
    · simp only [Instr.sameBits]
      rw [beq_toListBytes]
      simp
theorem flat_check {cs : Array Value} : ∀ {fs : List Field}, flatF P cs.size fs = true → ∀ (e : Bool) (n : Nat) (w : World),
    (forIn fs PUnit.unit fun f (_ : PUnit) => (do
      if f.name ≠ "_" then Instr.checkKey e (n + 1) f.type (← part f.type cs f.offset)
      pure (ForInStep.yield PUnit.unit) : Sem (ForInStep PUnit))).run P w = .ok PUnit.unit w
  | [], _, e, n, w => rfl
  | f :: fs, h, e, n, w => by
    simp only [flatF, Bool.and_eq_true] at h
    have hlt : f.offset < cs.size := Nat.le_of_ble_eq_true h.1.2
    obtain ⟨d, hd, hs⟩ : ∃ d, P.underlying f.type = some d ∧ (match d with | .int _ | .string | .bool => True | _ => False) := by
      have := h.1.1
      split at this <;> first | exact ⟨_, ‹_›, trivial⟩ | cases this
    have hag : isAggD d = false := by cases d <;> first | rfl | cases hs
    have hp : (part f.type cs f.offset).run P w = .ok cs[f.offset] w := by
      have := run_isAgg (P := P) hd w
      rw [hag] at this
      simp [part, this, hlt]
    have hc : (Instr.checkKey e (n + 1) f.type cs[f.offset]).run P w = .ok () w := by
      unfold Instr.checkKey
      simp only [Sem.run_bind, run_underlying hd, Result.andThen_ok]
      cases d <;> first | rfl | cases hs
    have ih := flat_check h.2 e n w
    simp only [List.forIn_cons, Sem.run_bind]
    split
    · simp only [Sem.run_bind, hp, Result.andThen_ok, hc, Sem.run_pure]
      exact ih
    · simp only [Sem.run_bind, Result.andThen_ok, Sem.run_pure]
      exact ih
def flatEq : List Value → List Value → Bool
  | [], [] => true
  | a :: l, b :: m => match keq a b with
    | some true => flatEq l m
    | _ => false
  | _, _ => false
theorem flatEq_ok : ∀ {l m : List Value}, flatEq l m = true → m = l
  | [], [], _ => rfl
  | [], _ :: _, h => by cases h
  | _ :: _, [], h => by cases h
  | a :: l, b :: m, h => by
    unfold flatEq at h
    split at h
    · rename_i hq
      rw [flatEq_ok h]
      congr 1
      unfold keq at hq
      split at hq
      · split at hq
        · rename_i hk
          rw [fB_eq, eqI_eq] at hq
          cases kEq_eq hk
          rw [eq_of_beq (Option.some.inj hq)]
        · cases hq
      · rename_i x y
        rw [fB_eq, eqL_eq] at hq
        have := eq_of_beq (Option.some.inj hq)
        rw [show x = y from ByteArray.ext (Array.ext' this)]
      · cases hq
    · cases h
def kfindS (P : Program) (fs : List Field) (ks : List Value) : List (Value × Value) → Nat → Option (Option (Nat × Value))
  | [], _ => some none
  | (k', v) :: l, i => match k' with
    | .agg k' => match eqFs P ks k'.toList fs with
      | some true => match flatEq ks k'.toList with
        | true => fN i fun i => some (some (i, v))
        | false => none
      | some false => kfindS P fs ks l (i + 1)
      | none => none
    | _ => none
theorem kfindS_ok {kt : TypeId} {fs : Array Field} {ks : Array Value} (hd : P.underlying kt = some (.struct fs)) (hg : P.stoodInHeld kt = false) (hk : flatL ks.toList = true) :
    ∀ (es : List (Value × Value)) (es' : List MapEntry) (i : Nat) (r : Option (Nat × Value)) (w : World), VRels ρ (es.map (·.1)) (es'.map (·.key)) → VRels ρ (es.map (·.2)) (es'.map (·.val)) → kfindS P fs.toList ks.toList es i = some r →
    (r = none ∧ (Instr.findAsking kt (.agg ks) es' i).run P w = .ok none w) ∨ ∃ j v v' e, r = some (i + j, v) ∧ VRel ρ v v' ∧ (Instr.findAsking kt (.agg ks) es' i).run P w = .ok (some (i + j, v')) w ∧ es'[j]? = some e ∧ e.key = .agg ks ∧ j < es.length := by
  intro es
  induction es with
  | nil =>
    intro es' i r w h1 h2 h
    cases h
    cases es' with
    | nil => exact .inl ⟨rfl, rfl⟩
    | cons _ _ => cases h1
  | cons p es ih =>
    obtain ⟨k', v⟩ := p
    intro es' i r w h1 h2 h
    cases es' with
    | nil => cases h1
    | cons e es' =>
      cases h1 with
      | cons h1 h1s =>
        cases h2 with
        | cons h2 h2s =>
          unfold kfindS at h
          split at h
          case h_2 => cases h
          case h_1 k2 =>
            have h1' : VRel ρ (.agg k2) e.key := h1
            generalize hq : e.key = q at h1'
            cases h1' with
            | agg hcs =>
              rename_i k3
              have hself : VRels ρ ks.toList ks.toList := by
                have : ∀ l, flatL l = true → VRels ρ l l := fun l => by
                  induction l with
                  | nil => intro _; exact .nil
                  | cons v l ih =>
                    intro hh
                    simp only [flatL, Bool.and_eq_true] at hh
                    refine .cons ?_ (ih hh.2)
                    rcases flatV_is hh.1 with ⟨k, m, rfl⟩ | ⟨s, rfl⟩ <;> constructor
                exact this _ hk
              have heq : ∀ b, eqFs P ks.toList k2.toList fs.toList = some b → (Op.equal kt (.agg ks) (.agg k3)).run P w = .ok b w := fun b hb => by
                have h3 := eqFs_ok (P := P) (w := w) hself hcs 9998 hb
                have hd' : P.underlying kt = some (.struct (P.fieldsOf kt)) := by simp [Program.fieldsOf, hd]
                have hfs : P.fieldsOf kt = fs := by simp [Program.fieldsOf, hd]
                have h4 := run_equalIn_struct (P := P) w 9999 kt ks k3 hd' hg
                rw [hfs] at h4
                exact h4.trans h3
              split at h
              · rename_i hb
                split at h
                case h_2 => cases h
                case h_1 hfe =>
                  rw [fN_eq] at h
                  cases h
                  have hk2 := flatEq_ok hfe
                  rw [hk2] at hcs
                  have hk3 : k3 = ks := by
                    have := flat_same hcs hk
                    exact Array.ext' this
                  subst hk3
                  refine .inr ⟨0, v, e.val, e, rfl, h2, ?_, rfl, hq, by simp⟩
                  simp only [Instr.findAsking, Sem.run_bind, hq, heq _ hb, Result.andThen_ok, if_true, Sem.run_pure, Nat.add_zero]
              · rename_i hb
                rcases ih es' (i + 1) r w h1s h2s h with ⟨f1, f2⟩ | ⟨j, u, u', x, f1, f2, f3, f4, f5, f6⟩
                · refine .inl ⟨f1, ?_⟩
                  simp only [Instr.findAsking, Sem.run_bind, hq, heq _ hb, Result.andThen_ok, Bool.false_eq_true, if_false, f2]
                · refine .inr ⟨j + 1, u, u', x, ?_, f2, ?_, by simpa using f4, f5, by simp; omega⟩
                  · rw [f1]; congr 2; omega
                  · simp only [Instr.findAsking, Sem.run_bind, hq, heq _ hb, Result.andThen_ok, Bool.false_eq_true, if_false, f3]
                    congr 3; omega
              · cases h
theorem keyLaw_flat {kt : TypeId} {fs : Array Field} {ks : Array Value} (hd : P.underlying kt = some (.struct fs)) (hg : P.stoodInHeld kt = false) (hk : flatL ks.toList = true) (hf : flatF P ks.size fs.toList = true) :
    KeyLaw P ρ kt (.agg ks) (fun es => kfindS P fs.toList ks.toList es 0) where
  check e w := by
    unfold Instr.checkKey
    simp only [Sem.run_bind, run_underlying hd, Result.andThen_ok]
    have := flat_check (P := P) hf e 9998 w
    simp only [← Array.forIn_toList, Sem.run_bind]
    rw [show (forIn fs.toList PUnit.unit fun f (_ : PUnit) => (do
      if f.name ≠ "_" then Instr.checkKey e 9999 f.type (← part f.type ks f.offset)
      pure (ForInStep.yield PUnit.unit) : Sem (ForInStep PUnit))).run P w = .ok PUnit.unit w from this]
    rfl
  stay w := by
    have : Instr.sameBits 10000 (.agg ks) (.agg ks) = true := by
      show (ks.size == ks.size && (ks.toList.zip ks.toList).all fun (x, y) => Instr.sameBits 9999 x y) = true
      rw [flat_bits hk]
      simp
    simp [Instr.keyThatStays, this]
  find es es' r w h1 h2 h := by
    cases es' with
    | nil =>
      cases es with
      | nil => cases h; exact .inl ⟨rfl, by simp [Instr.findKey, run_underlying hd, Instr.findNow]⟩
      | cons _ _ => cases h1
    | cons e0 es0 =>
      have hnow : Instr.findNow (.struct fs) (.agg ks) (e0 :: es0) 0 = none := rfl
      have hrun : (Instr.findKey kt (.agg ks) (e0 :: es0)).run P w = (Instr.findAsking kt (.agg ks) (e0 :: es0) 0).run P w := by
        simp [Instr.findKey, run_underlying hd, hnow]
      rw [hrun]
      rcases kfindS_ok hd hg hk es (e0 :: es0) 0 r w h1 h2 h with ⟨e1, e2⟩ | ⟨j, v, v', e, e1, e2, e3, e4, e5, e6⟩
      · exact .inl ⟨e1, e2⟩
      · rw [Nat.zero_add] at e1 e3
        exact .inr ⟨j, v, v', e, e1, e2, e3, e4, e5, e6⟩
/-- How a key is looked for. -/
def kfindK (P : Program) (kt : TypeId) (d : TypeDesc) (k : Value) : Option Find := match isKeyB d k with
  | true => some fun es => kfind k es 0
  | false => match d, k with
    | .struct fs, .agg ks => match !P.stoodInHeld kt && flatL ks.toList && flatF P ks.size fs.toList with
      | true => some fun es => kfindS P fs.toList ks.toList es 0
      | false => none
    | _, _ => none
theorem kfindK_ok {kt : TypeId} {d : TypeDesc} {k k' : Value} {f : Find} (hd : P.underlying kt = some d) (h : kfindK P kt d k = some f) (hk : VRel ρ k k') : k' = k ∧ KeyLaw P ρ kt k f := by
  unfold kfindK at h
  split at h
  · rename_i hb
    cases h
    obtain ⟨rfl, hkey⟩ := isKeyB_ok hb hk
    exact ⟨rfl, keyLaw_one hd hkey⟩
  · split at h
    · split at h
      · rename_i hb
        cases h
        simp only [Bool.and_eq_true, Bool.not_eq_true'] at hb
        cases hk with
        | agg hcs =>
          rename_i ks'
          have : ks' = _ := Array.ext' (flat_same hcs hb.1.2)
          subst this
          exact ⟨rfl, keyLaw_flat hd hb.1.1 hb.1.2 hb.2⟩
      · cases h
    · cases h

def xmakeMap (N0 : Nat) : X Value := (X.new (.map [] 0)).bind fun i => match Nat.ble N0 i with
  | true => X.pure (.map (some i))
  | false => X.fail
theorem xmakeMap_ok {t : TypeId} {v : Value} {s s' : St} (r : Rel N0 b0 w0 ρ s.h w) (h : (xmakeMap N0).run s = some (v, s')) : Good N0 b0 w0 ρ s' v ((Instr.makeMap t none).run P w) := by
  unfold xmakeMap at h
  obtain ⟨j, s1, h1, h'⟩ := X.bind_some h
  clear h
  obtain ⟨rfl, h2, h3, _⟩ := X.new_some h1
  split at h'
  case h_2 => cases h'
  case h_1 hn =>
    have hn := Nat.le_of_ble_eq_true hn
    obtain ⟨rfl, rfl⟩ := X.pure_some h'
    have hle : ρ.le (ρ.put s.nx ⟨w.heap.size, 0, 0, none⟩) := Ren.le_put (r.new _ hn h2)
    refine ⟨ρ.put s.nx ⟨w.heap.size, 0, 0, none⟩, { w with heap := w.heap.push (.map #[] 0) }, .map (some w.heap.size), ?_, hle, ?_, .map (L := ⟨w.heap.size, 0, 0, none⟩) Ren.put_self⟩
    · simp [Instr.makeMap]
    · rw [h3]
      exact r.push hn h2 _ _ _ rfl ⟨#[], by simp, .nil, .nil⟩

def lset : List (Value × Value) → Nat → Value → List (Value × Value)
  | [], _, _ => []
  | (k, _) :: l, 0, v => (k, v) :: l
  | p :: l, n + 1, v => p :: lset l n v
theorem lset_fst (l : List (Value × Value)) (n : Nat) (v : Value) : (lset l n v).map (·.1) = l.map (·.1) := by
  induction l generalizing n with
  | nil => rfl
  | cons p l ih => cases n with
    | zero => rfl
    | succ n => simp [lset, ih]
theorem lset_snd (l : List (Value × Value)) (n : Nat) (v : Value) : (lset l n v).map (·.2) = (l.map (·.2)).set n v := by
  induction l generalizing n with
  | nil => rfl
  | cons p l ih => cases n with
    | zero => rfl
    | succ n => simp [lset, ih]
def xput (P : Program) (N0 : Nat) (t : TypeId) (m k v : Value) : X Unit := match P.underlying t, m with
  | some (.map kt _), .map (some i) => match P.underlying kt with
    | some d => match kfindK P kt d k, Nat.ble N0 i with
      | some f, true => (X.rd i).bind fun
        | .map es clk => match f es with
          | some (some (j, _)) => fL (lset es j v) fun es => X.wrt i (.map es clk)
          | some none => fL (es ++ [(k, v)]) fun es => fN (clk + 1) fun c => X.wrt i (.map es c)
          | none => X.fail
        | _ => X.fail
      | _, _ => X.fail
    | none => X.fail
  | _, _ => X.fail
theorem xput_ok {t : TypeId} {m m' k k' v v' : Value} {s s' : St} (r : Rel N0 b0 w0 ρ s.h w) (hm : VRel ρ m m') (hk : VRel ρ k k') (hv : VRel ρ v v') (h : (xput P N0 t m k v).run s = some ((), s')) :
    GoodU N0 b0 w0 ρ s' ((Instr.mapUpdate t m' k' v').run P w) := by
  unfold xput at h
  split at h
  case h_2 => cases h
  case h_1 kt et i hd =>
    split at h
    case h_2 => cases h
    case h_1 d hdk =>
      split at h
      case h_2 => cases h
      case h_1 f hb hN =>
        have hN := Nat.le_of_ble_eq_true hN
        obtain ⟨rfl, hkey⟩ := kfindK_ok hdk hb hk
        obtain ⟨o, s1, g1, h'⟩ := X.bind_some h
        clear h
        obtain ⟨g2, g3, _⟩ := X.rd_some g1
        cases hm with
        | map hL =>
          rename_i L
          obtain ⟨L2, u, hlive⟩ := r.obj i o g2
          rw [hL] at u
          cases u
          split at h'
          case h_2 => cases h'
          case h_1 es clk =>
            obtain ⟨es', q1, q2, q3⟩ := id hlive
            have hlt : L.blk < w.heap.size := (Array.getElem?_eq_some_iff.1 q1).1
            split at h'
            · rename_i j u hf
              rw [fL_eq] at h'
              obtain ⟨_, e2, _⟩ := X.wrt_some h'
              rcases hkey.find es es'.toList _ w q2 q3 hf with ⟨f1, _⟩ | ⟨j2, a, a', e, f1, f2, f3, f4, f5, f6⟩
              · cases f1
              · cases f1
                have f4' : es'[j]? = some e := by simpa using f4
                refine ⟨ρ, { w with heap := w.heap.setIfInBounds L.blk (.map (es'.modify j fun e => { e with key := k', val := v' }) clk) }, ?_, Ren.le_refl _, ?_⟩
                · simp [Instr.mapUpdate, run_underlying hd, MapKept.run_getObj_map q1, hkey.check, f3, f4', f5, hkey.stay, MapKept.run_setObj_map _ q1]
                · rw [e2, g3]
                  refine r.upd hN g2 rfl rfl hL _ _ ⟨es'.modify j fun e => { e with key := k', val := v' }, by simp [hlt], ?_, ?_⟩
                  · rw [lset_fst]
                    have : (es'.modify j fun e => { e with key := k', val := v' }).toList.map (·.key) = es'.toList.map (·.key) := by
                      apply List.ext_getElem?
                      intro x
                      rw [List.getElem?_map, Array.toList_modify, List.getElem?_modify, List.getElem?_map]
                      by_cases hx : j = x
                      · subst hx; simp [f4', f5]
                      · simp [hx]
                    rw [this]
                    exact q2
                  · rw [lset_snd]
                    have : (es'.modify j fun e => { e with key := k', val := v' }).toList.map (·.val) = (es'.toList.map (·.val)).set j v' := by
                      apply List.ext_getElem?
                      intro x
                      rw [List.getElem?_map, Array.toList_modify, List.getElem?_modify, List.getElem?_set]
                      by_cases hx : j = x
                      · subst hx
                        have : j < es'.size := (Array.getElem?_eq_some_iff.1 f4').1
                        simp [f4', this]
                      · simp [hx]
                    rw [this]
                    exact q3.set j hv
            · rename_i hf
              rw [fL_eq, fN_eq] at h'
              obtain ⟨_, e2, _⟩ := X.wrt_some h'
              rcases hkey.find es es'.toList _ w q2 q3 hf with ⟨_, f2⟩ | ⟨j2, a, a', e, f1, _⟩
              · refine ⟨ρ, { w with heap := w.heap.setIfInBounds L.blk (.map (es'.push { key := k', val := v', born := clk }) (clk + 1)) }, ?_, Ren.le_refl _, ?_⟩
                · simp [Instr.mapUpdate, run_underlying hd, MapKept.run_getObj_map q1, hkey.check, f2, MapKept.run_setObj_map _ q1]
                · rw [e2, g3]
                  refine r.upd hN g2 rfl rfl hL _ _ ⟨es'.push { key := k', val := v', born := clk }, by simp [hlt], ?_, ?_⟩
                  · simp only [List.map_append, Array.toList_push]
                    exact q2.append (.cons hk .nil)
                  · simp only [List.map_append, Array.toList_push]
                    exact q3.append (.cons hv .nil)
              · cases f1
            · cases h'

def xlookup (P : Program) (t : TypeId) (m k : Value) (ok : Bool) : X Value := match P.underlying t, m with
  | some (.map kt et), .map (some i) => match P.underlying kt, P.info? et with
    | some d, some I => match kfindK P kt d k, I.zero with
      | some f, some z => (X.rd i).bind fun
        | .map es _ => match f es with
          | some (some (_, v)) => match ok with
            | true => X.pure (.tuple ⟨[v, .bool true]⟩)
            | false => X.pure v
          | some none => match plainL (cellsOf z), ok with
            | true, true => X.pure (.tuple ⟨[z, .bool false]⟩)
            | true, false => X.pure z
            | _, _ => X.fail
          | none => X.fail
        | _ => X.fail
      | _, _ => X.fail
    | _, _ => X.fail
  | _, _ => X.fail
theorem xlookup_ok {t : TypeId} {m m' k k' v : Value} {ok : Bool} {s s' : St} (r : Rel N0 b0 w0 ρ s.h w) (hm : VRel ρ m m') (hk : VRel ρ k k') (h : (xlookup P t m k ok).run s = some (v, s')) :
    Good N0 b0 w0 ρ s' v ((Instr.lookup t m' k' ok).run P w) := by
  unfold xlookup at h
  split at h
  case h_2 => cases h
  case h_1 kt et i hd =>
    split at h
    case h_2 => cases h
    case h_1 d I hdk hI =>
      split at h
      case h_2 => cases h
      case h_1 f z hb hz =>
        obtain ⟨rfl, hkey⟩ := kfindK_ok hdk hb hk
        obtain ⟨o, s1, g1, h'⟩ := X.bind_some h
        clear h
        obtain ⟨g2, g3, _⟩ := X.rd_some g1
        cases hm with
        | map hL =>
          rename_i L
          obtain ⟨L2, u, hlive⟩ := r.obj i o g2
          rw [hL] at u
          cases u
          split at h'
          case h_2 => cases h'
          case h_1 es clk =>
            obtain ⟨es', q1, q2, q3⟩ := id hlive
            split at h'
            · rename_i j u hf
              rcases hkey.find es es'.toList _ w q2 q3 hf with ⟨f1, _⟩ | ⟨j2, a, a', e, f1, f2, f3, f4, f5, f6⟩
              · cases f1
              · cases f1
                split at h'
                · obtain ⟨rfl, rfl⟩ := X.pure_some h'
                  refine ⟨ρ, w, .tuple #[a', .bool true], ?_, Ren.le_refl _, g3 ▸ r, .tuple (.cons f2 (.cons (.bool _) .nil))⟩
                  simp [Instr.lookup, run_underlying hd, MapKept.run_getObj_map q1, hkey.check, f3]
                · obtain ⟨rfl, rfl⟩ := X.pure_some h'
                  refine ⟨ρ, w, a', ?_, Ren.le_refl _, g3 ▸ r, f2⟩
                  simp [Instr.lookup, run_underlying hd, MapKept.run_getObj_map q1, hkey.check, f3]
            · rename_i hf
              rcases hkey.find es es'.toList _ w q2 q3 hf with ⟨_, f2⟩ | ⟨j2, a, a', e, f1, _⟩
              · split at h'
                · rename_i hp
                  obtain ⟨rfl, rfl⟩ := X.pure_some h'
                  refine ⟨ρ, w, .tuple #[z, .bool false], ?_, Ren.le_refl _, g3 ▸ r, .tuple (.cons (VRel.ofCells hp) (.cons (.bool _) .nil))⟩
                  simp [Instr.lookup, run_underlying hd, MapKept.run_getObj_map q1, hkey.check, f2, run_zeroValue' hI hz]
                · rename_i hp
                  obtain ⟨rfl, rfl⟩ := X.pure_some h'
                  refine ⟨ρ, w, v, ?_, Ren.le_refl _, g3 ▸ r, VRel.ofCells hp⟩
                  simp [Instr.lookup, run_underlying hd, MapKept.run_getObj_map q1, hkey.check, f2, run_zeroValue' hI hz]
                · cases h'
              · cases f1
            · cases h'
end
end Go.Rx

namespace Go.Rx
set_option linter.unusedVariables false
set_option linter.unusedSimpArgs false
noncomputable section
variable {P : Program} {N0 b0 : Nat} {w0 : World} {ρ : Ren} {w : World}

def evs (ev : Env) : List Operand → Option (List Value)
  | [] => some []
  | x :: l => match ev x, evs ev l with
    | some v, some l => some (v :: l)
    | _, _ => none
def evp (ev : Env) : List (Nat × Operand) → Option (List (Nat × Value))
  | [] => some []
  | (i, x) :: l => match ev x, evp ev l with
    | some v, some l => some ((i, v) :: l)
    | _, _ => none
def evo (ev : Env) : Option Operand → Option (Option Value)
  | none => some none
  | some x => match ev x with
    | some v => some (some v)
    | none => none
def ERel (ρ : Ren) (ev : Env) (e' : Operand → Value) (l : List Operand) : Prop := ∀ x ∈ l, ∀ v, ev x = some v → VRel ρ v (e' x)
theorem evs_rel {ev : Env} {e' : Operand → Value} : ∀ {l : List Operand} {vs : List Value}, ERel ρ ev e' l → evs ev l = some vs → VRels ρ vs (l.map e')
  | [], _, _, h => by cases h; exact .nil
  | x :: l, vs, hr, h => by
    unfold evs at h
    split at h
    · rename_i v vs' h1 h2
      cases h
      exact .cons (hr x (by simp) v h1) (evs_rel (fun y hy => hr y (by simp [hy])) h2)
    · cases h
theorem evp_rel {ev : Env} {e' : Operand → Value} : ∀ {l : List (Nat × Operand)} {vs : List (Nat × Value)}, ERel ρ ev e' (l.map (·.2)) → evp ev l = some vs → Parts ρ vs (l.map fun (i, x) => (i, e' x))
  | [], _, _, h => by cases h; exact .nil
  | (i, x) :: l, vs, hr, h => by
    unfold evp at h
    split at h
    · rename_i v vs' h1 h2
      cases h
      exact .cons i (hr x (by simp) v h1) (evp_rel (fun y hy => hr y (by simp [hy])) h2)
    · cases h
theorem evo_rel {ev : Env} {e' : Operand → Value} {x : Option Operand} {v : Option Value} (hr : ERel ρ ev e' x.toList) (h : evo ev x = some v) : ORel ρ v (x.map e') := by
  cases x with
  | none => cases h; exact .inl ⟨rfl, rfl⟩
  | some x =>
    unfold evo at h
    dsimp only at h
    split at h
    · rename_i u h1
      cases h
      exact .inr ⟨u, e' x, rfl, rfl, hr x (by simp) u h1⟩
    · cases h

def isPtr : Value → Bool
  | .pointer (some _) | .slice (some _) _ _ | .map (some _) | .iface .. | .func (.func _) .. => true
  | _ => false
theorem isPtr_ok {v v' : Value} (h : VRel ρ v v') (hp : isPtr v = true) : isPtr v' = true := by
  cases h <;> first | rfl | (rename_i f _ _ _ _ _ _; cases f <;> first | rfl | cases hp) | exact hp

def xlen (P : Program) (t : TypeId) (x : Value) : X Value := match P.underlying t, x with
  | some .string, .string s => fN s.data.toList.length fun n => X.pure (.int .i64 (.ofNat n))
  | some (.slice _), .slice _ n _ => X.pure (.int .i64 (.ofNat n))
  | some (.array n _), .agg _ => X.pure (.int .i64 (.ofNat n))
  | some (.map _ _), .map (some i) => (X.rd i).bind fun
    | .map es _ => fN es.length fun n => X.pure (.int .i64 (.ofNat n))
    | _ => X.fail
  | _, _ => X.fail
theorem xlen_ok {t ty : TypeId} {x x' v : Value} {s s' : St} (r : Rel N0 b0 w0 ρ s.h w) (hx : VRel ρ x x') (h : (xlen P t x).run s = some (v, s')) : Good N0 b0 w0 ρ s' v ((Builtin.len_ #[t] ty #[x']).run P w) := by
  unfold xlen at h
  split at h
  · rename_i s1 hd
    rw [fN_eq] at h
    obtain ⟨rfl, rfl⟩ := X.pure_some h
    cases hx
    have : s1.data.toList.length = s1.size := Array.length_toList
    rw [this]
    refine ⟨ρ, w, .int .i64 s1.size, ?_, Ren.le_refl _, r, .int ..⟩
    simp [Builtin.len_, run_underlying hd, goInt]
  · rename_i hd
    obtain ⟨rfl, rfl⟩ := X.pure_some h
    cases hx <;> refine ⟨ρ, w, _, ?_, Ren.le_refl _, r, .int ..⟩ <;> simp [Builtin.len_, run_underlying hd, goInt]
  · rename_i hd
    obtain ⟨rfl, rfl⟩ := X.pure_some h
    refine ⟨ρ, w, _, ?_, Ren.le_refl _, r, .int ..⟩
    simp [Builtin.len_, run_underlying hd, goInt]
  · rename_i i hd
    obtain ⟨o, s1, g1, h'⟩ := X.bind_some h
    obtain ⟨g2, g3, _⟩ := X.rd_some g1
    cases hx with
    | map hL =>
      rename_i L
      obtain ⟨L2, u, hlive⟩ := r.obj i o g2
      rw [hL] at u
      cases u
      split at h'
      case h_2 => cases h'
      case h_1 es clk =>
        rw [fN_eq] at h'
        obtain ⟨rfl, rfl⟩ := X.pure_some h'
        obtain ⟨es', q1, q2, q3⟩ := hlive
        refine ⟨ρ, w, .int .i64 (es.length : Nat), ?_, Ren.le_refl _, g3 ▸ r, .int ..⟩
        have := q2.length
        simp at this
        simp [Builtin.len_, run_underlying hd, goInt, MapKept.run_getObj_map q1, this]
  · cases h
def xcap (P : Program) (t : TypeId) (x : Value) : X Value := match P.underlying t, x with
  | some (.slice _), .slice none 0 0 => X.pure (.int .i64 (.ofNat 0))
  | some (.slice _), .slice (some ⟨i, off, none⟩) _ n => (X.rdc i off 0).bind fun p => match p with
    | (_, _, _, _, none) => X.pure (.int .i64 (.ofNat n))
    | _ => X.fail
  | _, _ => X.fail
theorem xcap_ok {t ty : TypeId} {x x' v : Value} {s s' : St} (r : Rel N0 b0 w0 ρ s.h w) (hx : VRel ρ x x') (h : (xcap P t x).run s = some (v, s')) : Good N0 b0 w0 ρ s' v ((Builtin.cap_ #[t] ty #[x']).run P w) := by
  unfold xcap at h
  split at h
  · rename_i hd
    obtain ⟨rfl, rfl⟩ := X.pure_some h
    cases hx
    refine ⟨ρ, w, _, ?_, Ren.le_refl _, r, .int ..⟩
    simp [Builtin.cap_, run_underlying hd, goInt]
  · rename_i i off ln n hd
    obtain ⟨⟨l0, tt, f0, f1, lo⟩, s1, g1, h'⟩ := X.bind_some h
    obtain ⟨cc, g2, _, _, g3, _⟩ := X.rdc_some g1
    cases hx with
    | slice _ _ hL hok =>
      rename_i L cap'
      obtain ⟨L2, u, hlive⟩ := r.obj i _ g2
      rw [hL] at u
      cases u
      split at h'
      case h_2 => cases h'
      case h_1 heq =>
        cases heq
        obtain ⟨rfl, rfl⟩ := X.pure_some h'
        have : cap' = n := by
          rcases hok with e | ⟨k, e, _⟩
          · exact e
          · rw [hlive.1] at e; cases e
        subst this
        refine ⟨ρ, w, _, ?_, Ren.le_refl _, g3 ▸ r, .int ..⟩
        simp [Builtin.cap_, run_underlying hd, goInt]
  · cases h

def xmm (b : Builtin) (l : List Value) : Option Value := match b, l with
  | .min, [.int k a, .int k' c] => match kEq k k' with
    | true => match ltI c a with
      | true => some (.int k c)
      | false => some (.int k a)
    | false => none
  | .max, [.int k a, .int k' c] => match kEq k k' with
    | true => match ltI a c with
      | true => some (.int k c)
      | false => some (.int k a)
    | false => none
  | _, _ => none

/-- A comparison with nil. -/
def xnil (P : Program) (op : BinOp) (t : TypeId) (y : Operand) (a b : Value) : X Value := match P.underlying t, isConst y with
  | some d, true => match op with
    | .eql => match nilAs d a b with
      | some r => fB r fun r => X.pure (.bool r)
      | none => X.fail
    | .neq => match nilAs d a b with
      | some r => fB (!r) fun r => X.pure (.bool r)
      | none => X.fail
    | _ => X.fail
  | _, _ => X.fail
theorem xnil_ok {op : BinOp} {t : TypeId} {x y : Operand} {a a' b b' v : Value} {s s' : St} (r : Rel N0 b0 w0 ρ s.h w) (ra : VRel ρ a a') (rb : VRel ρ b b') (h : (xnil P op t y a b).run s = some (v, s')) :
    Good N0 b0 w0 ρ s' v ((do eqGuard op t x y a' b'; binOp op t a' b' : Sem Value).run P w) := by
  unfold xnil at h
  split at h
  case h_2 => cases h
  case h_1 d hd hcy =>
    split at h
    · split at h
      · rename_i rr hq
        rw [fB_eq] at h
        obtain ⟨rfl, rfl⟩ := X.pure_some h
        have := nilAs_ok (w := w) hd ra rb hq .eql (.inl rfl) x y hcy
        rw [this]
        exact Good.same r (.bool _)
      · cases h
    · split at h
      · rename_i rr hq
        rw [fB_eq] at h
        obtain ⟨rfl, rfl⟩ := X.pure_some h
        have := nilAs_ok (w := w) hd ra rb hq .neq (.inr rfl) x y hcy
        rw [this]
        exact Good.same r (.bool _)
      · cases h
    · cases h
def recvOk (d : TypeDesc) (pr : Bool) : Bool := match d with
  | .pointer _ => pr
  | _ => !pr
/-- The method of a value that an interface holds, where it is the value's own and takes it as it is. -/
def xmeth (P : Program) (t : TypeId) (name : String) : Option FuncId := match P.info? t, P.underlying t with
  | some I, some d => match I.methods.find? (·.name == name) with
    | some m => match m.path.toList, m.func with
      | [], some (f, pr) => match recvOk d pr with
        | true => some f
        | false => none
      | _, _ => none
    | none => none
  | _, _ => none
theorem xmeth_ok {t : TypeId} {name : String} {g : FuncId} (h : xmeth P t name = some g) (v : Value) (args : Array Value) (w : World) : (callMethod (.iface t v) name args).run P w = (callFunc g (#[v] ++ args)).run P w := by
  unfold xmeth at h
  split at h
  case h_2 => cases h
  case h_1 I d hI hd =>
    split at h
    case h_2 => cases h
    case h_1 m hm =>
      split at h
      case h_2 => cases h
      case h_1 f pr hp hf =>
        split at h
        case h_2 => cases h
        case h_1 hok =>
          cases h
          have hp' : m.path = #[] := Array.toList_eq_nil_iff.1 hp
          have hti : (typeInfo t).run P w = .ok I w := by simp [typeInfo, hI]
          have hrec : ∀ wr, (receiverAt t (.val v) pr wr).run P w = .ok v w := by
            intro wr
            unfold receiverAt
            simp only [Sem.run_bind, run_underlying hd, Result.andThen_ok]
            cases d <;> first
              | (have h1 : pr = true := hok; subst h1; simp [Place.get]; done)
              | (have h1 : pr = false := by simpa [recvOk] using hok
                 subst h1; simp [Place.get]; done)
          simp only [callMethod, Sem.run_bind, run_program, Result.andThen_ok, Sem.run_pure]
          rw [show P.types.size + Made.depth = (P.types.size + Made.depth - 1) + 1 from by have : 0 < Made.depth := by decide
                                                                                           omega]
          unfold method
          simp only [Sem.run_bind, hti, Result.andThen_ok, hm, hp', follow, Sem.run_pure, hf, hrec]
def ptrD : Option TypeDesc → Bool
  | some (.pointer _) => true
  | _ => false
/-- A method of a value that an interface holds, taken as a function: it is no nil pointer's. -/
def isMethV (P : Program) : Value → Bool
  | .func (.method name) ⟨.iface t _ :: _⟩ _ => (xmeth P t name).isSome && ptrD (P.underlying t)
  | _ => false
theorem nilAhead_ok {t : TypeId} {name : String} {g : FuncId} (h : xmeth P t name = some g) (hd0 : ptrD (P.underlying t) = true) (v : Value) (w : World) : (nilAhead (P.types.size + Made.depth) t v name).run P w = .ok (some false) w := by
  unfold xmeth at h
  split at h
  case h_2 => cases h
  case h_1 I d hI hd =>
    split at h
    case h_2 => cases h
    case h_1 m hm =>
      split at h
      case h_2 => cases h
      case h_1 f pr hp hf =>
        split at h
        case h_2 => cases h
        case h_1 hok =>
          cases h
          have hp' : m.path = #[] := Array.toList_eq_nil_iff.1 hp
          have hti : (typeInfo t).run P w = .ok I w := by simp [typeInfo, hI]
          rw [show P.types.size + Made.depth = (P.types.size + Made.depth - 1) + 1 from by have : 0 < Made.depth := by decide
                                                                                           omega]
          unfold nilAhead
          simp only [Sem.run_bind, hti, Result.andThen_ok, hm, hp', followBlind, Sem.run_pure, hf]
          cases pr with
          | true => rfl
          | false =>
            rw [hd] at hd0
            cases d <;> first | (cases hd0; done) | (cases hok; done)
theorem isMethV_ok {x x' : Value} (hx : VRel ρ x x') (h : isMethV P x = true) {dst : Option Tmp} {o : Operand} {e' : Operand → Value} (he : e' o = x') {ty : TypeId} {pos : String} {after : Array Edge} {guard : Option (Nat × Bool)} :
    (execOp e' { dst := dst, op := .nilCheck o, type := ty, pos := pos, after := after, guard := guard }).run P w = .ok (.value x') w := by
  unfold isMethV at h
  split at h
  case h_2 => cases h
  case h_1 name t u fs cs =>
    rw [Bool.and_eq_true] at h
    obtain ⟨g, hg⟩ := Option.isSome_iff_exists.1 h.1
    cases hx with
    | func _ ra rb =>
      rename_i a' b'
      obtain ⟨a'⟩ := a'
      cases ra with
      | cons h1 h2 =>
        cases h1 with
        | iface _ hu =>
          rename_i l' u'
          simp only [execOp, he]
          have e : (⟨.iface t u' :: l'⟩ : Array Value)[0]? = some (.iface t u') := by simp
          rw [e]
          simp only [Sem.run_bind, run_program, Result.andThen_ok, Sem.run_pure, nilAhead_ok hg h.2]
          rfl
/-- An operation that is no call of a function. -/
def xop (P : Program) (N0 : Nat) (ev : Env) (o : Oper) : X Value := match o.op with
  | .move x | .assign x => X.lift (ev x)
  | .pick c a b => match ev c with
    | some (.bool true) => X.lift (ev a)
    | some (.bool false) => X.lift (ev b)
    | _ => X.fail
  | .alloc t => xalloc P N0 t
  | .box t x => match ev x with
    | some v => xbox N0 t v
    | none => X.fail
  | .build t ps => match evp ev ps.toList with
    | some l => X.lift (xbuild P t l)
    | none => X.fail
  | .buildSlice t n ps => match evp ev ps.toList with
    | some l => xbuildSlice P N0 t n l
    | none => X.fail
  | .load t a => match ev a with
    | some v => xload P t v
    | none => X.fail
  | .store t a x => match ev a, ev x with
    | some v, some x => (xstore P N0 t v x).bind fun _ => X.pure undef
    | _, _ => X.fail
  | .nilCheck x => match ev x with
    | some v => match isPtr v || isMethV P v with
      | true => X.pure v
      | false => X.fail
    | none => X.fail
  | .binOp op t x y _ => match ev x, ev y with
    | some a, some b => match xbin op a b with
      | some v => X.pure v
      | none => match op, eqAs P t a b with
        | .eql, some r => fB r fun r => X.pure (.bool r)
        | .neq, some r => fB (!r) fun r => X.pure (.bool r)
        | op, _ => xnil P op t y a b
    | _, _ => X.fail
  | .unOp op _ x => match ev x with
    | some v => X.lift (xun op v)
    | none => X.fail
  | .convert a b x => match ev x with
    | some v => match xconv P a b v with
      | some u => X.pure u
      | none => xbytes P N0 a b v
    | none => X.fail
  | .makeInterface t x => match ev x, P.underlying t with
    | some v, some d => match d with
      | .interface _ => X.fail
      | _ => X.pure (.iface t v)
    | _, _ => X.fail
  | .makeFunc fn fs cs => match evs ev fs.toList, evs ev cs.toList with
    | some a, some b => X.pure (.func fn ⟨a⟩ ⟨b⟩)
    | _, _ => X.fail
  | .makeMap _ none => xmakeMap N0
  | .insert t m k x | .mapUpdate t m k x => match ev m, ev k, ev x with
    | some m, some k, some x => (xput P N0 t m k x).bind fun _ => X.pure undef
    | _, _, _ => X.fail
  | .lookup t m k ok => match ev m, ev k with
    | some m, some k => xlookup P t m k ok
    | _, _ => X.fail
  | .makeSlice t l c => match ev l, ev c with
    | some l, some c => xmakeSlice P N0 t l c
    | _, _ => X.fail
  | .slice t x lo hi mx => match ev x, evo ev lo, evo ev hi, evo ev mx with
    | some x, some lo, some hi, some mx => xslice P t x lo hi mx
    | _, _, _, _ => X.fail
  | .fieldAddr t x f => match ev x with
    | some v => X.lift (xfieldAddr P t v f)
    | none => X.fail
  | .field t x f => match ev x with
    | some v => X.lift (xfield P t v f)
    | none => X.fail
  | .indexAddr t x i => match ev x, ev i with
    | some x, some i => X.lift (xindexAddr P t x i)
    | _, _ => X.fail
  | .index t x i => match ev x, ev i with
    | some x, some i => X.lift (xindex P t x i)
    | _, _ => X.fail
  | .extract x i => match ev x with
    | some (.tuple vs) => X.lift vs.toList[i]?
    | _ => X.fail
  | .call ⟨.builtin b, args, ts⟩ => match evs ev args.toList, b, ts.toList with
    | some [x], .len, [t] => xlen P t x
    | some [x], .cap, [t] => xcap P t x
    | some [x, y], .append, [t, u] => xappend P N0 t u x y
    | some [x, y], .copy, [t, _] => xcopy P N0 t x y
    | some [x], .clear, [t] => xclear P N0 t x
    | some l, b, _ => X.lift (xmm b l)
    | _, _, _ => X.fail
  | _ => X.fail

def NRel (ρ : Ren) (v : Value) (n : Next) : Prop := (∃ v', n = .value v' ∧ VRel ρ v v') ∨ (n = .skip ∧ v = undef)
def GoodN (N0 b0 : Nat) (w0 : World) (ρ : Ren) (s' : St) (v : Value) (r : Result Next) : Prop :=
  ∃ ρ' w' n, r = .ok n w' ∧ ρ.le ρ' ∧ Rel N0 b0 w0 ρ' s'.h w' ∧ NRel ρ' v n
theorem Good.next {s' : St} {v : Value} {e : Sem Value} (h : Good N0 b0 w0 ρ s' v (e.run P w)) : GoodN N0 b0 w0 ρ s' v ((do pure (.value (← e)) : Sem Next).run P w) := by
  obtain ⟨ρ', w', v', e1, h1, h2, h3⟩ := h
  exact ⟨ρ', w', .value v', by simp [e1], h1, h2, .inl ⟨v', rfl, h3⟩⟩
theorem Good.next2 {s' : St} {v : Value} {e : Sem Value} (h : Good N0 b0 w0 ρ s' v (e.run P w)) : GoodN N0 b0 w0 ρ s' v ((e.run P w).andThen fun a w' => .ok (.value a) w') := by simpa using h.next
theorem xbin_guard {op : BinOp} {a b v : Value} (h : xbin op a b = some v) (t : TypeId) (x y : Operand) : (eqGuard op t x y a b).run P w = .ok () w := by
  unfold xbin at h
  split at h
  · cases op <;> rfl
  · cases op <;> rfl
  · cases h
theorem GoodU.next {s' : St} {e : Sem Unit} (h : GoodU N0 b0 w0 ρ s' (e.run P w)) : GoodN N0 b0 w0 ρ s' undef ((do e; pure .skip : Sem Next).run P w) := by
  obtain ⟨ρ', w', e1, h1, h2⟩ := h
  exact ⟨ρ', w', .skip, by simp [e1], h1, h2, .inr ⟨rfl, rfl⟩⟩
theorem GoodN.val {s : St} {v v' : Value} (r : Rel N0 b0 w0 ρ s.h w) (h : VRel ρ v v') : GoodN N0 b0 w0 ρ s v (.ok (.value v') w) := ⟨ρ, w, _, rfl, Ren.le_refl _, r, .inl ⟨v', rfl, h⟩⟩
theorem Good.of {s : St} {v : Value} {e : Sem Value} (r : Rel N0 b0 w0 ρ s.h w) (h : ∃ v', e.run P w = .ok v' w ∧ VRel ρ v v') : Good N0 b0 w0 ρ s v (e.run P w) := by
  obtain ⟨v', e1, h1⟩ := h
  rw [e1]
  exact Good.same r h1

set_option maxHeartbeats 4000000 in
theorem xop_ok {ev : Env} {e' : Operand → Value} {o : Oper} {v : Value} {s s' : St} (r : Rel N0 b0 w0 ρ s.h w) (he : ERel ρ ev e' o.op.operands.toList) (h : (xop P N0 ev o).run s = some (v, s')) :
    GoodN N0 b0 w0 ρ s' v ((execOp e' o).run P w) := by
  obtain ⟨dst, op, ty, pos, after, guard⟩ := o
  unfold xop at h
  dsimp only at h he
  have H : ∀ x, x ∈ op.operands.toList → ∀ v, ev x = some v → VRel ρ v (e' x) := he
  split at h
  · rename_i x
    obtain ⟨e1, rfl⟩ := X.lift_some h
    exact GoodN.val r (H x (by simp [Op.operands]) _ e1)
  · rename_i x
    obtain ⟨e1, rfl⟩ := X.lift_some h
    exact GoodN.val r (H x (by simp [Op.operands]) _ e1)
  · rename_i c a b
    split at h
    · rename_i hc
      obtain ⟨e1, rfl⟩ := X.lift_some h
      have hc' := H c (by simp [Op.operands]) _ hc
      generalize hq : e' c = q at hc'
      cases hc'
      simp [execOp, asBool, hq]
      exact GoodN.val r (H a (by simp [Op.operands]) _ e1)
    · rename_i hc
      obtain ⟨e1, rfl⟩ := X.lift_some h
      have hc' := H c (by simp [Op.operands]) _ hc
      generalize hq : e' c = q at hc'
      cases hc'
      simp [execOp, asBool, hq]
      exact GoodN.val r (H b (by simp [Op.operands]) _ e1)
    · cases h
  · exact (xalloc_ok r h).next
  · rename_i t x
    split at h
    case h_2 => cases h
    case h_1 u hu => exact (xbox_ok r (H x (by simp [Op.operands]) _ hu) h).next
  · rename_i t ps
    split at h
    case h_2 => cases h
    case h_1 l hl =>
      obtain ⟨e1, rfl⟩ := X.lift_some h
      refine (Good.of r (xbuild_ok (ps' := ps.map fun (i, x) => (i, e' x)) ?_ e1)).next
      rw [Array.toList_map]
      exact evp_rel (fun x hx => H x (by simpa [Op.operands] using hx)) hl
  · rename_i t n ps
    split at h
    case h_2 => cases h
    case h_1 l hl =>
      refine (xbuildSlice_ok (ps' := ps.map fun (i, x) => (i, e' x)) r ?_ h).next
      rw [Array.toList_map]
      exact evp_rel (fun x hx => H x (by simpa [Op.operands] using hx)) hl
  · rename_i t a
    split at h
    case h_2 => cases h
    case h_1 u hu => exact (xload_ok r (H a (by simp [Op.operands]) _ hu) h).next
  · rename_i t a x
    split at h
    case h_2 => cases h
    case h_1 u y hu hy =>
      obtain ⟨_, s1, h1, h'⟩ := X.bind_some h
      obtain ⟨rfl, rfl⟩ := X.pure_some h'
      exact (xstore_ok r (H a (by simp [Op.operands]) _ hu) (H x (by simp [Op.operands]) _ hy) h1).next
  · rename_i x
    split at h
    case h_2 => cases h
    case h_1 u hu =>
      split at h
      case h_2 => cases h
      case h_1 hp =>
        obtain ⟨rfl, rfl⟩ := X.pure_some h
        have hr := H x (by simp [Op.operands]) _ hu
        rw [Bool.or_eq_true] at hp
        rcases hp with hp | hp
        case inr =>
          rw [isMethV_ok hr hp rfl]
          exact GoodN.val r hr
        have hp' := isPtr_ok hr hp
        have : (execOp e' { dst := dst, op := .nilCheck x, type := ty, pos := pos, after := after, guard := guard }).run P w = .ok (.value (e' x)) w := by
          simp only [execOp]
          generalize e' x = q at *
          unfold isPtr at hp'
          split at hp' <;> first | rfl | cases hp'
        rw [this]
        exact GoodN.val r hr
  · rename_i bop t x y yt
    split at h
    case h_2 => cases h
    case h_1 a b ha hb =>
      have ra := H x (by simp [Op.operands]) _ ha
      have rb := H y (by simp [Op.operands]) _ hb
      split at h
      · rename_i u hu
        obtain ⟨rfl, rfl⟩ := X.pure_some h
        obtain ⟨p1, p2⟩ := xbin_plain ra rb hu
        have hrun := xbin_ok (P := P) hu t w
        refine Good.next (Good.of r ⟨v, ?_, xbin_rel hu⟩)
        rw [p1, p2]
        have hg := xbin_guard (P := P) (w := w) hu t x y
        simp only [Sem.run_bind, hg, Result.andThen_ok, hrun]
      · cases hqe : eqAs P t a b with
        | some rr =>
          rw [hqe] at h
          cases bop
          case eql =>
            dsimp only at h
            rw [fB_eq] at h
            obtain ⟨rfl, rfl⟩ := X.pure_some h
            have := eqAs_ok (w := w) ra rb hqe .eql (.inl rfl) x y
            exact Good.next (Good.of r ⟨_, by simpa using this, .bool _⟩)
          case neq =>
            dsimp only at h
            rw [fB_eq] at h
            obtain ⟨rfl, rfl⟩ := X.pure_some h
            have := eqAs_ok (w := w) ra rb hqe .neq (.inr rfl) x y
            exact Good.next (Good.of r ⟨_, by simpa using this, .bool _⟩)
          all_goals exact (xnil_ok r ra rb h).next
        | none =>
          rw [hqe] at h
          have h' : (xnil P bop t y a b).run s = some (v, s') := by cases bop <;> exact h
          exact (xnil_ok r ra rb h').next
  · rename_i uop t x
    split at h
    case h_2 => cases h
    case h_1 u hu =>
      obtain ⟨e1, rfl⟩ := X.lift_some h
      have rx := H x (by simp [Op.operands]) _ hu
      have p := xun_plain rx e1
      refine Good.next (Good.of r ⟨v, ?_, xun_rel e1⟩)
      rw [p]
      exact xun_ok e1
  · rename_i a b x
    split at h
    case h_2 => cases h
    case h_1 u hu =>
      split at h
      · rename_i u2 e1
        obtain ⟨rfl, rfl⟩ := X.pure_some h
        obtain ⟨p, q⟩ := xconv_ok (w := w) (H x (by simp [Op.operands]) _ hu) e1
        exact Good.next (Good.of r ⟨v, p, q⟩)
      · exact (xbytes_ok r (H x (by simp [Op.operands]) _ hu) h).next
  · rename_i t x
    split at h
    case h_2 => cases h
    case h_1 u d hu hd =>
      have rx := H x (by simp [Op.operands]) _ hu
      split at h
      · cases h
      · rename_i hni
        obtain ⟨rfl, rfl⟩ := X.pure_some h
        refine Good.next (Good.of r ⟨.iface t (e' x), ?_, .iface t rx⟩)
        simp only [Instr.makeInterface, Sem.run_bind, run_underlying hd, Result.andThen_ok]
        cases d <;> first | rfl | exact absurd rfl (hni _)
  · rename_i fn fs cs
    split at h
    case h_2 => cases h
    case h_1 a b ha hb =>
      obtain ⟨rfl, rfl⟩ := X.pure_some h
      refine Good.next (Good.of r ⟨_, rfl, .func fn ?_ ?_⟩)
      · rw [Array.toList_map]
        exact evs_rel (fun x hx => H x (by simp [Op.operands]; exact .inl (by simpa using hx))) ha
      · rw [Array.toList_map]
        exact evs_rel (fun x hx => H x (by simp [Op.operands]; exact .inr (by simpa using hx))) hb
  · exact (xmakeMap_ok r h).next
  · rename_i t m k x
    split at h
    case h_2 => cases h
    case h_1 a b c ha hb hc =>
      obtain ⟨_, s1, h1, h'⟩ := X.bind_some h
      obtain ⟨rfl, rfl⟩ := X.pure_some h'
      exact (xput_ok r (H m (by simp [Op.operands]) _ ha) (H k (by simp [Op.operands]) _ hb) (H x (by simp [Op.operands]) _ hc) h1).next
  · rename_i t m k x
    split at h
    case h_2 => cases h
    case h_1 a b c ha hb hc =>
      obtain ⟨_, s1, h1, h'⟩ := X.bind_some h
      obtain ⟨rfl, rfl⟩ := X.pure_some h'
      exact (xput_ok r (H m (by simp [Op.operands]) _ ha) (H k (by simp [Op.operands]) _ hb) (H x (by simp [Op.operands]) _ hc) h1).next
  · rename_i t m k ok
    split at h
    case h_2 => cases h
    case h_1 a b ha hb => exact (xlookup_ok r (H m (by simp [Op.operands]) _ ha) (H k (by simp [Op.operands]) _ hb) h).next
  · rename_i t m k
    split at h
    case h_2 => cases h
    case h_1 a b ha hb => exact (xmakeSlice_ok r (H m (by simp [Op.operands]) _ ha) (H k (by simp [Op.operands]) _ hb) h).next
  · rename_i t x lo hi mx
    split at h
    case h_2 => cases h
    case h_1 a b c d ha hb hc hd =>
      refine (xslice_ok r (H x (by simp [Op.operands]) _ ha) (evo_rel (fun y hy => H y ?_) hb) (evo_rel (fun y hy => H y ?_) hc) (evo_rel (fun y hy => H y ?_) hd) h).next
      all_goals (simp only [Option.mem_toList] at hy; simp [Op.operands, hy])
  · rename_i t x f
    split at h
    case h_2 => cases h
    case h_1 u hu =>
      obtain ⟨e1, rfl⟩ := X.lift_some h
      exact Good.next (Good.of r (xfieldAddr_ok (H x (by simp [Op.operands]) _ hu) e1))
  · rename_i t x f
    split at h
    case h_2 => cases h
    case h_1 u hu =>
      obtain ⟨e1, rfl⟩ := X.lift_some h
      exact Good.next (Good.of r (xfield_ok (H x (by simp [Op.operands]) _ hu) e1))
  · rename_i t x i
    split at h
    case h_2 => cases h
    case h_1 a b ha hb =>
      obtain ⟨e1, rfl⟩ := X.lift_some h
      exact Good.next (Good.of r (xindexAddr_ok (H x (by simp [Op.operands]) _ ha) (H i (by simp [Op.operands]) _ hb) e1))
  · rename_i t x i
    split at h
    case h_2 => cases h
    case h_1 a b ha hb =>
      obtain ⟨e1, rfl⟩ := X.lift_some h
      exact Good.next (Good.of r (xindex_ok (H x (by simp [Op.operands]) _ ha) (H i (by simp [Op.operands]) _ hb) e1))
  · rename_i x i
    split at h
    case h_2 => cases h
    case h_1 vs hu =>
      obtain ⟨e1, rfl⟩ := X.lift_some h
      have rx := H x (by simp [Op.operands]) _ hu
      generalize hq : e' x = q at rx
      cases rx with
      | tuple hr =>
        rename_i vs'
        obtain ⟨v', e2, hv⟩ := hr.get e1
        refine Good.next (Good.of r ⟨v', ?_, hv⟩)
        have : vs'[i]? = some v' := by simpa using e2
        simp [hq, Instr.extract, this]
  · rename_i b args ts
    have hargs : ∀ l, evs ev args.toList = some l → VRels ρ l (args.map e').toList := fun l hl => by
      rw [Array.toList_map]
      exact evs_rel (fun x hx => H x (by simp [Op.operands, Call.operands]; simpa using hx)) hl
    have hts : ∀ l, ts.toList = l → ts = ⟨l⟩ := fun l hl => by rw [← hl]
    split at h
    · rename_i x t hx ht
      have hr := hargs _ hx
      rw [hts _ ht]
      generalize hA : args.map e' = A at hr
      obtain ⟨A⟩ := A
      cases hr with
      | cons r1 r2 => cases r2; simp only [execOp, resolve, hA, Sem.run_bind, Sem.run_pure, Result.andThen_ok, invoke, builtin]; exact (xlen_ok r r1 h).next2
    · rename_i x t hx ht
      have hr := hargs _ hx
      rw [hts _ ht]
      generalize hA : args.map e' = A at hr
      obtain ⟨A⟩ := A
      cases hr with
      | cons r1 r2 => cases r2; simp only [execOp, resolve, hA, Sem.run_bind, Sem.run_pure, Result.andThen_ok, invoke, builtin]; exact (xcap_ok r r1 h).next2
    · rename_i x y t u hx ht
      have hr := hargs _ hx
      rw [hts _ ht]
      generalize hA : args.map e' = A at hr
      obtain ⟨A⟩ := A
      cases hr with
      | cons r1 r2 => cases r2 with
        | cons r2 r3 => cases r3; simp only [execOp, resolve, hA, Sem.run_bind, Sem.run_pure, Result.andThen_ok, invoke, builtin]; exact (xappend_ok r r1 r2 h).next2
    · rename_i x y t u hx ht
      have hr := hargs _ hx
      rw [hts _ ht]
      generalize hA : args.map e' = A at hr
      obtain ⟨A⟩ := A
      cases hr with
      | cons r1 r2 => cases r2 with
        | cons r2 r3 => cases r3; simp only [execOp, resolve, hA, Sem.run_bind, Sem.run_pure, Result.andThen_ok, invoke, builtin]; exact (xcopy_ok r r1 r2 h).next2
    · rename_i x t hx ht
      have hr := hargs _ hx
      rw [hts _ ht]
      generalize hA : args.map e' = A at hr
      obtain ⟨A⟩ := A
      cases hr with
      | cons r1 r2 => cases r2; simp only [execOp, resolve, hA, Sem.run_bind, Sem.run_pure, Result.andThen_ok, invoke, builtin]; exact (xclear_ok r r1 h).next2
    · rename_i l b' _ hx _ _ _ _ _
      obtain ⟨e1, rfl⟩ := X.lift_some h
      have hr := hargs _ hx
      generalize hA : args.map e' = A at hr
      obtain ⟨A⟩ := A
      unfold xmm at e1
      split at e1
      · rename_i k a k' c
        split at e1
        case h_2 => cases e1
        case h_1 hk =>
          have hk := kEq_eq hk
          subst hk
          cases hr with
          | cons r1 r2 => cases r2 with
            | cons r2 r3 =>
              cases r3; cases r1; cases r2
              simp only [execOp, resolve, hA, Sem.run_bind, Sem.run_pure, Result.andThen_ok, invoke, builtin]
              split at e1
              · rename_i hlt
                rw [ltI_eq, decide_eq_true_eq] at hlt
                cases e1
                exact Good.next2 (Good.of r ⟨_, by simp [Builtin.min_, Builtin.min2, hlt], .int ..⟩)
              · rename_i hlt
                rw [ltI_eq, decide_eq_false_iff_not] at hlt
                cases e1
                exact Good.next2 (Good.of r ⟨_, by simp [Builtin.min_, Builtin.min2, hlt], .int ..⟩)
      · rename_i k a k' c
        split at e1
        case h_2 => cases e1
        case h_1 hk =>
          have hk := kEq_eq hk
          subst hk
          cases hr with
          | cons r1 r2 => cases r2 with
            | cons r2 r3 =>
              cases r3; cases r1; cases r2
              simp only [execOp, resolve, hA, Sem.run_bind, Sem.run_pure, Result.andThen_ok, invoke, builtin]
              split at e1
              · rename_i hlt
                rw [ltI_eq, decide_eq_true_eq] at hlt
                cases e1
                exact Good.next2 (Good.of r ⟨_, by simp [Builtin.max_, Builtin.max2, hlt], .int ..⟩)
              · rename_i hlt
                rw [ltI_eq, decide_eq_false_iff_not] at hlt
                cases e1
                exact Good.next2 (Good.of r ⟨_, by simp [Builtin.max_, Builtin.max2, hlt], .int ..⟩)
      · cases e1
    · cases h
  · cases h
end
end Go.Rx
