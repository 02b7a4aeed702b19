/- Arguments of the laws: rows, and two answers. -/
import Derived.Test.YtgemihkcihigpaaGreatDoorZB35
import Derived.Test.YtgemihkcihigpaaGreatDoorZD5
set_option linter.unusedVariables false
set_option linter.unusedSimpArgs false
namespace Go.Proofs.YtgemihkcihigpaaGreatDoor
section
open Go.ChangeShapes Go.WideShapes Go.ChangeAt Go.RowKit
theorem weightsAll_mem {H : Type} {P : Program} {e : TypeId} : ∀ {l : List (DataW H)} {d : DataW H}, d ∈ l -> ∀ n ∈ d.weights P e, n ∈ DataW.weightsAll P e l
 | x :: l, d, h, n, hn => by
  simp only [DataW.weightsAll, List.mem_append]
  rcases List.mem_cons.1 h with rfl | h
  · exact Or.inl hn
  · exact Or.inr (weightsAll_mem h n hn)
set_option maxRecDepth 100000 in
theorem val_of_trod {H : Type} {enc : TypeId × Value -> H} {w : World} {fuel : Nat} {cs : List Value} {y : DataW H × List MemPlace} (hf : DataW.trod enc Tryz.prog w 0 (fun _ => true) true fuel 55 cs = some y) (hl : cs.length = 3) (hw : ∀ n ∈ y.1.weights Tryz.prog 55, n <= reachBytes) :
 ∃ v : Val, cs = valEnc v /\ v.s.size <= 140737488355328 := by
 have c1 : Tryz.prog.cellsOf 3 = 1 := by kernel_rfl
 have c2 : Tryz.prog.cellsOf 2 = 1 := by kernel_rfl
 have c3 : Tryz.prog.cellsOf 9 = 1 := by kernel_rfl
 match cs, hl with
 | [e0, e1, e2], _ =>
  obtain ⟨xs, n, _, hx, _, hxl, hfs⟩ := DataW.trod_struct Tryz.underlying55 hf
  match xs, hxl with
  | [x0, x1, x2], _ =>
   have h0 := hfs 0 _ rfl
   have h1 := hfs 1 _ rfl
   have h2 := hfs 2 _ rfl
   simp [c1, c2, c3] at h0 h1 h2
   have hdd := congrArg Prod.fst hx
   simp only at hdd
   obtain ⟨y0, q0, _, _⟩ := DataW.trod_int Tryz.underlying3 h0
   obtain ⟨y1, q1, _, _⟩ := DataW.trod_int Tryz.underlying2 h1
   obtain ⟨y2, q2, hy2, _⟩ := DataW.trod_string Tryz.underlying9 h2
   simp at q0 q1 q2
   subst q0 q1 q2
   refine ⟨⟨y0, y1, y2⟩, rfl, ?_⟩
   have := hw y2.data.toList.length (by
    rw [hdd]
    simp only [DataW.weights, Tryz.underlying55, List.map_cons, List.map_nil, DataW.weightsEach, List.mem_append]
    exact Or.inr (Or.inr (Or.inl (by rw [hy2]; simp [DataW.weights]))))
   have e : y2.data.toList.length = y2.size := by rw [Array.length_toList]; rfl
   rw [e] at this
   have hr : reachBytes = 140737488351232 := rfl
   show y2.size <= _
   omega
theorem slice_form {H : Type} {enc : TypeId × Value -> H} {w : World} {fuel : Nat} {c : Value} {t e : TypeId} {y : DataW H × List MemPlace} (hu : Tryz.prog.underlying t = some (.slice e)) (hf : DataW.trod enc Tryz.prog w 0 (fun _ => true) true fuel t [c] = some y) : ∃ a0 len cap, c = .slice a0 len cap := by
 rcases DataW.trod_slice hu hf with ⟨h, _⟩ | ⟨a, len, cap, _, _, _, _, h, _⟩
 · exact ⟨_, _, _, by simpa using h⟩
 · exact ⟨_, _, _, by simpa using h⟩
set_option maxRecDepth 100000 in
theorem open_sl {H : Type} {enc : TypeId × Value -> H} {w : World} {fuel : Nat} {c : Value} {t e : TypeId} {sz bytes : Nat} {y : DataW H × List MemPlace} (hu : Tryz.prog.underlying t = some (.slice e)) (hc : Tryz.prog.cellsOf e = sz) (hpos : 0 < sz) (hby : Tryz.prog.bytesOf e = bytes) (hbp : 0 < bytes)
 (hf : DataW.trod enc Tryz.prog w 0 (fun _ => true) true fuel t [c] = some y) (hw : ∀ n ∈ y.1.weights Tryz.prog t, n <= reachBytes) :
 ∃ a n cap, c = .slice a n cap /\ n <= cap /\ n <= 140737488355328 /\ (n = 0 \/ ∃ b off, a = some ⟨b, off, none⟩ /\ ∀ i, i < n -> ∃ cs m z, cs.length = sz /\ (∀ j, j < sz -> w.cell? ⟨b, off + i * sz + j, none⟩ = cs[j]?) /\ DataW.trod enc Tryz.prog w 0 (fun _ => true) true m e cs = some z /\ ∀ k ∈ z.1.weights Tryz.prog e, k <= reachBytes) := by
 obtain ⟨a0, len, cap, rfl⟩ := slice_form hu hf
 rcases Go.Deep.open_slice hu hf with ⟨hcs, hx⟩ | ⟨a, len', cap', m, n, D, Pl, hcs, hb, hl, hm, hmm, hx, hel⟩
 · simp at hcs
   obtain ⟨rfl, rfl, rfl⟩ := hcs
   exact ⟨none, 0, 0, rfl, Nat.le_refl _, by omega, Or.inl rfl⟩
 · simp at hcs
   obtain ⟨rfl, rfl, rfl⟩ := hcs
   have hdd := congrArg Prod.fst hx
   simp only at hdd
   have hmc : m = cap := by simpa using hmm
   have hrb : reachBytes = 140737488351232 := rfl
   have hbig := hw ((len + (m - len)) * bytes) (by
    rw [hdd]
    simp [DataW.weights, hu, hby])
   have hle : len <= (len + (m - len)) * bytes := Nat.le_trans (Nat.le_add_right _ _) (Nat.le_mul_of_pos_right _ hbp)
   refine ⟨some a, len, cap, rfl, hl, by omega, ?_⟩
   rcases Nat.eq_zero_or_pos len with h0 | h0
   · exact Or.inl h0
   right
   obtain ⟨b, off, spot⟩ := a
   have hcell : ∀ i, i < len -> ∃ cs, cs.length = sz /\ (∀ j, j < sz -> w.cell? ((((⟨b, off, spot⟩ : Addr).add (i * sz)).add j)) = cs[j]?) /\ (∀ j, j < sz -> cs[j]? ≠ none) /\ DataW.trod enc Tryz.prog w 0 (fun _ => true) true n e cs = some (D i, Pl i) := by
    intro i hi
    obtain ⟨cs, h1, h2⟩ := hel i (by omega)
    rw [hc] at h1
    obtain ⟨_, h3, h4⟩ := World.cells?_some h1
    refine ⟨cs, h3, fun j hj => h4 j hj, fun j hj => ?_, h2⟩
    rw [List.getElem?_eq_getElem (by omega)]
    simp
   have hspot : spot = none := by
    obtain ⟨cs, h1, h2, h3, _⟩ := hcell 0 h0
    have h4 := h2 0 hpos
    have h5 := h3 0 hpos
    cases hv0 : cs[0]? with
    | none => exact absurd hv0 h5
    | some v0 =>
     rw [hv0] at h4
     simpa [Addr.add] using World.cell?_spot h4
   subst hspot
   refine ⟨b, off, rfl, fun i hi => ?_⟩
   obtain ⟨cs, h1, h2, _, h4⟩ := hcell i hi
   refine ⟨cs, n, _, h1, fun j hj => ?_, h4, fun k hk => hw k ?_⟩
   · rw [<- h2 j hj]
     congr 1
     have e1 : (⟨b, off, none⟩ : Addr).add (i * sz) = ⟨b, off + i * sz, none⟩ := by unfold Addr.add; split <;> simp_all
     have e2 : (⟨b, off + i * sz, none⟩ : Addr).add j = ⟨b, off + i * sz + j, none⟩ := by unfold Addr.add; split <;> simp_all
     rw [e1, e2]
   · rw [hdd]
     simp only [DataW.weights, hu, List.mem_cons, List.mem_append]
     exact Or.inr (Or.inl (weightsAll_mem (List.mem_map.2 ⟨i, List.mem_range.2 hi, rfl⟩) _ hk))
theorem sl_of {α : Type} [Inhabited α] {R : Rep α} {H : Type} {enc : TypeId × Value -> H} {w : World} {fuel : Nat} {c : Value} {t e : TypeId} {bytes : Nat} {y : DataW H × List MemPlace} (fine : α -> Prop) (hu : Tryz.prog.underlying t = some (.slice e)) (hc : Tryz.prog.cellsOf e = R.sz) (hpos : 0 < R.sz) (hby : Tryz.prog.bytesOf e = bytes) (hbp : 0 < bytes)
 (hf : DataW.trod enc Tryz.prog w 0 (fun _ => true) true fuel t [c] = some y) (hw : ∀ n ∈ y.1.weights Tryz.prog t, n <= reachBytes)
 (each : ∀ cs m z, cs.length = R.sz -> DataW.trod enc Tryz.prog w 0 (fun _ => true) true m e cs = some z -> (∀ k ∈ z.1.weights Tryz.prog e, k <= reachBytes) -> ∃ x : α, R.ok (fun _ => True) w cs x /\ fine x) :
 ∃ a cap L, c = .slice a (List.length L) cap /\ SlV R (fun _ => True) w (.slice a (List.length L) cap) L /\ ∀ x ∈ L, fine x := by
 obtain ⟨a, n, cap, rfl, hn, hn2, hel⟩ := open_sl hu hc hpos hby hbp hf hw
 rcases Nat.eq_zero_or_pos n with h0 | h0
 · subst h0
   exact ⟨a, cap, [], rfl, ⟨a, cap, rfl, Nat.zero_le _, by simp, Or.inl rfl⟩, fun x hx => by cases hx⟩
 rcases hel with h | ⟨b, off, rfl, hel⟩
 · omega
 have ex : ∀ i, i < n -> ∃ x : α, (∃ cs, (∀ j, j < R.sz -> w.cell? ⟨b, off + i * R.sz + j, none⟩ = cs[j]?) /\ (∃ v, cs[0]? = some v) /\ R.ok (fun _ => True) w cs x) /\ fine x := by
  intro i hi
  obtain ⟨cs, m, z, h1, h2, h3, h4⟩ := hel i hi
  obtain ⟨x, h5, h6⟩ := each cs m z h1 h3 h4
  exact ⟨x, ⟨cs, h2, ⟨cs[0], List.getElem?_eq_getElem (by omega)⟩, h5⟩, h6⟩
 obtain ⟨L, hL, hL2⟩ := list_of ex
 subst hL
 have gd : ∀ t (ht : t < L.length), L.getD t default = L[t] := fun t ht => by rw [List.getD_eq_getElem?_getD, List.getElem?_eq_getElem ht]; rfl
 refine ⟨_, cap, L, rfl, ⟨_, cap, rfl, hn, hn2, Or.inr ⟨b, off, rfl, trivial, ?_, fun t ht => ?_⟩⟩, fun x hx => ?_⟩
 · obtain ⟨⟨cs, h1, ⟨v, h2⟩, _⟩, _⟩ := hL2 0 h0
   exact World.block_lt_of_cell? w _ ((h1 0 hpos).trans h2)
 · obtain ⟨⟨cs, h1, _, h3⟩, _⟩ := hL2 t ht
   rw [gd t ht] at h3
   exact ⟨cs, h1, h3⟩
 · obtain ⟨t, ht, rfl⟩ := List.getElem_of_mem hx
   have := (hL2 t ht).2
   rwa [gd t ht] at this
theorem row_of_trod {H : Type} {enc : TypeId × Value -> H} {w : World} {fuel : Nat} {c : Value} {y : DataW H × List MemPlace} (hf : DataW.trod enc Tryz.prog w 0 (fun _ => true) true fuel 35 [c] = some y) (hw : ∀ n ∈ y.1.weights Tryz.prog 35, n <= reachBytes) :
 ∃ a cap X, c = .slice a (List.length X) cap /\ SlV valR (fun _ => True) w (.slice a (List.length X) cap) X /\ FineR X :=
 sl_of (R := valR) (bytes := 32) (fun v : Val => v.s.size <= 140737488355328) Tryz.underlying35 (by kernel_rfl) (by decide) (by kernel_rfl) (by decide) hf hw (fun cs m z h1 h2 h3 => val_of_trod h2 h1 h3)
theorem rows_of_trod {H : Type} {enc : TypeId × Value -> H} {w : World} {fuel : Nat} {c : Value} {y : DataW H × List MemPlace} (hf : DataW.trod enc Tryz.prog w 0 (fun _ => true) true fuel 41 [c] = some y) (hw : ∀ n ∈ y.1.weights Tryz.prog 41, n <= reachBytes) :
 ∃ a cap L, c = .slice a (List.length L) cap /\ SlV rowR (fun _ => True) w (.slice a (List.length L) cap) L /\ FineL L :=
 sl_of (R := rowR) (bytes := 24) FineR Tryz.underlying41 (by kernel_rfl) (by decide) (by kernel_rfl) (by decide) hf hw (fun cs m z h1 h2 h3 => by
  have hl : cs.length = 1 := h1
  match cs, hl with
  | [c], _ =>
   obtain ⟨a, cap, X, rfl, h4, h5⟩ := row_of_trod h2 h3
   obtain ⟨a', cap', e, k1, k2, k3⟩ := h4
   simp only [Value.slice.injEq] at e
   obtain ⟨rfl, _, rfl⟩ := e
   exact ⟨X, ⟨a, cap, rfl, k1, k2, k3⟩, h5⟩)
set_option maxRecDepth 100000 in
theorem ans_of_trod {H : Type} {enc : TypeId × Value -> H} {w : World} {fuel : Nat} {cs : List Value} {y : DataW H × List MemPlace} (hf : DataW.trod enc Tryz.prog w 0 (fun _ => true) true fuel 43 cs = some y) (hl : cs.length = 3) (hw : ∀ n ∈ y.1.weights Tryz.prog 43, n <= reachBytes) :
 ∃ e a cap L k, cs = [.int .i64 e, .slice a (List.length L) cap, .int .i64 k] /\ SlV rowR (fun _ => True) w (.slice a (List.length L) cap) L /\ FineL L := by
 have c1 : Tryz.prog.cellsOf 40 = 1 := by kernel_rfl
 have c2 : Tryz.prog.cellsOf 41 = 1 := by kernel_rfl
 have c3 : Tryz.prog.cellsOf 3 = 1 := by kernel_rfl
 match cs, hl with
 | [e0, e1, e2], _ =>
  obtain ⟨xs, n, _, hx, _, hxl, hfs⟩ := DataW.trod_struct Tryz.underlying43 hf
  match xs, hxl with
  | [x0, x1, x2], _ =>
   have h0 := hfs 0 _ rfl
   have h1 := hfs 1 _ rfl
   have h2 := hfs 2 _ rfl
   simp [c1, c2, c3] at h0 h1 h2
   have hdd := congrArg Prod.fst hx
   simp only at hdd
   obtain ⟨y0, q0, _, _⟩ := DataW.trod_int Tryz.underlying40 h0
   obtain ⟨y2, q2, _, _⟩ := DataW.trod_int Tryz.underlying3 h2
   obtain ⟨a, cap, L, rfl, h3, h4⟩ := rows_of_trod h1 (fun k hk => hw k (by
    rw [hdd]
    simp only [DataW.weights, Tryz.underlying43, List.map_cons, List.map_nil, DataW.weightsEach, List.mem_append]
    exact Or.inr (Or.inl hk)))
   simp at q0 q2
   subst q0 q2
   exact ⟨y0, a, cap, L, y2, rfl, h3, h4⟩
set_option maxRecDepth 100000 in
theorem open_rrows {H : Type} {enc : TypeId × Value -> H} {w : World} {b0 : Nat} {v : Value} {d : DataW H} {p : List MemPlace} {ts : List TypeId} {ds : List (DataW H)} {j : Nat} (hv : Value.okWide Tryz.prog w .any b0 41 v) (h : DataW.Trod enc Tryz.prog w 0 (fun _ => true) true 41 v d p)
 (hw : (DataW.weightsEach Tryz.prog ts ds).all (· <= reachBytes) = true) (ht : ts[j]? = some 41) (hd : ds[j]? = some d) :
 ∃ a cap L, v = .slice a (List.length L) cap /\ SlV rowR (fun _ => True) w (.slice a (List.length L) cap) L /\ FineL L := by
 obtain ⟨a0, len, cap, rfl⟩ := okWide_slice Tryz.underlying41 hv
 obtain ⟨fuel, hf⟩ := h
 exact rows_of_trod (y := (d, p)) (by simpa [Value.cells] using hf) (fun n hn => by
  have := List.all_eq_true.1 hw _ (DataW.weights_mem_each ht hd n hn)
  simpa using this)
set_option maxRecDepth 100000 in
theorem open_ans2 {H : Type} {enc : TypeId × Value -> H} {w : World} {b0 : Nat} {v : Value} {d : DataW H} {p : List MemPlace} {ts : List TypeId} {ds : List (DataW H)} {j : Nat} (hv : Value.okWide Tryz.prog w .any b0 66 v) (h : DataW.Trod enc Tryz.prog w 0 (fun _ => true) true 66 v d p)
 (hw : (DataW.weightsEach Tryz.prog ts ds).all (· <= reachBytes) = true) (ht : ts[j]? = some 66) (hd : ds[j]? = some d) :
 ∃ e0 a0 c0 L0 k0 e1 a1 c1 L1 k1, v = .agg #[.int .i64 e0, .slice a0 (List.length L0) c0, .int .i64 k0, .int .i64 e1, .slice a1 (List.length L1) c1, .int .i64 k1] /\
  SlV rowR (fun _ => True) w (.slice a0 (List.length L0) c0) L0 /\ FineL L0 /\ SlV rowR (fun _ => True) w (.slice a1 (List.length L1) c1) L1 /\ FineL L1 := by
 have c3 : Tryz.prog.cellsOf 43 = 3 := by kernel_rfl
 have c6 : Tryz.prog.cellsOf 66 = 6 := by kernel_rfl
 unfold Value.okWide at hv
 rw [Tryz.underlying66] at hv
 obtain ⟨cs, rfl, hsz, _⟩ := hv
 rw [c6] at hsz
 obtain ⟨l⟩ := cs
 match l, hsz with
 | [e0, e1, e2, e3, e4, e5], _ =>
  obtain ⟨fuel, hf⟩ := h
  obtain ⟨zs, m, _, hx, _, hlen, hall⟩ := DataW.trod_array Tryz.underlying66 hf
  match zs, hlen with
  | [z0, z1], _ =>
   have g0 := hall 0 (by omega)
   have g1 := hall 1 (by omega)
   rw [c3] at g0 g1
   simp [Value.cells] at g0 g1
   have hdd := congrArg Prod.fst hx
   simp only at hdd
   have hw2 : ∀ z ∈ [z0, z1], ∀ k ∈ z.1.weights Tryz.prog 43, k <= reachBytes := fun z hz k hk => by
    have := List.all_eq_true.1 hw _ (DataW.weights_mem_each ht hd k (by
     rw [hdd]
     simp only [DataW.weights, Tryz.underlying66]
     exact weightsAll_mem (List.mem_map.2 ⟨z, hz, rfl⟩) _ hk))
    simpa using this
   obtain ⟨y0, a0, k0, L0, n0, q0, s0, f0⟩ := ans_of_trod g0 rfl (hw2 z0 (by simp))
   obtain ⟨y1, a1, k1, L1, n1, q1, s1, f1⟩ := ans_of_trod g1 rfl (hw2 z1 (by simp))
   simp only [List.cons.injEq, and_true] at q0 q1
   obtain ⟨rfl, rfl, rfl⟩ := q0
   obtain ⟨rfl, rfl, rfl⟩ := q1
   exact ⟨y0, a0, k0, L0, n0, y1, a1, k1, L1, n1, rfl, s0, f0, s1, f1⟩
end
end Go.Proofs.YtgemihkcihigpaaGreatDoor
