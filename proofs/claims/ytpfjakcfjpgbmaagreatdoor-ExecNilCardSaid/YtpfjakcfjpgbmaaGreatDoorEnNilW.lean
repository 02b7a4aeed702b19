/- ExecNil: the walk. Printed by tools/ennilw.py. -/
import Derived.Test.YtpfjakcfjpgbmaaGreatDoorEnNil
import Derived.Defers
import Derived.Recover
namespace Go.Proofs.YtpfjakcfjpgbmaaGreatDoor
set_option linter.unusedVariables false
set_option linter.unusedSimpArgs false
open Go.RowKit Go.Rx

theorem reg2_is : reg2 = .region 2 (opsOf reg2) false := by kernel_rfl
theorem reg2_size : (opsOf reg2).size = 3 := by kernel_rfl
theorem reg2_at0 : (opsOf reg2)[0]? = some (opAt reg2 0) := by kernel_rfl
theorem reg2_at1 : (opsOf reg2)[1]? = some (opAt reg2 1) := by kernel_rfl
theorem reg2_at2 : (opsOf reg2)[2]? = some (opAt reg2 2) := by kernel_rfl
theorem reg2_d0 : (opAt reg2 0).dst = some 11 := by kernel_rfl
theorem reg2_d1 : (opAt reg2 1).dst = some 12 := by kernel_rfl
theorem reg2_d2 : (opAt reg2 2).dst = none := by kernel_rfl
theorem reg2_g1 : (opAt reg2 1).guard = none := by kernel_rfl
theorem reg2_o1 : (opAt reg2 1).op = .call ⟨.value (.func 15), #[.tmp 11], #[34]⟩ := by kernel_rfl
theorem get_own {A : Tm} {i : Nat} {v : Value} : (A.set i v).get i = some v := by rw [T.get_set, if_pos rfl]
theorem blt_of {a b : Nat} (h : a < b) : Nat.blt a b = true := Nat.ble_eq_true_of_le h
/-- a list among the arguments -/
structure InSl {α : Type} (R : Rep α) (p : Nat → Prop) (w : World) (v : Value) : Prop where
  sh : Rx.Sh v
  ls : ∃ (a : Option Addr) (c : Nat) (L : List α), v = .slice a L.length c ∧ L.length ≤ c ∧ RowAt R p w a L
theorem InSl.still {α : Type} {R : Rep α} {p : Nat → Prop} {w w' : World} {v v' : Value} (h : InSl R p w v) (low : ∀ i, i < w.heap.size → w'.heap[i]? = w.heap[i]?) (e : v' = v ∨ ∃ a a' c c', v = .slice (some a') 0 c' ∧ v' = .slice (some a) 0 c) :
    ∃ (a : Option Addr) (c : Nat) (L : List α), v' = .slice a L.length c ∧ L.length ≤ c ∧ RowAt R p w' a L := by
  rcases e with rfl | ⟨a, a', c, c', h1, h2⟩
  · obtain ⟨a, c, L, e1, e2, e3⟩ := h.ls
    exact ⟨a, c, L, e1, e2, e3.keep fun k _ hk => low k hk⟩
  · exact ⟨some a, c, [], h2, Nat.zero_le _, RowAt.nil⟩
theorem NewSl.sh {v : Value} (h : NewSl v) : Rx.Sh v := by
  rcases h with rfl | ⟨g, n, c, rfl⟩
  · exact .inl rfl
  · exact .inr (.inr ⟨_, _, _, _, rfl⟩)
/-- where a slice among the arguments comes from -/
theorem Sh.slice {v v' : Value} (h : Rx.Sh v) (e : v' = v ∨ ∃ a a' c c', v = .slice (some a') 0 c' ∧ v' = .slice (some a) 0 c) : ∃ a n c, v' = .slice a n c := by
  rcases e with rfl | ⟨a, a', c, c', h1, h2⟩
  · rcases h with rfl | ⟨a, c, rfl⟩ | ⟨b, off, n, c, rfl⟩ <;> exact ⟨_, _, _, rfl⟩
  · exact ⟨_, _, _, h2⟩
set_option maxRecDepth 100000 in
set_option maxHeartbeats 4000000 in
theorem nil_walk {p : Nat → Prop} {w : World} (hk : KAt w) (k : Int) (a : NilA) {vc vn vr vx vw vo : Value} (hc : Rx.Sh vc) (hn : InSl strF p w vn) (hr : InSl valR p w vr) (hx : InSl setR p w vx) (hw : InSl condR p w vw) (ho : InSl strF p w vo) :
    Calls Tryz.prog 4 #[.agg #[.int .i64 k, .string a.t, .string a.nm, vc, vn, vr, vx, vw, .string a.j, .string a.l, .string a.r, .int .i64 a.g, vo, .int .i64 a.m, .int .i64 a.n], .agg #[.int .i64 a.p0, .string a.p1, .string a.p2, .int .i64 a.p3, .int .i64 a.p4, .string a.p5, .string a.p6, .int .i64 a.p7, .bool a.p8, .int .i64 a.p9]] w fun e w' => e = .returned (.bool true) ∧ w'.os = w.os ∧ w'.output = w.output ∧ ∀ i, i < w.heap.size → w'.heap[i]? = w.heap[i]? := by
  obtain ⟨o0, n0, c0, M0, f0, g0⟩ := shape_rel hc 12
  obtain ⟨o1, n1, c1, M1, f1, g1⟩ := shape_rel hn.sh 13
  obtain ⟨o2, n2, c2, M2, f2, g2⟩ := shape_rel hr.sh 14
  obtain ⟨o3, n3, c3, M3, f3, g3⟩ := shape_rel hx.sh 15
  obtain ⟨o4, n4, c4, M4, f4, g4⟩ := shape_rel hw.sh 16
  obtain ⟨o5, n5, c5, M5, f5, g5⟩ := shape_rel ho.sh 17
  have r0 := ((((((rel0 hk).dead (i := 12) (by decide) (show H0.get 12 = none by kernel_rfl) M0).dead (i := 13) (by decide) (show (H0.set 12 .dead).get 13 = none by kernel_rfl) M1).dead (i := 14) (by decide) (show ((H0.set 12 .dead).set 13 .dead).get 14 = none by kernel_rfl) M2).dead (i := 15) (by decide) (show (((H0.set 12 .dead).set 13 .dead).set 14 .dead).get 15 = none by kernel_rfl) M3).dead (i := 16) (by decide) (show ((((H0.set 12 .dead).set 13 .dead).set 14 .dead).set 15 .dead).get 16 = none by kernel_rfl) M4).dead (i := 17) (by decide) (show (((((H0.set 12 .dead).set 13 .dead).set 14 .dead).set 15 .dead).set 16 .dead).get 17 = none by kernel_rfl) M5
  obtain ⟨ρ1, hρ⟩ : ∃ ρ, ρ = (((((ren0.put 12 M0).put 13 M1).put 14 M2).put 15 M3).put 16 M4).put 17 M5 := ⟨_, rfl⟩
  rw [← hρ] at r0
  have e0 : ρ1 12 = some M0 := by rw [hρ]; simp [Rx.Ren.put]
  have e1 : ρ1 13 = some M1 := by rw [hρ]; simp [Rx.Ren.put]
  have e2 : ρ1 14 = some M2 := by rw [hρ]; simp [Rx.Ren.put]
  have e3 : ρ1 15 = some M3 := by rw [hρ]; simp [Rx.Ren.put]
  have e4 : ρ1 16 = some M4 := by rw [hρ]; simp [Rx.Ren.put]
  have e5 : ρ1 17 = some M5 := by rw [hρ]; simp [Rx.Ren.put]
  clear hρ
  obtain ⟨c, hcc⟩ : ∃ c : Sl, c = ⟨o0, n0, c0⟩ := ⟨_, rfl⟩
  obtain ⟨s, hss⟩ : ∃ s : Nil5, s = ⟨⟨o1, n1, c1⟩, ⟨o2, n2, c2⟩, ⟨o3, n3, c3⟩, ⟨o4, n4, c4⟩, ⟨o5, n5, c5⟩⟩ := ⟨_, rfl⟩
  have va : VRels ρ1 (stL k a c s) (#[.int .i64 k, .string a.t, .string a.nm, vc, vn, vr, vx, vw, .string a.j, .string a.l, .string a.r, .int .i64 a.g, vo, .int .i64 a.m, .int .i64 a.n] : Array Value).toList := by
    rw [hcc, hss]
    exact .cons (.int ..) (.cons (.str _) (.cons (.str _) (.cons (f0 _ e0) (.cons (f1 _ e1) (.cons (f2 _ e2) (.cons (f3 _ e3) (.cons (f4 _ e4) (.cons (.str _) (.cons (.str _) (.cons (.str _) (.cons (.int ..) (.cons (f5 _ e5) (.cons (.int ..) (.cons (.int ..) .nil))))))))))))))
  have vp : VRels ρ1 (plL a) (#[.int .i64 a.p0, .string a.p1, .string a.p2, .int .i64 a.p3, .int .i64 a.p4, .string a.p5, .string a.p6, .int .i64 a.p7, .bool a.p8, .int .i64 a.p9] : Array Value).toList :=
    .cons (.int ..) (.cons (.str _) (.cons (.str _) (.cons (.int ..) (.cons (.int ..) (.cons (.str _) (.cons (.str _) (.cons (.int ..) (.cons (.bool _) (.cons (.int ..) .nil)))))))))
  have hfree := nil_free k a c s
  have hload := nil_load k a c s
  have hrun := fun b => nil_run k a c s b
  unfold nilRun at hrun
  generalize hpre : nilPre k a c s = pr at hfree hload hrun
  match pr, hfree, hload, hrun with
  | none, hfree, _, _ => cases hfree
  | some ((.exit i, A), s1), _, _, hrun => exact absurd (hrun s) (by simp)
  | some ((.ret, A), s1), _, _, hrun => exact absurd (hrun s) (by simp)
  | some ((.normal, A), s1), hfree, hload, hrun =>
  simp only [Option.bind_some, Option.some.injEq, Bool.and_eq_true, Option.isNone_iff_eq_none] at hfree
  obtain ⟨⟨⟨⟨q0, q1⟩, q2⟩, q3⟩, q4⟩ := hfree
  simp only [Option.bind_some] at hload
  obtain ⟨⟨u0, s0'⟩, hl1, hl2⟩ := Option.map_eq_some_iff.1 hload
  simp only [Prod.mk.injEq] at hl2
  obtain ⟨rfl, hs0⟩ := hl2
  refine calls_of_wp_defers Tryz.func4 (show Tryz.f4.body = some body4 by kernel_rfl) ?_
  refine Code.wp_mono (Q := fun x a' w' => (x = .normal ∨ x = .ret) ∧ (∀ d ∈ a'.defers, IdleD Tryz.prog d) ∧ (results Tryz.f4 a'.tmps).run Tryz.prog w' = .ok (.bool true) w' ∧ ∃ ρ' h', Rel 12 w.heap.size w ρ' h' w') ?_ ?_
  · rintro x a' w' ⟨hx, hd, he, ρ', h', hr'⟩
    rcases hx with rfl | rfl
    · exact leaves_idle he ⟨rfl, hr'.os, hr'.out, hr'.low⟩ _ hd
    · exact leaves_idle he ⟨rfl, hr'.os, hr'.out, hr'.low⟩ _ hd
  have hA0 := args_rel (P := Tryz.prog) (n := Tryz.f4.ntmps) (VRels.cons (VRel.agg va) (VRels.cons (VRel.agg vp) .nil)) (show 2 ≤ Tryz.f4.ntmps from of_decide_eq_true (by kernel_rfl))
  refine pre_wp (K := known1) (k := 6000) (n := Tryz.f4.ntmps) (s := ⟨18, H1, 0, 0⟩) fit hk 2 (by kernel_rfl) hpre r0 hA0 ?_
  intro ρ2 w2 a2 l2 r2 hA2
  rw [show dropC 2 body4 = .seq reg2 (dropC 3 body4) by kernel_rfl, reg2_is]
  refine wp_seq (wp_region ?_)
  rw [reg2_size]
  show wpOps Tryz.prog (opsOf reg2) _ [0, 1, 2] a2 w2
  rw [wpOps_cons]
  have hcl := (exe_ok (K := known1) (b0 := w.heap.size) (w0 := w) fit hk 5999).1
  refine valX_ok hcl r2 hA2 reg2_at0 hl1 (by rw [reg2_d0]; exact doPut_some (by kernel_rfl)) ?_
  intro ρ3 w3 a3 l3 r3 hA3
  rw [hs0] at r3
  have l13 := Ren.le_trans l2 l3
  rw [wpOps_cons]
  -- the call of few
  unfold wpOp
  simp only [reg2_at1]
  rw [wantX_ok hA3 (show wantX (opsOf reg2).toList _ (opAt reg2 1) = some true by unfold wantX; rw [reg2_g1]), if_pos rfl]
  left
  unfold Oper.wp
  have rV := hA3.tmp 11 _ get_own
  generalize hq : a3.tmps.getD 11 undef = V3 at rV
  cases rV with
  | agg rV =>
  rename_i cs3
  obtain ⟨cs3⟩ := cs3
  rw [hcc, hss] at rV
  cases rV with
  | cons z0 y0 =>
  cases y0 with
  | cons z1 y1 =>
  cases y1 with
  | cons z2 y2 =>
  cases y2 with
  | cons z3 y3 =>
  cases y3 with
  | cons z4 y4 =>
  cases y4 with
  | cons z5 y5 =>
  cases y5 with
  | cons z6 y6 =>
  cases y6 with
  | cons z7 y7 =>
  cases y7 with
  | cons z8 y8 =>
  cases y8 with
  | cons z9 y9 =>
  cases y9 with
  | cons z10 y10 =>
  cases y10 with
  | cons z11 y11 =>
  cases y11 with
  | cons z12 y12 =>
  cases y12 with
  | cons z13 y13 =>
  cases y13 with
  | cons z14 y14 =>
  cases y14
  cases z0
  cases z1
  cases z2
  cases z8
  cases z9
  cases z10
  cases z11
  cases z13
  cases z14
  have t0 := g0 ρ3 _ (l13 _ _ e0) z3
  have t1 := g1 ρ3 _ (l13 _ _ e1) z4
  have t2 := g2 ρ3 _ (l13 _ _ e2) z5
  have t3 := g3 ρ3 _ (l13 _ _ e3) z6
  have t4 := g4 ρ3 _ (l13 _ _ e4) z7
  have t5 := g5 ρ3 _ (l13 _ _ e5) z12
  obtain ⟨xa0, xn0, xc0, x0⟩ := Sh.slice hc t0
  obtain ⟨xa1, xc1, XL1, x1, xl1, xr1⟩ := hn.still r3.low t1
  obtain ⟨xa2, xc2, XL2, x2, xl2, xr2⟩ := hr.still r3.low t2
  obtain ⟨xa3, xc3, XL3, x3, xl3, xr3⟩ := hx.still r3.low t3
  obtain ⟨xa4, xc4, XL4, x4, xl4, xr4⟩ := hw.still r3.low t4
  obtain ⟨xa5, xc5, XL5, x5, xl5, xr5⟩ := ho.still r3.low t5
  subst x0 x1 x2 x3 x4 x5
  have hen : ∀ args w, (callFunc 15 args).run Tryz.prog w = .ok (.enter 15 args) w := enters_of Tryz.func15 (by kernel_rfl) rfl
  have hrun1 : (execOp a3.eval (opAt reg2 1)).run Tryz.prog w3 = .ok (.enter 15 #[a3.tmps.getD 11 undef]) w3 := by
    obtain ⟨dst, op, ty, pos, after, guard, hop⟩ : ∃ dst op ty pos after guard, opAt reg2 1 = ⟨dst, op, ty, pos, after, guard⟩ := ⟨_, _, _, _, _, _, rfl⟩
    have ho := reg2_o1
    rw [hop] at ho
    simp only at ho
    subst ho
    rw [hop]
    have := hen #[a3.tmps.getD 11 undef] w3
    simp only [execOp, resolve, Sem.run_bind, Sem.run_pure, Result.andThen_ok, Act.eval, Deferred.ofValue, invoke]
    have he : a3.eval (.tmp 11) = a3.tmps[11]?.getD undef := by
      show a3.tmps.getD 11 undef = _
      simp
    simp [he, hen]
  rw [hrun1, hq, Oper.upon_enter]
  refine (few_any (p := p) ⟨xl1, xr1⟩ ⟨xl2, xr2⟩ ⟨xl3, xr3⟩ ⟨xl4, xr4⟩ ⟨xl5, xr5⟩).mono ?_
  rintro e w4 ⟨⟨v1, v2, v3, v4, v5, rfl, b1, b2, b3, b4, b5⟩, bw⟩
  obtain ⟨p1, k1, d1, N1, u1, -⟩ := shape_rel b1.sh 20
  obtain ⟨p2, k2, d2, N2, u2, -⟩ := shape_rel b2.sh 21
  obtain ⟨p3, k3, d3, N3, u3, -⟩ := shape_rel b3.sh 22
  obtain ⟨p4, k4, d4, N4, u4, -⟩ := shape_rel b4.sh 23
  obtain ⟨p5, k5, d5, N5, u5, -⟩ := shape_rel b5.sh 24
  have r4 := (((((r3.grow bw).dead (i := 20) (by decide) q0 N1).dead (i := 21) (by decide) (by rw [T.get_set, if_neg (by decide)]; exact q1) N2).dead (i := 22) (by decide) (by rw [T.get_set, if_neg (by decide), T.get_set, if_neg (by decide)]; exact q2) N3).dead (i := 23) (by decide) (by rw [T.get_set, if_neg (by decide), T.get_set, if_neg (by decide), T.get_set, if_neg (by decide)]; exact q3) N4).dead (i := 24) (by decide) (by rw [T.get_set, if_neg (by decide), T.get_set, if_neg (by decide), T.get_set, if_neg (by decide), T.get_set, if_neg (by decide)]; exact q4) N5
  have m1 := Ren.le_put (L := N1) (r3.new 20 (by decide) q0)
  have m2 := Ren.le_put (ρ := ρ3.put 20 N1) (i := 21) (L := N2) (by show (if _ then _ else _) = _; rw [if_neg (by decide)]; exact r3.new 21 (by decide) q1)
  have m3 := Ren.le_put (ρ := (ρ3.put 20 N1).put 21 N2) (i := 22) (L := N3) (by show (if _ then _ else (if _ then _ else _)) = _; rw [if_neg (by decide), if_neg (by decide)]; exact r3.new 22 (by decide) q2)
  have m4 := Ren.le_put (ρ := ((ρ3.put 20 N1).put 21 N2).put 22 N3) (i := 23) (L := N4) (by show (if _ then _ else (if _ then _ else (if _ then _ else _))) = _; rw [if_neg (by decide), if_neg (by decide), if_neg (by decide)]; exact r3.new 23 (by decide) q3)
  have m5 := Ren.le_put (ρ := (((ρ3.put 20 N1).put 21 N2).put 22 N3).put 23 N4) (i := 24) (L := N5) (by show (if _ then _ else (if _ then _ else (if _ then _ else (if _ then _ else _)))) = _; rw [if_neg (by decide), if_neg (by decide), if_neg (by decide), if_neg (by decide)]; exact r3.new 24 (by decide) q4)
  have l34 := Ren.le_trans m1 (Ren.le_trans m2 (Ren.le_trans m3 (Ren.le_trans m4 m5)))
  have y1 := Ren.le_trans m2 (Ren.le_trans m3 (Ren.le_trans m4 m5)) _ _ (Rx.Ren.put_self (ρ := ρ3) (i := 20) (L := N1))
  have y2 := Ren.le_trans m3 (Ren.le_trans m4 m5) _ _ (Rx.Ren.put_self (ρ := ρ3.put 20 N1) (i := 21) (L := N2))
  have y3 := Ren.le_trans m4 m5 _ _ (Rx.Ren.put_self (ρ := (ρ3.put 20 N1).put 21 N2) (i := 22) (L := N3))
  have y4 := m5 _ _ (Rx.Ren.put_self (ρ := ((ρ3.put 20 N1).put 21 N2).put 22 N3) (i := 23) (L := N4))
  have y5 := Rx.Ren.put_self (ρ := (((ρ3.put 20 N1).put 21 N2).put 22 N3).put 23 N4) (i := 24) (L := N5)
  obtain ⟨ρ4, hρ4⟩ : ∃ ρ, ρ = ((((ρ3.put 20 N1).put 21 N2).put 22 N3).put 23 N4).put 24 N5 := ⟨_, rfl⟩
  rw [← hρ4] at r4 l34 y1 y2 y3 y4 y5
  have fc := (g0 ρ3 _ (l13 _ _ e0) z3)
  have vb : VRels ρ4 (stL k a c ⟨⟨p1, k1, d1⟩, ⟨p2, k2, d2⟩, ⟨p3, k3, d3⟩, ⟨p4, k4, d4⟩, ⟨p5, k5, d5⟩⟩) [.int .i64 k, .string a.t, .string a.nm, .slice xa0 xn0 xc0, v1, v2, v3, v4, .string a.j, .string a.l, .string a.r, .int .i64 a.g, v5, .int .i64 a.m, .int .i64 a.n] := by
    rw [hcc]
    exact .cons (.int ..) (.cons (.str _) (.cons (.str _) (.cons (z3.mono l34) (.cons (u1 _ y1) (.cons (u2 _ y2) (.cons (u3 _ y3) (.cons (u4 _ y4) (.cons (.str _) (.cons (.str _) (.cons (.str _) (.cons (.int ..) (.cons (u5 _ y5) (.cons (.int ..) (.cons (.int ..) .nil))))))))))))))
  have hrun := hrun ⟨⟨p1, k1, d1⟩, ⟨p2, k2, d2⟩, ⟨p3, k3, d3⟩, ⟨p4, k4, d4⟩, ⟨p5, k5, d5⟩⟩
  dsimp only at hrun
  split at hrun
  case h_2 => cases hrun
  case h_1 uu s2 hst =>
  dsimp only
  rw [wpOps_cons]
  have hA4 : ARel Tryz.prog Tryz.f4.ntmps ρ4 (tmpsFew A k a c s ⟨⟨p1, k1, d1⟩, ⟨p2, k2, d2⟩, ⟨p3, k3, d3⟩, ⟨p4, k4, d4⟩, ⟨p5, k5, d5⟩⟩) (a3.put (opAt reg2 1).dst (.agg #[.int .i64 k, .string a.t, .string a.nm, .slice xa0 xn0 xc0, v1, v2, v3, v4, .string a.j, .string a.l, .string a.r, .int .i64 a.g, v5, .int .i64 a.m, .int .i64 a.n])) :=
    (hA3.mono l34).put (.agg vb) (by rw [reg2_d1]; exact doPut_some (by kernel_rfl))
  refine valX_ok (s := afterFew s1) hcl r4 hA4 reg2_at2 hst (by rw [reg2_d2]; rfl) ?_
  intro ρ5 w5 a5 l5 r5 hA5
  exact (Rx.Yields.run (K := known1) (k := 6000) (s := s2) fit hk hrun) ρ5 w5 a5 r5 hA5
end Go.Proofs.YtpfjakcfjpgbmaaGreatDoor
