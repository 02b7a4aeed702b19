/- The laws' sanity check. -/
import Derived.Test.YtjcpccadmcglgaaGreatDoorZK46
import Derived.Test.YtjcpccadmcglgaaGreatDoorZK10
set_option linter.unusedVariables false
set_option linter.unusedSimpArgs false
set_option maxRecDepth 100000
set_option maxHeartbeats 64000000
namespace Go.Proofs.YtjcpccadmcglgaaGreatDoor
open Go.Lib (hid)
section
open Go.RowKit
theorem step2 {a b c:World} (h:Below a.heap.size a b) (k:Below b.heap.size b c):Below a.heap.size a c:=h.trans (k.mono h.size)
theorem parse_ok {s:ByteArray} {q:Stmt} {w:World} (he:EnvL w) (hs:s.size<=4294967000) (hp:parseM s=.ok q) :
 Calls Tryz.prog 9 #[.string s] w fun e w'=>∃ L,e=.returned (.tuple #[.agg (stC L q),.int .i64 0,.int .i64 0])/\Below w.heap.size w w'/\SlsAt (fun _=>True) w' L q:=by
 refine (parse_any he hs).mono fun e w' h=>?_
 obtain ⟨hb,L,q',a,c,h1,h2,⟨h3,rfl,rfl⟩|⟨h3,_,_⟩⟩:=parse_read h
 · rw [hp] at h3
   cases h3
   exact ⟨L,h1,hb,h2⟩
 · rw [hp] at h3;cases h3
theorem parse_bad {s:ByteArray} {er:PErr} {w:World} (he:EnvL w) (hs:s.size<=4294967000) (hp:parseM s=.error er) :
 Calls Tryz.prog 9 #[.string s] w fun e w'=>e=.returned (.tuple #[.agg (stC nilL stmt0),.int .i64 er.1,.int .i64 er.2])/\Below w.heap.size w w':=by
 refine (parse_any he hs).mono fun e w' h=>?_
 obtain ⟨hb,⟨q,L,h1,h2,h3⟩|⟨er',h1,h2⟩⟩:=h
 · rw [hp] at h1;cases h1
 · rw [hp] at h1
   cases h1
   exact ⟨h2,hb⟩
theorem lex_ok {s:ByteArray} {ts:List Tok} {w:World} (he:EnvL w) (hs:s.size<=4294967000) (hp:lexM s=.ok ts) :
 Calls Tryz.prog 12 #[.string s] w fun e w'=>∃ v,e=.returned (.tuple #[v,.int .i64 0,.int .i64 0])/\Below w.heap.size w w'/\SlV tokR (fun _=>True) w' v ts:=by
 refine (lex_any he hs).mono fun e w' h=>?_
 obtain ⟨hb,⟨ts',v,h1,h2,h3,_,h5⟩|⟨er',h1,h2⟩⟩:=h
 · rw [hp] at h1
   cases h1
   exact ⟨v,h2,hb,(sl_owned (enc:=tokEnc) (sz:=4) (hl:=fun _=>rfl) h3 (by omega)).weaken fun _ _=>trivial⟩
 · rw [hp] at h1;cases h1
theorem lex_bad {s:ByteArray} {er:PErr} {w:World} (he:EnvL w) (hs:s.size<=4294967000) (hp:lexM s=.error er) :
 Calls Tryz.prog 12 #[.string s] w fun e w'=>e=.returned (.tuple #[.slice none 0 0,.int .i64 er.1,.int .i64 er.2])/\Below w.heap.size w w':=by
 refine (lex_any he hs).mono fun e w' h=>?_
 obtain ⟨hb,⟨ts',v,h1,h2,h3,_,h5⟩|⟨er',h1,h2⟩⟩:=h
 · rw [hp] at h1;cases h1
 · rw [hp] at h1
   cases h1
   exact ⟨h2,hb⟩
theorem no_mem {α:Type} {p:α->Prop}:∀ x ∈ ([]:List α),p x:=fun _ h=>by cases h
theorem xOk1:StOk xQ1:=⟨⟨by decide,by decide,by decide,by decide,by decide,by decide⟩,no_mem,no_mem,fun c hc=>by
 rw [List.mem_singleton.1 hc];exact ⟨by decide,by decide,by decide⟩,fun x hx=>by rw [List.mem_singleton.1 hx];decide,by decide,by decide⟩
theorem xOk2:StOk xQ2:=⟨⟨by decide,by decide,by decide,by decide,by decide,by decide⟩,no_mem,fun c hc=>by
 rw [List.mem_singleton.1 hc];exact ⟨by decide,by decide,by decide⟩,no_mem,no_mem,by decide,by decide⟩
theorem xOk0:StOk stmt0:=⟨⟨by decide,by decide,by decide,by decide,by decide,by decide⟩,no_mem,no_mem,no_mem,no_mem,by decide,by decide⟩
theorem sanity_any {w:World} (he:EnvL w):Calls Tryz.prog 4 #[] w fun e w'=>e=.returned (.bool true)/\Below w.heap.size w w':=by
 obtain ⟨Pst,hPst⟩:∃ Pst,Pst=fun (e:Ending) (w':World)=>e=.returned (.bool true)/\Below w.heap.size w w':=⟨_,rfl⟩
 have HPST:=hid hPst
 rw [<- hPst]
 obtain ⟨q1,hq1⟩:∃ q,q=xQ1:=⟨_,rfl⟩
 obtain ⟨q2,hq2⟩:∃ q,q=xQ2:=⟨_,rfl⟩
 have p1:parseM xT1=.ok q1:=by rw [hq1];exact xP1
 have p2:parseM xT2=.ok q2:=by rw [hq2];exact xP2
 obtain ⟨sk,stb,snm,scols,snames,srow,ssets,swher,sj,sl,sr,sa,sorder,sm,sn⟩:=q1
 obtain ⟨tk,ttb,tnm,tcols,tnames,trow,tsets,twher,tj,tl,tr,ta,torder,tm,tn⟩:=q2
 have HQ1:=hid hq1
 have HQ2:=hid hq2
 have con:=parse_ok he (by decide +kernel) p1
 have P2:=hid p2
 have HE:=hid he
 clear hPst hq1 hq2 p1 p2 he
 go_enter Tryz.func4,Tryz.ntmps4
 go_wp2_with fail
 refine con.mono ?_
 rintro e w2 ⟨L1,rfl,b2,l1⟩
 obtain ⟨⟨a0,a00,e1⟩,⟨a1,a11,e2⟩,⟨a2,a22,e3⟩,⟨a3,a33,e4⟩,⟨a4,a44,e5⟩,⟨a5,a55,e6⟩⟩:=l1.shapes
 obtain ⟨Lc,Ln,Lr,Ls,Lw,Lo⟩:=L1
 simp only at e1 e2 e3 e4 e5 e6
 subst e1 e2 e3 e4 e5 e6
 simp only [stC]
 obtain ⟨W2,hW2⟩:∃ W,w2.alloc (.cells #[.int .i64 sk,.string stb,.string snm,.slice a0 scols.length a00,.slice a1 snames.length a11,.slice a2 srow.length a22,.slice a3 ssets.length a33,.slice a4 swher.length a44,.string sj,.string sl,.string sr,.int .i64 sa,.slice a5 sorder.length a55,.int .i64 sm,.int .i64 sn] 33)=W:=⟨_,rfl⟩
 have bW2:Below w2.heap.size w2 W2:=by rw [<- hW2];exact (b0R).alloc (jR _) _
 have hb2:W2.heap[w2.heap.size]? = some (.cells #[.int .i64 sk,.string stb,.string snm,.slice a0 scols.length a00,.slice a1 snames.length a11,.slice a2 srow.length a22,.slice a3 ssets.length a33,.slice a4 swher.length a44,.string sj,.string sl,.string sr,.int .i64 sa,.slice a5 sorder.length a55,.int .i64 sm,.int .i64 sn] 33 (0,0)):=by rw [<- hW2];exact heap_alloc_new _ _
 have HB2:=hid hb2
 have L2:=hid (l1.below bW2)
 have B2:=hid (b2.trans (bW2.mono b2.size))
 have con2:=parse_ok (HE.out.below B2.out) (by decide +kernel) P2.out
 clear con l1 b2 bW2 hb2
 go_wp2_with fail
 refine con2.mono ?_
 rintro e w3 ⟨L3,rfl,b3,l3⟩
 obtain ⟨⟨o0,o00,e1⟩,⟨o1,o11,e2⟩,⟨o2,o22,e3⟩,⟨o3,o33,e4⟩,⟨o4,o44,e5⟩,⟨o5,o55,e6⟩⟩:=l3.shapes
 obtain ⟨Lc,Ln,Lr,Ls,Lw,Lo⟩:=L3
 simp only at e1 e2 e3 e4 e5 e6
 subst e1 e2 e3 e4 e5 e6
 simp only [stC]
 obtain ⟨W3,hW3⟩:∃ W,w3.alloc (.cells #[.int .i64 tk,.string ttb,.string tnm,.slice o0 tcols.length o00,.slice o1 tnames.length o11,.slice o2 trow.length o22,.slice o3 tsets.length o33,.slice o4 twher.length o44,.string tj,.string tl,.string tr,.int .i64 ta,.slice o5 torder.length o55,.int .i64 tm,.int .i64 tn] 33)=W:=⟨_,rfl⟩
 have bW3:Below w3.heap.size w3 W3:=by rw [<- hW3];exact (b0R).alloc (jR _) _
 have hb3:W3.heap[w3.heap.size]? = some (.cells #[.int .i64 tk,.string ttb,.string tnm,.slice o0 tcols.length o00,.slice o1 tnames.length o11,.slice o2 trow.length o22,.slice o3 tsets.length o33,.slice o4 twher.length o44,.string tj,.string tl,.string tr,.int .i64 ta,.slice o5 torder.length o55,.int .i64 tm,.int .i64 tn] 33 (0,0)):=by rw [<- hW3];exact heap_alloc_new _ _
 have HB3:=hid hb3
 have L4:=hid (l3.below bW3)
 have B3:=hid (b3.trans (bW3.mono b3.size))
 have con3:Calls Tryz.prog 9 #[.string xT3] W3 (fun e w'=>e=.returned (.tuple #[.agg #[.int .i64 0,.string ⟨#[]⟩,.string ⟨#[]⟩,.slice none 0 0,.slice none 0 0,.slice none 0 0,.slice none 0 0,.slice none 0 0,.string ⟨#[]⟩,.string ⟨#[]⟩,.string ⟨#[]⟩,.int .i64 0,.slice none 0 0,.int .i64 0,.int .i64 0],.int .i64 9,.int .i64 60])/\Below W3.heap.size W3 w'):=parse_bad (HE.out.below (B2.out.trans (B3.out.mono B2.out.size))) (by decide +kernel) xP3
 clear con2 l3 b3 bW3 hb3
 go_wp2_with fail
 refine con3.mono ?_
 rintro e w4 ⟨rfl,b4⟩
 obtain ⟨W4,hW4⟩:∃ W,w4.alloc (.cells #[.int .i64 0,.string ⟨#[]⟩,.string ⟨#[]⟩,.slice none 0 0,.slice none 0 0,.slice none 0 0,.slice none 0 0,.slice none 0 0,.string ⟨#[]⟩,.string ⟨#[]⟩,.string ⟨#[]⟩,.int .i64 0,.slice none 0 0,.int .i64 0,.int .i64 0] 33)=W:=⟨_,rfl⟩
 have bW4:Below w4.heap.size w4 W4:=by rw [<- hW4];exact (b0R).alloc (jR _) _
 have B4:=hid (b4.trans (bW4.mono b4.size))
 have con4:=lex_ok (HE.out.below ((B2.out.trans (B3.out.mono B2.out.size)).trans (B4.out.mono (B2.out.trans (B3.out.mono B2.out.size)).size))) (by decide +kernel) xP4
 rw [<- hW4] at con4
 have HW4:=hid hW4
 clear con3 b4 bW4 hW4
 go_wp2_with fail
 refine con4.mono ?_
 rintro e w5 ⟨lv,rfl,b5,l5⟩
 rw [HW4.out] at b5
 have B5:=hid b5
 have con5:Calls Tryz.prog 12 #[.string xT5] w5 (fun e w'=>e=.returned (.tuple #[.slice none 0 0,.int .i64 2,.int .i64 60])/\Below w5.heap.size w5 w'):=lex_bad (HE.out.below (((B2.out.trans (B3.out.mono B2.out.size)).trans (B4.out.mono (B2.out.trans (B3.out.mono B2.out.size)).size)).trans (b5.mono ((B2.out.trans (B3.out.mono B2.out.size)).trans (B4.out.mono (B2.out.trans (B3.out.mono B2.out.size)).size)).size))) (by decide +kernel) xP5
 have L5:=hid l5
 clear con4 b5 l5
 go_wp2_with fail
 refine con5.mono ?_
 rintro e w6 ⟨rfl,b6⟩
 have X3:=hid (step2 B3.out (step2 B4.out (step2 B5.out b6)))
 have X4:=hid (step2 B4.out (step2 B5.out b6))
 have hA:w6.heap[w2.heap.size]? = some (.cells #[.int .i64 sk,.string stb,.string snm,.slice a0 scols.length a00,.slice a1 snames.length a11,.slice a2 srow.length a22,.slice a3 ssets.length a33,.slice a4 swher.length a44,.string sj,.string sl,.string sr,.int .i64 sa,.slice a5 sorder.length a55,.int .i64 sm,.int .i64 sn] 33 (0,0)):=(X3.out.block _ (jB HB2.out)).trans HB2.out
 have hB:w6.heap[w3.heap.size]? = some (.cells #[.int .i64 tk,.string ttb,.string tnm,.slice o0 tcols.length o00,.slice o1 tnames.length o11,.slice o2 trow.length o22,.slice o3 tsets.length o33,.slice o4 twher.length o44,.string tj,.string tl,.string tr,.int .i64 ta,.slice o5 torder.length o55,.int .i64 tm,.int .i64 tn] 33 (0,0)):=(X4.out.block _ (jB HB3.out)).trans HB3.out
 have SA:=hid (show ∀ w',Below w6.heap.size w6 w'->w'.heap[w2.heap.size]? = some (.cells #[.int .i64 sk,.string stb,.string snm,.slice a0 scols.length a00,.slice a1 snames.length a11,.slice a2 srow.length a22,.slice a3 ssets.length a33,.slice a4 swher.length a44,.string sj,.string sl,.string sr,.int .i64 sa,.slice a5 sorder.length a55,.int .i64 sm,.int .i64 sn] 33 (0,0)) from fun w' h=>(h.block _ (jB hA)).trans hA)
 have SB:=hid (show ∀ w',Below w6.heap.size w6 w'->w'.heap[w3.heap.size]? = some (.cells #[.int .i64 tk,.string ttb,.string tnm,.slice o0 tcols.length o00,.slice o1 tnames.length o11,.slice o2 trow.length o22,.slice o3 tsets.length o33,.slice o4 twher.length o44,.string tj,.string tl,.string tr,.int .i64 ta,.slice o5 torder.length o55,.int .i64 tm,.int .i64 tn] 33 (0,0)) from fun w' h=>(h.block _ (jB hB)).trans hB)
 have LA:=hid (show ∀ w',Below w6.heap.size w6 w'->SlsAt (fun _=>True) w' ⟨.slice a0 scols.length a00,.slice a1 snames.length a11,.slice a2 srow.length a22,.slice a3 ssets.length a33,.slice a4 swher.length a44,.slice a5 sorder.length a55⟩ ⟨sk,stb,snm,scols,snames,srow,ssets,swher,sj,sl,sr,sa,sorder,sm,sn⟩ from fun w' h=>(L2.out.below X3.out).below h)
 have LB:=hid (show ∀ w',Below w6.heap.size w6 w'->SlsAt (fun _=>True) w' ⟨.slice o0 tcols.length o00,.slice o1 tnames.length o11,.slice o2 trow.length o22,.slice o3 tsets.length o33,.slice o4 twher.length o44,.slice o5 torder.length o55⟩ ⟨tk,ttb,tnm,tcols,tnames,trow,tsets,twher,tj,tl,tr,ta,torder,tm,tn⟩ from fun w' h=>(L4.out.below X4.out).below h)
 have HE6:=hid (HE.out.below (step2 B2.out X3.out))
 have HB6:=hid (step2 B2.out X3.out)
 have htk:=L5.out.below b6
 have d1:(sk == 7)=true:=by rw [show sk=xQ1.kind from congrArg Stmt.kind HQ1.out];rfl
 have d2:(stb.toList == [116])=true:=by rw [show stb=xQ1.table from congrArg Stmt.table HQ1.out];decide +kernel
 have hn1:snames.length=1:=by rw [show snames=xQ1.names from congrArg Stmt.names HQ1.out];rfl
 have hw1:swher.length=1:=by rw [show swher=xQ1.wher from congrArg Stmt.wher HQ1.out];rfl
 have hs1:tsets.length=1:=by rw [show tsets=xQ2.sets from congrArg Stmt.sets HQ2.out];rfl
 have d3:(snames.length == 1)=true:=by rw [hn1];rfl
 have d4:(swher.length == 1)=true:=by rw [hw1];rfl
 have d5:(tsets.length == 1)=true:=by rw [hs1];rfl
 have f3:((snames.length:Int) == 1)=true:=by rw [hn1];rfl
 have f4:((swher.length:Int) == 1)=true:=by rw [hw1];rfl
 have f5:((tsets.length:Int) == 1)=true:=by rw [hs1];rfl
 have p4:0<swher.length:=by rw [hw1];decide
 have p5:0<tsets.length:=by rw [hs1];decide
 have rw0:=(LA.out w6 b0R).wher
 have rs0:=(LB.out w6 b0R).sets
 simp only at rw0 rs0
 obtain ⟨ga,oa,rfl,_,_⟩:=rw0.row.2.2.2.addr (by intro e;rw [e] at p4;exact absurd p4 (by decide))
 obtain ⟨gb,ob,rfl,_,_⟩:=rs0.row.2.2.2.addr (by intro e;rw [e] at p5;exact absurd p5 (by decide))
 have ca:=rw0.row.2.2.2.cond 0 p4
 have cb:=rs0.row.2.2.2.set 0 p5
 have hx:swher[0]=⟨⟨#[98]⟩,6,⟨1,-1,noStr⟩⟩:=by
  have e:swher=xQ1.wher:=congrArg Stmt.wher HQ1.out
  subst e
  rfl
 have hy:tsets[0]=⟨⟨#[97]⟩,⟨#[97]⟩,⟨1,1,noStr⟩⟩:=by
  have e:tsets=xQ2.sets:=congrArg Stmt.sets HQ2.out
  subst e
  rfl
 obtain ⟨⟨xc,xo,⟨xk,xn,xs⟩⟩,hx0⟩:∃ x:Cond,x=⟨⟨#[98]⟩,6,⟨1,-1,noStr⟩⟩:=⟨_,rfl⟩
 obtain ⟨⟨yc,y2,⟨yk,yn,ys⟩⟩,hy0⟩:∃ x:SetV,x=⟨⟨#[97]⟩,⟨#[97]⟩,⟨1,1,noStr⟩⟩:=⟨_,rfl⟩
 rw [hx,<- hx0] at ca
 rw [hy,<- hy0] at cb
 simp only [Nat.zero_mul,Nat.add_zero] at ca cb
 simp only [Cond.mk.injEq,Val.mk.injEq] at hx0
 simp only [SetV.mk.injEq,Val.mk.injEq] at hy0
 have g0:(xc.toList == [98])=true:=by rw [hx0.1];decide +kernel
 have g1:(xo == 6)=true:=by rw [hx0.2.1];rfl
 have g2:(xk == 1)=true:=by rw [hx0.2.2.1];rfl
 have g3:(xn == -1)=true:=by rw [hx0.2.2.2.1];rfl
 have g4:=str_none hx0.2.2.2.2
 have h0:(yc.toList == [97])=true:=by rw [hy0.1];decide +kernel
 have h1:(y2.toList == [97])=true:=by rw [hy0.2.1];decide +kernel
 have h2:(yk == 1)=true:=by rw [hy0.2.2.1];rfl
 have h3:(yn == 1)=true:=by rw [hy0.2.2.2.1];rfl
 have h4:=str_none hy0.2.2.2.2
 obtain ⟨g4,g5⟩:=g4
 obtain ⟨h4,h5⟩:=h4
 have g6:(xs.toList == [])=true:=by rw [hx0.2.2.2.2];decide +kernel
 have h6:(ys.toList == [])=true:=by rw [hy0.2.2.2.2];decide +kernel
 obtain ⟨ca0,ca1,ca2,ca3,ca4⟩:=ca
 obtain ⟨cb0,cb1,cb2,cb3,cb4⟩:=cb
 obtain ⟨at0,ct,hlv,-,-,htr⟩:=htk
 have hlv:lv=.slice at0 4 ct:=hlv
 subst hlv
 obtain ⟨gt,ot,rfl,_,_⟩:=htr.addr (by intro e;cases e)
 have cr1:=htr.flat 1 (by decide) 2 (by decide)
 have cr2:=htr.flat 2 (by decide) 2 (by decide)
 have cr3:=htr.flat 2 (by decide) 1 (by decide)
 have cr4:=htr.flat 3 (by decide) 3 (by decide)
 obtain ⟨t1,ht1⟩:∃ x:ByteArray,x=⟨#[60,61]⟩:=⟨_,rfl⟩
 obtain ⟨t2,ht2⟩:∃ x:ByteArray,x=⟨#[105,116,39,115]⟩:=⟨_,rfl⟩
 obtain ⟨t3,ht3⟩:∃ x:Int,x=4:=⟨_,rfl⟩
 obtain ⟨t4,ht4⟩:∃ x:Int,x=-5:=⟨_,rfl⟩
 have ct1:w6.cell? ⟨gt,ot+6,none⟩=some (.string t1):=by rw [ht1];exact cr1
 have ct2:w6.cell? ⟨gt,ot+10,none⟩=some (.string t2):=by rw [ht2];exact cr2
 have ct3:w6.cell? ⟨gt,ot+9,none⟩=some (.int .i64 t3):=by rw [ht3];exact cr3
 have ct4:w6.cell? ⟨gt,ot+15,none⟩=some (.int .i64 t4):=by rw [ht4];exact cr4
 have k1:(t1.toList == [60,61])=true:=by rw [ht1];decide +kernel
 have k2:(t2.toList == [105,116,39,115])=true:=by rw [ht2];decide +kernel
 have k3:(t3 == 4)=true:=by rw [ht3];rfl
 have k4:(t4 == -5)=true:=by rw [ht4];rfl
 have x0:=jC hA 0
 have x1:=jC hA 1
 have x2:=jC hA 2
 have x3:=jC hA 3
 have x4:=jC hA 4
 have x5:=jC hA 5
 have x6:=jC hA 6
 have x7:=jC hA 7
 have x8:=jC hA 8
 have x9:=jC hA 9
 have x10:=jC hA 10
 have x11:=jC hA 11
 have x12:=jC hA 12
 have x13:=jC hA 13
 have x14:=jC hA 14
 simp only [gT,gZ,gS] at x0 x1 x2 x3 x4 x5 x6 x7 x8 x9 x10 x11 x12 x13 x14
 have v0:=jC hB 0
 have v1:=jC hB 1
 have v2:=jC hB 2
 have v3:=jC hB 3
 have v4:=jC hB 4
 have v5:=jC hB 5
 have v6:=jC hB 6
 have v7:=jC hB 7
 have v8:=jC hB 8
 have v9:=jC hB 9
 have v10:=jC hB 10
 have v11:=jC hB 11
 have v12:=jC hB 12
 have v13:=jC hB 13
 have v14:=jC hB 14
 simp only [gT,gZ,gS] at v0 v1 v2 v3 v4 v5 v6 v7 v8 v9 v10 v11 v12 v13 v14
 obtain ⟨PV,hPV⟩:∃ P,P=printM ⟨tk,ttb,tnm,tcols,tnames,trow,tsets,twher,tj,tl,tr,ta,torder,tm,tn⟩:=⟨_,rfl⟩
 have k5:(PV.toList == [117,112,100,97,116,101,32,116,32,115,101,116,32,97,32,61,32,97,32,43,32,49])=true:=by rw [hPV,HQ2.out,xR2];decide +kernel
 have HPV:=hid hPV
 clear cr1 cr2 cr3 cr4 con5 b6 hA hB hn1 hw1 hs1 rw0 rs0 hx hy hx0 hy0 htr ht1 ht2 ht3 ht4 hPV
 go_upto_region 6 with (fail)
 go_cut [16] from 19 to 76 (fun x16 wx=>x16=.bool true/\Hid (wx=w6))
 case first =>
  go_wp2_with fail
  go_meet
  exact ⟨rfl,rfl⟩
 case rest =>
 obtain ⟨rfl,hwc⟩:=hcut
 have hwc:=hwc.out.symm
 subst hwc
 clear d1 d2 d3 d4 f3 f4 p4 g0 g1 g2 g3 g4 g5 g6 ca0 ca1 ca2 ca3 ca4
 go_upto_region 7 with (fail)
 go_cut [17] from 77 to 93 (fun x17 wx=>x17=.bool true/\Hid (wx=w6))
 case first =>
  go_wp2_with fail
  go_meet
  exact ⟨rfl,rfl⟩
 case rest =>
 obtain ⟨rfl,hwc⟩:=hcut
 have hwc:=hwc.out.symm
 subst hwc
 clear d5 f5 p5 h0 h1 h2 h3 h4 h5 h6 cb0 cb1 cb2 cb3 cb4
 go_upto_region 8 with (fail)
 go_cut [18] from 94 to 128 (fun x18 wx=>x18=.bool true/\Hid (wx=w6))
 case first =>
  go_wp2_with fail
  go_meet
  exact ⟨rfl,rfl⟩
 case rest =>
 obtain ⟨rfl,hwc⟩:=hcut
 have hwc:=hwc.out.symm
 subst hwc
 clear ct1 ct2 ct3 ct4 k1 k2 k3 k4
 go_upto_region 9 with (fail)
 have con:Calls Tryz.prog 7 #[.agg #[.int .i64 tk,.string ttb,.string tnm,.slice o0 tcols.length o00,.slice o1 tnames.length o11,.slice o2 trow.length o22,.slice (some ⟨gb,ob,none⟩) tsets.length o33,.slice o4 twher.length o44,.string tj,.string tl,.string tr,.int .i64 ta,.slice o5 torder.length o55,.int .i64 tm,.int .i64 tn]] w6 (fun e w'=>e=.returned (.string PV)/\Below w6.heap.size w6 w'):=by
  rw [HPV.out]
  exact print_any (p:=fun _=>True) (L:=⟨.slice o0 tcols.length o00,.slice o1 tnames.length o11,.slice o2 trow.length o22,.slice (some ⟨gb,ob,none⟩) tsets.length o33,.slice o4 twher.length o44,.slice o5 torder.length o55⟩) (s:=⟨tk,ttb,tnm,tcols,tnames,trow,tsets,twher,tj,tl,tr,ta,torder,tm,tn⟩) HE6.out (LB.out _ b0R) (by rw [HQ2.out];exact xOk2) (by rw [HQ2.out];exact xS2)
 go_wp2_with fail
 refine con.mono ?_
 rintro e w7 ⟨rfl,b7⟩
 have B7:=hid b7
 clear con x0 x1 x2 x3 x4 x5 x6 x7 x8 x9 x10 x11 x12 x13 x14 v0 v1 v2 v3 v4 v5 v6 v7 v8 v9 v10 v11 v12 v13 v14
 have hA7:=SA.out _ b7
 have x0:=jC hA7 0
 have x1:=jC hA7 1
 have x2:=jC hA7 2
 have x3:=jC hA7 3
 have x4:=jC hA7 4
 have x5:=jC hA7 5
 have x6:=jC hA7 6
 have x7:=jC hA7 7
 have x8:=jC hA7 8
 have x9:=jC hA7 9
 have x10:=jC hA7 10
 have x11:=jC hA7 11
 have x12:=jC hA7 12
 have x13:=jC hA7 13
 have x14:=jC hA7 14
 simp only [gT,gZ,gS] at x0 x1 x2 x3 x4 x5 x6 x7 x8 x9 x10 x11 x12 x13 x14
 have con2:Calls Tryz.prog 8 #[.agg #[.int .i64 sk,.string stb,.string snm,.slice a0 scols.length a00,.slice a1 snames.length a11,.slice a2 srow.length a22,.slice a3 ssets.length a33,.slice (some ⟨ga,oa,none⟩) swher.length a44,.string sj,.string sl,.string sr,.int .i64 sa,.slice a5 sorder.length a55,.int .i64 sm,.int .i64 sn]] w7 (fun e w'=>e=.returned (.bool true)/\Below w7.heap.size w7 w') :=
  (right_any (p:=fun _=>True) (L:=⟨.slice a0 scols.length a00,.slice a1 snames.length a11,.slice a2 srow.length a22,.slice a3 ssets.length a33,.slice (some ⟨ga,oa,none⟩) swher.length a44,.slice a5 sorder.length a55⟩) (s:=⟨sk,stb,snm,scols,snames,srow,ssets,swher,sj,sl,sr,sa,sorder,sm,sn⟩) (HE6.out.below b7) (LA.out _ b7) (by rw [HQ1.out];exact xOk1) (by rw [HQ1.out];exact xS1)).mono fun e w' h=>⟨h.1.trans (by rw [HQ1.out,xR1]),h.2⟩
 clear hA7 b7
 go_wp2_with fail
 refine con2.mono ?_
 rintro e w8 ⟨rfl,b8⟩
 have B8:=hid (step2 B7.out b8)
 clear con2 b8 x0 x1 x2 x3 x4 x5 x6 x7 x8 x9 x10 x11 x12 x13 x14 k5
 have con3:Calls Tryz.prog 8 #[.agg #[.int .i64 0,.string ⟨#[]⟩,.string ⟨#[]⟩,.slice none 0 0,.slice none 0 0,.slice none 0 0,.slice none 0 0,.slice none 0 0,.string ⟨#[]⟩,.string ⟨#[]⟩,.string ⟨#[]⟩,.int .i64 0,.slice none 0 0,.int .i64 0,.int .i64 0]] w8 (fun e w'=>e=.returned (.bool false)/\Below w8.heap.size w8 w') :=
  (right_any (p:=fun _=>True) (L:=nilL) (s:=stmt0) (HE6.out.below B8.out) (nil_read _ _) xOk0 xS0).mono fun e w' h=>⟨h.1.trans (by rw [xR0]),h.2⟩
 go_wp2_with fail
 refine con3.mono ?_
 rintro e w9 ⟨rfl,b9⟩
 have B9:=hid (step2 B8.out b9)
 clear con3 b9
 have hA9:=SA.out _ B9.out
 have x0:=jC hA9 0
 have x1:=jC hA9 1
 have x2:=jC hA9 2
 have x3:=jC hA9 3
 have x4:=jC hA9 4
 have x5:=jC hA9 5
 have x6:=jC hA9 6
 have x7:=jC hA9 7
 have x8:=jC hA9 8
 have x9:=jC hA9 9
 have x10:=jC hA9 10
 have x11:=jC hA9 11
 have x12:=jC hA9 12
 have x13:=jC hA9 13
 have x14:=jC hA9 14
 simp only [gT,gZ,gS] at x0 x1 x2 x3 x4 x5 x6 x7 x8 x9 x10 x11 x12 x13 x14
 have con4:Calls Tryz.prog 13 #[.agg #[.int .i64 sk,.string stb,.string snm,.slice a0 scols.length a00,.slice a1 snames.length a11,.slice a2 srow.length a22,.slice a3 ssets.length a33,.slice (some ⟨ga,oa,none⟩) swher.length a44,.string sj,.string sl,.string sr,.int .i64 sa,.slice a5 sorder.length a55,.int .i64 sm,.int .i64 sn],.agg #[.int .i64 sk,.string stb,.string snm,.slice a0 scols.length a00,.slice a1 snames.length a11,.slice a2 srow.length a22,.slice a3 ssets.length a33,.slice (some ⟨ga,oa,none⟩) swher.length a44,.string sj,.string sl,.string sr,.int .i64 sa,.slice a5 sorder.length a55,.int .i64 sm,.int .i64 sn]] w9 (fun e w'=>e=.returned (.bool true)/\Below w9.heap.size w9 w') :=
  (same_any (L:=⟨.slice a0 scols.length a00,.slice a1 snames.length a11,.slice a2 srow.length a22,.slice a3 ssets.length a33,.slice (some ⟨ga,oa,none⟩) swher.length a44,.slice a5 sorder.length a55⟩) (M:=⟨.slice a0 scols.length a00,.slice a1 snames.length a11,.slice a2 srow.length a22,.slice a3 ssets.length a33,.slice (some ⟨ga,oa,none⟩) swher.length a44,.slice a5 sorder.length a55⟩) (s:=⟨sk,stb,snm,scols,snames,srow,ssets,swher,sj,sl,sr,sa,sorder,sm,sn⟩) (t:=⟨sk,stb,snm,scols,snames,srow,ssets,swher,sj,sl,sr,sa,sorder,sm,sn⟩) (LA.out _ B9.out) (LA.out _ B9.out)).mono fun e w' h=>⟨h.1.trans (by rw [decide_eq_true rfl]),h.2⟩
 clear hA9
 go_wp2_with fail
 refine con4.mono ?_
 rintro e wa ⟨rfl,ba⟩
 have BA:=hid (step2 B9.out ba)
 clear con4 ba x0 x1 x2 x3 x4 x5 x6 x7 x8 x9 x10 x11 x12 x13 x14
 have hAA:=SA.out _ BA.out
 have hBA:=SB.out _ BA.out
 have x0:=jC hAA 0
 have x1:=jC hAA 1
 have x2:=jC hAA 2
 have x3:=jC hAA 3
 have x4:=jC hAA 4
 have x5:=jC hAA 5
 have x6:=jC hAA 6
 have x7:=jC hAA 7
 have x8:=jC hAA 8
 have x9:=jC hAA 9
 have x10:=jC hAA 10
 have x11:=jC hAA 11
 have x12:=jC hAA 12
 have x13:=jC hAA 13
 have x14:=jC hAA 14
 simp only [gT,gZ,gS] at x0 x1 x2 x3 x4 x5 x6 x7 x8 x9 x10 x11 x12 x13 x14
 have v0:=jC hBA 0
 have v1:=jC hBA 1
 have v2:=jC hBA 2
 have v3:=jC hBA 3
 have v4:=jC hBA 4
 have v5:=jC hBA 5
 have v6:=jC hBA 6
 have v7:=jC hBA 7
 have v8:=jC hBA 8
 have v9:=jC hBA 9
 have v10:=jC hBA 10
 have v11:=jC hBA 11
 have v12:=jC hBA 12
 have v13:=jC hBA 13
 have v14:=jC hBA 14
 simp only [gT,gZ,gS] at v0 v1 v2 v3 v4 v5 v6 v7 v8 v9 v10 v11 v12 v13 v14
 have con5:Calls Tryz.prog 13 #[.agg #[.int .i64 sk,.string stb,.string snm,.slice a0 scols.length a00,.slice a1 snames.length a11,.slice a2 srow.length a22,.slice a3 ssets.length a33,.slice (some ⟨ga,oa,none⟩) swher.length a44,.string sj,.string sl,.string sr,.int .i64 sa,.slice a5 sorder.length a55,.int .i64 sm,.int .i64 sn],.agg #[.int .i64 tk,.string ttb,.string tnm,.slice o0 tcols.length o00,.slice o1 tnames.length o11,.slice o2 trow.length o22,.slice (some ⟨gb,ob,none⟩) tsets.length o33,.slice o4 twher.length o44,.string tj,.string tl,.string tr,.int .i64 ta,.slice o5 torder.length o55,.int .i64 tm,.int .i64 tn]] wa (fun e w'=>e=.returned (.bool false)/\Below wa.heap.size wa w') :=
  (same_any (L:=⟨.slice a0 scols.length a00,.slice a1 snames.length a11,.slice a2 srow.length a22,.slice a3 ssets.length a33,.slice (some ⟨ga,oa,none⟩) swher.length a44,.slice a5 sorder.length a55⟩) (M:=⟨.slice o0 tcols.length o00,.slice o1 tnames.length o11,.slice o2 trow.length o22,.slice (some ⟨gb,ob,none⟩) tsets.length o33,.slice o4 twher.length o44,.slice o5 torder.length o55⟩) (s:=⟨sk,stb,snm,scols,snames,srow,ssets,swher,sj,sl,sr,sa,sorder,sm,sn⟩) (t:=⟨tk,ttb,tnm,tcols,tnames,trow,tsets,twher,tj,tl,tr,ta,torder,tm,tn⟩) (LA.out _ BA.out) (LB.out _ BA.out)).mono fun e w' h=>⟨h.1.trans (by rw [HQ1.out,HQ2.out,decide_eq_false xN]),h.2⟩
 clear hAA hBA
 go_wp2_with fail
 refine con5.mono ?_
 rintro e wb ⟨rfl,bb⟩
 have BB9:=hid (step2 BA.out bb)
 clear con5 bb x0 x1 x2 x3 x4 x5 x6 x7 x8 x9 x10 x11 x12 x13 x14 v0 v1 v2 v3 v4 v5 v6 v7 v8 v9 v10 v11 v12 v13 v14
 go_wp2_with fail
 rw [HPST.out]
 exact ⟨rfl,step2 HB6.out BB9.out⟩
end
end Go.Proofs.YtjcpccadmcglgaaGreatDoor
