/- vintnerref18.Made: kind 7. -/
import Derived.Test.YtgemihkcihigpaaGreatDoorZD35
import Derived.Test.YtgemihkcihigpaaGreatDoorZD36
set_option linter.unusedVariables false
set_option linter.unusedSimpArgs false
set_option maxRecDepth 100000
set_option maxHeartbeats 64000000
namespace Go.Proofs.YtgemihkcihigpaaGreatDoor
open Go.Lib (hid)
section
open Go.RowKit
noncomputable def mcode7:Code:=(Tryz.f36.body.bind (condThen 158)).getD .skip
theorem made_k7 {Q:Exit->Act->World->Prop} {V U:World} {q2 q3 q5 q6 q7:Nat} {x0 x1 x2 x3 x4 x5 x6 x7 x8 x9 x10 x11 x12 x13 x14 x15:Int} {L:List Cond} {a:Option Addr} {c:Nat} {tb:ByteArray} {g0 g1 g2 g4 g8 g9 g10 g11 g12 g13 g14 g15 g16 g17 g18 g19 g20 g21 g22 g23 g24 g25 g26 g27 g28 g29 g30 g31 g32 g33 g34 g35 g36 g37 g38 g39 g40 g41 g42 g43 g44 g45 g46 g47 g48 g49 g50 g51 g52 g53 g54 g55 g56 g57 g58 g59 g60 g61 g62 g63 g64 g65 g66 g67 g68 g69 g70 g71 g72 g73 g74 g75 g76 g77 g78 g79 g80 g81 g82 g83 g84 g85 g86 g87 g88 g89 g90 g91 g92 g93 g94 g95 g96 g97 g98 g99 g100 g101 g102 g103 g104 g105 g106 g107 g108 g109 g110 g111 g112 g113 g114 g115 g116 g117 g118 g119 g120 g121 g122 g123 g124 g125 g126 g127 g128 g129 g130 g131 g132 g133 g134 g135 g136 g137 g138 g139 g140 g141 g142 g143 g144 g145 g146 g147 g148 g149 g150 g151 g152 g153 g154 g155 g156 g157 g158 g159 g160 g161 g162 g163 g164 g165 g166 g167 g168 g169 g170 g171 g172 g173 g174 g175 g176 g177 g178 g179 g180 g181 g182 g183 g184 g185 g186 g187 g188 g189 g190 g191 g192 g193 g194 g195 g196 g197 g198 g199 g200 g201 g202 g203 g204 g205 g206 g207 g208 g209 g210 g211 g212 g213 g214 g215 g216 g217 g218 g219 g220 g221 g222 g223 g224 g225 g226 g227 g228 g229 g230 g231 g232 g233 g234 g235 g236 g237 g238 g239 g240 g241 g242 g243 g244 g245 g246 g247 g248 g249 g250 g251 g252 g253 g254 g255 g256 g257 g258 g259 g260 g261 g262 g263 g264 g265 g266 g267 g268 g269 g270 g271 g272 g273 g274 g275 g276 g277 g278 g279 g280 g281 g282 g283 g284 g285 g286 g287 g288 g289 g290 g291 g292 g293 g294 g295 g296 g297 g298 g299 g300 g301 g302 g303 g304 g305 g306 g307:Value}
 (HRN0:∀ x ∈ [x0,x1,x2,x3,x4,x5,x6,x7,x8,x9,x10,x11,x12,x13,x14,x15],0<=x/\x<=65535) (H3:V.heap[q3]? = some (.cells #[.int .i64 x0,.int .i64 x1,.int .i64 x2,.int .i64 x3,.int .i64 x4,.int .i64 x5,.int .i64 x6,.int .i64 x7,.int .i64 x8,.int .i64 x9,.int .i64 x10,.int .i64 x11,.int .i64 x12,.int .i64 x13,.int .i64 x14,.int .i64 x15] 3 (0,0))) (H5:V.heap[q5]? = some (.cells tabs6 9 (0,0))) (H6:V.heap[q6]? = some (.cells cols6 9 (0,0)))
 (H37:q3<q7/\q5<q7/\q6<q7/\q2<q7) (HV:V.grownBy U (some q7)) (H7:U.heap[q7]? = some (.cells #[.int .i64 7,.string tb,.string ⟨#[]⟩,.slice none 0 0,.slice none 0 0,.slice none 0 0,.slice none 0 0,.slice a L.length c,.string ⟨#[]⟩,.string ⟨#[]⟩,.string ⟨#[]⟩,.int .i64 0,.slice none 0 0,.int .i64 0,.int .i64 0] 39 (0,0))) (HLW:Lst condR q7 U a c L) (HLL:L.length<=2/\∀ x ∈ L,CondOk x) (HTT:tb.size<=1)
 (hQ:∀ (d8 d9 d10 d11 d12 d13 d14 d15 d16 d17 d18 d19 d20 d21 d22 d23 d24 d25 d26 d27 d28 d29 d30 d31 d32 d33 d34 d35 d36 d37 d38 d39 d40 d41 d42 d43 d44 d45 d46 d47 d48 d49 d50 d51 d52 d53 d54 d55 d56 d57 d58 d59 d60 d61 d62 d63 d64 d65 d66 d67 d68 d69 d70 d71 d72 d73 d74 d75 d76 d77 d78 d79 d80 d81 d82 d83 d84 d85 d86 d87 d88 d89 d90 d91 d92 d93 d94 d95 d96 d97 d98 d99 d100 d101 d102 d103 d104 d105 d106 d107 d108 d109 d110 d111 d112 d113 d114 d115 d116 d117 d118 d119 d120 d121 d122 d123 d124 d125 d126 d127 d128 d129 d130 d131 d132 d133 d134 d135 d136 d137 d138 d139 d140 d141 d142 d143 d144 d145 d146 d147 d148 d149 d150 d151 d152 d153 d154 d155 d156 d157 d158 d159 d160 d161 d162 d163 d164 d165 d166 d167 d168 d169 d170 d171 d172 d173 d174 d175 d176 d177 d178 d179 d180 d181 d182 d183 d184 d185 d186 d187 d188 d189 d190 d191 d192 d193 d194 d195 d196 d197 d198 d199 d200 d201 d202 d203 d204 d205 d206 d207 d208 d209 d210 d211 d212 d213 d214 d215 d216 d217 d218 d219 d220 d221 d222 d223 d224 d225 d226 d227 d228 d229 d230 d231 d232 d233 d234 d235 d236 d237 d238 d239 d240 d241 d242 d243 d244 d245 d246 d247 d248 d249 d250 d251 d252 d253 d254 d255 d256 d257 d258 d259 d260 d261 d262 d263 d264 d265 d266 d267 d268 d269 d270 d271 d272 d273 d274 d275 d276 d277 d278 d279 d280 d281 d282 d283 d284 d285 d286 d287 d288 d289 d290 d291 d292 d293 d294 d295 d296 d297 d298 d299 d300 d301 d302 d303 d304 d305 d306 d307:Value) (w':World),StQ V q7 7 w'->Q .normal ⟨#[g0,g1,g2,.slice (some ⟨q3,0,none⟩) 16 16,g4,.slice (some ⟨q5,0,none⟩) 6 6,.slice (some ⟨q6,0,none⟩) 6 6,.pointer (some ⟨q7,0,none⟩),d8,d9,d10,d11,d12,d13,d14,d15,d16,d17,d18,d19,d20,d21,d22,d23,d24,d25,d26,d27,d28,d29,d30,d31,d32,d33,d34,d35,d36,d37,d38,d39,d40,d41,d42,d43,d44,d45,d46,d47,d48,d49,d50,d51,d52,d53,d54,d55,d56,d57,d58,d59,d60,d61,d62,d63,d64,d65,d66,d67,d68,d69,d70,d71,d72,d73,d74,d75,d76,d77,d78,d79,d80,d81,d82,d83,d84,d85,d86,d87,d88,d89,d90,d91,d92,d93,d94,d95,d96,d97,d98,d99,d100,d101,d102,d103,d104,d105,d106,d107,d108,d109,d110,d111,d112,d113,d114,d115,d116,d117,d118,d119,d120,d121,d122,d123,d124,d125,d126,d127,d128,d129,d130,d131,d132,d133,d134,d135,d136,d137,d138,d139,d140,d141,d142,d143,d144,d145,d146,d147,d148,d149,d150,d151,d152,d153,d154,d155,d156,d157,d158,d159,d160,d161,d162,d163,d164,d165,d166,d167,d168,d169,d170,d171,d172,d173,d174,d175,d176,d177,d178,d179,d180,d181,d182,d183,d184,d185,d186,d187,d188,d189,d190,d191,d192,d193,d194,d195,d196,d197,d198,d199,d200,d201,d202,d203,d204,d205,d206,d207,d208,d209,d210,d211,d212,d213,d214,d215,d216,d217,d218,d219,d220,d221,d222,d223,d224,d225,d226,d227,d228,d229,d230,d231,d232,d233,d234,d235,d236,d237,d238,d239,d240,d241,d242,d243,d244,d245,d246,d247,d248,d249,d250,d251,d252,d253,d254,d255,d256,d257,d258,d259,d260,d261,d262,d263,d264,d265,d266,d267,d268,d269,d270,d271,d272,d273,d274,d275,d276,d277,d278,d279,d280,d281,d282,d283,d284,d285,d286,d287,d288,d289,d290,d291,d292,d293,d294,d295,d296,d297,d298,d299,d300,d301,d302,d303,d304,d305,d306,d307],[]⟩ w'):Code.wp Tryz.prog mcode7 Q ⟨#[g0,g1,g2,.slice (some ⟨q3,0,none⟩) 16 16,g4,.slice (some ⟨q5,0,none⟩) 6 6,.slice (some ⟨q6,0,none⟩) 6 6,.pointer (some ⟨q7,0,none⟩),g8,g9,g10,g11,g12,g13,g14,g15,g16,g17,g18,g19,g20,g21,g22,g23,g24,g25,g26,g27,g28,g29,g30,g31,g32,g33,g34,g35,g36,g37,g38,g39,g40,g41,g42,g43,g44,g45,g46,g47,g48,g49,g50,g51,g52,g53,g54,g55,g56,g57,g58,g59,g60,g61,g62,g63,g64,g65,g66,g67,g68,g69,g70,g71,g72,g73,g74,g75,g76,g77,g78,g79,g80,g81,g82,g83,g84,g85,g86,g87,g88,g89,g90,g91,g92,g93,g94,g95,g96,g97,g98,g99,g100,g101,g102,g103,g104,g105,g106,g107,g108,g109,g110,g111,g112,g113,g114,g115,g116,g117,g118,g119,g120,g121,g122,g123,g124,g125,g126,g127,g128,g129,g130,g131,g132,g133,g134,g135,g136,g137,g138,g139,g140,g141,g142,g143,g144,g145,g146,g147,g148,g149,g150,g151,g152,g153,g154,g155,g156,g157,g158,g159,g160,g161,g162,g163,g164,g165,g166,g167,g168,g169,g170,g171,g172,g173,g174,g175,g176,g177,g178,g179,g180,g181,g182,g183,g184,g185,g186,g187,g188,g189,g190,g191,g192,g193,g194,g195,g196,g197,g198,g199,g200,g201,g202,g203,g204,g205,g206,g207,g208,g209,g210,g211,g212,g213,g214,g215,g216,g217,g218,g219,g220,g221,g222,g223,g224,g225,g226,g227,g228,g229,g230,g231,g232,g233,g234,g235,g236,g237,g238,g239,g240,g241,g242,g243,g244,g245,g246,g247,g248,g249,g250,g251,g252,g253,g254,g255,g256,g257,g258,g259,g260,g261,g262,g263,g264,g265,g266,g267,g268,g269,g270,g271,g272,g273,g274,g275,g276,g277,g278,g279,g280,g281,g282,g283,g284,g285,g286,g287,g288,g289,g290,g291,g292,g293,g294,g295,g296,g297,g298,g299,g300,g301,g302,g303,g304,g305,g306,g307],[]⟩ U:=by
 conv=>arg 2;whnf
 have HRN:=hid HRN0
 have HB0:=hid (HRN0 x0 (by simp))
 have HB1:=hid (HRN0 x1 (by simp))
 have HB2:=hid (HRN0 x2 (by simp))
 have HB3:=hid (HRN0 x3 (by simp))
 have HB4:=hid (HRN0 x4 (by simp))
 have HB5:=hid (HRN0 x5 (by simp))
 have HB6:=hid (HRN0 x6 (by simp))
 have HB7:=hid (HRN0 x7 (by simp))
 have HB8:=hid (HRN0 x8 (by simp))
 have HB9:=hid (HRN0 x9 (by simp))
 have HB10:=hid (HRN0 x10 (by simp))
 have HB11:=hid (HRN0 x11 (by simp))
 have HB12:=hid (HRN0 x12 (by simp))
 have HB13:=hid (HRN0 x13 (by simp))
 have HB14:=hid (HRN0 x14 (by simp))
 have HB15:=hid (HRN0 x15 (by simp))
 have Gq3:=hid H3
 have Gq5:=hid H5
 have Gq6:=hid H6
 have L37:=hid H37
 have GV:=hid HV
 have Cq7:=hid H7
 have LW:=hid HLW
 have HL:=hid HLL
 have HTB:=hid HTT
 have Cq3:=hid ((GV.out.block _ (jB Gq3.out) (fun e=>Nat.ne_of_lt L37.out.1 (jI e))).trans Gq3.out)
 have Cq5:=hid ((GV.out.block _ (jB Gq5.out) (fun e=>Nat.ne_of_lt L37.out.2.1 (jI e))).trans Gq5.out)
 have Cq6:=hid ((GV.out.block _ (jB Gq6.out) (fun e=>Nat.ne_of_lt L37.out.2.2.1 (jI e))).trans Gq6.out)
 obtain ⟨iV,hV,hV0,hV1,hV2⟩:=info_parts info_mv
 obtain ⟨iS,hS,hS0,hS1,hS2⟩:=info_parts info_mst
 obtain ⟨iE,hE,hE0,hE1,hE2⟩:=info_parts info_mse
 have HQ:=hid hQ
 clear HRN0 H3 H5 H6 H37 HV H7 HLW HLL HTT hQ
 have m7:=jC Cq7.out 11
 have n7:=free_of Cq7.out 11
 simp only [gT,gZ,gS] at m7
 have c9:=jC Cq3.out 9
 simp only [gT,gZ,gS] at c9
 have bx9:=HB9.out
 have hidx:=idx8 (x9 % 8) (by omega) (by omega)
 go_upto_region 30 with (fail)
 generalize hA:World.setCell _ _ _=U1
 have hg:U.grownBy U1 (some q7):=by rw [<- hA];exact grown_cell U ⟨q7,11,none⟩ _
 replace Cq7:=hid (show U1.heap[q7]? = some (.cells #[.int .i64 7,.string tb,.string ⟨#[]⟩,.slice none 0 0,.slice none 0 0,.slice none 0 0,.slice none 0 0,.slice a L.length c,.string ⟨#[]⟩,.string ⟨#[]⟩,.string ⟨#[]⟩,.int .i64 (ag8 (x9 % 8)),.slice none 0 0,.int .i64 0,.int .i64 0] 39 (0,0)) by
  rw [<- hA]
  exact (heap_setCell_same _ _ _ _ _ _ Cq7.out).trans rfl)
 replace GV:=hid (grown_tra GV.out hg)
 replace Cq3:=hid ((GV.out.block _ (jB Gq3.out) (fun e=>Nat.ne_of_lt L37.out.1 (jI e))).trans Gq3.out)
 replace Cq5:=hid ((GV.out.block _ (jB Gq5.out) (fun e=>Nat.ne_of_lt L37.out.2.1 (jI e))).trans Gq5.out)
 replace Cq6:=hid ((GV.out.block _ (jB Gq6.out) (fun e=>Nat.ne_of_lt L37.out.2.2.1 (jI e))).trans Gq6.out)
 replace LW:=hid (LW.out.grown hg)
 clear hA hg m7 n7 c9 bx9 hidx
 obtain ⟨ag,hag⟩:∃ g,ag8 (x9 % 8)=g:=⟨_,rfl⟩
 rw [hag] at Cq7
 clear hag
 go_upto_block 9 with (fail)
 go_cut [] from 12 to 203 (fun wx=>∃ (M:List ByteArray) (am:Option Addr) (cm:Nat),Hid (M.length<=2/\U1.grownBy wx (some q7)/\wx.heap[q7]? = some (.cells #[.int .i64 7,.string tb,.string ⟨#[]⟩,.slice none 0 0,.slice am M.length cm,.slice none 0 0,.slice none 0 0,.slice a L.length c,.string ⟨#[]⟩,.string ⟨#[]⟩,.string ⟨#[]⟩,.int .i64 ag,.slice none 0 0,.int .i64 0,.int .i64 0] 39 (0,0))/\Lst strF q7 wx am cm M/\∀ x ∈ M,StrOk x))
 case first =>
  go_wp2_with fail
  go_loopw [12] (fun x12 wr=>∃ (i:Nat) (M:List ByteArray) (am:Option Addr) (cm:Nat),i<=2/\x12=.int .i64 i/\Hid (M.length=i/\U1.grownBy wr (some q7)/\wr.heap[q7]? = some (.cells #[.int .i64 7,.string tb,.string ⟨#[]⟩,.slice none 0 0,.slice am i cm,.slice none 0 0,.slice none 0 0,.slice a L.length c,.string ⟨#[]⟩,.string ⟨#[]⟩,.string ⟨#[]⟩,.int .i64 ag,.slice none 0 0,.int .i64 0,.int .i64 0] 39 (0,0))/\wr.ownsRow U1.heap.size 9 1 (.slice am i cm) i (M.flatMap strEnc)/\(M=[]->am=none/\cm=0)/\∀ x ∈ M,StrOk x)) (fun x12 _=>3 - (intOf x12).toNat)
  case atStart=>exact ⟨0,[],none,0,by omega,rfl,rfl,grownBy_refl _ _,Cq7.out,World.ownsRow_nil _ _ _ _,fun _=>⟨rfl,rfl⟩,fun x hx=>by cases hx⟩
  case round =>
   obtain ⟨i,M,am,cm,hi2,rfl,HR⟩:=hrel
   have Rq3:=hid ((HR.out.2.1.block _ (jB Cq3.out) (fun e=>Nat.ne_of_lt L37.out.1 (jI e))).trans Cq3.out)
   have Rq6:=hid ((HR.out.2.1.block _ (jB Cq6.out) (fun e=>Nat.ne_of_lt L37.out.2.2.1 (jI e))).trans Cq6.out)
   have Rq7:=hid HR.out.2.2.1
   have c10:=jC Rq3.out 10
   have cg:=jC Rq7.out 11
   simp only [gT,gZ,gS] at c10 cg
   have bx10:=HB10.out
   go_upto_region 31 with (fail)
   go_cut [187] from 167 to 187 (fun x187 wx=>∃ bb:Bool,x187=.bool bb/\(bb=true->(i:Int)<1+x10 % 2)/\Hid (wx=wr))
   case first =>
    by_cases hA:(i:Int)<1+x10 % 2
    · by_cases hB:ag=0
      · subst hB
        go_wp2_with fail
        go_meet
        exact ⟨_,rfl,fun _=>hA,rfl⟩
      · have e1:(ag == 0)=false:=by simpa using hB
        by_cases hC:i<1
        · go_wp2_with fail
          go_meet
          exact ⟨_,rfl,fun _=>hA,rfl⟩
        · go_wp2_with fail
          go_meet
          exact ⟨_,rfl,fun _=>hA,rfl⟩
    · go_wp2_with fail
      go_meet
      exact ⟨_,rfl,fun h=>by simp at h,rfl⟩
   obtain ⟨bb,rfl,hbb,hwc⟩:=hcut
   have hwc':wr=wc:=hwc.out.symm
   subst hwc'
   clear hwc
   rcases (show bb=true \/ bb=false by cases bb <;> simp) with rfl|rfl
   · have hlt:=hbb rfl
     have hi1:i<=1:=by omega
     have Nq3:=hid (own_neB HR.out.2.2.2.1 (jB Cq3.out))
     have Nq6:=hid (own_neB HR.out.2.2.2.1 (jB Cq6.out))
     have Nq7:=hid (own_neB HR.out.2.2.2.1 (jB Cq7.out))
     have HNB:=hid (show ∀ b,(Value.slice am i cm).ownBlock=some b->b<wr.heap.size from fun b e=>(HR.out.2.2.2.1.lt b e).2)
     have HSZ:=hid HR.out.2.1.size
     go_upto_region 33 with (fail)
     clear c10 bx10 cg
     apply wp_region_growg 13 12 (Value.slice am i cm).ownBlock [190,191,192,193,194,195,196,197,198,199,200,201,202]
      [fun _ u _=>u=.pointer (some ⟨q7,4,none⟩),
       fun _ u _=>u=.slice am i cm,
       fun _ u _=>u=.slice (some ⟨q6,0,none⟩) 6 6,
       fun _ u _=>u=.slice (some ⟨q3,0,none⟩) 16 16,
       fun _ u _=>u=.pointer (some ⟨q3,11,none⟩),
       fun _ u _=>u=.int .i64 x11,
       fun _ u _=>u=.int .i64 ((i:Int)),
       fun _ u _=>u=.int .i64 (x11+(i:Int)),
       fun _ u _=>u=.int .i64 ((x11+(i:Int)) % 5),
       fun _ u _=>u=.pointer (some ⟨q6,((x11+(i:Int)) % 5).toNat,none⟩),
       fun _ u _=>u=.string (mcS ((x11+(i:Int)) % 5)),
       fun _ u w'=>NewEl strEnc StrOk 9 wr.heap.size u w',
       fun _ u w'=>AppEl strEnc StrOk 9 1 U1.heap.size i M u w']
      (fun w'=>wr.grownBy w' (Value.slice am i cm).ownBlock) (Below wr.heap.size wr)
     case hF =>
      intro v
      simp only [setAll,List.foldl_cons,List.foldl_nil,Act.put,List.setIfInBounds_toArray,List.set_cons_succ,List.set_cons_zero]
      exact rfl
     case hm=>kernel_rfl
     case hB=>kernel_rfl
     case hsz=>kernel_rfl
     case hC=>exact fun w1 w2 h b=>h.trans b
     case hCp=>exact fun w1 w2 h b=>h.trans (b.mono h.size)
     case hw=>exact grownBy_of_below _ (Below.drew b0R)
     case hwp=>exact Below.drew b0R
     case hS =>
      intro j D hD v u
      obtain ⟨hj,rfl⟩:=List.getElem?_eq_some_iff.1 hD
      simp only [List.length_cons,List.length_nil] at hj
      rcases (show j=0 \/ j=1 \/ j=2 \/ j=3 \/ j=4 \/ j=5 \/ j=6 \/ j=7 \/ j=8 \/ j=9 \/ j=10 \/ j=11 \/ j=12 by omega) with rfl|rfl|rfl|rfl|rfl|rfl|rfl|rfl|rfl|rfl|rfl|rfl|rfl
      · show StableG (Value.slice am i cm).ownBlock _
        exact fun w1 w2 h _=>h
      · show StableG (Value.slice am i cm).ownBlock _
        exact fun w1 w2 h _=>h
      · show StableG (Value.slice am i cm).ownBlock _
        exact fun w1 w2 h _=>h
      · show StableG (Value.slice am i cm).ownBlock _
        exact fun w1 w2 h _=>h
      · show StableG (Value.slice am i cm).ownBlock _
        exact fun w1 w2 h _=>h
      · show StableG (Value.slice am i cm).ownBlock _
        exact fun w1 w2 h _=>h
      · show StableG (Value.slice am i cm).ownBlock _
        exact fun w1 w2 h _=>h
      · show StableG (Value.slice am i cm).ownBlock _
        exact fun w1 w2 h _=>h
      · show StableG (Value.slice am i cm).ownBlock _
        exact fun w1 w2 h _=>h
      · show StableG (Value.slice am i cm).ownBlock _
        exact fun w1 w2 h _=>h
      · show StableG (Value.slice am i cm).ownBlock _
        exact fun w1 w2 h _=>h
      · show StableG (Value.slice am i cm).ownBlock _
        exact fun w1 w2 h hb=>h.grown HNB.out hb
      · show Stable _
        exact fun w1 w2 h hb=>h.below hb
     case hob =>
      simp only [List.take_succ_cons,List.take_zero]
      apply growg_cons rfl
      · intro v w1 h1 hd
        clear hd
        clear h1
        go_wp2_with fail
        first|exact ⟨rfl,_,rfl,Below.refl _ _,rfl⟩|exact Below.refl _ _|exact ⟨Below.refl _ _,rfl⟩
      apply growg_cons rfl
      · intro v w1 h1 hd
        have g190:v 190=.pointer (some ⟨q7,4,none⟩):=hd 0 _ _ _ rfl rfl rfl rfl
        clear hd
        rw [g190]
        have c0:=jC ((h1.block _ (jB Rq7.out) Nq7.out).trans Rq7.out) 4
        simp only [gT,gZ,gS] at c0
        clear g190 h1
        go_wp2_with fail
        first|exact ⟨rfl,_,rfl,Below.refl _ _,rfl⟩|exact Below.refl _ _|exact ⟨Below.refl _ _,rfl⟩
      apply growg_cons rfl
      · intro v w1 h1 hd
        clear hd
        clear h1
        go_wp2_with fail
        first|exact ⟨rfl,_,rfl,Below.refl _ _,rfl⟩|exact Below.refl _ _|exact ⟨Below.refl _ _,rfl⟩
      apply growg_cons rfl
      · intro v w1 h1 hd
        clear hd
        clear h1
        go_wp2_with fail
        first|exact ⟨rfl,_,rfl,Below.refl _ _,rfl⟩|exact Below.refl _ _|exact ⟨Below.refl _ _,rfl⟩
      apply growg_cons rfl
      · intro v w1 h1 hd
        have g193:v 193=.slice (some ⟨q3,0,none⟩) 16 16:=hd 3 _ _ _ rfl rfl rfl rfl
        clear hd
        rw [g193]
        clear g193 h1
        go_wp2_with fail
        first|exact ⟨rfl,_,rfl,Below.refl _ _,rfl⟩|exact Below.refl _ _|exact ⟨Below.refl _ _,rfl⟩
      apply growg_cons rfl
      · intro v w1 h1 hd
        have g194:v 194=.pointer (some ⟨q3,11,none⟩):=hd 4 _ _ _ rfl rfl rfl rfl
        clear hd
        rw [g194]
        have c0:=jC ((h1.block _ (jB Rq3.out) Nq3.out).trans Rq3.out) 11
        simp only [gT,gZ,gS] at c0
        clear g194 h1
        go_wp2_with fail
        first|exact ⟨rfl,_,rfl,Below.refl _ _,rfl⟩|exact Below.refl _ _|exact ⟨Below.refl _ _,rfl⟩
      apply growg_cons rfl
      · intro v w1 h1 hd
        clear hd
        clear h1
        go_wp2_with fail
        first|exact ⟨rfl,_,rfl,Below.refl _ _,rfl⟩|exact Below.refl _ _|exact ⟨Below.refl _ _,rfl⟩
      apply growg_cons rfl
      · intro v w1 h1 hd
        have g195:v 195=.int .i64 x11:=hd 5 _ _ _ rfl rfl rfl rfl
        have g196:v 196=.int .i64 ((i:Int)):=hd 6 _ _ _ rfl rfl rfl rfl
        clear hd
        rw [g195,g196]
        have bx11:=HB11.out
        clear g195 g196 h1
        go_wp2_with fail
        first|exact ⟨rfl,_,rfl,Below.refl _ _,rfl⟩|exact Below.refl _ _|exact ⟨Below.refl _ _,rfl⟩
      apply growg_cons rfl
      · intro v w1 h1 hd
        have g197:v 197=.int .i64 (x11+(i:Int)):=hd 7 _ _ _ rfl rfl rfl rfl
        clear hd
        rw [g197]
        have bx11:=HB11.out
        clear g197 h1
        go_wp2_with fail
        first|exact ⟨rfl,_,rfl,Below.refl _ _,rfl⟩|exact Below.refl _ _|exact ⟨Below.refl _ _,rfl⟩
      apply growg_cons rfl
      · intro v w1 h1 hd
        have g192:v 192=.slice (some ⟨q6,0,none⟩) 6 6:=hd 2 _ _ _ rfl rfl rfl rfl
        have g198:v 198=.int .i64 ((x11+(i:Int)) % 5):=hd 8 _ _ _ rfl rfl rfl rfl
        clear hd
        rw [g192,g198]
        have bx11:=HB11.out
        have by0:0<=(x11+(i:Int)) % 5/\(x11+(i:Int)) % 5<6:=by omega
        clear g192 g198 h1
        go_wp2_with fail
        first|exact ⟨rfl,_,rfl,Below.refl _ _,rfl⟩|exact Below.refl _ _|exact ⟨Below.refl _ _,rfl⟩
      apply growg_cons rfl
      · intro v w1 h1 hd
        have g199:v 199=.pointer (some ⟨q6,((x11+(i:Int)) % 5).toNat,none⟩):=hd 9 _ _ _ rfl rfl rfl rfl
        clear hd
        rw [g199]
        have bx11:=HB11.out
        have by0:0<=(x11+(i:Int)) % 5/\(x11+(i:Int)) % 5<6:=by omega
        have c0:=col_at6 ((h1.block _ (jB Rq6.out) Nq6.out).trans Rq6.out) ((x11+(i:Int)) % 5) by0.1 by0.2
        clear g199 h1
        go_wp2_with fail
        first|exact ⟨rfl,_,rfl,Below.refl _ _,rfl⟩|exact Below.refl _ _|exact ⟨Below.refl _ _,rfl⟩
      apply growg_cons rfl
      · intro v w1 h1 hd
        have g1:v 200=.string (mcS ((x11+(i:Int)) % 5)):=hd 10 _ _ _ rfl rfl rfl rfl
        have hcc:StrOk (mcS ((x11+(i:Int)) % 5)):=mcS_size _
        clear hd
        rw [g1]
        have HSW:=hid h1.size
        have HCC:=hid hcc
        clear g1 hcc h1
        go_wp2_with fail
        have hb3:Below w1.heap.size w1 (w1.alloc (.cells #[.string (mcS ((x11+(i:Int)) % 5))] 9)):=(b0R).alloc (jR _) _
        have hn:NewEl strEnc StrOk 9 wr.heap.size (.slice (some ⟨w1.heap.size,0,none⟩) 1 1) (w1.alloc (.cells #[.string (mcS ((x11+(i:Int)) % 5))] 9)):=⟨(mcS ((x11+(i:Int)) % 5)),_,HCC.out,rfl,HSW.out,heap_alloc_new _ _⟩
        first|exact ⟨rfl,_,rfl,hb3,hn⟩|(and_intros <;> first|exact hb3|exact hn)
      apply growg_one rfl
      · intro v w1 h1 hp hd
        have g1:v 191=.slice am i cm:=hd 1 _ _ _ rfl rfl rfl rfl
        obtain ⟨xx,gn,hxx,g2,_,hgn⟩:NewEl strEnc StrOk 9 wr.heap.size (v 201) w1:=hd 11 _ _ _ rfl rfl rfl rfl
        clear hd
        rw [g1,g2]
        have HO:=hid (owns_below HR.out.2.2.2.1 hp)
        have hs1:=Nat.le_trans HSZ.out hp.size
        refine wpList_append_own_at _ rfl _ _ 33 rfl U1.heap.size 9 iS _ 1 16 Tryz.underlying33 hS hS0 hS1 hS2 rfl (by decide) (.slice am i cm) i _ rfl HO.out ⟨gn,0,none⟩ 1 1 (strEnc xx) rfl rfl (fun j u hj=>by rw [addr_add,jC hgn];simpa using hj) (strEnc_cells xx) (by unfold maxLen;omega) (by omega) (by omega) ?_
        intro v' w8 o1 g3 hx1 at1
        obtain ⟨va,vc,hv',_⟩:=owns_shape' o1
        subst hv'
        exact wpList_nil ⟨rfl,_,rfl,g3,xx,va,vc,hxx,rfl,by rw [List.flatMap_append];simpa using o1⟩
      exact growg_nil
     case hend =>
      intro v w9 h1 hd
      obtain ⟨xx,va,vc,hxx,g83,o9⟩:AppEl strEnc StrOk 9 1 U1.heap.size i M (v 202) w9:=hd 12 _ _ _ rfl rfl rfl
      clear hd
      rw [g83]
      have hz:=(h1.block _ (jB Rq7.out) Nq7.out).trans Rq7.out
      have m7:=jC hz 4
      have n7:=free_of hz 4
      simp only [gT,gZ,gS] at m7
      have HZ:=hid hz
      have HX:=hid (show _/\_/\_ from ⟨hxx,o9,h1⟩)
      clear g83 hz hxx o9 h1
      generalize v 190=k190,v 191=k191,v 192=k192,v 193=k193,v 194=k194,v 195=k195,v 196=k196,v 197=k197,v 198=k198,v 199=k199,v 200=k200,v 201=k201
      simp only [List.drop_succ_cons,List.drop_zero]
      go_wp2_with fail
      go_roundw
      case rel =>
       exact ⟨i+1,M ++ [xx],va,vc,by omega,by go_num,by rw [List.length_append,HR.out.1];rfl,grown_tra (loop_grow HR.out.2.1 HX.out.2.2 (fun b e=>(HR.out.2.2.2.1.lt b e).1)) (grown_cell _ ⟨q7,4,none⟩ _),(heap_setCell_same _ _ _ _ _ _ HZ.out).trans rfl,owns_set HX.out.2.1 (jB Cq7.out),fun e=>by simp at e,fun x hx=>by
        rcases List.mem_append.1 hx with hx|hx
        · exact HR.out.2.2.2.2.2 x hx
        · rw [List.mem_singleton.1 hx];exact HX.out.1⟩
      case measure=>simp [intOf];omega
   · have HH:=hid (show _/\_/\_/\_/\_ from ⟨hi2,HR.out.2.1,HR.out.2.2.1,(show Lst strF q7 wr am cm M from Lst.own (enc:=strEnc) (hl:=fun _=>rfl) (show wr.ownsRow U1.heap.size 9 1 (.slice am M.length cm) M.length (M.flatMap strEnc) by rw [HR.out.1];exact HR.out.2.2.2.1) (jB Cq7.out) (by rw [HR.out.1];omega) HR.out.2.2.2.2.1),HR.out.2.2.2.2.2⟩)
     go_wp2_with fail
     go_meet
     have hl:=HR.out.1
     subst hl
     exact ⟨M,am,cm,HH.out⟩
 case rest =>
  obtain ⟨M,am,cm,HW2⟩:=hcut
  have hg:=HW2.out.2.1
  replace GV:=hid (grown_tra GV.out hg)
  replace Cq7:=hid HW2.out.2.2.1
  have LM:=hid HW2.out.2.2.2.1
  have HM:=hid (show M.length<=2/\∀ x ∈ M,StrOk x from ⟨HW2.out.1,HW2.out.2.2.2.2⟩)
  replace Cq3:=hid ((GV.out.block _ (jB Gq3.out) (fun e=>Nat.ne_of_lt L37.out.1 (jI e))).trans Gq3.out)
  replace Cq5:=hid ((GV.out.block _ (jB Gq5.out) (fun e=>Nat.ne_of_lt L37.out.2.1 (jI e))).trans Gq5.out)
  replace Cq6:=hid ((GV.out.block _ (jB Gq6.out) (fun e=>Nat.ne_of_lt L37.out.2.2.1 (jI e))).trans Gq6.out)
  replace LW:=hid (LW.out.grown hg)
  clear hg HW2
  obtain ⟨U3,hU3⟩:∃ W,W=wc:=⟨_,rfl⟩
  subst hU3
  go_upto_block 11 with (fail)
  go_cut [] from 13 to 230 (fun wx=>∃ (P:List ByteArray) (ap:Option Addr) (cp:Nat),Hid (P.length<=2/\U3.grownBy wx (some q7)/\wx.heap[q7]? = some (.cells #[.int .i64 7,.string tb,.string ⟨#[]⟩,.slice none 0 0,.slice am M.length cm,.slice none 0 0,.slice none 0 0,.slice a L.length c,.string ⟨#[]⟩,.string ⟨#[]⟩,.string ⟨#[]⟩,.int .i64 ag,.slice ap P.length cp,.int .i64 0,.int .i64 0] 39 (0,0))/\Lst strF q7 wx ap cp P/\∀ x ∈ P,StrOk x))
  case first =>
   go_wp2_with fail
   go_loopw [13] (fun x13 wr=>∃ (i:Nat) (P:List ByteArray) (ap:Option Addr) (cp:Nat),i<=2/\x13=.int .i64 i/\Hid (P.length=i/\U3.grownBy wr (some q7)/\wr.heap[q7]? = some (.cells #[.int .i64 7,.string tb,.string ⟨#[]⟩,.slice none 0 0,.slice am M.length cm,.slice none 0 0,.slice none 0 0,.slice a L.length c,.string ⟨#[]⟩,.string ⟨#[]⟩,.string ⟨#[]⟩,.int .i64 ag,.slice ap i cp,.int .i64 0,.int .i64 0] 39 (0,0))/\wr.ownsRow U3.heap.size 9 1 (.slice ap i cp) i (P.flatMap strEnc)/\(P=[]->ap=none/\cp=0)/\∀ x ∈ P,StrOk x)) (fun x13 _=>3 - (intOf x13).toNat)
   case atStart=>exact ⟨0,[],none,0,by omega,rfl,rfl,grownBy_refl _ _,Cq7.out,World.ownsRow_nil _ _ _ _,fun _=>⟨rfl,rfl⟩,fun x hx=>by cases hx⟩
   case round =>
    obtain ⟨i,P,ap,cp,hi2,rfl,HR⟩:=hrel
    have Rq3:=hid ((HR.out.2.1.block _ (jB Cq3.out) (fun e=>Nat.ne_of_lt L37.out.1 (jI e))).trans Cq3.out)
    have Rq6:=hid ((HR.out.2.1.block _ (jB Cq6.out) (fun e=>Nat.ne_of_lt L37.out.2.2.1 (jI e))).trans Cq6.out)
    have Rq7:=hid HR.out.2.2.1
    have c12:=jC Rq3.out 12
    have cg:=jC Rq7.out 11
    simp only [gT,gZ,gS] at c12 cg
    have bx12:=HB12.out
    go_upto_region 35 with (fail)
    go_cut [214] from 204 to 214 (fun x214 wx=>∃ bb:Bool,x214=.bool bb/\(bb=true->(i:Int)<x12 % 3)/\Hid (wx=wr))
    case first =>
     by_cases hA:(i:Int)<x12 % 3
     · by_cases hB:ag=0
       · subst hB
         go_wp2_with fail
         go_meet
         exact ⟨_,rfl,fun _=>hA,rfl⟩
       · have e1:(ag == 0)=false:=by simpa using hB
         go_wp2_with fail
         go_meet
         exact ⟨_,rfl,fun _=>hA,rfl⟩
     · go_wp2_with fail
       go_meet
       exact ⟨_,rfl,fun h=>by simp at h,rfl⟩
    obtain ⟨bb,rfl,hbb,hwc⟩:=hcut
    have hwc':wr=wc:=hwc.out.symm
    subst hwc'
    clear hwc
    rcases (show bb=true \/ bb=false by cases bb <;> simp) with rfl|rfl
    · have hlt:=hbb rfl
      have hi1:i<=1:=by omega
      have Nq3:=hid (own_neB HR.out.2.2.2.1 (jB Cq3.out))
      have Nq6:=hid (own_neB HR.out.2.2.2.1 (jB Cq6.out))
      have Nq7:=hid (own_neB HR.out.2.2.2.1 (jB Cq7.out))
      have HNB:=hid (show ∀ b,(Value.slice ap i cp).ownBlock=some b->b<wr.heap.size from fun b e=>(HR.out.2.2.2.1.lt b e).2)
      have HSZ:=hid HR.out.2.1.size
      go_upto_region 37 with (fail)
      clear c12 bx12 cg
      apply wp_region_growg 13 12 (Value.slice ap i cp).ownBlock [217,218,219,220,221,222,223,224,225,226,227,228,229]
       [fun _ u _=>u=.pointer (some ⟨q7,12,none⟩),
        fun _ u _=>u=.slice ap i cp,
        fun _ u _=>u=.slice (some ⟨q6,0,none⟩) 6 6,
        fun _ u _=>u=.slice (some ⟨q3,0,none⟩) 16 16,
        fun _ u _=>u=.pointer (some ⟨q3,13,none⟩),
        fun _ u _=>u=.int .i64 x13,
        fun _ u _=>u=.int .i64 ((i:Int)),
        fun _ u _=>u=.int .i64 (x13+(i:Int)),
        fun _ u _=>u=.int .i64 ((x13+(i:Int)) % 5),
        fun _ u _=>u=.pointer (some ⟨q6,((x13+(i:Int)) % 5).toNat,none⟩),
        fun _ u _=>u=.string (mcS ((x13+(i:Int)) % 5)),
        fun _ u w'=>NewEl strEnc StrOk 9 wr.heap.size u w',
        fun _ u w'=>AppEl strEnc StrOk 9 1 U3.heap.size i P u w']
       (fun w'=>wr.grownBy w' (Value.slice ap i cp).ownBlock) (Below wr.heap.size wr)
      case hF =>
       intro v
       simp only [setAll,List.foldl_cons,List.foldl_nil,Act.put,List.setIfInBounds_toArray,List.set_cons_succ,List.set_cons_zero]
       exact rfl
      case hm=>kernel_rfl
      case hB=>kernel_rfl
      case hsz=>kernel_rfl
      case hC=>exact fun w1 w2 h b=>h.trans b
      case hCp=>exact fun w1 w2 h b=>h.trans (b.mono h.size)
      case hw=>exact grownBy_of_below _ (Below.drew b0R)
      case hwp=>exact Below.drew b0R
      case hS =>
       intro j D hD v u
       obtain ⟨hj,rfl⟩:=List.getElem?_eq_some_iff.1 hD
       simp only [List.length_cons,List.length_nil] at hj
       rcases (show j=0 \/ j=1 \/ j=2 \/ j=3 \/ j=4 \/ j=5 \/ j=6 \/ j=7 \/ j=8 \/ j=9 \/ j=10 \/ j=11 \/ j=12 by omega) with rfl|rfl|rfl|rfl|rfl|rfl|rfl|rfl|rfl|rfl|rfl|rfl|rfl
       · show StableG (Value.slice ap i cp).ownBlock _
         exact fun w1 w2 h _=>h
       · show StableG (Value.slice ap i cp).ownBlock _
         exact fun w1 w2 h _=>h
       · show StableG (Value.slice ap i cp).ownBlock _
         exact fun w1 w2 h _=>h
       · show StableG (Value.slice ap i cp).ownBlock _
         exact fun w1 w2 h _=>h
       · show StableG (Value.slice ap i cp).ownBlock _
         exact fun w1 w2 h _=>h
       · show StableG (Value.slice ap i cp).ownBlock _
         exact fun w1 w2 h _=>h
       · show StableG (Value.slice ap i cp).ownBlock _
         exact fun w1 w2 h _=>h
       · show StableG (Value.slice ap i cp).ownBlock _
         exact fun w1 w2 h _=>h
       · show StableG (Value.slice ap i cp).ownBlock _
         exact fun w1 w2 h _=>h
       · show StableG (Value.slice ap i cp).ownBlock _
         exact fun w1 w2 h _=>h
       · show StableG (Value.slice ap i cp).ownBlock _
         exact fun w1 w2 h _=>h
       · show StableG (Value.slice ap i cp).ownBlock _
         exact fun w1 w2 h hb=>h.grown HNB.out hb
       · show Stable _
         exact fun w1 w2 h hb=>h.below hb
      case hob =>
       simp only [List.take_succ_cons,List.take_zero]
       apply growg_cons rfl
       · intro v w1 h1 hd
         clear hd
         clear h1
         go_wp2_with fail
         first|exact ⟨rfl,_,rfl,Below.refl _ _,rfl⟩|exact Below.refl _ _|exact ⟨Below.refl _ _,rfl⟩
       apply growg_cons rfl
       · intro v w1 h1 hd
         have g217:v 217=.pointer (some ⟨q7,12,none⟩):=hd 0 _ _ _ rfl rfl rfl rfl
         clear hd
         rw [g217]
         have c0:=jC ((h1.block _ (jB Rq7.out) Nq7.out).trans Rq7.out) 12
         simp only [gT,gZ,gS] at c0
         clear g217 h1
         go_wp2_with fail
         first|exact ⟨rfl,_,rfl,Below.refl _ _,rfl⟩|exact Below.refl _ _|exact ⟨Below.refl _ _,rfl⟩
       apply growg_cons rfl
       · intro v w1 h1 hd
         clear hd
         clear h1
         go_wp2_with fail
         first|exact ⟨rfl,_,rfl,Below.refl _ _,rfl⟩|exact Below.refl _ _|exact ⟨Below.refl _ _,rfl⟩
       apply growg_cons rfl
       · intro v w1 h1 hd
         clear hd
         clear h1
         go_wp2_with fail
         first|exact ⟨rfl,_,rfl,Below.refl _ _,rfl⟩|exact Below.refl _ _|exact ⟨Below.refl _ _,rfl⟩
       apply growg_cons rfl
       · intro v w1 h1 hd
         have g220:v 220=.slice (some ⟨q3,0,none⟩) 16 16:=hd 3 _ _ _ rfl rfl rfl rfl
         clear hd
         rw [g220]
         clear g220 h1
         go_wp2_with fail
         first|exact ⟨rfl,_,rfl,Below.refl _ _,rfl⟩|exact Below.refl _ _|exact ⟨Below.refl _ _,rfl⟩
       apply growg_cons rfl
       · intro v w1 h1 hd
         have g221:v 221=.pointer (some ⟨q3,13,none⟩):=hd 4 _ _ _ rfl rfl rfl rfl
         clear hd
         rw [g221]
         have c0:=jC ((h1.block _ (jB Rq3.out) Nq3.out).trans Rq3.out) 13
         simp only [gT,gZ,gS] at c0
         clear g221 h1
         go_wp2_with fail
         first|exact ⟨rfl,_,rfl,Below.refl _ _,rfl⟩|exact Below.refl _ _|exact ⟨Below.refl _ _,rfl⟩
       apply growg_cons rfl
       · intro v w1 h1 hd
         clear hd
         clear h1
         go_wp2_with fail
         first|exact ⟨rfl,_,rfl,Below.refl _ _,rfl⟩|exact Below.refl _ _|exact ⟨Below.refl _ _,rfl⟩
       apply growg_cons rfl
       · intro v w1 h1 hd
         have g222:v 222=.int .i64 x13:=hd 5 _ _ _ rfl rfl rfl rfl
         have g223:v 223=.int .i64 ((i:Int)):=hd 6 _ _ _ rfl rfl rfl rfl
         clear hd
         rw [g222,g223]
         have bx13:=HB13.out
         clear g222 g223 h1
         go_wp2_with fail
         first|exact ⟨rfl,_,rfl,Below.refl _ _,rfl⟩|exact Below.refl _ _|exact ⟨Below.refl _ _,rfl⟩
       apply growg_cons rfl
       · intro v w1 h1 hd
         have g224:v 224=.int .i64 (x13+(i:Int)):=hd 7 _ _ _ rfl rfl rfl rfl
         clear hd
         rw [g224]
         have bx13:=HB13.out
         clear g224 h1
         go_wp2_with fail
         first|exact ⟨rfl,_,rfl,Below.refl _ _,rfl⟩|exact Below.refl _ _|exact ⟨Below.refl _ _,rfl⟩
       apply growg_cons rfl
       · intro v w1 h1 hd
         have g219:v 219=.slice (some ⟨q6,0,none⟩) 6 6:=hd 2 _ _ _ rfl rfl rfl rfl
         have g225:v 225=.int .i64 ((x13+(i:Int)) % 5):=hd 8 _ _ _ rfl rfl rfl rfl
         clear hd
         rw [g219,g225]
         have bx13:=HB13.out
         have by0:0<=(x13+(i:Int)) % 5/\(x13+(i:Int)) % 5<6:=by omega
         clear g219 g225 h1
         go_wp2_with fail
         first|exact ⟨rfl,_,rfl,Below.refl _ _,rfl⟩|exact Below.refl _ _|exact ⟨Below.refl _ _,rfl⟩
       apply growg_cons rfl
       · intro v w1 h1 hd
         have g226:v 226=.pointer (some ⟨q6,((x13+(i:Int)) % 5).toNat,none⟩):=hd 9 _ _ _ rfl rfl rfl rfl
         clear hd
         rw [g226]
         have bx13:=HB13.out
         have by0:0<=(x13+(i:Int)) % 5/\(x13+(i:Int)) % 5<6:=by omega
         have c0:=col_at6 ((h1.block _ (jB Rq6.out) Nq6.out).trans Rq6.out) ((x13+(i:Int)) % 5) by0.1 by0.2
         clear g226 h1
         go_wp2_with fail
         first|exact ⟨rfl,_,rfl,Below.refl _ _,rfl⟩|exact Below.refl _ _|exact ⟨Below.refl _ _,rfl⟩
       apply growg_cons rfl
       · intro v w1 h1 hd
         have g1:v 227=.string (mcS ((x13+(i:Int)) % 5)):=hd 10 _ _ _ rfl rfl rfl rfl
         have hcc:StrOk (mcS ((x13+(i:Int)) % 5)):=mcS_size _
         clear hd
         rw [g1]
         have HSW:=hid h1.size
         have HCC:=hid hcc
         clear g1 hcc h1
         go_wp2_with fail
         have hb3:Below w1.heap.size w1 (w1.alloc (.cells #[.string (mcS ((x13+(i:Int)) % 5))] 9)):=(b0R).alloc (jR _) _
         have hn:NewEl strEnc StrOk 9 wr.heap.size (.slice (some ⟨w1.heap.size,0,none⟩) 1 1) (w1.alloc (.cells #[.string (mcS ((x13+(i:Int)) % 5))] 9)):=⟨(mcS ((x13+(i:Int)) % 5)),_,HCC.out,rfl,HSW.out,heap_alloc_new _ _⟩
         first|exact ⟨rfl,_,rfl,hb3,hn⟩|(and_intros <;> first|exact hb3|exact hn)
       apply growg_one rfl
       · intro v w1 h1 hp hd
         have g1:v 218=.slice ap i cp:=hd 1 _ _ _ rfl rfl rfl rfl
         obtain ⟨xx,gn,hxx,g2,_,hgn⟩:NewEl strEnc StrOk 9 wr.heap.size (v 228) w1:=hd 11 _ _ _ rfl rfl rfl rfl
         clear hd
         rw [g1,g2]
         have HO:=hid (owns_below HR.out.2.2.2.1 hp)
         have hs1:=Nat.le_trans HSZ.out hp.size
         refine wpList_append_own_at _ rfl _ _ 33 rfl U3.heap.size 9 iS _ 1 16 Tryz.underlying33 hS hS0 hS1 hS2 rfl (by decide) (.slice ap i cp) i _ rfl HO.out ⟨gn,0,none⟩ 1 1 (strEnc xx) rfl rfl (fun j u hj=>by rw [addr_add,jC hgn];simpa using hj) (strEnc_cells xx) (by unfold maxLen;omega) (by omega) (by omega) ?_
         intro v' w8 o1 g3 hx1 at1
         obtain ⟨va,vc,hv',_⟩:=owns_shape' o1
         subst hv'
         exact wpList_nil ⟨rfl,_,rfl,g3,xx,va,vc,hxx,rfl,by rw [List.flatMap_append];simpa using o1⟩
       exact growg_nil
      case hend =>
       intro v w9 h1 hd
       obtain ⟨xx,va,vc,hxx,g83,o9⟩:AppEl strEnc StrOk 9 1 U3.heap.size i P (v 229) w9:=hd 12 _ _ _ rfl rfl rfl
       clear hd
       rw [g83]
       have hz:=(h1.block _ (jB Rq7.out) Nq7.out).trans Rq7.out
       have m7:=jC hz 12
       have n7:=free_of hz 12
       simp only [gT,gZ,gS] at m7
       have HZ:=hid hz
       have HX:=hid (show _/\_/\_ from ⟨hxx,o9,h1⟩)
       clear g83 hz hxx o9 h1
       generalize v 217=k217,v 218=k218,v 219=k219,v 220=k220,v 221=k221,v 222=k222,v 223=k223,v 224=k224,v 225=k225,v 226=k226,v 227=k227,v 228=k228
       simp only [List.drop_succ_cons,List.drop_zero]
       go_wp2_with fail
       go_roundw
       case rel =>
        exact ⟨i+1,P ++ [xx],va,vc,by omega,by go_num,by rw [List.length_append,HR.out.1];rfl,grown_tra (loop_grow HR.out.2.1 HX.out.2.2 (fun b e=>(HR.out.2.2.2.1.lt b e).1)) (grown_cell _ ⟨q7,12,none⟩ _),(heap_setCell_same _ _ _ _ _ _ HZ.out).trans rfl,owns_set HX.out.2.1 (jB Cq7.out),fun e=>by simp at e,fun x hx=>by
         rcases List.mem_append.1 hx with hx|hx
         · exact HR.out.2.2.2.2.2 x hx
         · rw [List.mem_singleton.1 hx];exact HX.out.1⟩
       case measure=>simp [intOf];omega
    · have HH:=hid (show _/\_/\_/\_/\_ from ⟨hi2,HR.out.2.1,HR.out.2.2.1,(show Lst strF q7 wr ap cp P from Lst.own (enc:=strEnc) (hl:=fun _=>rfl) (show wr.ownsRow U3.heap.size 9 1 (.slice ap P.length cp) P.length (P.flatMap strEnc) by rw [HR.out.1];exact HR.out.2.2.2.1) (jB Cq7.out) (by rw [HR.out.1];omega) HR.out.2.2.2.2.1),HR.out.2.2.2.2.2⟩)
      go_wp2_with fail
      go_meet
      have hl:=HR.out.1
      subst hl
      exact ⟨P,ap,cp,HH.out⟩
  case rest =>
   obtain ⟨P,ap,cp,HW2⟩:=hcut
   have hg:=HW2.out.2.1
   replace GV:=hid (grown_tra GV.out hg)
   replace Cq7:=hid HW2.out.2.2.1
   have LP:=hid HW2.out.2.2.2.1
   have HP:=hid (show P.length<=2/\∀ x ∈ P,StrOk x from ⟨HW2.out.1,HW2.out.2.2.2.2⟩)
   replace Cq3:=hid ((GV.out.block _ (jB Gq3.out) (fun e=>Nat.ne_of_lt L37.out.1 (jI e))).trans Gq3.out)
   replace Cq5:=hid ((GV.out.block _ (jB Gq5.out) (fun e=>Nat.ne_of_lt L37.out.2.1 (jI e))).trans Gq5.out)
   replace Cq6:=hid ((GV.out.block _ (jB Gq6.out) (fun e=>Nat.ne_of_lt L37.out.2.2.1 (jI e))).trans Gq6.out)
   replace LW:=hid (LW.out.grown hg)
   replace LM:=hid (LM.out.grown hg)
   clear hg HW2
   obtain ⟨U4,hU4⟩:∃ W,W=wc:=⟨_,rfl⟩
   subst hU4
   have c14:=jC Cq3.out 14
   simp only [gT,gZ,gS] at c14
   have bx14:=HB14.out
   by_cases hj:x14 % 3=0
   · go_upto_region 39 with (fail)
     clear c14 bx14 hj
     have m7:=jC Cq7.out 8
     have n7:=free_of Cq7.out 8
     simp only [gT,gZ,gS] at m7
     have c1:=jC Cq3.out 1
     simp only [gT,gZ,gS] at c1
     have bx1:=HB1.out
     have s1:=tab_at Cq5.out ((x1+1) % 6) (by omega) (by omega)
     go_upto_region 40 with (fail)
     generalize hA:World.setCell _ _ _=U5
     have hg:U4.grownBy U5 (some q7):=by rw [<- hA];exact grown_cell U4 ⟨q7,8,none⟩ _
     replace Cq7:=hid (show U5.heap[q7]? = some (.cells #[.int .i64 7,.string tb,.string ⟨#[]⟩,.slice none 0 0,.slice am M.length cm,.slice none 0 0,.slice none 0 0,.slice a L.length c,.string (mtS ((x1+1) % 6)),.string ⟨#[]⟩,.string ⟨#[]⟩,.int .i64 ag,.slice ap P.length cp,.int .i64 0,.int .i64 0] 39 (0,0)) by
      rw [<- hA]
      exact (heap_setCell_same _ _ _ _ _ _ Cq7.out).trans rfl)
     replace GV:=hid (grown_tra GV.out hg)
     replace Cq3:=hid ((GV.out.block _ (jB Gq3.out) (fun e=>Nat.ne_of_lt L37.out.1 (jI e))).trans Gq3.out)
     replace Cq5:=hid ((GV.out.block _ (jB Gq5.out) (fun e=>Nat.ne_of_lt L37.out.2.1 (jI e))).trans Gq5.out)
     replace Cq6:=hid ((GV.out.block _ (jB Gq6.out) (fun e=>Nat.ne_of_lt L37.out.2.2.1 (jI e))).trans Gq6.out)
     replace LW:=hid (LW.out.grown hg)
     replace LM:=hid (LM.out.grown hg)
     replace LP:=hid (LP.out.grown hg)
     clear hA hg m7 n7 c1 bx1 s1
     have m7:=jC Cq7.out 9
     have n7:=free_of Cq7.out 9
     simp only [gT,gZ,gS] at m7
     have c15:=jC Cq3.out 15
     simp only [gT,gZ,gS] at c15
     have bx15:=HB15.out
     have s15:=col_at6 Cq6.out (x15 % 2) (by omega) (by omega)
     go_upto_region 41 with (fail)
     generalize hA:World.setCell _ _ _=U6
     have hg:U5.grownBy U6 (some q7):=by rw [<- hA];exact grown_cell U5 ⟨q7,9,none⟩ _
     replace Cq7:=hid (show U6.heap[q7]? = some (.cells #[.int .i64 7,.string tb,.string ⟨#[]⟩,.slice none 0 0,.slice am M.length cm,.slice none 0 0,.slice none 0 0,.slice a L.length c,.string (mtS ((x1+1) % 6)),.string (mcS (x15 % 2)),.string ⟨#[]⟩,.int .i64 ag,.slice ap P.length cp,.int .i64 0,.int .i64 0] 39 (0,0)) by
      rw [<- hA]
      exact (heap_setCell_same _ _ _ _ _ _ Cq7.out).trans rfl)
     replace GV:=hid (grown_tra GV.out hg)
     replace Cq3:=hid ((GV.out.block _ (jB Gq3.out) (fun e=>Nat.ne_of_lt L37.out.1 (jI e))).trans Gq3.out)
     replace Cq5:=hid ((GV.out.block _ (jB Gq5.out) (fun e=>Nat.ne_of_lt L37.out.2.1 (jI e))).trans Gq5.out)
     replace Cq6:=hid ((GV.out.block _ (jB Gq6.out) (fun e=>Nat.ne_of_lt L37.out.2.2.1 (jI e))).trans Gq6.out)
     replace LW:=hid (LW.out.grown hg)
     replace LM:=hid (LM.out.grown hg)
     replace LP:=hid (LP.out.grown hg)
     clear hA hg m7 n7 c15 bx15 s15
     have m7:=jC Cq7.out 10
     have n7:=free_of Cq7.out 10
     simp only [gT,gZ,gS] at m7
     have c15:=jC Cq3.out 15
     simp only [gT,gZ,gS] at c15
     have bx15:=HB15.out
     have s15:=col_at6 Cq6.out (x15 / 2 % 2) (by omega) (by omega)
     have HFIN:=hid (show StQ V q7 7 (U6.setCell ⟨q7,10,none⟩ (.string (mcS (x15 / 2 % 2)))) from ⟨{ stmt0 with kind:=7,table:=tb,wher:=L,names:=M,order:=P,agg:=ag,join:=mtS ((x1+1) % 6),left:=mcS (x15 % 2),right:=mcS (x15 / 2 % 2) },am,cm,none,0,none,0,a,c,ap,cp,grown_tra GV.out (grown_cell _ ⟨q7,10,none⟩ _),(heap_setCell_same _ _ _ _ _ _ Cq7.out).trans rfl,⟨LM.out.grown (grown_cell _ ⟨q7,10,none⟩ _),Lst.nil,Lst.nil,LW.out.grown (grown_cell _ ⟨q7,10,none⟩ _),LP.out.grown (grown_cell _ ⟨q7,10,none⟩ _)⟩,oks (by decide) HTB.out (by have:=HL.out.1;omega) HL.out.2 (by have:=HM.out.1;omega) HM.out.2 (by have:=HP.out.1;omega) HP.out.2 (mtS_size _) (mcS_size _) (mcS_size _),rfl⟩)
     go_wp2_with fail
     exact HQ.out _ _ _ _ _ _ _ _ _ _ _ _ _ _ _ _ _ _ _ _ _ _ _ _ _ _ _ _ _ _ _ _ _ _ _ _ _ _ _ _ _ _ _ _ _ _ _ _ _ _ _ _ _ _ _ _ _ _ _ _ _ _ _ _ _ _ _ _ _ _ _ _ _ _ _ _ _ _ _ _ _ _ _ _ _ _ _ _ _ _ _ _ _ _ _ _ _ _ _ _ _ _ _ _ _ _ _ _ _ _ _ _ _ _ _ _ _ _ _ _ _ _ _ _ _ _ _ _ _ _ _ _ _ _ _ _ _ _ _ _ _ _ _ _ _ _ _ _ _ _ _ _ _ _ _ _ _ _ _ _ _ _ _ _ _ _ _ _ _ _ _ _ _ _ _ _ _ _ _ _ _ _ _ _ _ _ _ _ _ _ _ _ _ _ _ _ _ _ _ _ _ _ _ _ _ _ _ _ _ _ _ _ _ _ _ _ _ _ _ _ _ _ _ _ _ _ _ _ _ _ _ _ _ _ _ _ _ _ _ _ _ _ _ _ _ _ _ _ _ _ _ _ _ _ _ _ _ _ _ _ _ _ _ _ _ _ _ _ _ _ _ _ _ _ _ _ _ _ _ _ _ _ _ _ _ _ _ _ _ _ _ _ _ _ _ _ _ _ _ _ _ HFIN.out
   · have HFIN:=hid (show StQ V q7 7 U4 from ⟨{ stmt0 with kind:=7,table:=tb,wher:=L,names:=M,order:=P,agg:=ag,join:=noStr,left:=noStr,right:=noStr },am,cm,none,0,none,0,a,c,ap,cp,GV.out,Cq7.out,⟨LM.out,Lst.nil,Lst.nil,LW.out,LP.out⟩,oks (by decide) HTB.out (by have:=HL.out.1;omega) HL.out.2 (by have:=HM.out.1;omega) HM.out.2 (by have:=HP.out.1;omega) HP.out.2 (Nat.zero_le _) (Nat.zero_le _) (Nat.zero_le _),rfl⟩)
     go_wp2_with fail
     exact HQ.out _ _ _ _ _ _ _ _ _ _ _ _ _ _ _ _ _ _ _ _ _ _ _ _ _ _ _ _ _ _ _ _ _ _ _ _ _ _ _ _ _ _ _ _ _ _ _ _ _ _ _ _ _ _ _ _ _ _ _ _ _ _ _ _ _ _ _ _ _ _ _ _ _ _ _ _ _ _ _ _ _ _ _ _ _ _ _ _ _ _ _ _ _ _ _ _ _ _ _ _ _ _ _ _ _ _ _ _ _ _ _ _ _ _ _ _ _ _ _ _ _ _ _ _ _ _ _ _ _ _ _ _ _ _ _ _ _ _ _ _ _ _ _ _ _ _ _ _ _ _ _ _ _ _ _ _ _ _ _ _ _ _ _ _ _ _ _ _ _ _ _ _ _ _ _ _ _ _ _ _ _ _ _ _ _ _ _ _ _ _ _ _ _ _ _ _ _ _ _ _ _ _ _ _ _ _ _ _ _ _ _ _ _ _ _ _ _ _ _ _ _ _ _ _ _ _ _ _ _ _ _ _ _ _ _ _ _ _ _ _ _ _ _ _ _ _ _ _ _ _ _ _ _ _ _ _ _ _ _ _ _ _ _ _ _ _ _ _ _ _ _ _ _ _ _ _ _ _ _ _ _ _ _ _ _ _ _ _ _ _ _ _ _ _ _ _ _ _ _ _ _ HFIN.out
end
section
open Go.RowKit
theorem made_any {p:Nat->Prop} {al:Option Addr} {cl:Nat} {s:List Int} {w:World} (hs:SlV intR p w (.slice al s.length cl) s) :
 Calls Tryz.prog 36 #[.slice al s.length cl] w fun e w'=>∃ v st,e=.returned v/\Below w.heap.size w w'/\StmtV (fun k=>w.heap.size<=k) w' v st/\OkSt st/\st.kind=kd12 (s.getD 0 0 % 65536 % 12):=by
 have HS:=hid hs
 clear hs
 go_enter Tryz.func36,Tryz.ntmps36
 obtain ⟨i0,hi,hz0,hz1,hz2⟩:=info_parts info_mi
 obtain ⟨iV,hV,hV0,hV1,hV2⟩:=info_parts info_mv
 obtain ⟨iS,hS,hS0,hS1,hS2⟩:=info_parts info_mst
 obtain ⟨iE,hE,hE0,hE1,hE2⟩:=info_parts info_mse
 obtain ⟨iC,hC,hC0,hC1,hC2⟩:=info_parts info_mc
 go_upto_region 1 with (fail)
 generalize hX:World.alloc _ _=W1
 have b1:Below w.heap.size w W1:=by rw [<- hX];exact (b0R).alloc (jR _) _
 have G2:=hid (show W1.heap[w.heap.size]? = some (.cells #[.int .i64 0,.string ⟨#[]⟩,.string ⟨#[]⟩,.slice none 0 0,.slice none 0 0,.slice none 0 0,.slice none 0 0,.slice none 0 0,.string ⟨#[]⟩,.string ⟨#[]⟩,.string ⟨#[]⟩,.int .i64 0,.slice none 0 0,.int .i64 0,.int .i64 0] 39 (0,0)) by rw [<- hX];exact heap_alloc_new _ _)
 have B1:=hid b1
 clear hX b1
 go_upto_block 0 with (at_make;(refine wpList_make_full _ rfl _ _ 22 rfl W1.heap.size 3 i0 _ 1 Tryz.underlying22 hi hz0 hz1 _ _ _ _ 16 rfl rfl rfl rfl (by rw [hz2];decide) (by decide) (jR _) ?_;intro W2 o2 g2))
 have o2':W2.ownsRow W1.heap.size 3 1 (.slice (some ⟨W1.heap.size,0,none⟩) 16 16) 16 ((List.replicate 16 (0:Int)).map (.int .i64)):=by
  rw [<- show (madeCells (Value.int .i64 0).cells (16 * 1)).toList=(List.replicate 16 (0:Int)).map (.int .i64) by kernel_rfl]
  exact o2
 have b2:Below W1.heap.size W1 W2:=⟨g2.os,g2.tape,g2.output,g2.size,fun k hk=>g2.block k hk (by simp)⟩
 obtain ⟨q3,hq3⟩:∃ q,W1.heap.size=q:=⟨_,rfl⟩
 have O2:=hid o2'
 have B2:=hid b2
 have HQ3:=hid hq3
 rw [hq3] at O2 ⊢
 clear o2 o2' g2 b2 hq3
 go_cut [] from 4 to 32 (fun wx=>∃ X:List Int,Hid (Below W1.heap.size W1 wx/\wx.ownsRow q3 3 1 (.slice (some ⟨q3,0,none⟩) 16 16) 16 (X.map (.int .i64))/\X.length=16/\(∀ x ∈ X,0<=x/\x<=65535)/\X.getD 0 0=s.getD 0 0 % 65536))
 case first =>
  go_wp2_with fail
  go_loopw [4] (fun x4 wr=>∃ (i:Nat) (X:List Int),i<=min s.length 16/\x4=.int .i64 i/\Hid (Below W1.heap.size W1 wr/\wr.ownsRow q3 3 1 (.slice (some ⟨q3,0,none⟩) 16 16) 16 (X.map (.int .i64))/\Nums s i X)) (fun x4 _=>16 - (intOf x4).toNat)
  case atStart=>exact ⟨0,List.replicate 16 0,Nat.zero_le _,rfl,B2.out,O2.out,Nums.start s⟩
  case round =>
   obtain ⟨i,X,hi16,rfl,HX⟩:=hrel
   by_cases hlt:i<min s.length 16
   · have hls:i<s.length:=by omega
     have hl16:i<16:=by omega
     have hw:=HS.out.below (B1.out.trans (HX.out.1.mono B1.out.size))
     obtain ⟨bs,os,rfl,_,hbs⟩:=hw.row.2.2.2.addr (by intro e;rw [e] at hls;cases hls)
     have c0:=hw.row.2.2.2.int i hls
     obtain ⟨hgB,cur,hgb⟩:=own_block HX.out.2.1
     have f0:=free_of hgb i
     have m0:=HX.out.2.1.cellAt i (by omega)
     rw [List.getElem?_eq_getElem (by rw [List.length_map,HX.out.2.2.len];omega)] at m0
     obtain ⟨y,hy⟩:∃ y,s[i]=y:=⟨_,rfl⟩
     rw [hy] at c0
     have hm:=mask16 y
     have HY:=hid hy
     clear hw hgb hgB hy
     go_wp2_with fail
     go_roundw
     case rel =>
      refine ⟨i+1,X.set i (y % 65536),by omega,by go_num,HX.out.1.setCell (p:=⟨q3,i,none⟩) (Nat.le_of_eq HQ3.out) _,?_,by rw [<- HY.out];exact HX.out.2.2.step hls hl16⟩
      rw [List.map_set]
      exact (World.ownsRow.stored HX.out.2.1 i _).1
     case measure=>simp [intOf];omega
   · have hin:i=s.length \/ i=16:=by omega
     have HH:=hid (show _/\_/\_/\_/\_ from ⟨HX.out.1,HX.out.2.1,HX.out.2.2.len,HX.out.2.2.rng,HX.out.2.2.done hin⟩)
     have hcase:¬ i<16 \/ (i<16/\¬ i<s.length):=by omega
     clear hin hlt hi16
     rcases hcase with hc|⟨hc,hc'⟩
     all_goals
      go_wp2_with fail
      go_meet
      exact ⟨X,HH.out⟩
 case rest =>
  obtain ⟨X,HX⟩:=hcut
  obtain ⟨x0,x1,x2,x3,x4,x5,x6,x7,x8,x9,x10,x11,x12,x13,x14,x15,rfl⟩:=list16 HX.out.2.2.1
  have HX0:=hid (show x0=s.getD 0 0 % 65536 from HX.out.2.2.2.2)
  have hr:=HX.out.2.2.2.1
  have HB0:=hid (hr x0 (by simp))
  have HB1:=hid (hr x1 (by simp))
  have HB2:=hid (hr x2 (by simp))
  have HB3:=hid (hr x3 (by simp))
  have HB4:=hid (hr x4 (by simp))
  have HB5:=hid (hr x5 (by simp))
  have HB6:=hid (hr x6 (by simp))
  have HB7:=hid (hr x7 (by simp))
  have HB8:=hid (hr x8 (by simp))
  have HB9:=hid (hr x9 (by simp))
  have HB10:=hid (hr x10 (by simp))
  have HB11:=hid (hr x11 (by simp))
  have HB12:=hid (hr x12 (by simp))
  have HB13:=hid (hr x13 (by simp))
  have HB14:=hid (hr x14 (by simp))
  have HB15:=hid (hr x15 (by simp))
  obtain ⟨V0,hV0⟩:∃ W,W=wc:=⟨_,rfl⟩
  subst hV0
  have BV0:=hid (B1.out.trans (HX.out.1.mono B1.out.size))
  have Gq3:=hid (show V0.heap[q3]? = some (.cells #[.int .i64 x0,.int .i64 x1,.int .i64 x2,.int .i64 x3,.int .i64 x4,.int .i64 x5,.int .i64 x6,.int .i64 x7,.int .i64 x8,.int .i64 x9,.int .i64 x10,.int .i64 x11,.int .i64 x12,.int .i64 x13,.int .i64 x14,.int .i64 x15] 3 (0,0)) from nums_block HX.out.2.1)
  have Gq2:=cy HX.out.1 G2
  clear hr HX O2 B2 HQ3 hi hz0 hz1 hz2 G2
  go_upto_region 8 with (fail)
  generalize hA:World.alloc _ _=V1
  have hA':allocs V0 [_,_]=V1:=hA
  have ba:=allocs_self hA'
  replace Gq3:=cy ba Gq3
  replace Gq2:=cy ba Gq2
  have Gq5:=hid (show V1.heap[V0.heap.size]? = some (.cells tabs6 9 (0,0)) from allocs_get hA' 0 rfl)
  have Gq6:=hid (show V1.heap[V0.heap.size+1]? = some (.cells cols6 9 (0,0)) from allocs_get hA' 1 rfl)
  have BV1:=hid (BV0.out.trans (ba.mono BV0.out.size))
  obtain ⟨q6,hq6⟩:∃ q,V0.heap.size+1=q:=⟨_,rfl⟩
  rw [hq6] at Gq6 ⊢
  obtain ⟨q5,hq5⟩:∃ q,V0.heap.size=q:=⟨_,rfl⟩
  rw [hq5] at Gq5 ⊢
  clear hA hA' ba hq5 hq6 BV0 B1
  apply wp_region_growt 15 [35,36,37,38,39,40,41,42,43,44,45,46,47,48,7]
   [fun _ u _=>u=.agg #[.int .i64 4,.int .i64 4,.int .i64 4,.int .i64 4,.int .i64 5,.int .i64 5,.int .i64 6,.int .i64 7,.int .i64 7,.int .i64 7,.int .i64 3,.int .i64 2],
    fun _ u _=>u=.slice (some ⟨q3,0,none⟩) 16 16,
    fun _ u _=>u=.pointer (some ⟨q3,0,none⟩),
    fun _ u _=>u=.int .i64 x0,
    fun _ u _=>u=.int .i64 (x0 % 12),
    fun _ u _=>u=.int .i64 (kd12 (x0 % 12)),
    fun _ u _=>u=.slice (some ⟨q5,0,none⟩) 6 6,
    fun _ u _=>u=.slice (some ⟨q3,0,none⟩) 16 16,
    fun _ u _=>u=.pointer (some ⟨q3,1,none⟩),
    fun _ u _=>u=.int .i64 x1,
    fun _ u _=>u=.int .i64 (x1 % 6),
    fun _ u _=>u=.pointer (some ⟨q5,(x1 % 6).toNat,none⟩),
    fun _ u _=>u=.string (mtS (x1 % 6)),
    fun _ u _=>u=.agg #[.int .i64 (kd12 (x0 % 12)),.string (mtS (x1 % 6)),.string ⟨#[]⟩,.slice none 0 0,.slice none 0 0,.slice none 0 0,.slice none 0 0,.slice none 0 0,.string ⟨#[]⟩,.string ⟨#[]⟩,.string ⟨#[]⟩,.int .i64 0,.slice none 0 0,.int .i64 0,.int .i64 0],
    fun _ u w'=>NewSt0 V1.heap.size u w']
   (Below V1.heap.size V1)
  case hF =>
   intro v
   simp only [setAll,List.foldl_cons,List.foldl_nil,Act.put,List.setIfInBounds_toArray,List.set_cons_succ,List.set_cons_zero]
   exact rfl
  case hm=>kernel_rfl
  case hB=>kernel_rfl
  case hsz=>kernel_rfl
  case hC=>exact fun w1 w2 h b=>h.trans (b.mono h.size)
  case hw=>exact Below.drew b0R
  case hS =>
   intro D hD v u
   simp only [List.mem_cons,List.not_mem_nil,or_false] at hD
   rcases hD with rfl|rfl|rfl|rfl|rfl|rfl|rfl|rfl|rfl|rfl|rfl|rfl|rfl|rfl|rfl
   · exact fun w1 w2 h _=>h
   · exact fun w1 w2 h _=>h
   · exact fun w1 w2 h _=>h
   · exact fun w1 w2 h _=>h
   · exact fun w1 w2 h _=>h
   · exact fun w1 w2 h _=>h
   · exact fun w1 w2 h _=>h
   · exact fun w1 w2 h _=>h
   · exact fun w1 w2 h _=>h
   · exact fun w1 w2 h _=>h
   · exact fun w1 w2 h _=>h
   · exact fun w1 w2 h _=>h
   · exact fun w1 w2 h _=>h
   · exact fun w1 w2 h _=>h
   · exact fun w1 w2 h hb=>h.below hb
  case hob =>
   simp only [List.take_succ_cons,List.take_zero]
   apply growt_cons
   · intro v w1 h1 hd
     clear hd
     clear h1
     go_wp2_with fail
     first|exact Below.refl _ _|exact ⟨Below.refl _ _,rfl⟩|exact ⟨rfl,Below.refl _ _⟩
   apply growt_cons
   · intro v w1 h1 hd
     clear hd
     clear h1
     go_wp2_with fail
     first|exact Below.refl _ _|exact ⟨Below.refl _ _,rfl⟩|exact ⟨rfl,Below.refl _ _⟩
   apply growt_cons
   · intro v w1 h1 hd
     have g36:v 36=.slice (some ⟨q3,0,none⟩) 16 16:=hd 1 _ _ _ rfl rfl rfl rfl
     clear hd
     rw [g36]
     clear g36 h1
     go_wp2_with fail
     first|exact Below.refl _ _|exact ⟨Below.refl _ _,rfl⟩|exact ⟨rfl,Below.refl _ _⟩
   apply growt_cons
   · intro v w1 h1 hd
     have g37:v 37=.pointer (some ⟨q3,0,none⟩):=hd 2 _ _ _ rfl rfl rfl rfl
     clear hd
     rw [g37]
     have c0:=jC ((h1.block _ (jB Gq3.out)).trans Gq3.out) 0
     simp only [gT,gZ,gS] at c0
     clear g37 h1
     go_wp2_with fail
     first|exact Below.refl _ _|exact ⟨Below.refl _ _,rfl⟩|exact ⟨rfl,Below.refl _ _⟩
   apply growt_cons
   · intro v w1 h1 hd
     have g38:v 38=.int .i64 x0:=hd 3 _ _ _ rfl rfl rfl rfl
     clear hd
     rw [g38]
     have bx0:=HB0.out
     clear g38 h1
     go_wp2_with fail
     first|exact Below.refl _ _|exact ⟨Below.refl _ _,rfl⟩|exact ⟨rfl,Below.refl _ _⟩
   apply growt_cons
   · intro v w1 h1 hd
     have g35:v 35=.agg #[.int .i64 4,.int .i64 4,.int .i64 4,.int .i64 4,.int .i64 5,.int .i64 5,.int .i64 6,.int .i64 7,.int .i64 7,.int .i64 7,.int .i64 3,.int .i64 2]:=hd 0 _ _ _ rfl rfl rfl rfl
     have g39:v 39=.int .i64 (x0 % 12):=hd 4 _ _ _ rfl rfl rfl rfl
     clear hd
     rw [g35,g39]
     have bx0:=HB0.out
     have hidx:=idx12 (x0 % 12) (by omega) (by omega)
     clear bx0
     clear g35 g39 h1
     go_wp2_with fail
     first|exact Below.refl _ _|exact ⟨Below.refl _ _,rfl⟩|exact ⟨rfl,Below.refl _ _⟩
   apply growt_cons
   · intro v w1 h1 hd
     clear hd
     clear h1
     go_wp2_with fail
     first|exact Below.refl _ _|exact ⟨Below.refl _ _,rfl⟩|exact ⟨rfl,Below.refl _ _⟩
   apply growt_cons
   · intro v w1 h1 hd
     clear hd
     clear h1
     go_wp2_with fail
     first|exact Below.refl _ _|exact ⟨Below.refl _ _,rfl⟩|exact ⟨rfl,Below.refl _ _⟩
   apply growt_cons
   · intro v w1 h1 hd
     have g42:v 42=.slice (some ⟨q3,0,none⟩) 16 16:=hd 7 _ _ _ rfl rfl rfl rfl
     clear hd
     rw [g42]
     clear g42 h1
     go_wp2_with fail
     first|exact Below.refl _ _|exact ⟨Below.refl _ _,rfl⟩|exact ⟨rfl,Below.refl _ _⟩
   apply growt_cons
   · intro v w1 h1 hd
     have g43:v 43=.pointer (some ⟨q3,1,none⟩):=hd 8 _ _ _ rfl rfl rfl rfl
     clear hd
     rw [g43]
     have c0:=jC ((h1.block _ (jB Gq3.out)).trans Gq3.out) 1
     simp only [gT,gZ,gS] at c0
     clear g43 h1
     go_wp2_with fail
     first|exact Below.refl _ _|exact ⟨Below.refl _ _,rfl⟩|exact ⟨rfl,Below.refl _ _⟩
   apply growt_cons
   · intro v w1 h1 hd
     have g44:v 44=.int .i64 x1:=hd 9 _ _ _ rfl rfl rfl rfl
     clear hd
     rw [g44]
     have bx1:=HB1.out
     clear g44 h1
     go_wp2_with fail
     first|exact Below.refl _ _|exact ⟨Below.refl _ _,rfl⟩|exact ⟨rfl,Below.refl _ _⟩
   apply growt_cons
   · intro v w1 h1 hd
     have g41:v 41=.slice (some ⟨q5,0,none⟩) 6 6:=hd 6 _ _ _ rfl rfl rfl rfl
     have g45:v 45=.int .i64 (x1 % 6):=hd 10 _ _ _ rfl rfl rfl rfl
     clear hd
     rw [g41,g45]
     have bx1:=HB1.out
     have by0:0<=x1 % 6/\x1 % 6<6:=by omega
     clear g41 g45 h1
     go_wp2_with fail
     first|exact Below.refl _ _|exact ⟨Below.refl _ _,rfl⟩|exact ⟨rfl,Below.refl _ _⟩
   apply growt_cons
   · intro v w1 h1 hd
     have g46:v 46=.pointer (some ⟨q5,(x1 % 6).toNat,none⟩):=hd 11 _ _ _ rfl rfl rfl rfl
     clear hd
     rw [g46]
     have bx1:=HB1.out
     have by0:0<=x1 % 6/\x1 % 6<6:=by omega
     have c0:=tab_at ((h1.block _ (jB Gq5.out)).trans Gq5.out) (x1 % 6) by0.1 by0.2
     clear g46 h1
     go_wp2_with fail
     first|exact Below.refl _ _|exact ⟨Below.refl _ _,rfl⟩|exact ⟨rfl,Below.refl _ _⟩
   apply growt_cons
   · intro v w1 h1 hd
     have g40:v 40=.int .i64 (kd12 (x0 % 12)):=hd 5 _ _ _ rfl rfl rfl rfl
     have g47:v 47=.string (mtS (x1 % 6)):=hd 12 _ _ _ rfl rfl rfl rfl
     clear hd
     rw [g40,g47]
     clear g40 g47 h1
     go_wp2_with fail
     first|exact Below.refl _ _|exact ⟨Below.refl _ _,rfl⟩|exact ⟨rfl,Below.refl _ _⟩
   apply growt_cons
   · intro v w1 h1 hd
     clear hd
     have HSW:=hid h1.size
     clear h1
     go_wp2_with fail
     have hb3:Below w1.heap.size w1 (w1.alloc (.cells #[.int .i64 0,.string ⟨#[]⟩,.string ⟨#[]⟩,.slice none 0 0,.slice none 0 0,.slice none 0 0,.slice none 0 0,.slice none 0 0,.string ⟨#[]⟩,.string ⟨#[]⟩,.string ⟨#[]⟩,.int .i64 0,.slice none 0 0,.int .i64 0,.int .i64 0] 39)):=(b0R).alloc (jR _) _
     have hn:(w1.alloc (.cells #[.int .i64 0,.string ⟨#[]⟩,.string ⟨#[]⟩,.slice none 0 0,.slice none 0 0,.slice none 0 0,.slice none 0 0,.slice none 0 0,.string ⟨#[]⟩,.string ⟨#[]⟩,.string ⟨#[]⟩,.int .i64 0,.slice none 0 0,.int .i64 0,.int .i64 0] 39)).heap[w1.heap.size]? = some (.cells #[.int .i64 0,.string ⟨#[]⟩,.string ⟨#[]⟩,.slice none 0 0,.slice none 0 0,.slice none 0 0,.slice none 0 0,.slice none 0 0,.string ⟨#[]⟩,.string ⟨#[]⟩,.string ⟨#[]⟩,.int .i64 0,.slice none 0 0,.int .i64 0,.int .i64 0] 39 (0,0)):=heap_alloc_new _ _
     first|exact ⟨hb3,_,rfl,HSW.out,hn⟩|exact ⟨⟨_,rfl,HSW.out,hn⟩,hb3⟩
   exact growt_nil
  case hend =>
   intro v w9 h1 hd
   obtain ⟨q7,g7,hq7,hz⟩:NewSt0 V1.heap.size (v 7) w9:=hd 14 _ _ _ rfl rfl rfl
   have g48:v 48=.agg #[.int .i64 (kd12 (x0 % 12)),.string (mtS (x1 % 6)),.string ⟨#[]⟩,.slice none 0 0,.slice none 0 0,.slice none 0 0,.slice none 0 0,.slice none 0 0,.string ⟨#[]⟩,.string ⟨#[]⟩,.string ⟨#[]⟩,.int .i64 0,.slice none 0 0,.int .i64 0,.int .i64 0]:=hd 13 _ _ _ rfl rfl rfl
   clear hd
   rw [g7,g48]
   have m0:=jC hz 0
   have n0:=free_of hz 0
   have m1:=jC hz 1
   have n1:=free_of hz 1
   have m2:=jC hz 2
   have n2:=free_of hz 2
   have m3:=jC hz 3
   have n3:=free_of hz 3
   have m4:=jC hz 4
   have n4:=free_of hz 4
   have m5:=jC hz 5
   have n5:=free_of hz 5
   have m6:=jC hz 6
   have n6:=free_of hz 6
   have m7:=jC hz 7
   have n7:=free_of hz 7
   have m8:=jC hz 8
   have n8:=free_of hz 8
   have m9:=jC hz 9
   have n9:=free_of hz 9
   have m10:=jC hz 10
   have n10:=free_of hz 10
   have m11:=jC hz 11
   have n11:=free_of hz 11
   have m12:=jC hz 12
   have n12:=free_of hz 12
   have m13:=jC hz 13
   have n13:=free_of hz 13
   have m14:=jC hz 14
   have n14:=free_of hz 14
   simp only [gT,gZ,gS] at m0 m1 m2 m3 m4 m5 m6 m7 m8 m9 m10 m11 m12 m13 m14
   have HZ:=hid hz
   have HQ7:=hid hq7
   have HB:=hid h1
   clear g7 g48 hz hq7 h1
   generalize v 35=k35,v 36=k36,v 37=k37,v 38=k38,v 39=k39,v 40=k40,v 41=k41,v 42=k42,v 43=k43,v 44=k44,v 45=k45,v 46=k46,v 47=k47
   simp only [List.drop_succ_cons,List.drop_zero]
   go_upto_region 9 with (fail)
   have Gq3L:=Gq3
   have Gq2L:=Gq2
   have Gq5L:=Gq5
   have Gq6L:=Gq6
   generalize hA:World.setCell _ _ _=V
   have bU:Below V1.heap.size V1 V:=by
    rw [<- hA]
    exact (((((((((((((((HB.out.setCell (p:=⟨q7,0,none⟩) HQ7.out _).setCell (p:=⟨q7,1,none⟩) HQ7.out _).setCell (p:=⟨q7,2,none⟩) HQ7.out _).setCell (p:=⟨q7,3,none⟩) HQ7.out _).setCell (p:=⟨q7,4,none⟩) HQ7.out _).setCell (p:=⟨q7,5,none⟩) HQ7.out _).setCell (p:=⟨q7,6,none⟩) HQ7.out _).setCell (p:=⟨q7,7,none⟩) HQ7.out _).setCell (p:=⟨q7,8,none⟩) HQ7.out _).setCell (p:=⟨q7,9,none⟩) HQ7.out _).setCell (p:=⟨q7,10,none⟩) HQ7.out _).setCell (p:=⟨q7,11,none⟩) HQ7.out _).setCell (p:=⟨q7,12,none⟩) HQ7.out _).setCell (p:=⟨q7,13,none⟩) HQ7.out _).setCell (p:=⟨q7,14,none⟩) HQ7.out _)
   have Gq7:=hid (show V.heap[q7]? = some (.cells #[.int .i64 (kd12 (x0 % 12)),.string (mtS (x1 % 6)),.string ⟨#[]⟩,.slice none 0 0,.slice none 0 0,.slice none 0 0,.slice none 0 0,.slice none 0 0,.string ⟨#[]⟩,.string ⟨#[]⟩,.string ⟨#[]⟩,.int .i64 0,.slice none 0 0,.int .i64 0,.int .i64 0] 39 (0,0)) by
    rw [<- hA]
    have e0:=heap_setCell_same _ q7 0 _ _ (.int .i64 (kd12 (x0 % 12))) HZ.out
    have e1:=heap_setCell_same _ q7 1 _ _ (.string (mtS (x1 % 6))) e0
    have e2:=heap_setCell_same _ q7 2 _ _ (.string ⟨#[]⟩) e1
    have e3:=heap_setCell_same _ q7 3 _ _ (.slice none 0 0) e2
    have e4:=heap_setCell_same _ q7 4 _ _ (.slice none 0 0) e3
    have e5:=heap_setCell_same _ q7 5 _ _ (.slice none 0 0) e4
    have e6:=heap_setCell_same _ q7 6 _ _ (.slice none 0 0) e5
    have e7:=heap_setCell_same _ q7 7 _ _ (.slice none 0 0) e6
    have e8:=heap_setCell_same _ q7 8 _ _ (.string ⟨#[]⟩) e7
    have e9:=heap_setCell_same _ q7 9 _ _ (.string ⟨#[]⟩) e8
    have e10:=heap_setCell_same _ q7 10 _ _ (.string ⟨#[]⟩) e9
    have e11:=heap_setCell_same _ q7 11 _ _ (.int .i64 0) e10
    have e12:=heap_setCell_same _ q7 12 _ _ (.slice none 0 0) e11
    have e13:=heap_setCell_same _ q7 13 _ _ (.int .i64 0) e12
    have e14:=heap_setCell_same _ q7 14 _ _ (.int .i64 0) e13
    simp only [List.setIfInBounds_toArray,List.set_cons_zero,List.set_cons_succ] at e14
    exact e14)
   replace Gq3:=cy bU Gq3
   replace Gq2:=cy bU Gq2
   replace Gq5:=cy bU Gq5
   replace Gq6:=cy bU Gq6
   have L37:=hid (show q3<q7/\q5<q7/\q6<q7/\w.heap.size<q7 from ⟨jL (jB Gq3L.out) HQ7.out,jL (jB Gq5L.out) HQ7.out,jL (jB Gq6L.out) HQ7.out,jL (jB Gq2L.out) HQ7.out⟩)
   have BV:=hid (BV1.out.trans (bU.mono BV1.out.size))
   clear Gq3L Gq2L Gq5L Gq6L hA bU m0 n0 m1 n1 m2 n2 m3 n3 m4 n4 m5 n5 m6 n6 m7 n7 m8 n8 m9 n9 m10 n10 m11 n11 m12 n12 m13 n13 m14 n14 HZ HQ7 HB BV1
   obtain ⟨kd,hkd⟩:∃ k,kd12 (x0 % 12)=k:=⟨_,rfl⟩
   obtain ⟨tb,htb⟩:∃ t,mtS (x1 % 6)=t:=⟨_,rfl⟩
   rw [hkd,htb] at Gq7
   have HKD:=hid (show kd=kd12 (s.getD 0 0 % 65536 % 12) by rw [<- hkd,HX0.out])
   have HTB:=hid (show tb.size<=1 by rw [<- htb];exact mtS_size _)
   clear hkd htb HX0
   have HRN:=hid (show ∀ x ∈ [x0,x1,x2,x3,x4,x5,x6,x7,x8,x9,x10,x11,x12,x13,x14,x15],0<=x/\x<=65535 by
    intro x hx
    simp only [List.mem_cons,List.not_mem_nil,or_false] at hx
    rcases hx with rfl|rfl|rfl|rfl|rfl|rfl|rfl|rfl|rfl|rfl|rfl|rfl|rfl|rfl|rfl|rfl
    · exact HB0.out
    · exact HB1.out
    · exact HB2.out
    · exact HB3.out
    · exact HB4.out
    · exact HB5.out
    · exact HB6.out
    · exact HB7.out
    · exact HB8.out
    · exact HB9.out
    · exact HB10.out
    · exact HB11.out
    · exact HB12.out
    · exact HB13.out
    · exact HB14.out
    · exact HB15.out)
   clear HB0 HB1 HB2 HB3 HB4 HB5 HB6 HB7 HB8 HB9 HB10 HB11 HB12 HB13 HB14 HB15
   go_upto_block 2 with (fail)
   refine made_w HRN.out Gq3.out Gq5.out Gq6.out ⟨L37.out.1,L37.out.2.1,L37.out.2.2.1⟩ Gq7.out ?_
   intro d8 d9 d10 d11 d12 d13 d14 d15 d16 d17 d18 d19 d20 d21 d22 d23 d24 d25 d26 d27 d28 d29 d30 d31 d32 d33 d34 d35 d36 d37 d38 d39 d40 d41 d42 d43 d44 d45 d46 d47 d48 d49 d50 d51 d52 d53 d54 d55 d56 d57 d58 d59 d60 d61 d62 d63 d64 d65 d66 d67 d68 d69 d70 d71 d72 d73 d74 d75 d76 d77 d78 d79 d80 d81 d82 d83 d84 d85 d86 d87 d88 d89 d90 d91 d92 d93 d94 d95 d96 d97 d98 d99 d100 d101 d102 d103 d104 d105 d106 d107 d108 d109 d110 d111 d112 d113 d114 d115 d116 d117 d118 d119 d120 d121 d122 d123 d124 d125 d126 d127 d128 d129 d130 d131 d132 d133 d134 d135 d136 d137 d138 d139 d140 d141 d142 d143 d144 d145 d146 d147 d148 d149 d150 d151 d152 d153 d154 d155 d156 d157 d158 d159 d160 d161 d162 d163 d164 d165 d166 d167 d168 d169 d170 d171 d172 d173 d174 d175 d176 d177 d178 d179 d180 d181 d182 d183 d184 d185 d186 d187 d188 d189 d190 d191 d192 d193 d194 d195 d196 d197 d198 d199 d200 d201 d202 d203 d204 d205 d206 d207 d208 d209 d210 d211 d212 d213 d214 d215 d216 d217 d218 d219 d220 d221 d222 d223 d224 d225 d226 d227 d228 d229 d230 d231 d232 d233 d234 d235 d236 d237 d238 d239 d240 d241 d242 d243 d244 d245 d246 d247 d248 d249 d250 d251 d252 d253 d254 d255 d256 d257 d258 d259 d260 d261 d262 d263 d264 d265 d266 d267 d268 d269 d270 d271 d272 d273 d274 d275 d276 d277 d278 d279 d280 d281 d282 d283 d284 d285 d286 d287 d288 d289 d290 d291 d292 d293 d294 d295 d296 d297 d298 d299 d300 d301 d302 d303 d304 d305 d306 d307 L a c U hW
   have GV:=hid hW.1
   have Cq7:=hid hW.2.1
   have LW:=hid hW.2.2.1
   have HL:=hid (show L.length<=2/\∀ x ∈ L,CondOk x from ⟨hW.2.2.2.1,hW.2.2.2.2⟩)
   clear hW
   have z0:=jC Cq7.out 0
   simp only [gT,gZ,gS] at z0
   go_upto_block 4 with (fail)
   clear z0
   go_cut [] from 8 to 307 (fun wx=>Hid (StQ V q7 kd wx))
   case first =>
    have hkb:2<=kd/\kd<=7:=by rw [HKD.out];exact kd12_bd _
    rcases (show kd=2 \/ kd=3 \/ kd=4 \/ kd=5 \/ kd=6 \/ kd=7 by omega) with rfl|rfl|rfl|rfl|rfl|rfl
    all_goals clear hkb
    · go_upto_if 281 with (fail)
      refine wp_cond_true rfl ?_
      refine made_k2 HRN.out Gq3.out Gq5.out Gq6.out ⟨L37.out.1,L37.out.2.1,L37.out.2.2.1,L37.out.2.2.2⟩ GV.out Cq7.out LW.out HL.out HTB.out ?_
      intro d8 d9 d10 d11 d12 d13 d14 d15 d16 d17 d18 d19 d20 d21 d22 d23 d24 d25 d26 d27 d28 d29 d30 d31 d32 d33 d34 d35 d36 d37 d38 d39 d40 d41 d42 d43 d44 d45 d46 d47 d48 d49 d50 d51 d52 d53 d54 d55 d56 d57 d58 d59 d60 d61 d62 d63 d64 d65 d66 d67 d68 d69 d70 d71 d72 d73 d74 d75 d76 d77 d78 d79 d80 d81 d82 d83 d84 d85 d86 d87 d88 d89 d90 d91 d92 d93 d94 d95 d96 d97 d98 d99 d100 d101 d102 d103 d104 d105 d106 d107 d108 d109 d110 d111 d112 d113 d114 d115 d116 d117 d118 d119 d120 d121 d122 d123 d124 d125 d126 d127 d128 d129 d130 d131 d132 d133 d134 d135 d136 d137 d138 d139 d140 d141 d142 d143 d144 d145 d146 d147 d148 d149 d150 d151 d152 d153 d154 d155 d156 d157 d158 d159 d160 d161 d162 d163 d164 d165 d166 d167 d168 d169 d170 d171 d172 d173 d174 d175 d176 d177 d178 d179 d180 d181 d182 d183 d184 d185 d186 d187 d188 d189 d190 d191 d192 d193 d194 d195 d196 d197 d198 d199 d200 d201 d202 d203 d204 d205 d206 d207 d208 d209 d210 d211 d212 d213 d214 d215 d216 d217 d218 d219 d220 d221 d222 d223 d224 d225 d226 d227 d228 d229 d230 d231 d232 d233 d234 d235 d236 d237 d238 d239 d240 d241 d242 d243 d244 d245 d246 d247 d248 d249 d250 d251 d252 d253 d254 d255 d256 d257 d258 d259 d260 d261 d262 d263 d264 d265 d266 d267 d268 d269 d270 d271 d272 d273 d274 d275 d276 d277 d278 d279 d280 d281 d282 d283 d284 d285 d286 d287 d288 d289 d290 d291 d292 d293 d294 d295 d296 d297 d298 d299 d300 d301 d302 d303 d304 d305 d306 d307 wf hF
      have HFIN:=hid hF
      clear hF
      go_wp2_with fail
      go_meet
      exact HFIN.out
    · go_upto_if 262 with (fail)
      refine wp_cond_true rfl ?_
      refine made_k3 HRN.out Gq3.out Gq5.out Gq6.out ⟨L37.out.1,L37.out.2.1,L37.out.2.2.1,L37.out.2.2.2⟩ GV.out Cq7.out LW.out HL.out HTB.out ?_
      intro d8 d9 d10 d11 d12 d13 d14 d15 d16 d17 d18 d19 d20 d21 d22 d23 d24 d25 d26 d27 d28 d29 d30 d31 d32 d33 d34 d35 d36 d37 d38 d39 d40 d41 d42 d43 d44 d45 d46 d47 d48 d49 d50 d51 d52 d53 d54 d55 d56 d57 d58 d59 d60 d61 d62 d63 d64 d65 d66 d67 d68 d69 d70 d71 d72 d73 d74 d75 d76 d77 d78 d79 d80 d81 d82 d83 d84 d85 d86 d87 d88 d89 d90 d91 d92 d93 d94 d95 d96 d97 d98 d99 d100 d101 d102 d103 d104 d105 d106 d107 d108 d109 d110 d111 d112 d113 d114 d115 d116 d117 d118 d119 d120 d121 d122 d123 d124 d125 d126 d127 d128 d129 d130 d131 d132 d133 d134 d135 d136 d137 d138 d139 d140 d141 d142 d143 d144 d145 d146 d147 d148 d149 d150 d151 d152 d153 d154 d155 d156 d157 d158 d159 d160 d161 d162 d163 d164 d165 d166 d167 d168 d169 d170 d171 d172 d173 d174 d175 d176 d177 d178 d179 d180 d181 d182 d183 d184 d185 d186 d187 d188 d189 d190 d191 d192 d193 d194 d195 d196 d197 d198 d199 d200 d201 d202 d203 d204 d205 d206 d207 d208 d209 d210 d211 d212 d213 d214 d215 d216 d217 d218 d219 d220 d221 d222 d223 d224 d225 d226 d227 d228 d229 d230 d231 d232 d233 d234 d235 d236 d237 d238 d239 d240 d241 d242 d243 d244 d245 d246 d247 d248 d249 d250 d251 d252 d253 d254 d255 d256 d257 d258 d259 d260 d261 d262 d263 d264 d265 d266 d267 d268 d269 d270 d271 d272 d273 d274 d275 d276 d277 d278 d279 d280 d281 d282 d283 d284 d285 d286 d287 d288 d289 d290 d291 d292 d293 d294 d295 d296 d297 d298 d299 d300 d301 d302 d303 d304 d305 d306 d307 wf hF
      have HFIN:=hid hF
      clear hF
      go_wp2_with fail
      go_meet
      exact HFIN.out
    · go_upto_if 87 with (fail)
      refine wp_cond_true rfl ?_
      refine made_k4 HRN.out Gq3.out Gq5.out Gq6.out ⟨L37.out.1,L37.out.2.1,L37.out.2.2.1,L37.out.2.2.2⟩ GV.out Cq7.out LW.out HL.out HTB.out ?_
      intro d8 d9 d10 d11 d12 d13 d14 d15 d16 d17 d18 d19 d20 d21 d22 d23 d24 d25 d26 d27 d28 d29 d30 d31 d32 d33 d34 d35 d36 d37 d38 d39 d40 d41 d42 d43 d44 d45 d46 d47 d48 d49 d50 d51 d52 d53 d54 d55 d56 d57 d58 d59 d60 d61 d62 d63 d64 d65 d66 d67 d68 d69 d70 d71 d72 d73 d74 d75 d76 d77 d78 d79 d80 d81 d82 d83 d84 d85 d86 d87 d88 d89 d90 d91 d92 d93 d94 d95 d96 d97 d98 d99 d100 d101 d102 d103 d104 d105 d106 d107 d108 d109 d110 d111 d112 d113 d114 d115 d116 d117 d118 d119 d120 d121 d122 d123 d124 d125 d126 d127 d128 d129 d130 d131 d132 d133 d134 d135 d136 d137 d138 d139 d140 d141 d142 d143 d144 d145 d146 d147 d148 d149 d150 d151 d152 d153 d154 d155 d156 d157 d158 d159 d160 d161 d162 d163 d164 d165 d166 d167 d168 d169 d170 d171 d172 d173 d174 d175 d176 d177 d178 d179 d180 d181 d182 d183 d184 d185 d186 d187 d188 d189 d190 d191 d192 d193 d194 d195 d196 d197 d198 d199 d200 d201 d202 d203 d204 d205 d206 d207 d208 d209 d210 d211 d212 d213 d214 d215 d216 d217 d218 d219 d220 d221 d222 d223 d224 d225 d226 d227 d228 d229 d230 d231 d232 d233 d234 d235 d236 d237 d238 d239 d240 d241 d242 d243 d244 d245 d246 d247 d248 d249 d250 d251 d252 d253 d254 d255 d256 d257 d258 d259 d260 d261 d262 d263 d264 d265 d266 d267 d268 d269 d270 d271 d272 d273 d274 d275 d276 d277 d278 d279 d280 d281 d282 d283 d284 d285 d286 d287 d288 d289 d290 d291 d292 d293 d294 d295 d296 d297 d298 d299 d300 d301 d302 d303 d304 d305 d306 d307 wf hF
      have HFIN:=hid hF
      clear hF
      go_wp2_with fail
      go_meet
      exact HFIN.out
    · go_upto_if 112 with (fail)
      refine wp_cond_true rfl ?_
      refine made_k5 HRN.out Gq3.out Gq5.out Gq6.out ⟨L37.out.1,L37.out.2.1,L37.out.2.2.1,L37.out.2.2.2⟩ GV.out Cq7.out LW.out HL.out HTB.out ?_
      intro d8 d9 d10 d11 d12 d13 d14 d15 d16 d17 d18 d19 d20 d21 d22 d23 d24 d25 d26 d27 d28 d29 d30 d31 d32 d33 d34 d35 d36 d37 d38 d39 d40 d41 d42 d43 d44 d45 d46 d47 d48 d49 d50 d51 d52 d53 d54 d55 d56 d57 d58 d59 d60 d61 d62 d63 d64 d65 d66 d67 d68 d69 d70 d71 d72 d73 d74 d75 d76 d77 d78 d79 d80 d81 d82 d83 d84 d85 d86 d87 d88 d89 d90 d91 d92 d93 d94 d95 d96 d97 d98 d99 d100 d101 d102 d103 d104 d105 d106 d107 d108 d109 d110 d111 d112 d113 d114 d115 d116 d117 d118 d119 d120 d121 d122 d123 d124 d125 d126 d127 d128 d129 d130 d131 d132 d133 d134 d135 d136 d137 d138 d139 d140 d141 d142 d143 d144 d145 d146 d147 d148 d149 d150 d151 d152 d153 d154 d155 d156 d157 d158 d159 d160 d161 d162 d163 d164 d165 d166 d167 d168 d169 d170 d171 d172 d173 d174 d175 d176 d177 d178 d179 d180 d181 d182 d183 d184 d185 d186 d187 d188 d189 d190 d191 d192 d193 d194 d195 d196 d197 d198 d199 d200 d201 d202 d203 d204 d205 d206 d207 d208 d209 d210 d211 d212 d213 d214 d215 d216 d217 d218 d219 d220 d221 d222 d223 d224 d225 d226 d227 d228 d229 d230 d231 d232 d233 d234 d235 d236 d237 d238 d239 d240 d241 d242 d243 d244 d245 d246 d247 d248 d249 d250 d251 d252 d253 d254 d255 d256 d257 d258 d259 d260 d261 d262 d263 d264 d265 d266 d267 d268 d269 d270 d271 d272 d273 d274 d275 d276 d277 d278 d279 d280 d281 d282 d283 d284 d285 d286 d287 d288 d289 d290 d291 d292 d293 d294 d295 d296 d297 d298 d299 d300 d301 d302 d303 d304 d305 d306 d307 wf hF
      have HFIN:=hid hF
      clear hF
      go_wp2_with fail
      go_meet
      exact HFIN.out
    · have HFIN:=hid (show StQ V q7 6 U from ⟨{ stmt0 with kind:=6,table:=tb,wher:=L },none,0,none,0,none,0,a,c,none,0,GV.out,Cq7.out,⟨Lst.nil,Lst.nil,Lst.nil,LW.out,Lst.nil⟩,ok0 (by decide) HTB.out (by have:=HL.out.1;omega) HL.out.2,rfl⟩)
      go_wp2_with fail
      go_meet
      exact HFIN.out
    · go_upto_if 158 with (fail)
      refine wp_cond_true rfl ?_
      refine made_k7 HRN.out Gq3.out Gq5.out Gq6.out ⟨L37.out.1,L37.out.2.1,L37.out.2.2.1,L37.out.2.2.2⟩ GV.out Cq7.out LW.out HL.out HTB.out ?_
      intro d8 d9 d10 d11 d12 d13 d14 d15 d16 d17 d18 d19 d20 d21 d22 d23 d24 d25 d26 d27 d28 d29 d30 d31 d32 d33 d34 d35 d36 d37 d38 d39 d40 d41 d42 d43 d44 d45 d46 d47 d48 d49 d50 d51 d52 d53 d54 d55 d56 d57 d58 d59 d60 d61 d62 d63 d64 d65 d66 d67 d68 d69 d70 d71 d72 d73 d74 d75 d76 d77 d78 d79 d80 d81 d82 d83 d84 d85 d86 d87 d88 d89 d90 d91 d92 d93 d94 d95 d96 d97 d98 d99 d100 d101 d102 d103 d104 d105 d106 d107 d108 d109 d110 d111 d112 d113 d114 d115 d116 d117 d118 d119 d120 d121 d122 d123 d124 d125 d126 d127 d128 d129 d130 d131 d132 d133 d134 d135 d136 d137 d138 d139 d140 d141 d142 d143 d144 d145 d146 d147 d148 d149 d150 d151 d152 d153 d154 d155 d156 d157 d158 d159 d160 d161 d162 d163 d164 d165 d166 d167 d168 d169 d170 d171 d172 d173 d174 d175 d176 d177 d178 d179 d180 d181 d182 d183 d184 d185 d186 d187 d188 d189 d190 d191 d192 d193 d194 d195 d196 d197 d198 d199 d200 d201 d202 d203 d204 d205 d206 d207 d208 d209 d210 d211 d212 d213 d214 d215 d216 d217 d218 d219 d220 d221 d222 d223 d224 d225 d226 d227 d228 d229 d230 d231 d232 d233 d234 d235 d236 d237 d238 d239 d240 d241 d242 d243 d244 d245 d246 d247 d248 d249 d250 d251 d252 d253 d254 d255 d256 d257 d258 d259 d260 d261 d262 d263 d264 d265 d266 d267 d268 d269 d270 d271 d272 d273 d274 d275 d276 d277 d278 d279 d280 d281 d282 d283 d284 d285 d286 d287 d288 d289 d290 d291 d292 d293 d294 d295 d296 d297 d298 d299 d300 d301 d302 d303 d304 d305 d306 d307 wf hF
      have HFIN:=hid hF
      clear hF
      go_wp2_with fail
      go_meet
      exact HFIN.out
   case rest =>
    obtain ⟨st,a4,c4,a5,c5,a6,c6,a7,c7,a12,c12,hg,hz,hls,hok,hkd⟩:=hcut.out
    have HB:=hid (show Below w.heap.size w wc from BV.out.grown hg BV.out.size (fun j e=>by cases e;exact Nat.le_of_lt L37.out.2.2.2))
    have Hq2:=hid ((hg.block _ (jB Gq2.out) (fun e=>Nat.ne_of_lt L37.out.2.2.2 (jI e))).trans Gq2.out)
    have Hq7:=hid (show wc.heap[q7]? = some (.cells #[.int .i64 st.kind,.string st.table,.string st.name,.slice none 0 0,.slice a4 st.names.length c4,.slice a5 st.row.length c5,.slice a6 st.sets.length c6,.slice a7 st.wher.length c7,.string st.join,.string st.left,.string st.right,.int .i64 st.agg,.slice a12 st.order.length c12,.int .i64 0,.int .i64 0] 39 (0,0)) from hz)
    have HS2:=hid (StQ.stmt (p:=fun k=>q7<k) hls hok (fun _ h=>h))
    have HOK:=hid (show OkSt st/\st.kind=kd from ⟨hok,hkd⟩)
    clear hg hz hls hok hkd hcut
    go_step
    refine made_end Hq2.out Hq7.out ?_
    intro Z hgr e14
    have hBZ:Below w.heap.size w Z:=HB.out.grown hgr HB.out.size (fun j e=>by cases e;exact jR _)
    refine bodyPost_ret (results_cell1 rfl _ _ w.heap.size 39 _ (0,0) _ rfl e14 Tryz.underlying39 rfl (by kernel_rfl)) rfl ?_
    refine ⟨_,st,rfl,hBZ,?_,HOK.out.1,HOK.out.2.trans HKD.out⟩
    exact (HS2.out.keep (fun k hk hl=>hgr.block k hl (fun e=>by have:=jI e;have:=L37.out.2.2.2;omega))).weaken (fun k hk=>by have:=L37.out.2.2.2;omega)
end
end Go.Proofs.YtgemihkcihigpaaGreatDoor
