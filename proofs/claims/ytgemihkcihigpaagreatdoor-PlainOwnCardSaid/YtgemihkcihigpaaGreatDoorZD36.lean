/- vintnerref18.Made: kind 2. -/
import Derived.Test.YtgemihkcihigpaaGreatDoorZD34
set_option linter.unusedVariables false
set_option linter.unusedSimpArgs false
set_option maxRecDepth 100000
set_option maxHeartbeats 64000000
namespace Go.Proofs.YtgemihkcihigpaaGreatDoor
open Go.Lib (hid)
section
open Go.RowKit
theorem ijkl_tiny (y:Int) (h0:0<=y) (h1:y<4):((⟨#[105,106,107,108]⟩:ByteArray).extract y.toNat (y+1).toNat).size<=1:=by
 rcases (show y=0 \/ y=1 \/ y=2 \/ y=3 by omega) with rfl|rfl|rfl|rfl <;> decide
theorem okx {kd:Int} {tb nm xx:ByteArray} (hk:2<=kd/\kd<=7) (ht:tb.size<=1) (h1:nm.size<=1) (h2:xx.size<=1):OkSt { stmt0 with kind:=kd,table:=tb,name:=nm,names:=[xx] } :=
 ⟨hk,rfl,rfl,rfl,⟨show 1<=3 by decide,Nat.zero_le _,Nat.zero_le _,Nat.zero_le _,Nat.zero_le _⟩,⟨ht,h1,Nat.zero_le _,Nat.zero_le _,Nat.zero_le _⟩,⟨(fun x hx=>by rw [List.mem_singleton.1 hx];exact h2),(fun x hx=>by cases hx)⟩,(fun x hx=>by cases hx),(fun x hx=>by cases hx),(fun x hx=>by cases hx)⟩
noncomputable def mcode2:Code:=(Tryz.f36.body.bind (condThen 281)).getD .skip
theorem made_k2 {Q:Exit->Act->World->Prop} {V U:World} {q2 q3 q5 q6 q7:Nat} {x0 x1 x2 x3 x4 x5 x6 x7 x8 x9 x10 x11 x12 x13 x14 x15:Int} {L:List Cond} {a:Option Addr} {c:Nat} {tb:ByteArray} {g0 g1 g2 g4 g8 g9 g10 g11 g12 g13 g14 g15 g16 g17 g18 g19 g20 g21 g22 g23 g24 g25 g26 g27 g28 g29 g30 g31 g32 g33 g34 g35 g36 g37 g38 g39 g40 g41 g42 g43 g44 g45 g46 g47 g48 g49 g50 g51 g52 g53 g54 g55 g56 g57 g58 g59 g60 g61 g62 g63 g64 g65 g66 g67 g68 g69 g70 g71 g72 g73 g74 g75 g76 g77 g78 g79 g80 g81 g82 g83 g84 g85 g86 g87 g88 g89 g90 g91 g92 g93 g94 g95 g96 g97 g98 g99 g100 g101 g102 g103 g104 g105 g106 g107 g108 g109 g110 g111 g112 g113 g114 g115 g116 g117 g118 g119 g120 g121 g122 g123 g124 g125 g126 g127 g128 g129 g130 g131 g132 g133 g134 g135 g136 g137 g138 g139 g140 g141 g142 g143 g144 g145 g146 g147 g148 g149 g150 g151 g152 g153 g154 g155 g156 g157 g158 g159 g160 g161 g162 g163 g164 g165 g166 g167 g168 g169 g170 g171 g172 g173 g174 g175 g176 g177 g178 g179 g180 g181 g182 g183 g184 g185 g186 g187 g188 g189 g190 g191 g192 g193 g194 g195 g196 g197 g198 g199 g200 g201 g202 g203 g204 g205 g206 g207 g208 g209 g210 g211 g212 g213 g214 g215 g216 g217 g218 g219 g220 g221 g222 g223 g224 g225 g226 g227 g228 g229 g230 g231 g232 g233 g234 g235 g236 g237 g238 g239 g240 g241 g242 g243 g244 g245 g246 g247 g248 g249 g250 g251 g252 g253 g254 g255 g256 g257 g258 g259 g260 g261 g262 g263 g264 g265 g266 g267 g268 g269 g270 g271 g272 g273 g274 g275 g276 g277 g278 g279 g280 g281 g282 g283 g284 g285 g286 g287 g288 g289 g290 g291 g292 g293 g294 g295 g296 g297 g298 g299 g300 g301 g302 g303 g304 g305 g306 g307:Value}
 (HRN0:∀ x ∈ [x0,x1,x2,x3,x4,x5,x6,x7,x8,x9,x10,x11,x12,x13,x14,x15],0<=x/\x<=65535) (H3:V.heap[q3]? = some (.cells #[.int .i64 x0,.int .i64 x1,.int .i64 x2,.int .i64 x3,.int .i64 x4,.int .i64 x5,.int .i64 x6,.int .i64 x7,.int .i64 x8,.int .i64 x9,.int .i64 x10,.int .i64 x11,.int .i64 x12,.int .i64 x13,.int .i64 x14,.int .i64 x15] 3 (0,0))) (H5:V.heap[q5]? = some (.cells tabs6 9 (0,0))) (H6:V.heap[q6]? = some (.cells cols6 9 (0,0)))
 (H37:q3<q7/\q5<q7/\q6<q7/\q2<q7) (HV:V.grownBy U (some q7)) (H7:U.heap[q7]? = some (.cells #[.int .i64 2,.string tb,.string ⟨#[]⟩,.slice none 0 0,.slice none 0 0,.slice none 0 0,.slice none 0 0,.slice a L.length c,.string ⟨#[]⟩,.string ⟨#[]⟩,.string ⟨#[]⟩,.int .i64 0,.slice none 0 0,.int .i64 0,.int .i64 0] 39 (0,0))) (HLW:Lst condR q7 U a c L) (HLL:L.length<=2/\∀ x ∈ L,CondOk x) (HTT:tb.size<=1)
 (hQ:∀ (d8 d9 d10 d11 d12 d13 d14 d15 d16 d17 d18 d19 d20 d21 d22 d23 d24 d25 d26 d27 d28 d29 d30 d31 d32 d33 d34 d35 d36 d37 d38 d39 d40 d41 d42 d43 d44 d45 d46 d47 d48 d49 d50 d51 d52 d53 d54 d55 d56 d57 d58 d59 d60 d61 d62 d63 d64 d65 d66 d67 d68 d69 d70 d71 d72 d73 d74 d75 d76 d77 d78 d79 d80 d81 d82 d83 d84 d85 d86 d87 d88 d89 d90 d91 d92 d93 d94 d95 d96 d97 d98 d99 d100 d101 d102 d103 d104 d105 d106 d107 d108 d109 d110 d111 d112 d113 d114 d115 d116 d117 d118 d119 d120 d121 d122 d123 d124 d125 d126 d127 d128 d129 d130 d131 d132 d133 d134 d135 d136 d137 d138 d139 d140 d141 d142 d143 d144 d145 d146 d147 d148 d149 d150 d151 d152 d153 d154 d155 d156 d157 d158 d159 d160 d161 d162 d163 d164 d165 d166 d167 d168 d169 d170 d171 d172 d173 d174 d175 d176 d177 d178 d179 d180 d181 d182 d183 d184 d185 d186 d187 d188 d189 d190 d191 d192 d193 d194 d195 d196 d197 d198 d199 d200 d201 d202 d203 d204 d205 d206 d207 d208 d209 d210 d211 d212 d213 d214 d215 d216 d217 d218 d219 d220 d221 d222 d223 d224 d225 d226 d227 d228 d229 d230 d231 d232 d233 d234 d235 d236 d237 d238 d239 d240 d241 d242 d243 d244 d245 d246 d247 d248 d249 d250 d251 d252 d253 d254 d255 d256 d257 d258 d259 d260 d261 d262 d263 d264 d265 d266 d267 d268 d269 d270 d271 d272 d273 d274 d275 d276 d277 d278 d279 d280 d281 d282 d283 d284 d285 d286 d287 d288 d289 d290 d291 d292 d293 d294 d295 d296 d297 d298 d299 d300 d301 d302 d303 d304 d305 d306 d307:Value) (w':World),StQ V q7 2 w'->Q .normal ⟨#[g0,g1,g2,.slice (some ⟨q3,0,none⟩) 16 16,g4,.slice (some ⟨q5,0,none⟩) 6 6,.slice (some ⟨q6,0,none⟩) 6 6,.pointer (some ⟨q7,0,none⟩),d8,d9,d10,d11,d12,d13,d14,d15,d16,d17,d18,d19,d20,d21,d22,d23,d24,d25,d26,d27,d28,d29,d30,d31,d32,d33,d34,d35,d36,d37,d38,d39,d40,d41,d42,d43,d44,d45,d46,d47,d48,d49,d50,d51,d52,d53,d54,d55,d56,d57,d58,d59,d60,d61,d62,d63,d64,d65,d66,d67,d68,d69,d70,d71,d72,d73,d74,d75,d76,d77,d78,d79,d80,d81,d82,d83,d84,d85,d86,d87,d88,d89,d90,d91,d92,d93,d94,d95,d96,d97,d98,d99,d100,d101,d102,d103,d104,d105,d106,d107,d108,d109,d110,d111,d112,d113,d114,d115,d116,d117,d118,d119,d120,d121,d122,d123,d124,d125,d126,d127,d128,d129,d130,d131,d132,d133,d134,d135,d136,d137,d138,d139,d140,d141,d142,d143,d144,d145,d146,d147,d148,d149,d150,d151,d152,d153,d154,d155,d156,d157,d158,d159,d160,d161,d162,d163,d164,d165,d166,d167,d168,d169,d170,d171,d172,d173,d174,d175,d176,d177,d178,d179,d180,d181,d182,d183,d184,d185,d186,d187,d188,d189,d190,d191,d192,d193,d194,d195,d196,d197,d198,d199,d200,d201,d202,d203,d204,d205,d206,d207,d208,d209,d210,d211,d212,d213,d214,d215,d216,d217,d218,d219,d220,d221,d222,d223,d224,d225,d226,d227,d228,d229,d230,d231,d232,d233,d234,d235,d236,d237,d238,d239,d240,d241,d242,d243,d244,d245,d246,d247,d248,d249,d250,d251,d252,d253,d254,d255,d256,d257,d258,d259,d260,d261,d262,d263,d264,d265,d266,d267,d268,d269,d270,d271,d272,d273,d274,d275,d276,d277,d278,d279,d280,d281,d282,d283,d284,d285,d286,d287,d288,d289,d290,d291,d292,d293,d294,d295,d296,d297,d298,d299,d300,d301,d302,d303,d304,d305,d306,d307],[]⟩ w'):Code.wp Tryz.prog mcode2 Q ⟨#[g0,g1,g2,.slice (some ⟨q3,0,none⟩) 16 16,g4,.slice (some ⟨q5,0,none⟩) 6 6,.slice (some ⟨q6,0,none⟩) 6 6,.pointer (some ⟨q7,0,none⟩),g8,g9,g10,g11,g12,g13,g14,g15,g16,g17,g18,g19,g20,g21,g22,g23,g24,g25,g26,g27,g28,g29,g30,g31,g32,g33,g34,g35,g36,g37,g38,g39,g40,g41,g42,g43,g44,g45,g46,g47,g48,g49,g50,g51,g52,g53,g54,g55,g56,g57,g58,g59,g60,g61,g62,g63,g64,g65,g66,g67,g68,g69,g70,g71,g72,g73,g74,g75,g76,g77,g78,g79,g80,g81,g82,g83,g84,g85,g86,g87,g88,g89,g90,g91,g92,g93,g94,g95,g96,g97,g98,g99,g100,g101,g102,g103,g104,g105,g106,g107,g108,g109,g110,g111,g112,g113,g114,g115,g116,g117,g118,g119,g120,g121,g122,g123,g124,g125,g126,g127,g128,g129,g130,g131,g132,g133,g134,g135,g136,g137,g138,g139,g140,g141,g142,g143,g144,g145,g146,g147,g148,g149,g150,g151,g152,g153,g154,g155,g156,g157,g158,g159,g160,g161,g162,g163,g164,g165,g166,g167,g168,g169,g170,g171,g172,g173,g174,g175,g176,g177,g178,g179,g180,g181,g182,g183,g184,g185,g186,g187,g188,g189,g190,g191,g192,g193,g194,g195,g196,g197,g198,g199,g200,g201,g202,g203,g204,g205,g206,g207,g208,g209,g210,g211,g212,g213,g214,g215,g216,g217,g218,g219,g220,g221,g222,g223,g224,g225,g226,g227,g228,g229,g230,g231,g232,g233,g234,g235,g236,g237,g238,g239,g240,g241,g242,g243,g244,g245,g246,g247,g248,g249,g250,g251,g252,g253,g254,g255,g256,g257,g258,g259,g260,g261,g262,g263,g264,g265,g266,g267,g268,g269,g270,g271,g272,g273,g274,g275,g276,g277,g278,g279,g280,g281,g282,g283,g284,g285,g286,g287,g288,g289,g290,g291,g292,g293,g294,g295,g296,g297,g298,g299,g300,g301,g302,g303,g304,g305,g306,g307],[]⟩ U:=by
 conv=>arg 2;whnf
 have HRN:=hid HRN0
 have HB0:=hid (HRN0 x0 (by simp))
 have HB1:=hid (HRN0 x1 (by simp))
 have HB2:=hid (HRN0 x2 (by simp))
 have HB3:=hid (HRN0 x3 (by simp))
 have HB4:=hid (HRN0 x4 (by simp))
 have HB5:=hid (HRN0 x5 (by simp))
 have HB6:=hid (HRN0 x6 (by simp))
 have HB7:=hid (HRN0 x7 (by simp))
 have HB8:=hid (HRN0 x8 (by simp))
 have HB9:=hid (HRN0 x9 (by simp))
 have HB10:=hid (HRN0 x10 (by simp))
 have HB11:=hid (HRN0 x11 (by simp))
 have HB12:=hid (HRN0 x12 (by simp))
 have HB13:=hid (HRN0 x13 (by simp))
 have HB14:=hid (HRN0 x14 (by simp))
 have HB15:=hid (HRN0 x15 (by simp))
 have Gq3:=hid H3
 have Gq5:=hid H5
 have Gq6:=hid H6
 have L37:=hid H37
 have GV:=hid HV
 have Cq7:=hid H7
 have LW:=hid HLW
 have HL:=hid HLL
 have HTB:=hid HTT
 have Cq3:=hid ((GV.out.block _ (jB Gq3.out) (fun e=>Nat.ne_of_lt L37.out.1 (jI e))).trans Gq3.out)
 have Cq5:=hid ((GV.out.block _ (jB Gq5.out) (fun e=>Nat.ne_of_lt L37.out.2.1 (jI e))).trans Gq5.out)
 have Cq6:=hid ((GV.out.block _ (jB Gq6.out) (fun e=>Nat.ne_of_lt L37.out.2.2.1 (jI e))).trans Gq6.out)
 obtain ⟨iV,hV,hV0,hV1,hV2⟩:=info_parts info_mv
 obtain ⟨iS,hS,hS0,hS1,hS2⟩:=info_parts info_mst
 obtain ⟨iE,hE,hE0,hE1,hE2⟩:=info_parts info_mse
 have HQ:=hid hQ
 clear HRN0 H3 H5 H6 H37 HV H7 HLW HLL HTT hQ
 have m7:=jC Cq7.out 7
 have n7:=free_of Cq7.out 7
 simp only [gT,gZ,gS] at m7
 go_upto_region 48 with (fail)
 generalize hA:World.setCell _ _ _=U1
 have hg:U.grownBy U1 (some q7):=by rw [<- hA];exact grown_cell U ⟨q7,7,none⟩ _
 replace Cq7:=hid (show U1.heap[q7]? = some (.cells #[.int .i64 2,.string tb,.string ⟨#[]⟩,.slice none 0 0,.slice none 0 0,.slice none 0 0,.slice none 0 0,.slice none 0 0,.string ⟨#[]⟩,.string ⟨#[]⟩,.string ⟨#[]⟩,.int .i64 0,.slice none 0 0,.int .i64 0,.int .i64 0] 39 (0,0)) by
  rw [<- hA]
  exact (heap_setCell_same _ _ _ _ _ _ Cq7.out).trans rfl)
 replace GV:=hid (grown_tra GV.out hg)
 replace Cq3:=hid ((GV.out.block _ (jB Gq3.out) (fun e=>Nat.ne_of_lt L37.out.1 (jI e))).trans Gq3.out)
 replace Cq5:=hid ((GV.out.block _ (jB Gq5.out) (fun e=>Nat.ne_of_lt L37.out.2.1 (jI e))).trans Gq5.out)
 replace Cq6:=hid ((GV.out.block _ (jB Gq6.out) (fun e=>Nat.ne_of_lt L37.out.2.2.1 (jI e))).trans Gq6.out)
 clear hA hg m7 n7
 apply wp_region_growt 11 [284,285,286,287,288,289,290,291,292,293,294]
  [fun _ u _=>u=.slice (some ⟨q3,0,none⟩) 16 16,
   fun _ u _=>u=.pointer (some ⟨q3,3,none⟩),
   fun _ u _=>u=.int .i64 x3,
   fun _ u _=>u=.int .i64 (x3 % 4),
   fun _ u _=>u=.slice (some ⟨q3,0,none⟩) 16 16,
   fun _ u _=>u=.pointer (some ⟨q3,3,none⟩),
   fun _ u _=>u=.int .i64 x3,
   fun _ u _=>u=.int .i64 (x3 % 4),
   fun _ u _=>u=.int .i64 (x3 % 4+1),
   fun _ u _=>u=.string ((⟨#[105,106,107,108]⟩:ByteArray).extract (x3 % 4).toNat (x3 % 4+1).toNat),
   fun _ u _=>u=.pointer (some ⟨q7,2,none⟩)]
  (Below U1.heap.size U1)
 case hF =>
  intro v
  simp only [setAll,List.foldl_cons,List.foldl_nil,Act.put,List.setIfInBounds_toArray,List.set_cons_succ,List.set_cons_zero]
  exact rfl
 case hm=>kernel_rfl
 case hB=>kernel_rfl
 case hsz=>kernel_rfl
 case hC=>exact fun w1 w2 h b=>h.trans (b.mono h.size)
 case hw=>exact Below.drew b0R
 case hS =>
  intro D hD v u
  simp only [List.mem_cons,List.not_mem_nil,or_false] at hD
  rcases hD with rfl|rfl|rfl|rfl|rfl|rfl|rfl|rfl|rfl|rfl|rfl
  · exact fun w1 w2 h _=>h
  · exact fun w1 w2 h _=>h
  · exact fun w1 w2 h _=>h
  · exact fun w1 w2 h _=>h
  · exact fun w1 w2 h _=>h
  · exact fun w1 w2 h _=>h
  · exact fun w1 w2 h _=>h
  · exact fun w1 w2 h _=>h
  · exact fun w1 w2 h _=>h
  · exact fun w1 w2 h _=>h
  · exact fun w1 w2 h _=>h
 case hob =>
  simp only [List.take_succ_cons,List.take_zero]
  apply growt_cons
  · intro v w1 h1 hd
    clear hd
    clear h1
    go_wp2_with fail
    first|exact ⟨rfl,_,rfl,Below.refl _ _,rfl⟩|exact Below.refl _ _|exact ⟨Below.refl _ _,rfl⟩
  apply growt_cons
  · intro v w1 h1 hd
    have g284:v 284=.slice (some ⟨q3,0,none⟩) 16 16:=hd 0 _ _ _ rfl rfl rfl rfl
    clear hd
    rw [g284]
    clear g284 h1
    go_wp2_with fail
    first|exact ⟨rfl,_,rfl,Below.refl _ _,rfl⟩|exact Below.refl _ _|exact ⟨Below.refl _ _,rfl⟩
  apply growt_cons
  · intro v w1 h1 hd
    have g285:v 285=.pointer (some ⟨q3,3,none⟩):=hd 1 _ _ _ rfl rfl rfl rfl
    clear hd
    rw [g285]
    have c0:=jC ((h1.block _ (jB Cq3.out)).trans Cq3.out) 3
    simp only [gT,gZ,gS] at c0
    clear g285 h1
    go_wp2_with fail
    first|exact ⟨rfl,_,rfl,Below.refl _ _,rfl⟩|exact Below.refl _ _|exact ⟨Below.refl _ _,rfl⟩
  apply growt_cons
  · intro v w1 h1 hd
    have g286:v 286=.int .i64 x3:=hd 2 _ _ _ rfl rfl rfl rfl
    clear hd
    rw [g286]
    have bx3:=HB3.out
    clear g286 h1
    go_wp2_with fail
    first|exact ⟨rfl,_,rfl,Below.refl _ _,rfl⟩|exact Below.refl _ _|exact ⟨Below.refl _ _,rfl⟩
  apply growt_cons
  · intro v w1 h1 hd
    clear hd
    clear h1
    go_wp2_with fail
    first|exact ⟨rfl,_,rfl,Below.refl _ _,rfl⟩|exact Below.refl _ _|exact ⟨Below.refl _ _,rfl⟩
  apply growt_cons
  · intro v w1 h1 hd
    have g288:v 288=.slice (some ⟨q3,0,none⟩) 16 16:=hd 4 _ _ _ rfl rfl rfl rfl
    clear hd
    rw [g288]
    clear g288 h1
    go_wp2_with fail
    first|exact ⟨rfl,_,rfl,Below.refl _ _,rfl⟩|exact Below.refl _ _|exact ⟨Below.refl _ _,rfl⟩
  apply growt_cons
  · intro v w1 h1 hd
    have g289:v 289=.pointer (some ⟨q3,3,none⟩):=hd 5 _ _ _ rfl rfl rfl rfl
    clear hd
    rw [g289]
    have c0:=jC ((h1.block _ (jB Cq3.out)).trans Cq3.out) 3
    simp only [gT,gZ,gS] at c0
    clear g289 h1
    go_wp2_with fail
    first|exact ⟨rfl,_,rfl,Below.refl _ _,rfl⟩|exact Below.refl _ _|exact ⟨Below.refl _ _,rfl⟩
  apply growt_cons
  · intro v w1 h1 hd
    have g290:v 290=.int .i64 x3:=hd 6 _ _ _ rfl rfl rfl rfl
    clear hd
    rw [g290]
    have bx3:=HB3.out
    clear g290 h1
    go_wp2_with fail
    first|exact ⟨rfl,_,rfl,Below.refl _ _,rfl⟩|exact Below.refl _ _|exact ⟨Below.refl _ _,rfl⟩
  apply growt_cons
  · intro v w1 h1 hd
    have g291:v 291=.int .i64 (x3 % 4):=hd 7 _ _ _ rfl rfl rfl rfl
    clear hd
    rw [g291]
    have bx3:=HB3.out
    have by0:0<=x3 % 4/\x3 % 4<=65535:=by omega
    clear g291 h1
    go_wp2_with fail
    first|exact ⟨rfl,_,rfl,Below.refl _ _,rfl⟩|exact Below.refl _ _|exact ⟨Below.refl _ _,rfl⟩
  apply growt_cons
  · intro v w1 h1 hd
    have g287:v 287=.int .i64 (x3 % 4):=hd 3 _ _ _ rfl rfl rfl rfl
    have g292:v 292=.int .i64 (x3 % 4+1):=hd 8 _ _ _ rfl rfl rfl rfl
    clear hd
    rw [g287,g292]
    have b3:=HB3.out
    have by0:0<=x3 % 4/\x3 % 4<4:=by omega
    clear g287 g292 h1
    go_wp2_with fail
    first|exact ⟨rfl,_,rfl,Below.refl _ _,rfl⟩|exact Below.refl _ _|exact ⟨Below.refl _ _,rfl⟩
  apply growt_cons
  · intro v w1 h1 hd
    clear hd
    clear h1
    go_wp2_with fail
    first|exact ⟨rfl,_,rfl,Below.refl _ _,rfl⟩|exact Below.refl _ _|exact ⟨Below.refl _ _,rfl⟩
  exact growt_nil
 case hend =>
  intro v w9 h1 hd
  have g293:v 293=.string ((⟨#[105,106,107,108]⟩:ByteArray).extract (x3 % 4).toNat (x3 % 4+1).toNat):=hd 9 _ _ _ rfl rfl rfl
  have g294:v 294=.pointer (some ⟨q7,2,none⟩):=hd 10 _ _ _ rfl rfl rfl
  clear hd
  rw [g293,g294]
  have HNM:=hid (show ((⟨#[105,106,107,108]⟩:ByteArray).extract (x3 % 4).toNat (x3 % 4+1).toNat).size<=1 from by
   have b3:=HB3.out
   exact ijkl_tiny (x3 % 4) (by omega) (by omega))
  generalize (⟨#[105,106,107,108]⟩:ByteArray).extract (x3 % 4).toNat (x3 % 4+1).toNat=nm at HNM
  have hz:=(h1.block _ (jB Cq7.out)).trans Cq7.out
  have m7:=jC hz 2
  have n7:=free_of hz 2
  simp only [gT,gZ,gS] at m7
  have HZ:=hid hz
  have H1:=hid h1
  clear g293 g294 hz h1
  generalize v 284=k284,v 285=k285,v 286=k286,v 287=k287,v 288=k288,v 289=k289,v 290=k290,v 291=k291,v 292=k292
  simp only [List.drop_succ_cons,List.drop_zero]
  go_upto_region 49 with (fail)
  generalize hA:World.setCell _ _ _=U2
  have hg:U1.grownBy U2 (some q7):=by rw [<- hA];exact grown_tra (grownBy_of_below _ H1.out) (grown_cell _ ⟨q7,2,none⟩ _)
  replace Cq7:=hid (show U2.heap[q7]? = some (.cells #[.int .i64 2,.string tb,.string nm,.slice none 0 0,.slice none 0 0,.slice none 0 0,.slice none 0 0,.slice none 0 0,.string ⟨#[]⟩,.string ⟨#[]⟩,.string ⟨#[]⟩,.int .i64 0,.slice none 0 0,.int .i64 0,.int .i64 0] 39 (0,0)) by
   rw [<- hA]
   exact (heap_setCell_same _ _ _ _ _ _ HZ.out).trans rfl)
  replace GV:=hid (grown_tra GV.out hg)
  replace Cq3:=hid ((GV.out.block _ (jB Gq3.out) (fun e=>Nat.ne_of_lt L37.out.1 (jI e))).trans Gq3.out)
  replace Cq5:=hid ((GV.out.block _ (jB Gq5.out) (fun e=>Nat.ne_of_lt L37.out.2.1 (jI e))).trans Gq5.out)
  replace Cq6:=hid ((GV.out.block _ (jB Gq6.out) (fun e=>Nat.ne_of_lt L37.out.2.2.1 (jI e))).trans Gq6.out)
  clear hA hg m7 n7 HZ H1
  generalize k284=g284,k285=g285,k286=g286,k287=g287,k288=g288,k289=g289,k290=g290,k291=g291,k292=g292
  apply wp_region_growt 11 [295,296,297,298,299,300,301,302,303,304,305]
   [fun _ u _=>u=.pointer (some ⟨q7,4,none⟩),
    fun _ u _=>u=.slice none 0 0,
    fun _ u _=>u=.slice (some ⟨q6,0,none⟩) 6 6,
    fun _ u _=>u=.slice (some ⟨q3,0,none⟩) 16 16,
    fun _ u _=>u=.pointer (some ⟨q3,4,none⟩),
    fun _ u _=>u=.int .i64 x4,
    fun _ u _=>u=.int .i64 (x4 % 3),
    fun _ u _=>u=.pointer (some ⟨q6,(x4 % 3).toNat,none⟩),
    fun _ u _=>u=.string (mcS (x4 % 3)),
    fun _ u w'=>NewEl strEnc StrOk 9 U2.heap.size u w',
    fun _ u w'=>AppEl strEnc StrOk 9 1 U2.heap.size 0 [] u w']
   (Below U2.heap.size U2)
  case hF =>
   intro v
   simp only [setAll,List.foldl_cons,List.foldl_nil,Act.put,List.setIfInBounds_toArray,List.set_cons_succ,List.set_cons_zero]
   exact rfl
  case hm=>kernel_rfl
  case hB=>kernel_rfl
  case hsz=>kernel_rfl
  case hC=>exact fun w1 w2 h b=>h.trans (b.mono h.size)
  case hw=>exact Below.drew b0R
  case hS =>
   intro D hD v u
   simp only [List.mem_cons,List.not_mem_nil,or_false] at hD
   rcases hD with rfl|rfl|rfl|rfl|rfl|rfl|rfl|rfl|rfl|rfl|rfl
   · exact fun w1 w2 h _=>h
   · exact fun w1 w2 h _=>h
   · exact fun w1 w2 h _=>h
   · exact fun w1 w2 h _=>h
   · exact fun w1 w2 h _=>h
   · exact fun w1 w2 h _=>h
   · exact fun w1 w2 h _=>h
   · exact fun w1 w2 h _=>h
   · exact fun w1 w2 h _=>h
   · exact fun w1 w2 h hb=>h.grown (r:=none) (fun b e=>by cases e) (grownBy_of_below _ hb)
   · exact fun w1 w2 h hb=>h.below hb
  case hob =>
   simp only [List.take_succ_cons,List.take_zero]
   apply growt_cons
   · intro v w1 h1 hd
     clear hd
     clear h1
     go_wp2_with fail
     first|exact ⟨rfl,_,rfl,Below.refl _ _,rfl⟩|exact Below.refl _ _|exact ⟨Below.refl _ _,rfl⟩
   apply growt_cons
   · intro v w1 h1 hd
     have g295:v 295=.pointer (some ⟨q7,4,none⟩):=hd 0 _ _ _ rfl rfl rfl rfl
     clear hd
     rw [g295]
     have c0:=jC ((h1.block _ (jB Cq7.out)).trans Cq7.out) 4
     simp only [gT,gZ,gS] at c0
     clear g295 h1
     go_wp2_with fail
     first|exact ⟨rfl,_,rfl,Below.refl _ _,rfl⟩|exact Below.refl _ _|exact ⟨Below.refl _ _,rfl⟩
   apply growt_cons
   · intro v w1 h1 hd
     clear hd
     clear h1
     go_wp2_with fail
     first|exact ⟨rfl,_,rfl,Below.refl _ _,rfl⟩|exact Below.refl _ _|exact ⟨Below.refl _ _,rfl⟩
   apply growt_cons
   · intro v w1 h1 hd
     clear hd
     clear h1
     go_wp2_with fail
     first|exact ⟨rfl,_,rfl,Below.refl _ _,rfl⟩|exact Below.refl _ _|exact ⟨Below.refl _ _,rfl⟩
   apply growt_cons
   · intro v w1 h1 hd
     have g298:v 298=.slice (some ⟨q3,0,none⟩) 16 16:=hd 3 _ _ _ rfl rfl rfl rfl
     clear hd
     rw [g298]
     clear g298 h1
     go_wp2_with fail
     first|exact ⟨rfl,_,rfl,Below.refl _ _,rfl⟩|exact Below.refl _ _|exact ⟨Below.refl _ _,rfl⟩
   apply growt_cons
   · intro v w1 h1 hd
     have g299:v 299=.pointer (some ⟨q3,4,none⟩):=hd 4 _ _ _ rfl rfl rfl rfl
     clear hd
     rw [g299]
     have c0:=jC ((h1.block _ (jB Cq3.out)).trans Cq3.out) 4
     simp only [gT,gZ,gS] at c0
     clear g299 h1
     go_wp2_with fail
     first|exact ⟨rfl,_,rfl,Below.refl _ _,rfl⟩|exact Below.refl _ _|exact ⟨Below.refl _ _,rfl⟩
   apply growt_cons
   · intro v w1 h1 hd
     have g300:v 300=.int .i64 x4:=hd 5 _ _ _ rfl rfl rfl rfl
     clear hd
     rw [g300]
     have bx4:=HB4.out
     clear g300 h1
     go_wp2_with fail
     first|exact ⟨rfl,_,rfl,Below.refl _ _,rfl⟩|exact Below.refl _ _|exact ⟨Below.refl _ _,rfl⟩
   apply growt_cons
   · intro v w1 h1 hd
     have g297:v 297=.slice (some ⟨q6,0,none⟩) 6 6:=hd 2 _ _ _ rfl rfl rfl rfl
     have g301:v 301=.int .i64 (x4 % 3):=hd 6 _ _ _ rfl rfl rfl rfl
     clear hd
     rw [g297,g301]
     have bx4:=HB4.out
     have by0:0<=x4 % 3/\x4 % 3<6:=by omega
     clear g297 g301 h1
     go_wp2_with fail
     first|exact ⟨rfl,_,rfl,Below.refl _ _,rfl⟩|exact Below.refl _ _|exact ⟨Below.refl _ _,rfl⟩
   apply growt_cons
   · intro v w1 h1 hd
     have g302:v 302=.pointer (some ⟨q6,(x4 % 3).toNat,none⟩):=hd 7 _ _ _ rfl rfl rfl rfl
     clear hd
     rw [g302]
     have bx4:=HB4.out
     have by0:0<=x4 % 3/\x4 % 3<6:=by omega
     have c0:=col_at6 ((h1.block _ (jB Cq6.out)).trans Cq6.out) (x4 % 3) by0.1 by0.2
     clear g302 h1
     go_wp2_with fail
     first|exact ⟨rfl,_,rfl,Below.refl _ _,rfl⟩|exact Below.refl _ _|exact ⟨Below.refl _ _,rfl⟩
   apply growt_cons
   · intro v w1 h1 hd
     have g1:v 303=.string (mcS (x4 % 3)):=hd 8 _ _ _ rfl rfl rfl rfl
     have hcc:StrOk (mcS (x4 % 3)):=mcS_size _
     clear hd
     rw [g1]
     have HSW:=hid h1.size
     have HCC:=hid hcc
     clear g1 hcc h1
     go_wp2_with fail
     have hb3:Below w1.heap.size w1 (w1.alloc (.cells #[.string (mcS (x4 % 3))] 9)):=(b0R).alloc (jR _) _
     have hn:NewEl strEnc StrOk 9 U2.heap.size (.slice (some ⟨w1.heap.size,0,none⟩) 1 1) (w1.alloc (.cells #[.string (mcS (x4 % 3))] 9)):=⟨(mcS (x4 % 3)),_,HCC.out,rfl,HSW.out,heap_alloc_new _ _⟩
     first|exact ⟨rfl,_,rfl,hb3,hn⟩|(first|exact ⟨rfl,_,rfl,hb3,hn⟩|(and_intros <;> first|exact hb3|exact hn))
   apply growt_cons
   · intro v w1 h1 hd
     have g1:v 296=.slice none 0 0:=hd 1 _ _ _ rfl rfl rfl rfl
     obtain ⟨xx,gn,hxx,g2,_,hgn⟩:NewEl strEnc StrOk 9 U2.heap.size (v 304) w1:=hd 9 _ _ _ rfl rfl rfl rfl
     clear hd
     rw [g1,g2]
     have hs1:=h1.size
     refine wpList_append_own_at _ rfl _ _ 33 rfl U2.heap.size 9 iS _ 1 16 Tryz.underlying33 hS hS0 hS1 hS2 rfl (by decide) (.slice none 0 0) 0 _ rfl (World.ownsRow_nil _ _ _ _) ⟨gn,0,none⟩ 1 1 (strEnc xx) rfl rfl (fun j u hj=>by rw [addr_add,jC hgn];simpa using hj) (strEnc_cells xx) (by unfold maxLen;omega) (by omega) (by omega) ?_
     intro v' w8 o1 g3 hx1 at1
     obtain ⟨va,vc,hv',_⟩:=owns_shape' o1
     subst hv'
     exact wpList_nil ⟨rfl,_,rfl,⟨g3.os,g3.tape,g3.output,g3.size,fun k hk=>g3.block k hk (by simp [Value.ownBlock])⟩,xx,va,vc,hxx,rfl,by simpa using o1⟩
   exact growt_nil
  case hend =>
   intro v w9 h1 hd
   obtain ⟨xx,va,vc,hxx,g305,o9⟩:AppEl strEnc StrOk 9 1 U2.heap.size 0 [] (v 305) w9:=hd 10 _ _ _ rfl rfl rfl
   clear hd
   rw [g305]
   have hz:=(h1.block _ (jB Cq7.out)).trans Cq7.out
   have m7:=jC hz 4
   have n7:=free_of hz 4
   simp only [gT,gZ,gS] at m7
   have o8:=owns_set (p:=⟨q7,4,none⟩) (x:=.slice va (0+1) vc) o9 (jB Cq7.out)
   have HFIN:=hid (show StQ V q7 2 (w9.setCell ⟨q7,4,none⟩ (.slice va (0+1) vc)) from ⟨{ stmt0 with kind:=2,table:=tb,name:=nm,names:=[xx] },va,vc,none,0,none,0,none,0,none,0,grown_tra GV.out (grown_tra (grownBy_of_below _ h1) (grown_cell _ ⟨q7,4,none⟩ _)),(heap_setCell_same _ _ _ _ _ _ hz).trans rfl,⟨Lst.own (enc:=strEnc) (hl:=fun _=>rfl) o8 (jB Cq7.out) (show 1<=3 by decide) (fun e=>by cases e),Lst.nil,Lst.nil,Lst.nil,Lst.nil⟩,okx (by decide) HTB.out HNM.out hxx,rfl⟩)
   clear g305 hz hxx o9 o8 h1
   generalize v 295=k295,v 296=k296,v 297=k297,v 298=k298,v 299=k299,v 300=k300,v 301=k301,v 302=k302,v 303=k303,v 304=k304
   simp only [List.drop_succ_cons,List.drop_zero]
   go_wp2_with fail
   exact HQ.out _ _ _ _ _ _ _ _ _ _ _ _ _ _ _ _ _ _ _ _ _ _ _ _ _ _ _ _ _ _ _ _ _ _ _ _ _ _ _ _ _ _ _ _ _ _ _ _ _ _ _ _ _ _ _ _ _ _ _ _ _ _ _ _ _ _ _ _ _ _ _ _ _ _ _ _ _ _ _ _ _ _ _ _ _ _ _ _ _ _ _ _ _ _ _ _ _ _ _ _ _ _ _ _ _ _ _ _ _ _ _ _ _ _ _ _ _ _ _ _ _ _ _ _ _ _ _ _ _ _ _ _ _ _ _ _ _ _ _ _ _ _ _ _ _ _ _ _ _ _ _ _ _ _ _ _ _ _ _ _ _ _ _ _ _ _ _ _ _ _ _ _ _ _ _ _ _ _ _ _ _ _ _ _ _ _ _ _ _ _ _ _ _ _ _ _ _ _ _ _ _ _ _ _ _ _ _ _ _ _ _ _ _ _ _ _ _ _ _ _ _ _ _ _ _ _ _ _ _ _ _ _ _ _ _ _ _ _ _ _ _ _ _ _ _ _ _ _ _ _ _ _ _ _ _ _ _ _ _ _ _ _ _ _ _ _ _ _ _ _ _ _ _ _ _ _ _ _ _ _ _ _ _ _ _ _ _ _ _ _ _ _ _ _ _ _ _ _ _ _ _ HFIN.out
end
section
open Go.RowKit
noncomputable def mcode4:Code:=(Tryz.f36.body.bind (condThen 87)).getD .skip
theorem made_k4 {Q:Exit->Act->World->Prop} {V U:World} {q2 q3 q5 q6 q7:Nat} {x0 x1 x2 x3 x4 x5 x6 x7 x8 x9 x10 x11 x12 x13 x14 x15:Int} {L:List Cond} {a:Option Addr} {c:Nat} {tb:ByteArray} {g0 g1 g2 g4 g8 g9 g10 g11 g12 g13 g14 g15 g16 g17 g18 g19 g20 g21 g22 g23 g24 g25 g26 g27 g28 g29 g30 g31 g32 g33 g34 g35 g36 g37 g38 g39 g40 g41 g42 g43 g44 g45 g46 g47 g48 g49 g50 g51 g52 g53 g54 g55 g56 g57 g58 g59 g60 g61 g62 g63 g64 g65 g66 g67 g68 g69 g70 g71 g72 g73 g74 g75 g76 g77 g78 g79 g80 g81 g82 g83 g84 g85 g86 g87 g88 g89 g90 g91 g92 g93 g94 g95 g96 g97 g98 g99 g100 g101 g102 g103 g104 g105 g106 g107 g108 g109 g110 g111 g112 g113 g114 g115 g116 g117 g118 g119 g120 g121 g122 g123 g124 g125 g126 g127 g128 g129 g130 g131 g132 g133 g134 g135 g136 g137 g138 g139 g140 g141 g142 g143 g144 g145 g146 g147 g148 g149 g150 g151 g152 g153 g154 g155 g156 g157 g158 g159 g160 g161 g162 g163 g164 g165 g166 g167 g168 g169 g170 g171 g172 g173 g174 g175 g176 g177 g178 g179 g180 g181 g182 g183 g184 g185 g186 g187 g188 g189 g190 g191 g192 g193 g194 g195 g196 g197 g198 g199 g200 g201 g202 g203 g204 g205 g206 g207 g208 g209 g210 g211 g212 g213 g214 g215 g216 g217 g218 g219 g220 g221 g222 g223 g224 g225 g226 g227 g228 g229 g230 g231 g232 g233 g234 g235 g236 g237 g238 g239 g240 g241 g242 g243 g244 g245 g246 g247 g248 g249 g250 g251 g252 g253 g254 g255 g256 g257 g258 g259 g260 g261 g262 g263 g264 g265 g266 g267 g268 g269 g270 g271 g272 g273 g274 g275 g276 g277 g278 g279 g280 g281 g282 g283 g284 g285 g286 g287 g288 g289 g290 g291 g292 g293 g294 g295 g296 g297 g298 g299 g300 g301 g302 g303 g304 g305 g306 g307:Value}
 (HRN0:∀ x ∈ [x0,x1,x2,x3,x4,x5,x6,x7,x8,x9,x10,x11,x12,x13,x14,x15],0<=x/\x<=65535) (H3:V.heap[q3]? = some (.cells #[.int .i64 x0,.int .i64 x1,.int .i64 x2,.int .i64 x3,.int .i64 x4,.int .i64 x5,.int .i64 x6,.int .i64 x7,.int .i64 x8,.int .i64 x9,.int .i64 x10,.int .i64 x11,.int .i64 x12,.int .i64 x13,.int .i64 x14,.int .i64 x15] 3 (0,0))) (H5:V.heap[q5]? = some (.cells tabs6 9 (0,0))) (H6:V.heap[q6]? = some (.cells cols6 9 (0,0)))
 (H37:q3<q7/\q5<q7/\q6<q7/\q2<q7) (HV:V.grownBy U (some q7)) (H7:U.heap[q7]? = some (.cells #[.int .i64 4,.string tb,.string ⟨#[]⟩,.slice none 0 0,.slice none 0 0,.slice none 0 0,.slice none 0 0,.slice a L.length c,.string ⟨#[]⟩,.string ⟨#[]⟩,.string ⟨#[]⟩,.int .i64 0,.slice none 0 0,.int .i64 0,.int .i64 0] 39 (0,0))) (HLW:Lst condR q7 U a c L) (HLL:L.length<=2/\∀ x ∈ L,CondOk x) (HTT:tb.size<=1)
 (hQ:∀ (d8 d9 d10 d11 d12 d13 d14 d15 d16 d17 d18 d19 d20 d21 d22 d23 d24 d25 d26 d27 d28 d29 d30 d31 d32 d33 d34 d35 d36 d37 d38 d39 d40 d41 d42 d43 d44 d45 d46 d47 d48 d49 d50 d51 d52 d53 d54 d55 d56 d57 d58 d59 d60 d61 d62 d63 d64 d65 d66 d67 d68 d69 d70 d71 d72 d73 d74 d75 d76 d77 d78 d79 d80 d81 d82 d83 d84 d85 d86 d87 d88 d89 d90 d91 d92 d93 d94 d95 d96 d97 d98 d99 d100 d101 d102 d103 d104 d105 d106 d107 d108 d109 d110 d111 d112 d113 d114 d115 d116 d117 d118 d119 d120 d121 d122 d123 d124 d125 d126 d127 d128 d129 d130 d131 d132 d133 d134 d135 d136 d137 d138 d139 d140 d141 d142 d143 d144 d145 d146 d147 d148 d149 d150 d151 d152 d153 d154 d155 d156 d157 d158 d159 d160 d161 d162 d163 d164 d165 d166 d167 d168 d169 d170 d171 d172 d173 d174 d175 d176 d177 d178 d179 d180 d181 d182 d183 d184 d185 d186 d187 d188 d189 d190 d191 d192 d193 d194 d195 d196 d197 d198 d199 d200 d201 d202 d203 d204 d205 d206 d207 d208 d209 d210 d211 d212 d213 d214 d215 d216 d217 d218 d219 d220 d221 d222 d223 d224 d225 d226 d227 d228 d229 d230 d231 d232 d233 d234 d235 d236 d237 d238 d239 d240 d241 d242 d243 d244 d245 d246 d247 d248 d249 d250 d251 d252 d253 d254 d255 d256 d257 d258 d259 d260 d261 d262 d263 d264 d265 d266 d267 d268 d269 d270 d271 d272 d273 d274 d275 d276 d277 d278 d279 d280 d281 d282 d283 d284 d285 d286 d287 d288 d289 d290 d291 d292 d293 d294 d295 d296 d297 d298 d299 d300 d301 d302 d303 d304 d305 d306 d307:Value) (w':World),StQ V q7 4 w'->Q .normal ⟨#[g0,g1,g2,.slice (some ⟨q3,0,none⟩) 16 16,g4,.slice (some ⟨q5,0,none⟩) 6 6,.slice (some ⟨q6,0,none⟩) 6 6,.pointer (some ⟨q7,0,none⟩),d8,d9,d10,d11,d12,d13,d14,d15,d16,d17,d18,d19,d20,d21,d22,d23,d24,d25,d26,d27,d28,d29,d30,d31,d32,d33,d34,d35,d36,d37,d38,d39,d40,d41,d42,d43,d44,d45,d46,d47,d48,d49,d50,d51,d52,d53,d54,d55,d56,d57,d58,d59,d60,d61,d62,d63,d64,d65,d66,d67,d68,d69,d70,d71,d72,d73,d74,d75,d76,d77,d78,d79,d80,d81,d82,d83,d84,d85,d86,d87,d88,d89,d90,d91,d92,d93,d94,d95,d96,d97,d98,d99,d100,d101,d102,d103,d104,d105,d106,d107,d108,d109,d110,d111,d112,d113,d114,d115,d116,d117,d118,d119,d120,d121,d122,d123,d124,d125,d126,d127,d128,d129,d130,d131,d132,d133,d134,d135,d136,d137,d138,d139,d140,d141,d142,d143,d144,d145,d146,d147,d148,d149,d150,d151,d152,d153,d154,d155,d156,d157,d158,d159,d160,d161,d162,d163,d164,d165,d166,d167,d168,d169,d170,d171,d172,d173,d174,d175,d176,d177,d178,d179,d180,d181,d182,d183,d184,d185,d186,d187,d188,d189,d190,d191,d192,d193,d194,d195,d196,d197,d198,d199,d200,d201,d202,d203,d204,d205,d206,d207,d208,d209,d210,d211,d212,d213,d214,d215,d216,d217,d218,d219,d220,d221,d222,d223,d224,d225,d226,d227,d228,d229,d230,d231,d232,d233,d234,d235,d236,d237,d238,d239,d240,d241,d242,d243,d244,d245,d246,d247,d248,d249,d250,d251,d252,d253,d254,d255,d256,d257,d258,d259,d260,d261,d262,d263,d264,d265,d266,d267,d268,d269,d270,d271,d272,d273,d274,d275,d276,d277,d278,d279,d280,d281,d282,d283,d284,d285,d286,d287,d288,d289,d290,d291,d292,d293,d294,d295,d296,d297,d298,d299,d300,d301,d302,d303,d304,d305,d306,d307],[]⟩ w'):Code.wp Tryz.prog mcode4 Q ⟨#[g0,g1,g2,.slice (some ⟨q3,0,none⟩) 16 16,g4,.slice (some ⟨q5,0,none⟩) 6 6,.slice (some ⟨q6,0,none⟩) 6 6,.pointer (some ⟨q7,0,none⟩),g8,g9,g10,g11,g12,g13,g14,g15,g16,g17,g18,g19,g20,g21,g22,g23,g24,g25,g26,g27,g28,g29,g30,g31,g32,g33,g34,g35,g36,g37,g38,g39,g40,g41,g42,g43,g44,g45,g46,g47,g48,g49,g50,g51,g52,g53,g54,g55,g56,g57,g58,g59,g60,g61,g62,g63,g64,g65,g66,g67,g68,g69,g70,g71,g72,g73,g74,g75,g76,g77,g78,g79,g80,g81,g82,g83,g84,g85,g86,g87,g88,g89,g90,g91,g92,g93,g94,g95,g96,g97,g98,g99,g100,g101,g102,g103,g104,g105,g106,g107,g108,g109,g110,g111,g112,g113,g114,g115,g116,g117,g118,g119,g120,g121,g122,g123,g124,g125,g126,g127,g128,g129,g130,g131,g132,g133,g134,g135,g136,g137,g138,g139,g140,g141,g142,g143,g144,g145,g146,g147,g148,g149,g150,g151,g152,g153,g154,g155,g156,g157,g158,g159,g160,g161,g162,g163,g164,g165,g166,g167,g168,g169,g170,g171,g172,g173,g174,g175,g176,g177,g178,g179,g180,g181,g182,g183,g184,g185,g186,g187,g188,g189,g190,g191,g192,g193,g194,g195,g196,g197,g198,g199,g200,g201,g202,g203,g204,g205,g206,g207,g208,g209,g210,g211,g212,g213,g214,g215,g216,g217,g218,g219,g220,g221,g222,g223,g224,g225,g226,g227,g228,g229,g230,g231,g232,g233,g234,g235,g236,g237,g238,g239,g240,g241,g242,g243,g244,g245,g246,g247,g248,g249,g250,g251,g252,g253,g254,g255,g256,g257,g258,g259,g260,g261,g262,g263,g264,g265,g266,g267,g268,g269,g270,g271,g272,g273,g274,g275,g276,g277,g278,g279,g280,g281,g282,g283,g284,g285,g286,g287,g288,g289,g290,g291,g292,g293,g294,g295,g296,g297,g298,g299,g300,g301,g302,g303,g304,g305,g306,g307],[]⟩ U:=by
 conv=>arg 2;whnf
 have HRN:=hid HRN0
 have HB0:=hid (HRN0 x0 (by simp))
 have HB1:=hid (HRN0 x1 (by simp))
 have HB2:=hid (HRN0 x2 (by simp))
 have HB3:=hid (HRN0 x3 (by simp))
 have HB4:=hid (HRN0 x4 (by simp))
 have HB5:=hid (HRN0 x5 (by simp))
 have HB6:=hid (HRN0 x6 (by simp))
 have HB7:=hid (HRN0 x7 (by simp))
 have HB8:=hid (HRN0 x8 (by simp))
 have HB9:=hid (HRN0 x9 (by simp))
 have HB10:=hid (HRN0 x10 (by simp))
 have HB11:=hid (HRN0 x11 (by simp))
 have HB12:=hid (HRN0 x12 (by simp))
 have HB13:=hid (HRN0 x13 (by simp))
 have HB14:=hid (HRN0 x14 (by simp))
 have HB15:=hid (HRN0 x15 (by simp))
 have Gq3:=hid H3
 have Gq5:=hid H5
 have Gq6:=hid H6
 have L37:=hid H37
 have GV:=hid HV
 have Cq7:=hid H7
 have LW:=hid HLW
 have HL:=hid HLL
 have HTB:=hid HTT
 have Cq3:=hid ((GV.out.block _ (jB Gq3.out) (fun e=>Nat.ne_of_lt L37.out.1 (jI e))).trans Gq3.out)
 have Cq5:=hid ((GV.out.block _ (jB Gq5.out) (fun e=>Nat.ne_of_lt L37.out.2.1 (jI e))).trans Gq5.out)
 have Cq6:=hid ((GV.out.block _ (jB Gq6.out) (fun e=>Nat.ne_of_lt L37.out.2.2.1 (jI e))).trans Gq6.out)
 obtain ⟨iV,hV,hV0,hV1,hV2⟩:=info_parts info_mv
 obtain ⟨iS,hS,hS0,hS1,hS2⟩:=info_parts info_mst
 obtain ⟨iE,hE,hE0,hE1,hE2⟩:=info_parts info_mse
 have HQ:=hid hQ
 clear HRN0 H3 H5 H6 H37 HV H7 HLW HLL HTT hQ
 have m7:=jC Cq7.out 7
 have n7:=free_of Cq7.out 7
 simp only [gT,gZ,gS] at m7
 go_upto_region 16 with (fail)
 generalize hA:World.setCell _ _ _=U1
 have hg:U.grownBy U1 (some q7):=by rw [<- hA];exact grown_cell U ⟨q7,7,none⟩ _
 replace Cq7:=hid (show U1.heap[q7]? = some (.cells #[.int .i64 4,.string tb,.string ⟨#[]⟩,.slice none 0 0,.slice none 0 0,.slice none 0 0,.slice none 0 0,.slice none 0 0,.string ⟨#[]⟩,.string ⟨#[]⟩,.string ⟨#[]⟩,.int .i64 0,.slice none 0 0,.int .i64 0,.int .i64 0] 39 (0,0)) by
  rw [<- hA]
  exact (heap_setCell_same _ _ _ _ _ _ Cq7.out).trans rfl)
 replace GV:=hid (grown_tra GV.out hg)
 replace Cq3:=hid ((GV.out.block _ (jB Gq3.out) (fun e=>Nat.ne_of_lt L37.out.1 (jI e))).trans Gq3.out)
 replace Cq5:=hid ((GV.out.block _ (jB Gq5.out) (fun e=>Nat.ne_of_lt L37.out.2.1 (jI e))).trans Gq5.out)
 replace Cq6:=hid ((GV.out.block _ (jB Gq6.out) (fun e=>Nat.ne_of_lt L37.out.2.2.1 (jI e))).trans Gq6.out)
 clear hA hg m7 n7
 go_upto_block 5 with (fail)
 go_wp2_with fail
 go_loopw [9] (fun x9 wr=>∃ (i:Nat) (M:List Val) (am:Option Addr) (cm:Nat),i<=3/\x9=.int .i64 i/\Hid (M.length=i/\U1.grownBy wr (some q7)/\wr.heap[q7]? = some (.cells #[.int .i64 4,.string tb,.string ⟨#[]⟩,.slice none 0 0,.slice none 0 0,.slice am i cm,.slice none 0 0,.slice none 0 0,.string ⟨#[]⟩,.string ⟨#[]⟩,.string ⟨#[]⟩,.int .i64 0,.slice none 0 0,.int .i64 0,.int .i64 0] 39 (0,0))/\wr.ownsRow U1.heap.size 55 3 (.slice am i cm) i (M.flatMap valEnc)/\(M=[]->am=none/\cm=0)/\∀ x ∈ M,Val.tiny x)) (fun x9 _=>4 - (intOf x9).toNat)
 case atStart=>exact ⟨0,[],none,0,by omega,rfl,rfl,grownBy_refl _ _,Cq7.out,World.ownsRow_nil _ _ _ _,fun _=>⟨rfl,rfl⟩,fun x hx=>by cases hx⟩
 case round =>
  obtain ⟨i,M,am,cm,hi2,rfl,HR⟩:=hrel
  have Rq3:=hid ((HR.out.2.1.block _ (jB Cq3.out) (fun e=>Nat.ne_of_lt L37.out.1 (jI e))).trans Cq3.out)
  have Rq6:=hid ((HR.out.2.1.block _ (jB Cq6.out) (fun e=>Nat.ne_of_lt L37.out.2.2.1 (jI e))).trans Cq6.out)
  have Rq7:=hid HR.out.2.2.1
  have c3:=jC Rq3.out 3
  simp only [gT,gZ,gS] at c3
  have bx3:=HB3.out
  by_cases hlt:(i:Int)<2+x3 / 7 % 11 / 10
  · skip
    have hi1:i<=2:=by omega
    obtain ⟨y4,hy4⟩:∃ y,nS [x0,x1,x2,x3,x4,x5,x6,x7,x8,x9,x10,x11,x12,x13,x14,x15] (4+(i:Int))=y:=⟨_,rfl⟩
    have HY4:=hid (show ∀ z:World,z.heap[q3]? = some (.cells #[.int .i64 x0,.int .i64 x1,.int .i64 x2,.int .i64 x3,.int .i64 x4,.int .i64 x5,.int .i64 x6,.int .i64 x7,.int .i64 x8,.int .i64 x9,.int .i64 x10,.int .i64 x11,.int .i64 x12,.int .i64 x13,.int .i64 x14,.int .i64 x15] 3 (0,0))->z.cell? ⟨q3,(4+(i:Int)).toNat,none⟩=some (.int .i64 y4) from fun z h=>by rw [<- hy4];exact num_at (X:=[x0,x1,x2,x3,x4,x5,x6,x7,x8,x9,x10,x11,x12,x13,x14,x15]) rfl h _ (by omega) (by omega))
    have HBy4:=hid (show 0<=y4/\y4<=65535 by rw [<- hy4];exact nS_bd HRN.out _)
    clear hy4
    have Nq3:=hid (own_neB HR.out.2.2.2.1 (jB Cq3.out))
    have Nq6:=hid (own_neB HR.out.2.2.2.1 (jB Cq6.out))
    have Nq7:=hid (own_neB HR.out.2.2.2.1 (jB Cq7.out))
    have HNB:=hid (show ∀ b,(Value.slice am i cm).ownBlock=some b->b<wr.heap.size from fun b e=>(HR.out.2.2.2.1.lt b e).2)
    have HSZ:=hid HR.out.2.1.size
    go_upto_region 19 with (fail)
    clear c3 bx3
    apply wp_region_growg 10 9 (Value.slice am i cm).ownBlock [101,102,103,104,105,106,107,108,109,110]
     [fun _ u _=>u=.pointer (some ⟨q7,5,none⟩),
      fun _ u _=>u=.slice am i cm,
      fun _ u _=>u=.slice (some ⟨q3,0,none⟩) 16 16,
      fun _ u _=>u=.int .i64 ((i:Int)),
      fun _ u _=>u=.int .i64 (4+(i:Int)),
      fun _ u _=>u=.pointer (some ⟨q3,(4+(i:Int)).toNat,none⟩),
      fun _ u _=>u=.int .i64 y4,
      fun _ u _=>ValU u,
      fun _ u w'=>NewEl valEnc Val.tiny 55 wr.heap.size u w',
      fun _ u w'=>AppEl valEnc Val.tiny 55 3 U1.heap.size i M u w']
     (fun w'=>wr.grownBy w' (Value.slice am i cm).ownBlock) (Below wr.heap.size wr)
    case hF =>
     intro v
     simp only [setAll,List.foldl_cons,List.foldl_nil,Act.put,List.setIfInBounds_toArray,List.set_cons_succ,List.set_cons_zero]
     exact rfl
    case hm=>kernel_rfl
    case hB=>kernel_rfl
    case hsz=>kernel_rfl
    case hC=>exact fun w1 w2 h b=>h.trans b
    case hCp=>exact fun w1 w2 h b=>h.trans (b.mono h.size)
    case hw=>exact grownBy_of_below _ (Below.drew b0R)
    case hwp=>exact Below.drew b0R
    case hS =>
     intro j D hD v u
     obtain ⟨hj,rfl⟩:=List.getElem?_eq_some_iff.1 hD
     simp only [List.length_cons,List.length_nil] at hj
     rcases (show j=0 \/ j=1 \/ j=2 \/ j=3 \/ j=4 \/ j=5 \/ j=6 \/ j=7 \/ j=8 \/ j=9 by omega) with rfl|rfl|rfl|rfl|rfl|rfl|rfl|rfl|rfl|rfl
     · show StableG (Value.slice am i cm).ownBlock _
       exact fun w1 w2 h _=>h
     · show StableG (Value.slice am i cm).ownBlock _
       exact fun w1 w2 h _=>h
     · show StableG (Value.slice am i cm).ownBlock _
       exact fun w1 w2 h _=>h
     · show StableG (Value.slice am i cm).ownBlock _
       exact fun w1 w2 h _=>h
     · show StableG (Value.slice am i cm).ownBlock _
       exact fun w1 w2 h _=>h
     · show StableG (Value.slice am i cm).ownBlock _
       exact fun w1 w2 h _=>h
     · show StableG (Value.slice am i cm).ownBlock _
       exact fun w1 w2 h _=>h
     · show StableG (Value.slice am i cm).ownBlock _
       exact fun w1 w2 h _=>h
     · show StableG (Value.slice am i cm).ownBlock _
       exact fun w1 w2 h hb=>h.grown HNB.out hb
     · show Stable _
       exact fun w1 w2 h hb=>h.below hb
    case hob =>
     simp only [List.take_succ_cons,List.take_zero]
     apply growg_cons rfl
     · intro v w1 h1 hd
       clear hd
       clear h1
       go_wp2_with fail
       first|exact ⟨rfl,_,rfl,Below.refl _ _,rfl⟩|exact Below.refl _ _|exact ⟨Below.refl _ _,rfl⟩
     apply growg_cons rfl
     · intro v w1 h1 hd
       have g101:v 101=.pointer (some ⟨q7,5,none⟩):=hd 0 _ _ _ rfl rfl rfl rfl
       clear hd
       rw [g101]
       have c0:=jC ((h1.block _ (jB Rq7.out) Nq7.out).trans Rq7.out) 5
       simp only [gT,gZ,gS] at c0
       clear g101 h1
       go_wp2_with fail
       first|exact ⟨rfl,_,rfl,Below.refl _ _,rfl⟩|exact Below.refl _ _|exact ⟨Below.refl _ _,rfl⟩
     apply growg_cons rfl
     · intro v w1 h1 hd
       clear hd
       clear h1
       go_wp2_with fail
       first|exact ⟨rfl,_,rfl,Below.refl _ _,rfl⟩|exact Below.refl _ _|exact ⟨Below.refl _ _,rfl⟩
     apply growg_cons rfl
     · intro v w1 h1 hd
       clear hd
       clear h1
       go_wp2_with fail
       first|exact ⟨rfl,_,rfl,Below.refl _ _,rfl⟩|exact Below.refl _ _|exact ⟨Below.refl _ _,rfl⟩
     apply growg_cons rfl
     · intro v w1 h1 hd
       have g104:v 104=.int .i64 ((i:Int)):=hd 3 _ _ _ rfl rfl rfl rfl
       clear hd
       rw [g104]
       clear g104 h1
       go_wp2_with fail
       first|exact ⟨rfl,_,rfl,Below.refl _ _,rfl⟩|exact Below.refl _ _|exact ⟨Below.refl _ _,rfl⟩
     apply growg_cons rfl
     · intro v w1 h1 hd
       have g103:v 103=.slice (some ⟨q3,0,none⟩) 16 16:=hd 2 _ _ _ rfl rfl rfl rfl
       have g105:v 105=.int .i64 (4+(i:Int)):=hd 4 _ _ _ rfl rfl rfl rfl
       clear hd
       rw [g103,g105]
       have by0:0<=4+(i:Int)/\4+(i:Int)<16:=by omega
       clear g103 g105 h1
       go_wp2_with fail
       first|exact ⟨rfl,_,rfl,Below.refl _ _,rfl⟩|exact Below.refl _ _|exact ⟨Below.refl _ _,rfl⟩
     apply growg_cons rfl
     · intro v w1 h1 hd
       have g106:v 106=.pointer (some ⟨q3,(4+(i:Int)).toNat,none⟩):=hd 5 _ _ _ rfl rfl rfl rfl
       clear hd
       rw [g106]
       have c0:=HY4.out _ ((h1.block _ (jB Rq3.out) Nq3.out).trans Rq3.out)
       clear g106 h1
       go_wp2_with fail
       first|exact ⟨rfl,_,rfl,Below.refl _ _,rfl⟩|exact Below.refl _ _|exact ⟨Below.refl _ _,rfl⟩
     apply growg_cons rfl
     · intro v w1 h1 hd
       have g1:v 107=.int .i64 y4:=hd 6 _ _ _ rfl rfl rfl rfl
       clear hd
       rw [g1]
       have con:=mval_any y4 HBy4.out.1 HBy4.out.2 w1
       clear g1 h1
       go_wp2_with fail
       refine con.mono ?_
       rintro e w2 ⟨⟨vv,rfl,hv⟩,b2⟩
       have B2:=hid b2
       have H2:=hid (show ValU (.agg #[.int .i64 vv.kind,.int .i64 vv.n,.string vv.s]) from ⟨vv,hv,rfl⟩)
       clear con b2 hv
       try dsimp only
       go_wp2_with fail
       refine ⟨rfl,_,rfl,?_,?_⟩
       exact B2.out
       exact H2.out
     apply growg_cons rfl
     · intro v w1 h1 hd
       obtain ⟨vv,hcc,g1⟩:ValU (v 108):=hd 7 _ _ _ rfl rfl rfl rfl
       clear hd
       rw [g1]
       have HSW:=hid h1.size
       have HCC:=hid hcc
       clear g1 hcc h1
       go_wp2_with fail
       have hb3:Below w1.heap.size w1 (w1.alloc (.cells #[.int .i64 vv.kind,.int .i64 vv.n,.string vv.s] 55)):=(b0R).alloc (jR _) _
       have hn:NewEl valEnc Val.tiny 55 wr.heap.size (.slice (some ⟨w1.heap.size,0,none⟩) 1 1) (w1.alloc (.cells #[.int .i64 vv.kind,.int .i64 vv.n,.string vv.s] 55)):=⟨vv,_,HCC.out,rfl,HSW.out,heap_alloc_new _ _⟩
       first|exact ⟨rfl,_,rfl,hb3,hn⟩|(and_intros <;> first|exact hb3|exact hn)
     apply growg_one rfl
     · intro v w1 h1 hp hd
       have g1:v 102=.slice am i cm:=hd 1 _ _ _ rfl rfl rfl rfl
       obtain ⟨xx,gn,hxx,g2,_,hgn⟩:NewEl valEnc Val.tiny 55 wr.heap.size (v 109) w1:=hd 8 _ _ _ rfl rfl rfl rfl
       clear hd
       rw [g1,g2]
       have HO:=hid (owns_below HR.out.2.2.2.1 hp)
       have hs1:=Nat.le_trans HSZ.out hp.size
       refine wpList_append_own_at _ rfl _ _ 35 rfl U1.heap.size 55 iV _ 3 32 Tryz.underlying35 hV hV0 hV1 hV2 rfl (by decide) (.slice am i cm) i _ rfl HO.out ⟨gn,0,none⟩ 1 1 (valEnc xx) rfl rfl (fun j u hj=>by rw [addr_add,jC hgn];simpa using hj) (valEnc_cells xx) (by unfold maxLen;omega) (by omega) (by omega) ?_
       intro v' w8 o1 g3 hx1 at1
       obtain ⟨va,vc,hv',_⟩:=owns_shape' o1
       subst hv'
       exact wpList_nil ⟨rfl,_,rfl,g3,xx,va,vc,hxx,rfl,by rw [List.flatMap_append];simpa using o1⟩
     exact growg_nil
    case hend =>
     intro v w9 h1 hd
     obtain ⟨xx,va,vc,hxx,g83,o9⟩:AppEl valEnc Val.tiny 55 3 U1.heap.size i M (v 110) w9:=hd 9 _ _ _ rfl rfl rfl
     clear hd
     rw [g83]
     have hz:=(h1.block _ (jB Rq7.out) Nq7.out).trans Rq7.out
     have m7:=jC hz 5
     have n7:=free_of hz 5
     simp only [gT,gZ,gS] at m7
     have HZ:=hid hz
     have HX:=hid (show _/\_/\_ from ⟨hxx,o9,h1⟩)
     clear g83 hz hxx o9 h1
     generalize v 101=k101,v 102=k102,v 103=k103,v 104=k104,v 105=k105,v 106=k106,v 107=k107,v 108=k108,v 109=k109
     simp only [List.drop_succ_cons,List.drop_zero]
     go_wp2_with fail
     go_roundw
     case rel =>
      exact ⟨i+1,M ++ [xx],va,vc,by omega,by go_num,by rw [List.length_append,HR.out.1];rfl,grown_tra (loop_grow HR.out.2.1 HX.out.2.2 (fun b e=>(HR.out.2.2.2.1.lt b e).1)) (grown_cell _ ⟨q7,5,none⟩ _),(heap_setCell_same _ _ _ _ _ _ HZ.out).trans rfl,owns_set HX.out.2.1 (jB Cq7.out),fun e=>by simp at e,fun x hx=>by
       rcases List.mem_append.1 hx with hx|hx
       · exact HR.out.2.2.2.2.2 x hx
       · rw [List.mem_singleton.1 hx];exact HX.out.1⟩
     case measure=>simp [intOf];omega
  · have hl:=HR.out.1
    have HL2:=hid (show Lst valR q7 wr am cm M from Lst.own (enc:=valEnc) (hl:=fun _=>rfl) (show wr.ownsRow U1.heap.size 55 3 (.slice am M.length cm) M.length (M.flatMap valEnc) by rw [HR.out.1];exact HR.out.2.2.2.1) (jB Cq7.out) (by rw [HR.out.1];omega) HR.out.2.2.2.2.1)
    have HL3:=hid (show M.length<=3/\∀ x ∈ M,Val.tiny x from ⟨by rw [HR.out.1];omega,HR.out.2.2.2.2.2⟩)
    have GW:=hid (grown_tra GV.out HR.out.2.1)
    have HFIN:=hid (show StQ V q7 4 wr from by
     subst hl
     exact ⟨{ stmt0 with kind:=4,table:=tb,row:=M },none,0,am,cm,none,0,none,0,none,0,GW.out,HR.out.2.2.1,⟨Lst.nil,HL2.out,Lst.nil,Lst.nil,Lst.nil⟩,okr (by decide) HTB.out HL3.out.1 HL3.out.2,rfl⟩)
    clear hl
    go_wp2_with fail
    exact HQ.out _ _ _ _ _ _ _ _ _ _ _ _ _ _ _ _ _ _ _ _ _ _ _ _ _ _ _ _ _ _ _ _ _ _ _ _ _ _ _ _ _ _ _ _ _ _ _ _ _ _ _ _ _ _ _ _ _ _ _ _ _ _ _ _ _ _ _ _ _ _ _ _ _ _ _ _ _ _ _ _ _ _ _ _ _ _ _ _ _ _ _ _ _ _ _ _ _ _ _ _ _ _ _ _ _ _ _ _ _ _ _ _ _ _ _ _ _ _ _ _ _ _ _ _ _ _ _ _ _ _ _ _ _ _ _ _ _ _ _ _ _ _ _ _ _ _ _ _ _ _ _ _ _ _ _ _ _ _ _ _ _ _ _ _ _ _ _ _ _ _ _ _ _ _ _ _ _ _ _ _ _ _ _ _ _ _ _ _ _ _ _ _ _ _ _ _ _ _ _ _ _ _ _ _ _ _ _ _ _ _ _ _ _ _ _ _ _ _ _ _ _ _ _ _ _ _ _ _ _ _ _ _ _ _ _ _ _ _ _ _ _ _ _ _ _ _ _ _ _ _ _ _ _ _ _ _ _ _ _ _ _ _ _ _ _ _ _ _ _ _ _ _ _ _ _ _ _ _ _ _ _ _ _ _ _ _ _ _ _ _ _ _ _ _ _ _ _ _ _ _ _ HFIN.out
end
section
open Go.RowKit
theorem oku {kd:Int} {tb:ByteArray} {M:List SetV} {L:List Cond} (hk:2<=kd/\kd<=7) (ht:tb.size<=1) (hm:M.length<=3) (h1:∀ x ∈ M,SetOk x) (hl:L.length<=3) (h:∀ c ∈ L,CondOk c):OkSt { stmt0 with kind:=kd,table:=tb,sets:=M,wher:=L } :=
 ⟨hk,rfl,rfl,rfl,⟨Nat.zero_le _,Nat.zero_le _,hm,hl,Nat.zero_le _⟩,⟨ht,Nat.zero_le _,Nat.zero_le _,Nat.zero_le _,Nat.zero_le _⟩,⟨(fun x hx=>by cases hx),(fun x hx=>by cases hx)⟩,(fun x hx=>by cases hx),h1,h⟩
def SetU (u:Value):Prop:=∃ x:SetV,SetOk x/\u=.agg #[.string x.col,.string x.col2,.int .i64 x.val.kind,.int .i64 x.val.n,.string x.val.s]
def NewSet0 (S:Nat) (u:Value) (w:World):Prop:=∃ q,u=.pointer (some ⟨q,0,none⟩)/\S<=q/\w.heap[q]? = some (.cells #[.string ⟨#[]⟩,.string ⟨#[]⟩,.int .i64 0,.int .i64 0,.string ⟨#[]⟩] 81 (0,0))
theorem NewSet0.below {S:Nat} {u:Value} {w w':World} (h:NewSet0 S u w) (hb:Below w.heap.size w w'):NewSet0 S u w':=by
 obtain ⟨q,e,h1,h2⟩:=h
 exact ⟨q,e,h1,(hb.block _ (jB h2)).trans h2⟩
noncomputable def mcode5:Code:=(Tryz.f36.body.bind (condThen 112)).getD .skip
theorem made_k5 {Q:Exit->Act->World->Prop} {V U:World} {q2 q3 q5 q6 q7:Nat} {x0 x1 x2 x3 x4 x5 x6 x7 x8 x9 x10 x11 x12 x13 x14 x15:Int} {L:List Cond} {a:Option Addr} {c:Nat} {tb:ByteArray} {g0 g1 g2 g4 g8 g9 g10 g11 g12 g13 g14 g15 g16 g17 g18 g19 g20 g21 g22 g23 g24 g25 g26 g27 g28 g29 g30 g31 g32 g33 g34 g35 g36 g37 g38 g39 g40 g41 g42 g43 g44 g45 g46 g47 g48 g49 g50 g51 g52 g53 g54 g55 g56 g57 g58 g59 g60 g61 g62 g63 g64 g65 g66 g67 g68 g69 g70 g71 g72 g73 g74 g75 g76 g77 g78 g79 g80 g81 g82 g83 g84 g85 g86 g87 g88 g89 g90 g91 g92 g93 g94 g95 g96 g97 g98 g99 g100 g101 g102 g103 g104 g105 g106 g107 g108 g109 g110 g111 g112 g113 g114 g115 g116 g117 g118 g119 g120 g121 g122 g123 g124 g125 g126 g127 g128 g129 g130 g131 g132 g133 g134 g135 g136 g137 g138 g139 g140 g141 g142 g143 g144 g145 g146 g147 g148 g149 g150 g151 g152 g153 g154 g155 g156 g157 g158 g159 g160 g161 g162 g163 g164 g165 g166 g167 g168 g169 g170 g171 g172 g173 g174 g175 g176 g177 g178 g179 g180 g181 g182 g183 g184 g185 g186 g187 g188 g189 g190 g191 g192 g193 g194 g195 g196 g197 g198 g199 g200 g201 g202 g203 g204 g205 g206 g207 g208 g209 g210 g211 g212 g213 g214 g215 g216 g217 g218 g219 g220 g221 g222 g223 g224 g225 g226 g227 g228 g229 g230 g231 g232 g233 g234 g235 g236 g237 g238 g239 g240 g241 g242 g243 g244 g245 g246 g247 g248 g249 g250 g251 g252 g253 g254 g255 g256 g257 g258 g259 g260 g261 g262 g263 g264 g265 g266 g267 g268 g269 g270 g271 g272 g273 g274 g275 g276 g277 g278 g279 g280 g281 g282 g283 g284 g285 g286 g287 g288 g289 g290 g291 g292 g293 g294 g295 g296 g297 g298 g299 g300 g301 g302 g303 g304 g305 g306 g307:Value}
 (HRN0:∀ x ∈ [x0,x1,x2,x3,x4,x5,x6,x7,x8,x9,x10,x11,x12,x13,x14,x15],0<=x/\x<=65535) (H3:V.heap[q3]? = some (.cells #[.int .i64 x0,.int .i64 x1,.int .i64 x2,.int .i64 x3,.int .i64 x4,.int .i64 x5,.int .i64 x6,.int .i64 x7,.int .i64 x8,.int .i64 x9,.int .i64 x10,.int .i64 x11,.int .i64 x12,.int .i64 x13,.int .i64 x14,.int .i64 x15] 3 (0,0))) (H5:V.heap[q5]? = some (.cells tabs6 9 (0,0))) (H6:V.heap[q6]? = some (.cells cols6 9 (0,0)))
 (H37:q3<q7/\q5<q7/\q6<q7/\q2<q7) (HV:V.grownBy U (some q7)) (H7:U.heap[q7]? = some (.cells #[.int .i64 5,.string tb,.string ⟨#[]⟩,.slice none 0 0,.slice none 0 0,.slice none 0 0,.slice none 0 0,.slice a L.length c,.string ⟨#[]⟩,.string ⟨#[]⟩,.string ⟨#[]⟩,.int .i64 0,.slice none 0 0,.int .i64 0,.int .i64 0] 39 (0,0))) (HLW:Lst condR q7 U a c L) (HLL:L.length<=2/\∀ x ∈ L,CondOk x) (HTT:tb.size<=1)
 (hQ:∀ (d8 d9 d10 d11 d12 d13 d14 d15 d16 d17 d18 d19 d20 d21 d22 d23 d24 d25 d26 d27 d28 d29 d30 d31 d32 d33 d34 d35 d36 d37 d38 d39 d40 d41 d42 d43 d44 d45 d46 d47 d48 d49 d50 d51 d52 d53 d54 d55 d56 d57 d58 d59 d60 d61 d62 d63 d64 d65 d66 d67 d68 d69 d70 d71 d72 d73 d74 d75 d76 d77 d78 d79 d80 d81 d82 d83 d84 d85 d86 d87 d88 d89 d90 d91 d92 d93 d94 d95 d96 d97 d98 d99 d100 d101 d102 d103 d104 d105 d106 d107 d108 d109 d110 d111 d112 d113 d114 d115 d116 d117 d118 d119 d120 d121 d122 d123 d124 d125 d126 d127 d128 d129 d130 d131 d132 d133 d134 d135 d136 d137 d138 d139 d140 d141 d142 d143 d144 d145 d146 d147 d148 d149 d150 d151 d152 d153 d154 d155 d156 d157 d158 d159 d160 d161 d162 d163 d164 d165 d166 d167 d168 d169 d170 d171 d172 d173 d174 d175 d176 d177 d178 d179 d180 d181 d182 d183 d184 d185 d186 d187 d188 d189 d190 d191 d192 d193 d194 d195 d196 d197 d198 d199 d200 d201 d202 d203 d204 d205 d206 d207 d208 d209 d210 d211 d212 d213 d214 d215 d216 d217 d218 d219 d220 d221 d222 d223 d224 d225 d226 d227 d228 d229 d230 d231 d232 d233 d234 d235 d236 d237 d238 d239 d240 d241 d242 d243 d244 d245 d246 d247 d248 d249 d250 d251 d252 d253 d254 d255 d256 d257 d258 d259 d260 d261 d262 d263 d264 d265 d266 d267 d268 d269 d270 d271 d272 d273 d274 d275 d276 d277 d278 d279 d280 d281 d282 d283 d284 d285 d286 d287 d288 d289 d290 d291 d292 d293 d294 d295 d296 d297 d298 d299 d300 d301 d302 d303 d304 d305 d306 d307:Value) (w':World),StQ V q7 5 w'->Q .normal ⟨#[g0,g1,g2,.slice (some ⟨q3,0,none⟩) 16 16,g4,.slice (some ⟨q5,0,none⟩) 6 6,.slice (some ⟨q6,0,none⟩) 6 6,.pointer (some ⟨q7,0,none⟩),d8,d9,d10,d11,d12,d13,d14,d15,d16,d17,d18,d19,d20,d21,d22,d23,d24,d25,d26,d27,d28,d29,d30,d31,d32,d33,d34,d35,d36,d37,d38,d39,d40,d41,d42,d43,d44,d45,d46,d47,d48,d49,d50,d51,d52,d53,d54,d55,d56,d57,d58,d59,d60,d61,d62,d63,d64,d65,d66,d67,d68,d69,d70,d71,d72,d73,d74,d75,d76,d77,d78,d79,d80,d81,d82,d83,d84,d85,d86,d87,d88,d89,d90,d91,d92,d93,d94,d95,d96,d97,d98,d99,d100,d101,d102,d103,d104,d105,d106,d107,d108,d109,d110,d111,d112,d113,d114,d115,d116,d117,d118,d119,d120,d121,d122,d123,d124,d125,d126,d127,d128,d129,d130,d131,d132,d133,d134,d135,d136,d137,d138,d139,d140,d141,d142,d143,d144,d145,d146,d147,d148,d149,d150,d151,d152,d153,d154,d155,d156,d157,d158,d159,d160,d161,d162,d163,d164,d165,d166,d167,d168,d169,d170,d171,d172,d173,d174,d175,d176,d177,d178,d179,d180,d181,d182,d183,d184,d185,d186,d187,d188,d189,d190,d191,d192,d193,d194,d195,d196,d197,d198,d199,d200,d201,d202,d203,d204,d205,d206,d207,d208,d209,d210,d211,d212,d213,d214,d215,d216,d217,d218,d219,d220,d221,d222,d223,d224,d225,d226,d227,d228,d229,d230,d231,d232,d233,d234,d235,d236,d237,d238,d239,d240,d241,d242,d243,d244,d245,d246,d247,d248,d249,d250,d251,d252,d253,d254,d255,d256,d257,d258,d259,d260,d261,d262,d263,d264,d265,d266,d267,d268,d269,d270,d271,d272,d273,d274,d275,d276,d277,d278,d279,d280,d281,d282,d283,d284,d285,d286,d287,d288,d289,d290,d291,d292,d293,d294,d295,d296,d297,d298,d299,d300,d301,d302,d303,d304,d305,d306,d307],[]⟩ w'):Code.wp Tryz.prog mcode5 Q ⟨#[g0,g1,g2,.slice (some ⟨q3,0,none⟩) 16 16,g4,.slice (some ⟨q5,0,none⟩) 6 6,.slice (some ⟨q6,0,none⟩) 6 6,.pointer (some ⟨q7,0,none⟩),g8,g9,g10,g11,g12,g13,g14,g15,g16,g17,g18,g19,g20,g21,g22,g23,g24,g25,g26,g27,g28,g29,g30,g31,g32,g33,g34,g35,g36,g37,g38,g39,g40,g41,g42,g43,g44,g45,g46,g47,g48,g49,g50,g51,g52,g53,g54,g55,g56,g57,g58,g59,g60,g61,g62,g63,g64,g65,g66,g67,g68,g69,g70,g71,g72,g73,g74,g75,g76,g77,g78,g79,g80,g81,g82,g83,g84,g85,g86,g87,g88,g89,g90,g91,g92,g93,g94,g95,g96,g97,g98,g99,g100,g101,g102,g103,g104,g105,g106,g107,g108,g109,g110,g111,g112,g113,g114,g115,g116,g117,g118,g119,g120,g121,g122,g123,g124,g125,g126,g127,g128,g129,g130,g131,g132,g133,g134,g135,g136,g137,g138,g139,g140,g141,g142,g143,g144,g145,g146,g147,g148,g149,g150,g151,g152,g153,g154,g155,g156,g157,g158,g159,g160,g161,g162,g163,g164,g165,g166,g167,g168,g169,g170,g171,g172,g173,g174,g175,g176,g177,g178,g179,g180,g181,g182,g183,g184,g185,g186,g187,g188,g189,g190,g191,g192,g193,g194,g195,g196,g197,g198,g199,g200,g201,g202,g203,g204,g205,g206,g207,g208,g209,g210,g211,g212,g213,g214,g215,g216,g217,g218,g219,g220,g221,g222,g223,g224,g225,g226,g227,g228,g229,g230,g231,g232,g233,g234,g235,g236,g237,g238,g239,g240,g241,g242,g243,g244,g245,g246,g247,g248,g249,g250,g251,g252,g253,g254,g255,g256,g257,g258,g259,g260,g261,g262,g263,g264,g265,g266,g267,g268,g269,g270,g271,g272,g273,g274,g275,g276,g277,g278,g279,g280,g281,g282,g283,g284,g285,g286,g287,g288,g289,g290,g291,g292,g293,g294,g295,g296,g297,g298,g299,g300,g301,g302,g303,g304,g305,g306,g307],[]⟩ U:=by
 conv=>arg 2;whnf
 have HRN:=hid HRN0
 have HB0:=hid (HRN0 x0 (by simp))
 have HB1:=hid (HRN0 x1 (by simp))
 have HB2:=hid (HRN0 x2 (by simp))
 have HB3:=hid (HRN0 x3 (by simp))
 have HB4:=hid (HRN0 x4 (by simp))
 have HB5:=hid (HRN0 x5 (by simp))
 have HB6:=hid (HRN0 x6 (by simp))
 have HB7:=hid (HRN0 x7 (by simp))
 have HB8:=hid (HRN0 x8 (by simp))
 have HB9:=hid (HRN0 x9 (by simp))
 have HB10:=hid (HRN0 x10 (by simp))
 have HB11:=hid (HRN0 x11 (by simp))
 have HB12:=hid (HRN0 x12 (by simp))
 have HB13:=hid (HRN0 x13 (by simp))
 have HB14:=hid (HRN0 x14 (by simp))
 have HB15:=hid (HRN0 x15 (by simp))
 have Gq3:=hid H3
 have Gq5:=hid H5
 have Gq6:=hid H6
 have L37:=hid H37
 have GV:=hid HV
 have Cq7:=hid H7
 have LW:=hid HLW
 have HL:=hid HLL
 have HTB:=hid HTT
 have Cq3:=hid ((GV.out.block _ (jB Gq3.out) (fun e=>Nat.ne_of_lt L37.out.1 (jI e))).trans Gq3.out)
 have Cq5:=hid ((GV.out.block _ (jB Gq5.out) (fun e=>Nat.ne_of_lt L37.out.2.1 (jI e))).trans Gq5.out)
 have Cq6:=hid ((GV.out.block _ (jB Gq6.out) (fun e=>Nat.ne_of_lt L37.out.2.2.1 (jI e))).trans Gq6.out)
 obtain ⟨iV,hV,hV0,hV1,hV2⟩:=info_parts info_mv
 obtain ⟨iS,hS,hS0,hS1,hS2⟩:=info_parts info_mst
 obtain ⟨iE,hE,hE0,hE1,hE2⟩:=info_parts info_mse
 have HQ:=hid hQ
 clear HRN0 H3 H5 H6 H37 HV H7 HLW HLL HTT hQ
 go_upto_block 7 with (fail)
 go_wp2_with fail
 go_loopw [10] (fun x10 wr=>∃ (i:Nat) (M:List SetV) (am:Option Addr) (cm:Nat),i<=2/\x10=.int .i64 i/\Hid (M.length=i/\U.grownBy wr (some q7)/\wr.heap[q7]? = some (.cells #[.int .i64 5,.string tb,.string ⟨#[]⟩,.slice none 0 0,.slice none 0 0,.slice none 0 0,.slice am i cm,.slice a L.length c,.string ⟨#[]⟩,.string ⟨#[]⟩,.string ⟨#[]⟩,.int .i64 0,.slice none 0 0,.int .i64 0,.int .i64 0] 39 (0,0))/\wr.ownsRow U.heap.size 81 5 (.slice am i cm) i (M.flatMap setEnc)/\(M=[]->am=none/\cm=0)/\∀ x ∈ M,SetOk x)) (fun x10 _=>3 - (intOf x10).toNat)
 case atStart=>exact ⟨0,[],none,0,by omega,rfl,rfl,grownBy_refl _ _,Cq7.out,World.ownsRow_nil _ _ _ _,fun _=>⟨rfl,rfl⟩,fun x hx=>by cases hx⟩
 case round =>
  obtain ⟨i,M,am,cm,hi2,rfl,HR⟩:=hrel
  have Rq3:=hid ((HR.out.2.1.block _ (jB Cq3.out) (fun e=>Nat.ne_of_lt L37.out.1 (jI e))).trans Cq3.out)
  have Rq6:=hid ((HR.out.2.1.block _ (jB Cq6.out) (fun e=>Nat.ne_of_lt L37.out.2.2.1 (jI e))).trans Cq6.out)
  have Rq7:=hid HR.out.2.2.1
  have c9:=jC Rq3.out 9
  simp only [gT,gZ,gS] at c9
  have bx9:=HB9.out
  by_cases hlt:(i:Int)<1+x9 % 2
  · have hi1:i<=1:=by omega
    obtain ⟨y11,hy11⟩:∃ y,nS [x0,x1,x2,x3,x4,x5,x6,x7,x8,x9,x10,x11,x12,x13,x14,x15] (11+(i:Int))=y:=⟨_,rfl⟩
    have HY11:=hid (show ∀ z:World,z.heap[q3]? = some (.cells #[.int .i64 x0,.int .i64 x1,.int .i64 x2,.int .i64 x3,.int .i64 x4,.int .i64 x5,.int .i64 x6,.int .i64 x7,.int .i64 x8,.int .i64 x9,.int .i64 x10,.int .i64 x11,.int .i64 x12,.int .i64 x13,.int .i64 x14,.int .i64 x15] 3 (0,0))->z.cell? ⟨q3,(11+(i:Int)).toNat,none⟩=some (.int .i64 y11) from fun z h=>by rw [<- hy11];exact num_at (X:=[x0,x1,x2,x3,x4,x5,x6,x7,x8,x9,x10,x11,x12,x13,x14,x15]) rfl h _ (by omega) (by omega))
    have HBy11:=hid (show 0<=y11/\y11<=65535 by rw [<- hy11];exact nS_bd HRN.out _)
    clear hy11
    have Nq7:=hid (own_neB HR.out.2.2.2.1 (jB Cq7.out))
    have HSZ:=hid HR.out.2.1.size
    go_upto_region 24 with (fail)
    clear c9 bx9
    apply wp_region_growt 17 [123,124,125,126,127,128,129,130,131,132,133,134,135,136,137,138,11]
     [fun _ u _=>u=.slice (some ⟨q6,0,none⟩) 6 6,
      fun _ u _=>u=.slice (some ⟨q3,0,none⟩) 16 16,
      fun _ u _=>u=.pointer (some ⟨q3,10,none⟩),
      fun _ u _=>u=.int .i64 x10,
      fun _ u _=>u=.int .i64 ((i:Int)),
      fun _ u _=>u=.int .i64 (x10+(i:Int)),
      fun _ u _=>u=.int .i64 ((x10+(i:Int)) % 6),
      fun _ u _=>u=.pointer (some ⟨q6,((x10+(i:Int)) % 6).toNat,none⟩),
      fun _ u _=>u=.string (mcS ((x10+(i:Int)) % 6)),
      fun _ u _=>u=.slice (some ⟨q3,0,none⟩) 16 16,
      fun _ u _=>u=.int .i64 ((i:Int)),
      fun _ u _=>u=.int .i64 (11+(i:Int)),
      fun _ u _=>u=.pointer (some ⟨q3,(11+(i:Int)).toNat,none⟩),
      fun _ u _=>u=.int .i64 y11,
      fun _ u _=>ValU u,
      fun _ u _=>SetU u,
      fun _ u w'=>NewSet0 wr.heap.size u w']
     (Below wr.heap.size wr)
    case hF =>
     intro v
     simp only [setAll,List.foldl_cons,List.foldl_nil,Act.put,List.setIfInBounds_toArray,List.set_cons_succ,List.set_cons_zero]
     exact rfl
    case hm=>kernel_rfl
    case hB=>kernel_rfl
    case hsz=>kernel_rfl
    case hC=>exact fun w1 w2 h b=>h.trans (b.mono h.size)
    case hw=>exact Below.drew b0R
    case hS =>
     intro D hD v u
     simp only [List.mem_cons,List.not_mem_nil,or_false] at hD
     rcases hD with rfl|rfl|rfl|rfl|rfl|rfl|rfl|rfl|rfl|rfl|rfl|rfl|rfl|rfl|rfl|rfl|rfl
     · exact fun w1 w2 h _=>h
     · exact fun w1 w2 h _=>h
     · exact fun w1 w2 h _=>h
     · exact fun w1 w2 h _=>h
     · exact fun w1 w2 h _=>h
     · exact fun w1 w2 h _=>h
     · exact fun w1 w2 h _=>h
     · exact fun w1 w2 h _=>h
     · exact fun w1 w2 h _=>h
     · exact fun w1 w2 h _=>h
     · exact fun w1 w2 h _=>h
     · exact fun w1 w2 h _=>h
     · exact fun w1 w2 h _=>h
     · exact fun w1 w2 h _=>h
     · exact fun w1 w2 h _=>h
     · exact fun w1 w2 h _=>h
     · exact fun w1 w2 h hb=>h.below hb
    case hob =>
     simp only [List.take_succ_cons,List.take_zero]
     apply growt_cons
     · intro v w1 h1 hd
       clear hd
       clear h1
       go_wp2_with fail
       first|exact ⟨rfl,_,rfl,Below.refl _ _,rfl⟩|exact Below.refl _ _|exact ⟨Below.refl _ _,rfl⟩
     apply growt_cons
     · intro v w1 h1 hd
       clear hd
       clear h1
       go_wp2_with fail
       first|exact ⟨rfl,_,rfl,Below.refl _ _,rfl⟩|exact Below.refl _ _|exact ⟨Below.refl _ _,rfl⟩
     apply growt_cons
     · intro v w1 h1 hd
       have g124:v 124=.slice (some ⟨q3,0,none⟩) 16 16:=hd 1 _ _ _ rfl rfl rfl rfl
       clear hd
       rw [g124]
       clear g124 h1
       go_wp2_with fail
       first|exact ⟨rfl,_,rfl,Below.refl _ _,rfl⟩|exact Below.refl _ _|exact ⟨Below.refl _ _,rfl⟩
     apply growt_cons
     · intro v w1 h1 hd
       have g125:v 125=.pointer (some ⟨q3,10,none⟩):=hd 2 _ _ _ rfl rfl rfl rfl
       clear hd
       rw [g125]
       have c0:=jC ((h1.block _ (jB Rq3.out)).trans Rq3.out) 10
       simp only [gT,gZ,gS] at c0
       clear g125 h1
       go_wp2_with fail
       first|exact ⟨rfl,_,rfl,Below.refl _ _,rfl⟩|exact Below.refl _ _|exact ⟨Below.refl _ _,rfl⟩
     apply growt_cons
     · intro v w1 h1 hd
       clear hd
       clear h1
       go_wp2_with fail
       first|exact ⟨rfl,_,rfl,Below.refl _ _,rfl⟩|exact Below.refl _ _|exact ⟨Below.refl _ _,rfl⟩
     apply growt_cons
     · intro v w1 h1 hd
       have g126:v 126=.int .i64 x10:=hd 3 _ _ _ rfl rfl rfl rfl
       have g127:v 127=.int .i64 ((i:Int)):=hd 4 _ _ _ rfl rfl rfl rfl
       clear hd
       rw [g126,g127]
       have bx10:=HB10.out
       clear g126 g127 h1
       go_wp2_with fail
       first|exact ⟨rfl,_,rfl,Below.refl _ _,rfl⟩|exact Below.refl _ _|exact ⟨Below.refl _ _,rfl⟩
     apply growt_cons
     · intro v w1 h1 hd
       have g128:v 128=.int .i64 (x10+(i:Int)):=hd 5 _ _ _ rfl rfl rfl rfl
       clear hd
       rw [g128]
       have bx10:=HB10.out
       clear g128 h1
       go_wp2_with fail
       first|exact ⟨rfl,_,rfl,Below.refl _ _,rfl⟩|exact Below.refl _ _|exact ⟨Below.refl _ _,rfl⟩
     apply growt_cons
     · intro v w1 h1 hd
       have g123:v 123=.slice (some ⟨q6,0,none⟩) 6 6:=hd 0 _ _ _ rfl rfl rfl rfl
       have g129:v 129=.int .i64 ((x10+(i:Int)) % 6):=hd 6 _ _ _ rfl rfl rfl rfl
       clear hd
       rw [g123,g129]
       have bx10:=HB10.out
       have by0:0<=(x10+(i:Int)) % 6/\(x10+(i:Int)) % 6<6:=by omega
       clear g123 g129 h1
       go_wp2_with fail
       first|exact ⟨rfl,_,rfl,Below.refl _ _,rfl⟩|exact Below.refl _ _|exact ⟨Below.refl _ _,rfl⟩
     apply growt_cons
     · intro v w1 h1 hd
       have g130:v 130=.pointer (some ⟨q6,((x10+(i:Int)) % 6).toNat,none⟩):=hd 7 _ _ _ rfl rfl rfl rfl
       clear hd
       rw [g130]
       have bx10:=HB10.out
       have by0:0<=(x10+(i:Int)) % 6/\(x10+(i:Int)) % 6<6:=by omega
       have c0:=col_at6 ((h1.block _ (jB Rq6.out)).trans Rq6.out) ((x10+(i:Int)) % 6) by0.1 by0.2
       clear g130 h1
       go_wp2_with fail
       first|exact ⟨rfl,_,rfl,Below.refl _ _,rfl⟩|exact Below.refl _ _|exact ⟨Below.refl _ _,rfl⟩
     apply growt_cons
     · intro v w1 h1 hd
       clear hd
       clear h1
       go_wp2_with fail
       first|exact ⟨rfl,_,rfl,Below.refl _ _,rfl⟩|exact Below.refl _ _|exact ⟨Below.refl _ _,rfl⟩
     apply growt_cons
     · intro v w1 h1 hd
       clear hd
       clear h1
       go_wp2_with fail
       first|exact ⟨rfl,_,rfl,Below.refl _ _,rfl⟩|exact Below.refl _ _|exact ⟨Below.refl _ _,rfl⟩
     apply growt_cons
     · intro v w1 h1 hd
       have g133:v 133=.int .i64 ((i:Int)):=hd 10 _ _ _ rfl rfl rfl rfl
       clear hd
       rw [g133]
       clear g133 h1
       go_wp2_with fail
       first|exact ⟨rfl,_,rfl,Below.refl _ _,rfl⟩|exact Below.refl _ _|exact ⟨Below.refl _ _,rfl⟩
     apply growt_cons
     · intro v w1 h1 hd
       have g132:v 132=.slice (some ⟨q3,0,none⟩) 16 16:=hd 9 _ _ _ rfl rfl rfl rfl
       have g134:v 134=.int .i64 (11+(i:Int)):=hd 11 _ _ _ rfl rfl rfl rfl
       clear hd
       rw [g132,g134]
       have by0:0<=11+(i:Int)/\11+(i:Int)<16:=by omega
       clear g132 g134 h1
       go_wp2_with fail
       first|exact ⟨rfl,_,rfl,Below.refl _ _,rfl⟩|exact Below.refl _ _|exact ⟨Below.refl _ _,rfl⟩
     apply growt_cons
     · intro v w1 h1 hd
       have g135:v 135=.pointer (some ⟨q3,(11+(i:Int)).toNat,none⟩):=hd 12 _ _ _ rfl rfl rfl rfl
       clear hd
       rw [g135]
       have c0:=HY11.out _ ((h1.block _ (jB Rq3.out)).trans Rq3.out)
       clear g135 h1
       go_wp2_with fail
       first|exact ⟨rfl,_,rfl,Below.refl _ _,rfl⟩|exact Below.refl _ _|exact ⟨Below.refl _ _,rfl⟩
     apply growt_cons
     · intro v w1 h1 hd
       have g1:v 136=.int .i64 y11:=hd 13 _ _ _ rfl rfl rfl rfl
       clear hd
       rw [g1]
       have con:=mval_any y11 HBy11.out.1 HBy11.out.2 w1
       clear g1 h1
       go_wp2_with fail
       refine con.mono ?_
       rintro e w2 ⟨⟨vv,rfl,hv⟩,b2⟩
       have B2:=hid b2
       have H2:=hid (show ValU (.agg #[.int .i64 vv.kind,.int .i64 vv.n,.string vv.s]) from ⟨vv,hv,rfl⟩)
       clear con b2 hv
       try dsimp only
       go_wp2_with fail
       refine ⟨rfl,_,rfl,?_,?_⟩
       exact B2.out
       exact H2.out
     apply growt_cons
     · intro v w1 h1 hd
       have g1:v 131=.string (mcS ((x10+(i:Int)) % 6)):=hd 8 _ _ _ rfl rfl rfl rfl
       obtain ⟨vv,hv,g3⟩:ValU (v 137):=hd 14 _ _ _ rfl rfl rfl rfl
       clear hd
       rw [g1,g3]
       have H2:=hid (show SetU (.agg #[.string (mcS ((x10+(i:Int)) % 6)),.string ⟨#[]⟩,.int .i64 vv.kind,.int .i64 vv.n,.string vv.s]) from ⟨⟨(mcS ((x10+(i:Int)) % 6)),noStr,vv⟩,⟨mcS_size _,Nat.zero_le _,hv⟩,rfl⟩)
       clear g1 g3 hv h1
       go_wp2_with fail
       exact ⟨rfl,_,rfl,Below.refl _ _,H2.out⟩
     apply growt_cons
     · intro v w1 h1 hd
       clear hd
       have HSW:=hid h1.size
       clear h1
       go_wp2_with fail
       have hb3:Below w1.heap.size w1 (w1.alloc (.cells #[.string ⟨#[]⟩,.string ⟨#[]⟩,.int .i64 0,.int .i64 0,.string ⟨#[]⟩] 81)):=(b0R).alloc (jR _) _
       have hn:(w1.alloc (.cells #[.string ⟨#[]⟩,.string ⟨#[]⟩,.int .i64 0,.int .i64 0,.string ⟨#[]⟩] 81)).heap[w1.heap.size]? = some (.cells #[.string ⟨#[]⟩,.string ⟨#[]⟩,.int .i64 0,.int .i64 0,.string ⟨#[]⟩] 81 (0,0)):=heap_alloc_new _ _
       first|exact ⟨rfl,_,rfl,hb3,_,rfl,HSW.out,hn⟩|exact ⟨hb3,_,rfl,HSW.out,hn⟩|exact ⟨⟨_,rfl,HSW.out,hn⟩,hb3⟩
     exact growt_nil
    case hend =>
     intro v w9 h1 hd
     obtain ⟨q1,g11,hq1,hz⟩:NewSet0 wr.heap.size (v 11) w9:=hd 16 _ _ _ rfl rfl rfl
     obtain ⟨xx,hxx,g138⟩:SetU (v 138):=hd 15 _ _ _ rfl rfl rfl
     clear hd
     rw [g11,g138]
     have m0:=jC hz 0
     have n0:=free_of hz 0
     have m1:=jC hz 1
     have n1:=free_of hz 1
     have m2:=jC hz 2
     have n2:=free_of hz 2
     have m3:=jC hz 3
     have n3:=free_of hz 3
     have m4:=jC hz 4
     have n4:=free_of hz 4
     simp only [gT,gZ,gS] at m0 m1 m2 m3 m4
     have HZ:=hid hz
     have HQ1:=hid hq1
     have H1:=hid h1
     have HXX:=hid hxx
     clear g11 g138 hz hq1 h1 hxx
     generalize v 123=k123,v 124=k124,v 125=k125,v 126=k126,v 127=k127,v 128=k128,v 129=k129,v 130=k130,v 131=k131,v 132=k132,v 133=k133,v 134=k134,v 135=k135,v 136=k136,v 137=k137
     simp only [List.drop_succ_cons,List.drop_zero]
     go_upto_region 25 with (fail)
     generalize hA:World.setCell _ _ _=Z
     have bZ:=hid (show Below wr.heap.size wr Z by
      rw [<- hA]
      exact (((((H1.out.setCell (p:=⟨q1,0,none⟩) HQ1.out _).setCell (p:=⟨q1,1,none⟩) HQ1.out _).setCell (p:=⟨q1,2,none⟩) HQ1.out _).setCell (p:=⟨q1,3,none⟩) HQ1.out _).setCell (p:=⟨q1,4,none⟩) HQ1.out _))
     have Gz:=hid (show Z.heap[q1]? = some (.cells #[.string xx.col,.string xx.col2,.int .i64 xx.val.kind,.int .i64 xx.val.n,.string xx.val.s] 81 (0,0)) by
      rw [<- hA]
      have e0:=heap_setCell_same _ q1 0 _ _ (.string xx.col) HZ.out
      have e1:=heap_setCell_same _ q1 1 _ _ (.string xx.col2) e0
      have e2:=heap_setCell_same _ q1 2 _ _ (.int .i64 xx.val.kind) e1
      have e3:=heap_setCell_same _ q1 3 _ _ (.int .i64 xx.val.n) e2
      have e4:=heap_setCell_same _ q1 4 _ _ (.string xx.val.s) e3
      simp only [List.setIfInBounds_toArray,List.set_cons_zero,List.set_cons_succ] at e4
      exact e4)
     clear hA m0 n0 m1 n1 m2 n2 m3 n3 m4 n4 HZ H1
     have Zq3:=cy bZ.out Rq3
     have Zq6:=cy bZ.out Rq6
     have d13:=jC Zq3.out 13
     simp only [gT,gZ,gS] at d13
     have bx13:=HB13.out
     go_upto_if 143 with (fail)
     clear d13
     go_cut [] from 144 to 151 (fun wx=>∃ yy:SetV,Hid (SetOk yy/\Below wr.heap.size wr wx/\wx.heap[q1]? = some (.cells #[.string yy.col,.string yy.col2,.int .i64 yy.val.kind,.int .i64 yy.val.n,.string yy.val.s] 81 (0,0))))
     case first =>
      have d14:=jC Zq3.out 14
      have f1:=jC Gz.out 1
      have n1:=free_of Gz.out 1
      simp only [gT,gZ,gS] at d14 f1
      have bx14:=HB14.out
      have s14:=col_at6 Zq6.out (x14 % 6) (by omega) (by omega)
      by_cases hc:x13 % 3=0
      · have HFIN:=hid (show SetOk ⟨xx.col,mcS (x14 % 6),xx.val⟩/\Below wr.heap.size wr (Z.setCell ⟨q1,1,none⟩ (.string (mcS (x14 % 6))))/\(Z.setCell ⟨q1,1,none⟩ (.string (mcS (x14 % 6)))).heap[q1]? = some (.cells #[.string xx.col,.string (mcS (x14 % 6)),.int .i64 xx.val.kind,.int .i64 xx.val.n,.string xx.val.s] 81 (0,0)) from ⟨⟨HXX.out.1,mcS_size _,HXX.out.2.2⟩,bZ.out.setCell (p:=⟨q1,1,none⟩) HQ1.out _,(heap_setCell_same _ _ _ _ _ _ Gz.out).trans rfl⟩)
        go_wp2_with fail
        go_meet
        exact ⟨⟨xx.col,mcS (x14 % 6),xx.val⟩,HFIN⟩
      · have HFIN:=hid (show SetOk xx/\Below wr.heap.size wr Z/\Z.heap[q1]? = some (.cells #[.string xx.col,.string xx.col2,.int .i64 xx.val.kind,.int .i64 xx.val.n,.string xx.val.s] 81 (0,0)) from ⟨HXX.out,bZ.out,Gz.out⟩)
        go_wp2_with fail
        go_meet
        exact ⟨xx,HFIN⟩
     case rest =>
      obtain ⟨yy,HY⟩:=hcut
      obtain ⟨Z2,hZ2⟩:∃ W,W=wc:=⟨_,rfl⟩
      subst hZ2
      have Zq7:=cy HY.out.2.1 Rq7
      have HO:=hid (owns_below HR.out.2.2.2.1 HY.out.2.1)
      have hsz:U.heap.size<=Z2.heap.size:=Nat.le_trans HSZ.out HY.out.2.1.size
      have l6:=jC Zq7.out 6
      have e0:=jC HY.out.2.2 0
      have e1:=jC HY.out.2.2 1
      have e2:=jC HY.out.2.2 2
      have e3:=jC HY.out.2.2 3
      have e4:=jC HY.out.2.2 4
      simp only [gT,gZ,gS] at l6 e0 e1 e2 e3 e4
      go_wp2_with (at_builtin;go_loud (refine wpList_append_own_at _ rfl _ _ 36 rfl U.heap.size 81 iE _ 5 64 Tryz.underlying36 hE hE0 hE1 hE2 rfl (by decide) (.slice am i cm) i _ rfl (HO.out.alloc _) ⟨Z2.heap.size,0,none⟩ 1 1 (setEnc yy) rfl rfl (fun j u hj=>by rw [addr_add,jC (heap_alloc_new _ _)];simpa [setEnc] using hj) (setEnc_cells yy) (by unfold maxLen;omega) (by omega) (by simp;omega) ?_;intro v' w8 o1 g3 hx1 at1;obtain ⟨va,vc,hv',_⟩:=owns_shape' o1;subst hv';have ba:=(Below.refl Z2.heap.size Z2).alloc (jR _) (.cells #[.string yy.col,.string yy.col2,.int .i64 yy.val.kind,.int .i64 yy.val.n,.string yy.val.s] 81);have HZ8:=hid ((g3.block _ (jL (jB Zq7.out) ba.size) Nq7.out).trans ((ba.block _ (jB Zq7.out)).trans Zq7.out));have m6:=jC HZ8.out 6;have n6:=free_of HZ8.out 6;simp only [gT,gZ,gS] at m6;have HX:=hid (show _/\_ from ⟨o1,grown_tra (grownBy_of_below _ (HY.out.2.1.trans (ba.mono HY.out.2.1.size))) g3⟩);clear o1 g3 hx1 at1 ba))
      go_roundw
      case rel =>
       exact ⟨i+1,M ++ [yy],va,vc,by omega,by go_num,by rw [List.length_append,HR.out.1];rfl,grown_tra (loop_grow HR.out.2.1 HX.out.2 (fun b e=>(HR.out.2.2.2.1.lt b e).1)) (grown_cell _ ⟨q7,6,none⟩ _),(heap_setCell_same _ _ _ _ _ _ HZ8.out).trans rfl,owns_set (by rw [List.flatMap_append];simpa using HX.out.1) (jB Cq7.out),fun e=>by simp at e,fun x hx=>by
        rcases List.mem_append.1 hx with hx|hx
        · exact HR.out.2.2.2.2.2 x hx
        · rw [List.mem_singleton.1 hx];exact HY.out.1⟩
      case measure=>simp [intOf];omega
  · have hl:=HR.out.1
    have HL2:=hid (show Lst setR q7 wr am cm M from Lst.own (enc:=setEnc) (hl:=fun _=>rfl) (show wr.ownsRow U.heap.size 81 5 (.slice am M.length cm) M.length (M.flatMap setEnc) by rw [HR.out.1];exact HR.out.2.2.2.1) (jB Cq7.out) (by rw [HR.out.1];omega) HR.out.2.2.2.2.1)
    have HL3:=hid (show M.length<=3/\∀ x ∈ M,SetOk x from ⟨by rw [HR.out.1];omega,HR.out.2.2.2.2.2⟩)
    have GW:=hid (grown_tra GV.out HR.out.2.1)
    have LWR:=hid (LW.out.grown HR.out.2.1)
    have HFIN:=hid (show StQ V q7 5 wr from by
     subst hl
     exact ⟨{ stmt0 with kind:=5,table:=tb,sets:=M,wher:=L },none,0,none,0,am,cm,a,c,none,0,GW.out,HR.out.2.2.1,⟨Lst.nil,Lst.nil,HL2.out,LWR.out,Lst.nil⟩,oku (by decide) HTB.out HL3.out.1 HL3.out.2 (by have:=HL.out.1;omega) HL.out.2,rfl⟩)
    clear hl
    go_wp2_with fail
    exact HQ.out _ _ _ _ _ _ _ _ _ _ _ _ _ _ _ _ _ _ _ _ _ _ _ _ _ _ _ _ _ _ _ _ _ _ _ _ _ _ _ _ _ _ _ _ _ _ _ _ _ _ _ _ _ _ _ _ _ _ _ _ _ _ _ _ _ _ _ _ _ _ _ _ _ _ _ _ _ _ _ _ _ _ _ _ _ _ _ _ _ _ _ _ _ _ _ _ _ _ _ _ _ _ _ _ _ _ _ _ _ _ _ _ _ _ _ _ _ _ _ _ _ _ _ _ _ _ _ _ _ _ _ _ _ _ _ _ _ _ _ _ _ _ _ _ _ _ _ _ _ _ _ _ _ _ _ _ _ _ _ _ _ _ _ _ _ _ _ _ _ _ _ _ _ _ _ _ _ _ _ _ _ _ _ _ _ _ _ _ _ _ _ _ _ _ _ _ _ _ _ _ _ _ _ _ _ _ _ _ _ _ _ _ _ _ _ _ _ _ _ _ _ _ _ _ _ _ _ _ _ _ _ _ _ _ _ _ _ _ _ _ _ _ _ _ _ _ _ _ _ _ _ _ _ _ _ _ _ _ _ _ _ _ _ _ _ _ _ _ _ _ _ _ _ _ _ _ _ _ _ _ _ _ _ _ _ _ _ _ _ _ _ _ _ _ _ _ _ _ _ _ _ HFIN.out
end
end Go.Proofs.YtgemihkcihigpaaGreatDoor
