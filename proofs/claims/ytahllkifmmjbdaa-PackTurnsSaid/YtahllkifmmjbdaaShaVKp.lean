/- Sum: blocks 5 and 7. -/
import Derived.Test.YtahllkifmmjbdaaShaWKp
set_option linter.unusedVariables false
set_option linter.unusedSimpArgs false
namespace Go.Proofs.Ytahllkifmmjbdaa
open Go.RowKit Go.Maps Go.Sort
set_option maxRecDepth 100000 in
set_option maxHeartbeats 40000000 in
theorem sumB5 (wr:World) (c:Code) (hcode:blkC 5 (Try.f48.body.getD .skip) = some c) (Q:Exit → Act → World → Prop) (hQp:∀ c t t' df w,Q (.panic c) ⟨t,df⟩ w → Q (.panic c) ⟨t',df⟩ w) (Wm:World) (A5:Option Addr) (c5 at_ i c9:Nat) (A9:Option Addr) (all:List UInt8) (l:List Nat) (hlt:i < 16) (hmb:at_ + 64 ≤ all.length) (hpb:all.length ≤ 1000000000100) (hal:Sl wr A5 (codY.row all)) (hll:l.length = i) (ho:OwnC codU Wm wr A9 c9 l) (hf:Fr noB Wm wr) (u0 u1 u2 u3 u4 u6 u7 u11 u12 u13 u14 u15 u16 u17 u18 u19 u20 u21 u22 u23 u24 u25 u26 u27 u28 u29 u30 u31 u32 u33 u34 u35 u36 u37 u38 u39 u40 u41 u42 u43 u44 u45 u46 u47 u48 u49 u50 u51 u52 u53 u54 u55 u56 u57 u58 u59 u60 u61 u62 u63 u64 u65 u66 u67 u68 u69 u70 u71 u72 u73 u74 u75 u76 u77 u78 u79 u80 u81 u82 u83 u84 u85 u86 u87 u88 u89 u90 u91 u92 u93 u94 u95 u96 u97 u98 u99 u100 u101 u102 u103 u104 u105 u106 u107 u108 u109 u110 u111 u112 u113 u114 u115 u116 u117 u118 u119 u120 u121 u122 u123 u124 u125 u126 u127 u128 u129 u130 u131 u132 u133 u134 u135 u136 u137 u138 u139 u140 u141 u142 u143 u144 u145 u146 u147 u148 u149 u150 u151 u152 u153 u154 u155 u156 u157 u158 u159 u160 u161 u162 u163 u164 u165 u166 u167 u168 u169 u170 u171 u172 u173 u174 u175 u176 u177 u178 u179 u180 u181 u182 u183 u184 u185 u186 u187 u188 u189 u190 u191 u192 u193 u194 u195 u196 u197 u198 u199 u200 u201 u202 u203 u204 u205 u206 u207 u208 u209 u210 u211 u212 u213 u214 u215 u216 u217 u218 u219 u220 u221 u222 u223 u224 u225 u226 u227 u228 u229 u230 u231 u232 u233 u234 u235 u236 u237 u238 u239 u240 u241 u242 u243 u244 u245 u246 u247 u248 u249 u250 u251 u252 u253 u254 u255 u256 u257 u258 u259 u260 u261 u262 u263 u264 u265 u266 u267 u268 u269 u270 u271 u272 u273 u274 u275 u276 u277 u278 u279 u280 u281 u282 u283 u284 u285 u286 u287 u288 u289 u290 u291 u292 u293 u294 u295 u296 u297 u298 u299 u300 u301 u302:Value) (hQ:∀ (v11 v54 v55 v56 v57 v58 v59 v60 v61 v62 v63 v64 v65 v66 v67 v68 v69 v70 v71 v72 v73 v74 v75 v76 v77 v78 v79 v80 v81 v82 v83 v84 v85 v86 v87 v88 v89:Value) (l8:List Nat) (A8:Option Addr) (c8:Nat) (w8:World),l8 = l ++ [wdH all (at_ + 4 * i)] → wdH all (at_ + 4 * i) < 4294967296 → OwnC codU Wm w8 A8 c8 l8 → Fr noB Wm w8 → Q .normal ⟨#[u0,u1,u2,u3,u4,.slice A5 all.length c5,u6,u7,.int .i64 (at_:Int),.slice A8 l8.length c8,.int .i64 (i:Int),v11,u12,u13,u14,u15,u16,u17,u18,u19,u20,u21,u22,u23,u24,u25,u26,u27,u28,u29,u30,u31,u32,u33,u34,u35,u36,u37,u38,u39,u40,u41,u42,u43,u44,u45,u46,u47,u48,u49,u50,u51,u52,u53,v54,v55,v56,v57,v58,v59,v60,v61,v62,v63,v64,v65,v66,v67,v68,v69,v70,v71,v72,v73,v74,v75,v76,v77,v78,v79,v80,v81,v82,v83,v84,v85,v86,v87,v88,v89,u90,u91,u92,u93,u94,u95,u96,u97,u98,u99,u100,u101,u102,u103,u104,u105,u106,u107,u108,u109,u110,u111,u112,u113,u114,u115,u116,u117,u118,u119,u120,u121,u122,u123,u124,u125,u126,u127,u128,u129,u130,u131,u132,u133,u134,u135,u136,u137,u138,u139,u140,u141,u142,u143,u144,u145,u146,u147,u148,u149,u150,u151,u152,u153,u154,u155,u156,u157,u158,u159,u160,u161,u162,u163,u164,u165,u166,u167,u168,u169,u170,u171,u172,u173,u174,u175,u176,u177,u178,u179,u180,u181,u182,u183,u184,u185,u186,u187,u188,u189,u190,u191,u192,u193,u194,u195,u196,u197,u198,u199,u200,u201,u202,u203,u204,u205,u206,u207,u208,u209,u210,u211,u212,u213,u214,u215,u216,u217,u218,u219,u220,u221,u222,u223,u224,u225,u226,u227,u228,u229,u230,u231,u232,u233,u234,u235,u236,u237,u238,u239,u240,u241,u242,u243,u244,u245,u246,u247,u248,u249,u250,u251,u252,u253,u254,u255,u256,u257,u258,u259,u260,u261,u262,u263,u264,u265,u266,u267,u268,u269,u270,u271,u272,u273,u274,u275,u276,u277,u278,u279,u280,u281,u282,u283,u284,u285,u286,u287,u288,u289,u290,u291,u292,u293,u294,u295,u296,u297,u298,u299,u300,u301,u302],[]⟩ w8):c.wp Try.prog Q ⟨#[u0,u1,u2,u3,u4,.slice A5 all.length c5,u6,u7,.int .i64 (at_:Int),.slice A9 l.length c9,.int .i64 (i:Int),u11,u12,u13,u14,u15,u16,u17,u18,u19,u20,u21,u22,u23,u24,u25,u26,u27,u28,u29,u30,u31,u32,u33,u34,u35,u36,u37,u38,u39,u40,u41,u42,u43,u44,u45,u46,u47,u48,u49,u50,u51,u52,u53,u54,u55,u56,u57,u58,u59,u60,u61,u62,u63,u64,u65,u66,u67,u68,u69,u70,u71,u72,u73,u74,u75,u76,u77,u78,u79,u80,u81,u82,u83,u84,u85,u86,u87,u88,u89,u90,u91,u92,u93,u94,u95,u96,u97,u98,u99,u100,u101,u102,u103,u104,u105,u106,u107,u108,u109,u110,u111,u112,u113,u114,u115,u116,u117,u118,u119,u120,u121,u122,u123,u124,u125,u126,u127,u128,u129,u130,u131,u132,u133,u134,u135,u136,u137,u138,u139,u140,u141,u142,u143,u144,u145,u146,u147,u148,u149,u150,u151,u152,u153,u154,u155,u156,u157,u158,u159,u160,u161,u162,u163,u164,u165,u166,u167,u168,u169,u170,u171,u172,u173,u174,u175,u176,u177,u178,u179,u180,u181,u182,u183,u184,u185,u186,u187,u188,u189,u190,u191,u192,u193,u194,u195,u196,u197,u198,u199,u200,u201,u202,u203,u204,u205,u206,u207,u208,u209,u210,u211,u212,u213,u214,u215,u216,u217,u218,u219,u220,u221,u222,u223,u224,u225,u226,u227,u228,u229,u230,u231,u232,u233,u234,u235,u236,u237,u238,u239,u240,u241,u242,u243,u244,u245,u246,u247,u248,u249,u250,u251,u252,u253,u254,u255,u256,u257,u258,u259,u260,u261,u262,u263,u264,u265,u266,u267,u268,u269,u270,u271,u272,u273,u274,u275,u276,u277,u278,u279,u280,u281,u282,u283,u284,u285,u286,u287,u288,u289,u290,u291,u292,u293,u294,u295,u296,u297,u298,u299,u300,u301,u302],[]⟩ wr:=by
 simp [blkC,Try.f48] at hcode
 subst hcode
 have HQ:=Lib.hid hQ
 have HO:=Lib.hid ho
 have HF3:=Lib.hid hf
 have HLL:=Lib.hid hll
 have HMB:=Lib.hid hmb
 have HPB:=Lib.hid hpb
 have HAL:=Lib.hid hal
 clear hQ ho hf hll hmb hpb hal
 have i1:(i:Int) < 16:=by omega
 obtain ⟨q,hq⟩:∃ q,q = 4 * i:=⟨_,rfl⟩
 obtain ⟨p,hp⟩:∃ p,p = at_ + q:=⟨_,rfl⟩
 have m2:wrap64 ((at_:Int) + 4 * (i:Int)) = (p:Int):=by rw [IntWalk.wrap64_in _ (by have:=HMB.out;have:=HPB.out;omega)];omega
 have HP4:=Lib.hid (show p + 3 < all.length ∧ p = at_ + 4 * i by have:=HMB.out;omega)
 have HIL:=Lib.hid hlt
 clear hq hp hlt
 go_upto_region 15 with fail
 rw [m2]
 clear m2
 obtain ⟨g,off,rfl,hg,hc⟩:=cellY HAL.out (by have:=HP4.out.1;omega)
 obtain ⟨x0,x1,x2,x3,y0,y1,y2,s1,s2,s3,p1,p2,p3,hwf⟩:=wdF hc HP4.out.1 HPB.out
 have HWF:=Lib.hid hwf
 obtain ⟨n1,n2,n3⟩:_ ∧ _ ∧ _:=⟨hwf.n1,hwf.n2,hwf.n3⟩
 obtain ⟨j0,j1,j2,j3⟩:_ ∧ _ ∧ _ ∧ _:=⟨hwf.j0,hwf.j1,hwf.j2,hwf.j3⟩
 obtain ⟨k0,k1,k2,k3⟩:_ ∧ _ ∧ _ ∧ _:=⟨hwf.k0,hwf.k1,hwf.k2,hwf.k3⟩
 obtain ⟨v0,v1,v2⟩:_ ∧ _ ∧ _:=⟨hwf.v0,hwf.v1,hwf.v2⟩
 obtain ⟨u1,u2,u3⟩:_ ∧ _ ∧ _:=⟨hwf.u1,hwf.u2,hwf.u3⟩
 clear hwf hg
 clear hc
 obtain ⟨F,hFd⟩:∃ F:World → Prop,F = fun w'=>w'.cell? ⟨g,off + p,none⟩ = some (.int .u8 (x0:Int)) ∧ w'.cell? ⟨g,off + p1,none⟩ = some (.int .u8 (x1:Int)) ∧ w'.cell? ⟨g,off + p2,none⟩ = some (.int .u8 (x2:Int)) ∧ w'.cell? ⟨g,off + p3,none⟩ = some (.int .u8 (x3:Int)):=⟨_,rfl⟩
 have keep:∀ w' w'':World,Fr noB w' w'' → F w' → F w'':=fun w' w'' f h=>by
  rw [hFd] at h ⊢
  exact ⟨cell_fr0 h.1 f,cell_fr0 h.2.1 f,cell_fr0 h.2.2.1 f,cell_fr0 h.2.2.2 f⟩
 have fd:Fr noB wr wr.drew:=(Fr.refl noB wr).drew
 have hF0:F wr.drew:=keep _ _ fd (by rw [hFd];exact ⟨HWF.out.c0,HWF.out.c1,HWF.out.c2,HWF.out.c3⟩)
 have q0:∀ i:Wd F,i.w.cell? ⟨g,off + p,none⟩ = some (.int .u8 (x0:Int)):=fun i=>(cast (congrFun hFd i.w) i.h).1
 have q1:∀ i:Wd F,i.w.cell? ⟨g,off + p1,none⟩ = some (.int .u8 (x1:Int)):=fun i=>(cast (congrFun hFd i.w) i.h).2.1
 have q2:∀ i:Wd F,i.w.cell? ⟨g,off + p2,none⟩ = some (.int .u8 (x2:Int)):=fun i=>(cast (congrFun hFd i.w) i.h).2.2.1
 have q3:∀ i:Wd F,i.w.cell? ⟨g,off + p3,none⟩ = some (.int .u8 (x3:Int)):=fun i=>(cast (congrFun hFd i.w) i.h).2.2.2
 have HO4:=Lib.hid (own_new0 HO.out fd)
 have HF4:=Lib.hid (HF3.out.step0 fd)
 clear fd hFd
 refine wp_region_M 31 33 [⟨288230376151711744,512,0⟩,⟨576460752303423488,32,0⟩,⟨1152921504606846976,2048,0⟩,⟨2305843009213693952,1729382256910270464,6⟩,⟨4611686018427387904,2305843009213693952,8⟩,⟨9223372036854775808,4611686018427387904,16⟩,⟨18446744073709551616,9223372036854775808,32⟩,⟨36893488147419103232,32,0⟩,⟨73786976294838206464,2048,0⟩,⟨147573952589676412928,73786976294838206464,256⟩,⟨295147905179352825856,184467440737095516160,640⟩,⟨590295810358705651712,295147905179352825856,1024⟩,⟨1180591620717411303424,590295810358705651712,2048⟩,⟨2361183241434822606848,1180591620717411303424,4096⟩,⟨4722366482869645213696,2379629985508532158464,8256⟩,⟨9444732965739290427392,32,0⟩,⟨18889465931478580854784,2048,0⟩,⟨37778931862957161709568,18889465931478580854784,65536⟩,⟨75557863725914323419136,47223664828696452136960,163840⟩,⟨151115727451828646838272,75557863725914323419136,262144⟩,⟨302231454903657293676544,151115727451828646838272,524288⟩,⟨604462909807314587353088,302231454903657293676544,1048576⟩,⟨1208925819614629174706176,609185276290184232566784,2113536⟩,⟨2417851639229258349412352,32,0⟩,⟨4835703278458516698824704,2048,0⟩,⟨9671406556917033397649408,4835703278458516698824704,16777216⟩,⟨19342813113834066795298816,12089258196146291747061760,41943040⟩,⟨38685626227668133590597632,19342813113834066795298816,67108864⟩,⟨77371252455336267181195264,38685626227668133590597632,134217728⟩,⟨154742504910672534362390528,78580178274950896355901440,272629760⟩,⟨309485009821345068724781056,154742504910672534362390528,536870912⟩,⟨618970019642690137449562112,309485010109575444876492800,1073741825⟩,⟨512,618970019642690137449562112,4294967295⟩] [(true,0),(true,1),(true,2),(true,3),(true,4),(true,5),(true,6),(true,7),(true,8),(true,9),(true,10),(true,11),(true,12),(true,13),(true,14),(true,15),(true,16),(true,17),(true,18),(true,19),(true,20),(true,21),(true,22),(true,23),(true,24),(true,25),(true,26),(true,27),(true,28),(true,29),(false,30)] F (by kernel_rfl) rfl (by kernel_rfl) (by kernel_rfl) (by kernel_rfl) hF0 (fun hA hF=>?_)
 clear hF0
 generalize wr.drew = wd at hF HO4 HF4 ⊢
 have NE:=Wd.ne hF
 refine wpAnyS_takes (s2:=[(false,30)]) (fuel:=3) (fun d v c a w h=>by cases d <;> exact hQp _ _ _ _ _ h) hF [0,1,2,3,4,5,6,7,8,9,10,11,12,13,14,15,16,17,18,19,20,21,22,23,24,25,26,27,28,29] hA ?_
 repeat (refine wpTakes_at (by rfl) (by rfl) ?_;go_big_quiet_step (fail);refine wpQuiet_nil ?_)
 refine wpTakes_nil ?_
 clear NE
 intro hA
 refine wpAnyS_one hA rfl (fun K' hK=>?_)
 refine step_runI rfl _ _ (ex_bsU_at rfl rfl) ?_
 have fn:Fr noB wd (wd.alloc (.cells #[.int .u32 (s3:Int)] 55)):=(Fr.refl noB wd).alloc _
 have sl:Sl (wd.alloc (.cells #[.int .u32 (s3:Int)] 55)) (some ⟨wd.heap.size,0,none⟩) (codU.row [s3]):=Sl.new wd 55 [.int .u32 (s3:Int)]
 have ho5:=own_new0 HO4.out fn
 have hf5:=HF4.out.step0 fn
 replace hF:=keep _ _ fn hF
 refine hK.out _ _ hF (fun hA=>?_)
 clear hK K'
 refine wpAnyS_end hA rfl ?_
 simp only [List.drop_succ_cons,List.drop_zero]
 clear hF keep q0 q1 q2 q3 n1 n2 n3 j0 j1 j2 j3 k0 k1 k2 k3 v0 v1 v2 u1 u2 u3
 go_wp2_with (at_builtin;refine wpList_appC' etU Wm _ rfl _ _ rfl A9 l.length c9 l rfl rfl ho5 (some ⟨wd.heap.size,0,none⟩) 1 1 [s3] rfl sl rfl (by have:=HLL.out;have:=HIL.out;simp;omega) hf5.size ?_;intro A8 c8 w8 hc8 hmx8 ho8 hg8 hA8;obtain ⟨l8,hl8⟩:∃ t,t = l ++ [s3]:=⟨_,rfl⟩;rw [← hl8] at ho8 ⊢;have HL8:=Lib.hid hl8;clear hl8 hc8 hmx8 hA8)
 have F8:=Fr.own' hf5 ho5 hg8
 have HPE:=HP4.out.2
 exact HQ.out _ _ _ _ _ _ _ _ _ _ _ _ _ _ _ _ _ _ _ _ _ _ _ _ _ _ _ _ _ _ _ _ _ _ _ _ _ l8 A8 c8 w8 (by rw [HL8.out,← HPE,HWF.out.hw]) (by rw [← HPE,HWF.out.hw];exact HWF.out.lt) ho8 F8
set_option maxRecDepth 100000 in
set_option maxHeartbeats 40000000 in
theorem sumB7 (wr:World) (c:Code) (hcode:blkC 7 (Try.f48.body.getD .skip) = some c) (Q:Exit → Act → World → Prop) (hQp:∀ c t t' df w,Q (.panic c) ⟨t,df⟩ w → Q (.panic c) ⟨t',df⟩ w) (Wm:World) (i c9:Nat) (A9:Option Addr) (l:List Nat) (hi1:16 ≤ i) (hlt:i < 64) (hll:l.length = i) (ho:OwnC codU Wm wr A9 c9 l) (hl32:Lt32 l) (hf:Fr noB Wm wr) (u0 u1 u2 u3 u4 u5 u6 u7 u8 u10 u11 u13 u14 u15 u16 u17 u18 u19 u20 u21 u22 u23 u24 u25 u26 u27 u28 u29 u30 u31 u32 u33 u34 u35 u36 u37 u38 u39 u40 u41 u42 u43 u44 u45 u46 u47 u48 u49 u50 u51 u52 u53 u54 u55 u56 u57 u58 u59 u60 u61 u62 u63 u64 u65 u66 u67 u68 u69 u70 u71 u72 u73 u74 u75 u76 u77 u78 u79 u80 u81 u82 u83 u84 u85 u86 u87 u88 u89 u90 u91 u92 u93 u94 u95 u96 u97 u98 u99 u100 u101 u102 u103 u104 u105 u106 u107 u108 u109 u110 u111 u112 u113 u114 u115 u116 u117 u118 u119 u120 u121 u122 u123 u124 u125 u126 u127 u128 u129 u130 u131 u132 u133 u134 u135 u136 u137 u138 u139 u140 u141 u142 u143 u144 u145 u146 u147 u148 u149 u150 u151 u152 u153 u154 u155 u156 u157 u158 u159 u160 u161 u162 u163 u164 u165 u166 u167 u168 u169 u170 u171 u172 u173 u174 u175 u176 u177 u178 u179 u180 u181 u182 u183 u184 u185 u186 u187 u188 u189 u190 u191 u192 u193 u194 u195 u196 u197 u198 u199 u200 u201 u202 u203 u204 u205 u206 u207 u208 u209 u210 u211 u212 u213 u214 u215 u216 u217 u218 u219 u220 u221 u222 u223 u224 u225 u226 u227 u228 u229 u230 u231 u232 u233 u234 u235 u236 u237 u238 u239 u240 u241 u242 u243 u244 u245 u246 u247 u248 u249 u250 u251 u252 u253 u254 u255 u256 u257 u258 u259 u260 u261 u262 u263 u264 u265 u266 u267 u268 u269 u270 u271 u272 u273 u274 u275 u276 u277 u278 u279 u280 u281 u282 u283 u284 u285 u286 u287 u288 u289 u290 u291 u292 u293 u294 u295 u296 u297 u298 u299 u300 u301 u302:Value) (hQ:∀ (v13 v14 v94 v95 v96 v97 v98 v99 v100 v101 v102 v103 v104 v105 v106 v107 v108 v109 v110 v111 v112 v113 v114 v115 v116 v117 v118 v119 v120 v121 v122 v123 v124 v125 v126 v127 v128 v129 v130 v131 v132 v133 v134 v135 v136 v137 v138 v139 v140 v141 v142 v143 v144 v145 v146 v147 v148 v149 v150 v151:Value) (l8:List Nat) (A8:Option Addr) (c8:Nat) (w8:World),l8 = l ++ [nxH l i] → Lt32 l8 → OwnC codU Wm w8 A8 c8 l8 → Fr noB Wm w8 → Q .normal ⟨#[u0,u1,u2,u3,u4,u5,u6,u7,u8,.slice A8 l8.length c8,u10,u11,.int .i64 (i:Int),v13,v14,u15,u16,u17,u18,u19,u20,u21,u22,u23,u24,u25,u26,u27,u28,u29,u30,u31,u32,u33,u34,u35,u36,u37,u38,u39,u40,u41,u42,u43,u44,u45,u46,u47,u48,u49,u50,u51,u52,u53,u54,u55,u56,u57,u58,u59,u60,u61,u62,u63,u64,u65,u66,u67,u68,u69,u70,u71,u72,u73,u74,u75,u76,u77,u78,u79,u80,u81,u82,u83,u84,u85,u86,u87,u88,u89,u90,u91,u92,u93,v94,v95,v96,v97,v98,v99,v100,v101,v102,v103,v104,v105,v106,v107,v108,v109,v110,v111,v112,v113,v114,v115,v116,v117,v118,v119,v120,v121,v122,v123,v124,v125,v126,v127,v128,v129,v130,v131,v132,v133,v134,v135,v136,v137,v138,v139,v140,v141,v142,v143,v144,v145,v146,v147,v148,v149,v150,v151,u152,u153,u154,u155,u156,u157,u158,u159,u160,u161,u162,u163,u164,u165,u166,u167,u168,u169,u170,u171,u172,u173,u174,u175,u176,u177,u178,u179,u180,u181,u182,u183,u184,u185,u186,u187,u188,u189,u190,u191,u192,u193,u194,u195,u196,u197,u198,u199,u200,u201,u202,u203,u204,u205,u206,u207,u208,u209,u210,u211,u212,u213,u214,u215,u216,u217,u218,u219,u220,u221,u222,u223,u224,u225,u226,u227,u228,u229,u230,u231,u232,u233,u234,u235,u236,u237,u238,u239,u240,u241,u242,u243,u244,u245,u246,u247,u248,u249,u250,u251,u252,u253,u254,u255,u256,u257,u258,u259,u260,u261,u262,u263,u264,u265,u266,u267,u268,u269,u270,u271,u272,u273,u274,u275,u276,u277,u278,u279,u280,u281,u282,u283,u284,u285,u286,u287,u288,u289,u290,u291,u292,u293,u294,u295,u296,u297,u298,u299,u300,u301,u302],[]⟩ w8):c.wp Try.prog Q ⟨#[u0,u1,u2,u3,u4,u5,u6,u7,u8,.slice A9 l.length c9,u10,u11,.int .i64 (i:Int),u13,u14,u15,u16,u17,u18,u19,u20,u21,u22,u23,u24,u25,u26,u27,u28,u29,u30,u31,u32,u33,u34,u35,u36,u37,u38,u39,u40,u41,u42,u43,u44,u45,u46,u47,u48,u49,u50,u51,u52,u53,u54,u55,u56,u57,u58,u59,u60,u61,u62,u63,u64,u65,u66,u67,u68,u69,u70,u71,u72,u73,u74,u75,u76,u77,u78,u79,u80,u81,u82,u83,u84,u85,u86,u87,u88,u89,u90,u91,u92,u93,u94,u95,u96,u97,u98,u99,u100,u101,u102,u103,u104,u105,u106,u107,u108,u109,u110,u111,u112,u113,u114,u115,u116,u117,u118,u119,u120,u121,u122,u123,u124,u125,u126,u127,u128,u129,u130,u131,u132,u133,u134,u135,u136,u137,u138,u139,u140,u141,u142,u143,u144,u145,u146,u147,u148,u149,u150,u151,u152,u153,u154,u155,u156,u157,u158,u159,u160,u161,u162,u163,u164,u165,u166,u167,u168,u169,u170,u171,u172,u173,u174,u175,u176,u177,u178,u179,u180,u181,u182,u183,u184,u185,u186,u187,u188,u189,u190,u191,u192,u193,u194,u195,u196,u197,u198,u199,u200,u201,u202,u203,u204,u205,u206,u207,u208,u209,u210,u211,u212,u213,u214,u215,u216,u217,u218,u219,u220,u221,u222,u223,u224,u225,u226,u227,u228,u229,u230,u231,u232,u233,u234,u235,u236,u237,u238,u239,u240,u241,u242,u243,u244,u245,u246,u247,u248,u249,u250,u251,u252,u253,u254,u255,u256,u257,u258,u259,u260,u261,u262,u263,u264,u265,u266,u267,u268,u269,u270,u271,u272,u273,u274,u275,u276,u277,u278,u279,u280,u281,u282,u283,u284,u285,u286,u287,u288,u289,u290,u291,u292,u293,u294,u295,u296,u297,u298,u299,u300,u301,u302],[]⟩ wr:=by
 simp [blkC,Try.f48] at hcode
 subst hcode
 have HQ:=Lib.hid hQ
 have HO:=Lib.hid ho
 have HF3:=Lib.hid hf
 have HLL:=Lib.hid hll
 have HL32:=Lib.hid hl32
 clear hQ ho hf hll hl32
 have i1:(i:Int) < 64:=by omega
 obtain ⟨g,off,rfl,hg,hc⟩:=cellU (Sl.own HO.out) (by have:=HLL.out;omega)
 obtain ⟨j,x,r1,r2,d,y,e,hs⟩:=sgF (G:=g0H) (k:=15) (n1:=7) (n2:=18) (s:=8) (fun _=>rfl) hc HL32.out HLL.out.symm ⟨by omega,by omega⟩ (by omega)
 obtain ⟨j',x',r1',r2',d',y',e',hs'⟩:=sgF (G:=g1H) (k:=2) (n1:=17) (n2:=19) (s:=1024) (fun _=>rfl) hc HL32.out HLL.out.symm ⟨by omega,by omega⟩ (by omega)
 have HG:=Lib.hid hs
 have HG':=Lib.hid hs'
 have HC:=Lib.hid hc
 have HIB:=Lib.hid (And.intro hi1 hlt)
 have n1:IntKind.i64.wrap ((i:Int) - 15) = (j:Int):=hs.n
 have c1:=hs.c
 have j1:=hs.j0
 have h1:=hs.h1
 have h2:(x:Int) / 8 = (y:Int):=hs.h2
 have h3:=hs.h3
 clear hs hs' hc hg hlt hi1
 have R7:∀ W,Calls Try.prog 71 #[.int .u32 (x:Int),.int .u64 7] W (fun e w'=>e = .returned (.int .u32 (r1:Int)) ∧ w' = W):=fun W=>rq_7 HG.out.lt HG.out.e1
 have R18:∀ W,Calls Try.prog 71 #[.int .u32 (x:Int),.int .u64 18] W (fun e w'=>e = .returned (.int .u32 (r2:Int)) ∧ w' = W):=fun W=>rq_18 HG.out.lt HG.out.e2
 go_upto_region 19 with fail
 go_quiet ((go_at_call 71;first | with_reducible exact Calls.quiet_of_same (R7 _) | with_reducible exact Calls.quiet_of_same (R18 _)))
 have fq:Fr noB wr (wr.drewN nq):=(Fr.refl noB wr).drewN nq
 have HF3:=Lib.hid (HF3.out.step0 fq)
 have HO:=Lib.hid (own_new0 HO.out fq)
 have c1:(wr.drewN nq).cell? ⟨g,off + j',none⟩ = some (.int .u32 (x':Int)):=cell_fr0 HG'.out.c fq
 clear n1 j1 h1 h2 h3 R7 R18 fq HC
 generalize wr.drewN nq = wq at HF3 HO c1 ⊢
 have n1:IntKind.i64.wrap ((i:Int) - 2) = (j':Int):=HG'.out.n
 have j1:=HG'.out.j0
 have h1:=HG'.out.h1
 have h2:(x':Int) / 1024 = (y':Int):=HG'.out.h2
 have h3:=HG'.out.h3
 have R7:∀ W,Calls Try.prog 71 #[.int .u32 (x':Int),.int .u64 17] W (fun e w'=>e = .returned (.int .u32 (r1':Int)) ∧ w' = W):=fun W=>rq_17 HG'.out.lt HG'.out.e1
 have R18:∀ W,Calls Try.prog 71 #[.int .u32 (x':Int),.int .u64 19] W (fun e w'=>e = .returned (.int .u32 (r2':Int)) ∧ w' = W):=fun W=>rq_19 HG'.out.lt HG'.out.e2
 go_upto_region 20 with fail
 go_quiet ((go_at_call 71;first | with_reducible exact Calls.quiet_of_same (R7 _) | with_reducible exact Calls.quiet_of_same (R18 _)))
 have fq:Fr noB wq (wq.drewN nq):=(Fr.refl noB wq).drewN nq
 have HF3:=Lib.hid (HF3.out.step0 fq)
 have HO:=Lib.hid (own_new0 HO.out fq)
 clear n1 c1 j1 h1 h2 h3 R7 R18 fq
 generalize wq.drewN nq = wq at HF3 HO ⊢
 go_upto_region 21 with fail
 have fd:Fr noB wq wq.drew:=(Fr.refl noB wq).drew
 obtain ⟨ja,jb,xa,xb,s1,s2,s3,hs⟩:=s3F (e:=e) (e':=e') (Sl.own (own_new0 HO.out fd)) HL32.out HLL.out.symm HIB.out.1 HIB.out.2
 have HS:=Lib.hid hs
 obtain ⟨n1,n2⟩:_ ∧ _:=⟨hs.n1,hs.n2⟩
 obtain ⟨j1,j2⟩:_ ∧ _:=⟨hs.j1,hs.j2⟩
 obtain ⟨u1,u2,u3⟩:_ ∧ _ ∧ _:=⟨hs.u1,hs.u2,hs.u3⟩
 obtain ⟨F,hFd⟩:∃ F:World → Prop,F = fun w'=>w'.cell? ⟨g,off + ja,none⟩ = some (.int .u32 (xa:Int)) ∧ w'.cell? ⟨g,off + jb,none⟩ = some (.int .u32 (xb:Int)):=⟨_,rfl⟩
 have keep:∀ w' w'':World,Fr noB w' w'' → F w' → F w'':=fun w' w'' f h=>by
  rw [hFd] at h ⊢
  exact ⟨cell_fr0 h.1 f,cell_fr0 h.2 f⟩
 have hF0:F wq.drew:=by rw [hFd];exact ⟨hs.c1,hs.c2⟩
 have q0:∀ i:Wd F,i.w.cell? ⟨g,off + ja,none⟩ = some (.int .u32 (xa:Int)):=fun i=>(cast (congrFun hFd i.w) i.h).1
 have q1:∀ i:Wd F,i.w.cell? ⟨g,off + jb,none⟩ = some (.int .u32 (xb:Int)):=fun i=>(cast (congrFun hFd i.w) i.h).2
 have HO4:=Lib.hid (own_new0 HO.out fd)
 have HF4:=Lib.hid (HF3.out.step0 fd)
 clear fd hs hFd
 refine wp_region_M 17 19 [⟨21778071482940061661655974875633165533184,512,0⟩,⟨43556142965880123323311949751266331066368,16384,0⟩,⟨87112285931760246646623899502532662132736,512,0⟩,⟨174224571863520493293247799005065324265472,4096,0⟩,⟨348449143727040986586495598010130648530944,174224571863520493293247799005065324265472,8⟩,⟨696898287454081973172991196020261297061888,435561429658801233233119497512663310663680,20⟩,⟨1393796574908163946345982392040522594123776,696898287454081973172991196020261297061888,32⟩,⟨2787593149816327892691964784081045188247552,1437352717874044069669294341791788925190144,66⟩,⟨5575186299632655785383929568162090376495104,8192,0⟩,⟨11150372599265311570767859136324180752990208,8362779449448983678075894352243135564742656,384⟩,⟨22300745198530623141535718272648361505980416,512,0⟩,⟨44601490397061246283071436545296723011960832,4096,0⟩,⟨89202980794122492566142873090593446023921664,44601490397061246283071436545296723011960832,2048⟩,⟨178405961588244985132285746181186892047843328,111503725992653115707678591363241807529902080,5120⟩,⟨356811923176489970264571492362373784095686656,178405961588244985132285746181186892047843328,8192⟩,⟨713623846352979940529142984724747568191373312,367962295775755281835339351498697964848676864,16896⟩,⟨1427247692705959881058285969449495136382746624,713623846352979940529142984724747568191373312,32768⟩,⟨2854495385411919762116571938898990272765493248,1427269470777442821119947625424370769548279808,65537⟩,⟨512,2854495385411919762116571938898990272765493248,262143⟩] [(true,0),(true,1),(true,2),(true,3),(true,4),(true,5),(true,6),(true,7),(true,8),(true,9),(true,10),(true,11),(true,12),(true,13),(true,14),(true,15),(false,16)] F (by kernel_rfl) rfl (by kernel_rfl) (by kernel_rfl) (by kernel_rfl) hF0 (fun hA hF=>?_)
 clear hF0
 generalize wq.drew = wd at hF HO4 HF4 ⊢
 have NE:=Wd.ne hF
 refine wpAnyS_takes (s2:=[(false,16)]) (fuel:=3) (fun d v c a w h=>by cases d <;> exact hQp _ _ _ _ _ h) hF [0,1,2,3,4,5,6,7,8,9,10,11,12,13,14,15] hA ?_
 repeat (refine wpTakes_at (by rfl) (by rfl) ?_;go_big_quiet_step (fail);refine wpQuiet_nil ?_)
 refine wpTakes_nil ?_
 clear NE
 intro hA
 refine wpAnyS_one hA rfl (fun K' hK=>?_)
 refine step_runI rfl _ _ (ex_bsU_at rfl rfl) ?_
 have fn:Fr noB wd (wd.alloc (.cells #[.int .u32 (s3:Int)] 55)):=(Fr.refl noB wd).alloc _
 have sl:Sl (wd.alloc (.cells #[.int .u32 (s3:Int)] 55)) (some ⟨wd.heap.size,0,none⟩) (codU.row [s3]):=Sl.new wd 55 [.int .u32 (s3:Int)]
 have ho5:=own_new0 HO4.out fn
 have hf5:=HF4.out.step0 fn
 replace hF:=keep _ _ fn hF
 refine hK.out _ _ hF (fun hA=>?_)
 clear hK K'
 refine wpAnyS_end hA rfl ?_
 simp only [List.drop_succ_cons,List.drop_zero]
 clear hF keep q0 q1 n1 n2 j1 j2 u1 u2 u3
 go_wp2_with (at_builtin;refine wpList_appC' etU Wm _ rfl _ _ rfl (some ⟨g,off,none⟩) l.length c9 l rfl rfl ho5 (some ⟨wd.heap.size,0,none⟩) 1 1 [s3] rfl sl rfl (by have:=HLL.out;have:=HIB.out;simp;omega) hf5.size ?_;intro A8 c8 w8 hc8 hmx8 ho8 hg8 hA8;obtain ⟨l8,hl8⟩:∃ t,t = l ++ [s3]:=⟨_,rfl⟩;rw [← hl8] at ho8 ⊢;have HL8:=Lib.hid hl8;clear hl8 hc8 hmx8 hA8)
 have F8:=Fr.own' hf5 ho5 hg8
 have wk:wrap64 ((i:Int) + 1) = (i:Int) + 1:=IntWalk.wrap64_in _ (by have:=HIB.out;omega)
 have HNX:=Lib.hid (show nxH l i = s3 by
  have e0:g0H (l.getD (i - 15) 0) = e:=by have:=HG.out.r;rw [HG.out.ej] at this;exact this
  have e1:g1H (l.getD (i - 2) 0) = e':=by have:=HG'.out.r;rw [HG'.out.ej] at this;exact this
  unfold nxH;rw [e0,e1];exact HS.out.r)
 exact HQ.out _ _ _ _ _ _ _ _ _ _ _ _ _ _ _ _ _ _ _ _ _ _ _ _ _ _ _ _ _ _ _ _ _ _ _ _ _ _ _ _ _ _ _ _ _ _ _ _ _ _ _ _ _ _ _ _ _ _ _ _ l8 A8 c8 w8 (by rw [HL8.out,← HNX.out]) (by rw [HL8.out];exact HL32.out.snoc HS.out.lt) ho8 F8
end Go.Proofs.Ytahllkifmmjbdaa
