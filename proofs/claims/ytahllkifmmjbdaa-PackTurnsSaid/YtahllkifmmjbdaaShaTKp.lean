/- Sum: block 3, a chunk. -/
import Derived.Test.YtahllkifmmjbdaaShaVKp
import Derived.Deep.CutBlock
set_option linter.unusedVariables false
set_option linter.unusedSimpArgs false
namespace Go.Proofs.Ytahllkifmmjbdaa
open Go.RowKit Go.Maps Go.Sort
set_option maxRecDepth 100000 in
set_option maxHeartbeats 40000000 in
theorem sumB3 (Wm:World) (c:Code) (hcode:blkC 3 (Try.f48.body.getD .skip) = some c) (Q:Exit → Act → World → Prop) (hQp:∀ c t t' df w,Q (.panic c) ⟨t,df⟩ w → Q (.panic c) ⟨t',df⟩ w) (P tc td:Nat) (tA tB A5 A6:Option Addr) (c5 c6 at_:Nat) (all:List UInt8) (h:List Nat) (hmb:at_ + 64 ≤ all.length) (hpb:all.length ≤ 1000000000100) (hal:Sl Wm A5 (codY.row all)) (hb:Sl Wm tB (codU.row rdsH)) (htb:codTb.bxd Wm P = some ⟨tA,8,tc,tB,64,td⟩) (hhl:h.length = 8) (hlt3:Lt32 h) (hsl:Sl Wm A6 (codU.row h)) (u0 u1 u3 u4 u7 u9 u10 u11 u12 u13 u14 u15 u16 u17 u18 u19 u20 u21 u22 u23 u24 u25 u26 u27 u28 u29 u30 u31 u32 u33 u34 u35 u36 u37 u38 u39 u40 u41 u42 u43 u44 u45 u46 u47 u48 u49 u50 u51 u52 u53 u54 u55 u56 u57 u58 u59 u60 u61 u62 u63 u64 u65 u66 u67 u68 u69 u70 u71 u72 u73 u74 u75 u76 u77 u78 u79 u80 u81 u82 u83 u84 u85 u86 u87 u88 u89 u90 u91 u92 u93 u94 u95 u96 u97 u98 u99 u100 u101 u102 u103 u104 u105 u106 u107 u108 u109 u110 u111 u112 u113 u114 u115 u116 u117 u118 u119 u120 u121 u122 u123 u124 u125 u126 u127 u128 u129 u130 u131 u132 u133 u134 u135 u136 u137 u138 u139 u140 u141 u142 u143 u144 u145 u146 u147 u148 u149 u150 u151 u152 u153 u154 u155 u156 u157 u158 u159 u160 u161 u162 u163 u164 u165 u166 u167 u168 u169 u170 u171 u172 u173 u174 u175 u176 u177 u178 u179 u180 u181 u182 u183 u184 u185 u186 u187 u188 u189 u190 u191 u192 u193 u194 u195 u196 u197 u198 u199 u200 u201 u202 u203 u204 u205 u206 u207 u208 u209 u210 u211 u212 u213 u214 u215 u216 u217 u218 u219 u220 u221 u222 u223 u224 u225 u226 u227 u228 u229 u230 u231 u232 u233 u234 u235 u236 u237 u238 u239 u240 u241 u242 u243 u244 u245 u246 u247 u248 u249 u250 u251 u252 u253 u254 u255 u256 u257 u258 u259 u260 u261 u262 u263 u264 u265 u266 u267 u268 u269 u270 u271 u272 u273 u274 u275 u276 u277 u278 u279 u280 u281 u282 u283 u284 u285 u286 u287 u288 u289 u290 u291 u292 u293 u294 u295 u296 u297 u298 u299 u300 u301 u302:Value) (hQ:∀ (v9 v10 v11 v12 v13 v14 v15 v16 v17 v18 v19 v20 v21 v22 v23 v24 v25 v49 v50 v51 v52 v53 v54 v55 v56 v57 v58 v59 v60 v61 v62 v63 v64 v65 v66 v67 v68 v69 v70 v71 v72 v73 v74 v75 v76 v77 v78 v79 v80 v81 v82 v83 v84 v85 v86 v87 v88 v89 v90 v91 v92 v93 v94 v95 v96 v97 v98 v99 v100 v101 v102 v103 v104 v105 v106 v107 v108 v109 v110 v111 v112 v113 v114 v115 v116 v117 v118 v119 v120 v121 v122 v123 v124 v125 v126 v127 v128 v129 v130 v131 v132 v133 v134 v135 v136 v137 v138 v139 v140 v141 v142 v143 v144 v145 v146 v147 v148 v149 v150 v151 v152 v153 v154 v155 v156 v157 v158 v159 v160 v161 v162 v163 v164 v165 v166 v167 v168 v169 v170 v171 v172 v173 v174 v175 v176 v177 v178 v179 v180 v181 v182 v183 v184 v185 v186 v187 v188 v189 v190 v191 v192 v193 v194 v195 v196 v197 v198 v199 v200 v201 v202 v203 v204 v205 v206 v207 v208 v209 v210 v211 v212 v213 v214 v215 v216 v217 v218 v219 v220 v221 v222 v223 v224 v225 v226 v227 v228 v229 v230 v231 v232 v233 v234 v235 v236 v237 v238 v239 v240 v241 v242 v243 v244 v245 v246 v247 v248 v249 v250 v251 v252 v253 v254 v255 v256 v257 v258 v259 v260 v261 v262 v263 v264 v265 v266 v267 v268 v269 v270 v271 v272 v273 v274 v275 v276 v277 v278 v279 v280 v281 v282:Value) (h8:List Nat) (A8:Option Addr) (c8:Nat) (w8:World),h8 = bkH rdsH all at_ h → h8.length = 8 → Lt32 h8 → Sl w8 A8 (codU.row h8) → Fr noB Wm w8 → Q .normal ⟨#[u0,u1,.pointer (some ⟨P,0,none⟩),u3,u4,.slice A5 all.length c5,.slice A8 8 c8,u7,.int .i64 (at_:Int),v9,v10,v11,v12,v13,v14,v15,v16,v17,v18,v19,v20,v21,v22,v23,v24,v25,u26,u27,u28,u29,u30,u31,u32,u33,u34,u35,u36,u37,u38,u39,u40,u41,u42,u43,u44,u45,u46,u47,u48,v49,v50,v51,v52,v53,v54,v55,v56,v57,v58,v59,v60,v61,v62,v63,v64,v65,v66,v67,v68,v69,v70,v71,v72,v73,v74,v75,v76,v77,v78,v79,v80,v81,v82,v83,v84,v85,v86,v87,v88,v89,v90,v91,v92,v93,v94,v95,v96,v97,v98,v99,v100,v101,v102,v103,v104,v105,v106,v107,v108,v109,v110,v111,v112,v113,v114,v115,v116,v117,v118,v119,v120,v121,v122,v123,v124,v125,v126,v127,v128,v129,v130,v131,v132,v133,v134,v135,v136,v137,v138,v139,v140,v141,v142,v143,v144,v145,v146,v147,v148,v149,v150,v151,v152,v153,v154,v155,v156,v157,v158,v159,v160,v161,v162,v163,v164,v165,v166,v167,v168,v169,v170,v171,v172,v173,v174,v175,v176,v177,v178,v179,v180,v181,v182,v183,v184,v185,v186,v187,v188,v189,v190,v191,v192,v193,v194,v195,v196,v197,v198,v199,v200,v201,v202,v203,v204,v205,v206,v207,v208,v209,v210,v211,v212,v213,v214,v215,v216,v217,v218,v219,v220,v221,v222,v223,v224,v225,v226,v227,v228,v229,v230,v231,v232,v233,v234,v235,v236,v237,v238,v239,v240,v241,v242,v243,v244,v245,v246,v247,v248,v249,v250,v251,v252,v253,v254,v255,v256,v257,v258,v259,v260,v261,v262,v263,v264,v265,v266,v267,v268,v269,v270,v271,v272,v273,v274,v275,v276,v277,v278,v279,v280,v281,v282,u283,u284,u285,u286,u287,u288,u289,u290,u291,u292,u293,u294,u295,u296,u297,u298,u299,u300,u301,u302],[]⟩ w8):c.wp Try.prog Q ⟨#[u0,u1,.pointer (some ⟨P,0,none⟩),u3,u4,.slice A5 all.length c5,.slice A6 8 c6,u7,.int .i64 (at_:Int),u9,u10,u11,u12,u13,u14,u15,u16,u17,u18,u19,u20,u21,u22,u23,u24,u25,u26,u27,u28,u29,u30,u31,u32,u33,u34,u35,u36,u37,u38,u39,u40,u41,u42,u43,u44,u45,u46,u47,u48,u49,u50,u51,u52,u53,u54,u55,u56,u57,u58,u59,u60,u61,u62,u63,u64,u65,u66,u67,u68,u69,u70,u71,u72,u73,u74,u75,u76,u77,u78,u79,u80,u81,u82,u83,u84,u85,u86,u87,u88,u89,u90,u91,u92,u93,u94,u95,u96,u97,u98,u99,u100,u101,u102,u103,u104,u105,u106,u107,u108,u109,u110,u111,u112,u113,u114,u115,u116,u117,u118,u119,u120,u121,u122,u123,u124,u125,u126,u127,u128,u129,u130,u131,u132,u133,u134,u135,u136,u137,u138,u139,u140,u141,u142,u143,u144,u145,u146,u147,u148,u149,u150,u151,u152,u153,u154,u155,u156,u157,u158,u159,u160,u161,u162,u163,u164,u165,u166,u167,u168,u169,u170,u171,u172,u173,u174,u175,u176,u177,u178,u179,u180,u181,u182,u183,u184,u185,u186,u187,u188,u189,u190,u191,u192,u193,u194,u195,u196,u197,u198,u199,u200,u201,u202,u203,u204,u205,u206,u207,u208,u209,u210,u211,u212,u213,u214,u215,u216,u217,u218,u219,u220,u221,u222,u223,u224,u225,u226,u227,u228,u229,u230,u231,u232,u233,u234,u235,u236,u237,u238,u239,u240,u241,u242,u243,u244,u245,u246,u247,u248,u249,u250,u251,u252,u253,u254,u255,u256,u257,u258,u259,u260,u261,u262,u263,u264,u265,u266,u267,u268,u269,u270,u271,u272,u273,u274,u275,u276,u277,u278,u279,u280,u281,u282,u283,u284,u285,u286,u287,u288,u289,u290,u291,u292,u293,u294,u295,u296,u297,u298,u299,u300,u301,u302],[]⟩ Wm:=by
 simp [blkC,Try.f48] at hcode
 subst hcode
 have HQ:=Lib.hid hQ
 have HMB:=Lib.hid hmb
 have HPB:=Lib.hid hpb
 have HAL:=Lib.hid hal
 have HB:=Lib.hid hb
 have TB5:=Lib.hid htb
 have HHL:=Lib.hid hhl
 have HLT3:=Lib.hid hlt3
 have HSL:=Lib.hid hsl
 clear hQ hmb hpb hal hb htb hhl hlt3 hsl
 have fa:Fr noB Wm (Wm.alloc (.cells #[] 55)):=(Fr.refl noB Wm).alloc _
 have own0:OwnC codU Wm (Wm.alloc (.cells #[] 55)) (some ⟨Wm.heap.size,0,none⟩) 0 []:=World.ownsRow_lit (base:=Wm.heap.size) (e:=55) (size:=1) Wm #[] 0 (Nat.le_refl _) (by unfold maxLen;omega) (by simp)
 have H0:=Lib.hid (show ∃ (i:Nat) (A9:Option Addr) (c9:Nat) (l:List Nat),(Value.slice (some ⟨Wm.heap.size,0,none⟩) 0 0) = .slice A9 l.length c9 ∧ (Value.int .i64 ((0:Nat):Int)) = .int .i64 (i:Int) ∧ l = w16H all at_ i ∧ 16 = 16 - i ∧ i ≤ 16 ∧ OwnC codU Wm (Wm.alloc (.cells #[] 55)) A9 c9 l ∧ Lt32 l ∧ Fr noB Wm (Wm.alloc (.cells #[] 55)) from ⟨0,_,0,[],rfl,rfl,rfl,rfl,Nat.zero_le _,own0,Lt32.nil,fa⟩)
 clear fa own0
 go_wp2_with fail
 go_loopg [9,10] 16 (fun gk ov iv wr=>∃ (i:Nat) (A9:Option Addr) (c9:Nat) (l:List Nat),ov = .slice A9 l.length c9 ∧ iv = .int .i64 (i:Int) ∧ l = w16H all at_ i ∧ gk = 16 - i ∧ i ≤ 16 ∧ OwnC codU Wm wr A9 c9 l ∧ Lt32 l ∧ Fr noB Wm wr)
 case atStart=>exact H0.out
 case round =>
  clear H0
  obtain ⟨i,A9,c9,l,rfl,rfl,hl,rfl,hi,ho,hl32,hf⟩:=hrel
  have HO:=Lib.hid ho
  have HF3:=Lib.hid hf
  have HLE:=Lib.hid hl
  have HL32:=Lib.hid hl32
  have HLL:=Lib.hid (show l.length = i by rw [hl,w16H_len])
  clear ho hf hl hl32
  by_cases hlt:i < 16
  ·have i1:(i:Int) < 16:=by omega
   have HIL:=Lib.hid hlt
   have HAL1:=Lib.hid (HAL.out.fr0 HF3.out)
   clear hlt hi
   go_upto_block 5 with fail
   refine sumB5 wr _ rfl _ (by exact fun _ _ _ _ _ h=>hQp _ _ _ _ _ h) Wm A5 c5 at_ i c9 A9 all l HIL.out HMB.out HPB.out HAL1.out HLL.out HO.out HF3.out _ _ _ _ _ _ _ _ _ _ _ _ _ _ _ _ _ _ _ _ _ _ _ _ _ _ _ _ _ _ _ _ _ _ _ _ _ _ _ _ _ _ _ _ _ _ _ _ _ _ _ _ _ _ _ _ _ _ _ _ _ _ _ _ _ _ _ _ _ _ _ _ _ _ _ _ _ _ _ _ _ _ _ _ _ _ _ _ _ _ _ _ _ _ _ _ _ _ _ _ _ _ _ _ _ _ _ _ _ _ _ _ _ _ _ _ _ _ _ _ _ _ _ _ _ _ _ _ _ _ _ _ _ _ _ _ _ _ _ _ _ _ _ _ _ _ _ _ _ _ _ _ _ _ _ _ _ _ _ _ _ _ _ _ _ _ _ _ _ _ _ _ _ _ _ _ _ _ _ _ _ _ _ _ _ _ _ _ _ _ _ _ _ _ _ _ _ _ _ _ _ _ _ _ _ _ _ _ _ _ _ _ _ _ _ _ _ _ _ _ _ _ _ _ _ _ _ _ _ _ _ _ _ _ _ _ _ _ _ _ _ _ _ _ _ _ _ _ _ _ _ _ _ _ _ _ _ _ _ _ _ _ _ _ _ _ _ _ _ _ _ _ _ _ _ _ _ _ _ _ _ _ _ _ _ _ _ _ _ _ _ _ _ _ _ _ _ _ _ ?_
   intro v11 v54 v55 v56 v57 v58 v59 v60 v61 v62 v63 v64 v65 v66 v67 v68 v69 v70 v71 v72 v73 v74 v75 v76 v77 v78 v79 v80 v81 v82 v83 v84 v85 v86 v87 v88 v89 l8 A8 c8 w8 hl8 hlt8 ho8 F8
   have HL8:=Lib.hid hl8
   have HLT8:=Lib.hid hlt8
   clear hl8 hlt8
   go_upto_region 13 with fail
   go_wp2_with fail
   have wk:wrap64 ((i:Int) + 1) = (i:Int) + 1:=IntWalk.wrap64_in _ (by have:=HIL.out;omega)
   go_roundg (16 - (i + 1))
   case measure=>have:=HIL.out;omega
   case rel=>exact ⟨i + 1,A8,c8,l8,rfl,by first | exact congrArg (Value.int .i64) wk | simp,by rw [HL8.out,HLE.out,w16H],rfl,by have:=HIL.out;omega,ho8,by rw [HL8.out];exact HL32.out.snoc HLT8.out,F8⟩
  ·have i1:¬ (i:Int) < 16:=by omega
   obtain rfl:i = 16:=by omega
   have HW0:=Lib.hid (show exH 48 16 (w16H all at_ 16) = exH (64 - 16) 16 l by rw [HLE.out])
   have H0:=Lib.hid (show ∃ (i:Nat) (A2:Option Addr) (c2:Nat) (m:List Nat),(Value.slice A9 l.length c9) = .slice A2 m.length c2 ∧ (Value.int .i64 16) = .int .i64 (i:Int) ∧ 64 - 16 = 64 - i ∧ 16 ≤ i ∧ i ≤ 64 ∧ m.length = i ∧ exH 48 16 (w16H all at_ 16) = exH (64 - i) i m ∧ OwnC codU Wm wr A2 c2 m ∧ Lt32 m ∧ Fr noB Wm wr from ⟨16,A9,c9,l,rfl,rfl,rfl,Nat.le_refl _,by omega,HLL.out,HW0.out,HO.out,HL32.out,HF3.out⟩)
   clear hlt hi
   go_wp2_with fail
   go_loopg [9,12] (64 - 16) (fun gk ov iv wr=>∃ (i:Nat) (A2:Option Addr) (c2:Nat) (m:List Nat),ov = .slice A2 m.length c2 ∧ iv = .int .i64 (i:Int) ∧ gk = 64 - i ∧ 16 ≤ i ∧ i ≤ 64 ∧ m.length = i ∧ exH 48 16 (w16H all at_ 16) = exH (64 - i) i m ∧ OwnC codU Wm wr A2 c2 m ∧ Lt32 m ∧ Fr noB Wm wr)
   case atStart=>exact H0.out
   case round =>
    clear H0
    obtain ⟨i,A9,c9,l,rfl,rfl,rfl,hi1,hi,hll,hex,ho,hl32,hf⟩:=hrel
    have HO:=Lib.hid ho
    have HF3:=Lib.hid hf
    have HL32:=Lib.hid hl32
    have HLL:=Lib.hid hll
    have HEX:=Lib.hid hex
    clear ho hf hl32 hll hex
    by_cases hlt:i < 64
    ·have i1:(i:Int) < 64:=by omega
     have HIB:=Lib.hid (And.intro hi1 hlt)
     clear hlt hi hi1
     go_upto_block 7 with fail
     refine sumB7 wr _ rfl _ (by exact fun _ _ _ _ _ h=>hQp _ _ _ _ _ h) Wm i c9 A9 l HIB.out.1 HIB.out.2 HLL.out HO.out HL32.out HF3.out _ _ _ _ _ _ _ _ _ _ _ _ _ _ _ _ _ _ _ _ _ _ _ _ _ _ _ _ _ _ _ _ _ _ _ _ _ _ _ _ _ _ _ _ _ _ _ _ _ _ _ _ _ _ _ _ _ _ _ _ _ _ _ _ _ _ _ _ _ _ _ _ _ _ _ _ _ _ _ _ _ _ _ _ _ _ _ _ _ _ _ _ _ _ _ _ _ _ _ _ _ _ _ _ _ _ _ _ _ _ _ _ _ _ _ _ _ _ _ _ _ _ _ _ _ _ _ _ _ _ _ _ _ _ _ _ _ _ _ _ _ _ _ _ _ _ _ _ _ _ _ _ _ _ _ _ _ _ _ _ _ _ _ _ _ _ _ _ _ _ _ _ _ _ _ _ _ _ _ _ _ _ _ _ _ _ _ _ _ _ _ _ _ _ _ _ _ _ _ _ _ _ _ _ _ _ _ _ _ _ _ _ _ _ _ _ _ _ _ _ _ _ _ _ _ _ _ _ _ _ _ _ _ _ _ _ _ _ _ _ _ _ _ _ _ _ _ _ _ _ _ _ _ _ _ _ _ _ _ _ _ _ _ _ _ _ _ _ _ _ _ _ _ _ _ _ _ _ _ _ _ _ _ _ _ _ _ _ _ _ _ _ _ _ _ _ _ _ _ _ _ ?_
     intro v13 v14 v94 v95 v96 v97 v98 v99 v100 v101 v102 v103 v104 v105 v106 v107 v108 v109 v110 v111 v112 v113 v114 v115 v116 v117 v118 v119 v120 v121 v122 v123 v124 v125 v126 v127 v128 v129 v130 v131 v132 v133 v134 v135 v136 v137 v138 v139 v140 v141 v142 v143 v144 v145 v146 v147 v148 v149 v150 v151 l8 A8 c8 w8 hl8 hlt8 ho8 F8
     have HL8:=Lib.hid hl8
     have HLT8:=Lib.hid hlt8
     clear hl8 hlt8
     go_upto_region 18 with fail
     go_wp2_with fail
     have wk:wrap64 ((i:Int) + 1) = (i:Int) + 1:=IntWalk.wrap64_in _ (by have:=HIB.out;omega)
     go_roundg (64 - (i + 1))
     case measure=>have:=HIB.out;omega
     case rel=>exact ⟨i + 1,A8,c8,l8,rfl,by first | exact congrArg (Value.int .i64) wk | simp,rfl,by have:=HIB.out;omega,by have:=HIB.out;omega,by rw [HL8.out,List.length_append,HLL.out];rfl,by rw [HEX.out,HL8.out,exH_step HIB.out.2],ho8,HLT8.out,F8⟩
    ·have i1:¬ (i:Int) < 64:=by omega
     obtain rfl:i = 64:=by omega
     have HWS:=Lib.hid (show exH 48 16 (w16H all at_ 16) = l from HEX.out)
     obtain ⟨gh,oh,rfl,hgh,hch⟩:=cellU (HSL.out.fr0 HF3.out) (by rw [HHL.out];decide)
     obtain ⟨h0,h1,h2,h3,h4,h5,h6,h7,rfl⟩:=len8 HHL.out
     have c0:wr.cell? ⟨gh,oh,none⟩ = some (.int .u32 (h0:Int)):=hch 0 (by simp)
     have c1:wr.cell? ⟨gh,oh + 1,none⟩ = some (.int .u32 (h1:Int)):=hch 1 (by simp)
     have c2:wr.cell? ⟨gh,oh + 2,none⟩ = some (.int .u32 (h2:Int)):=hch 2 (by simp)
     have c3:wr.cell? ⟨gh,oh + 3,none⟩ = some (.int .u32 (h3:Int)):=hch 3 (by simp)
     have c4:wr.cell? ⟨gh,oh + 4,none⟩ = some (.int .u32 (h4:Int)):=hch 4 (by simp)
     have c5:wr.cell? ⟨gh,oh + 5,none⟩ = some (.int .u32 (h5:Int)):=hch 5 (by simp)
     have c6:wr.cell? ⟨gh,oh + 6,none⟩ = some (.int .u32 (h6:Int)):=hch 6 (by simp)
     have c7:wr.cell? ⟨gh,oh + 7,none⟩ = some (.int .u32 (h7:Int)):=hch 7 (by simp)
     clear hch hgh hlt hi1 hi
     go_upto_region 22 with fail
     go_quiet (fail)
     clear c0 c1 c2 c3 c4 c5 c6 c7
     have fq:Fr noB wr (wr.drewN nq):=(Fr.refl noB wr).drewN nq
     have HF3:=Lib.hid (HF3.out.step0 fq)
     have HO:=Lib.hid (own_new0 HO.out fq)
     clear fq
     generalize wr.drewN nq = wq at HF3 HO ⊢
     have HL8:Lt8 ⟨h0,h1,h2,h3,h4,h5,h6,h7⟩:=by
      have:=HLT3.out
      simp only [Lt32,List.mem_cons,List.not_mem_nil,or_false,forall_eq_or_imp,forall_eq] at this
      exact ⟨this.1,this.2.1,this.2.2.1,this.2.2.2.1,this.2.2.2.2.1,this.2.2.2.2.2.1,this.2.2.2.2.2.2.1,this.2.2.2.2.2.2.2⟩
     have H0:=Lib.hid (show ∃ (i:Nat) (s:S8H),Value.int .u32 (h0:Int) = .int .u32 (s.a:Int) ∧ Value.int .u32 (h1:Int) = .int .u32 (s.b:Int) ∧ Value.int .u32 (h2:Int) = .int .u32 (s.c:Int) ∧ Value.int .u32 (h3:Int) = .int .u32 (s.d:Int) ∧ Value.int .u32 (h4:Int) = .int .u32 (s.e:Int) ∧ Value.int .u32 (h5:Int) = .int .u32 (s.f:Int) ∧ Value.int .u32 (h6:Int) = .int .u32 (s.g:Int) ∧ Value.int .u32 (h7:Int) = .int .u32 (s.x:Int) ∧ Value.int .i64 ((0:Nat):Int) = .int .i64 (i:Int) ∧ 64 = 64 - i ∧ i ≤ 64 ∧ rsH 64 0 rdsH l ⟨h0,h1,h2,h3,h4,h5,h6,h7⟩ = rsH (64 - i) i rdsH l s ∧ Lt8 s ∧ Fr noB wq wq from ⟨0,⟨h0,h1,h2,h3,h4,h5,h6,h7⟩,rfl,rfl,rfl,rfl,rfl,rfl,rfl,rfl,rfl,rfl,by omega,rfl,HL8,Fr.refl noB wq⟩)
     clear HL8
     go_wp2_with fail
     go_loopg [15,16,17,18,19,20,21,22,23] 64 (fun gk va vb vc vd ve vf vg vx iv wr=>∃ (i:Nat) (s:S8H),va = .int .u32 (s.a:Int) ∧ vb = .int .u32 (s.b:Int) ∧ vc = .int .u32 (s.c:Int) ∧ vd = .int .u32 (s.d:Int) ∧ ve = .int .u32 (s.e:Int) ∧ vf = .int .u32 (s.f:Int) ∧ vg = .int .u32 (s.g:Int) ∧ vx = .int .u32 (s.x:Int) ∧ iv = .int .i64 (i:Int) ∧ gk = 64 - i ∧ i ≤ 64 ∧ rsH 64 0 rdsH l ⟨h0,h1,h2,h3,h4,h5,h6,h7⟩ = rsH (64 - i) i rdsH l s ∧ Lt8 s ∧ Fr noB wq wr)
     case atStart=>exact H0.out
     case round =>
      clear H0
      obtain ⟨i,s,rfl,rfl,rfl,rfl,rfl,rfl,rfl,rfl,rfl,rfl,hi,hrs,hl8,hf⟩:=hrel
      have HF7:=Lib.hid hf
      have HRS:=Lib.hid hrs
      clear hf hrs
      by_cases hlt:i < 64
      ·have i1:(i:Int) < 64:=by omega
       have HIL:=Lib.hid hlt
       obtain ⟨gk,ok,rfl,hgk,hck⟩:=cellU (HB.out.fr0 (HF3.out.step0 HF7.out)) (by decide)
       obtain ⟨gw,ow,rfl,hgw,hcw⟩:=cellU ((Sl.own HO.out).fr0 HF7.out) (by rw [HLL.out];decide)
       have c1:=hck i (by show i < 64;exact hlt)
       have c2:=hcw i (by rw [HLL.out];exact hlt)
       have c3:=tbAt1 (Cod.bxd_rd (Cod.bxd_fr0 (Cod.bxd_fr0 TB5.out HF3.out) HF7.out))
       have HKK:=Lib.hid (show rdsH.getD i 0 = rdsH[i] from getD_at (by show i < 64;exact hlt))
       have HWW:=Lib.hid (show l.getD i 0 = l[i]'(by rw [HLL.out];exact hlt) from getD_at (by rw [HLL.out];exact hlt))
       generalize rdsH[i]'(by show i < 64;exact hlt) = kk at c1 HKK
       generalize l[i]'(by rw [HLL.out];exact hlt) = ww at c2 HWW
       have j1:(i:Int) < (l.length:Int):=by rw [HLL.out];exact i1
       obtain ⟨z1,hz1⟩:∃ z:Nat,z = a32H s.d (t1H s kk ww):=⟨_,rfl⟩
       obtain ⟨z2,hz2⟩:∃ z:Nat,z = a32H (t1H s kk ww) (t2H s):=⟨_,rfl⟩
       have HZ:=Lib.hid (And.intro hz1 hz2)
       have HL8:=Lib.hid hl8
       have HB9:=Lib.hid (And.intro c1 (And.intro c2 (And.intro c3 (And.intro i1 j1))))
       clear hck hcw hgk hgw hlt hi hz1 hz2 c1 c2 c3 j1 hl8
       go_upto_block 9 with fail
       refine sumB9 wr _ rfl _ P gw ow c9 i gk ok tc td kk ww tA l s HB9.out.2.2.2.1 HL8.out HB9.out.2.2.2.2 HB9.out.1 HB9.out.2.1 HB9.out.2.2.1 z1 z2 HZ.out.1 HZ.out.2 _ _ _ _ _ _ _ _ _ _ _ _ _ _ _ _ _ _ _ _ _ _ _ _ _ _ _ _ _ _ _ _ _ _ _ _ _ _ _ _ _ _ _ _ _ _ _ _ _ _ _ _ _ _ _ _ _ _ _ _ _ _ _ _ _ _ _ _ _ _ _ _ _ _ _ _ _ _ _ _ _ _ _ _ _ _ _ _ _ _ _ _ _ _ _ _ _ _ _ _ _ _ _ _ _ _ _ _ _ _ _ _ _ _ _ _ _ _ _ _ _ _ _ _ _ _ _ _ _ _ _ _ _ _ _ _ _ _ _ _ _ _ _ _ _ _ _ _ _ _ _ _ _ _ _ _ _ _ _ _ _ _ _ _ _ _ _ _ _ _ _ _ _ _ _ _ _ _ _ _ _ _ _ _ _ _ _ _ _ _ _ _ _ _ _ _ _ _ _ _ _ _ _ _ _ _ _ _ _ _ _ _ _ _ _ _ _ _ _ _ _ _ _ _ _ _ _ _ _ _ _ _ _ _ _ _ _ _ _ _ _ _ _ _ _ _ _ _ _ _ _ _ _ _ _ _ _ _ _ _ _ _ _ _ _ _ _ _ _ _ _ _ _ _ _ _ _ _ _ _ _ _ _ _ _ _ _ _ _ _ _ _ ?_
       intro v24 v25 v180 v181 v182 v183 v184 v185 v186 v187 v188 v189 v190 v191 v192 v193 v194 v195 v196 v197 v198 v199 v200 v201 v202 v203 v204 v205 v206 v207 v208 v209 v210 v211 v212 v213 v214 v215 v216 v217 v218 v219 v220 v221 v222 v223 v224 v225 v226 v227 v228 v229 v230 v231 v232 v233 v234 v235 v236 v237 v238 v239 v240 v241 wq2 f2
       have HF8:=Lib.hid (HF7.out.step0 f2)
       clear f2
       go_upto_region 25 with fail
       go_wp2_with fail
       have wk:wrap64 ((i:Int) + 1) = (i:Int) + 1:=IntWalk.wrap64_in _ (by have:=HIL.out;omega)
       go_roundg (64 - (i + 1))
       case measure=>have:=HIL.out;omega
       case rel =>
        have hs:rdH s (rdsH.getD i 0) (l.getD i 0) = ⟨z2,s.a,s.b,s.c,z1,s.e,s.f,s.g⟩:=by
         unfold rdH
         rw [HKK.out,HWW.out,← HZ.out.1,← HZ.out.2]
        exact ⟨i + 1,⟨z2,s.a,s.b,s.c,z1,s.e,s.f,s.g⟩,rfl,rfl,rfl,rfl,rfl,rfl,rfl,rfl,by first | exact congrArg (Value.int .i64) wk | simp,rfl,by have:=HIL.out;omega,by rw [HRS.out,rsH_step HIL.out,hs],by rw [← hs];exact HL8.out.rd _ _,HF8.out⟩
      ·have i1:¬ (i:Int) < 64:=by omega
       obtain rfl:i = 64:=by omega
       have HS:=Lib.hid (show rsH 64 0 rdsH l ⟨h0,h1,h2,h3,h4,h5,h6,h7⟩ = s from HRS.out)
       clear hl8 hlt hi
       go_upto_region 29 with fail
       have fd:Fr noB wr wr.drew:=(Fr.refl noB wr).drew
       have fw:=((HF3.out.step0 HF7.out).step0 fd)
       have hF0:wr.drew.cell? ⟨gh,oh,none⟩ = some (.int .u32 (h0:Int)) ∧ wr.drew.cell? ⟨gh,oh + 1,none⟩ = some (.int .u32 (h1:Int)) ∧ wr.drew.cell? ⟨gh,oh + 2,none⟩ = some (.int .u32 (h2:Int)) ∧ wr.drew.cell? ⟨gh,oh + 3,none⟩ = some (.int .u32 (h3:Int)) ∧ wr.drew.cell? ⟨gh,oh + 4,none⟩ = some (.int .u32 (h4:Int)) ∧ wr.drew.cell? ⟨gh,oh + 5,none⟩ = some (.int .u32 (h5:Int)) ∧ wr.drew.cell? ⟨gh,oh + 6,none⟩ = some (.int .u32 (h6:Int)) ∧ wr.drew.cell? ⟨gh,oh + 7,none⟩ = some (.int .u32 (h7:Int)):=by
        have hch:∀ i (hi:i < [h0,h1,h2,h3,h4,h5,h6,h7].length),wr.drew.cell? ⟨gh,oh + i,none⟩ = some (.int .u32 (([h0,h1,h2,h3,h4,h5,h6,h7][i]:Nat):Int)):=fun i hi=>Sl.cell1 (C:=codU) rfl (HSL.out.fr0 fw) i hi rfl
        exact ⟨hch 0 (by simp),hch 1 (by simp),hch 2 (by simp),hch 3 (by simp),hch 4 (by simp),hch 5 (by simp),hch 6 (by simp),hch 7 (by simp)⟩
       obtain ⟨g0,hg0⟩:∃ z:Nat,z = a32H h0 s.a:=⟨_,rfl⟩
       obtain ⟨g1,hg1⟩:∃ z:Nat,z = a32H h1 s.b:=⟨_,rfl⟩
       obtain ⟨g2,hg2⟩:∃ z:Nat,z = a32H h2 s.c:=⟨_,rfl⟩
       obtain ⟨g3,hg3⟩:∃ z:Nat,z = a32H h3 s.d:=⟨_,rfl⟩
       obtain ⟨g4,hg4⟩:∃ z:Nat,z = a32H h4 s.e:=⟨_,rfl⟩
       obtain ⟨g5,hg5⟩:∃ z:Nat,z = a32H h5 s.f:=⟨_,rfl⟩
       obtain ⟨g6,hg6⟩:∃ z:Nat,z = a32H h6 s.g:=⟨_,rfl⟩
       obtain ⟨g7,hg7⟩:∃ z:Nat,z = a32H h7 s.x:=⟨_,rfl⟩
       have HGG:=Lib.hid (show bkH rdsH all at_ [h0,h1,h2,h3,h4,h5,h6,h7] = [g0,g1,g2,g3,g4,g5,g6,g7] by
        have e1:s8H [h0,h1,h2,h3,h4,h5,h6,h7] = ⟨h0,h1,h2,h3,h4,h5,h6,h7⟩:=rfl
        unfold bkH
        rw [HWS.out,e1,HS.out,hg0,hg1,hg2,hg3,hg4,hg5,hg6,hg7];rfl)
       have HLG:=Lib.hid (show Lt32 [g0,g1,g2,g3,g4,g5,g6,g7] by
        intro y hy
        simp only [List.mem_cons,List.not_mem_nil,or_false] at hy
        rcases hy with rfl | rfl | rfl | rfl | rfl | rfl | rfl | rfl
        ·rw [hg0];exact a32_lt _ _
        ·rw [hg1];exact a32_lt _ _
        ·rw [hg2];exact a32_lt _ _
        ·rw [hg3];exact a32_lt _ _
        ·rw [hg4];exact a32_lt _ _
        ·rw [hg5];exact a32_lt _ _
        ·rw [hg6];exact a32_lt _ _
        ·rw [hg7];exact a32_lt _ _)
       have u0:IntKind.u32.wrap ((h0:Int) + (s.a:Int)) = (g0:Int):=by rw [hg0];exact a32_int _ _
       have u1:IntKind.u32.wrap ((h1:Int) + (s.b:Int)) = (g1:Int):=by rw [hg1];exact a32_int _ _
       have u2:IntKind.u32.wrap ((h2:Int) + (s.c:Int)) = (g2:Int):=by rw [hg2];exact a32_int _ _
       have u3:IntKind.u32.wrap ((h3:Int) + (s.d:Int)) = (g3:Int):=by rw [hg3];exact a32_int _ _
       have u4:IntKind.u32.wrap ((h4:Int) + (s.e:Int)) = (g4:Int):=by rw [hg4];exact a32_int _ _
       have u5:IntKind.u32.wrap ((h5:Int) + (s.f:Int)) = (g5:Int):=by rw [hg5];exact a32_int _ _
       have u6:IntKind.u32.wrap ((h6:Int) + (s.g:Int)) = (g6:Int):=by rw [hg6];exact a32_int _ _
       have u7:IntKind.u32.wrap ((h7:Int) + (s.x:Int)) = (g7:Int):=by rw [hg7];exact a32_int _ _
       have HF9:=Lib.hid fw
       clear fd fw hg0 hg1 hg2 hg3 hg4 hg5 hg6 hg7
       obtain ⟨F,hFd⟩:∃ F:World → Prop,F = fun w'=>w'.cell? ⟨gh,oh,none⟩ = some (.int .u32 (h0:Int)) ∧ w'.cell? ⟨gh,oh + 1,none⟩ = some (.int .u32 (h1:Int)) ∧ w'.cell? ⟨gh,oh + 2,none⟩ = some (.int .u32 (h2:Int)) ∧ w'.cell? ⟨gh,oh + 3,none⟩ = some (.int .u32 (h3:Int)) ∧ w'.cell? ⟨gh,oh + 4,none⟩ = some (.int .u32 (h4:Int)) ∧ w'.cell? ⟨gh,oh + 5,none⟩ = some (.int .u32 (h5:Int)) ∧ w'.cell? ⟨gh,oh + 6,none⟩ = some (.int .u32 (h6:Int)) ∧ w'.cell? ⟨gh,oh + 7,none⟩ = some (.int .u32 (h7:Int)):=⟨_,rfl⟩
       replace hF0:F wr.drew:=by rw [hFd];exact hF0
       have q0:∀ i:Wd F,i.w.cell? ⟨gh,oh,none⟩ = some (.int .u32 (h0:Int)):=fun i=>(cast (congrFun hFd i.w) i.h).1
       have q1:∀ i:Wd F,i.w.cell? ⟨gh,oh + 1,none⟩ = some (.int .u32 (h1:Int)):=fun i=>(cast (congrFun hFd i.w) i.h).2.1
       have q2:∀ i:Wd F,i.w.cell? ⟨gh,oh + 2,none⟩ = some (.int .u32 (h2:Int)):=fun i=>(cast (congrFun hFd i.w) i.h).2.2.1
       have q3:∀ i:Wd F,i.w.cell? ⟨gh,oh + 3,none⟩ = some (.int .u32 (h3:Int)):=fun i=>(cast (congrFun hFd i.w) i.h).2.2.2.1
       have q4:∀ i:Wd F,i.w.cell? ⟨gh,oh + 4,none⟩ = some (.int .u32 (h4:Int)):=fun i=>(cast (congrFun hFd i.w) i.h).2.2.2.2.1
       have q5:∀ i:Wd F,i.w.cell? ⟨gh,oh + 5,none⟩ = some (.int .u32 (h5:Int)):=fun i=>(cast (congrFun hFd i.w) i.h).2.2.2.2.2.1
       have q6:∀ i:Wd F,i.w.cell? ⟨gh,oh + 6,none⟩ = some (.int .u32 (h6:Int)):=fun i=>(cast (congrFun hFd i.w) i.h).2.2.2.2.2.2.1
       have q7:∀ i:Wd F,i.w.cell? ⟨gh,oh + 7,none⟩ = some (.int .u32 (h7:Int)):=fun i=>(cast (congrFun hFd i.w) i.h).2.2.2.2.2.2.2
       clear hFd
       refine wp_region_M 40 42 [⟨7067388259113537318333190002971674063309935587502475832486424805170479104,64,0⟩,⟨14134776518227074636666380005943348126619871175004951664972849610340958208,7067388259113537318333190002971674063309935587502475832486424805170479104,1⟩,⟨28269553036454149273332760011886696253239742350009903329945699220681916416,14134776518227074636666380005943348126619871175004951664972849610340958208,2⟩,⟨56539106072908298546665520023773392506479484700019806659891398441363832832,32768,0⟩,⟨113078212145816597093331040047546785012958969400039613319782796882727665664,84808659109362447819998280035660088759719227050029709989837097662045749248,12⟩,⟨226156424291633194186662080095093570025917938800079226639565593765455331328,64,0⟩,⟨452312848583266388373324160190187140051835877600158453279131187530910662656,226156424291633194186662080095093570025917938800079226639565593765455331328,32⟩,⟨904625697166532776746648320380374280103671755200316906558262375061821325312,452312848583266388373324160190187140051835877600158453279131187530910662656,64⟩,⟨1809251394333065553493296640760748560207343510400633813116524750123642650624,65536,0⟩,⟨3618502788666131106986593281521497120414687020801267626233049500247285301248,2713877091499598330239944961141122840311015265600950719674787125185463975936,384⟩,⟨7237005577332262213973186563042994240829374041602535252466099000494570602496,64,0⟩,⟨14474011154664524427946373126085988481658748083205070504932198000989141204992,7237005577332262213973186563042994240829374041602535252466099000494570602496,1024⟩,⟨28948022309329048855892746252171976963317496166410141009864396001978282409984,14474011154664524427946373126085988481658748083205070504932198000989141204992,2048⟩,⟨57896044618658097711785492504343953926634992332820282019728792003956564819968,131072,0⟩,⟨115792089237316195423570985008687907853269984665640564039457584007913129639936,86844066927987146567678238756515930889952488499230423029593188005934847229952,12288⟩,⟨231584178474632390847141970017375815706539969331281128078915168015826259279872,64,0⟩,⟨463168356949264781694283940034751631413079938662562256157830336031652518559744,231584178474632390847141970017375815706539969331281128078915168015826259279872,32768⟩,⟨926336713898529563388567880069503262826159877325124512315660672063305037119488,463168356949264781694283940034751631413079938662562256157830336031652518559744,65536⟩,⟨1852673427797059126777135760139006525652319754650249024631321344126610074238976,262144,0⟩,⟨3705346855594118253554271520278013051304639509300498049262642688253220148477952,2779010141695588690165703640208509788478479631975373536946982016189915111358464,393216⟩,⟨7410693711188236507108543040556026102609279018600996098525285376506440296955904,64,0⟩,⟨14821387422376473014217086081112052205218558037201992197050570753012880593911808,7410693711188236507108543040556026102609279018600996098525285376506440296955904,1048576⟩,⟨29642774844752946028434172162224104410437116074403984394101141506025761187823616,14821387422376473014217086081112052205218558037201992197050570753012880593911808,2097152⟩,⟨59285549689505892056868344324448208820874232148807968788202283012051522375647232,524288,0⟩,⟨118571099379011784113736688648896417641748464297615937576404566024103044751294464,88928324534258838085302516486672313231311348223211953182303424518077283563470848,12582912⟩,⟨237142198758023568227473377297792835283496928595231875152809132048206089502588928,64,0⟩,⟨474284397516047136454946754595585670566993857190463750305618264096412179005177856,237142198758023568227473377297792835283496928595231875152809132048206089502588928,33554432⟩,⟨948568795032094272909893509191171341133987714380927500611236528192824358010355712,474284397516047136454946754595585670566993857190463750305618264096412179005177856,67108864⟩,⟨1897137590064188545819787018382342682267975428761855001222473056385648716020711424,1048576,0⟩,⟨3794275180128377091639574036764685364535950857523710002444946112771297432041422848,2845706385096282818729680527573514023401963143142782501833709584578473074031067136,402653184⟩,⟨7588550360256754183279148073529370729071901715047420004889892225542594864082845696,64,0⟩,⟨15177100720513508366558296147058741458143803430094840009779784451085189728165691392,7588550360256754183279148073529370729071901715047420004889892225542594864082845696,1073741824⟩,⟨30354201441027016733116592294117482916287606860189680019559568902170379456331382784,15177100720513508366558296147058741458143803430094840009779784451085189728165691392,2147483648⟩,⟨60708402882054033466233184588234965832575213720379360039119137804340758912662765568,2097152,0⟩,⟨121416805764108066932466369176469931665150427440758720078238275608681517825325531136,91062604323081050199349776882352448748862820580569040058678706706511138368994148352,12884901888⟩,⟨242833611528216133864932738352939863330300854881517440156476551217363035650651062272,64,0⟩,⟨485667223056432267729865476705879726660601709763034880312953102434726071301302124544,242833611528216133864932738352939863330300854881517440156476551217363035650651062272,34359738368⟩,⟨971334446112864535459730953411759453321203419526069760625906204869452142602604249088,485667223056432267729865476705879726660601709763034880312953102434726071301302124544,68719476736⟩,⟨1942668892225729070919461906823518906642406839052139521251812409738904285205208498176,4194304,0⟩,⟨3885337784451458141838923813647037813284813678104279042503624819477808570410416996352,2914003338338593606379192860235278359963610258578209281877718614608356427807812747264,412316860416⟩,⟨7770675568902916283677847627294075626569627356208558085007249638955617140820833992704,4010671261365599429893540175471350935002144868203999044861804987418390046975826329600,567489872400⟩,⟨64,7770675568902916283677847627294075626569627356208558085007249638955617140820833992704,2199023255551⟩] [(true,0),(true,1),(true,2),(true,3),(true,4),(true,5),(true,6),(true,7),(true,8),(true,9),(true,10),(true,11),(true,12),(true,13),(true,14),(true,15),(true,16),(true,17),(true,18),(true,19),(true,20),(true,21),(true,22),(true,23),(true,24),(true,25),(true,26),(true,27),(true,28),(true,29),(true,30),(true,31),(true,32),(true,33),(true,34),(true,35),(true,36),(true,37),(true,38),(true,39)] F (by kernel_rfl) rfl (by kernel_rfl) (by kernel_rfl) (by kernel_rfl) hF0 (fun hA hF=>?_)
       clear hF0
       generalize wr.drew = wd at hF HF9 ⊢
       have NE:=Wd.ne hF
       refine wpAnyS_takes (s2:=[]) (fuel:=2) (fun d v c a w h=>by cases d <;> exact hQp _ _ _ _ _ h) hF [0,1,2,3,4,5,6,7,8,9,10,11,12,13,14,15,16,17,18,19,20,21,22,23,24,25,26,27,28,29,30,31,32,33,34,35,36,37,38,39] hA ?_
       repeat (refine wpTakes_at (by rfl) (by rfl) ?_;go_big_quiet_step (fail);refine wpQuiet_nil ?_)
       refine wpTakes_nil ?_
       clear NE
       intro hA
       refine wpAnyS_end hA rfl ?_
       simp only [List.drop_succ_cons,List.drop_zero]
       clear hF q0 q1 q2 q3 q4 q5 q6 q7 u0 u1 u2 u3 u4 u5 u6 u7
       have fn:Fr noB wd (wd.alloc (.cells #[.int .u32 (g0:Int),.int .u32 (g1:Int),.int .u32 (g2:Int),.int .u32 (g3:Int),.int .u32 (g4:Int),.int .u32 (g5:Int),.int .u32 (g6:Int),.int .u32 (g7:Int)] 55)):=(Fr.refl noB wd).alloc _
       have HN:=Lib.hid (show Sl (wd.alloc (.cells #[.int .u32 (g0:Int),.int .u32 (g1:Int),.int .u32 (g2:Int),.int .u32 (g3:Int),.int .u32 (g4:Int),.int .u32 (g5:Int),.int .u32 (g6:Int),.int .u32 (g7:Int)] 55)) (some ⟨wd.heap.size,0,none⟩) (codU.row [g0,g1,g2,g3,g4,g5,g6,g7]) from Sl.new wd 55 [.int .u32 (g0:Int),.int .u32 (g1:Int),.int .u32 (g2:Int),.int .u32 (g3:Int),.int .u32 (g4:Int),.int .u32 (g5:Int),.int .u32 (g6:Int),.int .u32 (g7:Int)])
       have HF9:=Lib.hid (HF9.out.step0 fn)
       clear fn
       go_wp2_with fail
       exact HQ.out _ _ _ _ _ _ _ _ _ _ _ _ _ _ _ _ _ _ _ _ _ _ _ _ _ _ _ _ _ _ _ _ _ _ _ _ _ _ _ _ _ _ _ _ _ _ _ _ _ _ _ _ _ _ _ _ _ _ _ _ _ _ _ _ _ _ _ _ _ _ _ _ _ _ _ _ _ _ _ _ _ _ _ _ _ _ _ _ _ _ _ _ _ _ _ _ _ _ _ _ _ _ _ _ _ _ _ _ _ _ _ _ _ _ _ _ _ _ _ _ _ _ _ _ _ _ _ _ _ _ _ _ _ _ _ _ _ _ _ _ _ _ _ _ _ _ _ _ _ _ _ _ _ _ _ _ _ _ _ _ _ _ _ _ _ _ _ _ _ _ _ _ _ _ _ _ _ _ _ _ _ _ _ _ _ _ _ _ _ _ _ _ _ _ _ _ _ _ _ _ _ _ _ _ _ _ _ _ _ _ _ _ _ _ _ _ _ _ _ _ _ _ _ _ _ _ _ _ _ _ _ _ _ _ _ _ _ _ _ _ _ _ _ _ _ _ _ _ _ _ _ [g0,g1,g2,g3,g4,g5,g6,g7] _ _ _ HGG.out.symm rfl HLG.out HN.out HF9.out
end Go.Proofs.Ytahllkifmmjbdaa
