/- Contract: pollardref01 Sum. -/
import Derived.Test.YtahllkifmmjbdaaShaTKp
import Derived.Deep.CutBlock
set_option linter.unusedVariables false
set_option linter.unusedSimpArgs false
namespace Go.Proofs.Ytahllkifmmjbdaa
open Go.RowKit Go.Maps Go.Sort
set_option maxRecDepth 100000 in
set_option maxHeartbeats 40000000 in
theorem sum_any (w:World) (t:TbW) (hf:t.n = 8) (hr:t.m = 64) (hA:Sl w t.A (codU.row fstH)) (hB:Sl w t.B (codU.row rdsH)) (A:Option Addr) (c n:Nat) (b:List UInt8) (hn:b.length = n) (hs:Sl w A (bv b)) (hb:b.length ≤ 1000000000000) :
  Calls Try.prog 48 #[.agg (codTb.A t),.slice A n c] w (SmTo w b):=by
 obtain ⟨tA,tn,tc,tB,tm,td⟩:=t
 subst hf
 subst hr
 have f0:Fr noB w (w.alloc (.cells (codTb.A ⟨tA,8,tc,tB,64,td⟩) 92)):=(Fr.refl noB w).alloc _
 have b0:codTb.bxd (w.alloc (.cells (codTb.A ⟨tA,8,tc,tB,64,td⟩) 92)) w.heap.size = some ⟨tA,8,tc,tB,64,td⟩:=Cod.bxd_box (C:=codTb) w _
 generalize hw0:w.alloc (.cells (codTb.A ⟨tA,8,tc,tB,64,td⟩) 92) = w0 at f0 b0
 have HZ:=Lib.hid (show w0.heap.size = w.heap.size + 1 by rw [← hw0];simp)
 have HW0:=Lib.hid hw0
 have HA:=Lib.hid hA
 have HB:=Lib.hid hB
 have HBB:=Lib.hid hb
 have f1:Fr noB w0 (w0.alloc (aro zID)):=(Fr.refl noB w0).alloc _
 have b2:=Cod.bxd_fr0 b0 f1
 have F1:=Lib.hid (f0.step0 f1)
 have BK:=Lib.hid (blocked_any (w0.alloc (aro zID)) A c n b hn ((hs.fr0 f0).fr0 f1) hb)
 clear hA hB hs hn hb f0 b0 hw0 f1
 go_enter Try.func48,Try.ntmps48
 go_upto_region 1 with fail
 rw [HW0.out,← HZ.out]
 have hU0:bxA (w0.alloc (aro zID)) w0.heap.size = some zID:=bxA_new w0 zID
 have HPU:=Lib.hid (show w.heap.size < w0.heap.size by rw [HZ.out];omega)
 generalize w0.alloc (aro zID) = w1 at b2 F1 BK hU0 ⊢
 generalize w0.heap.size = R at hU0 HPU ⊢
 have HPW:=Lib.hid (show w.heap.size ≤ R by have:=HPU.out;omega)
 generalize w.heap.size = P at b2 HPU ⊢
 have TB:=Lib.hid b2
 have HU:=Lib.hid hU0
 clear b2 hU0 HW0 HZ
 go_upto_region 2 with (go_at_call 70;refine BK.out.mono ?_;rintro e w2 ⟨A5,c5,rfl,o5,f5⟩)
 have F5:=Lib.hid (F1.out.step0 f5)
 have HAL:=Lib.hid (Sl.own o5:Sl w2 A5 (codY.row (padH b)))
 have TB5:=Lib.hid (Cod.bxd_fr0 TB.out f5)
 have HU5:=Lib.hid (bxA_fr0 HU.out f5)
 have HPB:=Lib.hid (show (padH b).length % 64 = 0 ∧ (padH b).length ≤ 1000000000100 by
  refine ⟨padH_len b,?_⟩
  unfold padH
  rw [List.length_append,List.length_append,be8H_len,List.length_cons,List.length_replicate]
  have:=HBB.out
  omega)
 obtain ⟨res,hres⟩:∃ r,r = nameH b:=⟨_,rfl⟩
 have HRN:=Lib.hid hres
 have HRES:=Lib.hid (hres.trans (nameH_eq b))
 clear hres
 generalize padH b = all at HAL HPB HRES ⊢
 clear o5 f5 BK
 have fa:Fr noB w2 (w2.alloc (.cells #[] 55)):=(Fr.refl noB w2).alloc _
 have own0:OwnC codU w2 (w2.alloc (.cells #[] 55)) (some ⟨w2.heap.size,0,none⟩) 0 []:=World.ownsRow_lit (base:=w2.heap.size) (e:=55) (size:=1) w2 #[] 0 (Nat.le_refl _) (by unfold maxLen;omega) (by simp)
 have H0:=Lib.hid (show ∃ (k:Nat) (A1:Option Addr) (c1:Nat) (l:List Nat),(Value.slice (some ⟨w2.heap.size,0,none⟩) 0 0) = .slice A1 l.length c1 ∧ (Value.int .i64 ((0:Nat):Int)) = .int .i64 (k:Int) ∧ l = fstH.take k ∧ 8 = 8 - k ∧ k ≤ 8 ∧ OwnC codU w2 (w2.alloc (.cells #[] 55)) A1 c1 l ∧ Fr noB w2 (w2.alloc (.cells #[] 55)) from ⟨0,_,0,[],rfl,rfl,rfl,rfl,Nat.zero_le _,own0,fa⟩)
 clear fa own0
 go_wp2_with fail
 go_loopg [6,7] 8 (fun gk ov kv wr=>∃ (k:Nat) (A1:Option Addr) (c1:Nat) (l:List Nat),ov = .slice A1 l.length c1 ∧ kv = .int .i64 (k:Int) ∧ l = fstH.take k ∧ gk = 8 - k ∧ k ≤ 8 ∧ OwnC codU w2 wr A1 c1 l ∧ Fr noB w2 wr)
 case atStart=>exact H0.out
 case round =>
  clear H0
  obtain ⟨k,A1,c1,l,rfl,rfl,hl,rfl,hk,ho,hf⟩:=hrel
  have HO:=Lib.hid ho
  have HF:=Lib.hid hf
  have HLL:=Lib.hid (show l.length ≤ 8 by rw [hl,List.length_take];omega)
  have HLE:=Lib.hid hl
  clear ho hf hl
  by_cases hlt:k < 8
  ·have i1:(k:Int) < 8:=by omega
   have i0:(0:Int) ≤ (k:Int):=by omega
   obtain ⟨g,off,rfl,hg,hc⟩:=cellU (HA.out.fr0 (F5.out.step0 HF.out)) (by decide)
   have e3:=hc k hlt
   have qr:=tbAt (Cod.bxd_rd (Cod.bxd_fr0 TB5.out HF.out))
   have HTK:=Lib.hid (show fstH.take (k + 1) = fstH.take k ++ [fstH[k]] from List.take_succ_eq_append_getElem hlt)
   have hlx:=lt_fst.get hlt
   generalize fstH[k] = x at e3 HTK hlx
   have hst:Sl (wr.alloc (.cells #[.int .u32 (x:Int)] 55)) (some ⟨wr.heap.size,0,none⟩) (codU.row [x]):=Sl.new wr 55 [.int .u32 (x:Int)]
   have fn:Fr noB wr (wr.alloc (.cells #[.int .u32 (x:Int)] 55)):=(Fr.refl noB wr).alloc _
   have hox:=Lib.hid (own_new0 HO.out fn)
   have sz:=(HF.out.step0 fn).size
   have FX:=Lib.hid (HF.out.step0 fn)
   have HKL:=Lib.hid hlt
   clear fn hg hc hlt hk hlx
   go_wp2_with (at_builtin;refine wpList_appC' etU w2 _ rfl _ _ rfl A1 l.length c1 l rfl rfl hox.out (some ⟨wr.heap.size,0,none⟩) 1 1 [x] rfl hst rfl (by have:=HLL.out;simp;omega) sz ?_;intro A8 c8 w8 hc8 hmx8 ho8 hg8 hA8;obtain ⟨l8,hl8⟩:∃ t,t = l ++ [x]:=⟨_,rfl⟩;rw [← hl8] at ho8 ⊢;have HL8:=Lib.hid hl8;clear hl8 hc8 hmx8 hA8)
   have F8:=Fr.own' FX.out hox.out hg8
   have wk:wrap64 ((k:Int) + 1) = (k:Int) + 1:=IntWalk.wrap64_in _ (by have:=HKL.out;omega)
   go_roundg (8 - (k + 1))
   case measure=>have:=HKL.out;omega
   case rel=>exact ⟨k + 1,A8,c8,l8,rfl,by first | exact congrArg (Value.int .i64) wk | simp,by rw [HL8.out,HLE.out,HTK.out],rfl,by have:=HKL.out;omega,ho8,F8⟩
  ·have i1:¬ (k:Int) < 8:=by omega
   have hlf:l = fstH:=by rw [HLE.out,List.take_of_length_le (by show 8 ≤ k;omega)]
   have hso:=Sl.own HO.out
   rw [hlf] at hso
   have HSO:=Lib.hid hso
   have HLF:=Lib.hid (show l.length = 8 by rw [hlf];rfl)
   obtain ⟨NB,hNB⟩:∃ N,N = all.length / 64:=⟨_,rfl⟩
   have HNB:=Lib.hid (show all.length = 64 * NB by have:=HPB.out.1;omega)
   have HRES:=Lib.hid (show res = ⟨outH (bksH rdsH all NB 0 fstH) 32,outH_len _ 32⟩ by rw [HRES.out,hNB])
   have H0:=Lib.hid (show ∃ (m:Nat) (A6:Option Addr) (c6:Nat) (h:List Nat),(Value.slice A1 l.length c1) = .slice A6 8 c6 ∧ (Value.int .i64 ((0:Nat):Int)) = .int .i64 (m * 64:Nat) ∧ NB = NB - m ∧ m ≤ NB ∧ bksH rdsH all NB 0 fstH = bksH rdsH all (NB - m) (64 * m) h ∧ h.length = 8 ∧ Lt32 h ∧ Sl wr A6 (codU.row h) ∧ Fr noB w2 wr from ⟨0,A1,c1,fstH,by rw [HLF.out],rfl,rfl,Nat.zero_le _,by rw [Nat.sub_zero,Nat.mul_zero],rfl,lt_fst,HSO.out,HF.out⟩)
   clear hlf hso hNB hk hlt
   go_wp2_with fail
   go_loopg [6,8] NB (fun gk hv av wr=>∃ (m:Nat) (A6:Option Addr) (c6:Nat) (h:List Nat),hv = .slice A6 8 c6 ∧ av = .int .i64 (m * 64:Nat) ∧ gk = NB - m ∧ m ≤ NB ∧ bksH rdsH all NB 0 fstH = bksH rdsH all (NB - m) (64 * m) h ∧ h.length = 8 ∧ Lt32 h ∧ Sl wr A6 (codU.row h) ∧ Fr noB w2 wr)
   case atStart=>exact H0.out
   case round =>
    clear H0
    obtain ⟨m,A6,c6,h,rfl,rfl,rfl,hm,hbk,hhl,hlt32,hsl,hf⟩:=hrel
    have HBK:=Lib.hid hbk
    have HHL:=Lib.hid hhl
    have HLT3:=Lib.hid hlt32
    have HSL:=Lib.hid hsl
    have HF2:=Lib.hid hf
    clear hbk hhl hlt32 hsl hf
    obtain ⟨at_,hat⟩:∃ a,a = m * 64:=⟨_,rfl⟩
    rw [← hat]
    have HAT:=Lib.hid hat
    clear hat
    by_cases hlt:m < NB
    ·have i1:(at_:Int) < (all.length:Int):=by have:=HNB.out;have:=HAT.out;omega
     have HMB:=Lib.hid (show at_ + 64 ≤ all.length by have:=HNB.out;have:=HAT.out;omega)
     have HML:=Lib.hid hlt
     clear hlt hm
     have HSL0:=Lib.hid HSL.out
     go_upto_block 3 with fail
     refine sumB3 wr _ rfl _ (by exact fun _ _ _ _ _ h=>h) P tc td tA tB A5 A6 c5 c6 at_ all h HMB.out HPB.out.2 (HAL.out.fr0 HF2.out) (HB.out.fr0 (F5.out.step0 HF2.out)) (Cod.bxd_fr0 TB5.out HF2.out) HHL.out HLT3.out HSL.out _ _ _ _ _ _ _ _ _ _ _ _ _ _ _ _ _ _ _ _ _ _ _ _ _ _ _ _ _ _ _ _ _ _ _ _ _ _ _ _ _ _ _ _ _ _ _ _ _ _ _ _ _ _ _ _ _ _ _ _ _ _ _ _ _ _ _ _ _ _ _ _ _ _ _ _ _ _ _ _ _ _ _ _ _ _ _ _ _ _ _ _ _ _ _ _ _ _ _ _ _ _ _ _ _ _ _ _ _ _ _ _ _ _ _ _ _ _ _ _ _ _ _ _ _ _ _ _ _ _ _ _ _ _ _ _ _ _ _ _ _ _ _ _ _ _ _ _ _ _ _ _ _ _ _ _ _ _ _ _ _ _ _ _ _ _ _ _ _ _ _ _ _ _ _ _ _ _ _ _ _ _ _ _ _ _ _ _ _ _ _ _ _ _ _ _ _ _ _ _ _ _ _ _ _ _ _ _ _ _ _ _ _ _ _ _ _ _ _ _ _ _ _ _ _ _ _ _ _ _ _ _ _ _ _ _ _ _ _ _ _ _ _ _ _ _ _ _ _ _ _ _ _ _ _ _ _ _ _ _ _ _ _ _ _ _ _ _ _ _ _ _ _ _ _ _ _ _ _ _ _ _ _ _ _ _ _ _ _ _ _ _ _ _ _ _ _ _ _ ?_
     intro v9 v10 v11 v12 v13 v14 v15 v16 v17 v18 v19 v20 v21 v22 v23 v24 v25 v49 v50 v51 v52 v53 v54 v55 v56 v57 v58 v59 v60 v61 v62 v63 v64 v65 v66 v67 v68 v69 v70 v71 v72 v73 v74 v75 v76 v77 v78 v79 v80 v81 v82 v83 v84 v85 v86 v87 v88 v89 v90 v91 v92 v93 v94 v95 v96 v97 v98 v99 v100 v101 v102 v103 v104 v105 v106 v107 v108 v109 v110 v111 v112 v113 v114 v115 v116 v117 v118 v119 v120 v121 v122 v123 v124 v125 v126 v127 v128 v129 v130 v131 v132 v133 v134 v135 v136 v137 v138 v139 v140 v141 v142 v143 v144 v145 v146 v147 v148 v149 v150 v151 v152 v153 v154 v155 v156 v157 v158 v159 v160 v161 v162 v163 v164 v165 v166 v167 v168 v169 v170 v171 v172 v173 v174 v175 v176 v177 v178 v179 v180 v181 v182 v183 v184 v185 v186 v187 v188 v189 v190 v191 v192 v193 v194 v195 v196 v197 v198 v199 v200 v201 v202 v203 v204 v205 v206 v207 v208 v209 v210 v211 v212 v213 v214 v215 v216 v217 v218 v219 v220 v221 v222 v223 v224 v225 v226 v227 v228 v229 v230 v231 v232 v233 v234 v235 v236 v237 v238 v239 v240 v241 v242 v243 v244 v245 v246 v247 v248 v249 v250 v251 v252 v253 v254 v255 v256 v257 v258 v259 v260 v261 v262 v263 v264 v265 v266 v267 v268 v269 v270 v271 v272 v273 v274 v275 v276 v277 v278 v279 v280 v281 v282 h8 A8 c8 w8 hh8 hl8 hlt8 hs8 F8
     have HGG:=Lib.hid hh8
     have HL8:=Lib.hid hl8
     have HLT8:=Lib.hid hlt8
     have HN:=Lib.hid hs8
     have HF9:=Lib.hid (HF2.out.step0 F8)
     clear hh8 hl8 hlt8 hs8 F8
     go_upto_region 9 with fail
     have wk:wrap64 ((at_:Int) + 64) = (at_:Int) + 64:=IntWalk.wrap64_in _ (by have:=HMB.out;have:=HPB.out.2;omega)
     go_wp2_with fail
     go_roundg (NB - (m + 1))
     case measure=>have:=HML.out;omega
     case rel=>exact ⟨m + 1,_,_,h8,rfl,by rw [HAT.out] at *;first | exact congrArg (Value.int .i64) (by rw [wk];omega) | (simp;omega),rfl,by have:=HML.out;omega,by rw [HBK.out,bksH_step _ _ _ _ _ HML.out,show 64 * m = at_ by rw [HAT.out];omega,HGG.out],HL8.out,HLT8.out,HN.out,HF9.out⟩
    ·have i1:¬ (at_:Int) < (all.length:Int):=by have:=HNB.out;have:=HAT.out;omega
     obtain rfl:m = NB:=by omega
     have HFIN:=Lib.hid (show res = ⟨outH h 32,outH_len _ 32⟩ by
      rw [HRES.out]
      refine Subtype.ext ?_
      show outH (bksH rdsH all m 0 fstH) 32 = outH h 32
      rw [HBK.out,Nat.sub_self];rfl)
     have F2:=Lib.hid (F5.out.step0 HF2.out)
     have HU2:=Lib.hid (bxA_fr0 HU5.out HF2.out)
     clear hlt hm
     obtain ⟨pf1,pf2,bz⟩:=putC_fr (bxA_new wr zID) zID
     have fz:Fr noB wr (putC (wr.alloc (aro zID)) wr.heap.size zID):=((Fr.refl noB wr).alloc (aro zID)).step1 pf1 (Nat.le_refl _)
     clear pf1 pf2
     have HU3:=Lib.hid (bxA_fr0 HU2.out fz)
     have F3:=Lib.hid (F2.out.step0 fz)
     have HS3:=Lib.hid (HSL.out.fr0 fz)
     have HRB:=Lib.hid (show R < wr.heap.size from bxA_lt HU2.out)
     have HSB:=Lib.hid (show ∃ g o,A6 = some ⟨g,o,none⟩ ∧ g < wr.heap.size ∧ True from by
      obtain ⟨g,o,e,hg,_⟩:=cellU HSL.out (by rw [HHL.out];decide)
      exact ⟨g,o,e,hg,trivial⟩)
     go_upto_region 31 with fail
     generalize hwz:putC (wr.alloc (aro zID)) wr.heap.size zID = wz at bz HU3 F3 HS3 ⊢
     generalize wr.heap.size = B at bz HRB HSB ⊢
     have H0:=Lib.hid (show ∃ (i:Nat) (x:ID),Value.int .i64 ((0:Nat):Int) = .int .i64 (i:Int) ∧ 32 = 32 - i ∧ i ≤ 32 ∧ x.1.take i = outH h i ∧ bxA wz B = some x ∧ Fr (oneB B) wz wz from ⟨0,zID,rfl,rfl,by omega,rfl,bz,Fr.refl _ _⟩)
     clear bz fz hwz
     go_wp2_with fail
     go_loopg [27] 32 (fun gk iv wr=>∃ (i:Nat) (x:ID),iv = .int .i64 (i:Int) ∧ gk = 32 - i ∧ i ≤ 32 ∧ x.1.take i = outH h i ∧ bxA wr B = some x ∧ Fr (oneB B) wz wr)
     case atStart=>exact H0.out
     case round =>
      clear H0
      obtain ⟨i,x,rfl,rfl,hi,hx,hb,hf⟩:=hrel
      have HX:=Lib.hid hx
      have HBX:=Lib.hid hb
      have HFX:=Lib.hid hf
      clear hx hb hf
      by_cases hlt:i < 32
      ·have i1:(i:Int) < 32:=by omega
       have i0:(0:Int) ≤ (i:Int):=by omega
       obtain ⟨q,r,hqr,hr⟩:∃ q r,i = 4 * q + r ∧ r < 4:=⟨i / 4,i % 4,by omega,by omega⟩
       have d1:(i:Int) / 4 = (q:Int):=by omega
       have d2:(i:Int) % 4 = (r:Int):=by omega
       have HQ:=Lib.hid (And.intro hqr hr)
       have HLT:=Lib.hid hlt
       obtain ⟨gh,oh,rfl,hgh,hch⟩:=cellU (HS3.out.fr HFX.out (fun a ha e=>by
        obtain ⟨g',o',rfl,hg',_⟩:=HSB.out
        injection ha with ha
        subst ha
        have e:g' = B:=e
        omega)) (by rw [HHL.out];decide)
       have c1:=hch q (by rw [HHL.out];omega)
       have q1:(q:Int) < 8:=by omega
       have q0:(0:Int) ≤ (q:Int):=by omega
       have HQH:=Lib.hid (show h.getD q 0 = h[q]'(by rw [HHL.out];omega) from getD_at (by rw [HHL.out];omega))
       generalize h[q]'(by rw [HHL.out];omega) = hq at c1 HQH
       clear hch hgh hqr hlt hi
       obtain rfl | rfl | rfl | rfl:r = 0 ∨ r = 1 ∨ r = 2 ∨ r = 3:=by omega
       ·clear hr
        have hbk:=bxA_blk HBX.out
        have k1:wr.cell? ⟨B,i,none⟩ = some (.int .u8 ((x.1[i]'(by rw [x.2];exact HLT.out)).toNat:Int)):=by rw [hbk.cell];exact bv_get _ _ _
        have k2:=hbk.frozen i
        obtain ⟨y,hy⟩:∃ y,y = btH h i:=⟨_,rfl⟩
        have hyv:(hq:Int) / 16777216 % 256 = (y.toNat:Int):=by
         rw [hy]
         unfold btH
         rw [show i / 4 = q by have:=HQ.out;omega,show i % 4 = 0 by have:=HQ.out;omega,HQH.out,UInt8.toNat_ofNat']
         omega
        have HY:=Lib.hid hy
        obtain ⟨x',hx'⟩:∃ x':ID,x'.1 = x.1.set i y:=⟨⟨x.1.set i y,by rw [List.length_set];exact x.2⟩,rfl⟩
        have HSET:=Lib.hid (bxA_set HBX.out i y x' hx')
        have HXX:=Lib.hid hx'
        have HFN:=Lib.hid (HFX.out.trans (Fr.setCell (M:=oneB B) (Fr.refl _ wr) (p:=⟨B,i,none⟩) (fun _=>rfl) (.int .u8 (y.toNat:Int))) (fun _ _ h=>h))
        clear hbk hy hx'
        go_upto_region 33 with fail
        rw [hyv]
        clear hyv k1 k2 c1 d1 d2 q1 q0
        generalize wr.setCell ⟨B,i,none⟩ (.int .u8 (y.toNat:Int)) = ws at HSET HFN ⊢
        have wk:wrap64 ((i:Int) + 1) = (i:Int) + 1:=IntWalk.wrap64_in _ (by have:=HLT.out;omega)
        go_wp2_with fail
        go_roundg (32 - (i + 1))
        case measure=>have:=HLT.out;omega
        case rel=>exact ⟨i + 1,_,by first | exact congrArg (Value.int .i64) wk | simp,rfl,by have:=HLT.out;omega,by
         rw [outH,← HX.out,← HY.out,HXX.out]
         exact take_set (by rw [x.2];exact HLT.out),HSET.out,HFN.out⟩
       ·clear hr
        have hbk:=bxA_blk HBX.out
        have k1:wr.cell? ⟨B,i,none⟩ = some (.int .u8 ((x.1[i]'(by rw [x.2];exact HLT.out)).toNat:Int)):=by rw [hbk.cell];exact bv_get _ _ _
        have k2:=hbk.frozen i
        obtain ⟨y,hy⟩:∃ y,y = btH h i:=⟨_,rfl⟩
        have hyv:(hq:Int) / 65536 % 256 = (y.toNat:Int):=by
         rw [hy]
         unfold btH
         rw [show i / 4 = q by have:=HQ.out;omega,show i % 4 = 1 by have:=HQ.out;omega,HQH.out,UInt8.toNat_ofNat']
         omega
        have HY:=Lib.hid hy
        obtain ⟨x',hx'⟩:∃ x':ID,x'.1 = x.1.set i y:=⟨⟨x.1.set i y,by rw [List.length_set];exact x.2⟩,rfl⟩
        have HSET:=Lib.hid (bxA_set HBX.out i y x' hx')
        have HXX:=Lib.hid hx'
        have HFN:=Lib.hid (HFX.out.trans (Fr.setCell (M:=oneB B) (Fr.refl _ wr) (p:=⟨B,i,none⟩) (fun _=>rfl) (.int .u8 (y.toNat:Int))) (fun _ _ h=>h))
        clear hbk hy hx'
        go_upto_region 33 with fail
        rw [hyv]
        clear hyv k1 k2 c1 d1 d2 q1 q0
        generalize wr.setCell ⟨B,i,none⟩ (.int .u8 (y.toNat:Int)) = ws at HSET HFN ⊢
        have wk:wrap64 ((i:Int) + 1) = (i:Int) + 1:=IntWalk.wrap64_in _ (by have:=HLT.out;omega)
        go_wp2_with fail
        go_roundg (32 - (i + 1))
        case measure=>have:=HLT.out;omega
        case rel=>exact ⟨i + 1,_,by first | exact congrArg (Value.int .i64) wk | simp,rfl,by have:=HLT.out;omega,by
         rw [outH,← HX.out,← HY.out,HXX.out]
         exact take_set (by rw [x.2];exact HLT.out),HSET.out,HFN.out⟩
       ·clear hr
        have hbk:=bxA_blk HBX.out
        have k1:wr.cell? ⟨B,i,none⟩ = some (.int .u8 ((x.1[i]'(by rw [x.2];exact HLT.out)).toNat:Int)):=by rw [hbk.cell];exact bv_get _ _ _
        have k2:=hbk.frozen i
        obtain ⟨y,hy⟩:∃ y,y = btH h i:=⟨_,rfl⟩
        have hyv:(hq:Int) / 256 % 256 = (y.toNat:Int):=by
         rw [hy]
         unfold btH
         rw [show i / 4 = q by have:=HQ.out;omega,show i % 4 = 2 by have:=HQ.out;omega,HQH.out,UInt8.toNat_ofNat']
         omega
        have HY:=Lib.hid hy
        obtain ⟨x',hx'⟩:∃ x':ID,x'.1 = x.1.set i y:=⟨⟨x.1.set i y,by rw [List.length_set];exact x.2⟩,rfl⟩
        have HSET:=Lib.hid (bxA_set HBX.out i y x' hx')
        have HXX:=Lib.hid hx'
        have HFN:=Lib.hid (HFX.out.trans (Fr.setCell (M:=oneB B) (Fr.refl _ wr) (p:=⟨B,i,none⟩) (fun _=>rfl) (.int .u8 (y.toNat:Int))) (fun _ _ h=>h))
        clear hbk hy hx'
        go_upto_region 33 with fail
        rw [hyv]
        clear hyv k1 k2 c1 d1 d2 q1 q0
        generalize wr.setCell ⟨B,i,none⟩ (.int .u8 (y.toNat:Int)) = ws at HSET HFN ⊢
        have wk:wrap64 ((i:Int) + 1) = (i:Int) + 1:=IntWalk.wrap64_in _ (by have:=HLT.out;omega)
        go_wp2_with fail
        go_roundg (32 - (i + 1))
        case measure=>have:=HLT.out;omega
        case rel=>exact ⟨i + 1,_,by first | exact congrArg (Value.int .i64) wk | simp,rfl,by have:=HLT.out;omega,by
         rw [outH,← HX.out,← HY.out,HXX.out]
         exact take_set (by rw [x.2];exact HLT.out),HSET.out,HFN.out⟩
       ·clear hr
        have hbk:=bxA_blk HBX.out
        have k1:wr.cell? ⟨B,i,none⟩ = some (.int .u8 ((x.1[i]'(by rw [x.2];exact HLT.out)).toNat:Int)):=by rw [hbk.cell];exact bv_get _ _ _
        have k2:=hbk.frozen i
        obtain ⟨y,hy⟩:∃ y,y = btH h i:=⟨_,rfl⟩
        have hyv:(hq:Int) % 256 = (y.toNat:Int):=by
         rw [hy]
         unfold btH
         rw [show i / 4 = q by have:=HQ.out;omega,show i % 4 = 3 by have:=HQ.out;omega,HQH.out,UInt8.toNat_ofNat']
         omega
        have HY:=Lib.hid hy
        obtain ⟨x',hx'⟩:∃ x':ID,x'.1 = x.1.set i y:=⟨⟨x.1.set i y,by rw [List.length_set];exact x.2⟩,rfl⟩
        have HSET:=Lib.hid (bxA_set HBX.out i y x' hx')
        have HXX:=Lib.hid hx'
        have HFN:=Lib.hid (HFX.out.trans (Fr.setCell (M:=oneB B) (Fr.refl _ wr) (p:=⟨B,i,none⟩) (fun _=>rfl) (.int .u8 (y.toNat:Int))) (fun _ _ h=>h))
        clear hbk hy hx'
        go_upto_region 33 with fail
        rw [hyv]
        clear hyv k1 k2 c1 d1 d2 q1 q0
        generalize wr.setCell ⟨B,i,none⟩ (.int .u8 (y.toNat:Int)) = ws at HSET HFN ⊢
        have wk:wrap64 ((i:Int) + 1) = (i:Int) + 1:=IntWalk.wrap64_in _ (by have:=HLT.out;omega)
        go_wp2_with fail
        go_roundg (32 - (i + 1))
        case measure=>have:=HLT.out;omega
        case rel=>exact ⟨i + 1,_,by first | exact congrArg (Value.int .i64) wk | simp,rfl,by have:=HLT.out;omega,by
         rw [outH,← HX.out,← HY.out,HXX.out]
         exact take_set (by rw [x.2];exact HLT.out),HSET.out,HFN.out⟩
      ·have i1:¬ (i:Int) < 32:=by omega
       obtain rfl:i = 32:=by omega
       obtain rfl:x = res:=Subtype.ext (by
        rw [HFIN.out]
        show x.1 = outH h 32
        rw [← HX.out,List.take_of_length_le (by rw [x.2];exact Nat.le_refl _)])
       have hbb:=bxA_rd HBX.out
       have hrr:=bxA_fr HU3.out HFX.out (by have:=HRB.out;show ¬ R = B;omega)
       clear hlt hi
       go_upto_region 35 with fail
       obtain ⟨g1,g2,g3⟩:=putC_fr hrr x
       have HG1:=Lib.hid g1
       have HG3:=Lib.hid g3
       clear g1 g2 g3
       go_wp2_with fail
       have hbx3:=bxA_at HG3.out
       simp only [aro,idA_eq] at hbx3
       refine bodyPost_ret (results_cell_row rfl _ _ R 36 _ _ _ (by rfl) hbx3 Try.underlying36 ?_ ?_) rfl ?_
       ·rfl
       ·rw [List.size_toArray,bv_length,x.2];exact infoArr
       refine ⟨by rw [← HRN.out];simp only [encI,idA_eq],((F3.out.trans HFX.out (fun b hb e=>?_)).trans HG1.out (fun b hb e=>?_))⟩
       ·have e:b = B:=e
        have:=HRB.out;have:=HPW.out
        omega
       ·have e:b = R:=e
        have:=HPW.out
        omega
end Go.Proofs.Ytahllkifmmjbdaa
