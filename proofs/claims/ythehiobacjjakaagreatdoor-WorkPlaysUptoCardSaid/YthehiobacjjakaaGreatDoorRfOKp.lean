/- Contract: pollardref17 Move. (ex_ldS_at ex_ldR_at) -/
import Derived.Test.YthehiobacjjakaaGreatDoorRfNKp
import Derived.Test.YthehiobacjjakaaGreatDoorWlEKp
set_option linter.unusedVariables false
set_option linter.unusedSimpArgs false
namespace Go.Proofs.YthehiobacjjakaaGreatDoor
open Go.RowKit Go.Maps Go.Sort
theorem above_lies {xs:List RwP} (h0:∀ r ∈ xs,r.Node.T ≠ 0) {n:St} (hn:n.T ≠ 0):∀ (k:Nat) (p:St),reach xs k p = true → aboveN xs k n p = (decide (p = n) || liesN xs k p n)
 | 0,p,hr=>by
  have hT:p.T = 0:=fixedS_T (show fixedS p = true from hr)
  have e:p ≠ n:=fun e=>hn (by rw [← e];exact hT)
  rw [above_zeroW hT,decide_eq_false e]
  rfl
 | k + 1,p,hr=>by
  by_cases hT:p.T = 0
  ·have e:p ≠ n:=fun e=>hn (by rw [← e];exact hT)
   have hf:findR xs p = none:=by
    rw [findR_none]
    intro r hr e
    exact h0 r hr (by rw [e];exact hT)
   rw [above_zeroW hT,decide_eq_false e]
   show false = (false || match findR xs p with | none=>false | some r=>_)
   rw [hf]
   rfl
  ·obtain ⟨j,x,ej,hf,hx⟩:=up_stepW hT hr
   obtain rfl:k = j:=by omega
   rw [above_stepW hT hf,above_lies h0 hn k x.Parent hx]
   show _ = (decide (p = n) || match findR xs p with | none=>false | some r=>decide (r.Parent = n) || liesN xs k r.Parent n)
   rw [hf]
theorem aboveR_lies {xs:List RwP} (h:TreeOk xs) {n p:St} (hn:n.T ≠ 0) (hp:∃ k,reach xs k p = true):aboveR xs n p = (decide (p = n) || liesR xs p n) :=
 above_lies (fun r hr=>rightS_T (rightR_node (h.ok r hr))) hn _ p (by obtain ⟨k,hk⟩:=hp;exact reach_len hk)
set_option maxRecDepth 100000 in
set_option maxHeartbeats 8000000 in
theorem rmove_any (w:World) (d:DfW) (rs:List RwW) (D:Dft) (h:Dv w d rs D) (Q:Nat → Prop) (hQ:∀ b,Q b → b < w.heap.size) (hO:OffR Q d rs) (ht:TreeOk D.rows) (p q:List UInt8) (hp:p.length ≤ 3000000) (hq:q.length ≤ 3000000) :
  Calls Tryz.prog 13 #[.agg (codDv.A d),.string (str p),.string (str q)] w (DvTo Q w (moveF D p q)):=by
 have f0:Fr noB w (w.alloc (.cells (codDv.A d) 30)):=(Fr.refl noB w).alloc _
 have b0:codDv.bxd (w.alloc (.cells (codDv.A d) 30)) w.heap.size = some d:=Cod.bxd_box (C:=codDv) w d
 generalize hw0:w.alloc (.cells (codDv.A d) 30) = w0 at f0 b0
 have HZ:=Lib.hid (show w0.heap.size = w.heap.size + 1 by rw [← hw0];simp)
 have HW0:=Lib.hid hw0
 have f1:Fr noB w0 (w0.alloc (codDv.o zDfW)):=(Fr.refl noB w0).alloc _
 have b1:codDv.bxd (w0.alloc (codDv.o zDfW)) w0.heap.size = some zDfW:=Cod.bxd_new w0 zDfW
 have b2:=Cod.bxd_fr0 b0 f1
 have F1:=Lib.hid (f0.step0 f1)
 have HD:=Lib.hid h
 have HQQ:=Lib.hid hQ
 have HO:=Lib.hid hO
 clear hQ hO
 have HT:=Lib.hid ht
 have HP:=Lib.hid hp
 have HPq:=Lib.hid hq
 have HLE:=Lib.hid (split_lenle p)
 have HLQ:=Lib.hid (split_lenle q)
 have HSP:=Lib.hid (List.length_pos_iff.2 (split_ne p))
 have HSQ:=Lib.hid (List.length_pos_iff.2 (split_ne q))
 have HMF:=Lib.hid (show moveF D p q = if (namesOk p && namesOk q && !(lastN q).contains 126) = false then (D,170)
  else if (walkD D.rows zRwP (splitD p)).2 < (splitD p).length then (D,4)
  else if (walkD D.rows zRwP (aheadN q)).2 < (aheadN q).length then (D,4)
  else if 0 < (walkD D.rows zRwP (aheadN q)).1.Heads.length ∨ aboveR D.rows (walkD D.rows zRwP (splitD p)).1.Node (walkD D.rows zRwP (aheadN q)).1.Node = true then (D,170)
  else if (kidD D.rows (walkD D.rows zRwP (aheadN q)).1.Node (lastN q)).isSome = true then (D,5)
  else if roomD D 1 = false then (D,1)
  else (⟨putR D.rows { (walkD D.rows zRwP (splitD p)).1 with Parent:=(walkD D.rows zRwP (aheadN q)).1.Node,Name:=lastN q,At:=D.next },tickD D.next 1⟩,0) from rfl)
 generalize moveF D p q = res at HMF ⊢
 clear h ht hp hq f0 f1 b0 hw0
 go_enter Tryz.func13,Tryz.ntmps13
 go_upto_region 1 with fail
 rw [HW0.out,← HZ.out]
 generalize w0.alloc (codDv.o zDfW) = w1 at b1 b2 F1 ⊢
 have HQ:=Lib.hid (show w.heap.size ≤ w0.heap.size by rw [HZ.out];omega)
 have HPR:=Lib.hid (show w.heap.size < w0.heap.size by rw [HZ.out];omega)
 generalize w0.heap.size = R at b1 HQ HPR ⊢
 generalize hP:w.heap.size = P at b2 HPR ⊢
 have HPP:=Lib.hid (show w.heap.size ≤ P by omega)
 have B1:=Lib.hid b1
 have B2:=Lib.hid b2
 have NM:=Lib.hid (rnames_any w1 p (by have:=HP.out;omega))
 have HR1:=Lib.hid (Cod.bxd_lt b1)
 clear b1 b2 HW0 HZ hP
 go_upto_region 2 with (go_at_call 30;refine NM.out.mono ?_;rintro e w2 ⟨A2,c2,rfl,hcc,s2,f2⟩;clear hcc)
 have F2:=Lib.hid (F1.out.step0 f2)
 have S2:=Lib.hid s2
 have B3:=Lib.hid (Cod.bxd_fr0 B1.out f2)
 have B4:=Lib.hid (Cod.bxd_fr0 B2.out f2)
 have HR2:=Lib.hid (show R < w2.heap.size by have h1:=HR1.out;have h2:=f2.size;omega)
 have NM:=Lib.hid (rnames_any w2 q (by have:=HPq.out;omega))
 clear s2 f2
 go_upto_region 3 with (go_at_call 30;refine NM.out.mono ?_;rintro e w3 ⟨A3,c3,rfl,hc3,s3,f3⟩)
 have F3:=Lib.hid (F2.out.step0 f3)
 have S3:=Lib.hid (S2.out.fr0 f3)
 have T3:=Lib.hid s3
 have B5:=Lib.hid (Cod.bxd_fr0 B3.out f3)
 have B6:=Lib.hid (Cod.bxd_fr0 B4.out f3)
 have HR3:=Lib.hid (show R < w3.heap.size by have h1:=HR2.out;have h2:=f3.size;omega)
 have HC3:=Lib.hid hc3
 obtain ⟨g2,o2,rfl,cl⟩:=nms_last (w:=w3) (A:=A3) (q:=q) (by rw [← row_X];exact s3)
 have hgl:g2 < w3.heap.size:=World.block_lt_of_cell? _ _ cl
 have HGL:=Lib.hid hgl
 obtain ⟨k,hk⟩:∃ k,(splitD q).length = k + 1:=⟨(splitD q).length - 1,by have:=HSQ.out;omega⟩
 have ek:(splitD q).length - 1 = k:=by omega
 rw [ek] at cl
 rw [hk]
 have HK:=Lib.hid (And.intro hk (show k ≤ 4294967281 by have:=HLQ.out.1;have:=HPq.out;omega))
 have HC3:=Lib.hid (show k + 1 ≤ c3 by rw [← hk];exact HC3.out)
 have hwk:wrap64 (k:Int) = (k:Int):=IntWalk.wrap64_in _ (by have:=HK.out.2;omega)
 have CL:=Lib.hid cl
 have i4:(k:Int) < (k:Int) + 1:=by omega
 have i3:(0:Int) ≤ (k:Int):=by omega
 clear hk ek s3 f3 hc3 hgl
 have TL:=Lib.hid (r17tilde_any w3 (lastN q) (by have:=HLQ.out.2 _ (List.getLast_mem (split_ne q));have:=HPq.out;unfold lastN;omega))
 have HLL:=Lib.hid (show (lastN q).length ≤ 140737488355328 by have:=HLQ.out.2 _ (List.getLast_mem (split_ne q));have:=HPq.out;unfold lastN;omega)
 cases hnp:namesOk p with
 | false =>
  have HN:=Lib.hid (show res = (D,170) by rw [HMF.out,hnp];rfl)
  clear hnp cl
  have hst:=okDv.stR_box B5.out d
  have qp:=Cod.bxd_rd B6.out
  obtain ⟨p1,_,p3⟩:=Cod.put_fr B5.out d
  have HBX:=Lib.hid p3
  have HFE:=Lib.hid (Fr.step1 F3.out p1 HQ.out)
  clear p1 p3
  go_wp2_with fail
  refine bodyPost_ret (ret_row_tmp okDv rfl _ _ _ _ (by rfl) HBX.out) rfl ?_
  rw [HN.out]
  exact DvTo.of HD.out HO.out HFE.out
 | true =>
 cases hnq:namesOk q with
 | false =>
  have HN:=Lib.hid (show res = (D,170) by rw [HMF.out,hnp,hnq];rfl)
  clear hnp hnq cl
  have hst:=okDv.stR_box B5.out d
  have qp:=Cod.bxd_rd B6.out
  obtain ⟨p1,_,p3⟩:=Cod.put_fr B5.out d
  have HBX:=Lib.hid p3
  have HFE:=Lib.hid (Fr.step1 F3.out p1 HQ.out)
  clear p1 p3
  go_wp2_with fail
  refine bodyPost_ret (ret_row_tmp okDv rfl _ _ _ _ (by rfl) HBX.out) rfl ?_
  rw [HN.out]
  exact DvTo.of HD.out HO.out HFE.out
 | true =>
 have TL:=TL.out
 cases hct:(lastN q).contains 126 with
 | true =>
  have HN:=Lib.hid (show res = (D,170) by rw [HMF.out,hnp,hnq,hct];rfl)
  rw [hct] at TL
  have TL:=Lib.hid TL
  clear hnp hnq hct
  go_upto_region 4 with (go_at_call 32;refine TL.out.mono ?_;rintro e w5 ⟨rfl,f5⟩)
  have b5:=Cod.bxd_fr0 B5.out f5
  have b6:=Cod.bxd_fr0 B6.out f5
  have F5:=Lib.hid (F3.out.step0 f5)
  clear f5 cl
  have hst:=okDv.stR_box b5 d
  have qp:=Cod.bxd_rd b6
  obtain ⟨p1,_,p3⟩:=Cod.put_fr b5 d
  have HBX:=Lib.hid p3
  have HFE:=Lib.hid (Fr.step1 F5.out p1 HQ.out)
  clear p1 p3
  go_wp2_with fail
  refine bodyPost_ret (ret_row_tmp okDv rfl _ _ _ _ (by rfl) HBX.out) rfl ?_
  rw [HN.out]
  exact DvTo.of HD.out HO.out HFE.out
 | false =>
 have HM1:=Lib.hid (show res = if (walkD D.rows zRwP (splitD p)).2 < (splitD p).length then (D,4)
  else if (walkD D.rows zRwP (aheadN q)).2 < (aheadN q).length then (D,4)
  else if 0 < (walkD D.rows zRwP (aheadN q)).1.Heads.length ∨ aboveR D.rows (walkD D.rows zRwP (splitD p)).1.Node (walkD D.rows zRwP (aheadN q)).1.Node = true then (D,170)
  else if (kidD D.rows (walkD D.rows zRwP (aheadN q)).1.Node (lastN q)).isSome = true then (D,5)
  else if roomD D 1 = false then (D,1)
  else (⟨putR D.rows { (walkD D.rows zRwP (splitD p)).1 with Parent:=(walkD D.rows zRwP (aheadN q)).1.Node,Name:=lastN q,At:=D.next },tickD D.next 1⟩,0) by rw [HMF.out,hnp,hnq,hct];rfl)
 rw [hct] at TL
 have TL:=Lib.hid TL
 clear hnp hnq hct HMF
 go_upto_region 5 with (go_at_call 32;refine TL.out.mono ?_;rintro e w5 ⟨rfl,f5⟩)
 have cl:=cell_fr0 CL.out f5
 go_upto_region 6 with fail
 have F5:=Lib.hid (F3.out.step0 f5)
 have S5:=Lib.hid (S3.out.fr0 f5)
 have T5:=Lib.hid (T3.out.fr0 f5)
 have B7:=Lib.hid (Cod.bxd_fr0 B5.out f5)
 have B8:=Lib.hid (Cod.bxd_fr0 B6.out f5)
 have HR5:=Lib.hid (show R < w5.heap.size by have h1:=HR3.out;have h2:=f5.size;omega)
 clear cl f5
 have WK:=Lib.hid (rwalk_any w5 d.A d.c d.n rs D.rows HD.out.n (HD.out.sl.fr0 F5.out) (by have:=HD.out.rows.len;have:=HT.out.len;omega) F5.out HD.out.rows (ok_nodes HT.out) A2 c2 _ (splitD p) rfl S5.out (by have:=HLE.out.1;have:=HP.out;omega))
 have HMM:=Lib.hid (walkD_mem D.rows zRwP (splitD p))
 obtain ⟨x,n,fb,hwf⟩:∃ r n b,walkF D.rows zRwP false (splitD p) = (r,n,b):=⟨_,_,_,rfl⟩
 obtain ⟨hwd,_⟩:=findD_F HT.out p hwf
 rw [hwd] at HM1 HMM
 simp only at HM1 HMM
 rw [hwf] at WK
 have q0:=(dvAt (Cod.bxd_rd B8.out)).rows
 clear hwf hwd
 go_upto_region 7 with (go_at_call 31;refine WK.out.mono ?_;rintro e w6 ⟨⟨rr,rfl,hr,hrm⟩,f6⟩)
 have f4:Fr noB w6 (w6.alloc (codR.o rr)):=(Fr.refl noB w6).alloc _
 have b5:codR.bxd (w6.alloc (codR.o rr)) w6.heap.size = some rr:=Cod.bxd_new w6 rr
 have bR:=Cod.bxd_fr0 B7.out (f6.step0 f4)
 have bP:=Cod.bxd_fr0 B8.out (f6.step0 f4)
 have F6:=F5.out.step0 (f6.step0 f4)
 have t6:=Lib.hid (T5.out.fr0 (f6.step0 f4))
 have hU:R < w6.heap.size:=by have h1:=HR5.out;have h2:=f6.size;omega
 generalize w6.alloc (codR.o rr) = w7 at b5 bR bP F6 t6 ⊢
 generalize w6.heap.size = U at b5 hU ⊢
 have PC:=Lib.hid (show PvC w Q P U R from ⟨HQQ.out,HPP.out,by have:=HQ.out;omega,HQ.out,by have:=HPR.out;omega,by have:=HPR.out;omega,by omega⟩)
 have K7:=Lib.hid (PvK.of HD.out HO.out (OffH.mem HO.out hrm) F6 PC.out bP bR b5 (hr.fr F6))
 have HUR:=Lib.hid (And.intro HPR.out hU)
 clear f6 f4 q0 hr hrm b5 bR bP F6 hU
 have hwk2:IntKind.i64.wrap (k:Int) = (k:Int):=IntWalk.i64_in _ (by have:=HK.out.2;omega)
 have i2:(k:Int) ≤ (c3:Int):=by have:=HC3.out;omega
 have WK:=Lib.hid (fun u (f:Fr noB w7 u)=>rwalk_any u d.A d.c d.n rs D.rows HD.out.n (HD.out.sl.fr0 (K7.out.fr.step0 f)) (by have:=HD.out.rows.len;have:=HT.out.len;omega) (K7.out.fr.step0 f) HD.out.rows (ok_nodes HT.out) (some ⟨g2,o2,none⟩) c3 k (aheadN q) (by rw [ahead_len,HK.out.1];rfl) (by rw [row_X];exact nms_ahead (by rw [← row_X];exact t6.out.fr0 f)) (by rw [ahead_len];have:=HLQ.out.1;have:=HPq.out;omega))
 obtain ⟨y,m,gb,hwf⟩:∃ r n b,walkF D.rows zRwP false (aheadN q) = (r,n,b):=⟨_,_,_,rfl⟩
 have hwd:walkD D.rows zRwP (aheadN q) = (y,m):=by
  rw [walkF_D HT.out] at hwf
  simp only [Prod.mk.injEq] at hwf
  exact Prod.ext hwf.1 hwf.2.1
 have HMQ:=Lib.hid (walkD_mem D.rows zRwP (aheadN q))
 rw [hwd] at HM1 HMQ
 simp only at HM1 HMQ
 rw [hwf] at WK
 clear hwf hwd
 go_upto_region 7 with fail
 have hF0:(fun w':World=>w'.cell? ⟨P,0,none⟩ = some (.slice d.A d.n d.c)) w7.drew:=(dvAt (Cod.bxd_rd (Cod.bxd_fr0 K7.out.bP (Fr.refl noB w7).drew))).rows
 have FD:=Lib.hid (show Fr noB w7 w7.drew from (Fr.refl noB w7).drew)
 have keep:∀ w' w'':World,Fr noB w' w'' → w'.cell? ⟨P,0,none⟩ = some (.slice d.A d.n d.c) → w''.cell? ⟨P,0,none⟩ = some (.slice d.A d.n d.c):=fun w' w'' f h=>cell_fr0 h f
 refine wp_region_T 15 16 [⟨4611686018427387904,8,0⟩,⟨9223372036854775808,4611686018427387904,1⟩,⟨18446744073709551616,1024,0⟩,⟨36893488147419103232,1024,0⟩,⟨73786976294838206464,36893488147419103232,8⟩,⟨147573952589676412928,73786976294838206464,16⟩,⟨295147905179352825856,166020696663385964544,36⟩,⟨590295810358705651712,304371277216207601664,66⟩,⟨2305843009213693952,590295810358705651712,128⟩,⟨1180591620717411303424,2305843009213693952,256⟩,⟨2361183241434822606848,2305843009213693952,256⟩,⟨4722366482869645213696,2305843009213693952,256⟩,⟨65536,0,0⟩,⟨0,1180591620717411368960,5119⟩,⟨131072,2361183241434822606848,14335⟩,⟨262144,4722366482869645213696,32767⟩] (.take 0 (.take 1 (.take 2 (.take 3 (.take 4 (.take 5 (.take 6 (.two 7 12 (.take 8 (.take 9 (.take 10 (.take 11 (.one 12 (.one 13 (.take 14 .done))))))) (.one 7 (.take 8 (.take 9 (.take 10 (.take 11 (.one 13 (.take 14 .done))))))))))))))) (fun w'=>w'.cell? ⟨P,0,none⟩ = some (.slice d.A d.n d.c)) (by kernel_rfl) rfl (by kernel_rfl) (by kernel_rfl) (by kernel_rfl) hF0 (fun hA hF=>?_)
 clear hF0
 iterate 7
  refine wpAnyT_take (v:=?_) hA rfl (fun _ _ _ h=>h) (Or.inl ⟨by rfl,?_⟩) hF (fun hA=>?_)
  rotate_left
  ·intro wS hSw;(try dsimp only at hSw);obtain s1:=hSw;first | (apply Eq.trans;apply ex_ldR_at;exact rfl;exact rfl;assumption;with_reducible rfl) | (apply Eq.trans;apply ex_ldS_at;exact rfl;exact rfl;assumption;with_reducible rfl) | (go_simp;try with_reducible rfl)
  try simp only [sA1,sA2,sA3,Act.put,sA4,sA5,sA6]
 generalize w7.drew = V at FD hF ⊢
 have hFV:=hF
 apply lift_T2 (F:=fun (a:Nat) (z:RwW) u=>Fr noB V u ∧ codR.bxd u a = some z ∧ V.heap.size ≤ a ∧ RwIn w z y)
 ·intro cont
  refine wpAnyT_two (i:=7) (j:=12) hA rfl rfl (fun K' hK=>?_) (fun K' hK=>?_)
  ·rw [if_pos (by rfl)]
   go_simp
   go_at_call 31
   refine (WK.out V FD.out).mono ?_
   rintro e u1 ⟨⟨r3,rfl,hr3,_⟩,f1⟩
   replace hF:=keep _ _ f1 hF
   refine hK.out _ _ hF (fun hA=>?_)
   clear hK K'
   try simp only [sA1,sA2,sA3,Act.put,sA4,sA5,sA6]
   iterate 4
    refine wpAnyT_take (v:=?_) hA rfl (fun _ _ _ h=>h) (Or.inl ⟨by rfl,?_⟩) hF (fun hA=>?_)
    rotate_left
    ·intro wS hSw;(try dsimp only at hSw);obtain s1:=hSw;first | (apply Eq.trans;apply ex_ldR_at;exact rfl;exact rfl;assumption;with_reducible rfl) | (apply Eq.trans;apply ex_ldS_at;exact rfl;exact rfl;assumption;with_reducible rfl) | (go_simp;try with_reducible rfl)
    try simp only [sA1,sA2,sA3,Act.put,sA4,sA5,sA6]
   refine wpAnyT_one hA rfl (fun K' hK=>?_)
   refine wk_runV _ _ (ex_alR_at rfl u1) ?_
   have fx:Fr noB u1 (u1.alloc (codR.o zRwW)):=(Fr.refl noB _).alloc _
   have bx:codR.bxd (u1.alloc (codR.o zRwW)) u1.heap.size = some zRwW:=Cod.bxd_new u1 zRwW
   replace hF:=keep _ _ fx hF
   refine hK.out _ _ hF (fun hA=>?_)
   clear hK K'
   try simp only [sA1,sA2,sA3,Act.put,sA4,sA5,sA6]
   refine wpAnyT_one hA rfl (fun K' hK=>?_)
   refine wk_skipV _ (ex_stR_at rfl rfl rfl bx) ?_
   obtain ⟨p1,_,p3⟩:=Cod.put_fr bx r3
   have ff:=(f1.step0 fx).step1 p1 f1.size
   replace hF:=keep _ _ ff hFV
   refine hK.out _ _ hF (fun hA=>?_)
   clear hK K'
   try simp only [sA1,sA2,sA3,Act.put,sA4,sA5,sA6]
   have hsz:V.heap.size ≤ u1.heap.size:=f1.size
   clear hF fx bx p1
   generalize codR.put _ _ r3 = U2 at ff p3 ⊢
   generalize u1.heap.size = D2 at p3 hsz ⊢
   exact cont D2 r3 _ _ ⟨ff,p3,hsz,hr3⟩ hA
  ·refine wk_runV _ _ (ex_alR_at rfl V) ?_
   have fx:Fr noB V (V.alloc (codR.o zRwW)):=(Fr.refl noB _).alloc _
   have bx:codR.bxd (V.alloc (codR.o zRwW)) V.heap.size = some zRwW:=Cod.bxd_new V zRwW
   replace hF:=keep _ _ fx hF
   refine hK.out _ _ hF (fun hA=>?_)
   clear hK K'
   try simp only [sA1,sA2,sA3,Act.put,sA4,sA5,sA6]
   refine wpAnyT_one hA rfl (fun K' hK=>?_)
   rw [if_pos (by rfl)]
   go_simp
   go_at_call 31
   refine (WK.out _ (FD.out.step0 fx)).mono ?_
   rintro e u1 ⟨⟨r3,rfl,hr3,_⟩,f1⟩
   replace hF:=keep _ _ f1 hF
   refine hK.out _ _ hF (fun hA=>?_)
   clear hK K'
   try simp only [sA1,sA2,sA3,Act.put,sA4,sA5,sA6]
   iterate 4
    refine wpAnyT_take (v:=?_) hA rfl (fun _ _ _ h=>h) (Or.inl ⟨by rfl,?_⟩) hF (fun hA=>?_)
    rotate_left
    ·intro wS hSw;(try dsimp only at hSw);obtain s1:=hSw;first | (apply Eq.trans;apply ex_ldR_at;exact rfl;exact rfl;assumption;with_reducible rfl) | (apply Eq.trans;apply ex_ldS_at;exact rfl;exact rfl;assumption;with_reducible rfl) | (go_simp;try with_reducible rfl)
    try simp only [sA1,sA2,sA3,Act.put,sA4,sA5,sA6]
   refine wpAnyT_one hA rfl (fun K' hK=>?_)
   have b1:=Cod.bxd_fr0 bx f1
   refine wk_skipV _ (ex_stR_at rfl rfl rfl b1) ?_
   obtain ⟨p1,p2,p3⟩:=Cod.put_fr b1 r3
   have ff:=(fx.step0 f1).step1 p1 (Nat.le_refl _)
   replace hF:=keep _ _ ff hFV
   refine hK.out _ _ hF (fun hA=>?_)
   clear hK K'
   try simp only [sA1,sA2,sA3,Act.put,sA4,sA5,sA6]
   clear hF fx bx b1 p1 p2
   generalize codR.put u1 V.heap.size r3 = U2 at ff p3 ⊢
   obtain ⟨D2,hD2⟩:∃ t,t = V.heap.size:=⟨_,rfl⟩
   have hsz:V.heap.size ≤ D2:=by omega
   rw [← hD2] at p3 ⊢
   clear hD2
   exact cont D2 r3 _ _ ⟨ff,p3,hsz,hr3⟩ hA
 intro B2 r2 L9 w8 hU hA
 have hF:=keep _ _ hU.1 hFV
 refine wpAnyT_take (v:=?_) hA rfl (fun _ _ _ h=>h) (Or.inl ⟨by rfl,?_⟩) hF (fun hA=>?_)
 rotate_left
 ·intro wS hSw;(try dsimp only at hSw);obtain s1:=hSw;first | (apply Eq.trans;apply ex_ldR_at;exact rfl;exact rfl;assumption;with_reducible rfl) | (apply Eq.trans;apply ex_ldS_at;exact rfl;exact rfl;assumption;with_reducible rfl) | (go_simp;try with_reducible rfl)
 try simp only [sA1,sA2,sA3,Act.put,sA4,sA5,sA6]
 refine wpAnyT_end hA rfl ?_
 simp only [List.drop_succ_cons,List.drop_zero]
 obtain ⟨f8,bb2,hs2,hy⟩:=hU
 have K8:=Lib.hid (K7.out.fr0 (FD.out.step0 f8))
 have BB2:=Lib.hid bb2
 have HY:=Lib.hid hy
 have HB2:=Lib.hid (show P < B2 ∧ R < B2 ∧ U < B2 by have h1:=Cod.bxd_lt K7.out.bB;have h2:=FD.out.size;have h3:=HUR.out;omega)
 have CL8:=Lib.hid (show Sl w8 (some ⟨g2,o2,none⟩) (codX.row (splitD q)) from t6.out.fr0 (FD.out.step0 f8))
 clear hA hFV hF keep WK bb2 hs2 hy f8 FD
 have hal:(aheadN q).length = k:=by rw [ahead_len,HK.out.1];rfl
 by_cases hlt:n < (splitD p).length
 ·have i1:(n:Int) < ((splitD p).length:Int):=by omega
  have HN:=Lib.hid (show res = (D,4) by rw [HM1.out,if_pos hlt])
  clear hlt hal
  have hst:=okDv.stR_box K8.out.bR d
  have qp:=Cod.bxd_rd K8.out.bP
  obtain ⟨p1,_,p3⟩:=Cod.put_fr K8.out.bR d
  have HBX:=Lib.hid p3
  have HFE:=Lib.hid (Fr.step1 K8.out.fr p1 HQ.out)
  clear p1 p3
  go_wp2_with fail
  refine bodyPost_ret (ret_row_tmp okDv rfl _ _ _ _ (by rfl) HBX.out) rfl ?_
  rw [HN.out]
  exact DvTo.of HD.out HO.out HFE.out
 have i1:¬ (n:Int) < ((splitD p).length:Int):=by omega
 have HX:=Lib.hid (show x ∈ D.rows from by
  rcases HMM.out with h | h
  ·have h1:=HSP.out;have h2:=h.2;omega
  ·exact h)
 have HM2:=Lib.hid (HM1.out.trans (if_neg hlt))
 clear hlt
 by_cases hlt:m < (aheadN q).length
 ·have i5:(m:Int) < (k:Int):=by omega
  have HN:=Lib.hid (show res = (D,4) by rw [HM2.out,if_pos hlt])
  clear hlt hal
  have hst:=okDv.stR_box K8.out.bR d
  have qp:=Cod.bxd_rd K8.out.bP
  obtain ⟨p1,_,p3⟩:=Cod.put_fr K8.out.bR d
  have HBX:=Lib.hid p3
  have HFE:=Lib.hid (Fr.step1 K8.out.fr p1 HQ.out)
  clear p1 p3
  go_wp2_with fail
  refine bodyPost_ret (ret_row_tmp okDv rfl _ _ _ _ (by rfl) HBX.out) rfl ?_
  rw [HN.out]
  exact DvTo.of HD.out HO.out HFE.out
 have i5:¬ (m:Int) < (k:Int):=by omega
 have HM3:=Lib.hid (HM2.out.trans (if_neg hlt))
 clear hlt hal HM1 HM2
 have qh2:=(rwAt (Cod.bxd_rd BB2.out)).heads
 by_cases hh:0 < r2.n
 ·have i6:(0:Int) < (r2.n:Int):=by omega
  have HN:=Lib.hid (show res = (D,170) by rw [HM3.out,if_pos (.inl (by rw [HY.out.len];exact hh))])
  clear hh
  have hst:=okDv.stR_box K8.out.bR d
  have qp:=Cod.bxd_rd K8.out.bP
  obtain ⟨p1,_,p3⟩:=Cod.put_fr K8.out.bR d
  have HBX:=Lib.hid p3
  have HFE:=Lib.hid (Fr.step1 K8.out.fr p1 HQ.out)
  clear p1 p3
  go_wp2_with fail
  refine bodyPost_ret (ret_row_tmp okDv rfl _ _ _ _ (by rfl) HBX.out) rfl ?_
  rw [HN.out]
  exact DvTo.of HD.out HO.out HFE.out
 have i6:¬ (0:Int) < (r2.n:Int):=by omega
 have HH:=Lib.hid (show ¬ 0 < y.Heads.length by rw [HY.out.len];exact hh)
 have qn2:=(rwAt (Cod.bxd_rd BB2.out)).node
 have qn1:=(rwAt (Cod.bxd_rd K8.out.bB)).node
 have e1:=HY.out.node
 have e2:=K8.out.hr.node
 have HAB:=Lib.hid (show aboveR D.rows x.Node y.Node = (decide (r2.Node = rr.Node) || liesR D.rows r2.Node rr.Node) by
  rw [aboveR_lies HT.out (rightS_T (rightR_node (HT.out.ok _ HX.out))) (by
   rcases HMQ.out with h | h
   ·rw [h.1];exact ⟨0,show fixedS zSt = true from by decide⟩
   ·exact HT.out.up _ h),e1,e2])
 clear hh e1 e2
 by_cases he:r2.Node = rr.Node
 ·have hd:decide (r2.Node = rr.Node) = true:=decide_eq_true he
  have HN:=Lib.hid (show res = (D,170) by rw [HM3.out,if_pos (.inr (by rw [HAB.out,hd];rfl))])
  clear he
  have hst:=okDv.stR_box K8.out.bR d
  have qp:=Cod.bxd_rd K8.out.bP
  obtain ⟨p1,_,p3⟩:=Cod.put_fr K8.out.bR d
  have HBX:=Lib.hid p3
  have HFE:=Lib.hid (Fr.step1 K8.out.fr p1 HQ.out)
  clear p1 p3
  go_wp2_with fail
  refine bodyPost_ret (ret_row_tmp okDv rfl _ _ _ _ (by rfl) HBX.out) rfl ?_
  rw [HN.out]
  exact DvTo.of HD.out HO.out HFE.out
 have hd:decide (r2.Node = rr.Node) = false:=decide_eq_false he
 have HDD:=Lib.hid hd
 have qr:=(dvAt (Cod.bxd_rd K8.out.bP)).rows
 have LI:=r12lies_any w8 d.A d.c d.n rs D.rows HD.out.n (HD.out.sl.fr0 K8.out.fr) (by have:=HD.out.rows.len;have:=HT.out.len;omega) (HD.out.rows.fr K8.out.fr) r2.Node rr.Node
 clear he
 cases hli:liesR D.rows r2.Node rr.Node with
 | true =>
  have HN:=Lib.hid (show res = (D,170) by rw [HM3.out,if_pos (.inr (by rw [HAB.out,hli,Bool.or_true]))])
  rw [hli] at LI
  have LI:=Lib.hid LI
  clear hli
  go_upto_region 11 with (go_at_call 35;refine LI.out.mono ?_;rintro e w9 ⟨rfl,f9⟩)
  have K9:=Lib.hid (K8.out.fr0 f9)
  clear f9 qr qn1 qn2 qh2
  have hst:=okDv.stR_box K9.out.bR d
  have qp:=Cod.bxd_rd K9.out.bP
  obtain ⟨p1,_,p3⟩:=Cod.put_fr K9.out.bR d
  have HBX:=Lib.hid p3
  have HFE:=Lib.hid (Fr.step1 K9.out.fr p1 HQ.out)
  clear p1 p3
  go_wp2_with fail
  refine bodyPost_ret (ret_row_tmp okDv rfl _ _ _ _ (by rfl) HBX.out) rfl ?_
  rw [HN.out]
  exact DvTo.of HD.out HO.out HFE.out
 | false =>
 have HM4:=Lib.hid (HM3.out.trans (if_neg (by rintro (h | h);exact HH.out h;rw [HAB.out,hli,HDD.out] at h;cases h)))
 rw [hli] at LI
 have LI:=Lib.hid LI
 clear hli HM3
 go_upto_region 12 with (go_at_call 35;refine LI.out.mono ?_;rintro e w9 ⟨rfl,f9⟩)
 have K9:=Lib.hid (K8.out.fr0 f9)
 have BB9:=Lib.hid (Cod.bxd_fr0 BB2.out f9)
 clear f9 qr qn1 qn2 qh2 hd LI
 have qr:=(dvAt (Cod.bxd_rd K9.out.bP)).rows
 have qn2:=(rwAt (Cod.bxd_rd BB9.out)).node
 have ST:=rstep_any w9 d.A d.c d.n rs D.rows HD.out.n (HD.out.sl.fr0 K9.out.fr) (by have:=HD.out.rows.len;have:=HT.out.len;omega) (HD.out.rows.fr K9.out.fr) (ok_nodes HT.out) r2.Node (lastN q)
 rw [stepR_eq HT.out,← HY.out.node] at ST
 obtain ⟨kk,hkk⟩:∃ t,kidD D.rows y.Node (lastN q) = t:=⟨_,rfl⟩
 have HKK:=Lib.hid hkk
 rw [hkk,HY.out.node] at ST
 have ST:=Lib.hid ST
 clear hkk
 go_upto_region 13 with (go_at_call 36;refine ST.out.mono ?_;rintro e w10 ⟨⟨r3,bb,rfl,hcase⟩,f10⟩)
 have f11:Fr noB w10 (w10.alloc (codR.o r3)):=(Fr.refl noB w10).alloc _
 have K11:=Lib.hid (K9.out.fr0 (f10.step0 f11))
 have BB11:=Lib.hid (Cod.bxd_fr0 BB9.out (f10.step0 f11))
 have HBB:=Lib.hid (show bb = kk.isSome by
  rcases hcase with ⟨h1,_,_,_,h2,_⟩ | ⟨h1,h2,_⟩
  ·rw [h1,h2];rfl
  ·rw [h1,h2];rfl)
 generalize w10.alloc (codR.o r3) = w11 at K11 BB11 ⊢
 clear hcase f10 f11 qr qn2 ST
 cases bb with
 | true =>
  have HN:=Lib.hid (show res = (D,5) by rw [HM4.out,HKK.out,← HBB.out,if_pos rfl])
  have hst:=okDv.stR_box K11.out.bR d
  have qp:=Cod.bxd_rd K11.out.bP
  obtain ⟨p1,_,p3⟩:=Cod.put_fr K11.out.bR d
  have HBX:=Lib.hid p3
  have HFE:=Lib.hid (Fr.step1 K11.out.fr p1 HQ.out)
  clear p1 p3
  go_wp2_with fail
  refine bodyPost_ret (ret_row_tmp okDv rfl _ _ _ _ (by rfl) HBX.out) rfl ?_
  rw [HN.out]
  exact DvTo.of HD.out HO.out HFE.out
 | false =>
 have HM5:=Lib.hid (HM4.out.trans (if_neg (by rw [HKK.out,← HBB.out];decide)))
 have q0:=Cod.bxd_rd K11.out.bP
 have RM:=Lib.hid (rroom_any w11 d rs D (HD.out.fr K11.out.fr) (by have:=HD.out.rows.len;have:=HT.out.len;omega) 1 (by omega))
 have RM:=Lib.hid (show Calls Tryz.prog 33 #[.agg (codDv.A d),.int .i64 1] w11 (Gives w11 (.bool (roomD D 1))) from RM.out)
 cases hrm:roomD D 1 with
 | false =>
  have HRM:=Lib.hid hrm
  have HN:=Lib.hid (show res = (D,1) by rw [HM5.out,hrm];rfl)
  clear hrm
  go_upto_region 16 with (go_at_call 33;refine RM.out.mono ?_;rintro e w5 ⟨rfl,f5⟩;rw [HRM.out])
  have K12:=Lib.hid (K11.out.fr0 f5)
  clear f5 q0
  have hst:=okDv.stR_box K12.out.bR d
  have qp:=Cod.bxd_rd K12.out.bP
  obtain ⟨p1,_,p3⟩:=Cod.put_fr K12.out.bR d
  have HBX:=Lib.hid p3
  have HFE:=Lib.hid (Fr.step1 K12.out.fr p1 HQ.out)
  clear p1 p3
  go_wp2_with fail
  refine bodyPost_ret (ret_row_tmp okDv rfl _ _ _ _ (by rfl) HBX.out) rfl ?_
  rw [HN.out]
  exact DvTo.of HD.out HO.out HFE.out
 | true =>
 have HRM:=Lib.hid hrm
 have HN:=Lib.hid (HM5.out.trans (if_neg (by rw [hrm];decide)))
 have hwT:=room_Tv (n:=0) hrm
 clear hrm HM4 HM5
 go_upto_region 17 with (go_at_call 33;refine RM.out.mono ?_;rintro e w5 ⟨rfl,f5⟩;rw [HRM.out])
 have K5:=K11.out.fr0 f5
 have qn:=(rwAt (Cod.bxd_rd (Cod.bxd_fr0 BB11.out f5))).node
 clear f5 q0
 have s1:=wst_Parent K5.bB r2.Node
 obtain ⟨p1,_,p3⟩:=Cod.put_fr K5.bB { rr with Parent:=r2.Node }
 have K6:=Lib.hid (K5.row PC.out p1 p3 (show RwIn w5 { rr with Parent:=r2.Node } { x with Parent:=r2.Node,At:=rr.At,Name:=rr.Name } from K5.hr.turn r2.Node rr.At rr.Name HY.out.wn K5.hr.nm) K5.qr)
 clear p1 p3 K5
 go_upto_region 18 with fail
 generalize codR.put _ _ _ = w6 at K6 ⊢
 clear s1 qn
 have qc:=(rwAt (Cod.bxd_rd K6.out.bB)).name
 have zc:=(Cod.bxd_blk K6.out.bB).frozen 6
 have p1:=Cod.set_fr w6 U 6 (.string (str (lastN q)))
 have p3:=Cod.bxd_set K6.out.bB 6 (.string (str (lastN q))) _ (wse_Name _ _)
 have K7b:=Lib.hid (K6.out.row PC.out p1 p3 (show RwIn w6 { rr with Parent:=r2.Node,Name:=lastN q } { x with Parent:=r2.Node,At:=rr.At,Name:=lastN q } from K6.out.hr.turn r2.Node rr.At (lastN q) HY.out.wn HLL.out) K6.out.qr)
 clear p1 p3
 go_upto_region 19 with fail
 generalize World.setCell _ ⟨U,6,none⟩ _ = w7 at K7b ⊢
 clear qc zc
 have qn:=(dvAt (Cod.bxd_rd K7b.out.bP)).next
 rw [K7b.out.next] at qn
 have s2:=wst_At K7b.out.bB D.next
 obtain ⟨p1,_,p3⟩:=Cod.put_fr K7b.out.bB { rr with Parent:=r2.Node,Name:=lastN q,At:=D.next }
 have K8b:=Lib.hid (K7b.out.row PC.out p1 p3 (show RwIn w7 { rr with Parent:=r2.Node,Name:=lastN q,At:=D.next } { x with Parent:=r2.Node,At:=D.next,Name:=lastN q } from K7b.out.hr.turn r2.Node D.next (lastN q) HY.out.wn HLL.out) K7b.out.qr)
 clear p1 p3
 go_upto_region 20 with fail
 generalize codR.put _ _ _ = w8 at K8b ⊢
 clear s2 qn
 have q7:=(dvAt (Cod.bxd_rd K8b.out.bP)).rows
 have r7:=Cod.bxd_rd K8b.out.bB
 have PT:=Lib.hid (rput_any w8 d.A d.c d.n rs K8b.out.n K8b.out.sl (by have:=K8b.out.rows.len;have:=HT.out.len;omega) { rr with Parent:=r2.Node,Name:=lastN q,At:=D.next })
 have hz:=rws_putG K8b.out.hr K8b.out.rows
 rw [putG_eq (riseR_pw HT.out.rise) (.inl (by show (findR D.rows x.Node).isSome = true;rw [HT.out.find HX.out];rfl))] at hz
 have HZ:=Lib.hid hz
 have HL:=Lib.hid (And.intro (Cod.bxd_lt K8b.out.bP) (And.intro (Cod.bxd_lt K8b.out.bB) (Cod.bxd_lt K8b.out.bR)))
 have HMQ:=Lib.hid K8b.out.memq
 generalize putG RwW.Node _ false rs = ls at PT HZ HMQ
 clear hz
 go_upto_region 21 with (go_at_call 34;refine PT.out.mono ?_;rintro e w9 ⟨A8,c8,rfl,o8,f8⟩;have q8:=cell_fr0 q7 f8;have hf8:=(Cod.bxd_blk (Cod.bxd_fr0 K8b.out.bP f8)).frozen 0)
 have K9b:=Lib.hid (PvK.setRows (K8b.out.fr0 f8) PC.out o8 HL.out (HZ.out.fr f8) HMQ.out)
 clear o8 f8 q8 hf8 q7 r7
 generalize World.setCell _ ⟨P,0,none⟩ _ = w10 at K9b ⊢
 have qT:=(dvAt (Cod.bxd_rd K9b.out.bP)).T
 rw [K9b.out.next] at qT
 have hfz:=(Cod.bxd_blk K9b.out.bP).frozen 1
 have K10:=Lib.hid (K9b.out.tick PC.out)
 go_upto_region 22 with fail
 generalize World.setCell _ ⟨P,1,none⟩ _ = w11 at K10 ⊢
 clear qT hfz
 have qp:=Cod.bxd_rd K10.out.bP
 have hst:=okDv.stR_box K10.out.bR { d with A:=A8,n:=ls.length,c:=c8,next:=tickD D.next 1 }
 obtain ⟨p1,_,p3⟩:=Cod.put_fr K10.out.bR { d with A:=A8,n:=ls.length,c:=c8,next:=tickD D.next 1 }
 have HBX:=Lib.hid p3
 have HFE:=Lib.hid (K10.out.fin PC.out p1 0)
 clear p1 p3 hwT
 go_wp2_with fail
 refine bodyPost_ret (ret_row_tmp okDv rfl _ _ _ _ (by rfl) HBX.out) rfl ?_
 rw [HN.out]
 have:=HFE.out
 rw [← HY.out.node] at this
 exact this
end Go.Proofs.YthehiobacjjakaaGreatDoor
