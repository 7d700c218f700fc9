/- Contract: pollardref17 Put. (rdI ex_ldS_at ex_ldR_at ex_bldRw_at) -/
import Derived.Test.YthehiobacjjakaaGreatDoorRfMKp
import Derived.Test.YthehiobacjjakaaGreatDoorWlGKp
set_option linter.unusedVariables false
set_option linter.unusedSimpArgs false
namespace Go.Proofs.YthehiobacjjakaaGreatDoor
open Go.RowKit Go.Maps Go.Sort
theorem ex_bldRw_at {ρ:Operand → Value} {o:Oper} {x y z v:Operand} {w:World} {s t u:St} {m:List UInt8} (ho:o.op = .build 60 #[(0,x),(1,y),(2,z),(3,v)]) (hx:ρ x = .agg (codS.A s)) (hy:ρ y = .agg (codS.A t)) (hz:ρ z = .agg (codS.A u)) (hv:ρ v = .string (str m)) :
  (execOp ρ o).run Tryz.prog w = .ok (.value (.agg (codR.A ⟨s,t,u,m,none,0,0⟩))) w:=by
 refine ex_buildG 60 ρ o #[(0,x),(1,y),(2,z),(3,v)] w w _ ho ?_
 have:=bldRw w s t u m
 simpa [hx,hy,hz,hv] using this
@[simp ↓] theorem ex_bldHdV (ρ:Operand → Value) (x0 x1:Operand) (d:Option Nat) (t:TypeId) (p:String) (f:Array Edge) (g:Option (Nat × Bool)) (w:World) :
  (execOp ρ { dst:=d,op:=.build 78 #[(0,x0),(1,x1)],type:=t,pos:=p,after:=f,guard:=g }).run Tryz.prog w = mkB 78 w [(0,ρ x0),(1,ρ x1)]:=(exB ρ _ _ _ rfl w).trans (by simp only [List.map_toArray,List.map_cons,List.map_nil])
@[simp] theorem mkB_HdV (w:World) (s:St) (x:ID):mkB 78 w [(0,.agg (codS.A s)),(1,encI x)] = .ok (.value (.agg (codH.A ⟨s,x⟩))) w:=mkB_ok (bldHd2 w s x)
theorem dv_nostr {w:World} {P o:Nat} {d:DfW} {s:ByteArray} (h:codDv.bxd w P = some d) (hc:w.cell? ⟨P,o,none⟩ = some (.string s)):False:=by
 rw [(Cod.bxd_blk h).cell] at hc
 change (csDf d)[o]? = _ at hc
 unfold csDf at hc
 rcases o with _ | _ | _ | o <;> simp at hc
structure PtV (V:World) (N:Nat → Prop) (P U R Q:Nat) (A5:Option Addr) (x:ID) (l:List (List UInt8)) (X:Dft × RwP) (wr:World) (d:DfW) (rs:List RwW) (r:RwW):Prop where
 k:PvK V N P U R X.1 X.2 wr d rs r
 id:rdI wr Q 0 = some x
 sl:Sl wr A5 (codX.row l)
structure PtW (V:World) (N:Nat → Prop) (P U R Q:Nat) (A5:Option Addr):Prop where
 c:PvC V N P U R
 q:Q ≠ P ∧ Q ≠ U ∧ Q ≠ R
 a:∀ g,A5.map (·.block) = some g → g ≠ P ∧ g ≠ U ∧ g ≠ R
section
variable {V wr w':World} {N:Nat → Prop} {P U R Q:Nat} {A5:Option Addr} {x:ID} {l:List (List UInt8)} {X:Dft × RwP} {d:DfW} {rs:List RwW} {r:RwW}
theorem PtV.fr0 (h:PtV V N P U R Q A5 x l X wr d rs r) (f:Fr noB wr w'):PtV V N P U R Q A5 x l X w' d rs r:=⟨h.k.fr0 f,rdI_fr0 h.id f,h.sl.fr0 f⟩
theorem PtV.on {M:Nat → Prop} (h:PtV V N P U R Q A5 x l X wr d rs r) (c:PtW V N P U R Q A5) (f:Fr M wr w') (hM:∀ b,M b → b = P ∨ b = U ∨ b = R) {X':Dft × RwP} {d':DfW} {rs':List RwW} {r':RwW} (k:PvK V N P U R X'.1 X'.2 w' d' rs' r'):PtV V N P U R Q A5 x l X' w' d' rs' r' :=
 ⟨k,rdI_fr h.id (rdI_lt h.id) f (fun e=>by have:=c.q;rcases hM _ e with e | e | e <;> omega),h.sl.fr f (fun a e hb=>by
  have:=c.a a.block (by rw [e];rfl)
  rcases hM _ hb with e | e | e <;> omega)⟩
end
set_option maxRecDepth 100000 in
set_option maxHeartbeats 8000000 in
theorem rrput_any (w:World) (d:DfW) (rs:List RwW) (D:Dft) (h:Dv w d rs D) (N:Nat → Prop) (hQ:∀ b,N b → b < w.heap.size) (hO:OffR N d rs) (ht:TreeOk D.rows) (hw:wfS D.next = true) (p:List UInt8) (hp:p.length ≤ 3000000) (x:ID) :
  Calls Tryz.prog 12 #[.agg (codDv.A d),.string (str p),encI x] w (DvTo N w (putF D p x)):=by
 have f0:Fr noB w (w.alloc (.cells (codDv.A d) 30)):=(Fr.refl noB w).alloc _
 have b0:codDv.bxd (w.alloc (.cells (codDv.A d) 30)) w.heap.size = some d:=Cod.bxd_box (C:=codDv) w d
 generalize hw0:w.alloc (.cells (codDv.A d) 30) = w0 at f0 b0
 have HZ:=Lib.hid (show w0.heap.size = w.heap.size + 1 by rw [← hw0];simp)
 have HW0:=Lib.hid hw0
 have fq:Fr noB w0 (w0.alloc (aro x)):=(Fr.refl noB w0).alloc _
 have iq:rdI (w0.alloc (aro x)) w0.heap.size 0 = some x:=bxA_rd (bxA_new w0 x)
 have HZq:(w0.alloc (aro x)).heap.size = w0.heap.size + 1:=by simp
 generalize hwq:w0.alloc (aro x) = wq at fq iq HZq
 have HWq:=Lib.hid hwq
 have f1:Fr noB wq (wq.alloc (codDv.o zDfW)):=(Fr.refl noB wq).alloc _
 have b1:codDv.bxd (wq.alloc (codDv.o zDfW)) wq.heap.size = some zDfW:=Cod.bxd_new wq zDfW
 have b2:=Cod.bxd_fr0 b0 (fq.step0 f1)
 have i2:=rdI_fr0 iq f1
 have F1:=Lib.hid (f0.step0 (fq.step0 f1))
 have HZq:=Lib.hid HZq
 have HD:=Lib.hid h
 have HQQ:=Lib.hid hQ
 have HO:=Lib.hid hO
 clear hQ hO
 have HT:=Lib.hid ht
 have HP:=Lib.hid hp
 have HWN:=Lib.hid hw
 have HLE:=Lib.hid (split_lenle p)
 have HSP:=Lib.hid (List.length_pos_iff.2 (split_ne p))
 have HPF:=Lib.hid (show putF D p x = if namesOk p = false then (D,170)
 else if ((freshD D p).any fun s=>s.contains 126) = true then (D,170)
 else if x = zID then (D,1)
 else if fileD D.rows (splitD p) (walkD D.rows zRwP (splitD p)).2 = true then (D,170)
 else if freshD D p = [] ∧ (walkD D.rows zRwP (splitD p)).1.Heads = [] then (D,5)
 else if 5000 < D.rows.length + (freshD D p).length then (D,3)
 else if roomD D ((freshD D p).length + 1) = false then (D,1)
 else (⟨putR (growD D (walkD D.rows zRwP (splitD p)).1 (freshD D p)).1.rows { (growD D (walkD D.rows zRwP (splitD p)).1 (freshD D p)).2 with Heads:=[⟨(growD D (walkD D.rows zRwP (splitD p)).1 (freshD D p)).1.next,x⟩] },
  tickD (growD D (walkD D.rows zRwP (splitD p)).1 (freshD D p)).1.next 1⟩,0) from rfl)
 have HFR:=Lib.hid (show freshD D p = (splitD p).drop (walkD D.rows zRwP (splitD p)).2 from rfl)
 generalize putF D p x = res at HPF ⊢
 generalize freshD D p = fl at HPF HFR
 clear h ht hp hw f0 fq f1 b0 iq hw0 hwq
 go_enter Tryz.func12,Tryz.ntmps12
 go_upto_region 1 with fail
 rw [HW0.out,← HZ.out,HWq.out,← HZq.out]
 generalize wq.alloc (codDv.o zDfW) = w1 at b1 b2 i2 F1 ⊢
 have HS3:=Lib.hid (show w.heap.size < w0.heap.size ∧ w0.heap.size < wq.heap.size by have h1:=HZ.out;have h2:=HZq.out;omega)
 generalize wq.heap.size = R at b1 HS3 ⊢
 generalize w0.heap.size = Q at i2 HS3 ⊢
 have HPP:=Lib.hid (Nat.le_refl w.heap.size)
 generalize hP:w.heap.size = P at b2 HS3 ⊢
 have HPP:=Lib.hid (show w.heap.size ≤ P by omega)
 have HQ:=Lib.hid (show w.heap.size ≤ R by have:=HS3.out;omega)
 have B1:=Lib.hid b1
 have B2:=Lib.hid b2
 have I2:=Lib.hid i2
 have NM:=Lib.hid (rnames_any w1 p (by have:=HP.out;omega))
 have HR1:=Lib.hid (Cod.bxd_lt b1)
 clear b1 b2 i2 HW0 HZ HWq HZq hP
 go_upto_region 2 with (go_at_call 30;refine NM.out.mono ?_;rintro e w2 ⟨A2,c2,rfl,hcc,s2,f2⟩;clear hcc)
 have F2:=Lib.hid (F1.out.step0 f2)
 have S2:=Lib.hid s2
 have B3:=Lib.hid (Cod.bxd_fr0 B1.out f2)
 have B4:=Lib.hid (Cod.bxd_fr0 B2.out f2)
 have I3:=Lib.hid (rdI_fr0 I2.out f2)
 have HR2:=Lib.hid (show R < w2.heap.size by have h1:=HR1.out;have h2:=f2.size;omega)
 clear s2 f2
 cases hok:namesOk p with
 | false =>
  have HN:=Lib.hid (show res = (D,170) by rw [HPF.out,hok];rfl)
  clear hok
  have hst:=okDv.stR_box B3.out d
  have qp:=Cod.bxd_rd B4.out
  obtain ⟨p1,_,p3⟩:=Cod.put_fr B3.out d
  have HBX:=Lib.hid p3
  have HFE:=Lib.hid (Fr.step1 F2.out p1 HQ.out)
  clear p1 p3
  go_wp2_with fail
  refine bodyPost_ret (ret_row_tmp okDv rfl _ _ _ _ (by rfl) HBX.out) rfl ?_
  rw [HN.out]
  exact DvTo.of HD.out HO.out HFE.out
 | true =>
  have HPF:=Lib.hid (HPF.out.trans (if_neg (by rw [hok];decide)))
  obtain ⟨g5,o5,rfl,hc5⟩:=S2.out (by intro e;have h0:=congrArg List.length e;rw [Cod.row_len] at h0;have h1:=HSP.out;have h2:(splitD p).length * 1 = 0:=h0;omega)
  have HC5:=Lib.hid hc5
  clear hc5
  have HNK:=Lib.hid (show ∀ s ∈ splitD p,nameOk s = true from by
   have h:=hok
   unfold namesOk at h
   simp only [Bool.and_eq_true,List.all_eq_true] at h
   exact h.1.1)
  clear hok
  have WK:=Lib.hid (rwalk_any w2 d.A d.c d.n rs D.rows HD.out.n (HD.out.sl.fr0 F2.out) (by have:=HD.out.rows.len;have:=HT.out.len;omega) F2.out HD.out.rows (ok_nodes HT.out) (some ⟨g5,o5,none⟩) c2 _ (splitD p) rfl S2.out (by have:=HLE.out.1;have:=HP.out;omega))
  have HMM:=Lib.hid (walkD_mem D.rows zRwP (splitD p))
  have HNL:=Lib.hid (walkD_le D.rows zRwP (splitD p))
  obtain ⟨a,n,fb,hwf⟩:∃ r n b,walkF D.rows zRwP false (splitD p) = (r,n,b):=⟨_,_,_,rfl⟩
  obtain ⟨hwd,hfb⟩:=findD_F HT.out p hwf
  rw [hwd] at HPF HMM HFR HNL
  simp only at HPF HMM HFR HNL
  rw [← hfb] at HPF
  rw [hwf] at WK
  have q0:=(dvAt (Cod.bxd_rd B4.out)).rows
  clear hwf hwd hfb
  go_upto_region 5 with (go_at_call 31;refine WK.out.mono ?_;rintro e w3 ⟨⟨rr,rfl,hr,hrm⟩,f3⟩)
  have f4:Fr noB w3 (w3.alloc (codR.o rr)):=(Fr.refl noB w3).alloc _
  have b5:codR.bxd (w3.alloc (codR.o rr)) w3.heap.size = some rr:=Cod.bxd_new w3 rr
  have bR:=Cod.bxd_fr0 B3.out (f3.step0 f4)
  have bP:=Cod.bxd_fr0 B4.out (f3.step0 f4)
  have i4:=rdI_fr0 I3.out (f3.step0 f4)
  have s4:=S2.out.fr0 (f3.step0 f4)
  have F4:=F2.out.step0 (f3.step0 f4)
  have hU:R < w3.heap.size ∧ w2.heap.size ≤ w3.heap.size:=by have h1:=HR2.out;have h2:=f3.size;omega
  generalize w3.alloc (codR.o rr) = w4 at b5 bR bP F4 i4 s4 ⊢
  generalize w3.heap.size = U at b5 hU ⊢
  have PC:=Lib.hid (show PvC w N P U R from ⟨HQQ.out,HPP.out,by have:=HQ.out;omega,HQ.out,by have:=HS3.out;omega,by have:=HS3.out;omega,by omega⟩)
  have K:=Lib.hid (show PtV w N P U R Q (some ⟨g5,o5,none⟩) x (splitD p) (D,a) w4 d rs rr from ⟨PvK.of HD.out HO.out (OffH.mem HO.out hrm) F4 PC.out bP bR b5 (hr.fr F4),i4,s4⟩)
  have PW:=Lib.hid (show PtW w N P U R Q (some ⟨g5,o5,none⟩) from ⟨PC.out,by have:=HS3.out;omega,by
   intro g hg
   injection hg with hg
   have hg:g5 = g:=hg
   subst hg
   have hc0:=HC5.out.2 0 (.string (str (splitD p)[0])) (by rw [row_X];unfold nmsV;rw [List.getElem?_map,List.getElem?_eq_getElem HSP.out];rfl)
   have hl:=HC5.out.1
   refine ⟨fun e=>dv_nostr B4.out (by rw [← e];exact hc0),by omega,fun e=>dv_nostr B3.out (by rw [← e];exact hc0)⟩⟩)
  clear f3 f4 q0 hr hrm b5 bR bP F4 hU i4 s4
  generalize splitD p = l at HLE HSP HNK HFR K HMM HNL HPF ⊢
  have HN9:=Lib.hid (show n ≤ l.length from HNL.out)
  have H0:=Lib.hid (show ∃ i:Nat,(Value.int .i64 (n:Int)) = .int .i64 (i:Int) ∧ l.length - n = l.length - i ∧ n ≤ i ∧ i ≤ l.length ∧ Fr noB w4 w4 ∧ (∀ j (hj:j < l.length),n ≤ j → j < i → l[j].contains 126 = false) from ⟨n,rfl,rfl,Nat.le_refl _,HN9.out,Fr.refl _ _,fun j _ h1 h2=>absurd h1 (by omega)⟩)
  go_wp2_with fail
  go_loopg [13] (l.length - n) (fun gk iv wr=>∃ i:Nat,iv = .int .i64 (i:Int) ∧ gk = l.length - i ∧ n ≤ i ∧ i ≤ l.length ∧ Fr noB w4 wr ∧ (∀ j (hj:j < l.length),n ≤ j → j < i → l[j].contains 126 = false))
  case atStart=>exact H0.out
  case round =>
   clear H0
   obtain ⟨i,rfl,rfl,hni,hil,hf,hno⟩:=hrel
   have HF:=Lib.hid hf
   have HNO:=Lib.hid hno
   have HNI:=Lib.hid hni
   have HK:=Lib.hid (K.out.fr0 hf)
   clear hf hno hni
   by_cases hlt:i < l.length
   ·have j1:(i:Int) < (l.length:Int):=by omega
    have j0:(0:Int) ≤ (i:Int):=by omega
    obtain ⟨g,off,hA2,e3⟩:=nms_cell (l:=l) (by rw [← row_X];exact HK.out.sl) hlt
    injection hA2 with hA2
    obtain ⟨rfl,rfl⟩:g = g5 ∧ off = o5:=by
     have h1:=congrArg (·.block) hA2
     have h2:=congrArg (·.off) hA2
     exact ⟨h1.symm,h2.symm⟩
    clear hA2
    have HLT:=Lib.hid hlt
    have wi:wrap64 ((i:Int) + 1) = (i:Int) + 1:=IntWalk.wrap64_in _ (by have:=HLE.out.1;have:=HP.out;omega)
    have HST:=Lib.hid (fun (h:l[i].contains 126 = false) j (hj:j < l.length) (h1:n ≤ j) (h2:j < i + 1)=>(show l[j].contains 126 = false by
     rcases Nat.lt_succ_iff_lt_or_eq.1 h2 with h3 | rfl
     ·exact HNO.out j hj h1 h3
     ·exact h))
    have HHI:=Lib.hid (fun (h:l[i].contains 126 = true)=>(show (fl.any fun s=>s.contains 126) = true by
     rw [HFR.out,List.any_eq_true]
     exact ⟨l[i],List.mem_drop_iff_getElem.2 ⟨i - n,by have:=HNI.out;have:=HLT.out;omega,by simp only [show n + (i - n) = i by have:=HNI.out;omega] <;> rfl⟩,h⟩))
    have TL:=Lib.hid (r17tilde_any wr l[i] (by have:=HLE.out.2 _ (List.getElem_mem hlt);have:=HP.out;omega))
    generalize l[i] = nm at e3 HST HHI TL
    obtain ⟨b,hb⟩:∃ b,nm.contains 126 = b:=⟨_,rfl⟩
    rw [hb] at TL HST HHI
    clear hlt hil hb
    cases b with
    | true =>
     have HN:=Lib.hid (show res = (D,170) by rw [HPF.out,if_pos (HHI.out rfl)])
     go_upto_region 9 with (go_at_call 32;refine TL.out.mono ?_;rintro e w5 ⟨rfl,f5⟩)
     have K5:=Lib.hid (HK.out.fr0 f5)
     clear e3 f5
     have hst:=okDv.stR_box K5.out.k.bR d
     have qp:=Cod.bxd_rd K5.out.k.bP
     obtain ⟨p1,_,p3⟩:=Cod.put_fr K5.out.k.bR d
     have HBX:=Lib.hid p3
     have HFE:=Lib.hid (Fr.step1 K5.out.k.fr p1 HQ.out)
     clear p1 p3
     go_wp2_with fail
     refine bodyPost_ret (ret_row_tmp okDv rfl _ _ _ _ (by rfl) HBX.out) rfl ?_
     rw [HN.out]
     exact DvTo.of HD.out HO.out HFE.out
    | false =>
     go_wp2_with (go_at_call 32;refine TL.out.mono ?_;rintro e w5 ⟨rfl,f5⟩)
     go_roundg (l.length - (i + 1))
     case measure=>have:=HLT.out;omega
     case rel=>exact ⟨i + 1,by first | exact congrArg (Value.int .i64) wi | simp,rfl,by have:=HNI.out;omega,by have:=HLT.out;omega,HF.out.step0 f5,HST.out (by first | rfl | trivial)⟩
   ·have j1:¬ (i:Int) < (l.length:Int):=by omega
    have HFA:=Lib.hid (show (fl.any fun s=>s.contains 126) = false by
     rw [HFR.out,List.any_eq_false]
     intro s hs
     obtain ⟨j,hj,rfl⟩:=List.mem_drop_iff_getElem.1 hs
     rw [HNO.out (n + j) (by omega) (by omega) (by omega)]
     simp)
    have HPF:=Lib.hid (HPF.out.trans (if_neg (by rw [HFA.out];decide)))
    have HFL:=Lib.hid (show fl.length = l.length - n by rw [HFR.out,List.length_drop])
    have HKN:=Lib.hid (show ∀ s ∈ fl,nameOk s = true from fun s hs=>HNK.out s (by rw [HFR.out] at hs;exact List.mem_of_mem_drop hs))
    have HGT:=Lib.hid (show ∀ k (hk:k < fl.length) (hk2:n + k < l.length),fl[k] = l[n + k] by intro k hk hk2;simp only [HFR.out,List.getElem_drop])
    clear hlt hil HNO HNI
    have i9:=HK.out.id
    by_cases hz:x = zID
    ·have hd:decide (x = zID) = true:=decide_eq_true hz
     have HN:=Lib.hid (show res = (D,1) by rw [HPF.out,if_pos hz])
     clear hz
     have hst:=okDv.stR_box HK.out.k.bR d
     have qp:=Cod.bxd_rd HK.out.k.bP
     obtain ⟨p1,_,p3⟩:=Cod.put_fr HK.out.k.bR d
     have HBX:=Lib.hid p3
     have HFE:=Lib.hid (Fr.step1 HK.out.k.fr p1 HQ.out)
     clear p1 p3
     go_wp2_with fail
     refine bodyPost_ret (ret_row_tmp okDv rfl _ _ _ _ (by rfl) HBX.out) rfl ?_
     rw [HN.out]
     exact DvTo.of HD.out HO.out HFE.out
    have hd:decide (x = zID) = false:=decide_eq_false hz
    have HPF:=Lib.hid (HPF.out.trans (if_neg hz))
    clear hz
    cases fb with
    | true =>
     have HN:=Lib.hid (show res = (D,170) by rw [HPF.out,if_pos rfl])
     have hst:=okDv.stR_box HK.out.k.bR d
     have qp:=Cod.bxd_rd HK.out.k.bP
     obtain ⟨p1,_,p3⟩:=Cod.put_fr HK.out.k.bR d
     have HBX:=Lib.hid p3
     have HFE:=Lib.hid (Fr.step1 HK.out.k.fr p1 HQ.out)
     clear p1 p3
     go_wp2_with fail
     refine bodyPost_ret (ret_row_tmp okDv rfl _ _ _ _ (by rfl) HBX.out) rfl ?_
     rw [HN.out]
     exact DvTo.of HD.out HO.out HFE.out
    | false =>
    have HPF:=Lib.hid (HPF.out.trans (if_neg (by decide)))
    go_upto_region 14 with fail
    clear i9 hd
    have qh:=(rwAt (Cod.bxd_rd HK.out.k.bB)).heads
    have HHL:=Lib.hid (show a.Heads.length = rr.n from HK.out.k.hr.len)
    by_cases h5:n = l.length ∧ rr.n = 0
    ·have HN:=Lib.hid (show res = (D,5) by rw [HPF.out,if_pos ⟨List.length_eq_zero_iff.1 (by have:=HFL.out;omega),List.length_eq_zero_iff.1 (by have:=HHL.out;omega)⟩])
     have e1:((n:Int) == (l.length:Int)) = true:=by rw [h5.1];simp
     have e2:((rr.n:Int) == 0) = true:=by rw [h5.2];rfl
     clear h5
     have hst:=okDv.stR_box HK.out.k.bR d
     have qp:=Cod.bxd_rd HK.out.k.bP
     obtain ⟨p1,_,p3⟩:=Cod.put_fr HK.out.k.bR d
     have HBX:=Lib.hid p3
     have HFE:=Lib.hid (Fr.step1 HK.out.k.fr p1 HQ.out)
     clear p1 p3
     go_wp2_with fail
     refine bodyPost_ret (ret_row_tmp okDv rfl _ _ _ _ (by rfl) HBX.out) rfl ?_
     rw [HN.out]
     exact DvTo.of HD.out HO.out HFE.out
    have HPF:=Lib.hid (HPF.out.trans (if_neg (by
     rintro ⟨h1,h2⟩
     have h3:=congrArg List.length h1
     have h4:=congrArg List.length h2
     simp only [List.length_nil] at h3 h4
     exact h5 ⟨by have:=HFL.out;have:=HN9.out;omega,by have:=HHL.out;omega⟩)))
    have H5:=Lib.hid h5
    clear h5
    go_cut [59] from 50 (fun v wx=>v = .bool false ∧ wr = wx)
    case first =>
     by_cases h1:n = l.length
     ·have e1:((n:Int) == (l.length:Int)) = true:=by rw [h1];simp
      have e2:((rr.n:Int) == 0) = false:=by have:=H5.out;simp;omega
      clear h1
      go_wp2_with fail
      go_meet
      exact ⟨rfl,rfl⟩
     ·have e1:((n:Int) == (l.length:Int)) = false:=by simp;omega
      clear h1
      go_wp2_with fail
      go_meet
      exact ⟨rfl,rfl⟩
    case rest =>
    obtain ⟨rfl,rfl⟩:=hcut
    clear qh
    have qr:=(dvAt (Cod.bxd_rd HK.out.k.bP)).rows
    have HRL:=Lib.hid (show rs.length = D.rows.length from HK.out.k.rows.len)
    have HDN:=Lib.hid (show rs.length = d.n from HK.out.k.n)
    have hN5:=HT.out.len
    have c1:wrap64 ((d.n:Int) + (l.length:Int)) = (d.n:Int) + (l.length:Int):=IntWalk.wrap64_in _ (by have:=HLE.out.1;have:=HP.out;have:=HRL.out;have:=HDN.out;omega)
    have c2':wrap64 ((d.n:Int) + (l.length:Int) - (n:Int)) = (d.n:Int) + (l.length:Int) - (n:Int):=IntWalk.wrap64_in _ (by have:=HLE.out.1;have:=HP.out;have:=HRL.out;have:=HDN.out;have:=HN9.out;omega)
    clear hN5
    by_cases h6:5000 < D.rows.length + fl.length
    ·have c3:(5000:Int) < (d.n:Int) + (l.length:Int) - (n:Int):=by have:=HFL.out;have:=HN9.out;have:=HRL.out;have:=HDN.out;omega
     have HN:=Lib.hid (show res = (D,3) by rw [HPF.out,if_pos h6])
     clear h6
     have hst:=okDv.stR_box HK.out.k.bR d
     have qp:=Cod.bxd_rd HK.out.k.bP
     obtain ⟨p1,_,p3⟩:=Cod.put_fr HK.out.k.bR d
     have HBX:=Lib.hid p3
     have HFE:=Lib.hid (Fr.step1 HK.out.k.fr p1 HQ.out)
     clear p1 p3
     go_wp2_with fail
     refine bodyPost_ret (ret_row_tmp okDv rfl _ _ _ _ (by rfl) HBX.out) rfl ?_
     rw [HN.out]
     exact DvTo.of HD.out HO.out HFE.out
    have c3:¬ (5000:Int) < (d.n:Int) + (l.length:Int) - (n:Int):=by have:=HFL.out;have:=HN9.out;have:=HRL.out;have:=HDN.out;omega
    have HPF:=Lib.hid (HPF.out.trans (if_neg h6))
    have H6:=Lib.hid (show D.rows.length + fl.length ≤ 5000 by omega)
    clear h6
    go_upto_region 18 with fail
    clear c1 c2' c3 qr
    have q0:=Cod.bxd_rd HK.out.k.bP
    have d1:wrap64 ((l.length:Int) - (n:Int)) = (l.length:Int) - (n:Int):=IntWalk.wrap64_in _ (by have:=HLE.out.1;have:=HP.out;have:=HN9.out;omega)
    have d2:wrap64 ((l.length:Int) - (n:Int) + 1) = (l.length:Int) - (n:Int) + 1:=IntWalk.wrap64_in _ (by have:=HLE.out.1;have:=HP.out;have:=HN9.out;omega)
    have RM:=rroom_any wr d rs D (HD.out.fr HK.out.k.fr) (by have:=HD.out.rows.len;have:=HT.out.len;omega) (fl.length + 1) (by have:=H6.out;omega)
    rw [show ((fl.length + 1:Nat):Int) = (l.length:Int) - (n:Int) + 1 by have:=HFL.out;have:=HN9.out;omega] at RM
    have RM:=Lib.hid RM
    cases hrm:roomD D (fl.length + 1) with
    | false =>
     have HRM:=Lib.hid hrm
     have HN:=Lib.hid (show res = (D,1) by rw [HPF.out,hrm];rfl)
     clear hrm
     go_upto_region 19 with (go_at_call 33;refine RM.out.mono ?_;rintro e w5 ⟨rfl,f5⟩;rw [HRM.out])
     have K5:=Lib.hid (HK.out.k.fr0 f5)
     clear f5 q0 d1 d2
     have hst:=okDv.stR_box K5.out.bR d
     have qp:=Cod.bxd_rd K5.out.bP
     obtain ⟨p1,_,p3⟩:=Cod.put_fr K5.out.bR d
     have HBX:=Lib.hid p3
     have HFE:=Lib.hid (Fr.step1 K5.out.fr p1 HQ.out)
     clear p1 p3
     go_wp2_with fail
     refine bodyPost_ret (ret_row_tmp okDv rfl _ _ _ _ (by rfl) HBX.out) rfl ?_
     rw [HN.out]
     exact DvTo.of HD.out HO.out HFE.out
    | true =>
    have HRM:=Lib.hid hrm
    have HN:=Lib.hid (HPF.out.trans (if_neg (by rw [hrm];decide)))
    clear hrm HPF
    go_upto_region 20 with (go_at_call 33;refine RM.out.mono ?_;rintro e w5 ⟨rfl,f5⟩;rw [HRM.out])
    have K5:=Lib.hid (HK.out.fr0 f5)
    clear f5 q0 d1 d2 RM HK K
    have HGA:=Lib.hid (fun k (hk:k ≤ fl.length)=>grw_all (a:=a) HT.out HRM.out HKN.out H6.out (by rcases HMM.out with h | h;exact .inl h.1;exact .inr h) k hk)
    have HWS:=Lib.hid (fun k (hk:k < fl.length + 1)=>rightS_wf (room_right HRM.out k hk))
    have HPLT:=Lib.hid (show ∀ k,k ≤ fl.length → (growD D a (fl.take k)).1.rows.length ≤ 5000 from fun k hk=>(HGA.out k hk).tree.len)
    have H0:=Lib.hid (show ∃ (i k:Nat) (d':DfW) (rs':List RwW) (r':RwW),(Value.int .i64 (n:Int)) = .int .i64 (i:Int) ∧ i = n + k ∧ fl.length = fl.length - k ∧ k ≤ fl.length ∧ PtV w N P U R Q (some ⟨g5,o5,none⟩) x l (growD D a (fl.take k)) w5 d' rs' r' from ⟨n,0,d,rs,rr,rfl,rfl,rfl,Nat.zero_le _,K5.out⟩)
    clear K5
    go_wp2_with fail
    go_loopg [14] fl.length (fun gk iv wr=>∃ (i k:Nat) (d':DfW) (rs':List RwW) (r':RwW),iv = .int .i64 (i:Int) ∧ i = n + k ∧ gk = fl.length - k ∧ k ≤ fl.length ∧ PtV w N P U R Q (some ⟨g5,o5,none⟩) x l (growD D a (fl.take k)) wr d' rs' r')
    case atStart=>exact H0.out
    case round =>
     clear H0
     obtain ⟨i,k,d5,rs5,r5,rfl,hik,rfl,hk,hK⟩:=hrel
     have HIK:=Lib.hid hik
     have GK:=Lib.hid (HGA.out k hk)
     have HLX:=Lib.hid (HPLT.out k hk)
     by_cases hlt:k < fl.length
     ·have j1:(i:Int) < (l.length:Int):=by have:=HFL.out;have:=HN9.out;omega
      have j0:(0:Int) ≤ (i:Int):=by omega
      have wi:wrap64 ((i:Int) + 1) = (i:Int) + 1:=IntWalk.wrap64_in _ (by have:=HLE.out.1;have:=HP.out;have:=HFL.out;have:=HN9.out;omega)
      obtain ⟨g,off,hA2,e3⟩:=nms_cell (l:=l) (k:=i) (by rw [← row_X];exact hK.sl) (by have:=HFL.out;have:=HN9.out;omega)
      injection hA2 with hA2
      obtain ⟨rfl,rfl⟩:g = g5 ∧ off = o5:=by
       have h1:=congrArg (·.block) hA2
       have h2:=congrArg (·.off) hA2
       exact ⟨h1.symm,h2.symm⟩
      clear hA2
      have hgt:=HGT.out k hlt (by have:=HFL.out;have:=HN9.out;omega)
      simp only [← hik] at hgt
      have HSN:=Lib.hid (show growD D a (fl.take (k + 1)) = _ by rw [List.take_succ_eq_append_getElem hlt,growD_snoc (fl.take k) D a fl[k]])
      have HNL5:=Lib.hid (show fl[k].length ≤ 140737488355328 from by rw [hgt];have:=HLE.out.2 _ (List.getElem_mem (show i < l.length by have:=HFL.out;have:=HN9.out;omega));have:=HP.out;omega)
      rw [← hgt] at e3
      generalize fl[k] = nm at e3 HSN HNL5
      have HLT:=Lib.hid hlt
      clear hgt hlt hk hik
      generalize growD D a (fl.take k) = X at hK GK HSN HLX
      have hT:=GK.out.T HRM.out (by have:=HLT.out;omega)
      have hwT:wrap64 (X.1.next.T + 1) = X.1.next.T + 1:=IntWalk.wrap64_in _ (by omega)
      have HWX:=Lib.hid (show wfS X.1.next = true by have:=HWS.out k (by have:=HLT.out;omega);rw [← GK.out.next] at this;exact this)
      have HK:=Lib.hid hK
      clear hT hK
      go_upto_region 23 with fail
      have fd:Fr noB wr wr.drew:=(Fr.refl noB _).drew
      have qn:=(dvAt (Cod.bxd_rd (Cod.bxd_fr0 HK.out.k.bP fd))).next
      rw [HK.out.k.next] at qn
      have hF0:(fun w':World=>codS.rd w' P 1 = some X.1.next ∧ codS.rd w' U 0 = some r5.Node ∧ w'.cell? ⟨g,off + i,none⟩ = some (.string (str nm))) wr.drew:=⟨qn,(rwAt (Cod.bxd_rd (Cod.bxd_fr0 HK.out.k.bB fd))).node,cell_fr0 e3 fd⟩
      have HK:=Lib.hid (HK.out.fr0 fd)
      clear e3 qn fd
      refine wp_region_M 11 12 [⟨154742504910672534362390528,8,0⟩,⟨309485009821345068724781056,154742504910672534362390528,1⟩,⟨618970019642690137449562112,1024,0⟩,⟨1237940039285380274899124224,618970019642690137449562112,4⟩,⟨2475880078570760549798248448,8,0⟩,⟨4951760157141521099596496896,2475880078570760549798248448,16⟩,⟨9903520314283042199192993792,256,0⟩,⟨19807040628566084398385987584,16384,0⟩,⟨39614081257132168796771975168,29710560942849126597578981376,192⟩,⟨79228162514264337593543950336,39614081257132168796771975168,256⟩,⟨158456325028528675187087900672,85727347720512584036764352512,554⟩,⟨0,158456325028528675187087901696,2047⟩] [(true,0),(true,1),(true,2),(true,3),(true,4),(true,5),(true,6),(true,7),(true,8),(true,9),(true,10)] (fun w'=>codS.rd w' P 1 = some X.1.next ∧ codS.rd w' U 0 = some r5.Node ∧ w'.cell? ⟨g,off + i,none⟩ = some (.string (str nm))) (by kernel_rfl) rfl (by kernel_rfl) (by kernel_rfl) (by kernel_rfl) hF0 (fun hA hF=>?_)
      clear hF0
      generalize wr.drew = w6 at hF HK ⊢
      iterate 11
       refine wpAnyS_take (v:=?_) hA rfl (fun _ _ _ h=>h) (Or.inl ⟨by rfl,?_⟩) hF (fun hA=>?_)
       rotate_left
       ·intro wS hSw;(try dsimp only at hSw);obtain ⟨s1,s2,s3⟩:=hSw;first | (apply Eq.trans;apply ex_ld_id;exact rfl;exact rfl;assumption;with_reducible rfl) | (apply Eq.trans;apply ex_ldR_at;exact rfl;exact rfl;assumption;with_reducible rfl) | (apply Eq.trans;apply ex_ldS_at;exact rfl;exact rfl;assumption;with_reducible rfl) | (apply Eq.trans;apply ex_bldRw_at;exact rfl;exact rfl;exact rfl;exact rfl;exact rfl;with_reducible rfl) | (go_simp;try with_reducible rfl)
       try simp only [sA1,sA2,sA3,Act.put,sA4,sA5,sA6]
      refine wpAnyS_end hA rfl ?_
      simp only [List.drop_succ_cons,List.drop_zero]
      clear hF
      have st:=okR.stR_box HK.out.k.bB ⟨X.1.next,r5.Node,X.1.next,nm,none,0,0⟩
      obtain ⟨p1,_,p3⟩:=Cod.put_fr HK.out.k.bB ⟨X.1.next,r5.Node,X.1.next,nm,none,0,0⟩
      have K7:=Lib.hid (HK.out.on PW.out p1 (fun b e=>.inr (.inl e)) (X':=(X.1,⟨X.1.next,X.2.Node,X.1.next,nm,[]⟩)) (HK.out.k.row PC.out p1 p3 (show RwIn w6 _ ⟨X.1.next,X.2.Node,X.1.next,nm,[]⟩ from ⟨by rw [HK.out.k.hr.node];rfl,rfl,Sl.nil _ _,by simp,HNL5.out,HWX.out,HK.out.k.hr.wn⟩) (fun h=>absurd rfl h)))
      clear p1 p3
      go_upto_region 24 with fail
      clear st
      generalize codR.put _ _ _ = w7 at K7 ⊢
      have q7:=(dvAt (Cod.bxd_rd K7.out.k.bP)).rows
      have r7:=Cod.bxd_rd K7.out.k.bB
      have PT:=Lib.hid (rput_any w7 d5.A d5.c d5.n rs5 K7.out.k.n K7.out.k.sl (by have h1:rs5.length = X.1.rows.length:=K7.out.k.rows.len;have:=HLX.out;omega) ⟨X.1.next,r5.Node,X.1.next,nm,none,0,0⟩)
      have hz:=rws_putG K7.out.k.hr K7.out.k.rows
      rw [putG_eq (riseR_pw GK.out.tree.rise) (.inr GK.out.lt)] at hz
      have HZ:=Lib.hid hz
      have HL:=Lib.hid (And.intro (Cod.bxd_lt K7.out.k.bP) (And.intro (Cod.bxd_lt K7.out.k.bB) (Cod.bxd_lt K7.out.k.bR)))
      have HMQ:=Lib.hid K7.out.k.memq
      generalize putG RwW.Node _ false rs5 = ls at PT HZ HMQ
      clear hz
      go_upto_region 25 with (go_at_call 34;refine PT.out.mono ?_;rintro e w8 ⟨A8,c8,rfl,o8,f8⟩;have q8:=cell_fr0 q7 f8;have hf8:=(Cod.bxd_blk (Cod.bxd_fr0 K7.out.k.bP f8)).frozen 0)
      have K8a:=K7.out.fr0 f8
      have K8:=Lib.hid (K8a.on PW.out (Cod.set_fr _ _ _ _) (fun b e=>.inl e) (X':=(⟨putR X.1.rows ⟨X.1.next,X.2.Node,X.1.next,nm,[]⟩,X.1.next⟩,⟨X.1.next,X.2.Node,X.1.next,nm,[]⟩)) (PvK.setRows K8a.k PC.out o8 HL.out (HZ.out.fr f8) HMQ.out))
      clear o8 f8 q8 hf8 q7 r7 K8a
      generalize w8.setCell _ _ = w9 at K8 ⊢
      have qT:=(dvAt (Cod.bxd_rd K8.out.k.bP)).T
      rw [K8.out.k.next] at qT
      have hfz:=(Cod.bxd_blk K8.out.k.bP).frozen 1
      have K9:=Lib.hid (K8.out.on PW.out (Cod.set_fr _ _ _ _) (fun b e=>.inl e) (X':=(⟨putR X.1.rows ⟨X.1.next,X.2.Node,X.1.next,nm,[]⟩,tickD X.1.next 1⟩,⟨X.1.next,X.2.Node,X.1.next,nm,[]⟩)) (K8.out.k.tick PC.out))
      go_wp2_with fail
      go_roundg (fl.length - (k + 1))
      case measure=>have:=HLT.out;omega
      case rel=>exact ⟨i + 1,k + 1,_,_,_,by first | exact congrArg (Value.int .i64) wi | simp,by have:=HIK.out;omega,rfl,by have:=HLT.out;omega,by rw [HSN.out];exact K9.out⟩
     ·have j1:¬ (i:Int) < (l.length:Int):=by have:=HFL.out;have:=HN9.out;omega
      have hke:k = fl.length:=by omega
      rw [hke,List.take_length] at hK GK
      have HEM:=Lib.hid (show (growD D a fl).2 ∈ (growD D a fl).1.rows from by
       rcases GK.out.mem with ⟨h1,h2⟩ | h
       ·have he:fl = []:=List.length_eq_zero_iff.1 (by omega)
        rw [h2,he]
        rcases HMM.out with h3 | h3
        ·have h4:=HSP.out;have h5:=HFL.out;have h6:=h3.2;omega
        ·exact h3
       ·exact h)
      have HK:=Lib.hid hK
      generalize growD D a fl = X at HK GK HEM HN
      have hT:=GK.out.T HRM.out (by omega)
      have hwT:wrap64 (X.1.next.T + 1) = X.1.next.T + 1:=IntWalk.wrap64_in _ (by omega)
      clear hT hK hke hlt hk hik
      go_upto_region 26 with fail
      have i9:=HK.out.id
      have qn:=(dvAt (Cod.bxd_rd HK.out.k.bP)).next
      rw [HK.out.k.next] at qn
      have fa:Fr noB wr (wr.alloc (codH.ro [⟨X.1.next,x⟩])):=(Fr.refl noB wr).alloc _
      have K2:=HK.out.fr0 fa
      have hsl:=Cod.sl_new (C:=codH) wr [⟨X.1.next,x⟩]
      have q7:=(rwAt (Cod.bxd_rd K2.k.bB)).heads
      have z7:=(Cod.bxd_blk K2.k.bB).frozen 7
      have n3:=Cod.bxd_set K2.k.bB 7 (.slice (some ⟨wr.heap.size,0,none⟩) 1 1) _ (seR_Heads _ _ _ _)
      have p3:=Cod.set_fr (wr.alloc (codH.ro [⟨X.1.next,x⟩])) U 7 (.slice (some ⟨wr.heap.size,0,none⟩) 1 1)
      have hro:RwIn (wr.alloc (codH.ro [⟨X.1.next,x⟩])) { r5 with A:=some ⟨wr.heap.size,0,none⟩,n:=1,c:=1 } { X.2 with Heads:=[⟨X.1.next,x⟩] } :=
       ⟨by have e:=K2.k.hr.eq;rw [e];rfl,rfl,hsl,by simp,K2.k.hr.nm,K2.k.hr.wn,K2.k.hr.wp⟩
      have K3:=Lib.hid (K2.on PW.out p3 (fun b e=>.inr (.inl e)) (X':=(X.1,{ X.2 with Heads:=[⟨X.1.next,x⟩] })) (K2.k.row PC.out p3 n3 hro (fun _ b e hb=>by injection e with e;have e:wr.heap.size = b:=e;have h1:=HQQ.out b hb;have h2:=HK.out.k.fr.size;omega)))
      clear fa K2 hsl n3 p3 hro
      go_upto_region 27 with fail
      generalize World.setCell _ ⟨U,7,none⟩ _ = w7 at K3 ⊢
      generalize wr.heap.size = H at K3 ⊢
      clear i9 qn q7 z7
      have q7:=(dvAt (Cod.bxd_rd K3.out.k.bP)).rows
      have r7:=Cod.bxd_rd K3.out.k.bB
      have PT:=Lib.hid (rput_any w7 d5.A d5.c d5.n rs5 K3.out.k.n K3.out.k.sl (by have h1:rs5.length = X.1.rows.length:=K3.out.k.rows.len;have:=GK.out.tree.len;omega) { r5 with A:=some ⟨H,0,none⟩,n:=1,c:=1 })
      have hz:=rws_putG K3.out.k.hr K3.out.k.rows
      rw [putG_eq (riseR_pw GK.out.tree.rise) (.inl (by show (findR X.1.rows X.2.Node).isSome = true;rw [GK.out.tree.find HEM.out];rfl))] at hz
      have HZ:=Lib.hid hz
      have HL:=Lib.hid (And.intro (Cod.bxd_lt K3.out.k.bP) (And.intro (Cod.bxd_lt K3.out.k.bB) (Cod.bxd_lt K3.out.k.bR)))
      have HMQ:=Lib.hid K3.out.k.memq
      generalize putG RwW.Node _ false rs5 = ls at PT HZ HMQ
      clear hz
      go_upto_region 28 with (go_at_call 34;refine PT.out.mono ?_;rintro e w8 ⟨A8,c8,rfl,o8,f8⟩;have q8:=cell_fr0 q7 f8;have hf8:=(Cod.bxd_blk (Cod.bxd_fr0 K3.out.k.bP f8)).frozen 0)
      have K8:=Lib.hid (PvK.setRows (K3.out.k.fr0 f8) PC.out o8 HL.out (HZ.out.fr f8) HMQ.out)
      clear o8 f8 q8 hf8 q7 r7
      generalize w8.setCell _ _ = w9 at K8 ⊢
      have qT:=(dvAt (Cod.bxd_rd K8.out.bP)).T
      rw [K8.out.next] at qT
      have hfz:=(Cod.bxd_blk K8.out.bP).frozen 1
      have K9:=Lib.hid (K8.out.tick PC.out)
      go_upto_region 29 with fail
      generalize w9.setCell _ _ = w10 at K9 ⊢
      clear qT hfz
      have qp:=Cod.bxd_rd K9.out.bP
      have hst:=okDv.stR_box K9.out.bR { d5 with A:=A8,n:=ls.length,c:=c8,next:=tickD X.1.next 1 }
      obtain ⟨p1,_,p3⟩:=Cod.put_fr K9.out.bR { d5 with A:=A8,n:=ls.length,c:=c8,next:=tickD X.1.next 1 }
      have HBX:=Lib.hid p3
      have HFE:=Lib.hid (K9.out.fin PC.out p1 0)
      clear p1 p3 hwT
      go_wp2_with fail
      refine bodyPost_ret (ret_row_tmp okDv rfl _ _ _ _ (by rfl) HBX.out) rfl ?_
      rw [HN.out]
      exact HFE.out
end Go.Proofs.YthehiobacjjakaaGreatDoor
