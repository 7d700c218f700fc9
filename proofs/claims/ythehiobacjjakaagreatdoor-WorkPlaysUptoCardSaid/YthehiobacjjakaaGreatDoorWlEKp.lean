/- Contract of work: Move. (ex_ldS_at) -/
import Derived.Test.YthehiobacjjakaaGreatDoorWlFKp
import Derived.Test.YthehiobacjjakaaGreatDoorRegTKp
set_option linter.unusedVariables false
set_option linter.unusedSimpArgs false
namespace Go.Proofs.YthehiobacjjakaaGreatDoor
open Go.RowKit Go.Maps Go.Sort
theorem lift_T2 {X:Prop} {ι κ:Type} {P:Program} {md:Region.Mode} {ops:Array Oper} {Q:Exit → Act → World → Prop} {FF:World → Prop} {n fuel:Nat} {s:Sch} {act:ι → κ → Act} {F:ι → κ → World → Prop}
  (h1:(∀ a b L W,F a b W → RegT md ops n L s → wpAnyN P md ops Q FF n fuel L (act a b) W) → X)
  (h2:∀ a b L W,F a b W → RegT md ops n L s → wpAnyN P md ops Q FF n fuel L (act a b) W):X:=h1 h2
theorem ex_stStr_at {ρ:Operand → Value} {o:Oper} {a x:Operand} {w:World} {b k:Nat} {s:ByteArray} {u:Value} (ho:o.op = .store 9 a x) (ha:ρ a = .pointer (some ⟨b,k,none⟩)) (hx:ρ x = .string s) (hc:w.cell? ⟨b,k,none⟩ = some u) (hf:w.frozen? ⟨b,k,none⟩ = false) :
  (execOp ρ o).run Tryz.prog w = .ok .skip (w.setCell ⟨b,k,none⟩ (.string s)):=by
 obtain ⟨d,op,t,p,f,g⟩:=o
 simp only at ho
 subst ho
 unfold execOp
 simp only [ha,hx]
 go_simp
theorem wse_Name (r:RwW) (l:List UInt8):(codR.cs r).set 6 (.string (str l)) = codR.cs { r with Name:=l }:=rfl
theorem nms_last {w:World} {A:Option Addr} {q:List UInt8} (h:Sl w A (nmsV (splitD q))):∃ g off,A = some ⟨g,off,none⟩ ∧ w.cell? ⟨g,off + ((splitD q).length - 1),none⟩ = some (.string (str (lastN q))):=by
 have hl:=List.length_pos_iff.2 (split_ne q)
 obtain ⟨g,off,e,hc⟩:=nms_cell h (k:=(splitD q).length - 1) (by omega)
 refine ⟨g,off,e,?_⟩
 rw [hc]
 unfold lastN
 rw [List.getLast_eq_getElem]
theorem nms_ahead {w:World} {A:Option Addr} {q:List UInt8} (h:Sl w A (nmsV (splitD q))):Sl w A (nmsV (aheadN q)):=by
 have:=Sl.take (k:=(splitD q).length - 1) h
 have e:(nmsV (splitD q)).take ((splitD q).length - 1) = nmsV (aheadN q):=by unfold nmsV aheadN;rw [List.map_take]
 rw [e] at this
 exact this
theorem ahead_len (q:List UInt8):(aheadN q).length = (splitD q).length - 1:=by unfold aheadN;rw [List.length_take];omega
theorem df_nostr {w:World} {P o:Nat} {d:DfW} {s:ByteArray} (h:codDf.bxd w P = some d) (hc:w.cell? ⟨P,o,none⟩ = some (.string s)):False:=by
 rw [(Cod.bxd_blk h).cell] at hc
 change (csDf d)[o]? = _ at hc
 unfold csDf at hc
 rcases o with _ | _ | _ | o <;> simp at hc
set_option maxRecDepth 100000 in
set_option maxHeartbeats 4000000 in
theorem wmove_any {W w:World} {P:Nat} {D:Dft} {d:DfW} {rs:List RwW} (h:Dw W w P D d rs) (ht:TreeOk D.rows) (hw:wfS D.next = true) (F:Fr noB W w) (hT:HasT W) (hM:HasMW W) (p q:List UInt8) (hp:p.length < 4294967281) (hq:q.length < 4294967281) :
  Calls Tryz.prog 26 #[.pointer (some ⟨P,0,none⟩),.string (str p),.string (str q)] w (DoTo W w P d (moveF D p q)):=by
 have NM:=Lib.hid (fun w' (f:Fr noB w w')=>names_any w' ((hM.fr F).fr f) p hp)
 have NMq:=Lib.hid (fun w' (f:Fr noB w w')=>names_any w' ((hM.fr F).fr f) q hq)
 have HD:=Lib.hid h
 have HT:=Lib.hid ht
 have HW:=Lib.hid hw
 have HTB:=Lib.hid hT
 have HF:=Lib.hid F
 have HLE:=Lib.hid (split_lenle p)
 have HLQ:=Lib.hid (split_lenle q)
 have HP:=Lib.hid hp
 have HQ:=Lib.hid hq
 have HL5:=Lib.hid ht.len
 clear h ht hw hT hM hp hq F
 have HMF:=Lib.hid (show moveF D p q = if (namesOk p && namesOk q && !(lastN q).contains 126) = false then (D,170)
  else if (walkD D.rows zRwP (splitD p)).2 < (splitD p).length then (D,4)
  else if (walkD D.rows zRwP (aheadN q)).2 < (aheadN q).length then (D,4)
  else if 0 < (walkD D.rows zRwP (aheadN q)).1.Heads.length ∨ aboveR D.rows (walkD D.rows zRwP (splitD p)).1.Node (walkD D.rows zRwP (aheadN q)).1.Node = true then (D,170)
  else if (kidD D.rows (walkD D.rows zRwP (aheadN q)).1.Node (lastN q)).isSome = true then (D,5)
  else if roomD D 1 = false then (D,1)
  else (⟨putR D.rows { (walkD D.rows zRwP (splitD p)).1 with Parent:=(walkD D.rows zRwP (aheadN q)).1.Node,Name:=lastN q,At:=D.next },tickD D.next 1⟩,0) from rfl)
 have HMP:=Lib.hid (walkD_mem D.rows zRwP (splitD p))
 have HMQ:=Lib.hid (walkD_mem D.rows zRwP (aheadN q))
 have HSN:=Lib.hid (List.length_pos_iff.2 (split_ne p))
 have HSQ:=Lib.hid (List.length_pos_iff.2 (split_ne q))
 go_enter Tryz.func26,Tryz.ntmps26
 go_upto_region 2 with (go_at_call 38;refine (NM.out w (Fr.refl noB w)).mono ?_;rintro e w1 ⟨A1,c1,rfl,hc1,s1,f1⟩)
 have S1:=Lib.hid s1
 have F1:=Lib.hid f1
 clear hc1 s1 f1
 go_upto_region 3 with (go_at_call 38;refine (NMq.out w1 F1.out).mono ?_;rintro e w2 ⟨A2,c2,rfl,hc2,s2,f2⟩)
 have SP:=Lib.hid (S1.out.fr0 f2)
 have SQ:=Lib.hid s2
 have F2:=Lib.hid (F1.out.step0 f2)
 have HC2:=Lib.hid hc2.1
 clear hc2 s2 f2 S1
 obtain ⟨g2,o2,rfl,cl⟩:=nms_last SQ.out
 obtain ⟨k,hk⟩:∃ k,(splitD q).length = k + 1:=⟨(splitD q).length - 1,by have:=HSQ.out;omega⟩
 have ek:(splitD q).length - 1 = k:=by omega
 rw [ek] at cl
 rw [hk]
 have HK:=Lib.hid (And.intro hk (show k ≤ 4294967281 by have:=HLQ.out.1;have:=HQ.out;omega))
 have HC2:=Lib.hid (show k + 1 ≤ c2 by rw [← hk];exact HC2.out)
 have hwk:wrap64 (k:Int) = (k:Int):=IntWalk.wrap64_in _ (by have:=HK.out.2;omega)
 have CL:=Lib.hid cl
 clear hk ek
 cases hnp:namesOk p with
 | false =>
  have HN:=Lib.hid (show moveF D p q = (D,170) by rw [HMF.out,hnp];simp)
  clear hnp cl
  go_wp2_with fail
  go_ret
  exact ⟨by rw [HN.out];rfl,by rw [HN.out];exact DwTo.of0 HD.out F2.out⟩
 | true =>
  cases hnq:namesOk q with
  | false =>
   have HN:=Lib.hid (show moveF D p q = (D,170) by rw [HMF.out,hnp,hnq];simp)
   clear hnp hnq cl
   go_wp2_with fail
   go_ret
   exact ⟨by rw [HN.out];rfl,by rw [HN.out];exact DwTo.of0 HD.out F2.out⟩
  | true =>
   cases hct:(lastN q).contains 126 with
   | true =>
    have HCT:=Lib.hid hct
    have HN:=Lib.hid (show moveF D p q = (D,170) by rw [HMF.out,hnp,hnq,hct];simp)
    clear hnp hnq hct
    go_wp2_with (go_at_call 53;refine (tilde_any w2 (lastN q)).mono ?_;rintro e w3 ⟨rfl,f3⟩;rw [HCT.out])
    go_ret
    exact ⟨by rw [HN.out];rfl,by rw [HN.out];exact DwTo.of0 HD.out (F2.out.step0 f3)⟩
   | false =>
    have HCT:=Lib.hid hct
    have HM1:=Lib.hid (show moveF D p q = if (walkD D.rows zRwP (splitD p)).2 < (splitD p).length then (D,4)
     else if (walkD D.rows zRwP (aheadN q)).2 < (aheadN q).length then (D,4)
     else if 0 < (walkD D.rows zRwP (aheadN q)).1.Heads.length ∨ aboveR D.rows (walkD D.rows zRwP (splitD p)).1.Node (walkD D.rows zRwP (aheadN q)).1.Node = true then (D,170)
     else if (kidD D.rows (walkD D.rows zRwP (aheadN q)).1.Node (lastN q)).isSome = true then (D,5)
     else if roomD D 1 = false then (D,1)
     else (⟨putR D.rows { (walkD D.rows zRwP (splitD p)).1 with Parent:=(walkD D.rows zRwP (aheadN q)).1.Node,Name:=lastN q,At:=D.next },tickD D.next 1⟩,0) by rw [HMF.out,hnp,hnq,hct];rfl)
    clear hnp hnq hct HMF
    go_upto_region 5 with (go_at_call 53;refine (tilde_any w2 (lastN q)).mono ?_;rintro e w3 ⟨rfl,f3⟩;rw [HCT.out])
    have F3:=Lib.hid (F2.out.step0 f3)
    have SP3:=Lib.hid (SP.out.fr0 f3)
    have SQ3:=Lib.hid (SQ.out.fr0 f3)
    have CL3:=Lib.hid (cell_fr0 CL.out f3)
    clear f3 cl
    have WC:=Lib.hid (walk_call (HD.out.fr0 F3.out) (by have:=HL5.out;omega) (HTB.out.fr (HF.out.step0 F3.out)) A1 c1 _ (splitD p) rfl SP3.out (by have:=HLE.out.1;have:=HP.out;omega))
    go_upto_region 6 with (go_at_call 39;refine WC.out.mono ?_;rintro e w4 ⟨r,rfl,hr,f4⟩)
    have f5:Fr noB w4 (w4.alloc (codR.o r)):=(Fr.refl noB w4).alloc _
    have hr5:=hr.fr f5 (NoHS.nob _)
    have b5:=Cod.bxd_new (C:=codR) w4 r
    have F5:=Lib.hid (F3.out.step0 (f4.step0 f5))
    have SQ5:=Lib.hid (SQ3.out.fr0 (f4.step0 f5))
    have CL5:=Lib.hid (cell_fr0 CL3.out (f4.step0 f5))
    have hsz:w.heap.size ≤ w4.heap.size:=(F3.out.step0 f4).size
    have hgz:g2 < w4.heap.size:=by have h1:=World.block_lt_of_cell? _ _ CL3.out;have h2:=f4.size;simp only at h1;omega
    obtain ⟨R1,eR⟩:∃ R,R = w4.heap.size:=⟨_,rfl⟩
    rw [← eR] at b5 ⊢
    have HPR:=Lib.hid (show P < R1 ∧ w.heap.size ≤ R1 ∧ g2 < R1 by have:=Cod.bxd_lt HD.out.bx;omega)
    have HAR:=Lib.hid (show ∀ b,d.A.map (·.block) = some b → b < R1 from fun b hb=>by have:=(own_lt HD.out.own b hb).2;omega)
    generalize w4.alloc (codR.o r) = w5 at hr5 b5 F5 SQ5 CL5 ⊢
    have HR5:=Lib.hid hr5
    have B5:=Lib.hid b5
    clear WC hr f4 f5 hsz hgz eR hr5 b5 SP3 SQ3 CL3
    generalize walkD D.rows zRwP (splitD p) = o at HM1 HMP HR5 ⊢
    by_cases hlt:o.2 < (splitD p).length
    ·have i1:(o.2:Int) < ((splitD p).length:Int):=by omega
     have HN:=Lib.hid (show moveF D p q = (D,4) by rw [HM1.out,if_pos hlt])
     clear hlt
     go_wp2_with fail
     go_ret
     exact ⟨by rw [HN.out];rfl,by rw [HN.out];exact DwTo.of0 HD.out F5.out⟩
    ·have i1:¬ (o.2:Int) < ((splitD p).length:Int):=by omega
     have hmem:o.1 ∈ D.rows:=by
      rcases HMP.out with e | e
      ·have:=HSN.out;omega
      ·exact e
     have HMM:=Lib.hid hmem
     have HM2:=Lib.hid (HM1.out.trans (if_neg hlt))
     clear hlt hmem HM1 HMP
     have i2:(k:Int) ≤ (c2:Int):=by have:=HC2.out;omega
     have i3:(0:Int) ≤ (k:Int):=by omega
     have i4:(k:Int) < (k:Int) + 1:=by omega
     have hwk2:IntKind.i64.wrap (k:Int) = (k:Int):=IntWalk.i64_in _ (by have:=HK.out.2;omega)
     have WC:=Lib.hid (walk_call (HD.out.fr0 F5.out) (by have:=HL5.out;omega) (HTB.out.fr (HF.out.step0 F5.out)) (some ⟨g2,o2,none⟩) c2 k (aheadN q) (by rw [ahead_len,HK.out.1];rfl) (nms_ahead SQ5.out) (by rw [ahead_len];have:=HLQ.out.1;have:=HQ.out;omega))
     go_upto_region 9 with (go_at_call 39;refine WC.out.mono ?_;rintro e w6 ⟨r2,rfl,hr2,f6⟩)
     have f7:Fr noB w6 (w6.alloc (codR.o r2)):=(Fr.refl noB w6).alloc _
     have hr7:=hr2.fr f7 (NoHS.nob _)
     have q7:=(rwAt (Cod.rd_new' (C:=codR) w6 r2))
     have F7:=Lib.hid (F5.out.step0 (f6.step0 f7))
     have HR7:=Lib.hid (HR5.out.fr (f6.step0 f7) (NoHS.nob _))
     have B7:=Lib.hid (Cod.bxd_fr0 B5.out (f6.step0 f7))
     have CL7:=Lib.hid (cell_fr0 CL5.out (f6.step0 f7))
     have hsz:w5.heap.size ≤ w6.heap.size:=f6.size
     have hb5l:=Cod.bxd_lt B5.out
     obtain ⟨R2,eR⟩:∃ R,R = w6.heap.size:=⟨_,rfl⟩
     rw [← eR] at q7 ⊢
     have HR12:=Lib.hid (show R1 < R2 by omega)
     generalize w6.alloc (codR.o r2) = w7 at hr7 q7 F7 HR7 B7 CL7 ⊢
     have HQ7:=Lib.hid q7
     have HY7:=Lib.hid hr7
     clear WC hr2 f6 f7 hsz eR hr7 q7 hb5l SQ5 CL5
     generalize walkD D.rows zRwP (aheadN q) = o2p at HM2 HMQ HY7 ⊢
     have keep:∀ w' w'':World,Fr noB w' w'' → (codS.rd w' R2 0 = some r2.Node ∧ w'.cell? ⟨g2,o2 + k,none⟩ = some (.string (str (lastN q)))) → (codS.rd w'' R2 0 = some r2.Node ∧ w''.cell? ⟨g2,o2 + k,none⟩ = some (.string (str (lastN q)))):=fun w' w'' f h=>⟨Cod.rd_fr0 h.1 f,cell_fr0 h.2 f⟩
     have hF0:=keep w7 w7.drew (Fr.refl noB w7).drew ⟨HQ7.out.node,CL7.out⟩
     have FD:=Lib.hid (show Fr noB w7 w7.drew from (Fr.refl noB w7).drew)
     have KC:=Lib.hid (fun w' (f:Fr noB w7 w')=>kid_call (HD.out.fr0 (F7.out.step0 f)) (by have:=HL5.out;omega) (HTB.out.fr (HF.out.step0 (F7.out.step0 f))) r2.Node (lastN q))
     refine wp_region_T 15 16 [⟨9223372036854775808,1,0⟩,⟨18446744073709551616,8192,0⟩,⟨36893488147419103232,18446744073709551616,2⟩,⟨73786976294838206464,512,0⟩,⟨147573952589676412928,512,0⟩,⟨295147905179352825856,147573952589676412928,16⟩,⟨590295810358705651712,295147905179352825856,32⟩,⟨1180591620717411303424,664082786653543858176,72⟩,⟨2361183241434822606848,1180591620717411303424,128⟩,⟨4722366482869645213696,2407300101619096485888,261⟩,⟨4611686018427387904,4722366482869645213696,512⟩,⟨9444732965739290427392,4611686018427387904,1024⟩,⟨18889465931478580854784,4611686018427387904,1024⟩,⟨32768,0,0⟩,⟨0,9444732965739290460160,12287⟩,⟨65536,18889465931478580854784,32767⟩] (.take 0 (.take 1 (.take 2 (.take 3 (.take 4 (.take 5 (.take 6 (.take 7 (.take 8 (.two 9 13 (.take 10 (.take 11 (.take 12 (.one 13 (.one 14 .done))))) (.one 9 (.take 10 (.take 11 (.take 12 (.one 14 .done))))))))))))))) (fun w'=>codS.rd w' R2 0 = some r2.Node ∧ w'.cell? ⟨g2,o2 + k,none⟩ = some (.string (str (lastN q)))) (by kernel_rfl) rfl (by kernel_rfl) (by kernel_rfl) (by kernel_rfl) hF0 (fun hA hF=>?_)
     iterate 9
      refine wpAnyT_take (v:=?_) hA rfl (fun _ _ _ h=>h) (Or.inl ⟨by rfl,?_⟩) hF (fun hA=>?_)
      rotate_left
      ·intro wS hSw;(try dsimp only at hSw);obtain ⟨s1,s2⟩:=hSw;first | (apply Eq.trans;apply ex_ldS_at;exact rfl;exact rfl;assumption;with_reducible rfl) | (go_simp;try with_reducible rfl)
      try simp only [sA1,sA2,sA3,Act.put,sA4,sA5,sA6]
     clear hF0
     generalize w7.drew = V at FD hF ⊢
     have hFV:=hF
     apply lift_T2 (F:=fun (a:Nat) (x:RwW) u=>Fr noB V u)
     ·intro cont
      refine wpAnyT_two (i:=9) (j:=13) hA rfl rfl (fun K' hK=>?_) (fun K' hK=>?_)
      ·rw [if_pos (by rfl)]
       go_simp
       go_at_call 58
       refine (KC.out V FD.out).mono ?_
       rintro e u1 ⟨r3,rfl,f1⟩
       replace hF:=keep _ _ f1 hF
       refine hK.out _ _ hF (fun hA=>?_)
       clear hK K'
       try simp only [sA1,sA2,sA3,Act.put,sA4,sA5,sA6]
       iterate 3
        refine wpAnyT_take (v:=?_) hA rfl (fun _ _ _ h=>h) (Or.inl ⟨by rfl,?_⟩) hF (fun hA=>?_)
        rotate_left
        ·intro wS hSw;(try dsimp only at hSw);obtain ⟨s1,s2⟩:=hSw;first | (apply Eq.trans;apply ex_ldS_at;exact rfl;exact rfl;assumption;with_reducible rfl) | (go_simp;try with_reducible rfl)
        try simp only [sA1,sA2,sA3,Act.put,sA4,sA5,sA6]
       refine wpAnyT_one hA rfl (fun K' hK=>?_)
       refine step_runI rfl _ _ (okR.alOp _ _ rfl _) ?_
       have fx:Fr noB u1 (u1.alloc (codR.o codR.z)):=(Fr.refl noB _).alloc _
       replace hF:=keep _ _ fx hF
       refine hK.out _ _ hF (fun hA=>?_)
       clear hK K'
       try simp only [sA1,sA2,sA3,Act.put,sA4,sA5,sA6]
       refine wpAnyT_one hA rfl (fun K' hK=>?_)
       refine stp_skip rfl _ (ex_stV_at (C:=codR) (v:=r3) rfl rfl rfl (st_newR u1 r3 zRwW)) ?_
       have fb:Fr noB u1 (u1.alloc (codR.o r3)):=(Fr.refl noB _).alloc _
       have ff:=f1.step0 fb
       replace hF:=keep _ _ ff hFV
       refine hK.out _ _ hF (fun hA=>?_)
       clear hK K'
       try simp only [sA1,sA2,sA3,Act.put,sA4,sA5,sA6]
       clear hF fx
       generalize u1.alloc (codR.o r3) = U at ff ⊢
       generalize u1.heap.size = D2
       exact cont D2 r3 _ _ ff hA
      ·refine step_runI rfl _ _ (okR.alOp _ _ rfl _) ?_
       have fx:Fr noB V (V.alloc (codR.o codR.z)):=(Fr.refl noB _).alloc _
       have bx:codR.bxd (V.alloc (codR.o codR.z)) V.heap.size = some zRwW:=Cod.bxd_new (C:=codR) V zRwW
       replace hF:=keep _ _ fx hF
       refine hK.out _ _ hF (fun hA=>?_)
       clear hK K'
       try simp only [sA1,sA2,sA3,Act.put,sA4,sA5,sA6]
       refine wpAnyT_one hA rfl (fun K' hK=>?_)
       rw [if_pos (by rfl)]
       go_simp
       go_at_call 58
       refine (KC.out _ (FD.out.step0 fx)).mono ?_
       rintro e u1 ⟨r3,rfl,f1⟩
       replace hF:=keep _ _ f1 hF
       refine hK.out _ _ hF (fun hA=>?_)
       clear hK K'
       try simp only [sA1,sA2,sA3,Act.put,sA4,sA5,sA6]
       iterate 3
        refine wpAnyT_take (v:=?_) hA rfl (fun _ _ _ h=>h) (Or.inl ⟨by rfl,?_⟩) hF (fun hA=>?_)
        rotate_left
        ·intro wS hSw;(try dsimp only at hSw);obtain ⟨s1,s2⟩:=hSw;first | (apply Eq.trans;apply ex_ldS_at;exact rfl;exact rfl;assumption;with_reducible rfl) | (go_simp;try with_reducible rfl)
        try simp only [sA1,sA2,sA3,Act.put,sA4,sA5,sA6]
       refine wpAnyT_one hA rfl (fun K' hK=>?_)
       have b1:=Cod.bxd_fr0 bx f1
       refine stp_skip rfl _ (ex_stV_at (C:=codR) (v:=r3) rfl rfl rfl (okR.stR_box b1 r3)) ?_
       obtain ⟨p1,p2,p3⟩:=Cod.put_fr b1 r3
       have ff:=(fx.step0 f1).step1 p1 (Nat.le_refl _)
       replace hF:=keep _ _ ff hFV
       refine hK.out _ _ hF (fun hA=>?_)
       clear hK K'
       try simp only [sA1,sA2,sA3,Act.put,sA4,sA5,sA6]
       clear hF fx bx b1 p1 p2 p3
       generalize codR.put u1 V.heap.size r3 = U at ff ⊢
       generalize V.heap.size = D2
       exact cont D2 r3 _ _ ff hA
     intro a3 x3 L9 U hU hA
     refine wpAnyT_end hA rfl ?_
     simp only [List.drop_succ_cons,List.drop_zero]
     have G:=FD.out.step0 hU
     have F9:=Lib.hid (F7.out.step0 G)
     have B9:=Lib.hid (Cod.bxd_fr0 B7.out G)
     have HR9:=Lib.hid (HR7.out.fr G (NoHS.nob _))
     have CL9:=Lib.hid (cell_fr0 CL7.out G)
     have HQ9:=Lib.hid (rwAt (Cod.rd_fr0 HQ7.out.self G))
     have qh:=HQ9.out.heads
     clear KC keep hFV hF hU G FD hA
     obtain ⟨bk,hbk⟩:∃ bk,bk = (kidD D.rows r2.Node (lastN q)).isSome:=⟨_,rfl⟩
     rw [← hbk]
     have HBK:=Lib.hid hbk
     clear hbk
     have hal:(aheadN q).length = k:=by rw [ahead_len,HK.out.1];rfl
     by_cases hlt2:o2p.2 < (aheadN q).length
     ·have i5:(o2p.2:Int) < (k:Int):=by omega
      have HN:=Lib.hid (show moveF D p q = (D,4) by rw [HM2.out,if_pos hlt2])
      clear hlt2 hal
      go_wp2_with fail
      go_ret
      exact ⟨by rw [HN.out];rfl,by rw [HN.out];exact DwTo.of0 HD.out F9.out⟩
     ·have i5:¬ (o2p.2:Int) < (k:Int):=by omega
      have HM3:=Lib.hid (HM2.out.trans (if_neg hlt2))
      clear hlt2 hal HM2
      have hhl:=HY7.out.inn.len
      by_cases hh:0 < r2.n
      ·have i6:(0:Int) < (r2.n:Int):=by omega
       have HN:=Lib.hid (show moveF D p q = (D,170) by rw [HM3.out,if_pos (.inl (by rw [hhl];exact hh))])
       clear hh hhl
       go_wp2_with fail
       go_ret
       exact ⟨by rw [HN.out];rfl,by rw [HN.out];exact DwTo.of0 HD.out F9.out⟩
      ·have i6:¬ (0:Int) < (r2.n:Int):=by omega
       have hh0:¬ 0 < o2p.1.Heads.length:=by rw [hhl];exact hh
       have HH:=Lib.hid hh0
       have hrp:∃ j,reach D.rows j o2p.1.Node = true:=by
        rcases HMQ.out with ⟨e,_⟩ | e
        ·rw [e]
         exact ⟨0,show fixedS zSt = true from by decide⟩
        ·exact HT.out.up _ e
       have hnt:o.1.Node.T ≠ 0:=rightS_T (rightR_node (HT.out.ok _ HMM.out))
       have UC:=under_any (HD.out.fr0 F9.out) HT.out o2p.1.Node o.1.Node hrp hnt
       have e1:=HY7.out.inn.node
       have e2:=HR9.out.inn.node
       have HM4:=HM3.out
       rw [e1,e2] at UC HM4
       have UC:=Lib.hid UC
       have HM4:=Lib.hid HM4
       have qn1:=(rwAt (Cod.bxd_rd B9.out)).node
       have qn2:=HQ9.out.node
       clear hh hhl hh0 hrp hnt e1 e2 HM3
       cases hab:aboveR D.rows r.Node r2.Node with
       | true =>
        have HAB:=Lib.hid hab
        have HN:=Lib.hid (show moveF D p q = (D,170) by rw [HM4.out,if_pos (.inr hab)])
        clear hab
        go_wp2_with (go_at_call 59;refine UC.out.mono ?_;rintro e u2 ⟨rfl,fu⟩;rw [HAB.out])
        go_ret
        exact ⟨by rw [HN.out];rfl,by rw [HN.out];exact DwTo.of0 HD.out (F9.out.step0 fu)⟩
       | false =>
        have HAB:=Lib.hid hab
        have HM5:=Lib.hid (HM4.out.trans (if_neg (by rintro (h | h);exact HH.out h;rw [hab] at h;cases h)))
        clear hab HM4
        rw [HBK.out.symm] at HM5
        cases bk with
        | true =>
         have HN:=Lib.hid (show moveF D p q = (D,5) by rw [HM5.out,if_pos rfl])
         go_wp2_with (go_at_call 59;refine UC.out.mono ?_;rintro e u2 ⟨rfl,fu⟩;rw [HAB.out])
         go_ret
         exact ⟨by rw [HN.out];rfl,by rw [HN.out];exact DwTo.of0 HD.out (F9.out.step0 fu)⟩
        | false =>
         go_upto_region 16 with (go_at_call 59;refine UC.out.mono ?_;rintro e u2 ⟨rfl,fu⟩;rw [HAB.out])
         have F10:=Lib.hid (F9.out.step0 fu)
         have B10:=Lib.hid (Cod.bxd_fr0 B9.out fu)
         have HR10:=Lib.hid (HR9.out.fr fu (NoHS.nob _))
         have CL10:=Lib.hid (cell_fr0 CL9.out fu)
         have HQ10:=Lib.hid (Cod.rd_fr0 HQ9.out.self fu)
         clear fu UC qn1 qn2 qh
         have HM6:=Lib.hid (HM5.out.trans (if_neg (by decide)))
         clear HM5
         have RC:=room_call (HD.out.fr0 F10.out) (by have:=HL5.out;omega) HW.out 1 (by omega)
         have RC:=Lib.hid (show Calls Tryz.prog 55 #[.pointer (some ⟨P,0,none⟩),.int .i64 1] u2 (Gives u2 (.bool (roomD D 1))) from RC)
         cases hrm:roomD D 1 with
         | false =>
          have HN:=Lib.hid (show moveF D p q = (D,1) by rw [HM6.out,hrm];rfl)
          have HRM:=Lib.hid hrm
          clear hrm
          go_wp2_with (go_at_call 55;refine RC.out.mono ?_;rintro e u3 ⟨rfl,f3⟩;rw [HRM.out])
          go_ret
          exact ⟨by rw [HN.out];rfl,by rw [HN.out];exact DwTo.of0 HD.out (F10.out.step0 f3)⟩
         | true =>
          have HN:=Lib.hid (HM6.out.trans (by rw [hrm,if_neg (by decide),← HY7.out.inn.node,← HR9.out.inn.node]):moveF D p q = (⟨putR D.rows ⟨o.1.Node,o2p.1.Node,D.next,lastN q,o.1.Heads⟩,tickD D.next 1⟩,0))
          have HRM:=Lib.hid hrm
          have HBT:=Lib.hid (room_T hrm)
          clear hrm HM6
          go_upto_region 18 with (go_at_call 55;refine RC.out.mono ?_;rintro e u3 ⟨rfl,f3⟩;rw [HRM.out])
          have g3:=f3.step0 (Fr.refl noB u3).drew
          have F11:=Lib.hid (F10.out.step0 g3)
          have B11:=Lib.hid (Cod.bxd_fr0 B10.out g3)
          have HR11:=Lib.hid (HR10.out.fr g3 (NoHS.nob _))
          have CL11:=Lib.hid (cell_fr0 CL10.out g3)
          have HQ11:=Lib.hid (Cod.rd_fr0 HQ10.out g3)
          have TC:=Lib.hid (take_call (HD.out.fr0 F11.out) HBT.out)
          have keep:∀ (M:Nat → Prop) w' w'' ,¬ M R2 → ¬ M g2 → Fr M w' w'' → (codS.rd w' R2 0 = some r2.Node ∧ w'.cell? ⟨g2,o2 + k,none⟩ = some (.string (str (lastN q)))) → (codS.rd w'' R2 0 = some r2.Node ∧ w''.cell? ⟨g2,o2 + k,none⟩ = some (.string (str (lastN q)))):=fun M w' w'' h1 h2 f h=>⟨Cod.rd_fr h.1 f h1,cell_frM h.2 f h2⟩
          have hgP:g2 ≠ P:=fun e=>df_nostr (HD.out.fr0 F11.out).bx (by rw [← e];exact CL11.out)
          have hF0:codS.rd u3.drew R2 0 = some r2.Node ∧ u3.drew.cell? ⟨g2,o2 + k,none⟩ = some (.string (str (lastN q))):=⟨(rwAt HQ11.out).node,CL11.out⟩
          clear f3 g3 RC
          refine wp_region_M 15 16 [⟨1267650600228229401496703205376,8192,0⟩,⟨2535301200456458802993406410752,1267650600228229401496703205376,1⟩,⟨5070602400912917605986812821504,512,0⟩,⟨10141204801825835211973625643008,512,0⟩,⟨20282409603651670423947251286016,10141204801825835211973625643008,8⟩,⟨40564819207303340847894502572032,20282409603651670423947251286016,16⟩,⟨81129638414606681695789005144064,45635421608216258453881315393536,36⟩,⟨162259276829213363391578010288128,81129638414606681695789005144064,64⟩,⟨324518553658426726783156020576256,1,0⟩,⟨649037107316853453566312041152512,324518553658426726783156020576256,256⟩,⟨1298074214633706907132624082305024,2048,3⟩,⟨0,1300609515834163365935617488715776,1539⟩,⟨2596148429267413814265248164610048,2048,3327⟩,⟨0,2758407706096627177656826174898176,7423⟩,⟨5192296858534827628530496329220096,2048,16383⟩,⟨0,5841333965851681082096808370372608,32767⟩] [(true,0),(true,1),(true,2),(true,3),(true,4),(true,5),(true,6),(true,7),(true,8),(true,10),(false,9),(false,11),(true,12),(false,13),(true,14)] (fun w'=>codS.rd w' R2 0 = some r2.Node ∧ w'.cell? ⟨g2,o2 + k,none⟩ = some (.string (str (lastN q)))) (by kernel_rfl) rfl (by kernel_rfl) (by kernel_rfl) (by kernel_rfl) hF0 (fun hA hF=>?_)
          iterate 10
           refine wpAnyS_take (v:=?_) hA rfl (fun _ _ _ h=>h) (Or.inl ⟨by rfl,?_⟩) hF (fun hA=>?_)
           rotate_left
           ·intro wS hSw;(try dsimp only at hSw);obtain ⟨s1,s2⟩:=hSw;first | (apply Eq.trans;apply ex_ldS_at;exact rfl;exact rfl;assumption;with_reducible rfl) | (go_simp;try with_reducible rfl)
           try simp only [sA1,sA2,sA3,Act.put,sA4,sA5,sA6]
          clear hF0
          generalize u3.drew = V at F11 B11 HR11 CL11 HQ11 TC hF ⊢
          refine wpAnyS_one hA rfl (fun K' hK=>?_)
          go_simp
          go_at_call 56
          refine TC.out.mono ?_
          rintro e w5 ⟨rfl,hd5,f5⟩
          replace hF:=keep _ _ _ (show ¬ R2 = P by have:=HPR.out;have:=HR12.out;omega) hgP f5 hF
          refine hK.out _ _ hF (fun hA=>?_)
          clear hK K'
          try simp only [sA1,sA2,sA3,Act.put,sA4,sA5,sA6]
          have b5:=Cod.bxd_fr B11.out f5 (show ¬ R1 = P by have:=HPR.out;omega)
          obtain ⟨p1,_,n1⟩:=Cod.put_fr b5 { r with Parent:=r2.Node }
          refine wpAnyS_one hA rfl (fun K' hK=>?_)
          refine stp_skip rfl _ (ex_stV_at (C:=codS) rfl rfl rfl (wst_Parent b5 r2.Node)) ?_
          replace hF:=keep _ _ _ (show ¬ R2 = R1 by have:=HR12.out;omega) (show ¬ g2 = R1 by have:=HPR.out;omega) p1 hF
          refine hK.out _ _ hF (fun hA=>?_)
          clear hK K'
          try simp only [sA1,sA2,sA3,Act.put,sA4,sA5,sA6]
          refine wpAnyS_take (v:=?_) hA rfl (fun _ _ _ h=>h) (Or.inl ⟨by rfl,?_⟩) hF (fun hA=>?_)
          rotate_left
          ·intro wS hSw;(try dsimp only at hSw);obtain ⟨s1,s2⟩:=hSw;first | (apply Eq.trans;apply ex_ldS_at;exact rfl;exact rfl;assumption;with_reducible rfl) | (go_simp;try with_reducible rfl)
          try simp only [sA1,sA2,sA3,Act.put,sA4,sA5,sA6]
          have p2:=Cod.set_fr (codR.put w5 R1 { r with Parent:=r2.Node }) R1 6 (.string (str (lastN q)))
          have n2:=Cod.bxd_set n1 6 (.string (str (lastN q))) _ (wse_Name _ _)
          refine wpAnyS_one hA rfl (fun K' hK=>?_)
          refine stp_skip rfl _ (ex_stStr_at rfl rfl rfl (rwAt (Cod.bxd_rd n1)).name ((Cod.bxd_blk n1).frozen 6)) ?_
          replace hF:=keep _ _ _ (show ¬ R2 = R1 by have:=HR12.out;omega) (show ¬ g2 = R1 by have:=HPR.out;omega) p2 hF
          refine hK.out _ _ hF (fun hA=>?_)
          clear hK K'
          try simp only [sA1,sA2,sA3,Act.put,sA4,sA5,sA6]
          refine wpAnyS_take (v:=?_) hA rfl (fun _ _ _ h=>h) (Or.inl ⟨by rfl,?_⟩) hF (fun hA=>?_)
          rotate_left
          ·intro wS hSw;(try dsimp only at hSw);obtain ⟨s1,s2⟩:=hSw;first | (apply Eq.trans;apply ex_ldS_at;exact rfl;exact rfl;assumption;with_reducible rfl) | (go_simp;try with_reducible rfl)
          try simp only [sA1,sA2,sA3,Act.put,sA4,sA5,sA6]
          refine wpAnyS_end hA rfl ?_
          simp only [List.drop_succ_cons,List.drop_zero]
          clear hF keep
          have st4:=wst_At n2 D.next
          obtain ⟨p3,_,n3⟩:=Cod.put_fr n2 { r with Parent:=r2.Node,Name:=lastN q,At:=D.next }
          have hb1:NoHS (oneB R1) w5:=bx_hs b5
          have hb2:=bx_hs n1
          have hb3:=bx_hs n2
          have hPR:¬ P = R1:=by have:=HPR.out;omega
          have hAR:∀ b,d.A.map (·.block) = some b → ¬ b = R1:=fun b hb=>by have:=HAR.out b hb;omega
          have hd7:=((hd5.frM p1 hPR hAR hb1.h).frM p2 hPR hAR hb2.h).frM p3 hPR hAR hb3.h
          have hP5:NoHS (oneB P) V:=NoHS.blk (Cod.bxd_blk (HD.out.fr0 F11.out).bx) (by decide) (by decide)
          have r7:=((((HR11.out.fr f5 hP5).fr p1 hb1).fr p2 hb2).fr p3 hb3).turn r2.Node D.next (lastN q) HY7.out.inn.wn (by have:=HLQ.out.2 _ (List.getLast_mem (split_ne q));have:=HQ.out;show (lastN q).length ≤ _;unfold lastN;omega)
          have HD7:=Lib.hid hd7
          have R7:=Lib.hid r7
          have F7:=Lib.hid (((((wk0 F11.out).trans (dM.one P d f5) (fun _ _ h=>h)).step1 p1 HPR.out.2.1).step1 p2 HPR.out.2.1).step1 p3 HPR.out.2.1:Fr (dM P d) w _)
          have r8:=Cod.bxd_rd n3
          have HX:=Lib.hid (show ({ o.1 with Parent:=r2.Node,At:=D.next,Name:=lastN q }:RwP) = ⟨o.1.Node,o2p.1.Node,D.next,lastN q,o.1.Heads⟩ by rw [← HY7.out.inn.node])
          rw [HX.out] at R7
          clear b5 p1 n1 p2 p3 n3 hb1 hb2 hb3 hd7 hP5 r7 hd5 f5 hPR hAR
          go_upto_region 19 with fail
          clear st4 n2
          generalize codR.put _ R1 { r with Parent:=r2.Node,Name:=lastN q,At:=D.next } = w7 at HD7 R7 F7 r8 ⊢
          have PC:=Lib.hid (put_call HD7.out (Nat.le_trans HF.out.size F7.out.size) (riseR_pw HT.out.rise) (by have:=HL5.out;show D.rows.length ≤ _;omega) R7.out (.inl ⟨o.1,HMM.out,rfl⟩))
          go_wp2_with (go_at_call 57;refine PC.out.mono ?_;rintro e w8 ⟨rfl,⟨d8,rs8,hd8,hn8⟩,f8⟩)
          go_ret
          exact ⟨by rw [HN.out];rfl,by rw [HN.out];exact ⟨⟨d8,rs8,hd8,dN.trans (w1:=w7) (d1:={ d with next:=tickW d.next }) (.inl rfl) hn8 F7.out.size⟩,dM.trans (d1:={ d with next:=tickW d.next }) F7.out (.inl rfl) f8⟩⟩
end Go.Proofs.YthehiobacjjakaaGreatDoor
