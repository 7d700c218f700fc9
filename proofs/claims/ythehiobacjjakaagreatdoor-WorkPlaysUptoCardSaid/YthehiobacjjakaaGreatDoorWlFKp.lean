/- Contract of work: Remove. (ex_ldS_at) Contract of work: under. (ex_ldS_at) Contract of work: fileAhead. (ex_ldR_at) -/
import Derived.Test.YthehiobacjjakaaGreatDoorWlBKp
set_option linter.unusedVariables false
set_option linter.unusedSimpArgs false
namespace Go.Proofs.YthehiobacjjakaaGreatDoor
open Go.RowKit Go.Maps Go.Sort
theorem wst_Parent {w:World} {b:Nat} {r:RwW} (h:codR.bxd w b = some r) (x:St):codS.stR w (.pointer (some ⟨b,2,none⟩)) (.agg (codS.A x)) = .ok .skip (codR.put w b { r with Parent:=x }):=okS.stR_part h x 2 _ (by decide) rfl
theorem wst_At {w:World} {b:Nat} {r:RwW} (h:codR.bxd w b = some r) (x:St):codS.stR w (.pointer (some ⟨b,4,none⟩)) (.agg (codS.A x)) = .ok .skip (codR.put w b { r with At:=x }):=okS.stR_part h x 4 _ (by decide) rfl
theorem RwO.turn {w:World} {r:RwW} {x:RwP} (h:RwO w r x) (p a:St) (nm:List UInt8) (hp:wfS p = true) (hn:nm.length ≤ 140737488355328):RwO w { r with Parent:=p,At:=a,Name:=nm } { x with Parent:=p,At:=a,Name:=nm } :=
 ⟨⟨by
  show (⟨x.Node,p,a,nm,x.Heads⟩:RwP) = ⟨r.Node,p,a,nm,x.Heads⟩
  rw [h.inn.node],h.inn.len,h.inn.sl,h.inn.bd,hn,h.inn.wn,hp⟩,h.own⟩
structure DoTo (W w:World) (P:Nat) (d:DfW) (o:Dft × Int) (e:Ending) (w':World):Prop where
 ret:e = .returned (.int .i64 o.2)
 tw:DwTo W w P d o.1 w'
theorem bx_hs {w:World} {R:Nat} {r:RwW} (h:codR.bxd w R = some r):NoHS (oneB R) w:=NoHS.blk (Cod.bxd_blk h) (by decide) (by decide)
theorem room_T {D:Dft} {n:Nat} (h:roomD D n = true) : -9223372036854775808 ≤ D.next.T ∧ D.next.T < 9223372036854775807:=by
 unfold roomD at h
 simp only [Bool.and_eq_true] at h
 have:=h.1.1
 unfold rightS at this
 simp only [Bool.and_eq_true,decide_eq_true_eq] at this
 omega
set_option maxRecDepth 100000 in
set_option maxHeartbeats 4000000 in
theorem remove_any {W w:World} {P:Nat} {D:Dft} {d:DfW} {rs:List RwW} (h:Dw W w P D d rs) (ht:TreeOk D.rows) (hw:wfS D.next = true) (F:Fr noB W w) (hT:HasT W) (hM:HasMW W) (p:List UInt8) (hp:p.length < 4294967281) :
  Calls Tryz.prog 27 #[.pointer (some ⟨P,0,none⟩),.string (str p)] w (DoTo W w P d (removeF D p)):=by
 have NM:=Lib.hid (names_any w (hM.fr F) p hp)
 have HD:=Lib.hid h
 have HT:=Lib.hid ht
 have HW:=Lib.hid hw
 have HTB:=Lib.hid hT
 have HF:=Lib.hid F
 have HLE:=Lib.hid (split_lenle p)
 have HP:=Lib.hid hp
 have HL5:=Lib.hid ht.len
 clear h ht hw hT hM hp F
 have HRF:=Lib.hid (show removeF D p = if namesOk p = false then (D,170) else if (walkD D.rows zRwP (splitD p)).2 < (splitD p).length then (D,4) else if roomD D 1 = false then (D,1)
  else (⟨putR D.rows { (walkD D.rows zRwP (splitD p)).1 with Parent:=trS,At:=D.next },tickD D.next 1⟩,0) from rfl)
 have HME:=Lib.hid (walkD_mem D.rows zRwP (splitD p))
 have HSN:=Lib.hid (List.length_pos_iff.2 (split_ne p))
 go_enter Tryz.func27,Tryz.ntmps27
 go_upto_region 2 with (go_at_call 38;refine NM.out.mono ?_;rintro e w1 ⟨A1,c1,rfl,hc1,s1,f1⟩)
 have S1:=Lib.hid s1
 have F1:=Lib.hid f1
 clear hc1 s1 f1
 cases hnk:namesOk p with
 | false =>
  have HN:=Lib.hid (show removeF D p = (D,170) by rw [HRF.out,hnk];rfl)
  clear hnk
  go_wp2_with fail
  go_ret
  exact ⟨by rw [HN.out];rfl,by rw [HN.out];exact DwTo.of0 HD.out F1.out⟩
 | true =>
  have HNK:=Lib.hid hnk
  clear hnk
  have WC:=Lib.hid (walk_call (HD.out.fr0 F1.out) (by have:=HL5.out;omega) (HTB.out.fr (HF.out.step0 F1.out)) A1 c1 _ (splitD p) rfl S1.out (by have:=HLE.out.1;have:=HP.out;omega))
  go_upto_region 5 with (go_at_call 39;refine WC.out.mono ?_;rintro e w2 ⟨r,rfl,hr,f2⟩)
  have hr2:=hr.fr ((Fr.refl noB w2).alloc (codR.o r)) (NoHS.nob _)
  have b2:=Cod.bxd_new (C:=codR) w2 r
  have F2:=Lib.hid (F1.out.step0 (f2.step0 ((Fr.refl noB w2).alloc (codR.o r))))
  have hsz:w.heap.size ≤ w2.heap.size:=(F1.out.step0 f2).size
  obtain ⟨R,eR⟩:∃ R,R = w2.heap.size:=⟨_,rfl⟩
  rw [← eR] at b2 ⊢
  have HPR:=Lib.hid (show P < R ∧ w.heap.size ≤ R by have:=Cod.bxd_lt HD.out.bx;omega)
  have HAR:=Lib.hid (show ∀ b,d.A.map (·.block) = some b → b < R from fun b hb=>by have:=(own_lt HD.out.own b hb).2;omega)
  generalize w2.alloc (codR.o r) = w3 at hr2 b2 F2 ⊢
  have HR2:=Lib.hid hr2
  have B2:=Lib.hid b2
  clear WC hr f2 hsz eR hr2 b2
  generalize walkD D.rows zRwP (splitD p) = o at HRF HME HR2 ⊢
  by_cases hlt:o.2 < (splitD p).length
  ·have i1:(o.2:Int) < ((splitD p).length:Int):=by omega
   have HN:=Lib.hid (show removeF D p = (D,4) by rw [HRF.out,HNK.out,if_neg (by simp),if_pos hlt])
   clear hlt
   go_wp2_with fail
   go_ret
   exact ⟨by rw [HN.out];rfl,by rw [HN.out];exact DwTo.of0 HD.out F2.out⟩
  ·have i1:¬ (o.2:Int) < ((splitD p).length:Int):=by omega
   have hmem:o.1 ∈ D.rows:=by
    rcases HME.out with e | e
    ·have:=HSN.out;omega
    ·exact e
   have HMM:=Lib.hid hmem
   have HRF2:=Lib.hid (show removeF D p = if roomD D 1 = false then (D,1) else (⟨putR D.rows { o.1 with Parent:=trS,At:=D.next },tickD D.next 1⟩,0) by rw [HRF.out,HNK.out,if_neg (by simp),if_neg hlt])
   clear hlt hmem HRF HME
   have RC:=room_call (HD.out.fr0 F2.out) (by have:=HL5.out;omega) HW.out 1 (by omega)
   have RC:=Lib.hid (show Calls Tryz.prog 55 #[.pointer (some ⟨P,0,none⟩),.int .i64 1] w3 (Gives w3 (.bool (roomD D 1))) from RC)
   cases hrm:roomD D 1 with
   | false =>
    have HN:=Lib.hid (show removeF D p = (D,1) by rw [HRF2.out,hrm];rfl)
    have HRM:=Lib.hid hrm
    clear hrm
    go_wp2_with (go_at_call 55;refine RC.out.mono ?_;rintro e w4 ⟨rfl,f4⟩;rw [HRM.out])
    go_ret
    exact ⟨by rw [HN.out];rfl,by rw [HN.out];exact DwTo.of0 HD.out (F2.out.step0 f4)⟩
   | true =>
    have HN:=Lib.hid (show removeF D p = (⟨putR D.rows { o.1 with Parent:=trS,At:=D.next },tickD D.next 1⟩,0) by rw [HRF2.out,hrm];rfl)
    have HRM:=Lib.hid hrm
    have HBT:=Lib.hid (room_T hrm)
    clear hrm
    go_upto_region 9 with (go_at_call 55;refine RC.out.mono ?_;rintro e w4 ⟨rfl,f4⟩;rw [HRM.out])
    have TC:=Lib.hid (take_call (HD.out.fr0 (F2.out.step0 f4)) HBT.out)
    have R4:=Lib.hid (HR2.out.fr f4 (NoHS.nob _))
    have B4:=Lib.hid (Cod.bxd_fr0 B2.out f4)
    have F4:=Lib.hid (F2.out.step0 f4)
    clear f4
    go_upto_region 10 with (go_at_call 56;refine TC.out.mono ?_;rintro e w5 ⟨rfl,hd5,f5⟩;have b5:=Cod.bxd_fr B4.out f5 (show ¬ R = P by have:=HPR.out;omega);have st5:=wst_Parent b5 ⟨0,1⟩;obtain ⟨g1,g2,g3⟩:=Cod.put_fr b5 { r with Parent:=⟨0,1⟩ };have st6:=wst_At g3 D.next)
    obtain ⟨k1,k2,k3⟩:=Cod.put_fr g3 { r with Parent:=⟨0,1⟩,At:=D.next }
    have hb5:NoHS (oneB R) w5:=bx_hs b5
    have hb6:NoHS (oneB R) (codR.put w5 R { r with Parent:=⟨0,1⟩ }):=bx_hs g3
    have hd7:=(hd5.frM g1 (show ¬ P = R by have:=HPR.out;omega) (fun b hb e=>by have:=HAR.out b hb;have e:b = R:=e;omega) hb5.h).frM k1 (show ¬ P = R by have:=HPR.out;omega) (fun b hb e=>by have:=HAR.out b hb;have e:b = R:=e;omega) hb6.h
    have hP5:NoHS (oneB P) w4:=NoHS.blk (Cod.bxd_blk (HD.out.fr0 F4.out).bx) (by decide) (by decide)
    have r7:=(((R4.out.fr f5 hP5).fr g1 hb5).fr k1 hb6).turn trS D.next o.1.Name wf_trS (by rw [R4.out.inn.name];exact R4.out.inn.nm)
    have HD7:=Lib.hid hd7
    have R7:=Lib.hid (show RwO (codR.put (codR.put w5 R { r with Parent:=⟨0,1⟩ }) R { r with Parent:=⟨0,1⟩,At:=D.next }) { r with Parent:=⟨0,1⟩,At:=D.next } { o.1 with Parent:=trS,At:=D.next } from by
     have e:=R4.out.inn.name
     rw [e] at r7
     have e2:({ o.1 with Parent:=trS,At:=D.next,Name:=r.Name }:RwP) = { o.1 with Parent:=trS,At:=D.next }:=by rw [← e]
     rw [e2] at r7
     exact r7)
    have F7:=Lib.hid ((((wk0 F4.out).trans (dM.one P d f5) (fun _ _ h=>h)).step1 g1 HPR.out.2).step1 k1 HPR.out.2:Fr (dM P d) w _)
    have r8:=Cod.bxd_rd k3
    clear b5 st5 g1 g2 g3 st6 k1 k2 k3 hb5 hb6 hd7 hP5 r7 hd5 f5
    generalize codR.put (codR.put w5 R { r with Parent:=⟨0,1⟩ }) R { r with Parent:=⟨0,1⟩,At:=D.next } = w7 at HD7 R7 F7 r8 ⊢
    have PC:=Lib.hid (put_call HD7.out (Nat.le_trans HF.out.size F7.out.size) (riseR_pw HT.out.rise) (by have:=HL5.out;show D.rows.length ≤ _;omega) R7.out (.inl ⟨o.1,HMM.out,rfl⟩))
    go_wp2_with (go_at_call 57;refine PC.out.mono ?_;rintro e w8 ⟨rfl,⟨d8,rs8,hd8,hn8⟩,f8⟩)
    go_ret
    exact ⟨by rw [HN.out];rfl,by rw [HN.out];exact ⟨⟨d8,rs8,hd8,dN.trans (w1:=w7) (d1:={ d with next:=tickW d.next }) (.inl rfl) hn8 F7.out.size⟩,dM.trans (d1:={ d with next:=tickW d.next }) F7.out (.inl rfl) f8⟩⟩
set_option maxRecDepth 100000 in
theorem under1_any (w:World) (r:RwW) (B:Nat) (s:St) (hB:codS.rd w B 0 = some s):Calls Tryz.prog 88 #[.agg (codR.A r),.pointer (some ⟨B,0,none⟩)] w (Gives w (.bool (decide (r.Node = s)))):=by
 have f0:Fr noB w (w.alloc (.cells (codR.A r) 60)):=(Fr.refl noB w).alloc _
 have q0:=(rwAt (Cod.rd_new (C:=codR) w 60 r)).node
 have q1:=Cod.rd_fr0 hB f0
 have F0:=Lib.hid f0
 clear hB f0
 go_enter Tryz.func88,Tryz.ntmps88
 go_wp2_with fail
 go_ret
 exact ⟨by first | rfl | simp,F0.out⟩
theorem fst_hit {rs:List RwW} {xs:List RwP} {w:World} (h:AllO RwO w rs xs) (hnd:(xs.map (·.Node)).Nodup) {s:St} {x:RwP} (hf:findR xs s = some x) {z:Int} (hz:FstI rs.length (fun k=>if h:k < rs.length then decide (rs[k].Node = s) else false) z) :
  ∃ i:Nat,∃ hi:i < rs.length,z = (i:Int) ∧ rs[i].Parent = x.Parent:=by
 obtain ⟨hx,he⟩:=findR_some hf
 rcases hz with ⟨i,hi,e,hp,_⟩ | ⟨_,hno⟩
 ·refine ⟨i,hi,e,?_⟩
  simp only [dif_pos hi,decide_eq_true_eq] at hp
  have hix:i < xs.length:=by rw [← h.1];exact hi
  have h1:=(h.2 i hi hix).inn
  have h2:=findR_mem hnd (List.getElem_mem hix)
  rw [h1.node,hp,hf] at h2
  injection h2 with h2
  rw [h2,h1.parent]
 ·obtain ⟨i,hi,rfl⟩:=List.getElem_of_mem hx
  have hir:i < rs.length:=by rw [h.1];exact hi
  have h1:=(h.2 i hir hi).inn
  have:=hno i hir
  simp only [dif_pos hir,decide_eq_false_iff_not] at this
  exact absurd (h1.node.symm.trans he) this
theorem above_stepW {xs:List RwP} {k:Nat} {n p:St} {r:RwP} (h0:p.T ≠ 0) (hf:findR xs p = some r):aboveN xs (k + 1) n p = (decide (p = n) || aboveN xs k n r.Parent):=by
 show (if p.T = 0 then false else decide (p = n) || match findR xs p with | none=>false | some r=>aboveN xs k n r.Parent) = _
 rw [if_neg h0,hf]
theorem above_zeroW {xs:List RwP} {k:Nat} {n p:St} (h0:p.T = 0):aboveN xs k n p = false:=by
 cases k with
 | zero=>rfl
 | succ k =>
  show (if p.T = 0 then false else _) = false
  rw [if_pos h0]
theorem up_stepW {xs:List RwP} {k:Nat} {p:St} (h0:p.T ≠ 0) (hr:reach xs k p = true):∃ j x,k = j + 1 ∧ findR xs p = some x ∧ reach xs j x.Parent = true:=by
 have hf:fixedS p = false:=by
  cases e:fixedS p with
  | false=>rfl
  | true=>exact absurd (fixedS_T e) h0
 cases k with
 | zero =>
  have:fixedS p = true:=hr
  rw [hf] at this
  cases this
 | succ k =>
  have hr:(fixedS p || match findR xs p with | none=>false | some r=>reach xs k r.Parent) = true:=hr
  rw [hf,Bool.false_or] at hr
  cases hx:findR xs p with
  | none=>rw [hx] at hr;cases hr
  | some x=>rw [hx] at hr;exact ⟨k,x,rfl,rfl,hr⟩
def UnR (w0:World) (xs:List RwP) (n p:St) (B:Nat) (gk:Nat) (wr:World):Prop :=
 ∃ s:St,codS.bxd wr B = some s ∧ reach xs gk s = true ∧ aboveR xs n p = aboveN xs gk n s ∧ Fr (oneB B) w0 wr
set_option maxRecDepth 100000 in
set_option maxHeartbeats 4000000 in
theorem under_any {W w:World} {P:Nat} {D:Dft} {d:DfW} {rs:List RwW} (h:Dw W w P D d rs) (ht:TreeOk D.rows) (p n:St) (hp:∃ k,reach D.rows k p = true) (hn:n.T ≠ 0) :
  Calls Tryz.prog 59 #[.pointer (some ⟨P,0,none⟩),.agg (codS.A p),.agg (codS.A n)] w (Gives w (.bool (aboveR D.rows n p))):=by
 have HD:=Lib.hid h
 have HT:=Lib.hid ht
 have HN:=Lib.hid hn
 have HPR:=Lib.hid (show reach D.rows D.rows.length p = true by obtain ⟨k,hk⟩:=hp;exact reach_len hk)
 have fa:Fr noB w (w.alloc (.cells (codS.A p) 24)):=(Fr.refl noB w).alloc _
 have ba:codS.bxd (w.alloc (.cells (codS.A p) 24)) w.heap.size = some p:=Cod.bxd_box w p
 have z0:(w.alloc (.cells (codS.A p) 24)).heap.size = w.heap.size + 1:=by simp
 have fb:Fr noB (w.alloc (.cells (codS.A p) 24)) ((w.alloc (.cells (codS.A p) 24)).alloc (.cells (codS.A n) 24)):=(Fr.refl noB _).alloc _
 have bb:=Cod.rd_new (C:=codS) (w.alloc (.cells (codS.A p) 24)) 24 n
 rw [z0] at bb
 replace ba:=Cod.bxd_fr0 ba fb
 have f0:=fa.step0 fb
 have hlt:=Cod.bxd_lt h.bx
 clear h ht hn hp fa fb z0
 go_enter Tryz.func59,Tryz.ntmps59
 go_wp2_with fail
 generalize (w.alloc (.cells (codS.A p) 24)).alloc (.cells (codS.A n) 24) = w0 at f0 ba bb ⊢
 obtain ⟨B,eB⟩:∃ B,B = w.heap.size:=⟨_,rfl⟩
 rw [← eB] at ba bb ⊢
 have HB:=Lib.hid (show P < B ∧ w.heap.size ≤ B by omega)
 have F0:=Lib.hid f0
 have BA:=Lib.hid ba
 have BB:=Lib.hid bb
 have HAB:=Lib.hid (show ∀ b,d.A.map (·.block) = some b → b < B from fun b hb=>by have:=(own_lt HD.out.own b hb).2;omega)
 clear eB f0 ba bb hlt
 go_loopg [7] D.rows.length (fun gk iv wr=>UnR w0 D.rows n p B gk wr)
 case atStart=>exact ⟨p,BA.out,HPR.out,rfl,Fr.refl _ _⟩
 case round =>
  obtain ⟨s,hbs,hre,hab,hf⟩:=hrel
  have qT:wr.cell? ⟨B,0,none⟩ = some (.int .i64 s.T):=by simpa using Cod.rd_cell (Cod.bxd_rd hbs) 0 (v:=.int .i64 s.T) rfl
  have qs:=Cod.bxd_rd hbs
  have qn:codS.rd wr (B + 1) 0 = some n:=Cod.rd_fr BB.out hf (show ¬ B + 1 = B by omega)
  have HF:=Lib.hid hf
  have HRE:=Lib.hid hre
  have HAE:=Lib.hid hab
  have HBS:=Lib.hid hbs
  clear hf hre hab hbs
  by_cases hT:s.T = 0
  ·have b1:(s.T == 0) = true:=by simp [hT]
   have hsn:s ≠ n:=fun e=>HN.out (by rw [← e];exact hT)
   have hd1:decide (s = n) = false:=by simp [hsn]
   have HE:=Lib.hid (show decide (s = n) = aboveR D.rows n p from (by rw [HAE.out,above_zeroW hT,hd1]))
   clear hsn
   go_wp2_with fail
   go_ret
   exact ⟨by rw [← HE.out,hd1];rfl,F0.out.step1 HF.out HB.out.2⟩
  ·have b1:(s.T == 0) = false:=by simp [hT]
   by_cases hsn:s = n
   ·have hd1:decide (s = n) = true:=by simp [hsn]
    have HE:=Lib.hid (show decide (s = n) = aboveR D.rows n p from (by obtain ⟨j,x,ej,hfx,_⟩:=up_stepW hT HRE.out;rw [HAE.out,ej,above_stepW hT hfx,hd1];rfl))
    clear hT
    go_wp2_with fail
    go_ret
    exact ⟨by rw [← HE.out,hd1];rfl,F0.out.step1 HF.out HB.out.2⟩
   ·have hd1:decide (s = n) = false:=by simp [hsn]
    obtain ⟨j,x,ej,hfx,hrx⟩:=up_stepW hT HRE.out
    have HAX:=Lib.hid (show aboveR D.rows n p = aboveN D.rows j n x.Parent by rw [HAE.out,ej,above_stepW hT hfx,hd1];rfl)
    have HRX:=Lib.hid hrx
    have HFX:=Lib.hid hfx
    have HEJ:=Lib.hid ej
    have HDr:=Lib.hid (show Dw W wr P D d rs from (HD.out.fr0 F0.out).frM HF.out (show ¬ P = B by have:=HB.out;omega) (fun b hb e=>by have:=HAB.out b hb;have e:b = B:=e;omega) (NoH.blk (Cod.bxd_blk BA.out) (by decide)))
    have q0:=(dfAt HDr.out.bx).rows
    have IU:=Lib.hid (idxUn_any wr d.A d.c d.n rs HDr.out.n (Sl.own HDr.out.own) (by have:=HDr.out.rows.1;have:=HT.out.len;omega) (.pointer (some ⟨B,0,none⟩)) (fun k=>if h:k < rs.length then decide (rs[k].Node = s) else false) (fun w' f k hk=>by
     have:=under1_any w' rs[k] B s (Cod.bxd_rd (Cod.bxd_fr0 HBS.out f))
     simpa [hk] using this))
    clear hsn ej hfx hrx
    go_upto_region 3 with (go_at_call 87;refine IU.out.mono ?_;rintro e w5 ⟨z,rfl,hz,f5⟩)
    obtain ⟨i,hi,rfl,hpa⟩:=fst_hit HDr.out.rows HT.out.nd HFX.out hz
    have HF5:=Lib.hid f5
    have hD5:=HDr.out.fr0 f5
    have q5:=(dfAt hD5.bx).rows
    obtain ⟨g,eA,hg,_,_,_⟩:=RwA.own hD5.own (by intro h;rw [h] at hi;simp at hi)
    have ro:codR.rd w5 g (i * 8) = some rs[i]:=by
     have h1:=Sl.own hD5.own
     rw [eA] at h1
     have:=h1.rd i hi
     simpa [show codR.n = 8 from rfl] using this
    have rp:=(rwAtO ro).parent
    rw [hpa] at rp
    rw [eA] at q5
    have i1:(i:Int) < (d.n:Int):=by have:=hD5.n;omega
    have i0:(0:Int) ≤ (i:Int):=by omega
    have b5:=Cod.bxd_fr0 HBS.out f5
    have hst:=okS.stR_box b5 x.Parent
    obtain ⟨p1,p2,p3⟩:=Cod.put_fr b5 x.Parent
    have PP:=Lib.hid (And.intro p1 p3)
    clear hz hpa f5 hD5 hg ro p1 p2 p3 b5 q0 qs qT qn hi
    go_wp2_with fail
    go_roundg j
    case measure=>have:=HEJ.out;omega
    case rel=>exact ⟨x.Parent,PP.out.2,HRX.out,HAX.out,(HF.out.step0 HF5.out).trans PP.out.1 (fun _ _ h=>h)⟩
theorem nms_take {w:World} {A:Option Addr} {l:List (List UInt8)} (h:Sl w A (nmsV l)) (k:Nat):Sl w A (nmsV (l.take k)):=by
 have:=Sl.take (k:=k) h
 have e:(nmsV l).take k = nmsV (l.take k):=by unfold nmsV;rw [List.map_take]
 rw [e] at this
 exact this
def FaR (w0:World) (rs:List RwP) (l:List (List UInt8)) (gk:Nat) (iv:Value) (wr:World):Prop :=
 ∃ i:Nat,iv = .int .i64 (i:Int) ∧ 1 ≤ i ∧ i ≤ l.length + 1 ∧ gk = l.length + 1 - i ∧ (∀ j,j + 1 < i → ¬ 0 < (walkD rs zRwP (l.take (j + 1))).1.Heads.length) ∧ Fr noB w0 wr
theorem fileD_yes {rs:List RwP} {l:List (List UInt8)} {n i:Nat} (h0:1 ≤ i) (h1:i ≤ min n (l.length - 1)) (h:0 < (walkD rs zRwP (l.take i)).1.Heads.length):fileD rs l n = true:=by
 unfold fileD
 refine List.any_eq_true.2 ⟨i - 1,List.mem_range.2 (by omega),?_⟩
 rw [show i - 1 + 1 = i by omega]
 exact decide_eq_true h
theorem fileD_no {rs:List RwP} {l:List (List UInt8)} {n i:Nat} (h1:min n (l.length - 1) < i) (h:∀ j,j + 1 < i → ¬ 0 < (walkD rs zRwP (l.take (j + 1))).1.Heads.length):fileD rs l n = false:=by
 unfold fileD
 rw [List.any_eq_false]
 intro j hj
 have:=h j (by have:=List.mem_range.1 hj;omega)
 simpa using this
set_option maxRecDepth 100000 in
set_option maxHeartbeats 4000000 in
theorem fileAhead_any {W w:World} {P:Nat} {D:Dft} {d:DfW} {rs:List RwW} (h:Dw W w P D d rs) (hb:D.rows.length ≤ 100000) (hT:HasT w) (A:Option Addr) (c n:Nat) (l:List (List UInt8)) (hl:l.length = n) (hsl:Sl w A (nmsV l)) (hc:n ≤ c) (hlb:l.length ≤ 100000000000000) (hl1:1 ≤ l.length) (m:Nat) (hm:m ≤ l.length) :
  Calls Tryz.prog 54 #[.pointer (some ⟨P,0,none⟩),.slice A n c,.int .i64 (m:Int)] w (Gives w (.bool (fileD D.rows l m))):=by
 subst hl
 have HD:=Lib.hid h
 have HB:=Lib.hid hb
 have HT:=Lib.hid hT
 have HS:=Lib.hid hsl
 have HLB:=Lib.hid hlb
 have HM:=Lib.hid hm
 have HC:=Lib.hid hc
 have HL1:=Lib.hid hl1
 obtain ⟨g,off,rfl,hg,_⟩:=hsl (by intro e;have h0:=congrArg List.length e;rw [nmsV_len] at h0;have h1:l.length = 0:=h0;omega)
 clear h hb hT hlb hsl hg hm hc hl1
 go_enter Tryz.func54,Tryz.ntmps54
 go_wp2_with fail
 go_loopg [7] l.length (fun gk iv wr=>FaR w D.rows l gk iv wr)
 case atStart=>exact ⟨1,rfl,by omega,by omega,by omega,fun j hj=>by omega,Fr.refl _ _⟩
 case round =>
  obtain ⟨i,rfl,h1,hi,rfl,hno,hf⟩:=hrel
  have HI:=Lib.hid (And.intro h1 hi)
  have HNO:=Lib.hid hno
  have HF:=Lib.hid hf
  have hw1:wrap64 ((l.length:Int) - 1) = (l.length:Int) - 1:=IntWalk.wrap64_in _ (by have:=HLB.out;omega)
  clear h1 hi hno hf
  by_cases hlt:(i:Int) ≤ min (m:Int) ((l.length:Int) - 1)
  ·have i0:(0:Int) ≤ (i:Int):=by omega
   have i2:(i:Int) ≤ (c:Int):=by have:=HC.out;omega
   have HLT:=Lib.hid (show i ≤ min m (l.length - 1) by omega)
   have WC:=Lib.hid (walk_call (HD.out.fr0 HF.out) HB.out (HT.out.fr HF.out) (some ⟨g,off,none⟩) c i (l.take i) (by rw [List.length_take];have:=HLT.out;omega) (nms_take (HS.out.fr0 HF.out) i) (by rw [List.length_take];have:=HLB.out;omega))
   have HWI:=Lib.hid (IntWalk.wrap64_in ((i:Int) + 1) (by have:=HLT.out;have:=HLB.out;omega))
   go_upto_region 5 with (go_at_call 39;refine WC.out.mono ?_;rintro e w4 ⟨r,rfl,hr,f4⟩)
   have hln:=hr.inn.len
   have f5:Fr noB w4 (w4.alloc (codR.o r)):=(Fr.refl noB w4).alloc _
   have b5:=(rwAt (Cod.rd_new' (C:=codR) w4 r)).heads
   have F5:=Lib.hid (HF.out.step0 (f4.step0 f5))
   clear hr f4 f5
   generalize w4.alloc (codR.o r) = w5 at b5 F5 ⊢
   generalize w4.heap.size = B5 at b5 ⊢
   by_cases hp:0 < r.n
   ·have i3:(0:Int) < (r.n:Int):=by omega
    have HP:=Lib.hid (fileD_yes HI.out.1 HLT.out (by rw [hln];exact hp))
    clear hp hln
    go_wp2_with fail
    go_ret
    exact ⟨by rw [HP.out];rfl,F5.out⟩
   ·have i3:¬ (0:Int) < (r.n:Int):=by omega
    have HP:=Lib.hid (show ¬ 0 < (walkD D.rows zRwP (l.take i)).1.Heads.length by rw [hln];exact hp)
    clear hp hln
    go_wp2_with fail
    go_roundg (l.length + 1 - (i + 1))
    case measure=>have:=HLT.out;have:=HI.out;omega
    case rel=>exact ⟨i + 1,by first | (simp;done) | (rw [HWI.out];rfl) | exact congrArg (Value.int .i64) HWI.out,by omega,by have:=HLT.out;have:=HI.out;omega,rfl,fun j hj=>by
     rcases Nat.lt_or_ge (j + 1) i with h | h
     ·exact HNO.out j h
     ·have:j + 1 = i:=by omega
      rw [this];exact HP.out,F5.out⟩
  ·have HN:=Lib.hid (fileD_no (rs:=D.rows) (l:=l) (n:=m) (i:=i) (by have:=HL1.out;omega) HNO.out)
   go_wp2_with fail
   go_ret
   exact ⟨by rw [HN.out];rfl,HF.out⟩
end Go.Proofs.YthehiobacjjakaaGreatDoor
