/- Words for the law WorkPlays: the reference's draft beside the draft of work. (ex_ldS_at) -/
import Derived.Test.YthehiobacjjakaaGreatDoorRfOKp
import Derived.Test.YthehiobacjjakaaGreatDoorLsWKp
import Derived.Test.YthehiobacjjakaaGreatDoorClkPKp
import Derived.Deep.CutRange
import Derived.Deep.CutBlock
set_option linter.unusedVariables false
set_option linter.unusedSimpArgs false
namespace Go.Proofs.YthehiobacjjakaaGreatDoor
open Go.RowKit Go.Maps Go.Sort
theorem Dv.offR {w:World} {d:DfW} {rs:List RwW} {D:Dft} (h:Dv w d rs D) {Q:Nat → Prop} (hQ:∀ b,Q b → w.heap.size ≤ b):OffR Q d rs where
 a:=fun hl b e hb=>by
  obtain ⟨g,off,hA,hg⟩:=h.sl.adC (List.length_pos_iff.2 hl)
  rw [hA] at e
  injection e with e
  have e:g = b:=e
  have:=hQ b hb
  omega
 h:=fun r hr hn b e hb=>by
  obtain ⟨x,hx,hi⟩:=h.rows.mem hr
  obtain ⟨g,off,hA,hg⟩:=hi.sl.adC (by rw [hi.len];omega)
  rw [hA] at e
  injection e with e
  have e:g = b:=e
  have:=hQ b hb
  omega
theorem OffR.or {Q Q' N:Nat → Prop} {d:DfW} {rs:List RwW} (h:OffR Q d rs) (k:OffR N d rs) (hs:∀ b,Q' b → Q b ∨ N b):OffR Q' d rs where
 a:=fun hl b e hb=>by
  rcases hs b hb with q | q
  ·exact h.a hl b e q
  ·exact k.a hl b e q
 h:=fun r hr hn b e hb=>by
  rcases hs b hb with q | q
  ·exact h.h r hr hn b e q
  ·exact k.h r hr hn b e q
theorem Dv.frM {M:Nat → Prop} {w w':World} {d:DfW} {rs:List RwW} {D:Dft} (h:Dv w d rs D) (o:OffR M d rs) (f:Fr M w w'):Dv w' d rs D :=
 ⟨h.n,h.sl.frO f o.a,⟨h.rows.len,fun i h1 h2=>by
  have k:=h.rows.at_ i h1 h2
  have ho:=o.h _ (List.getElem_mem h1)
  refine ⟨k.eq,k.len,?_,k.bd,k.nm,k.wn,k.wp⟩
  by_cases hz:rs[i].n = 0
  ·have e:D.rows[i].Heads = []:=List.length_eq_zero_iff.1 (by rw [k.len];exact hz)
   rw [e]
   exact Sl.nil _ _
  ·exact k.sl.fr f (fun a e hb=>ho hz a.block (by rw [e];rfl) hb)⟩,h.next⟩
structure PyS (W:World) (P M:Nat) (D:Dft) (wr:World) (d:DfW) (rs:List RwW) (dv:DfW) (rv:List RwW):Prop where
 dw:Dw W wr P D d rs
 bM:codDv.bxd wr M = some dv
 v:Dv wr dv rv D
 off:OffR (dM P d) dv rv
 nM:¬ dM P d M
 base:W.heap.size ≤ M
 fr:Fr noB W wr
theorem PyS.fr0 {W wr w':World} {P M:Nat} {D:Dft} {d:DfW} {rs:List RwW} {dv:DfW} {rv:List RwW} (h:PyS W P M D wr d rs dv rv) (f:Fr noB wr w'):PyS W P M D w' d rs dv rv :=
 ⟨h.dw.fr0 f,Cod.bxd_fr0 h.bM f,h.v.fr f,h.off,h.nM,h.base,h.fr.step0 f⟩
theorem PyS.lt {W wr:World} {P M:Nat} {D:Dft} {d:DfW} {rs:List RwW} {dv:DfW} {rv:List RwW} (h:PyS W P M D wr d rs dv rv):∀ b,dM P d b → b < wr.heap.size:=fun b hb=>by
 rcases hb with rfl | hb
 ·exact Cod.bxd_lt h.dw.bx
 ·exact (own_lt h.dw.own b hb).2
theorem Dv.small {w w':World} {d:DfW} {rs:List RwW} {D:Dft} {b:Nat} {t:TypeId} {cs:List Value} (h:Dv w d rs D) (f:Fr (oneB b) w w') (hb:Blk w b t cs) (hl:cs.length < 8):Dv w' d rs D :=
 ⟨h.n,h.sl.small f hb (by
  rw [Cod.row_len]
  rcases Nat.eq_zero_or_pos rs.length with e | e
  ·left;rw [List.length_eq_zero_iff.1 e];rfl
  ·right;show cs.length < rs.length * 8;omega),h.rows.small f hb (by omega),h.next⟩
structure PyT (W:World) (P M S:Nat) (D D1 D2:Dft) (wr:World) (d:DfW) (rs:List RwW) (dv:DfW) (rv:List RwW) (dz:DfW) (rz:List RwW):Prop where
 dw:Dw W wr P D d rs
 bM:codDv.bxd wr M = some dv
 v:Dv wr dv rv D1
 ov:OffR (dM P d) dv rv
 bS:codDv.bxd wr S = some dz
 z:Dv wr dz rz D2
 oz:OffR (dM P d) dz rz
 nM:¬ dM P d M
 ms:M ≠ S
 base:W.heap.size ≤ M
 fr:Fr noB W wr
section
variable {W wr w':World} {P M S:Nat} {D D1 D2 D3:Dft} {d:DfW} {rs:List RwW} {dv:DfW} {rv:List RwW} {dz:DfW} {rz:List RwW} {dv2:DfW} {rv2:List RwW}
theorem PyT.fr0 (h:PyT W P M S D D1 D2 wr d rs dv rv dz rz) (f:Fr noB wr w'):PyT W P M S D D1 D2 w' d rs dv rv dz rz :=
 ⟨h.dw.fr0 f,Cod.bxd_fr0 h.bM f,h.v.fr f,h.ov,Cod.bxd_fr0 h.bS f,h.z.fr f,h.oz,h.nM,h.ms,h.base,h.fr.step0 f⟩
theorem PyT.lt (h:PyT W P M S D D1 D2 wr d rs dv rv dz rz):∀ b,dM P d b → b < wr.heap.size:=fun b hb=>by
 rcases hb with rfl | hb
 ·exact Cod.bxd_lt h.dw.bx
 ·exact (own_lt h.dw.own b hb).2
theorem PyT.put (h:PyT W P M S D D1 D2 wr d rs dv rv dz rz) (hv:Dv wr dv2 rv2 D3) (ho:OffR (dM P d) dv2 rv2):PyT W P M S D D3 D2 (codDv.put wr M dv2) d rs dv2 rv2 dz rz:=by
 obtain ⟨p1,_,p3⟩:=Cod.put_fr h.bM dv2
 have hb:=Cod.bxd_blk h.bM
 have hl:(codDv.cs dv).length < 8:=by rw [codDv.len];decide
 exact ⟨h.dw.frM p1 (fun e=>h.nM (.inl e.symm)) (fun b e k=>h.nM (.inr (by rw [← k];exact e))) (NoH.blk hb (by decide)),p3,hv.small p1 hb hl,ho,Cod.bxd_fr h.bS p1 (fun e=>h.ms e.symm),h.z.small p1 hb hl,h.oz,h.nM,h.ms,h.base,h.fr.step1 p1 h.base⟩
end
def PyR (W:World) (P M:Nat) (l:List OpL) (gk:Nat) (iv:Value) (wr:World):Prop :=
 ∃ (k:Nat) (D:Dft) (d:DfW) (rs:List RwW) (dv:DfW) (rv:List RwW),iv = .int .i64 (k:Int) ∧ gk = l.length - k ∧ k ≤ l.length ∧ PyS W P M D wr d rs dv rv ∧ TreeOk D.rows ∧ wfS D.next = true
set_option maxRecDepth 100000 in
set_option maxHeartbeats 8000000 in
theorem plays17_any (W0:World) (hT0:HasT W0) (hM0:HasMW W0) (A:Option Addr) (c n:Nat) (rs:List RwW) (xs:List RwP) (hn:rs.length = n) (hs:Sl W0 A (codR.row rs)) (hb:rs.length ≤ 140737488355328) (hX:RwsIn W0 rs xs) (hbd:∀ x ∈ xs,x.Heads.length ≤ 2932031007402) (s:St) (hws:wfS s = true)
  (B:Option Addr) (cb m:Nat) (l:List OpL) (hm:l.length = m) (hsl:Sl W0 B (codLp.row l)) (hlb:l.length ≤ 140737488355328) (p:List UInt8) (hp:p.length ≤ 2000000) :
  Calls Tryz.prog 3 #[.slice A n c,.agg (codS.A s),.slice B m cb,.string (str p)] W0 (Gives W0 (.bool true)):=by
 subst hn
 subst hm
 have f0:Fr noB W0 (W0.alloc (.cells (codS.A s) 24)):=(Fr.refl noB W0).alloc _
 have q0:=Cod.rd_new (C:=codS) W0 24 s
 have HT0:=Lib.hid hT0
 have HM0:=Lib.hid hM0
 have HS:=Lib.hid hsl
 have HP:=Lib.hid hp
 have AL:=Lib.hid (alive17_any _ (hT0.fr f0) (hM0.fr f0))
 have NC:=Lib.hid (fun w' (f:Fr noB W0 w')=>new_call w' A c rs.length rs xs rfl (hs.fr0 f) hb (hX.fr f) hbd s)
 have RN:=Lib.hid (fun W w' (fW:Fr noB W0 W) (f:Fr noB W w')=>rnew_any f A c rs.length rs xs rfl (hs.fr0 fW) hb (hX.fr fW) s)
 clear hT0 hM0 hs hsl hX hbd hp
 go_enter Tryz.func3,Tryz.ntmps3
 go_upto_region 1 with fail
 generalize W0.alloc (.cells (codS.A s) 24) = V0 at f0 q0 AL ⊢
 generalize W0.heap.size = N at q0 ⊢
 by_cases h30:30 < rs.length
 ·have i30:(30:Int) < (rs.length:Int):=by omega
  go_wp2_with (go_at_call 8;refine AL.out.mono ?_;rintro e w1 ⟨rfl,f1⟩)
  go_ret
  exact ⟨rfl,f0.step0 f1⟩
 have i30:¬ (30:Int) < (rs.length:Int):=by omega
 by_cases h20:20 < l.length
 ·have i20:(20:Int) < (l.length:Int):=by omega
  go_wp2_with (go_at_call 8;refine AL.out.mono ?_;rintro e w1 ⟨rfl,f1⟩)
  go_ret
  exact ⟨rfl,f0.step0 f1⟩
 have i20:¬ (20:Int) < (l.length:Int):=by omega
 have HL:=Lib.hid (show l.length ≤ 20 by omega)
 clear h20 h30
 have F0:=Lib.hid f0
 have Q0:=Lib.hid q0
 clear f0 q0
 go_upto_region 5 with (go_at_call 8;refine AL.out.mono ?_;rintro e W ⟨rfl,f1⟩)
 have FW:=Lib.hid (F0.out.step0 f1)
 have q0:=Cod.rd_fr0 Q0.out f1
 have HT:=Lib.hid (HT0.out.fr FW.out)
 have HM:=Lib.hid (HM0.out.fr FW.out)
 clear f1 i30 i20
 go_upto_region 6 with (go_at_call 9;refine (NC.out W FW.out).mono ?_;rintro e w3 ⟨⟨P,d0,rs0,rfl,hd0⟩,f3⟩)
 have q1:=Cod.rd_fr0 q0 f3
 have F3:=Lib.hid f3
 have D3:=Lib.hid hd0
 clear q0 f3 hd0
 go_upto_region 7 with (go_at_call 10;refine (RN.out W w3 FW.out F3.out).mono ?_;rintro e w4 ⟨dv0,rv0,rfl,hv0,f4⟩)
 have f5:Fr noB w4 (w4.alloc (codDv.o dv0)):=(Fr.refl noB w4).alloc _
 have b5:codDv.bxd (w4.alloc (codDv.o dv0)) w4.heap.size = some dv0:=Cod.bxd_new w4 dv0
 have S5:PyS W P w4.heap.size ⟨newD xs,s⟩ (w4.alloc (codDv.o dv0)) d0 rs0 dv0 rv0:=by
  refine ⟨D3.out.fr0 (f4.step0 f5),b5,hv0.fr (F3.out.step0 (f4.step0 f5)),hv0.offR fun b hb=>?_,fun hb=>?_,(F3.out.step0 f4).size,F3.out.step0 (f4.step0 f5)⟩
  ·rcases hb with rfl | hb
   ·exact D3.out.base
   ·exact (own_lt D3.out.own b hb).1
  ·have h4:=f4.size
   rcases hb with hb | hb
   ·have h1:=Cod.bxd_lt D3.out.bx;omega
   ·have h1:=(own_lt D3.out.own _ hb).2;omega
 generalize w4.alloc (codDv.o dv0) = w5 at S5 ⊢
 generalize w4.heap.size = M at S5 ⊢
 have H0:=Lib.hid (show PyR W P M l l.length (.int .i64 ((0:Nat):Int)) w5 from ⟨0,⟨newD xs,s⟩,d0,rs0,dv0,rv0,rfl,rfl,by omega,S5,newD_ok xs,hws⟩)
 clear f4 f5 b5 S5 hv0 q1 NC RN hws
 go_wp2_with fail
 go_loopg [38] l.length (fun gk iv wr=>PyR W P M l gk iv wr)
 case atStart=>exact H0.out
 case round =>
  clear H0
  obtain ⟨k,D,d,rs,dv,rv,rfl,rfl,hk,hS,ht,hw⟩:=hrel
  have HTR:=Lib.hid ht
  have HW:=Lib.hid hw
  have HSt:=Lib.hid hS
  clear hS ht hw
  by_cases hlt:k < l.length
  ·have i1:(k:Int) < (l.length:Int):=by omega
   have i0:(0:Int) ≤ (k:Int):=by omega
   have hsl:=(HS.out.fr0 (FW.out.step0 HSt.out.fr))
   obtain ⟨g,off,rfl,hg⟩:=Sl.addr hsl (by omega)
   have ro:codLp.rd wr g (off + k * 35) = some l[k]:=Sl.rd hsl k hlt
   generalize l[k] = o at ro
   have HLT:=Lib.hid hlt
   clear hsl hg hlt hk
   go_upto_region 10 with fail
   have f4:Fr noB wr (wr.alloc (codLp.o o)):=(Fr.refl noB wr).alloc _
   have q4:=Cod.rd_new' (C:=codLp) wr o
   have S4:=Lib.hid (HSt.out.fr0 f4)
   have HPQ:=Lib.hid (show ¬ dM P d wr.heap.size ∧ M ≠ wr.heap.size from ⟨fun h=>by have:=HSt.out.lt _ h;omega,fun h=>by have:=Cod.bxd_lt HSt.out.bM;omega⟩)
   clear ro f4
   generalize wr.alloc (codLp.o o) = w4 at q4 S4 ⊢
   generalize wr.heap.size = Q at q4 HPQ ⊢
   have qa:=(lpAt q4).A
   have qz:=(lpAt q4).Z
   have Q4:=Lib.hid q4
   by_cases hA:2000 < o.A.length
   ·have iA:(2000:Int) < ((str o.A).size:Int):=by rw [sz_str];omega
    clear hA
    go_wp2_with fail
    go_ret
    exact ⟨rfl,FW.out.step0 S4.out.fr⟩
   have iA:¬ (2000:Int) < ((str o.A).size:Int):=by rw [sz_str];omega
   by_cases hZ:2000 < o.Z.length
   ·have iZ:(2000:Int) < ((str o.Z).size:Int):=by rw [sz_str];omega
    clear hA hZ
    go_wp2_with fail
    go_ret
    exact ⟨rfl,FW.out.step0 S4.out.fr⟩
   have iZ:¬ (2000:Int) < ((str o.Z).size:Int):=by rw [sz_str];omega
   have DO:=does_ok HTR.out HW.out o
   have HTN:=Lib.hid (And.intro DO.tree DO.nx)
   have HNO:=Lib.hid (show (doesF D o).2 ≠ 0 → (doesF D o).1 = D from fun h=>DO.no (.inl h))
   have DC:=Lib.hid (does_any S4.out.dw HTR.out HW.out S4.out.fr HT.out HM.out o (by omega) (by omega))
   have HDF:=Lib.hid (show doesF D o = if o.Kind = 1 then putF D o.A o.ID else if o.Kind = 2 then moveF D o.A o.Z else if o.Kind = 3 then removeF D o.A else (D,0) from rfl)
   have HAZ:=Lib.hid (show o.A.length ≤ 3000000 ∧ o.Z.length ≤ 3000000 by omega)
   obtain ⟨r,hr⟩:∃ r,doesF D o = r:=⟨_,rfl⟩
   rw [hr] at HTN HNO DC HDF
   clear hA hZ DO hr
   go_upto_region 13 with (go_at_call 11;refine DC.out.mono ?_;rintro e w5 ⟨rfl,⟨d5,rs5,hd5,hn5⟩,f5⟩)
   have hqQ:¬ dM P d Q:=HPQ.out.1
   have q5:=Cod.rd_fr Q4.out f5 hqQ
   have hM5:=Cod.bxd_fr S4.out.bM f5 S4.out.nM
   have hv5:=S4.out.v.frM S4.out.off f5
   have hN:∀ b,dM P d5 b → dM P d b ∨ w4.heap.size ≤ b:=fun b hb=>by
    rcases hb with hb | hb
    ·exact .inl (.inl hb)
    ·rcases hn5 with e | e
     ·exact .inl (.inr (by rw [← e];exact hb))
     ·exact .inr (e b hb)
   have ho5:OffR (dM P d5) dv rv:=S4.out.off.or (N:=fun b=>w4.heap.size ≤ b) (S4.out.v.offR fun b hb=>hb) hN
   have hM5n:¬ dM P d5 M:=fun h=>by
    rcases hN _ h with h | h
    ·exact S4.out.nM h
    ·have:=Cod.bxd_lt S4.out.bM;omega
   have hQ5n:¬ dM P d5 Q:=fun h=>by
    rcases hN _ h with h | h
    ·exact hqQ h
    ·have h1:=Cod.rd_lt Q4.out;omega
   have F5:Fr noB W w5:=S4.out.fr.step f5 fun b hb=>.inl (by
    rcases hb with rfl | hb
    ·exact S4.out.dw.base
    ·exact (own_lt S4.out.dw.own b hb).1)
   have qM5:=Cod.bxd_rd hM5
   have f6:Fr noB w5 (w5.alloc (codDv.o dv)):=(Fr.refl noB w5).alloc _
   have b6:codDv.bxd (w5.alloc (codDv.o dv)) w5.heap.size = some dv:=Cod.bxd_new w5 dv
   have T6:PyT W P M w5.heap.size r.1 D D (w5.alloc (codDv.o dv)) d5 rs5 dv rv dv rv :=
    ⟨hd5.fr0 f6,Cod.bxd_fr0 hM5 f6,hv5.fr f6,ho5,b6,hv5.fr f6,ho5,hM5n,fun e=>by have:=Cod.bxd_lt hM5;omega,HSt.out.base,F5.step0 f6⟩
   have q6:=Cod.rd_fr0 q5 f6
   go_upto_region 14 with fail
   generalize w5.alloc (codDv.o dv) = w6 at T6 q6 ⊢
   generalize w5.heap.size = S at T6 ⊢
   have T6:=Lib.hid T6
   have qk:=(lpAt q6).kind
   have qA:=(lpAt q6).A
   have qZ:=(lpAt q6).Z
   have qI:=(lpAt q6).id
   clear qa qz q4 q5 hqQ hM5 hv5 hN ho5 hM5n hQ5n F5 qM5 f6 b6 hd5 hn5 f5 iA iZ
   go_upto_block 2 with fail
   go_cut [14] from 58 to 89 (fun fv wx=>∃ dv2 rv2,fv = .int .i64 r.2 ∧ PyT W P M S r.1 r.1 D wx d5 rs5 dv2 rv2 dv rv)
   case first =>
    have qM6:=Cod.bxd_rd T6.out.bM
    by_cases h1:o.Kind = 1
    ·have b1:(o.Kind == 1) = true:=by simp [h1]
     have PC:=rrput_any w6 dv rv D T6.out.v (dM P d5) T6.out.lt T6.out.ov HTR.out HW.out o.A HAZ.out.1 o.ID
     rw [← HDF.out.trans (if_pos h1)] at PC
     have PC:=Lib.hid PC
     clear h1
     go_wp2_with (go_at_call 12;refine PC.out.mono ?_;rintro e w7 ⟨⟨dv2,rv2,rfl,hv2,ho2⟩,f7⟩;have hst:=okDv.stR_box (Cod.bxd_fr0 T6.out.bM f7) dv2)
     go_meet
     exact ⟨dv2,rv2,rfl,(T6.out.fr0 f7).put hv2 ho2⟩
    have b1:(o.Kind == 1) = false:=by simp [h1]
    have HDF:=Lib.hid (HDF.out.trans (if_neg h1))
    clear h1
    by_cases h2:o.Kind = 2
    ·have b2:(o.Kind == 2) = true:=by simp [h2]
     have PC:=rmove_any w6 dv rv D T6.out.v (dM P d5) T6.out.lt T6.out.ov HTR.out o.A o.Z HAZ.out.1 HAZ.out.2
     rw [← HDF.out.trans (if_pos h2)] at PC
     have PC:=Lib.hid PC
     clear h2
     go_wp2_with (go_at_call 13;refine PC.out.mono ?_;rintro e w7 ⟨⟨dv2,rv2,rfl,hv2,ho2⟩,f7⟩;have hst:=okDv.stR_box (Cod.bxd_fr0 T6.out.bM f7) dv2)
     go_meet
     exact ⟨dv2,rv2,rfl,(T6.out.fr0 f7).put hv2 ho2⟩
    have b2:(o.Kind == 2) = false:=by simp [h2]
    have HDF:=Lib.hid (HDF.out.trans (if_neg h2))
    clear h2
    by_cases h3:o.Kind = 3
    ·have b3:(o.Kind == 3) = true:=by simp [h3]
     have PC:=rremove_any w6 dv rv D T6.out.v (dM P d5) T6.out.lt T6.out.ov HTR.out o.A HAZ.out.1
     rw [← HDF.out.trans (if_pos h3)] at PC
     have PC:=Lib.hid PC
     clear h3
     go_wp2_with (go_at_call 14;refine PC.out.mono ?_;rintro e w7 ⟨⟨dv2,rv2,rfl,hv2,ho2⟩,f7⟩;have hst:=okDv.stR_box (Cod.bxd_fr0 T6.out.bM f7) dv2)
     go_meet
     exact ⟨dv2,rv2,rfl,(T6.out.fr0 f7).put hv2 ho2⟩
    have b3:(o.Kind == 3) = false:=by simp [h3]
    have HDF:=Lib.hid (HDF.out.trans (if_neg h3))
    clear h3
    go_wp2_with fail
    go_meet
    have T7:=T6.out
    rw [HDF.out] at T7 ⊢
    exact ⟨dv,rv,rfl,T7⟩
   case rest =>
   obtain ⟨dv2,rv2,rfl,hT⟩:=hcut
   have T7:=Lib.hid hT
   clear hT T6 q6 qk qA qZ qI
   by_cases hr0:r.2 = 0
   ·have hr1:(r.2 != 0) = false:=by simp [hr0]
    have HR0:=Lib.hid hr0
    clear hr0
    go_upto_region 23 with fail
    have T8:=T7.out
    generalize wc = wq at T8 ⊢
    have T8:=Lib.hid (T8.fr0 (Fr.refl noB wq).drew)
    clear hr1
    have e0:(r.2 != r.2) = false:=by simp
    have hF0:codS.rd wq.drew M 1 = some r.1.next ∧ wq.drew.cell? ⟨M,0,none⟩ = some (.slice dv2.A dv2.n dv2.c):=⟨by have:=(dvAt (Cod.bxd_rd T8.out.bM)).next;rw [T8.out.v.next] at this;exact this,(dvAt (Cod.bxd_rd T8.out.bM)).rows⟩
    have keep:∀ w' w'':World,Fr noB w' w'' → (codS.rd w' M 1 = some r.1.next ∧ w'.cell? ⟨M,0,none⟩ = some (.slice dv2.A dv2.n dv2.c)) → (codS.rd w'' M 1 = some r.1.next ∧ w''.cell? ⟨M,0,none⟩ = some (.slice dv2.A dv2.n dv2.c)):=fun w' w'' f h=>⟨Cod.rd_fr0 h.1 f,cell_fr0 h.2 f⟩
    have HWK:=Lib.hid (IntWalk.wrap64_in ((k:Int) + 1) (by have:=HL.out;have:=HLT.out;omega))
    refine wp_region_M 17 18 [⟨4951760157141521099596496896,8192,0⟩,⟨9903520314283042199192993792,16384,0⟩,⟨19807040628566084398385987584,14855280471424563298789490688,3⟩,⟨39614081257132168796771975168,19807040628566084398385987584,4⟩,⟨79228162514264337593543950336,39614081257132168796771975680,8⟩,⟨158456325028528675187087900672,118842243771396506390315925504,24⟩,⟨316912650057057350374175801344,39614081257132168796771976192,8⟩,⟨633825300114114700748351602688,356526731314189519170947776512,72⟩,⟨1267650600228229401496703205376,831895706399775544732211478528,168⟩,⟨2535301200456458802993406410752,1307264681485361570293475180544,264⟩,⟨5070602400912917605986812821504,2535301200456458802993406410752,544⟩,⟨10141204801825835211973625643008,5070602400912917605986812822016,1024⟩,⟨20282409603651670423947251286016,15211807202738752817960438464512,3072⟩,⟨40564819207303340847894502572032,5070602400912917605986812822528,1024⟩,⟨81129638414606681695789005144064,45635421608216258453881315393536,9216⟩,⟨162259276829213363391578010288128,106482650419171269725723069251584,21504⟩,⟨324518553658426726783156020576256,167329879230126280997564823109632,33792⟩,⟨649037107316853453566312041152512,329589156059339644389142833397760,66560⟩] [(true,0),(true,1),(true,2),(true,3),(true,4),(true,6),(true,7),(false,5),(true,8),(true,9),(true,10),(true,11),(true,13),(true,14),(false,12),(false,15),(true,16)] (fun w'=>codS.rd w' M 1 = some r.1.next ∧ w'.cell? ⟨M,0,none⟩ = some (.slice dv2.A dv2.n dv2.c)) (by kernel_rfl) rfl (by kernel_rfl) (by kernel_rfl) (by kernel_rfl) hF0 (fun hA hF=>?_)
    clear hF0
    generalize wq.drew = w9 at T8 hF ⊢
    iterate 7
     refine wpAnyS_take (v:=?_) hA rfl (fun _ _ _ h=>h) (Or.inl ⟨by rfl,?_⟩) hF (fun hA=>?_)
     rotate_left
     ·intro wS hSw;(try dsimp only at hSw);obtain ⟨s1,s2⟩:=hSw;first | (apply Eq.trans;apply ex_ldS_at;exact rfl;exact rfl;assumption;with_reducible rfl) | (go_simp;try with_reducible rfl)
     try simp only [sA1,sA2,sA3,Act.put,sA4,sA5,sA6]
    refine wpAnyS_one hA rfl (fun K' hK=>?_)
    rw [if_pos (by rfl)]
    go_simp
    go_at_call 15
    refine (next_call T8.out.dw).mono ?_
    rintro e w10 ⟨rfl,g1⟩
    replace hF:=keep _ _ g1 hF
    refine hK.out _ _ hF (fun hA=>?_)
    clear hK K'
    try simp only [sA1,sA2,sA3,Act.put,sA4,sA5,sA6]
    iterate 6
     refine wpAnyS_take (v:=?_) hA rfl (fun _ _ _ h=>h) (Or.inl ⟨by rfl,?_⟩) hF (fun hA=>?_)
     rotate_left
     ·intro wS hSw;(try dsimp only at hSw);obtain ⟨s1,s2⟩:=hSw;first | (apply Eq.trans;apply ex_ldS_at;exact rfl;exact rfl;assumption;with_reducible rfl) | (go_simp;try with_reducible rfl)
     try simp only [sA1,sA2,sA3,Act.put,sA4,sA5,sA6]
    have T10:=Lib.hid (T8.out.fr0 g1)
    refine wpAnyS_one hA rfl (fun K' hK=>?_)
    rw [if_pos (by rfl)]
    go_simp
    go_at_call 17
    refine (rows_call T10.out.dw HTN.out.1).mono ?_
    rintro e w11 ⟨A5,c5,rs6,rfl,l5,o5,a5,g2⟩
    replace hF:=keep _ _ g2 hF
    refine hK.out _ _ hF (fun hA=>?_)
    clear hK K'
    try simp only [sA1,sA2,sA3,Act.put,sA4,sA5,sA6]
    have T11:=Lib.hid (T10.out.fr0 g2)
    refine wpAnyS_one hA rfl (fun K' hK=>?_)
    rw [if_pos (by rfl)]
    go_simp
    go_at_call 16
    refine (r12same_any w11 A5 dv2.A c5 dv2.c _ dv2.n rs6 rv2 r.1.rows l5 T11.out.v.n (Sl.own o5) T11.out.v.sl (RwsO_.rws a5) T11.out.v.rows (by have:=l5;have:=HTN.out.1.len;omega)).mono ?_
    rintro e w12 ⟨rfl,g3⟩
    replace hF:=keep _ _ g3 hF
    refine hK.out _ _ hF (fun hA=>?_)
    clear hK K'
    try simp only [sA1,sA2,sA3,Act.put,sA4,sA5,sA6]
    have T12:=Lib.hid (T11.out.fr0 g3)
    refine wpAnyS_take (v:=?_) hA rfl (fun _ _ _ h=>h) (Or.inl ⟨by rfl,?_⟩) hF (fun hA=>?_)
    rotate_left
    ·intro wS hSw;(try dsimp only at hSw);obtain ⟨s1,s2⟩:=hSw;first | (apply Eq.trans;apply ex_ldS_at;exact rfl;exact rfl;assumption;with_reducible rfl) | (go_simp;try with_reducible rfl)
    try simp only [sA1,sA2,sA3,Act.put,sA4,sA5,sA6]
    refine wpAnyS_end hA rfl ?_
    simp only [List.drop_succ_cons,List.drop_zero]
    clear hF keep
    go_wp2_with fail
    go_roundg (l.length - (k + 1))
    case measure=>have:=HLT.out;omega
    case rel=>exact ⟨k + 1,r.1,d5,rs5,dv2,rv2,by first | (simp;done) | (rw [HWK.out];rfl) | exact congrArg (Value.int .i64) HWK.out,rfl,by have:=HLT.out;omega,⟨T12.out.dw,T12.out.bM,T12.out.v,T12.out.ov,T12.out.nM,T12.out.base,T12.out.fr⟩,HTN.out.1,HTN.out.2⟩
   ·have hr1:(r.2 != 0) = true:=by simp [hr0]
    have HE:=Lib.hid (HNO.out hr0)
    have HR0:=Lib.hid hr0
    clear hr0
    have qS:=Cod.bxd_rd T7.out.bS
    have hst:=okDv.stR_box T7.out.bM dv
    have hz:Dv wc dv rv r.1:=by rw [HE.out];exact T7.out.z
    have T9:=Lib.hid (T7.out.put hz T7.out.oz)
    clear hz
    go_upto_region 23 with fail
    have T8:=T9.out
    generalize codDv.put wc M dv = wq at T8 ⊢
    have T8:=Lib.hid (T8.fr0 (Fr.refl noB wq).drew)
    clear hst qS hr1
    have e0:(r.2 != r.2) = false:=by simp
    have hF0:codS.rd wq.drew M 1 = some r.1.next ∧ wq.drew.cell? ⟨M,0,none⟩ = some (.slice dv.A dv.n dv.c):=⟨by have:=(dvAt (Cod.bxd_rd T8.out.bM)).next;rw [T8.out.v.next] at this;exact this,(dvAt (Cod.bxd_rd T8.out.bM)).rows⟩
    have keep:∀ w' w'':World,Fr noB w' w'' → (codS.rd w' M 1 = some r.1.next ∧ w'.cell? ⟨M,0,none⟩ = some (.slice dv.A dv.n dv.c)) → (codS.rd w'' M 1 = some r.1.next ∧ w''.cell? ⟨M,0,none⟩ = some (.slice dv.A dv.n dv.c)):=fun w' w'' f h=>⟨Cod.rd_fr0 h.1 f,cell_fr0 h.2 f⟩
    have HWK:=Lib.hid (IntWalk.wrap64_in ((k:Int) + 1) (by have:=HL.out;have:=HLT.out;omega))
    refine wp_region_M 17 18 [⟨4951760157141521099596496896,8192,0⟩,⟨9903520314283042199192993792,16384,0⟩,⟨19807040628566084398385987584,14855280471424563298789490688,3⟩,⟨39614081257132168796771975168,19807040628566084398385987584,4⟩,⟨79228162514264337593543950336,39614081257132168796771975680,8⟩,⟨158456325028528675187087900672,118842243771396506390315925504,24⟩,⟨316912650057057350374175801344,39614081257132168796771976192,8⟩,⟨633825300114114700748351602688,356526731314189519170947776512,72⟩,⟨1267650600228229401496703205376,831895706399775544732211478528,168⟩,⟨2535301200456458802993406410752,1307264681485361570293475180544,264⟩,⟨5070602400912917605986812821504,2535301200456458802993406410752,544⟩,⟨10141204801825835211973625643008,5070602400912917605986812822016,1024⟩,⟨20282409603651670423947251286016,15211807202738752817960438464512,3072⟩,⟨40564819207303340847894502572032,5070602400912917605986812822528,1024⟩,⟨81129638414606681695789005144064,45635421608216258453881315393536,9216⟩,⟨162259276829213363391578010288128,106482650419171269725723069251584,21504⟩,⟨324518553658426726783156020576256,167329879230126280997564823109632,33792⟩,⟨649037107316853453566312041152512,329589156059339644389142833397760,66560⟩] [(true,0),(true,1),(true,2),(true,3),(true,4),(true,6),(true,7),(false,5),(true,8),(true,9),(true,10),(true,11),(true,13),(true,14),(false,12),(false,15),(true,16)] (fun w'=>codS.rd w' M 1 = some r.1.next ∧ w'.cell? ⟨M,0,none⟩ = some (.slice dv.A dv.n dv.c)) (by kernel_rfl) rfl (by kernel_rfl) (by kernel_rfl) (by kernel_rfl) hF0 (fun hA hF=>?_)
    clear hF0
    generalize wq.drew = w9 at T8 hF ⊢
    iterate 7
     refine wpAnyS_take (v:=?_) hA rfl (fun _ _ _ h=>h) (Or.inl ⟨by rfl,?_⟩) hF (fun hA=>?_)
     rotate_left
     ·intro wS hSw;(try dsimp only at hSw);obtain ⟨s1,s2⟩:=hSw;first | (apply Eq.trans;apply ex_ldS_at;exact rfl;exact rfl;assumption;with_reducible rfl) | (go_simp;try with_reducible rfl)
     try simp only [sA1,sA2,sA3,Act.put,sA4,sA5,sA6]
    refine wpAnyS_one hA rfl (fun K' hK=>?_)
    rw [if_pos (by rfl)]
    go_simp
    go_at_call 15
    refine (next_call T8.out.dw).mono ?_
    rintro e w10 ⟨rfl,g1⟩
    replace hF:=keep _ _ g1 hF
    refine hK.out _ _ hF (fun hA=>?_)
    clear hK K'
    try simp only [sA1,sA2,sA3,Act.put,sA4,sA5,sA6]
    iterate 6
     refine wpAnyS_take (v:=?_) hA rfl (fun _ _ _ h=>h) (Or.inl ⟨by rfl,?_⟩) hF (fun hA=>?_)
     rotate_left
     ·intro wS hSw;(try dsimp only at hSw);obtain ⟨s1,s2⟩:=hSw;first | (apply Eq.trans;apply ex_ldS_at;exact rfl;exact rfl;assumption;with_reducible rfl) | (go_simp;try with_reducible rfl)
     try simp only [sA1,sA2,sA3,Act.put,sA4,sA5,sA6]
    have T10:=Lib.hid (T8.out.fr0 g1)
    refine wpAnyS_one hA rfl (fun K' hK=>?_)
    rw [if_pos (by rfl)]
    go_simp
    go_at_call 17
    refine (rows_call T10.out.dw HTN.out.1).mono ?_
    rintro e w11 ⟨A5,c5,rs6,rfl,l5,o5,a5,g2⟩
    replace hF:=keep _ _ g2 hF
    refine hK.out _ _ hF (fun hA=>?_)
    clear hK K'
    try simp only [sA1,sA2,sA3,Act.put,sA4,sA5,sA6]
    have T11:=Lib.hid (T10.out.fr0 g2)
    refine wpAnyS_one hA rfl (fun K' hK=>?_)
    rw [if_pos (by rfl)]
    go_simp
    go_at_call 16
    refine (r12same_any w11 A5 dv.A c5 dv.c _ dv.n rs6 rv r.1.rows l5 T11.out.v.n (Sl.own o5) T11.out.v.sl (RwsO_.rws a5) T11.out.v.rows (by have:=l5;have:=HTN.out.1.len;omega)).mono ?_
    rintro e w12 ⟨rfl,g3⟩
    replace hF:=keep _ _ g3 hF
    refine hK.out _ _ hF (fun hA=>?_)
    clear hK K'
    try simp only [sA1,sA2,sA3,Act.put,sA4,sA5,sA6]
    have T12:=Lib.hid (T11.out.fr0 g3)
    refine wpAnyS_take (v:=?_) hA rfl (fun _ _ _ h=>h) (Or.inl ⟨by rfl,?_⟩) hF (fun hA=>?_)
    rotate_left
    ·intro wS hSw;(try dsimp only at hSw);obtain ⟨s1,s2⟩:=hSw;first | (apply Eq.trans;apply ex_ldS_at;exact rfl;exact rfl;assumption;with_reducible rfl) | (go_simp;try with_reducible rfl)
    try simp only [sA1,sA2,sA3,Act.put,sA4,sA5,sA6]
    refine wpAnyS_end hA rfl ?_
    simp only [List.drop_succ_cons,List.drop_zero]
    clear hF keep
    go_wp2_with fail
    go_roundg (l.length - (k + 1))
    case measure=>have:=HLT.out;omega
    case rel=>exact ⟨k + 1,r.1,d5,rs5,dv,rv,by first | (simp;done) | (rw [HWK.out];rfl) | exact congrArg (Value.int .i64) HWK.out,rfl,by have:=HLT.out;omega,⟨T12.out.dw,T12.out.bM,T12.out.v,T12.out.ov,T12.out.nM,T12.out.base,T12.out.fr⟩,HTN.out.1,HTN.out.2⟩
  ·have i1:¬ (k:Int) < (l.length:Int):=by omega
   clear hlt hk
   have FC:=find_call HSt.out.dw (by have:=HTR.out.len;omega) (HT.out.fr HSt.out.fr) (HM.out.fr HSt.out.fr) p (by have:=HP.out;omega)
   have RF:=Lib.hid (fun w' (f:Fr noB wr w')=>rfind_any w' dv rv D (HSt.out.v.fr f) HTR.out p (by have:=HP.out;omega))
   generalize findD D.rows p = fo at FC RF
   have FC:=Lib.hid FC
   go_upto_region 27 with (go_at_call 18;refine FC.out.mono ?_;rintro e w5 ⟨rfl,f5⟩)
   have f6:=f5.step0 ((Fr.refl noB w5).alloc (codS.o fo.1))
   have q6:codS.rd (w5.alloc (codS.o fo.1)) w5.heap.size 0 = some fo.1:=Cod.rd_new' (C:=codS) w5 fo.1
   have F6:=Lib.hid f6
   generalize w5.alloc (codS.o fo.1) = w6 at q6 F6 ⊢
   generalize w5.heap.size = N1 at q6 ⊢
   have Q6:=Lib.hid q6
   have qM:=Cod.bxd_rd (Cod.bxd_fr0 HSt.out.bM F6.out)
   clear f5 f6 FC q6
   go_upto_region 28 with (go_at_call 19;refine (RF.out w6 F6.out).mono ?_;rintro e w7 ⟨rfl,f7⟩)
   have f8:=f7.step0 ((Fr.refl noB w7).alloc (codS.o fo.1))
   have q8:codS.rd (w7.alloc (codS.o fo.1)) w7.heap.size 0 = some fo.1:=Cod.rd_new' (C:=codS) w7 fo.1
   have Q8:=Lib.hid (Cod.rd_fr0 Q6.out f8)
   have S8:=Lib.hid (HSt.out.fr0 (F6.out.step0 f8))
   generalize w7.alloc (codS.o fo.1) = w8 at q8 Q8 S8 ⊢
   generalize w7.heap.size = N2 at q8 ⊢
   clear f7 f8 qM RF
   have keep:∀ w' w'':World,Fr noB w' w'' → (codS.rd w' N1 0 = some fo.1 ∧ codS.rd w' N2 0 = some fo.1 ∧ w'.cell? ⟨M,0,none⟩ = some (.slice dv.A dv.n dv.c)) → (codS.rd w'' N1 0 = some fo.1 ∧ codS.rd w'' N2 0 = some fo.1 ∧ w''.cell? ⟨M,0,none⟩ = some (.slice dv.A dv.n dv.c)):=fun w' w'' f h=>⟨Cod.rd_fr0 h.1 f,Cod.rd_fr0 h.2.1 f,cell_fr0 h.2.2 f⟩
   have hF0:=keep w8 w8.drew (Fr.refl noB w8).drew ⟨Q8.out,q8,(dvAt (Cod.bxd_rd S8.out.bM)).rows⟩
   have S9:=Lib.hid (S8.out.fr0 (Fr.refl noB w8).drew)
   have e0:(fo.2 == fo.2) = true:=by simp
   clear q8
   refine wp_region_M 17 18 [⟨10633823966279326983230456482242756608,131072,0⟩,⟨21267647932558653966460912964485513216,524288,0⟩,⟨42535295865117307932921825928971026432,31901471898837980949691369446728269824,3⟩,⟨85070591730234615865843651857942052864,42535295865117307932921825928971026432,4⟩,⟨170141183460469231731687303715884105728,85070591730234615865843651857942118400,8⟩,⟨340282366920938463463374607431768211456,85070591730234615865843651857942315008,8⟩,⟨680564733841876926926749214863536422912,595494142111642311060905563005594370048,56⟩,⟨1361129467683753853853498429727072845824,765635325572111542792592866721478475776,72⟩,⟨2722258935367507707706996859454145691648,1361129467683753853853498429727072845824,136⟩,⟨5444517870735015415413993718908291383296,2722258935367507707706996859454145692160,256⟩,⟨10889035741470030830827987437816582766592,8166776806102523123120990578362437074944,768⟩,⟨21778071482940061661655974875633165533184,13611294676837538538534984297270728458240,1280⟩,⟨43556142965880123323311949751266331066368,2722258935367507707706996859454145692672,256⟩,⟨87112285931760246646623899502532662132736,46278401901247631031018946610720476758016,4352⟩,⟨174224571863520493293247799005065324265472,89834544867127754354330896361986807824384,10496⟩,⟨348449143727040986586495598010130648530944,198724902281828062662610770740152635490304,18688⟩,⟨696898287454081973172991196020261297061888,351171402662408494294202594869584794222592,33024⟩,⟨256,696898287454081973172991196020261297061888,131071⟩] [(true,0),(true,1),(true,2),(true,3),(true,4),(true,5),(true,6),(true,7),(true,8),(true,9),(true,12),(true,13),(false,10),(false,11),(false,14),(false,15),(true,16)] (fun w'=>codS.rd w' N1 0 = some fo.1 ∧ codS.rd w' N2 0 = some fo.1 ∧ w'.cell? ⟨M,0,none⟩ = some (.slice dv.A dv.n dv.c)) (by kernel_rfl) rfl (by kernel_rfl) (by kernel_rfl) (by kernel_rfl) hF0 (fun hA hF=>?_)
   clear hF0
   generalize w8.drew = w9 at S9 hF ⊢
   iterate 12
    refine wpAnyS_take (v:=?_) hA rfl (fun _ _ _ h=>h) (Or.inl ⟨by rfl,?_⟩) hF (fun hA=>?_)
    rotate_left
    ·intro wS hSw;(try dsimp only at hSw);obtain ⟨s1,s2,s3⟩:=hSw;first | (apply Eq.trans;apply ex_ldS_at;exact rfl;exact rfl;assumption;with_reducible rfl) | (go_simp;try with_reducible rfl)
    try simp only [sA1,sA2,sA3,Act.put,sA4,sA5,sA6]
   refine wpAnyS_one hA rfl (fun K' hK=>?_)
   rw [if_pos (by rfl)]
   go_simp
   go_at_call 17
   refine (rows_call S9.out.dw HTR.out).mono ?_
   rintro e w11 ⟨A5,c5,rs6,rfl,l5,o5,a5,g2⟩
   replace hF:=keep _ _ g2 hF
   refine hK.out _ _ hF (fun hA=>?_)
   clear hK K'
   try simp only [sA1,sA2,sA3,Act.put,sA4,sA5,sA6]
   have S11:=Lib.hid (S9.out.fr0 g2)
   refine wpAnyS_one hA rfl (fun K' hK=>?_)
   rw [if_pos (by rfl)]
   go_simp
   go_at_call 21
   refine (list_call l5 o5 a5 HTR.out (HT.out.fr S11.out.fr)).mono ?_
   rintro e w12 ⟨A7,c7,os,ys,rfl,o7,a7,y7,g3⟩
   replace hF:=keep _ _ g3 hF
   refine hK.out _ _ hF (fun hA=>?_)
   clear hK K'
   try simp only [sA1,sA2,sA3,Act.put,sA4,sA5,sA6]
   have S12:=Lib.hid (S11.out.fr0 g3)
   refine wpAnyS_one hA rfl (fun K' hK=>?_)
   rw [if_pos (by rfl)]
   go_simp
   go_at_call 22
   refine (rlist_any w12 dv.A dv.c dv.n rv D.rows S12.out.v.n S12.out.v.sl (by have:=S12.out.v.rows.len;have:=HTR.out.len;omega) S12.out.v.rows (nodes_ok HTR.out) (ptD D.rows) (fun x hx hl=>(ptD_spec HTR.out hx hl).1)).mono ?_
   rintro e w13 ⟨A4,c4,qs,rfl,s4,a4,g4⟩
   rw [refL_eq HTR.out y7] at a4
   replace hF:=keep _ _ g4 hF
   refine hK.out _ _ hF (fun hA=>?_)
   clear hK K'
   try simp only [sA1,sA2,sA3,Act.put,sA4,sA5,sA6]
   have S13:=Lib.hid (S12.out.fr0 g4)
   refine wpAnyS_one hA rfl (fun K' hK=>?_)
   rw [if_pos (by rfl)]
   go_simp
   go_at_call 20
   refine (same17_any _ A7 A4 c7 c4 _ _ os qs ys rfl rfl ((Sl.own o7:Sl _ A7 (codEn.row os)).fr0 g4) s4 (a7.map fun r x k=>k.frH g4 (NoH.nob _)) a4 (by rw [a7.1];have:=y7.len HTR.out;have:=HTR.out.len;omega)).mono ?_
   rintro e w14 ⟨rfl,g5⟩
   replace hF:=keep _ _ g5 hF
   refine hK.out _ _ hF (fun hA=>?_)
   clear hK K'
   try simp only [sA1,sA2,sA3,Act.put,sA4,sA5,sA6]
   have S14:=Lib.hid (S13.out.fr0 g5)
   refine wpAnyS_take (v:=?_) hA rfl (fun _ _ _ h=>h) (Or.inl ⟨by rfl,?_⟩) hF (fun hA=>?_)
   rotate_left
   ·intro wS hSw;(try dsimp only at hSw);obtain ⟨s1,s2,s3⟩:=hSw;first | (apply Eq.trans;apply ex_ldS_at;exact rfl;exact rfl;assumption;with_reducible rfl) | (go_simp;try with_reducible rfl)
   try simp only [sA1,sA2,sA3,Act.put,sA4,sA5,sA6]
   refine wpAnyS_end hA rfl ?_
   simp only [List.drop_succ_cons,List.drop_zero]
   clear hF keep
   go_wp2_with fail
   go_ret
   exact ⟨rfl,FW.out.step0 S14.out.fr⟩
theorem lawPlays17 (W:World) (hT:HasT W) (hM:HasMW W) (A:Option Addr) (c:Nat) (rs:List RwW) (xs:List RwP) (hs:Sl W A (codR.row rs)) (hb:rs.length ≤ 140737488355328) (hX:RwsIn W rs xs) (hbd:∀ x ∈ xs,x.Heads.length ≤ 2932031007402) (s:St) (hw:wfS s = true)
  (B:Option Addr) (cb:Nat) (l:List OpL) (hsl:Sl W B (codLp.row l)) (hlb:l.length ≤ 140737488355328) (p:List UInt8) (hp:p.length ≤ 2000000) :
  Calls Tryz.prog 3 #[.slice A rs.length c,.agg (codS.A s),.slice B l.length cb,.string (str p)] W (Gives W (.bool true)):=plays17_any W hT hM A c _ rs xs rfl hs hb hX hbd s hw B cb _ l rfl hsl hlb p hp
end Go.Proofs.YthehiobacjjakaaGreatDoor
