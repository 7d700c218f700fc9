/- The law WorkPaths: its walk. (ex_ldS_at ex_ldEn_at) -/
import Derived.Test.YthehiobacjjakaaGreatDoorFrameLKp
import Derived.Test.YthehiobacjjakaaGreatDoorR13RKp
import Derived.Deep.CutRange
set_option linter.unusedVariables false
set_option linter.unusedSimpArgs false
namespace Go.Proofs.YthehiobacjjakaaGreatDoor
open Go.RowKit Go.Maps Go.Sort
theorem lit_self {W w:World} {P:Nat} {D:Dft} {d:DfW} {rs:List RwW} {o:Dft × Int} {f:FuncId} {args:Array Value} (h:Dw W w P D d rs) (F:Fr noB W w) (k:Calls Tryz.prog f args w (DoTo W w P d o)):Calls Tryz.prog f args w (LitTo W P o.1 o.2):=lit_of h F k (by cases o;rfl)
theorem ex_geS_at {ρ:Operand → Value} {o:Oper} {x y:Operand} {w:World} {a b:List UInt8} (ho:o.op = .binOp .geq 9 x y 9) (hx:ρ x = .string (str a)) (hy:ρ y = .string (str b)) :
  (execOp ρ o).run Tryz.prog w = .ok (.value (.bool (!Op.bytesLess a b))) w:=by
 have ha:=str_toList a
 have hb:=str_toList b
 obtain ⟨d,op,t,p,f,g⟩:=o
 simp only at ho
 subst ho
 unfold execOp
 simp only [hx,hy]
 go_simp
def PthR (W:World) (P:Nat) (l:List OpL) (gk:Nat) (iv:Value) (wr:World):Prop :=
 ∃ (k:Nat) (D:Dft) (d:DfW) (rs:List RwW),iv = .int .i64 (k:Int) ∧ gk = l.length - k ∧ k ≤ l.length ∧ Dw W wr P D d rs ∧ TreeOk D.rows ∧ wfS D.next = true ∧ Fr noB W wr
def PtiR (W:World) (N:Nat) (gk:Nat) (iv:Value) (wr:World):Prop:=∃ k:Nat,iv = .int .i64 (k:Int) ∧ gk = N - k ∧ k ≤ N ∧ Fr noB W wr
set_option maxRecDepth 100000 in
set_option maxHeartbeats 4000000 in
theorem paths_any (W0:World) (hT0:HasT W0) (hM0:HasMW W0) (A:Option Addr) (c n:Nat) (rs:List RwW) (xs:List RwP) (hn:rs.length = n) (hs:Sl W0 A (codR.row rs)) (hb:rs.length ≤ 140737488355328) (hX:RwsIn W0 rs xs) (hbd:∀ x ∈ xs,x.Heads.length ≤ 2932031007402)
  (B:Option Addr) (cb m:Nat) (l:List OpL) (hm:l.length = m) (hsl:Sl W0 B (codLp.row l)) (hlb:l.length ≤ 140737488355328) :
  Calls Tryz.prog 5 #[.slice A n c,.slice B m cb] W0 (Gives W0 (.bool true)):=by
 subst hn
 subst hm
 have HT0:=Lib.hid hT0
 have HM0:=Lib.hid hM0
 have HS:=Lib.hid hsl
 have AL:=Lib.hid (alive17_any W0 hT0 hM0)
 have NC:=Lib.hid (fun w' (f:Fr noB W0 w')=>new_call w' A c rs.length rs xs rfl (hs.fr0 f) hb (hX.fr f) hbd ⟨1073741824,3⟩)
 clear hT0 hM0 hs hsl hX hbd
 go_enter Tryz.func5,Tryz.ntmps5
 by_cases h30:30 < rs.length
 ·have i30:(30:Int) < (rs.length:Int):=by omega
  go_wp2_with (go_at_call 8;refine AL.out.mono ?_;rintro e w1 ⟨rfl,f1⟩)
  go_ret
  exact ⟨rfl,f1⟩
 have i30:¬ (30:Int) < (rs.length:Int):=by omega
 by_cases h20:20 < l.length
 ·have i20:(20:Int) < (l.length:Int):=by omega
  go_wp2_with (go_at_call 8;refine AL.out.mono ?_;rintro e w1 ⟨rfl,f1⟩)
  go_ret
  exact ⟨rfl,f1⟩
 have i20:¬ (20:Int) < (l.length:Int):=by omega
 have HL:=Lib.hid (show l.length ≤ 20 by omega)
 clear h20 h30
 go_upto_region 6 with (first
  | (go_at_call 8;refine AL.out.mono ?_;rintro e W ⟨rfl,f1⟩)
  | (go_at_call 9;refine (NC.out W f1).mono ?_;rintro e w3 ⟨⟨P,d0,rs0,rfl,hd0⟩,f3⟩))
 have FW:=Lib.hid f1
 have HT:=Lib.hid (HT0.out.fr FW.out)
 have HM:=Lib.hid (HM0.out.fr FW.out)
 have H0:=Lib.hid (show PthR W P l l.length (.int .i64 ((0:Nat):Int)) w3 from ⟨0,⟨newD xs,⟨1073741824,3⟩⟩,d0,rs0,rfl,rfl,by omega,hd0,newD_ok xs,(by decide:wfS ⟨1073741824,3⟩ = true),f3⟩)
 clear f1 f3 hd0 i20 i30 NC
 go_wp2_with fail
 go_loopg [29] l.length (fun gk iv wr=>PthR W P l gk iv wr)
 case atStart=>exact H0.out
 case round =>
  clear H0
  obtain ⟨k,D,d,rs,rfl,rfl,hk,hd,ht,hw,hf⟩:=hrel
  have HD:=Lib.hid hd
  have HTR:=Lib.hid ht
  have HW:=Lib.hid hw
  have HF:=Lib.hid hf
  clear hd ht hw hf
  by_cases hlt:k < l.length
  ·have i1:(k:Int) < (l.length:Int):=by omega
   have i0:(0:Int) ≤ (k:Int):=by omega
   have hsl:=(HS.out.fr0 (FW.out.step0 HF.out))
   obtain ⟨g,off,rfl,hg⟩:=Sl.addr hsl (by omega)
   have ro:codLp.rd wr g (off + k * 35) = some l[k]:=Sl.rd hsl k hlt
   generalize l[k] = o at ro
   have HLT:=Lib.hid hlt
   clear hsl hg hlt hk
   go_upto_region 9 with fail
   have f4:Fr noB wr (wr.alloc (codLp.o o)):=(Fr.refl noB wr).alloc _
   have q4:=Cod.rd_new' (C:=codLp) wr o
   have D4:=Lib.hid (HD.out.fr0 f4)
   have F4:=Lib.hid (HF.out.step0 f4)
   clear ro f4
   generalize wr.alloc (codLp.o o) = w4 at q4 D4 F4 ⊢
   generalize wr.heap.size = Q at q4 ⊢
   have qa:=(lpAt q4).A
   have qz:=(lpAt q4).Z
   by_cases hA:2000 < o.A.length
   ·have iA:(2000:Int) < ((str o.A).size:Int):=by rw [sz_str];omega
    clear hA
    go_wp2_with fail
    go_ret
    exact ⟨rfl,FW.out.step0 F4.out⟩
   ·have iA:¬ (2000:Int) < ((str o.A).size:Int):=by rw [sz_str];omega
    by_cases hZ:2000 < o.Z.length
    ·have iZ:(2000:Int) < ((str o.Z).size:Int):=by rw [sz_str];omega
     clear hA hZ
     go_wp2_with fail
     go_ret
     exact ⟨rfl,FW.out.step0 F4.out⟩
    ·have iZ:¬ (2000:Int) < ((str o.Z).size:Int):=by rw [sz_str];omega
     have DO:=does_ok HTR.out HW.out o
     have HTN:=Lib.hid (And.intro DO.tree DO.nx)
     have DC:=Lib.hid (lit_self D4.out F4.out (does_any D4.out HTR.out HW.out F4.out HT.out HM.out o (by omega) (by omega)))
     generalize doesF D o = r at HTN DC
     have HWK:=Lib.hid (IntWalk.wrap64_in ((k:Int) + 1) (by have:=HL.out;have:=HLT.out;omega))
     clear hA hZ DO
     go_wp2_with (go_at_call 11;refine DC.out.mono ?_;rintro e w8 ⟨rfl,⟨d8,rs8,hd8⟩,f8⟩)
     have D8:=Lib.hid hd8
     have F8:=Lib.hid f8
     clear hd8 f8
     go_roundg (l.length - (k + 1))
     case measure=>have:=HLT.out;omega
     case rel=>exact ⟨k + 1,r.1,d8,rs8,by first | (simp;done) | (rw [HWK.out];rfl) | exact congrArg (Value.int .i64) HWK.out,rfl,by have:=HLT.out;omega,D8.out,HTN.out.1,HTN.out.2,F8.out⟩
  ·have i1:¬ (k:Int) < (l.length:Int):=by omega
   clear hlt hk
   have RT:=Lib.hid (fun w' A' c' rs' (o:OwnC codR wr w' A' c' rs') (a:AllO RwO w' rs' D.rows)=>r13right_any w' A' c' rs'.length rs' D.rows rfl (Sl.own o) (by have:=a.1;have:=HTR.out.len;omega) (RwsO_.rws a))
   go_upto_region 17 with (first
    | (go_at_call 17;refine (rows_call HD.out HTR.out).mono ?_;rintro e w5 ⟨A5,c5,rs5,rfl,l5,o5,a5,f5⟩)
    | (go_at_call 23;have RT1:=RT.out w5 A5 c5 rs5 o5 a5;rw [l5] at RT1;refine RT1.mono ?_;rintro e w6 ⟨b,rfl,f6,hbb⟩;rw [hbb.2 HTR.out])
    | (go_at_call 21;refine (list_call l5 (own_new0 o5 f6) (a5.map fun r x k=>k.fr f6 (NoHS.nob _)) HTR.out (HT.out.fr (HF.out.step0 (f5.step0 f6)))).mono ?_;rintro e w7 ⟨A7,c7,os,ys,rfl,o7,a7,y7,f7⟩))
   have D7:=Lib.hid (HD.out.fr0 (f5.step0 (f6.step0 f7)))
   have F7:=Lib.hid (HF.out.step0 (f5.step0 (f6.step0 f7)))
   have HSO:=Lib.hid (Sl.own o7)
   have HOY:=Lib.hid a7
   have HY:=Lib.hid y7
   have HLY:=Lib.hid (show os.length ≤ D.rows.length by rw [a7.1];exact y7.len HTR.out)
   have h0:PtiR w7 os.length os.length (.int .i64 ((0:Nat):Int)) w7:=⟨0,rfl,rfl,Nat.zero_le _,Fr.refl _ _⟩
   have H0:=Lib.hid h0
   clear h0 l5 o5 a5 f5 f6 f7 hbb o7 a7 y7 RT
   go_wp2_with fail
   go_loopg [56] os.length (fun gk iv wr=>PtiR w7 os.length gk iv wr)
   case atStart=>exact H0.out
   case round =>
    clear H0
    obtain ⟨j,rfl,rfl,hj,hf⟩:=hrel
    have HF2:=Lib.hid hf
    clear hf
    by_cases hjl:j < os.length
    ·have i2:(j:Int) < (os.length:Int):=by omega
     have i0:(0:Int) ≤ (j:Int):=by omega
     have hjy:j < ys.length:=by rw [← HOY.out.1];exact hjl
     have hsl:=HSO.out.fr0 HF2.out
     obtain ⟨g,off,rfl,hg⟩:=Sl.addr hsl (by omega)
     have ro:codEn.rd wr g (off + j * 4) = some os[j]:=Sl.rd hsl j hjl
     have hex:=HOY.out.2 j hjl hjy
     have hmem:=List.getElem_mem hjy
     have HPL:=Lib.hid (show (os[j]).Path.length ≤ 755000 by rw [← hex.path];exact HY.out.plen HTR.out hmem)
     have HFI:=Lib.hid (show (findD D.rows (os[j]).Path).2 = true → (findD D.rows (os[j]).Path).1 = (os[j]).Node by rw [← hex.path,← hex.node];exact HY.out.find HTR.out hmem)
     have HPR:=Lib.hid (show ∀ q,q + 1 = j → ∃ pp:List UInt8,wr.cell? ⟨g,off + q * 4,none⟩ = some (.string (str pp)) ∧ Op.bytesLess pp (os[j]).Path = true from fun q hq=>by
      have hq1:q < os.length:=by omega
      have hq2:q < ys.length:=by omega
      refine ⟨(os[q]).Path,(enAtO (Sl.rd hsl q hq1)).path,?_⟩
      rw [← hex.path,← (HOY.out.2 q hq1 hq2).path]
      exact List.pairwise_iff_getElem.1 (HY.out.rise HTR.out) q j hq2 hjy (by omega))
     generalize os[j] = x at ro HPL HFI HPR
     have HJL:=Lib.hid hjl
     clear hsl hg hjl hjy hex hmem hj
     go_upto_region 20 with fail
     have f8:Fr noB wr (wr.alloc (codEn.o x)):=(Fr.refl noB wr).alloc _
     have q8:=Cod.rd_new' (C:=codEn) wr x
     have HPR8:=Lib.hid (fun q hq=>(show ∃ pp:List UInt8,(wr.alloc (codEn.o x)).cell? ⟨g,off + q * 4,none⟩ = some (.string (str pp)) ∧ Op.bytesLess pp x.Path = true from by obtain ⟨pp,h1,h2⟩:=HPR.out q hq;exact ⟨pp,cell_fr0 h1 f8,h2⟩))
     have F8:=Lib.hid (HF2.out.step0 f8)
     clear ro f8 HPR
     generalize wr.alloc (codEn.o x) = w8 at q8 HPR8 F8 ⊢
     generalize wr.heap.size = X at q8 ⊢
     have qp:=(enAt q8).path
     have Q8:=Lib.hid q8
     have FC:=Lib.hid (find_call (D7.out.fr0 F8.out) (by have:=HTR.out.len;omega) (HT.out.fr (F7.out.step0 F8.out)) (HM.out.fr (F7.out.step0 F8.out)) x.Path (by have:=HPL.out;omega))
     generalize findD D.rows x.Path = fo at FC HFI
     clear q8
     go_upto_region 21 with (go_at_call 18;refine FC.out.mono ?_;rintro e w9 ⟨rfl,f9⟩)
     have f10:=f9.step0 ((Fr.refl noB w9).alloc (codS.o fo.1))
     have q10:codS.rd (w9.alloc (codS.o fo.1)) w9.heap.size 0 = some fo.1:=Cod.rd_new' (C:=codS) w9 fo.1
     have F10:=Lib.hid (F8.out.step0 f10)
     have Q10:=Lib.hid (Cod.rd_fr0 Q8.out f10)
     have HPR10:=Lib.hid (fun q hq=>(show ∃ pp:List UInt8,(w9.alloc (codS.o fo.1)).cell? ⟨g,off + q * 4,none⟩ = some (.string (str pp)) ∧ Op.bytesLess pp x.Path = true from by obtain ⟨pp,h1,h2⟩:=HPR8.out q hq;exact ⟨pp,cell_fr0 h1 f10,h2⟩))
     clear f9 f10 FC qp Q8 HPR8
     generalize w9.alloc (codS.o fo.1) = w10 at q10 F10 Q10 HPR10 ⊢
     generalize w9.heap.size = N at q10 ⊢
     have HN10:=Lib.hid q10
     clear q10
     obtain ⟨fs,fb⟩:=fo
     have HWJ:=Lib.hid (IntWalk.wrap64_in ((j:Int) + 1) (by have:=HLY.out;have:=HTR.out.len;have:=HJL.out;omega))
     have FD:=Lib.hid (show Fr noB w10 w10.drew from (Fr.refl noB w10).drew)
     have hx1:=cell_fr0 (enAt Q10.out).path FD.out
     have hx2:=Cod.rd_fr0 (enAt Q10.out).node FD.out
     have hx3:=Cod.rd_fr0 HN10.out FD.out
     by_cases hj0:j = 0
     ·have n0:¬ (0:Int) < (j:Int):=by omega
      have n0':¬ 0 < j:=by omega
      clear hj0
      cases fb with
      | true =>
       have hfs:fs = x.Node:=HFI.out rfl
       subst hfs
       refine wp_region_M 21 22 [⟨295147905179352825856,1024,0⟩,⟨590295810358705651712,295147905179352825856,1⟩,⟨1180591620717411303424,590295810358705651712,2⟩,⟨2361183241434822606848,1180591620717411303936,4⟩,⟨4722366482869645213696,1180591620717411304448,4⟩,⟨9444732965739290427392,5902958103587056517120,20⟩,⟨18889465931478580854784,12986507827891524337664,44⟩,⟨37778931862957161709568,20070057552195992158208,68⟩,⟨75557863725914323419136,38959523483674573012992,132⟩,⟨151115727451828646838272,1180591620717411305472,4⟩,⟨302231454903657293676544,152296319072546058141696,516⟩,⟨604462909807314587353088,378969910250289028399104,1284⟩,⟨1208925819614629174706176,605643501428031998656512,2052⟩,⟨2417851639229258349412352,1208925819614629174706176,4100⟩,⟨4835703278458516698824704,2417851639229258349420544,8192⟩,⟨9671406556917033397649408,7253554917687775048237056,24576⟩,⟨19342813113834066795298816,9671406556917033397653504,32768⟩,⟨38685626227668133590597632,9671406556917033397651456,32768⟩,⟨77371252455336267181195264,48357032784585166988247040,163840⟩,⟨154742504910672534362390528,106385472126087367374143488,360448⟩,⟨309485009821345068724781056,166831763106818826109452288,565248⟩,⟨618970019642690137449562112,311902861460574327074193408,1056768⟩] [(true,0),(true,1),(true,2),(true,3),(true,4),(true,5),(true,6),(true,7),(true,8),(true,9),(true,10),(true,11),(true,12),(true,13),(true,14),(true,15),(true,16),(true,17),(true,18),(true,19),(true,20)] (fun w'=>w'.cell? ⟨X,0,none⟩ = some (.string (str x.Path)) ∧ codS.rd w' X 1 = some x.Node ∧ codS.rd w' N 0 = some x.Node) (by kernel_rfl) rfl (by kernel_rfl) (by kernel_rfl) (by kernel_rfl) ⟨hx1,hx2,hx3⟩ (fun hA hF=>?_)
       iterate 3
        refine wpAnyS_take (v:=?_) hA rfl (fun _ _ _ h=>h) (Or.inl ⟨by rfl,?_⟩) hF (fun hA=>?_)
        rotate_left
        ·intro wS hSw;(try dsimp only at hSw);obtain ⟨s1,s2,s3⟩:=hSw;first | (apply Eq.trans;apply ex_ldS_at;exact rfl;exact rfl;assumption;with_reducible rfl) | (go_simp;try with_reducible rfl)
        try simp only [sA1,sA2,sA3,Act.put,sA4,sA5,sA6]
       iterate 9
        refine wpAnyS_take (v:=undef) hA rfl (fun _ _ _ h=>h) (Or.inr ⟨by rfl,rfl⟩) hF (fun hA=>?_)
        try simp only [sA1,sA2,sA3,Act.put,sA4,sA5,sA6]
       iterate 9
        refine wpAnyS_take (v:=?_) hA rfl (fun _ _ _ h=>h) (Or.inl ⟨by rfl,?_⟩) hF (fun hA=>?_)
        rotate_left
        ·intro wS hSw;(try dsimp only at hSw);obtain ⟨s1,s2,s3⟩:=hSw;first | (apply Eq.trans;apply ex_ldS_at;exact rfl;exact rfl;assumption;with_reducible rfl) | (go_simp;try with_reducible rfl)
        try simp only [sA1,sA2,sA3,Act.put,sA4,sA5,sA6]
       refine wpAnyS_end hA rfl ?_
       simp only [List.drop_succ_cons,List.drop_zero]
       clear hF hx1 hx2 hx3
       go_wp2_with fail
       go_roundg (os.length - (j + 1))
       case measure=>have:=HJL.out;omega
       case rel=>exact ⟨j + 1,by first | (simp;done) | (rw [HWJ.out];rfl) | exact congrArg (Value.int .i64) HWJ.out,rfl,by have:=HJL.out;omega,F10.out.step0 FD.out⟩
      | false =>
       refine wp_region_M 21 22 [⟨295147905179352825856,1024,0⟩,⟨590295810358705651712,295147905179352825856,1⟩,⟨1180591620717411303424,590295810358705651712,2⟩,⟨2361183241434822606848,1180591620717411303936,4⟩,⟨4722366482869645213696,1180591620717411304448,4⟩,⟨9444732965739290427392,5902958103587056517120,20⟩,⟨18889465931478580854784,12986507827891524337664,44⟩,⟨37778931862957161709568,20070057552195992158208,68⟩,⟨75557863725914323419136,38959523483674573012992,132⟩,⟨151115727451828646838272,1180591620717411305472,4⟩,⟨302231454903657293676544,152296319072546058141696,516⟩,⟨604462909807314587353088,378969910250289028399104,1284⟩,⟨1208925819614629174706176,605643501428031998656512,2052⟩,⟨2417851639229258349412352,1208925819614629174706176,4100⟩,⟨4835703278458516698824704,2417851639229258349420544,8192⟩,⟨9671406556917033397649408,7253554917687775048237056,24576⟩,⟨19342813113834066795298816,9671406556917033397653504,32768⟩,⟨38685626227668133590597632,9671406556917033397651456,32768⟩,⟨77371252455336267181195264,48357032784585166988247040,163840⟩,⟨154742504910672534362390528,106385472126087367374143488,360448⟩,⟨309485009821345068724781056,166831763106818826109452288,565248⟩,⟨618970019642690137449562112,311902861460574327074193408,1056768⟩] [(true,0),(true,1),(true,2),(true,3),(true,4),(true,5),(true,6),(true,7),(true,8),(true,9),(true,10),(true,11),(true,12),(true,13),(true,14),(true,15),(true,16),(true,17),(true,18),(true,19),(true,20)] (fun w'=>w'.cell? ⟨X,0,none⟩ = some (.string (str x.Path)) ∧ codS.rd w' X 1 = some x.Node ∧ codS.rd w' N 0 = some fs) (by kernel_rfl) rfl (by kernel_rfl) (by kernel_rfl) (by kernel_rfl) ⟨hx1,hx2,hx3⟩ (fun hA hF=>?_)
       iterate 3
        refine wpAnyS_take (v:=?_) hA rfl (fun _ _ _ h=>h) (Or.inl ⟨by rfl,?_⟩) hF (fun hA=>?_)
        rotate_left
        ·intro wS hSw;(try dsimp only at hSw);obtain ⟨s1,s2,s3⟩:=hSw;first | (apply Eq.trans;apply ex_ldS_at;exact rfl;exact rfl;assumption;with_reducible rfl) | (go_simp;try with_reducible rfl)
        try simp only [sA1,sA2,sA3,Act.put,sA4,sA5,sA6]
       iterate 9
        refine wpAnyS_take (v:=undef) hA rfl (fun _ _ _ h=>h) (Or.inr ⟨by rfl,rfl⟩) hF (fun hA=>?_)
        try simp only [sA1,sA2,sA3,Act.put,sA4,sA5,sA6]
       iterate 4
        refine wpAnyS_take (v:=?_) hA rfl (fun _ _ _ h=>h) (Or.inl ⟨by rfl,?_⟩) hF (fun hA=>?_)
        rotate_left
        ·intro wS hSw;(try dsimp only at hSw);obtain ⟨s1,s2,s3⟩:=hSw;first | (apply Eq.trans;apply ex_ldS_at;exact rfl;exact rfl;assumption;with_reducible rfl) | (go_simp;try with_reducible rfl)
        try simp only [sA1,sA2,sA3,Act.put,sA4,sA5,sA6]
       iterate 4
        refine wpAnyS_take (v:=undef) hA rfl (fun _ _ _ h=>h) (Or.inr ⟨by rfl,rfl⟩) hF (fun hA=>?_)
        try simp only [sA1,sA2,sA3,Act.put,sA4,sA5,sA6]
       refine wpAnyS_take (v:=?_) hA rfl (fun _ _ _ h=>h) (Or.inl ⟨by rfl,?_⟩) hF (fun hA=>?_)
       rotate_left
       ·intro wS hSw;(try dsimp only at hSw);obtain ⟨s1,s2,s3⟩:=hSw;first | (apply Eq.trans;apply ex_ldS_at;exact rfl;exact rfl;assumption;with_reducible rfl) | (go_simp;try with_reducible rfl)
       try simp only [sA1,sA2,sA3,Act.put,sA4,sA5,sA6]
       refine wpAnyS_end hA rfl ?_
       simp only [List.drop_succ_cons,List.drop_zero]
       clear hF hx1 hx2 hx3
       go_wp2_with fail
       go_roundg (os.length - (j + 1))
       case measure=>have:=HJL.out;omega
       case rel=>exact ⟨j + 1,by first | (simp;done) | (rw [HWJ.out];rfl) | exact congrArg (Value.int .i64) HWJ.out,rfl,by have:=HJL.out;omega,F10.out.step0 FD.out⟩
     ·obtain ⟨q,hq⟩:∃ q:Nat,q + 1 = j:=⟨j - 1,by omega⟩
      have n0:(0:Int) < (j:Int):=by omega
      have n0':0 < j:=by omega
      have wq:IntKind.i64.wrap ((j:Int) - 1) = (q:Int):=by rw [IntKind.wrap_i64];have:=HJL.out;have:=HLY.out;have:=HTR.out.len;omega
      have c0:(0:Int) ≤ (q:Int):=by omega
      have c1:(q:Int) < (os.length:Int):=by have:=HJL.out;omega
      obtain ⟨pp,hpp,hls⟩:=HPR10.out q hq
      have hx4:=cell_fr0 hpp FD.out
      clear hj0 hq hpp
      cases fb with
      | true =>
       have hfs:fs = x.Node:=HFI.out rfl
       subst hfs
       refine wp_region_M 21 22 [⟨295147905179352825856,1024,0⟩,⟨590295810358705651712,295147905179352825856,1⟩,⟨1180591620717411303424,590295810358705651712,2⟩,⟨2361183241434822606848,1180591620717411303936,4⟩,⟨4722366482869645213696,1180591620717411304448,4⟩,⟨9444732965739290427392,5902958103587056517120,20⟩,⟨18889465931478580854784,12986507827891524337664,44⟩,⟨37778931862957161709568,20070057552195992158208,68⟩,⟨75557863725914323419136,38959523483674573012992,132⟩,⟨151115727451828646838272,1180591620717411305472,4⟩,⟨302231454903657293676544,152296319072546058141696,516⟩,⟨604462909807314587353088,378969910250289028399104,1284⟩,⟨1208925819614629174706176,605643501428031998656512,2052⟩,⟨2417851639229258349412352,1208925819614629174706176,4100⟩,⟨4835703278458516698824704,2417851639229258349420544,8192⟩,⟨9671406556917033397649408,7253554917687775048237056,24576⟩,⟨19342813113834066795298816,9671406556917033397653504,32768⟩,⟨38685626227668133590597632,9671406556917033397651456,32768⟩,⟨77371252455336267181195264,48357032784585166988247040,163840⟩,⟨154742504910672534362390528,106385472126087367374143488,360448⟩,⟨309485009821345068724781056,166831763106818826109452288,565248⟩,⟨618970019642690137449562112,311902861460574327074193408,1056768⟩] [(true,0),(true,1),(true,2),(true,3),(true,4),(true,5),(true,6),(true,7),(true,8),(true,9),(true,10),(true,11),(true,12),(true,13),(true,14),(true,15),(true,16),(true,17),(true,18),(true,19),(true,20)] (fun w'=>w'.cell? ⟨X,0,none⟩ = some (.string (str x.Path)) ∧ codS.rd w' X 1 = some x.Node ∧ codS.rd w' N 0 = some x.Node ∧ w'.cell? ⟨g,off + q * 4,none⟩ = some (.string (str pp))) (by kernel_rfl) rfl (by kernel_rfl) (by kernel_rfl) (by kernel_rfl) ⟨hx1,hx2,hx3,hx4⟩ (fun hA hF=>?_)
       iterate 11
        refine wpAnyS_take (v:=?_) hA rfl (fun _ _ _ h=>h) (Or.inl ⟨by rfl,?_⟩) hF (fun hA=>?_)
        rotate_left
        ·intro wS hSw;(try dsimp only at hSw);obtain ⟨s1,s2,s3,s4⟩:=hSw;first | (apply Eq.trans;apply ex_ldS_at;exact rfl;exact rfl;assumption;with_reducible rfl) | (go_simp;try with_reducible rfl)
        try simp only [sA1,sA2,sA3,Act.put,sA4,sA5,sA6]
       refine wpAnyS_take (v:=.bool false) hA rfl (fun _ _ _ h=>h) (Or.inl ⟨by rfl,fun wS hSw=>(ex_geS_at rfl rfl rfl).trans (by rw [hls];rfl)⟩) hF (fun hA=>?_)
       try simp only [sA1,sA2,sA3,Act.put,sA4,sA5,sA6]
       iterate 9
        refine wpAnyS_take (v:=?_) hA rfl (fun _ _ _ h=>h) (Or.inl ⟨by rfl,?_⟩) hF (fun hA=>?_)
        rotate_left
        ·intro wS hSw;(try dsimp only at hSw);obtain ⟨s1,s2,s3,s4⟩:=hSw;first | (apply Eq.trans;apply ex_ldS_at;exact rfl;exact rfl;assumption;with_reducible rfl) | (go_simp;try with_reducible rfl)
        try simp only [sA1,sA2,sA3,Act.put,sA4,sA5,sA6]
       refine wpAnyS_end hA rfl ?_
       simp only [List.drop_succ_cons,List.drop_zero]
       clear hF hx1 hx2 hx3
       go_wp2_with fail
       go_roundg (os.length - (j + 1))
       case measure=>have:=HJL.out;omega
       case rel=>exact ⟨j + 1,by first | (simp;done) | (rw [HWJ.out];rfl) | exact congrArg (Value.int .i64) HWJ.out,rfl,by have:=HJL.out;omega,F10.out.step0 FD.out⟩
      | false =>
       refine wp_region_M 21 22 [⟨295147905179352825856,1024,0⟩,⟨590295810358705651712,295147905179352825856,1⟩,⟨1180591620717411303424,590295810358705651712,2⟩,⟨2361183241434822606848,1180591620717411303936,4⟩,⟨4722366482869645213696,1180591620717411304448,4⟩,⟨9444732965739290427392,5902958103587056517120,20⟩,⟨18889465931478580854784,12986507827891524337664,44⟩,⟨37778931862957161709568,20070057552195992158208,68⟩,⟨75557863725914323419136,38959523483674573012992,132⟩,⟨151115727451828646838272,1180591620717411305472,4⟩,⟨302231454903657293676544,152296319072546058141696,516⟩,⟨604462909807314587353088,378969910250289028399104,1284⟩,⟨1208925819614629174706176,605643501428031998656512,2052⟩,⟨2417851639229258349412352,1208925819614629174706176,4100⟩,⟨4835703278458516698824704,2417851639229258349420544,8192⟩,⟨9671406556917033397649408,7253554917687775048237056,24576⟩,⟨19342813113834066795298816,9671406556917033397653504,32768⟩,⟨38685626227668133590597632,9671406556917033397651456,32768⟩,⟨77371252455336267181195264,48357032784585166988247040,163840⟩,⟨154742504910672534362390528,106385472126087367374143488,360448⟩,⟨309485009821345068724781056,166831763106818826109452288,565248⟩,⟨618970019642690137449562112,311902861460574327074193408,1056768⟩] [(true,0),(true,1),(true,2),(true,3),(true,4),(true,5),(true,6),(true,7),(true,8),(true,9),(true,10),(true,11),(true,12),(true,13),(true,14),(true,15),(true,16),(true,17),(true,18),(true,19),(true,20)] (fun w'=>w'.cell? ⟨X,0,none⟩ = some (.string (str x.Path)) ∧ codS.rd w' X 1 = some x.Node ∧ codS.rd w' N 0 = some fs ∧ w'.cell? ⟨g,off + q * 4,none⟩ = some (.string (str pp))) (by kernel_rfl) rfl (by kernel_rfl) (by kernel_rfl) (by kernel_rfl) ⟨hx1,hx2,hx3,hx4⟩ (fun hA hF=>?_)
       iterate 11
        refine wpAnyS_take (v:=?_) hA rfl (fun _ _ _ h=>h) (Or.inl ⟨by rfl,?_⟩) hF (fun hA=>?_)
        rotate_left
        ·intro wS hSw;(try dsimp only at hSw);obtain ⟨s1,s2,s3,s4⟩:=hSw;first | (apply Eq.trans;apply ex_ldS_at;exact rfl;exact rfl;assumption;with_reducible rfl) | (go_simp;try with_reducible rfl)
        try simp only [sA1,sA2,sA3,Act.put,sA4,sA5,sA6]
       refine wpAnyS_take (v:=.bool false) hA rfl (fun _ _ _ h=>h) (Or.inl ⟨by rfl,fun wS hSw=>(ex_geS_at rfl rfl rfl).trans (by rw [hls];rfl)⟩) hF (fun hA=>?_)
       try simp only [sA1,sA2,sA3,Act.put,sA4,sA5,sA6]
       iterate 4
        refine wpAnyS_take (v:=?_) hA rfl (fun _ _ _ h=>h) (Or.inl ⟨by rfl,?_⟩) hF (fun hA=>?_)
        rotate_left
        ·intro wS hSw;(try dsimp only at hSw);obtain ⟨s1,s2,s3,s4⟩:=hSw;first | (apply Eq.trans;apply ex_ldS_at;exact rfl;exact rfl;assumption;with_reducible rfl) | (go_simp;try with_reducible rfl)
        try simp only [sA1,sA2,sA3,Act.put,sA4,sA5,sA6]
       iterate 4
        refine wpAnyS_take (v:=undef) hA rfl (fun _ _ _ h=>h) (Or.inr ⟨by rfl,rfl⟩) hF (fun hA=>?_)
        try simp only [sA1,sA2,sA3,Act.put,sA4,sA5,sA6]
       refine wpAnyS_take (v:=?_) hA rfl (fun _ _ _ h=>h) (Or.inl ⟨by rfl,?_⟩) hF (fun hA=>?_)
       rotate_left
       ·intro wS hSw;(try dsimp only at hSw);obtain ⟨s1,s2,s3,s4⟩:=hSw;first | (apply Eq.trans;apply ex_ldS_at;exact rfl;exact rfl;assumption;with_reducible rfl) | (go_simp;try with_reducible rfl)
       try simp only [sA1,sA2,sA3,Act.put,sA4,sA5,sA6]
       refine wpAnyS_end hA rfl ?_
       simp only [List.drop_succ_cons,List.drop_zero]
       clear hF hx1 hx2 hx3
       go_wp2_with fail
       go_roundg (os.length - (j + 1))
       case measure=>have:=HJL.out;omega
       case rel=>exact ⟨j + 1,by first | (simp;done) | (rw [HWJ.out];rfl) | exact congrArg (Value.int .i64) HWJ.out,rfl,by have:=HJL.out;omega,F10.out.step0 FD.out⟩
    ·have i2:¬ (j:Int) < (os.length:Int):=by omega
     have i3:(os.length:Int) ≤ (D.rows.length:Int):=by have:=HLY.out;omega
     go_wp2_with fail
     go_ret
     exact ⟨rfl,FW.out.step0 (F7.out.step0 HF2.out)⟩
theorem lawPaths17 (W:World) (hT:HasT W) (hM:HasMW W) (A:Option Addr) (c:Nat) (rs:List RwW) (xs:List RwP) (hs:Sl W A (codR.row rs)) (hb:rs.length ≤ 140737488355328) (hX:RwsIn W rs xs) (hbd:∀ x ∈ xs,x.Heads.length ≤ 2932031007402)
  (B:Option Addr) (cb:Nat) (l:List OpL) (hsl:Sl W B (codLp.row l)) (hlb:l.length ≤ 140737488355328) :
  Calls Tryz.prog 5 #[.slice A rs.length c,.slice B l.length cb] W (Gives W (.bool true)):=paths_any W hT hM A c _ rs xs rfl hs hb hX hbd B cb _ l rfl hsl hlb
end Go.Proofs.YthehiobacjjakaaGreatDoor
