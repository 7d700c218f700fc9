/- snap's loader: contract of under. (ex_ldS_at, ex_ldT_at, ex_ld_id, ex_bldR5_at) -/
import Derived.Test.YtnkdnbjmhoegkaaGreatLdBKq
import Derived.BigQuiet
set_option linter.unusedVariables false
set_option linter.unusedSimpArgs false
namespace Go.Proofs.YtnkdnbjmhoegkaaGreat
open Go.RowKit Go.Maps Go.Sort
set_option maxRecDepth 100000 in
set_option maxHeartbeats 4000000 in
theorem ldunder_of (W:World) (X L M:Nat) (o:List (List UInt8)) (j:Nat) (hS:∀ k,j = k + 1 → SubC W X L M o k):UndC W X L M o j:=by
 intro w p A c rs its acc B d ws hp hG hL hI hj
 have fa:Fr noB w (w.alloc (.cells (codS.A p) 24)):=(Fr.refl noB w).alloc _
 have b0:=bxS_box w p
 have HF0:=Lib.hid fa
 have HL:=Lib.hid (hL.fr0 fa)
 have HI:=Lib.hid (hI.fr fa.any)
 have HP:=Lib.hid hp
 have HG:=Lib.hid hG
 have HS:=Lib.hid hS
 have HJ:=Lib.hid hj
 have HRL:=Lib.hid (show rs.length = its.length from hI.inn.len)
 have HPL:=Lib.hid (show w.heap.size < (w.alloc (.cells (codS.A p) 24)).heap.size by simp)
 have HPB:=Lib.hid (show ¬ badL W (w.alloc (.cells (codS.A p) 24)) L M w.heap.size from not_bad HL.out.blk HL.out.st.choose_spec.1 (e:=24) (by decide) (by decide) ⟨_,_,heap_alloc_new w _⟩)
 clear hp hG hL hI hj hS fa
 go_enter Tryz.func23,Tryz.ntmps23
 go_upto_region 1 with fail
 generalize w.alloc (.cells (codS.A p) 24) = w1 at b0 HF0 HL HI HPL HPB ⊢
 generalize w.heap.size = P at b0 HPL HPB ⊢
 have H0:=Lib.hid (show ∃ (i:Nat) (acc2:List RwP) (B2:Option Addr) (d2:Nat) (ws2:List RwW),(Value.int .i64 ((0:Nat):Int)) = .int .i64 (i:Int) ∧ rs.length = rs.length - i ∧ i ≤ rs.length ∧ (∀ E acc',Und (dirO nameH o) p (its.drop i) acc2 E acc' → Und (dirO nameH o) p its acc E acc') ∧ LdIn W w1 X o L M acc2 B2 d2 ws2 ∧ Fr (badL W w1 L M) w1 w1 ∧ 5000 - acc2.length ≤ j ∧ codS.bxd w1 P = some p from ⟨0,acc,B,d,ws,rfl,rfl,Nat.zero_le _,fun E acc' h=>h,HL.out,Fr.refl _ _,HJ.out,b0⟩)
 have b00:=Lib.hid b0
 clear b0
 go_wp2_with fail
 go_loopg [12] rs.length (fun gk iv wr=>∃ (i:Nat) (acc2:List RwP) (B2:Option Addr) (d2:Nat) (ws2:List RwW),iv = .int .i64 (i:Int) ∧ gk = rs.length - i ∧ i ≤ rs.length ∧ (∀ E acc',Und (dirO nameH o) p (its.drop i) acc2 E acc' → Und (dirO nameH o) p its acc E acc') ∧ LdIn W wr X o L M acc2 B2 d2 ws2 ∧ Fr (badL W w1 L M) w1 wr ∧ 5000 - acc2.length ≤ j ∧ codS.bxd wr P = some p)
 case atStart=>exact H0.out
 case round =>
  clear H0
  obtain ⟨i,acc2,B2,d2,ws2,rfl,rfl,hi,hst,hl,hf,hj2,hb⟩:=hrel
  have HST:=Lib.hid hst
  have HL2:=Lib.hid hl
  have HF2:=Lib.hid hf
  have HJ2:=Lib.hid hj2
  have HB:=Lib.hid hb
  clear hst hl hf hj2 hb
  by_cases hlt:i < rs.length
  ·have i1:(i:Int) < (rs.length:Int):=by omega
   have i0:(0:Int) ≤ (i:Int):=by omega
   have hlt2:i < its.length:=by rw [← HRL.out];exact hlt
   have HIW:=Lib.hid (HI.out.fr HF2.out)
   obtain ⟨g,off,rfl,hg⟩:=HIW.out.sl.adC (by omega)
   have e1:codT.rd wr g (off + i * 38) = some rs[i]:=HIW.out.sl.rd i hlt
   have HIN:=Lib.hid (HIW.out.inn.at_ i hlt hlt2)
   have HOF:=Lib.hid (HIW.out.hoff i hlt hlt2)
   have HDR:=Lib.hid (show its.drop i = its[i] :: its.drop (i + 1) from List.drop_eq_getElem_cons hlt2)
   have HWF:=Lib.hid (HG.out.2 _ (List.getElem_mem hlt2))
   have HKL:=Lib.hid hlt
   generalize rs[i] = r at e1 HIN HOF
   generalize its[i] = x at HIN HOF HDR HWF
   have HXN:=Lib.hid (show x.Node = r.Node by rw [HIN.out.eq];rfl)
   clear hg hlt hlt2 hi HIW
   go_upto_region 4 with fail
   obtain ⟨l,hm,hml⟩:=HL2.out.st
   have fb:Fr noB wr (wr.alloc (codT.o r)):=(Fr.refl noB wr).alloc _
   have bB:=Cod.bxd_new (C:=codT) wr r
   have fd:Fr noB (wr.alloc (codT.o r)) (wr.alloc (codT.o r)).drew:=(Fr.refl noB _).drew
   have HFB:=Lib.hid (fb.step0 fd)
   have HBX:=Lib.hid (Cod.bxd_fr0 bB fd)
   have HNL:=Lib.hid (show wr.heap.size < (wr.alloc (codT.o r)).drew.heap.size by show _ < (wr.alloc (codT.o r)).heap.size;simp)
   have hF0:codS.rd (wr.alloc (codT.o r)).drew wr.heap.size 0 = some r.Node ∧ (wr.alloc (codT.o r)).drew.cell? ⟨L,1,none⟩ = some (.slice B2 ws2.length d2) ∧ (wr.alloc (codT.o r)).drew.cell? ⟨L,2,none⟩ = some (.map (some M)) ∧ mpT (wr.alloc (codT.o r)).drew M = some (setZ l):=by
    have hk:=HL2.out.blk.fr HFB.out (by simp [noB])
    exact ⟨(itAt (Cod.bxd_rd HBX.out)).node,by rw [hk.cell];rfl,by rw [hk.cell];rfl,mpT_fr0 hm HFB.out⟩
   have keep:∀ w' w'':World,Fr noB w' w'' → (codS.rd w' wr.heap.size 0 = some r.Node ∧ w'.cell? ⟨L,1,none⟩ = some (.slice B2 ws2.length d2) ∧ w'.cell? ⟨L,2,none⟩ = some (.map (some M)) ∧ mpT w' M = some (setZ l)) → (codS.rd w'' wr.heap.size 0 = some r.Node ∧ w''.cell? ⟨L,1,none⟩ = some (.slice B2 ws2.length d2) ∧ w''.cell? ⟨L,2,none⟩ = some (.map (some M)) ∧ mpT w'' M = some (setZ l)):=fun w' w'' f h=>⟨Cod.rd_fr0 h.1 f,cell_fr0 h.2.1 f,cell_fr0 h.2.2.1 f,mpT_fr0 h.2.2.2 f⟩
   have HML:=Lib.hid hml
   have HM:=Lib.hid hm
   have hwf:=HWF.out
   rw [HXN.out] at hwf
   clear fb bB fd hml hm e1
   generalize wr.heap.size = N at HBX HNL hF0 keep ⊢
   by_cases hla:r.Node = lastS
   ·have d1:decide (r.Node = lastS) = true:=by simp [hla]
    have HBA:=Lib.hid (show badZ acc2 x from .inl (HXN.out.trans hla))
    clear hla
    refine wp_region_M 20 21 [⟨65536,256,0⟩,⟨131072,65536,1⟩,⟨262144,0,0⟩,⟨524288,393216,6⟩,⟨1048576,524288,12⟩,⟨2097152,1048577,16⟩,⟨4194304,3145728,48⟩,⟨8388608,5242880,80⟩,⟨16777216,9437184,144⟩,⟨33554432,1048832,16⟩,⟨67108864,34603008,528⟩,⟨134217728,84934656,1296⟩,⟨268435456,135266304,2064⟩,⟨536870912,268435456,4112⟩,⟨1073741824,536870913,8192⟩,⟨2147483648,1610612736,24576⟩,⟨4294967296,2684354560,40960⟩,⟨8589934592,4831838208,73728⟩,⟨17179869184,9126805504,139264⟩,⟨34359738368,17716740096,270336⟩,⟨68719476736,34896609280,532480⟩] [(true,0),(true,1),(false,2),(true,3),(true,4),(true,5),(true,6),(true,7),(true,8),(true,9),(true,10),(true,11),(true,12),(true,13),(true,14),(true,15),(true,16),(true,17),(true,18),(true,19)] (fun w'=>codS.rd w' N 0 = some r.Node ∧ w'.cell? ⟨L,1,none⟩ = some (.slice B2 ws2.length d2) ∧ w'.cell? ⟨L,2,none⟩ = some (.map (some M)) ∧ mpT w' M = some (setZ l)) (by kernel_rfl) rfl (by kernel_rfl) (by kernel_rfl) (by kernel_rfl) hF0 (fun hA hF=>?_)
    clear hF0
    generalize (wr.alloc (codT.o r)).drew = wd at hF HFB HBX HNL ⊢
    iterate 2
     refine wpAnyS_take (v:=?_) hA rfl (fun _ _ _ h=>h) (Or.inl ⟨by rfl,?_⟩) hF (fun hA=>?_)
     rotate_left
     ·intro wS hSw;(try dsimp only at hSw);obtain ⟨s1,s2,s3,s4⟩:=hSw;first | (apply Eq.trans;apply ex_ld_id;exact rfl;exact rfl;assumption;with_reducible rfl) | (apply Eq.trans;apply ex_ldT_at;exact rfl;exact rfl;assumption;with_reducible rfl) | (apply Eq.trans;apply ex_ldS_at;exact rfl;exact rfl;assumption;with_reducible rfl) | (apply Eq.trans;apply ex_bldR5_at;exact rfl;exact rfl;exact rfl;exact rfl;exact rfl;exact rfl;with_reducible rfl) | (go_simp;try with_reducible rfl)
     try simp only [sA1,sA2,sA3,Act.put,sA4,sA5,sA6]
    refine wpAnyS_one hA rfl (fun K' hK=>?_)
    go_simp
    go_at_call 19
    refine (last_any wd).mono ?_
    rintro e w3 ⟨rfl,f3⟩
    have HF3:=Lib.hid (HFB.out.step0 f3)
    have HBX:=Lib.hid (Cod.bxd_fr0 HBX.out f3)
    replace hF:=keep _ _ f3 hF
    refine hK.out _ _ hF (fun hA=>?_)
    clear hK K'
    clear f3
    iterate 2
     refine wpAnyS_take (v:=?_) hA rfl (fun _ _ _ h=>h) (Or.inl ⟨by rfl,?_⟩) hF (fun hA=>?_)
     rotate_left
     ·intro wS hSw;(try dsimp only at hSw);obtain ⟨s1,s2,s3,s4⟩:=hSw;first | (apply Eq.trans;apply ex_ld_id;exact rfl;exact rfl;assumption;with_reducible rfl) | (apply Eq.trans;apply ex_ldT_at;exact rfl;exact rfl;assumption;with_reducible rfl) | (apply Eq.trans;apply ex_ldS_at;exact rfl;exact rfl;assumption;with_reducible rfl) | (apply Eq.trans;apply ex_bldR5_at;exact rfl;exact rfl;exact rfl;exact rfl;exact rfl;exact rfl;with_reducible rfl) | (go_simp;try with_reducible rfl)
     try simp only [sA1,sA2,sA3,Act.put,sA4,sA5,sA6]
    iterate 7
     refine wpAnyS_take (v:=undef) hA rfl (fun _ _ _ h=>h) (Or.inr ⟨by rfl,rfl⟩) hF (fun hA=>?_)
     try simp only [sA1,sA2,sA3,Act.put,sA4,sA5,sA6]
    iterate 2
     refine wpAnyS_take (v:=?_) hA rfl (fun _ _ _ h=>h) (Or.inl ⟨by rfl,?_⟩) hF (fun hA=>?_)
     rotate_left
     ·intro wS hSw;(try dsimp only at hSw);obtain ⟨s1,s2,s3,s4⟩:=hSw;first | (apply Eq.trans;apply ex_ld_id;exact rfl;exact rfl;assumption;with_reducible rfl) | (apply Eq.trans;apply ex_ldT_at;exact rfl;exact rfl;assumption;with_reducible rfl) | (apply Eq.trans;apply ex_ldS_at;exact rfl;exact rfl;assumption;with_reducible rfl) | (apply Eq.trans;apply ex_bldR5_at;exact rfl;exact rfl;exact rfl;exact rfl;exact rfl;exact rfl;with_reducible rfl) | (go_simp;try with_reducible rfl)
     try simp only [sA1,sA2,sA3,Act.put,sA4,sA5,sA6]
    iterate 6
     refine wpAnyS_take (v:=undef) hA rfl (fun _ _ _ h=>h) (Or.inr ⟨by rfl,rfl⟩) hF (fun hA=>?_)
     try simp only [sA1,sA2,sA3,Act.put,sA4,sA5,sA6]
    refine wpAnyS_end hA rfl ?_
    simp only [List.drop_succ_cons,List.drop_zero]
    clear hF keep
    go_wp2_with fail
    go_ret
    exact ⟨130,acc2,B2,d2,ws2,rfl,HST.out _ _ (by rw [HDR.out];exact .bad HBA.out),HL2.out.fr0 HF3.out,fr_bad HF0.out.any ((fr_bad HF2.out HF3.out.any))⟩
   ·have d1:decide (r.Node = lastS) = false:=by simp [hla]
    have HLA:=Lib.hid hla
    clear hla
    by_cases hin:r.Node ∈ l
    ·have hlk:(look (setZ l) r.Node).getD (.bool false) = .bool true:=by rw [look_setZ,if_pos hin];rfl
     have HBA:=Lib.hid (show badZ acc2 x from .inr (.inl ((HML.out _).1 (by rw [HXN.out];exact hin))))
     clear hin
     refine wp_region_M 20 21 [⟨65536,256,0⟩,⟨131072,65536,1⟩,⟨262144,0,0⟩,⟨524288,393216,6⟩,⟨1048576,524288,12⟩,⟨2097152,1048577,16⟩,⟨4194304,3145728,48⟩,⟨8388608,5242880,80⟩,⟨16777216,9437184,144⟩,⟨33554432,1048832,16⟩,⟨67108864,34603008,528⟩,⟨134217728,84934656,1296⟩,⟨268435456,135266304,2064⟩,⟨536870912,268435456,4112⟩,⟨1073741824,536870913,8192⟩,⟨2147483648,1610612736,24576⟩,⟨4294967296,2684354560,40960⟩,⟨8589934592,4831838208,73728⟩,⟨17179869184,9126805504,139264⟩,⟨34359738368,17716740096,270336⟩,⟨68719476736,34896609280,532480⟩] [(true,0),(true,1),(false,2),(true,3),(true,4),(true,5),(true,6),(true,7),(true,8),(true,9),(true,10),(true,11),(true,12),(true,13),(true,14),(true,15),(true,16),(true,17),(true,18),(true,19)] (fun w'=>codS.rd w' N 0 = some r.Node ∧ w'.cell? ⟨L,1,none⟩ = some (.slice B2 ws2.length d2) ∧ w'.cell? ⟨L,2,none⟩ = some (.map (some M)) ∧ mpT w' M = some (setZ l)) (by kernel_rfl) rfl (by kernel_rfl) (by kernel_rfl) (by kernel_rfl) hF0 (fun hA hF=>?_)
     clear hF0
     generalize (wr.alloc (codT.o r)).drew = wd at hF HFB HBX HNL ⊢
     iterate 2
      refine wpAnyS_take (v:=?_) hA rfl (fun _ _ _ h=>h) (Or.inl ⟨by rfl,?_⟩) hF (fun hA=>?_)
      rotate_left
      ·intro wS hSw;(try dsimp only at hSw);obtain ⟨s1,s2,s3,s4⟩:=hSw;first | (apply Eq.trans;apply ex_ld_id;exact rfl;exact rfl;assumption;with_reducible rfl) | (apply Eq.trans;apply ex_ldT_at;exact rfl;exact rfl;assumption;with_reducible rfl) | (apply Eq.trans;apply ex_ldS_at;exact rfl;exact rfl;assumption;with_reducible rfl) | (apply Eq.trans;apply ex_bldR5_at;exact rfl;exact rfl;exact rfl;exact rfl;exact rfl;exact rfl;with_reducible rfl) | (go_simp;try with_reducible rfl)
      try simp only [sA1,sA2,sA3,Act.put,sA4,sA5,sA6]
     refine wpAnyS_one hA rfl (fun K' hK=>?_)
     go_simp
     go_at_call 19
     refine (last_any wd).mono ?_
     rintro e w3 ⟨rfl,f3⟩
     have HF3:=Lib.hid (HFB.out.step0 f3)
     have HBX:=Lib.hid (Cod.bxd_fr0 HBX.out f3)
     replace hF:=keep _ _ f3 hF
     refine hK.out _ _ hF (fun hA=>?_)
     clear hK K'
     clear f3
     iterate 11
      refine wpAnyS_take (v:=?_) hA rfl (fun _ _ _ h=>h) (Or.inl ⟨by rfl,?_⟩) hF (fun hA=>?_)
      rotate_left
      ·intro wS hSw;(try dsimp only at hSw);obtain ⟨s1,s2,s3,s4⟩:=hSw;first | (apply Eq.trans;apply ex_ld_id;exact rfl;exact rfl;assumption;with_reducible rfl) | (apply Eq.trans;apply ex_ldT_at;exact rfl;exact rfl;assumption;with_reducible rfl) | (apply Eq.trans;apply ex_ldS_at;exact rfl;exact rfl;assumption;with_reducible rfl) | (apply Eq.trans;apply ex_bldR5_at;exact rfl;exact rfl;exact rfl;exact rfl;exact rfl;exact rfl;with_reducible rfl) | (go_simp;try with_reducible rfl)
      try simp only [sA1,sA2,sA3,Act.put,sA4,sA5,sA6]
     iterate 6
      refine wpAnyS_take (v:=undef) hA rfl (fun _ _ _ h=>h) (Or.inr ⟨by rfl,rfl⟩) hF (fun hA=>?_)
      try simp only [sA1,sA2,sA3,Act.put,sA4,sA5,sA6]
     refine wpAnyS_end hA rfl ?_
     simp only [List.drop_succ_cons,List.drop_zero]
     clear hF keep
     go_wp2_with fail
     go_ret
     exact ⟨130,acc2,B2,d2,ws2,rfl,HST.out _ _ (by rw [HDR.out];exact .bad HBA.out),HL2.out.fr0 HF3.out,fr_bad HF0.out.any ((fr_bad HF2.out HF3.out.any))⟩
    ·have hlk:(look (setZ l) r.Node).getD (.bool false) = .bool false:=by rw [look_setZ,if_neg hin];rfl
     have HNI:=Lib.hid hin
     clear hin
     have HWL:=Lib.hid HL2.out.rws.inn.len
     by_cases h5:ws2.length = 5000
     ·have h5':(ws2.length:Int) = 5000:=by omega
      have HBA:=Lib.hid (show badZ acc2 x from .inr (.inr (by rw [← HWL.out];exact h5)))
      clear h5
      refine wp_region_M 20 21 [⟨65536,256,0⟩,⟨131072,65536,1⟩,⟨262144,0,0⟩,⟨524288,393216,6⟩,⟨1048576,524288,12⟩,⟨2097152,1048577,16⟩,⟨4194304,3145728,48⟩,⟨8388608,5242880,80⟩,⟨16777216,9437184,144⟩,⟨33554432,1048832,16⟩,⟨67108864,34603008,528⟩,⟨134217728,84934656,1296⟩,⟨268435456,135266304,2064⟩,⟨536870912,268435456,4112⟩,⟨1073741824,536870913,8192⟩,⟨2147483648,1610612736,24576⟩,⟨4294967296,2684354560,40960⟩,⟨8589934592,4831838208,73728⟩,⟨17179869184,9126805504,139264⟩,⟨34359738368,17716740096,270336⟩,⟨68719476736,34896609280,532480⟩] [(true,0),(true,1),(false,2),(true,3),(true,4),(true,5),(true,6),(true,7),(true,8),(true,9),(true,10),(true,11),(true,12),(true,13),(true,14),(true,15),(true,16),(true,17),(true,18),(true,19)] (fun w'=>codS.rd w' N 0 = some r.Node ∧ w'.cell? ⟨L,1,none⟩ = some (.slice B2 ws2.length d2) ∧ w'.cell? ⟨L,2,none⟩ = some (.map (some M)) ∧ mpT w' M = some (setZ l)) (by kernel_rfl) rfl (by kernel_rfl) (by kernel_rfl) (by kernel_rfl) hF0 (fun hA hF=>?_)
      clear hF0
      generalize (wr.alloc (codT.o r)).drew = wd at hF HFB HBX HNL ⊢
      iterate 2
       refine wpAnyS_take (v:=?_) hA rfl (fun _ _ _ h=>h) (Or.inl ⟨by rfl,?_⟩) hF (fun hA=>?_)
       rotate_left
       ·intro wS hSw;(try dsimp only at hSw);obtain ⟨s1,s2,s3,s4⟩:=hSw;first | (apply Eq.trans;apply ex_ld_id;exact rfl;exact rfl;assumption;with_reducible rfl) | (apply Eq.trans;apply ex_ldT_at;exact rfl;exact rfl;assumption;with_reducible rfl) | (apply Eq.trans;apply ex_ldS_at;exact rfl;exact rfl;assumption;with_reducible rfl) | (apply Eq.trans;apply ex_bldR5_at;exact rfl;exact rfl;exact rfl;exact rfl;exact rfl;exact rfl;with_reducible rfl) | (go_simp;try with_reducible rfl)
       try simp only [sA1,sA2,sA3,Act.put,sA4,sA5,sA6]
      refine wpAnyS_one hA rfl (fun K' hK=>?_)
      go_simp
      go_at_call 19
      refine (last_any wd).mono ?_
      rintro e w3 ⟨rfl,f3⟩
      have HF3:=Lib.hid (HFB.out.step0 f3)
      have HBX:=Lib.hid (Cod.bxd_fr0 HBX.out f3)
      replace hF:=keep _ _ f3 hF
      refine hK.out _ _ hF (fun hA=>?_)
      clear hK K'
      clear f3
      iterate 17
       refine wpAnyS_take (v:=?_) hA rfl (fun _ _ _ h=>h) (Or.inl ⟨by rfl,?_⟩) hF (fun hA=>?_)
       rotate_left
       ·intro wS hSw;(try dsimp only at hSw);obtain ⟨s1,s2,s3,s4⟩:=hSw;first | (apply Eq.trans;apply ex_ld_id;exact rfl;exact rfl;assumption;with_reducible rfl) | (apply Eq.trans;apply ex_ldT_at;exact rfl;exact rfl;assumption;with_reducible rfl) | (apply Eq.trans;apply ex_ldS_at;exact rfl;exact rfl;assumption;with_reducible rfl) | (apply Eq.trans;apply ex_bldR5_at;exact rfl;exact rfl;exact rfl;exact rfl;exact rfl;exact rfl;with_reducible rfl) | (go_simp;try with_reducible rfl)
       try simp only [sA1,sA2,sA3,Act.put,sA4,sA5,sA6]
      refine wpAnyS_end hA rfl ?_
      simp only [List.drop_succ_cons,List.drop_zero]
      clear hF keep
      go_wp2_with fail
      go_ret
      exact ⟨130,acc2,B2,d2,ws2,rfl,HST.out _ _ (by rw [HDR.out];exact .bad HBA.out),HL2.out.fr0 HF3.out,fr_bad HF0.out.any ((fr_bad HF2.out HF3.out.any))⟩
     ·have h5':¬ (ws2.length:Int) = 5000:=by omega
      have H5:=Lib.hid h5
      clear h5
      refine wp_region_M 20 21 [⟨65536,256,0⟩,⟨131072,65536,1⟩,⟨262144,0,0⟩,⟨524288,393216,6⟩,⟨1048576,524288,12⟩,⟨2097152,1048577,16⟩,⟨4194304,3145728,48⟩,⟨8388608,5242880,80⟩,⟨16777216,9437184,144⟩,⟨33554432,1048832,16⟩,⟨67108864,34603008,528⟩,⟨134217728,84934656,1296⟩,⟨268435456,135266304,2064⟩,⟨536870912,268435456,4112⟩,⟨1073741824,536870913,8192⟩,⟨2147483648,1610612736,24576⟩,⟨4294967296,2684354560,40960⟩,⟨8589934592,4831838208,73728⟩,⟨17179869184,9126805504,139264⟩,⟨34359738368,17716740096,270336⟩,⟨68719476736,34896609280,532480⟩] [(true,0),(true,1),(false,2),(true,3),(true,4),(true,5),(true,6),(true,7),(true,8),(true,9),(true,10),(true,11),(true,12),(true,13),(true,14),(true,15),(true,16),(true,17),(true,18),(true,19)] (fun w'=>codS.rd w' N 0 = some r.Node ∧ w'.cell? ⟨L,1,none⟩ = some (.slice B2 ws2.length d2) ∧ w'.cell? ⟨L,2,none⟩ = some (.map (some M)) ∧ mpT w' M = some (setZ l)) (by kernel_rfl) rfl (by kernel_rfl) (by kernel_rfl) (by kernel_rfl) hF0 (fun hA hF=>?_)
      clear hF0
      generalize (wr.alloc (codT.o r)).drew = wd at hF HFB HBX HNL ⊢
      iterate 2
       refine wpAnyS_take (v:=?_) hA rfl (fun _ _ _ h=>h) (Or.inl ⟨by rfl,?_⟩) hF (fun hA=>?_)
       rotate_left
       ·intro wS hSw;(try dsimp only at hSw);obtain ⟨s1,s2,s3,s4⟩:=hSw;first | (apply Eq.trans;apply ex_ld_id;exact rfl;exact rfl;assumption;with_reducible rfl) | (apply Eq.trans;apply ex_ldT_at;exact rfl;exact rfl;assumption;with_reducible rfl) | (apply Eq.trans;apply ex_ldS_at;exact rfl;exact rfl;assumption;with_reducible rfl) | (apply Eq.trans;apply ex_bldR5_at;exact rfl;exact rfl;exact rfl;exact rfl;exact rfl;exact rfl;with_reducible rfl) | (go_simp;try with_reducible rfl)
       try simp only [sA1,sA2,sA3,Act.put,sA4,sA5,sA6]
      refine wpAnyS_one hA rfl (fun K' hK=>?_)
      go_simp
      go_at_call 19
      refine (last_any wd).mono ?_
      rintro e w3 ⟨rfl,f3⟩
      have HF3:=Lib.hid (HFB.out.step0 f3)
      have HBX:=Lib.hid (Cod.bxd_fr0 HBX.out f3)
      replace hF:=keep _ _ f3 hF
      refine hK.out _ _ hF (fun hA=>?_)
      clear hK K'
      clear f3
      iterate 17
       refine wpAnyS_take (v:=?_) hA rfl (fun _ _ _ h=>h) (Or.inl ⟨by rfl,?_⟩) hF (fun hA=>?_)
       rotate_left
       ·intro wS hSw;(try dsimp only at hSw);obtain ⟨s1,s2,s3,s4⟩:=hSw;first | (apply Eq.trans;apply ex_ld_id;exact rfl;exact rfl;assumption;with_reducible rfl) | (apply Eq.trans;apply ex_ldT_at;exact rfl;exact rfl;assumption;with_reducible rfl) | (apply Eq.trans;apply ex_ldS_at;exact rfl;exact rfl;assumption;with_reducible rfl) | (apply Eq.trans;apply ex_bldR5_at;exact rfl;exact rfl;exact rfl;exact rfl;exact rfl;exact rfl;with_reducible rfl) | (go_simp;try with_reducible rfl)
       try simp only [sA1,sA2,sA3,Act.put,sA4,sA5,sA6]
      refine wpAnyS_end hA rfl ?_
      simp only [List.drop_succ_cons,List.drop_zero]
      clear hF keep
      go_upto_region 6 with fail
      have m3:=mpT_fr0 HM.out HF3.out
      have hk3:=HL2.out.blk.fr HF3.out (by simp [noB])
      have HK3:=Lib.hid hk3
      have fd:Fr noB w3 w3.drew:=(Fr.refl noB w3).drew
      have hF0:w3.drew.cell? ⟨L,2,none⟩ = some (.map (some M)) ∧ codS.rd w3.drew N 0 = some r.Node:=⟨by rw [(hk3.fr fd (by simp [noB])).cell];rfl,(itAt (Cod.bxd_rd (Cod.bxd_fr0 HBX.out fd))).node⟩
      have HM3:=Lib.hid (mpT_fr0 m3 fd)
      have HFD:=Lib.hid fd
      clear m3 hk3 fd
      refine wp_region_M 6 7 [⟨137438953472,1,0⟩,⟨274877906944,137438953472,1⟩,⟨549755813888,274877906944,2⟩,⟨1099511627776,549755813888,4⟩,⟨2199023255552,256,0⟩,⟨4398046511104,2199023255552,16⟩,⟨0,5497558138880,63⟩] [(true,0),(true,1),(true,2),(true,3),(true,4),(true,5)] (fun w'=>w'.cell? ⟨L,2,none⟩ = some (.map (some M)) ∧ codS.rd w' N 0 = some r.Node) (by kernel_rfl) rfl (by kernel_rfl) (by kernel_rfl) (by kernel_rfl) hF0 (fun hA hF=>?_)
      clear hF0
      generalize w3.drew = w4 at hF HM3 HFD ⊢
      iterate 6
       refine wpAnyS_take (v:=?_) hA rfl (fun _ _ _ h=>h) (Or.inl ⟨by rfl,?_⟩) hF (fun hA=>?_)
       rotate_left
       ·intro wS hSw;(try dsimp only at hSw);obtain ⟨s1,s2⟩:=hSw;first | (apply Eq.trans;apply ex_ld_id;exact rfl;exact rfl;assumption;with_reducible rfl) | (apply Eq.trans;apply ex_ldT_at;exact rfl;exact rfl;assumption;with_reducible rfl) | (apply Eq.trans;apply ex_ldS_at;exact rfl;exact rfl;assumption;with_reducible rfl) | (apply Eq.trans;apply ex_bldR5_at;exact rfl;exact rfl;exact rfl;exact rfl;exact rfl;exact rfl;with_reducible rfl) | (go_simp;try with_reducible rfl)
       try simp only [sA1,sA2,sA3,Act.put,sA4,sA5,sA6]
      refine wpAnyS_end hA rfl ?_
      simp only [List.drop_succ_cons,List.drop_zero]
      clear hF
      obtain ⟨_,hmp,fM,hz⟩:=mputT_all Tryz.underlying68 HM3.out hwf (.bool true)
      rw [put_setZ,if_neg HNI.out] at hmp
      have HMP:=Lib.hid hmp
      have HFM:=Lib.hid fM
      have m4:=HM3.out
      clear hmp fM hz
      go_upto_region 7 with fail
      generalize mputT 68 w4 M r.Node (.bool true) = w5 at HMP HFM ⊢
      clear m4
      have HLM:=Lib.hid (blk_map HL2.out.blk HM.out)
      have HNM:=Lib.hid (blk_map (Cod.bxd_blk HBX.out) (mpT_fr0 HM.out HF3.out))
      have HB3:=Lib.hid (Cod.bxd_fr0 HB.out HF3.out)
      have HPM:=Lib.hid (blk_map (Cod.bxd_blk HB3.out) (mpT_fr0 HM.out HF3.out))
      have HF5:=Lib.hid ((HFD.out.any (M:=oneB M)).trans HFM.out fun _ _ h=>h)
      have HK5:=Lib.hid (HK3.out.fr HF5.out HLM.out)
      have HBX5:=Lib.hid (Cod.bxd_fr HBX.out HF5.out HNM.out)
      have HB5:=Lib.hid (Cod.bxd_fr HB3.out HF5.out HPM.out)
      have HO5:=Lib.hid (own_fr (own_new0 HL2.out.own HF3.out) HF5.out fun g hg e=>own_map' HL2.out.own HM.out (by rw [ownBlock_sl'] at hg;rw [hg];exact congrArg some e))
      have HFB5:=Lib.hid (show Fr (badL W wr L M) wr w5 from (HF3.out.any).trans HF5.out fun b _ h=>.inr (.inl h))
      have fd:Fr noB w5 w5.drew:=(Fr.refl noB w5).drew
      have HK6:=Lib.hid (HK5.out.fr fd (by simp [noB]))
      have HBX6:=Lib.hid (Cod.bxd_fr0 HBX5.out fd)
      have HB6:=Lib.hid (Cod.bxd_fr0 HB5.out fd)
      have HO6:=Lib.hid (own_new0 HO5.out fd)
      have HM6:=Lib.hid (mpT_fr0 HMP.out fd)
      have HFB6:=Lib.hid (HFB5.out.step0 fd)
      have hF0:w5.drew.cell? ⟨L,1,none⟩ = some (.slice B2 ws2.length d2) ∧ codS.rd w5.drew N 0 = some r.Node ∧ codS.rd w5.drew P 0 = some p ∧ codS.rd w5.drew N 2 = some r.At ∧ w5.drew.cell? ⟨N,4,none⟩ = some (.string (str r.Name)) ∧ w5.drew.cell? ⟨N,37,none⟩ = some (.slice r.A r.n r.c):=by
       have hq:=itAt (Cod.bxd_rd HBX6.out)
       exact ⟨by rw [HK6.out.cell];rfl,hq.node,Cod.bxd_rd HB6.out,hq.At,hq.name,hq.heads⟩
      have keep:∀ w' w'':World,Fr noB w' w'' → (w'.cell? ⟨L,1,none⟩ = some (.slice B2 ws2.length d2) ∧ codS.rd w' N 0 = some r.Node ∧ codS.rd w' P 0 = some p ∧ codS.rd w' N 2 = some r.At ∧ w'.cell? ⟨N,4,none⟩ = some (.string (str r.Name)) ∧ w'.cell? ⟨N,37,none⟩ = some (.slice r.A r.n r.c)) → (w''.cell? ⟨L,1,none⟩ = some (.slice B2 ws2.length d2) ∧ codS.rd w'' N 0 = some r.Node ∧ codS.rd w'' P 0 = some p ∧ codS.rd w'' N 2 = some r.At ∧ w''.cell? ⟨N,4,none⟩ = some (.string (str r.Name)) ∧ w''.cell? ⟨N,37,none⟩ = some (.slice r.A r.n r.c)):=fun w' w'' f h=>⟨cell_fr0 h.1 f,Cod.rd_fr0 h.2.1 f,Cod.rd_fr0 h.2.2.1 f,Cod.rd_fr0 h.2.2.2.1 f,cell_fr0 h.2.2.2.2.1 f,cell_fr0 h.2.2.2.2.2 f⟩
      clear fd
      refine wp_region_M 19 20 [⟨8796093022208,1,0⟩,⟨17592186044416,1,0⟩,⟨35184372088832,17592186044416,2⟩,⟨70368744177664,35184372088832,4⟩,⟨140737488355328,70368744177664,8⟩,⟨281474976710656,256,0⟩,⟨562949953421312,281474976710656,32⟩,⟨1125899906842624,16,0⟩,⟨2251799813685248,256,0⟩,⟨4503599627370496,2251799813685248,256⟩,⟨9007199254740992,256,0⟩,⟨18014398509481984,9007199254740992,1024⟩,⟨36028797018963968,256,0⟩,⟨72057594037927936,36028797018963968,4096⟩,⟨144115188075855872,96264442035044352,10944⟩,⟨288230376151711744,144115188075855872,16384⟩,⟨576460752303423488,288371113640067072,32784⟩,⟨1152921504606846976,8796093022208,131071⟩,⟨2305843009213693952,1152921504606846976,262143⟩,⟨0,2882303761517117440,393215⟩] [(true,0),(true,1),(true,2),(true,3),(true,4),(true,5),(true,6),(true,7),(true,8),(true,9),(true,10),(true,11),(true,12),(true,13),(true,14),(false,15),(false,16),(true,17),(true,18)] (fun w'=>w'.cell? ⟨L,1,none⟩ = some (.slice B2 ws2.length d2) ∧ codS.rd w' N 0 = some r.Node ∧ codS.rd w' P 0 = some p ∧ codS.rd w' N 2 = some r.At ∧ w'.cell? ⟨N,4,none⟩ = some (.string (str r.Name)) ∧ w'.cell? ⟨N,37,none⟩ = some (.slice r.A r.n r.c)) (by kernel_rfl) rfl (by kernel_rfl) (by kernel_rfl) (by kernel_rfl) hF0 (fun hA hF=>?_)
      clear hF0
      generalize w5.drew = w6 at hF HK6 HBX6 HB6 HO6 HM6 HFB6 ⊢
      iterate 15
       refine wpAnyS_take (v:=?_) hA rfl (fun _ _ _ h=>h) (Or.inl ⟨by rfl,?_⟩) hF (fun hA=>?_)
       rotate_left
       ·intro wS hSw;(try dsimp only at hSw);obtain ⟨s1,s2,s3,s4,s5,s6⟩:=hSw;first | (apply Eq.trans;apply ex_ld_id;exact rfl;exact rfl;assumption;with_reducible rfl) | (apply Eq.trans;apply ex_ldT_at;exact rfl;exact rfl;assumption;with_reducible rfl) | (apply Eq.trans;apply ex_ldS_at;exact rfl;exact rfl;assumption;with_reducible rfl) | (apply Eq.trans;apply ex_bldR5_at;exact rfl;exact rfl;exact rfl;exact rfl;exact rfl;exact rfl;with_reducible rfl) | (go_simp;try with_reducible rfl)
       try simp only [sA1,sA2,sA3,Act.put,sA4,sA5,sA6]
      obtain ⟨rw',hrw⟩:∃ q:RwW,q = ⟨r.Node,p,r.At,r.Name,r.A,r.n,r.c⟩:=⟨_,rfl⟩
      rw [← hrw]
      have HRW:=Lib.hid hrw
      clear hrw
      refine wpAnyS_one hA rfl (fun K' hK=>?_)
      refine step_runI rfl _ _ (ex_bsR_at rfl rfl) ?_
      have fn:Fr noB w6 (w6.alloc (codR.ro [rw'])):=(Fr.refl noB w6).alloc _
      have HSR:=Lib.hid (Cod.sl_new (C:=codR) w6 [rw'])
      have HO7:=Lib.hid (own_new0 HO6.out fn)
      have HK7:=Lib.hid (HK6.out.fr fn (by simp [noB]))
      have HBX7:=Lib.hid (Cod.bxd_fr0 HBX6.out fn)
      have HB7:=Lib.hid (Cod.bxd_fr0 HB6.out fn)
      have HM7:=Lib.hid (mpT_fr0 HM6.out fn)
      have HFB7:=Lib.hid (HFB6.out.step0 fn)
      replace hF:=keep _ _ fn hF
      refine hK.out _ _ hF (fun hA=>?_)
      clear hK K'
      clear fn
      generalize w6.alloc (codR.ro [rw']) = w7 at hF HSR HO7 HK7 HBX7 HB7 HM7 HFB7 ⊢
      refine wpAnyS_one hA rfl (fun K' hK=>?_)
      have hbs:W.heap.size ≤ w7.heap.size:=Nat.le_trans (Nat.le_of_lt (Nat.lt_of_le_of_lt HL2.out.lw HL2.out.blk.lt)) HFB7.out.size
      refine step_appC' etR W _ rfl _ _ rfl B2 ws2.length d2 ws2 rfl rfl HO7.out (some ⟨w6.heap.size,0,none⟩) 1 1 [rw'] rfl HSR.out rfl (by have:=HL2.out.max;have:=HWL.out;simp;omega) hbs ?_
      intro A8 c8 w8 hc8 hmx8 ho8 hg8 hA8
      have fg:Fr (fun b=>B2.map (·.block) = some b) w7 w8:=Fr.ofGrown hg8 fun g hg=>hg
      have HK8:=Lib.hid (HK7.out.fr fg (blk_own HK7.out HO7.out (by decide)))
      have HBX8:=Lib.hid (Cod.bxd_fr HBX7.out fg (blk_own (Cod.bxd_blk HBX7.out) HO7.out (by decide)))
      have HB8:=Lib.hid (Cod.bxd_fr HB7.out fg (blk_own (Cod.bxd_blk HB7.out) HO7.out (by decide)))
      have HM8:=Lib.hid (mpT_fr HM7.out fg (own_map' HO7.out HM7.out))
      have HFB8:=Lib.hid (HFB7.out.trans fg fun b _ h=>own_bad HL2.out h)
      obtain ⟨ws3,hws3⟩:∃ l:List RwW,l = ws2 ++ [rw']:=⟨_,rfl⟩
      rw [← hws3] at ho8 ⊢
      have HW3:=Lib.hid hws3
      have HO8:=Lib.hid ho8
      replace hF:w8.cell? ⟨L,1,none⟩ = some (.slice B2 ws2.length d2) ∧ codS.rd w8 N 0 = some r.Node ∧ codS.rd w8 P 0 = some p ∧ codS.rd w8 N 2 = some r.At ∧ w8.cell? ⟨N,4,none⟩ = some (.string (str r.Name)) ∧ w8.cell? ⟨N,37,none⟩ = some (.slice r.A r.n r.c):=by
       have hq:=itAt (Cod.bxd_rd HBX8.out)
       exact ⟨by rw [HK8.out.cell];rfl,hq.node,Cod.bxd_rd HB8.out,hq.At,hq.name,hq.heads⟩
      refine hK.out _ _ hF (fun hA=>?_)
      clear hK K' hc8 hmx8 ho8 hg8 hA8 fg hbs hws3
      iterate 2
       refine wpAnyS_take (v:=?_) hA rfl (fun _ _ _ h=>h) (Or.inl ⟨by rfl,?_⟩) hF (fun hA=>?_)
       rotate_left
       ·intro wS hSw;(try dsimp only at hSw);obtain ⟨s1,s2,s3,s4,s5,s6⟩:=hSw;first | (apply Eq.trans;apply ex_ld_id;exact rfl;exact rfl;assumption;with_reducible rfl) | (apply Eq.trans;apply ex_ldT_at;exact rfl;exact rfl;assumption;with_reducible rfl) | (apply Eq.trans;apply ex_ldS_at;exact rfl;exact rfl;assumption;with_reducible rfl) | (apply Eq.trans;apply ex_bldR5_at;exact rfl;exact rfl;exact rfl;exact rfl;exact rfl;exact rfl;with_reducible rfl) | (go_simp;try with_reducible rfl)
       try simp only [sA1,sA2,sA3,Act.put,sA4,sA5,sA6]
      refine wpAnyS_end hA rfl ?_
      simp only [List.drop_succ_cons,List.drop_zero]
      clear hF keep
      have k1:w8.cell? ⟨L,1,none⟩ = some (.slice B2 ws2.length d2):=by rw [HK8.out.cell];rfl
      have k2:=HK8.out.frozen 1
      have HK9:=Lib.hid (show Blk (w8.setCell ⟨L,1,none⟩ (.slice A8 ws3.length c8)) L 70 [getF X,.slice A8 ws3.length c8,.map (some M)] from HK8.out.set 1 _)
      have fL:Fr (oneB L) w8 (w8.setCell ⟨L,1,none⟩ (.slice A8 ws3.length c8)):=Fr.setCell (M:=oneB L) (Fr.refl _ w8) (p:=⟨L,1,none⟩) (fun _=>rfl) _
      have HFL:=Lib.hid fL
      clear fL
      go_upto_region 8 with fail
      clear k1 k2
      generalize w8.setCell ⟨L,1,none⟩ (.slice A8 ws3.length c8) = w9 at HK9 HFL ⊢
      have HFB9:=Lib.hid (HFB8.out.trans HFL.out fun b _ (h:b = L)=>(.inl h:badL W wr L M b))
      have HBX9:=Lib.hid (Cod.bxd_fr HBX8.out HFL.out (Blk.ne_bl HK8.out (Cod.bxd_blk HBX8.out) (by decide)))
      have HM9:=Lib.hid (mpT_fr HM8.out HFL.out fun (e:M = L)=>HLM.out e.symm)
      have HL9:=Lib.hid (show LdIn W w9 X o L M (acc2 ++ [rowZ p x]) A8 c8 ws3 from by
       refine ⟨HK9.out,own_box HK8.out HO8.out (by decide) HFL.out,?_,⟨l ++ [r.Node],HM9.out,fun y=>?_⟩,HL2.out.bx.fr HFB9.out (fun h=>by have:=bad_ge HL2.out h;have:=HL2.out.xw;omega) fun b hb=>bad_ge HL2.out hb,HL2.out.xw,HL2.out.lw,HL2.out.mw,?_⟩
       ·rw [HW3.out]
        refine (HL2.out.rws.frB HFB9.out).snoc ?_ ?_
        ·have hin:=HIN.out.off HOF.out HFB9.out
         rw [HRW.out]
         exact ⟨by rw [hin.eq];rfl,hin.len,hin.sl,hin.bd,hin.nm,hwf,HP.out⟩
        ·intro hne
         rw [HRW.out]
         exact fun a ha k=>HOF.out hne a ha (bad_fr HFB9.out (hds_lt HIN.out.sl hne a ha) k)
       ·rw [List.mem_append,HML.out,List.map_append,List.mem_append,List.map_singleton,show (rowZ p x).Node = x.Node from rfl,HXN.out]
       ·have:=HL2.out.max;have:=HWL.out;have:=H5.out
        simp only [List.length_append,List.length_singleton]
        omega)
      have HSUB:=Lib.hid (show x.Sub = r.Sub by rw [HIN.out.eq];rfl)
      have HGB:=Lib.hid (show ¬ badZ acc2 x from by
       rintro (h | h | h)
       ·exact HLA.out (HXN.out.symm.trans h)
       ·exact HNI.out (by rw [← HXN.out];exact (HML.out _).2 h)
       ·exact H5.out (by rw [HWL.out];exact h))
      obtain ⟨k,hk⟩:∃ k,j = k + 1:=⟨j - 1,by have:=HJ2.out;have:=HL2.out.max;have:=HWL.out;have:=H5.out;omega⟩
      have CS:=Lib.hid (HS.out k hk w9 r.Node r.Sub _ A8 c8 ws3 hwf HL9.out (by have:=HJ2.out;simp only [List.length_append,List.length_singleton];omega))
      have hq:=itAt (Cod.bxd_rd HBX9.out)
      have q1:=hq.node
      have q2:=hq.sub
      clear hq hk
      go_upto_region 9 with (go_at_call 24;refine CS.out.mono ?_;rintro e w10 ⟨E,acc4,A10,c10,ws10,rfl,hsr,hl10,f10⟩;have HSR2:=Lib.hid hsr;have HL10:=Lib.hid hl10;have HF10:=Lib.hid f10;clear hsr hl10 f10)
      have HFW:=Lib.hid (show Fr (badL W w1 L M) w1 w10 from fr_bad HF2.out (fr_bad HFB9.out HF10.out))
      clear q1 q2
      by_cases hE:E = 0
      ·have HE:=Lib.hid hE
       subst hE
       have wk:wrap64 ((i:Int) + 1) = (i:Int) + 1:=IntWalk.wrap64_in _ (by have:=HKL.out;have:=HRL.out;have:=HG.out.1;omega)
       go_wp2_with fail
       go_roundg (rs.length - (i + 1))
       case measure=>have:=HKL.out;omega
       case rel =>
        refine ⟨i + 1,acc4,A10,c10,ws10,by first | exact congrArg (Value.int .i64) wk | simp,rfl,by have:=HKL.out;omega,fun E acc' hu=>HST.out _ _ ?_,HL10.out,HFW.out,?_,Cod.bxd_fr b00.out HFW.out HPB.out⟩
        ·rw [HDR.out]
         rcases HSR2.out with ⟨h1,_,rfl⟩ | ⟨_,h2,h3,_⟩ | ⟨h1,h2,h3⟩
         ·exact .leaf HGB.out (HSUB.out.trans h1) hu
         ·exact absurd h3.symm h2
         ·exact .sub HGB.out (by rw [HSUB.out];exact h1) (by rw [HSUB.out];exact h2) (by rw [HSUB.out,HXN.out];exact h3) hu
        ·have h1:=HJ2.out
         have h2:acc2.length ≤ acc4.length:=by
          rcases HSR2.out with ⟨h1,_,rfl⟩ | ⟨_,h2,h3,_⟩ | ⟨h1,h2,h3⟩
          ·simp
          ·exact absurd h3.symm h2
          ·have:=und_len h3
           simp only [List.length_append,List.length_singleton] at this
           omega
         omega
      ·have hE':¬ E = 0:=hE
       have HE:=Lib.hid hE
       clear hE
       go_wp2_with fail
       go_ret
       refine ⟨E,acc4,A10,c10,ws10,rfl,HST.out _ _ ?_,HL10.out,fr_bad HF0.out.any HFW.out⟩
       rw [HDR.out]
       rcases HSR2.out with ⟨_,h2,_⟩ | ⟨h1,h2,h3,rfl⟩ | ⟨h1,h2,h3⟩
       ·exact absurd h2 HE.out
       ·rw [h3,← HSUB.out]
        exact .dirE HGB.out (by rw [HSUB.out];exact h1) (by rw [HSUB.out];exact h2)
       ·exact .subE HGB.out (by rw [HSUB.out];exact h1) (by rw [HSUB.out];exact h2) (by rw [HSUB.out,HXN.out];exact h3) HE.out
  ·have i1:¬ (i:Int) < (rs.length:Int):=by omega
   have hd:its.drop i = []:=List.drop_of_length_le (by rw [← HRL.out];omega)
   rw [hd] at HST
   clear hlt hi hd
   go_wp2_with fail
   go_ret
   exact ⟨0,acc2,B2,d2,ws2,rfl,HST.out _ _ .nil,HL2.out,fr_bad HF0.out.any HF2.out⟩
end Go.Proofs.YtnkdnbjmhoegkaaGreat
