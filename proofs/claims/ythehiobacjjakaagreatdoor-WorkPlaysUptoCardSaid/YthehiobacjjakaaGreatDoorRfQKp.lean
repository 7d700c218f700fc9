/- Contract: pollardref17.Shown. Contract: pollardref17.path. (ex_ldS_at ex_ldR_at) Plain: the name that the reference shows is the one that work shows. -/
import Derived.Test.YthehiobacjjakaaGreatDoorRfAKp
import Derived.Test.YthehiobacjjakaaGreatDoorR12Kp
import Derived.Test.YthehiobacjjakaaGreatDoorWkCKp
import Derived.Deep.CutRange
import Derived.Test.YthehiobacjjakaaGreatDoorLsPKp
set_option linter.unusedVariables false
set_option linter.unusedSimpArgs false
namespace Go.Proofs.YthehiobacjjakaaGreatDoor
open Go.RowKit
theorem decZ_any (w:World) (z:Int) (h:0 ≤ z ∧ z ≤ 9223372036854775807):Calls Tryz.prog 92 #[.int .i64 z] w (Gives w (.string (str (Lib.itoa z)))):=by
 obtain ⟨m,rfl⟩:∃ m:Nat,z = (m:Int):=⟨z.toNat,by omega⟩
 rw [itoa_pos (by omega)]
 exact r17decimal_any w m (by omega)
def olderR (x y:RwP):Bool:=decide (y.Parent = x.Parent) && (decide (y.Name = x.Name) && decide (cmpS y.Node x.Node = -1))
def shownR (xs:List RwP) (x:RwP):List UInt8:=if x.Name.contains 126 || xs.any (olderR x) then x.Name ++ sfxD x.Node else x.Name
def ShR (W:World) (xs:List RwP) (x:RwP) (ct:Bool) (N gk:Nat) (tv iv:Value) (wr:World):Prop :=
 ∃ k:Nat,iv = .int .i64 (k:Int) ∧ tv = .bool (ct || (xs.take k).any (olderR x)) ∧ gk = N - k ∧ k ≤ N ∧ Fr noB W wr
set_option maxRecDepth 100000 in
set_option maxHeartbeats 2000000 in
theorem rshown_any (w:World) (A:Option Addr) (c n:Nat) (rs:List RwW) (xs:List RwP) (hn:rs.length = n) (hs:Sl w A (codR.row rs)) (hb:rs.length ≤ 1000000) (hX:RwsIn w rs xs) (r:RwW) (x:RwP) (hx:RwIn w r x)
  (hT:0 ≤ x.Node.T ∧ x.Node.T ≤ 9223372036854775807) (hR:0 ≤ x.Node.R ∧ x.Node.R ≤ 9223372036854775807) :
  Calls Tryz.prog 67 #[.slice A n c,.agg (codR.A r)] w (Gives w (.string (str (shownR xs x)))):=by
 subst hn
 have HLX:=Lib.hid hX.len
 have f0:Fr noB w (w.alloc (.cells (codR.A r) 60)):=(Fr.refl noB w).alloc _
 have q0:=rwAt (Cod.rd_new (C:=codR) w 60 r)
 have qn:=q0.name
 have qk:=q0.node
 have qp:=q0.parent
 rw [← hx.name] at qn
 rw [← hx.node] at qk
 rw [← hx.parent] at qp
 have HNM:=Lib.hid (show x.Name.length ≤ 140737488355328 by rw [hx.name];exact hx.nm)
 have HW:=Lib.hid (And.intro hT hR)
 have HSH:=Lib.hid (show shownR xs x = if x.Name.contains 126 || xs.any (olderR x) then x.Name ++ sfxD x.Node else x.Name from rfl)
 generalize shownR xs x = res at HSH ⊢
 have HS:=Lib.hid (hs.fr0 f0)
 have HX:=Lib.hid (hX.fr f0)
 have HLB:=Lib.hid hb
 clear hs hX hx hT hR hb q0
 go_enter Tryz.func67,Tryz.ntmps67
 go_upto_region 1 with fail
 generalize w.alloc (.cells (codR.A r) 60) = W0 at f0 qn qk qp HS HX ⊢
 generalize w.heap.size = P at qn qk qp ⊢
 have QN:=Lib.hid qn
 have QK:=Lib.hid qk
 have QP:=Lib.hid qp
 have F0:=Lib.hid f0
 clear f0 qk qp
 obtain ⟨ct,hct⟩:∃ ct,x.Name.contains 126 = ct:=⟨_,rfl⟩
 have TA:=r17tilde_any W0 x.Name HNM.out
 rw [hct] at TA HSH
 replace TA:=Lib.hid TA
 clear hct
 go_upto_region 2 with (go_at_call 32;refine TA.out.mono ?_;rintro e w1 ⟨rfl,f1⟩)
 have F1:=Lib.hid f1
 have H0:=Lib.hid (show ShR W0 xs x ct rs.length rs.length (.bool ct) (.int .i64 ((0:Nat):Int)) w1 from ⟨0,rfl,by simp,rfl,Nat.zero_le _,f1⟩)
 clear f1 qn
 go_wp2_with fail
 go_loopg [5,6] rs.length (fun gk tv iv wr=>ShR W0 xs x ct rs.length gk tv iv wr)
 case atStart=>exact H0.out
 case round =>
  clear H0
  obtain ⟨k,rfl,rfl,rfl,hk,hf⟩:=hrel
  have HF:=Lib.hid hf
  clear hf
  by_cases hlt:k < rs.length
  ·have i1:(k:Int) < (rs.length:Int):=by omega
   have i0:(0:Int) ≤ (k:Int):=by omega
   obtain ⟨g,off,rfl,hg⟩:=HS.out.adC (by omega)
   have hlx:k < xs.length:=by rw [← HLX.out];exact hlt
   have hin:=HX.out.at_ k hlt hlx
   have ro:codR.rd wr g (off + k * 8) = some rs[k]:=(HS.out.fr0 HF.out).rd k hlt
   have HTK:=Lib.hid (show (xs.take (k + 1)).any (olderR x) = ((xs.take k).any (olderR x) || olderR x xs[k]) by rw [List.take_succ_eq_append_getElem hlx,List.any_append];simp)
   have hyn:=hin.node
   have hyp:=hin.parent
   have hym:=hin.name
   generalize xs[k] = y at hyn hyp hym HTK hin
   generalize rs[k] = ry at hyn hyp hym ro hin
   have HLT:=Lib.hid hlt
   clear hlt hlx hk hin
   have f2:Fr noB wr (wr.alloc (codR.o ry)):=(Fr.refl noB wr).alloc _
   have q2:=rwAt (Cod.rd_new' (C:=codR) wr ry)
   have ym:=q2.name
   have yk:=q2.node
   have yp:=q2.parent
   rw [← hym] at ym
   rw [← hyn] at yk
   rw [← hyp] at yp
   clear hym hyn hyp q2
   go_upto_region 6 with fail
   have HF2:=Lib.hid (HF.out.step0 f2)
   have qn:=cell_fr0 QN.out HF2.out
   have qk:=Cod.rd_fr0 QK.out HF2.out
   have qp:=Cod.rd_fr0 QP.out HF2.out
   clear ro f2
   generalize wr.alloc (codR.o ry) = w2 at HF2 qn qk qp ym yk yp ⊢
   generalize wr.heap.size = Q at ym yk yp ⊢
   have HWK:=Lib.hid (IntWalk.wrap64_in ((k:Int) + 1) (by have:=HLB.out;have:=HLT.out;omega))
   have HTB:∀ b,((xs.take k).any (olderR x)) = b → (ct || (xs.take (k + 1)).any (olderR x)) = (ct || b || olderR x y):=fun b hb=>by rw [HTK.out,hb,Bool.or_assoc]
   have HTB:=Lib.hid HTB
   generalize hta:(xs.take k).any (olderR x) = tk
   have HTN:=Lib.hid (HTB.out tk hta)
   clear hta
   generalize hcb:(ct || tk) = t at HTN ⊢
   clear hcb
   have HOL:=Lib.hid (show olderR x y = (decide (y.Parent = x.Parent) && (decide (y.Name = x.Name) && decide (cmpS y.Node x.Node = -1))) from rfl)
   have HRG:=Lib.hid (fun (w':World) (f:Fr noB w2 w') (tv:Value) (e:tv = .bool (ct || (xs.take (k + 1)).any (olderR x)))=>(show ShR W0 xs x ct rs.length (rs.length - (k + 1)) tv (.int .i64 ((k:Int) + 1)) w' from ⟨k + 1,rfl,e,rfl,by have:=HLT.out;omega,HF2.out.step0 f⟩))
   cases t with
   | true =>
    go_wp2_with fail
    go_roundg (rs.length - (k + 1))
    case measure=>have:=HLT.out;omega
    case rel=>have hfin:=HRG.out _ (Fr.refl _ _) (.bool true) (by rw [HTN.out];rfl);rw [← HWK.out] at hfin;exact hfin
   | false =>
    rw [Bool.false_or,HOL.out] at HTN
    by_cases hpe:y.Parent = x.Parent
    ·rw [hpe] at yp
     rw [decide_eq_true hpe,Bool.true_and] at HTN
     by_cases hme:y.Name = x.Name
     ·have hb:((str y.Name).toList == (str x.Name).toList) = true:=by rw [hme];exact beq_self_eq_true _
      rw [decide_eq_true hme,Bool.true_and] at HTN
      obtain ⟨z,hz⟩:∃ z,z = cmpS y.Node x.Node:=⟨_,rfl⟩
      have CM:=r3cmp_any w2 y.Node x.Node
      rw [← hz] at HTN CM
      clear hz
      have CM:=Lib.hid CM
      by_cases hzz:z = -1
      ·have HZ:=Lib.hid hzz
       subst hzz
       clear hpe hme
       go_wp2_with (go_at_call 50;refine CM.out.mono ?_;rintro e w3 ⟨rfl,f3⟩)
       go_roundg (rs.length - (k + 1))
       case measure=>have:=HLT.out;omega
       case rel=>have hfin:=HRG.out _ f3 (.bool true) (by rw [HTN.out,decide_eq_true HZ.out]);rw [← HWK.out] at hfin;exact hfin
      ·have hz1:(z == -1) = false:=by simp [hzz]
       have HZ:=Lib.hid hzz
       clear hpe hme
       go_wp2_with (go_at_call 50;refine CM.out.mono ?_;rintro e w3 ⟨rfl,f3⟩)
       go_roundg (rs.length - (k + 1))
       case measure=>have:=HLT.out;omega
       case rel=>have hfin:=HRG.out _ f3 (.bool false) (by rw [HTN.out,decide_eq_false HZ.out]);rw [← HWK.out] at hfin;exact hfin
     ·have hb:((str y.Name).toList == (str x.Name).toList) = false:=by rw [beq_eq_false_iff_ne];intro e;rw [str_toList,str_toList] at e;exact hme e
      rw [decide_eq_false hme,Bool.false_and] at HTN
      clear hpe hme
      go_wp2_with fail
      go_roundg (rs.length - (k + 1))
      case measure=>have:=HLT.out;omega
      case rel=>have hfin:=HRG.out _ (Fr.refl _ _) (.bool false) (by rw [HTN.out]);rw [← HWK.out] at hfin;exact hfin
    ·rw [decide_eq_false hpe,Bool.false_and] at HTN
     go_wp2_with fail
     go_roundg (rs.length - (k + 1))
     case measure=>have:=HLT.out;omega
     case rel=>have hfin:=HRG.out _ (Fr.refl _ _) (.bool false) (by rw [HTN.out]);rw [← HWK.out] at hfin;exact hfin
  ·have hke:k = rs.length:=by omega
   have i1:¬ (k:Int) < (rs.length:Int):=by omega
   have htk:xs.take k = xs:=List.take_of_length_le (by have:=HLX.out;omega)
   rw [htk]
   generalize hta:(ct || xs.any (olderR x)) = ta at HSH ⊢
   have FN:=Lib.hid (F0.out.step0 HF.out)
   have qn:=cell_fr0 QN.out HF.out
   have qk:=Cod.rd_fr0 QK.out HF.out
   clear hta htk hke hlt hk
   cases ta with
   | false =>
    have HRES:=Lib.hid (show res = x.Name by rw [HSH.out];simp)
    clear qk
    go_wp2_with fail
    go_ret
    exact ⟨by rw [HRES.out];rfl,FN.out⟩
   | true =>
    have HRES:=Lib.hid (show res = x.Name ++ sfxD x.Node by rw [HSH.out];simp)
    have HNS:x.Name ++ sfxD x.Node = ((((x.Name ++ [126]) ++ Lib.itoa x.Node.T) ++ [46]) ++ Lib.itoa x.Node.R):=by unfold sfxD;simp
    have HN:=Lib.hid HNS
    clear HNS
    go_upto_region 9 with fail
    have c0:wr.cell? ⟨P,0,none⟩ = some (.int .i64 x.Node.T):=by simpa using Cod.rd_cell qk 0 (v:=.int .i64 x.Node.T) rfl
    have c1:wr.cell? ⟨P,1,none⟩ = some (.int .i64 x.Node.R):=by simpa using Cod.rd_cell qk 1 (v:=.int .i64 x.Node.R) rfl
    have fd:Fr noB wr wr.drew:=(Fr.refl noB _).drew
    have keep:∀ w' w'':World,Fr noB w' w'' → (w'.cell? ⟨P,6,none⟩ = some (.string (str x.Name)) ∧ w'.cell? ⟨P,0,none⟩ = some (.int .i64 x.Node.T) ∧ w'.cell? ⟨P,1,none⟩ = some (.int .i64 x.Node.R)) → (w''.cell? ⟨P,6,none⟩ = some (.string (str x.Name)) ∧ w''.cell? ⟨P,0,none⟩ = some (.int .i64 x.Node.T) ∧ w''.cell? ⟨P,1,none⟩ = some (.int .i64 x.Node.R)):=fun w' w'' f h=>⟨cell_fr0 h.1 f,cell_fr0 h.2.1 f,cell_fr0 h.2.2 f⟩
    have hF0:=keep wr wr.drew fd ⟨qn,c0,c1⟩
    have FD:=Lib.hid (FN.out.step0 fd)
    clear qn qk c0 c1 fd
    refine wp_region_M 14 15 [⟨281474976710656,8,0⟩,⟨562949953421312,281474976710656,1⟩,⟨1125899906842624,562949953421312,2⟩,⟨2251799813685248,8,0⟩,⟨4503599627370496,2251799813685248,8⟩,⟨9007199254740992,4503599627370496,16⟩,⟨18014398509481984,9007199254740992,32⟩,⟨36028797018963968,19140298416324608,68⟩,⟨72057594037927936,36028797018963968,128⟩,⟨144115188075855872,8,0⟩,⟨288230376151711744,144115188075855872,512⟩,⟨576460752303423488,288230376151711744,1024⟩,⟨1152921504606846976,576460752303423488,2112⟩,⟨2305843009213693952,1224979098644774912,4352⟩,⟨16,2305843009213693952,16383⟩] [(true,0),(true,1),(true,2),(true,3),(true,4),(true,5),(true,9),(true,10),(true,11),(false,6),(true,7),(true,8),(false,12),(true,13)] (fun w'=>w'.cell? ⟨P,6,none⟩ = some (.string (str x.Name)) ∧ w'.cell? ⟨P,0,none⟩ = some (.int .i64 x.Node.T) ∧ w'.cell? ⟨P,1,none⟩ = some (.int .i64 x.Node.R)) (by kernel_rfl) rfl (by kernel_rfl) (by kernel_rfl) (by kernel_rfl) hF0 (fun hA hF=>?_)
    clear hF0
    generalize wr.drew = V at hF FD ⊢
    have L1:=Lib.itoa_length_le x.Node.T (by have:=HW.out;omega) (by have:=HW.out;omega)
    have L2:=Lib.itoa_length_le x.Node.R (by have:=HW.out;omega) (by have:=HW.out;omega)
    have z1:(str x.Name).size + (⟨#[126]⟩:ByteArray).size ≤ 9223372036854775807:=by rw [sz_str];have:=HNM.out;show _ + 1 ≤ _;omega
    have z2:(str x.Name ++ ⟨#[126]⟩:ByteArray).size + (str (Lib.itoa x.Node.T)).size ≤ 9223372036854775807:=by rw [ByteArray.size_append,sz_str,sz_str];have:=HNM.out;show _ + 1 + _ ≤ _;omega
    have z3:(str x.Name ++ ⟨#[126]⟩ ++ str (Lib.itoa x.Node.T):ByteArray).size + (⟨#[46]⟩:ByteArray).size ≤ 9223372036854775807:=by rw [ByteArray.size_append,ByteArray.size_append,sz_str,sz_str];have:=HNM.out;show _ + 1 + _ + 1 ≤ _;omega
    have z4:(str x.Name ++ ⟨#[126]⟩ ++ str (Lib.itoa x.Node.T) ++ ⟨#[46]⟩:ByteArray).size + (str (Lib.itoa x.Node.R)).size ≤ 9223372036854775807:=by rw [ByteArray.size_append,ByteArray.size_append,ByteArray.size_append,sz_str,sz_str,sz_str];have:=HNM.out;show _ + 1 + _ + 1 + _ ≤ _;omega
    have ZZ:=Lib.hid (And.intro z1 (And.intro z2 (And.intro z3 z4)))
    clear z1 z2 z3 z4 L1 L2
    iterate 2
     refine wpAnyS_take (v:=?_) hA rfl (fun _ _ _ h=>h) (Or.inl ⟨by rfl,?_⟩) hF (fun hA=>?_)
     rotate_left
     ·intro wS hSw;(try dsimp only at hSw);obtain ⟨s1,s2,s3⟩:=hSw;(go_simp;try with_reducible rfl)
     try simp only [sA1,sA2,sA3,Act.put,sA4,sA5,sA6]
    refine wpAnyS_take (v:=.string (str x.Name ++ ⟨#[126]⟩)) hA rfl (fun _ _ _ h=>h) (Or.inl ⟨by rfl,fun wS hSw=>ex_sadd_at rfl rfl rfl ZZ.out.1⟩) hF (fun hA=>?_)
    try simp only [sA1,sA2,sA3,Act.put,sA4,sA5,sA6]
    iterate 6
     refine wpAnyS_take (v:=?_) hA rfl (fun _ _ _ h=>h) (Or.inl ⟨by rfl,?_⟩) hF (fun hA=>?_)
     rotate_left
     ·intro wS hSw;(try dsimp only at hSw);obtain ⟨s1,s2,s3⟩:=hSw;(go_simp;try with_reducible rfl)
     try simp only [sA1,sA2,sA3,Act.put,sA4,sA5,sA6]
    refine wpAnyS_one hA rfl (fun K' hK=>?_)
    go_simp
    go_at_call 92
    refine (decZ_any V x.Node.T HW.out.1).mono ?_
    rintro e w5 ⟨rfl,f5⟩
    replace hF:=keep _ _ f5 hF
    refine hK.out _ _ hF (fun hA=>?_)
    clear hK K'
    try simp only [sA1,sA2,sA3,Act.put,sA4,sA5,sA6]
    refine wpAnyS_take (v:=.string ((str x.Name ++ ⟨#[126]⟩) ++ str (Lib.itoa x.Node.T))) hA rfl (fun _ _ _ h=>h) (Or.inl ⟨by rfl,fun wS hSw=>ex_sadd_at rfl rfl rfl ZZ.out.2.1⟩) hF (fun hA=>?_)
    try simp only [sA1,sA2,sA3,Act.put,sA4,sA5,sA6]
    refine wpAnyS_take (v:=.string ((str x.Name ++ ⟨#[126]⟩ ++ str (Lib.itoa x.Node.T)) ++ ⟨#[46]⟩)) hA rfl (fun _ _ _ h=>h) (Or.inl ⟨by rfl,fun wS hSw=>ex_sadd_at rfl rfl rfl ZZ.out.2.2.1⟩) hF (fun hA=>?_)
    try simp only [sA1,sA2,sA3,Act.put,sA4,sA5,sA6]
    refine wpAnyS_one hA rfl (fun K' hK=>?_)
    go_simp
    go_at_call 92
    refine (decZ_any w5 x.Node.R HW.out.2).mono ?_
    rintro e w6 ⟨rfl,f6⟩
    replace hF:=keep _ _ f6 hF
    refine hK.out _ _ hF (fun hA=>?_)
    clear hK K'
    try simp only [sA1,sA2,sA3,Act.put,sA4,sA5,sA6]
    refine wpAnyS_take (v:=.string ((str x.Name ++ ⟨#[126]⟩ ++ str (Lib.itoa x.Node.T) ++ ⟨#[46]⟩) ++ str (Lib.itoa x.Node.R))) hA rfl (fun _ _ _ h=>h) (Or.inl ⟨by rfl,fun wS hSw=>ex_sadd_at rfl rfl rfl ZZ.out.2.2.2⟩) hF (fun hA=>?_)
    try simp only [sA1,sA2,sA3,Act.put,sA4,sA5,sA6]
    refine wpAnyS_end hA rfl ?_
    simp only [List.drop_succ_cons,List.drop_zero]
    go_wp2_with fail
    go_ret
    refine ⟨?_,FD.out.step0 (f5.step0 f6)⟩
    rw [HRES.out,HN.out,← str_appW,← str_appW,← str_appW,← str_appW]
    rfl
inductive PathOf (xs:List RwP):RwP → List UInt8 → Prop
 | root {x:RwP}:x ∈ xs → x.Parent = zSt → PathOf xs x (shownR xs x)
 | kid {x y:RwP} {p:List UInt8}:x ∈ xs → x.Parent ≠ zSt → findR xs x.Parent = some y → PathOf xs y p → (p ++ 47 :: shownR xs x).length ≤ 1000000000 → PathOf xs x (p ++ 47 :: shownR xs x)
def NodesOk (xs:List RwP):Prop:=∀ x ∈ xs,(0 ≤ x.Node.T ∧ x.Node.T ≤ 9223372036854775807) ∧ (0 ≤ x.Node.R ∧ x.Node.R ≤ 9223372036854775807)
set_option maxRecDepth 100000 in
set_option maxHeartbeats 2000000 in
theorem rpath_any {W:World} {A:Option Addr} {c:Nat} {rs:List RwW} {xs:List RwP} (hs:Sl W A (codR.row rs)) (hb:rs.length ≤ 1000000) (hX:RwsIn W rs xs) (hok:NodesOk xs) {x:RwP} {p:List UInt8} (hp:PathOf xs x p) :
  ∀ (w:World),Fr noB W w → ∀ (r:RwW),RwIn w r x → Calls Tryz.prog 46 #[.slice A rs.length c,.agg (codR.A r)] w (Gives w (.string (str p))):=by
 induction hp with
 | @root x hm hz =>
  intro w hf r hr
  have f0:Fr noB w (w.alloc (.cells (codR.A r) 60)):=(Fr.refl noB w).alloc _
  have q0:=Cod.rd_new (C:=codR) w 60 r
  have qp:=(rwAt q0).parent
  rw [← hr.parent,hz] at qp
  have SH:=Lib.hid (rshown_any (w.alloc (.cells (codR.A r) 60)) A c rs.length rs xs rfl ((hs.fr0 hf).fr0 f0) hb ((hX.fr hf).fr f0) r x (hr.fr f0) (hok x hm).1 (hok x hm).2)
  clear hm hz
  go_enter Tryz.func46,Tryz.ntmps46
  go_upto_region 1 with fail
  generalize w.alloc (.cells (codR.A r) 60) = w1 at f0 q0 qp SH ⊢
  go_wp2_with (go_at_call 67;refine SH.out.mono ?_;rintro e w2 ⟨rfl,f2⟩)
  go_ret
  exact ⟨rfl,f0.step0 f2⟩
 | @kid x y p hm hz hy hpy hl ih =>
  intro w hf r hr
  have f0:Fr noB w (w.alloc (.cells (codR.A r) 60)):=(Fr.refl noB w).alloc _
  have q0:=Cod.rd_new (C:=codR) w 60 r
  have qp:=(rwAt q0).parent
  rw [← hr.parent] at qp
  obtain ⟨i,hi,e1,e2⟩:∃ (i:Nat) (h:i < xs.length),xs[i] = y ∧ idxR xs x.Parent = (i:Int):=by
   rcases idxR_find xs x.Parent with ⟨h1,_⟩ | ⟨i,h,h1,h2⟩
   ·rw [h1] at hy;cases hy
   ·rw [h1] at hy;injection hy with hy;exact ⟨i,h,hy,h2⟩
  have hir:i < rs.length:=by rw [hX.len];exact hi
  have hin:=hX.at_ i hir hi
  rw [e1] at hin
  obtain ⟨g,off,rfl,hg⟩:=hs.adC (by omega)
  have ro:codR.rd W g (off + i * 8) = some rs[i]:=hs.rd i hir
  generalize rs[i] = ry at hin ro
  have SH:=Lib.hid (fun w' (f:Fr noB w w')=>rshown_any w' (some ⟨g,off,none⟩) c rs.length rs xs rfl ((hs.fr0 hf).fr0 f) hb ((hX.fr hf).fr f) r x (hr.fr f) (hok x hm).1 (hok x hm).2)
  have FI:=Lib.hid (fun w' (f:Fr noB w w')=>r12find_any w' (some ⟨g,off,none⟩) c rs.length rs xs rfl ((hs.fr0 hf).fr0 f) (by omega) ((hX.fr hf).fr f) x.Parent)
  rw [e2] at FI
  have IH:=Lib.hid (fun w' (f:Fr noB w w')=>ih w' (hf.step0 f) ry (hin.fr (hf.step0 f)))
  have j1:(0:Int) ≤ (i:Int):=by omega
  have j2:(i:Int) < (rs.length:Int):=by omega
  have hf01:=hf.step0 f0
  have ro1:=Cod.rd_fr0 ro hf01
  have F0:=Lib.hid f0
  generalize hsh:shownR xs x = sh at hl SH ⊢
  have HL:=Lib.hid hl
  clear hs hb hX hok hy hpy ih hin hg ro hir hi e1 e2 hr hm hf hf01 hsh hl
  go_enter Tryz.func46,Tryz.ntmps46
  go_upto_region 1 with fail
  generalize w.alloc (.cells (codR.A r) 60) = w1 at f0 q0 qp ro1 F0 ⊢
  generalize w.heap.size = P at q0 qp ⊢
  go_upto_region 3 with fail
  have fd:Fr noB w1 w1.drew:=(Fr.refl noB _).drew
  have keep:∀ w' w'':World,Fr noB w' w'' → (codR.rd w' P 0 = some r ∧ codS.rd w' P 2 = some x.Parent ∧ codR.rd w' g (off + i * 8) = some ry) → (codR.rd w'' P 0 = some r ∧ codS.rd w'' P 2 = some x.Parent ∧ codR.rd w'' g (off + i * 8) = some ry):=fun w' w'' f h=>⟨Cod.rd_fr0 h.1 f,Cod.rd_fr0 h.2.1 f,Cod.rd_fr0 h.2.2 f⟩
  have hF0:=keep w1 w1.drew fd ⟨q0,qp,ro1⟩
  have FD:=Lib.hid (F0.out.step0 fd)
  clear q0 qp ro1 fd f0
  refine wp_region_M 14 15 [⟨4096,1,0⟩,⟨8192,1,0⟩,⟨16384,1,0⟩,⟨32768,8,0⟩,⟨65536,32768,8⟩,⟨131072,81920,20⟩,⟨262144,139264,34⟩,⟨524288,262144,64⟩,⟨1048576,528384,161⟩,⟨2097152,1048576,256⟩,⟨4194304,1,0⟩,⟨8388608,8,0⟩,⟨16777216,12582912,3328⟩,⟨33554432,18874368,4608⟩,⟨16,33554432,16383⟩] [(true,0),(true,1),(true,2),(true,3),(true,4),(true,10),(true,11),(false,5),(true,6),(true,7),(false,8),(true,9),(false,12),(true,13)] (fun w'=>codR.rd w' P 0 = some r ∧ codS.rd w' P 2 = some x.Parent ∧ codR.rd w' g (off + i * 8) = some ry) (by kernel_rfl) rfl (by kernel_rfl) (by kernel_rfl) (by kernel_rfl) hF0 (fun hA hF=>?_)
  clear hF0
  generalize w1.drew = V at hF FD ⊢
  have z1:(str p).size + (⟨#[47]⟩:ByteArray).size ≤ 9223372036854775807:=by rw [sz_str];have:=HL.out;simp only [List.length_append,List.length_cons] at this;show _ + 1 ≤ _;omega
  have z2:(str p ++ ⟨#[47]⟩:ByteArray).size + (str sh).size ≤ 9223372036854775807:=by rw [ByteArray.size_append,sz_str,sz_str];have:=HL.out;simp only [List.length_append,List.length_cons] at this;show _ + 1 + _ ≤ _;omega
  have ZZ:=Lib.hid (And.intro z1 z2)
  clear z1 z2
  iterate 7
   refine wpAnyS_take (v:=?_) hA rfl (fun _ _ _ h=>h) (Or.inl ⟨by rfl,?_⟩) hF (fun hA=>?_)
   rotate_left
   ·intro wS hSw;(try dsimp only at hSw);obtain ⟨s1,s2,s3⟩:=hSw;first | (apply Eq.trans;apply ex_ldR_at;exact rfl;exact rfl;assumption;with_reducible rfl) | (apply Eq.trans;apply ex_ldS_at;exact rfl;exact rfl;assumption;with_reducible rfl) | (go_simp;try with_reducible rfl)
   try simp only [sA1,sA2,sA3,Act.put,sA4,sA5,sA6]
  refine wpAnyS_one hA rfl (fun K' hK=>?_)
  go_simp
  go_at_call 66
  refine (FI.out V FD.out).mono ?_
  rintro e w5 ⟨rfl,f5⟩
  replace hF:=keep _ _ f5 hF
  refine hK.out _ _ hF (fun hA=>?_)
  clear hK K'
  try simp only [sA1,sA2,sA3,Act.put,sA4,sA5,sA6]
  iterate 2
   refine wpAnyS_take (v:=?_) hA rfl (fun _ _ _ h=>h) (Or.inl ⟨by rfl,?_⟩) hF (fun hA=>?_)
   rotate_left
   ·intro wS hSw;(try dsimp only at hSw);obtain ⟨s1,s2,s3⟩:=hSw;first | (apply Eq.trans;apply ex_ldR_at;exact rfl;exact rfl;assumption;with_reducible rfl) | (apply Eq.trans;apply ex_ldS_at;exact rfl;exact rfl;assumption;with_reducible rfl) | (go_simp;try with_reducible rfl)
   try simp only [sA1,sA2,sA3,Act.put,sA4,sA5,sA6]
  refine wpAnyS_one hA rfl (fun K' hK=>?_)
  go_simp
  go_at_call 46
  refine (IH.out w5 (FD.out.step0 f5)).mono ?_
  rintro e w6 ⟨rfl,f6⟩
  replace hF:=keep _ _ f6 hF
  refine hK.out _ _ hF (fun hA=>?_)
  clear hK K'
  try simp only [sA1,sA2,sA3,Act.put,sA4,sA5,sA6]
  refine wpAnyS_take (v:=.string (str p ++ ⟨#[47]⟩)) hA rfl (fun _ _ _ h=>h) (Or.inl ⟨by rfl,fun wS hSw=>ex_sadd_at rfl rfl rfl ZZ.out.1⟩) hF (fun hA=>?_)
  try simp only [sA1,sA2,sA3,Act.put,sA4,sA5,sA6]
  refine wpAnyS_one hA rfl (fun K' hK=>?_)
  go_simp
  go_at_call 67
  refine (SH.out w6 ((FD.out.step0 f5).step0 f6)).mono ?_
  rintro e w7 ⟨rfl,f7⟩
  replace hF:=keep _ _ f7 hF
  refine hK.out _ _ hF (fun hA=>?_)
  clear hK K'
  try simp only [sA1,sA2,sA3,Act.put,sA4,sA5,sA6]
  refine wpAnyS_take (v:=.string ((str p ++ ⟨#[47]⟩) ++ str sh)) hA rfl (fun _ _ _ h=>h) (Or.inl ⟨by rfl,fun wS hSw=>ex_sadd_at rfl rfl rfl ZZ.out.2⟩) hF (fun hA=>?_)
  try simp only [sA1,sA2,sA3,Act.put,sA4,sA5,sA6]
  refine wpAnyS_end hA rfl ?_
  simp only [List.drop_succ_cons,List.drop_zero]
  go_wp2_with fail
  go_ret
  refine ⟨?_,FD.out.step0 (f5.step0 (f6.step0 f7))⟩
  rw [show p ++ 47 :: sh = (p ++ [47]) ++ sh by simp,← str_appW,← str_appW]
  rfl
theorem kid_idx {xs:List RwP} {p:St} {x:RwP} (hx:x ∈ xs) (hp:x.Parent = p):∃ i,∃ h:i < (kidsD xs p).length,(kidsD xs p)[i] = x:=by
 have:x ∈ kidsD xs p:=List.mem_filter.2 ⟨hx,by simp [hp]⟩
 obtain ⟨i,hi,e⟩:=List.getElem_of_mem this
 exact ⟨i,hi,e⟩
theorem shownR_eq {xs:List RwP} (h:TreeOk xs) {p:St} {i:Nat} (hi:i < (kidsD xs p).length):shownR xs (kidsD xs p)[i] = shownD (kidsD xs p) i (kidsD xs p)[i]:=by
 have hp:=riseR_pw h.rise
 have hk:(kidsD xs p).Pairwise (fun a b=>cmpS a.Node b.Node < 0):=hp.filter _
 have e:xs.any (olderR (kidsD xs p)[i]) = ((kidsD xs p).take i).any (fun x=>decide (x.Name = (kidsD xs p)[i].Name)):=by
  rw [Bool.eq_iff_iff,List.any_eq_true,List.any_eq_true]
  constructor
  ·rintro ⟨y,hy,ho⟩
   unfold olderR at ho
   simp only [Bool.and_eq_true,decide_eq_true_eq] at ho
   obtain ⟨h1,h2,h3⟩:=ho
   rw [(kids_in hi).2] at h1
   obtain ⟨j,hj,ej⟩:=kid_idx hy h1
   refine ⟨y,?_,by simpa using h2⟩
   rw [List.mem_take_iff_getElem]
   have hji:j < i:=by
    rcases Nat.lt_trichotomy j i with h | h | h
    ·exact h
    ·subst h
     rw [ej,cmpS_self] at h3
     cases h3
    ·have:=List.pairwise_iff_getElem.1 hk i j hi hj h
     rw [ej] at this
     have h4:=cmpS_flip (kidsD xs p)[i].Node y.Node
     omega
   exact ⟨j,by omega,ej⟩
  ·rintro ⟨y,hy,hn⟩
   rw [List.mem_take_iff_getElem] at hy
   obtain ⟨j,hj,rfl⟩:=hy
   have hjl:j < (kidsD xs p).length:=by omega
   refine ⟨_,(kids_in hjl).1,?_⟩
   unfold olderR
   have h1:=List.pairwise_iff_getElem.1 hk j i hjl hi (by omega)
   have h2:=cmpS_vals (kidsD xs p)[j].Node (kidsD xs p)[i].Node
   simp only [Bool.and_eq_true,decide_eq_true_eq]
   exact ⟨by rw [(kids_in hi).2,(kids_in hjl).2],by simpa using hn,by omega⟩
 unfold shownR shownD twiceD
 rw [e,Bool.or_comm]
end Go.Proofs.YthehiobacjjakaaGreatDoor
