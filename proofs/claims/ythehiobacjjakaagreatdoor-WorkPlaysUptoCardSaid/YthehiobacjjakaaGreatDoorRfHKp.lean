/- Contracts: pollardref17 New, room; a Draft of the reference as a value. (ex_ldS_at ex_ldR_at) Contract: pollardref17.room. (ex_ldS_at ex_ldR_at) Contract: pollardref17.step. (ex_ldS_at ex_ldR_at) -/
import Derived.Test.YthehiobacjjakaaGreatDoorRfEKp
import Derived.Test.YthehiobacjjakaaGreatDoorR13RKp
import Derived.Test.YthehiobacjjakaaGreatDoorWlBKp
import Derived.Test.YthehiobacjjakaaGreatDoorRfQKp
set_option linter.unusedVariables false
set_option linter.unusedSimpArgs false
namespace Go.Proofs.YthehiobacjjakaaGreatDoor
open Go.RowKit Go.Maps Go.Sort
def codDv:Cod DfW:=⟨30,3,csDf,zDfW,fun x=>rfl,by decide,fun x u hu=>by
  simp only [csDf,List.mem_cons,List.not_mem_nil,or_false] at hu
  rcases hu with rfl | rfl | rfl <;> rfl,fun x y h=>by
 obtain ⟨A,n,c,⟨t,r⟩⟩:=x;obtain ⟨A',n',c',⟨t',r'⟩⟩:=y
 simp only [csDf,List.cons.injEq,Value.slice.injEq,Value.int.injEq,and_true,true_and] at h
 obtain ⟨⟨rfl,h1,h2⟩,rfl,rfl⟩:=h
 have e1:n = n':=by omega
 have e2:c = c':=by omega
 subst e1 e2
 rfl⟩
theorem okDv:CodOk Tryz.prog codDv:=⟨⟨_,Tryz.underlying30,rfl⟩,by kernel_rfl,fun w=>(zero_of_info (P:=Tryz.prog) (t:=30) (v:=.agg (codDv.cs codDv.z).toArray) (n:=3) (by kernel_rfl)).1 w⟩
@[simp ↓] theorem ex_ldDv (ρ:Operand → Value) (d:Option Nat) (a:Operand) (t:TypeId) (p:String) (f:Array Edge) (g:Option (Nat × Bool)) (w:World) :
  (execOp ρ { dst:=d,op:=.load 30 a,type:=t,pos:=p,after:=f,guard:=g }).run Tryz.prog w = codDv.ldR w (ρ a) (exElse ρ { dst:=d,op:=.load 30 a,type:=t,pos:=p,after:=f,guard:=g } w):=okDv.ldOp ρ _ a rfl w
@[simp ↓] theorem ex_alDv (ρ:Operand → Value) (d:Option Nat) (t:TypeId) (p:String) (f:Array Edge) (g:Option (Nat × Bool)) (w:World) :
  (execOp ρ { dst:=d,op:=.alloc 30,type:=t,pos:=p,after:=f,guard:=g }).run Tryz.prog w = .ok (.value (.pointer (some ⟨w.heap.size,0,none⟩))) (w.alloc (codDv.o zDfW)):=okDv.alOp ρ _ rfl w
@[simp ↓] theorem ex_stDv (ρ:Operand → Value) (a x:Operand) (d:Option Nat) (t:TypeId) (p:String) (f:Array Edge) (g:Option (Nat × Bool)) (w:World) :
  (execOp ρ { dst:=d,op:=.store 30 a x,type:=t,pos:=p,after:=f,guard:=g }).run Tryz.prog w = codDv.stR w (ρ a) (ρ x):=Cod.stOp (C:=codDv) ρ _ a x rfl w
@[simp] theorem st_newDv (w:World) (x y:DfW):codDv.stR (w.alloc (codDv.o y)) (.pointer (some ⟨w.heap.size,0,none⟩)) (.agg (codDv.A x)) = .ok .skip (w.alloc (codDv.o x)):=okDv.stR_new w x y
theorem dvAt {w:World} {P:Nat} {d:DfW} (h:codDv.rd w P 0 = some d):DfAt w P d :=
 ⟨by simpa using Cod.rd_cell h 0 (v:=.slice d.A d.n d.c) rfl,by simpa using Cod.rd_cell h 1 (v:=.int .i64 d.next.T) rfl,by simpa using Cod.rd_cell h 2 (v:=.int .i64 d.next.R) rfl,by simpa using Cod.rd_part (C':=codS) (y:=d.next) h 1 (get2 _ _ 1 rfl rfl)⟩
structure Dv (w:World) (d:DfW) (rs:List RwW) (D:Dft):Prop where
 n:rs.length = d.n
 sl:Sl w d.A (codR.row rs)
 rows:RwsIn w rs D.rows
 next:d.next = D.next
theorem Dv.fr {w w':World} {d:DfW} {rs:List RwW} {D:Dft} (h:Dv w d rs D) (f:Fr noB w w'):Dv w' d rs D:=⟨h.n,h.sl.fr0 f,h.rows.fr f,h.next⟩
theorem bldDv2 (w:World) (A:Option Addr) (n c:Nat) (s:St):(Instr.build 30 #[(0,.slice A n c),(1,.agg (codS.A s))]).run Tryz.prog w = .ok (.agg (codDv.A ⟨A,n,c,s⟩)) w:=by
 have e:codS.A s = #[.int .i64 s.T,.int .i64 s.R]:=by rw [Cod.A_eq];rfl
 rw [e,Cod.A_eq];go_simp;rfl
@[simp ↓] theorem ex_bldDv2 (ρ:Operand → Value) (x0 x1:Operand) (d:Option Nat) (t:TypeId) (p:String) (f:Array Edge) (g:Option (Nat × Bool)) (w:World) :
  (execOp ρ { dst:=d,op:=.build 30 #[(0,x0),(1,x1)],type:=t,pos:=p,after:=f,guard:=g }).run Tryz.prog w = mkB 30 w [(0,ρ x0),(1,ρ x1)]:=(exB ρ _ _ _ rfl w).trans (by simp only [List.map_toArray,List.map_cons,List.map_nil])
@[simp] theorem mkB_Dv2 (w:World) (A:Option Addr) (n c:Nat) (s:St):mkB 30 w [(0,.slice A n c),(1,.agg (codS.A s))] = .ok (.value (.agg (codDv.A ⟨A,n,c,s⟩))) w:=mkB_ok (bldDv2 w A n c s)
def RnTo (V w:World) (D:Dft) (e:Ending) (w':World):Prop:=∃ d rs,e = .returned (.agg (codDv.A d)) ∧ Dv V d rs D ∧ Fr noB w w'
set_option maxRecDepth 100000 in
set_option maxHeartbeats 2000000 in
theorem rnew_any {V w:World} (fV:Fr noB V w) (A:Option Addr) (c n:Nat) (rs:List RwW) (xs:List RwP) (hn:rs.length = n) (hs:Sl V A (codR.row rs)) (hb:rs.length ≤ 140737488355328) (hX:RwsIn V rs xs) (s:St) :
  Calls Tryz.prog 10 #[.slice A n c,.agg (codS.A s)] w (RnTo V w ⟨newD xs,s⟩):=by
 subst hn
 have f0:Fr noB w (w.alloc (.cells (codS.A s) 24)):=(Fr.refl noB w).alloc _
 have q0:=Cod.rd_new (C:=codS) w 24 s
 generalize hw0:w.alloc (.cells (codS.A s) 24) = w0 at f0 q0
 have f1:Fr noB w0 (w0.alloc (codDv.o zDfW)):=(Fr.refl noB w0).alloc _
 have b1:codDv.bxd (w0.alloc (codDv.o zDfW)) w0.heap.size = some zDfW:=Cod.bxd_new w0 zDfW
 have HZ:=Lib.hid (show w0.heap.size = w.heap.size + 1 by rw [← hw0];simp)
 have RT:=Lib.hid (r13right_any (w0.alloc (codDv.o zDfW)) A c rs.length rs xs rfl (((hs.fr0 fV).fr0 f0).fr0 f1) hb (((hX.fr fV).fr f0).fr f1))
 have hU:w.heap.size ≤ w0.heap.size:=f0.size
 have HS:=Lib.hid hs
 have HX:=Lib.hid hX
 have F1:=Lib.hid (f0.step0 f1)
 have Q1:=Lib.hid (Cod.rd_fr0 q0 f1)
 have HW0:=Lib.hid hw0
 clear hs hX f0 f1 q0 hw0
 go_enter Tryz.func10,Tryz.ntmps10
 go_upto_region 1 with fail
 rw [HW0.out,← HZ.out]
 generalize w0.alloc (codDv.o zDfW) = w1 at b1 RT F1 Q1 ⊢
 generalize w0.heap.size = U at b1 hU ⊢
 have HU:=Lib.hid hU
 clear hU
 generalize w.heap.size = Q at Q1 ⊢
 have B1:=Lib.hid b1
 clear b1 HW0 HZ
 by_cases hT:TreeOk xs
 ·have hnd:newD xs = xs:=by unfold newD;rw [if_pos (rightB_iff.2 hT)]
  have HND:=Lib.hid hnd
  have HT:=Lib.hid hT
  clear hT hnd
  go_upto_region 3 with (go_at_call 23;refine RT.out.mono ?_;rintro e w2 ⟨b,rfl,f2,hbb⟩;rw [hbb.2 HT.out])
  have q2:=Cod.rd_fr0 Q1.out f2
  have b2:=Cod.bxd_fr0 B1.out f2
  have hst:=okDv.stR_box b2 ⟨A,rs.length,c,s⟩
  obtain ⟨p1,_,p3⟩:=Cod.put_fr b2 ⟨A,rs.length,c,s⟩
  have HB:=Lib.hid p3
  have HF:=Lib.hid ((F1.out.step0 f2).step1 p1 HU.out)
  clear p1 p3 b2
  go_wp2_with fail
  refine bodyPost_ret (ret_row okDv rfl _ _ _ _ (by rfl) HB.out) rfl ?_
  exact ⟨_,rs,rfl,⟨rfl,HS.out,(show RwsIn _ rs (newD xs) by rw [HND.out];exact HX.out),rfl⟩,HF.out⟩
 ·have hnd:newD xs = []:=by unfold newD;rw [if_neg (fun h=>hT (rightB_iff.1 h))]
  have HND:=Lib.hid hnd
  have HT:=Lib.hid hT
  clear hT hnd
  go_upto_region 3 with (go_at_call 23;refine RT.out.mono ?_;rintro e w2 ⟨b,rfl,f2,hbb⟩;rw [show b = false by (cases b with | false=>rfl | true=>exact absurd (hbb.1 rfl) HT.out)])
  have fa:Fr noB w2 (w2.alloc (.cells #[] 60)):=(Fr.refl noB w2).alloc _
  have q2:=Cod.rd_fr0 Q1.out (f2.step0 fa)
  have b2:=Cod.bxd_fr0 B1.out (f2.step0 fa)
  have F2:=Lib.hid (F1.out.step0 (f2.step0 fa))
  generalize w2.alloc (.cells #[] 60) = w3 at q2 b2 F2 ⊢
  generalize (some ⟨w2.heap.size,0,none⟩:Option Addr) = B3
  have hst:=okDv.stR_box b2 ⟨B3,0,0,s⟩
  obtain ⟨p1,_,p3⟩:=Cod.put_fr b2 ⟨B3,0,0,s⟩
  have HB:=Lib.hid p3
  have HF:=Lib.hid (F2.out.step1 p1 HU.out)
  clear p1 p3 b2
  go_wp2_with fail
  refine bodyPost_ret (ret_row okDv rfl _ _ _ _ (by rfl) HB.out) rfl ?_
  exact ⟨_,[],rfl,⟨rfl,Sl.nil _ _,(show RwsIn _ [] (newD xs) by rw [HND.out];exact RwsIn.nil),rfl⟩,HF.out⟩
def lateD (d:Dft):Bool:=d.rows.any fun r=>decide (0 ≤ cmpS r.Node d.next)
theorem room_eq {d:Dft} {m:Nat} (h1:1 ≤ m):roomD d m = (!lateD d && (rightS d.next && decide (d.next.T + (m:Int) - 1 ≤ 1099511627776))):=by
 unfold roomD lateD
 generalize (d.rows.any fun r=>decide (0 ≤ cmpS r.Node d.next)) = a
 cases hr:rightS d.next with
 | false=>simp
 | true =>
  have e:rightS ⟨d.next.T + m - 1,d.next.R⟩ = decide (d.next.T + (m:Int) - 1 ≤ 1099511627776):=by
   unfold rightS at hr ⊢
   rw [Bool.eq_iff_iff]
   simp only [Bool.and_eq_true,decide_eq_true_eq] at hr ⊢
   constructor
   ·intro h;omega
   ·intro h;omega
  rw [e]
  simp [Bool.and_comm]
set_option maxRecDepth 100000 in
set_option maxHeartbeats 2000000 in
theorem rroom_any (w:World) (d:DfW) (rs:List RwW) (D:Dft) (h:Dv w d rs D) (hb:rs.length ≤ 1000000) (m:Nat) (hm:1 ≤ m ∧ m ≤ 1000000) :
  Calls Tryz.prog 33 #[.agg (codDv.A d),.int .i64 (m:Int)] w (Gives w (.bool (roomD D m))):=by
 have f0:Fr noB w (w.alloc (.cells (codDv.A d) 30)):=(Fr.refl noB w).alloc _
 have q0:=dvAt (Cod.rd_new (C:=codDv) w 30 d)
 have HD:=Lib.hid (h.fr f0)
 have qa:=q0.rows
 have qn:=q0.next
 have qT:=q0.T
 rw [← h.n] at qa
 rw [h.next] at qn qT
 have HM:=Lib.hid hm
 have HB:=Lib.hid hb
 have HL:=Lib.hid (show rs.length = D.rows.length from h.rows.len)
 have HRE:=Lib.hid (room_eq (d:=D) hm.1)
 generalize roomD D m = res at HRE ⊢
 have HLA:=Lib.hid (show lateD D = D.rows.any fun r=>decide (0 ≤ cmpS r.Node D.next) from rfl)
 generalize lateD D = la at HRE HLA
 clear h hm hb q0
 go_enter Tryz.func33,Tryz.ntmps33
 go_upto_region 1 with fail
 generalize w.alloc (.cells (codDv.A d) 30) = w0 at f0 qa qn qT HD ⊢
 generalize w.heap.size = P at qa qn qT ⊢
 have F0:=Lib.hid f0
 have QA:=Lib.hid qa
 have QN:=Lib.hid qn
 have QT:=Lib.hid qT
 clear f0 qa qn qT
 go_wp2_with fail
 go_loopg [5] rs.length (fun gk iv wr=>∃ k:Nat,iv = .int .i64 (k:Int) ∧ gk = rs.length - k ∧ k ≤ rs.length ∧ Fr noB w0 wr ∧ (∀ j (hj:j < D.rows.length),j < k → cmpS D.rows[j].Node D.next < 0))
 case atStart=>exact ⟨0,rfl,rfl,by omega,Fr.refl _ _,fun j _ hj=>absurd hj (by omega)⟩
 case round =>
  obtain ⟨k,rfl,rfl,hk,hf,hno⟩:=hrel
  have HF:=Lib.hid hf
  have HNO:=Lib.hid hno
  clear hf hno
  have qa:=cell_fr0 QA.out HF.out
  by_cases hlt:k < rs.length
  ·have i1:(k:Int) < (rs.length:Int):=by omega
   have i0:(0:Int) ≤ (k:Int):=by omega
   obtain ⟨g,off,hA,hg⟩:=HD.out.sl.adC (by omega)
   have HA:=Lib.hid hA
   rw [hA] at qa
   have hlx:k < D.rows.length:=by rw [← HL.out];exact hlt
   have hin:=HD.out.rows.at_ k hlt hlx
   have hsl:=HD.out.sl
   rw [hA] at hsl
   have rn:=(rwAtO (hsl.rd k hlt)).node
   rw [← hin.node] at rn
   have HLT:=Lib.hid hlt
   have HLX:=Lib.hid hlx
   have HND:Hid (∃ y,D.rows[k]'HLX.out = y):=Lib.hid ⟨_,rfl⟩
   generalize hy:D.rows[k] = y at rn
   have HY:=Lib.hid (show D.rows[k]'HLX.out = y from hy)
   have wk:wrap64 ((k:Int) + 1) = (k:Int) + 1:=IntWalk.wrap64_in _ (by have:=HB.out;omega)
   clear hin hsl hlt hlx hy hA hg hk HND
   obtain ⟨z,hz⟩:∃ z,z = cmpS y.Node D.next:=⟨_,rfl⟩
   have HZ:=Lib.hid hz
   have CM:=Lib.hid (r3cmp_any wr.drew y.Node D.next)
   rw [← hz] at CM
   clear hz
   go_upto_region 4 with fail
   have fd:Fr noB wr wr.drew:=(Fr.refl noB _).drew
   have hF0:(fun w':World=>w'.cell? ⟨P,0,none⟩ = some (.slice (some ⟨g,off,none⟩) rs.length d.c) ∧ codS.rd w' g (off + k * 8) = some y.Node ∧ codS.rd w' P 1 = some D.next) wr.drew:=⟨cell_fr0 qa fd,Cod.rd_fr0 (Cod.rd_fr0 rn HF.out) fd,Cod.rd_fr0 (Cod.rd_fr0 QN.out HF.out) fd⟩
   have FD:=Lib.hid (HF.out.step0 fd)
   clear fd qa rn
   refine wp_region_M 9 10 [⟨8192,4,0⟩,⟨16384,8192,1⟩,⟨32768,32,0⟩,⟨65536,49152,6⟩,⟨131072,65536,8⟩,⟨262144,131072,16⟩,⟨524288,4,0⟩,⟨1048576,524288,64⟩,⟨2097152,1310720,160⟩,⟨4194304,2097152,256⟩] [(true,0),(true,1),(true,2),(true,3),(true,4),(true,5),(true,6),(true,7),(false,8)] (fun w'=>w'.cell? ⟨P,0,none⟩ = some (.slice (some ⟨g,off,none⟩) rs.length d.c) ∧ codS.rd w' g (off + k * 8) = some y.Node ∧ codS.rd w' P 1 = some D.next) (by kernel_rfl) rfl (by kernel_rfl) (by kernel_rfl) (by kernel_rfl) hF0 (fun hA hF=>?_)
   clear hF0
   iterate 8
    refine wpAnyS_take (v:=?_) hA rfl (fun _ _ _ h=>h) (Or.inl ⟨by rfl,?_⟩) hF (fun hA=>?_)
    rotate_left
    ·intro wS hSw;(try dsimp only at hSw);obtain ⟨s1,s2,s3⟩:=hSw;first | (apply Eq.trans;apply ex_ldR_at;exact rfl;exact rfl;assumption;with_reducible rfl) | (apply Eq.trans;apply ex_ldS_at;exact rfl;exact rfl;assumption;with_reducible rfl) | (go_simp;try with_reducible rfl)
    try simp only [sA1,sA2,sA3,Act.put,sA4,sA5,sA6]
   refine wpAnyS_one hA rfl (fun K' hK=>?_)
   go_simp
   go_at_call 50
   refine CM.out.mono ?_
   rintro e w5 ⟨rfl,f5⟩
   refine hK.out _ _ ⟨cell_fr0 hF.1 f5,Cod.rd_fr0 hF.2.1 f5,Cod.rd_fr0 hF.2.2 f5⟩ (fun hA=>?_)
   clear hK K'
   try simp only [sA1,sA2,sA3,Act.put,sA4,sA5,sA6]
   refine wpAnyS_end hA rfl ?_
   simp only [List.drop_succ_cons,List.drop_zero]
   clear hF
   by_cases hc:0 ≤ z
   ·have HC:=Lib.hid hc
    go_wp2_with fail
    go_ret
    refine ⟨?_,F0.out.step0 (FD.out.step0 f5)⟩
    have hla:la = true:=by
     rw [HLA.out,List.any_eq_true]
     exact ⟨_,List.getElem_mem HLX.out,by rw [HY.out,← HZ.out];simpa using HC.out⟩
    rw [HRE.out,hla]
    rfl
   ·have HC:=Lib.hid hc
    go_wp2_with fail
    go_roundg (rs.length - (k + 1))
    case measure=>have:=HLT.out;omega
    case rel=>exact ⟨k + 1,by first | exact congrArg (Value.int .i64) wk | simp,rfl,by have:=HLT.out;omega,FD.out.step0 f5,fun j hj hjk=>by
     rcases Nat.lt_succ_iff_lt_or_eq.1 hjk with h3 | rfl
     ·exact HNO.out j hj h3
     ·rw [HY.out,← HZ.out];have:=HC.out;omega⟩
  ·have i1:¬ (k:Int) < (rs.length:Int):=by omega
   have HLAF:=Lib.hid (show la = false by
    rw [HLA.out,List.any_eq_false]
    intro r hr
    obtain ⟨j,hj,rfl⟩:=List.getElem_of_mem hr
    have:=HNO.out j hj (by have:=HL.out;omega)
    simp only [decide_eq_true_eq]
    omega)
   have qn:=Cod.rd_fr0 QN.out HF.out
   have qT:=cell_fr0 QT.out HF.out
   have RT:=Lib.hid (r3right_any wr D.next)
   obtain ⟨rt,hrt⟩:∃ b,rightS D.next = b:=⟨_,rfl⟩
   have HRR:=Lib.hid hrt
   rw [hrt] at RT
   clear hlt hk hrt
   cases rt with
   | false =>
    go_wp2_with (go_at_call 65;refine RT.out.mono ?_;rintro e w5 ⟨rfl,f5⟩)
    go_ret
    refine ⟨?_,F0.out.step0 (HF.out.step0 f5)⟩
    rw [HRE.out,HRR.out]
    simp
   | true =>
    have hb:0 ≤ D.next.T ∧ D.next.T ≤ 1099511627776:=by
     have:=HRR.out
     unfold rightS at this
     simp only [Bool.and_eq_true,decide_eq_true_eq] at this
     omega
    have w1:wrap64 (D.next.T + (m:Int)) = D.next.T + (m:Int):=IntWalk.wrap64_in _ (by have:=HM.out;omega)
    have w2:wrap64 (D.next.T + (m:Int) - 1) = D.next.T + (m:Int) - 1:=IntWalk.wrap64_in _ (by have:=HM.out;omega)
    clear hb
    by_cases hc:D.next.T + (m:Int) - 1 ≤ 1099511627776
    ·have HC:=Lib.hid hc
     go_wp2_with (go_at_call 65;refine RT.out.mono ?_;rintro e w5 ⟨rfl,f5⟩;replace qT:=cell_fr0 qT f5)
     go_ret
     refine ⟨?_,F0.out.step0 (HF.out.step0 f5)⟩
     rw [HRE.out,HRR.out,HLAF.out,decide_eq_true HC.out]
     rfl
    ·have HC:=Lib.hid hc
     go_wp2_with (go_at_call 65;refine RT.out.mono ?_;rintro e w5 ⟨rfl,f5⟩;replace qT:=cell_fr0 qT f5)
     go_ret
     refine ⟨?_,F0.out.step0 (HF.out.step0 f5)⟩
     rw [HRE.out,HRR.out,HLAF.out,decide_eq_false (by have:=HC.out;omega)]
     rfl
def hitR (xs:List RwP) (p:St) (nm:List UInt8) (x:RwP):Bool:=decide (x.Parent = p) && decide (shownR xs x = nm)
def stepR (xs:List RwP) (p:St) (nm:List UInt8):Option RwP:=xs.find? (hitR xs p nm)
theorem kidFrom_find {xs:List RwP} {p:St} {nm:List UInt8} (h:TreeOk xs):∀ (l:List RwP) (i:Nat),(kidsD xs p).drop i = l → kidFrom (kidsD xs p) nm i l = l.find? (fun x=>decide (shownR xs x = nm))
 | [],i,_=>rfl
 | r :: l,i,hd=>by
  have hi:i < (kidsD xs p).length:=by
   rcases Nat.lt_or_ge i (kidsD xs p).length with h | h
   ·exact h
   ·rw [List.drop_eq_nil_of_le h] at hd;cases hd
  rw [List.drop_eq_getElem_cons hi] at hd
  injection hd with h1 h2
  have hs:=shownR_eq h hi
  rw [h1] at hs
  unfold kidFrom
  rw [← hs,List.find?_cons,kidFrom_find h l (i + 1) h2]
  by_cases e:shownR xs r = nm <;> simp [e]
theorem stepR_eq {xs:List RwP} (h:TreeOk xs) (p:St) (nm:List UInt8):stepR xs p nm = kidD xs p nm:=by
 unfold stepR kidD
 rw [kidFrom_find h (kidsD xs p) 0 List.drop_zero]
 unfold kidsD
 rw [List.find?_filter]
 congr 1
 funext a
 by_cases h1:a.Parent = p <;> by_cases h2:shownR xs a = nm <;> simp [hitR,h1,h2]
theorem find_at {xs:List RwP} {q:RwP → Bool} {y:RwP} {k:Nat} (hk:k < xs.length) (hy:xs[k] = y) (h1:q y = true) (h2:∀ j (hj:j < k),q (xs[j]'(by omega)) = false):xs.find? q = some y:=by
 rw [List.find?_eq_some_iff_getElem]
 exact ⟨h1,k,hk,hy,fun j hj=>by simpa using h2 j hj⟩
structure StTo (w:World) (rs:List RwW) (xs:List RwP) (o:Option RwP) (e:Ending) (w':World):Prop where
 ex:∃ r b,e = .returned (.tuple #[.agg (codR.A r),.bool b]) ∧ ((b = true ∧ ∃ k,∃ (h:k < rs.length) (h':k < xs.length),o = some xs[k] ∧ r = rs[k]) ∨ (b = false ∧ o = none ∧ r = zRwW))
 fr:Fr noB w w'
set_option maxRecDepth 100000 in
set_option maxHeartbeats 4000000 in
theorem rstep_any (w:World) (A:Option Addr) (c n:Nat) (rs:List RwW) (xs:List RwP) (hn:rs.length = n) (hs:Sl w A (codR.row rs)) (hb:rs.length ≤ 1000000) (hX:RwsIn w rs xs) (hok:NodesOk xs) (s:St) (nm:List UInt8) :
  Calls Tryz.prog 36 #[.slice A n c,.agg (codS.A s),.string (str nm)] w (StTo w rs xs (stepR xs s nm)):=by
 subst hn
 have HLX:=Lib.hid hX.len
 have HS:=Lib.hid hs
 have HX:=Lib.hid hX
 have HB:=Lib.hid hb
 have HOK:=Lib.hid hok
 have f0:Fr noB w (w.alloc (.cells (codS.A s) 24)):=(Fr.refl noB w).alloc _
 have q0:=Cod.rd_new (C:=codS) w 24 s
 generalize hw0:w.alloc (.cells (codS.A s) 24) = w0 at f0 q0
 have HW0:=Lib.hid hw0
 have HZ:=Lib.hid (show w0.heap.size = w.heap.size + 1 by rw [← hw0];simp)
 have f1:Fr noB w0 (w0.alloc (codR.o zRwW)):=(Fr.refl noB w0).alloc _
 have b1:codR.bxd (w0.alloc (codR.o zRwW)) w0.heap.size = some zRwW:=Cod.bxd_new w0 zRwW
 have q1:=Cod.rd_fr0 q0 f1
 have F1:=Lib.hid (f0.step0 f1)
 have hU:w.heap.size ≤ w0.heap.size:=f0.size
 have HRES:=Lib.hid (show stepR xs s nm = xs.find? (hitR xs s nm) from rfl)
 generalize stepR xs s nm = res at HRES ⊢
 clear hs hX hb hok f0 f1 q0 hw0
 go_enter Tryz.func36,Tryz.ntmps36
 go_upto_region 1 with fail
 rw [HW0.out,← HZ.out]
 generalize w0.alloc (codR.o zRwW) = w1 at b1 q1 F1 ⊢
 generalize w0.heap.size = U at b1 hU ⊢
 have HU:=Lib.hid hU
 clear hU HW0 HZ
 generalize w.heap.size = Q at q1 ⊢
 have B1:=Lib.hid b1
 have Q1:=Lib.hid q1
 clear b1 q1
 go_wp2_with fail
 go_loopg [8] rs.length (fun gk iv wr=>∃ k:Nat,iv = .int .i64 (k:Int) ∧ gk = rs.length - k ∧ k ≤ rs.length ∧ Fr noB w1 wr ∧ (∀ j (hj:j < xs.length),j < k → hitR xs s nm xs[j] = false))
 case atStart=>exact ⟨0,rfl,rfl,by omega,Fr.refl _ _,fun j _ hj=>absurd hj (by omega)⟩
 case round =>
  obtain ⟨k,rfl,rfl,hk,hf,hno⟩:=hrel
  have HF:=Lib.hid hf
  have HNO:=Lib.hid hno
  clear hf hno
  by_cases hlt:k < rs.length
  ·have i1:(k:Int) < (rs.length:Int):=by omega
   have i0:(0:Int) ≤ (k:Int):=by omega
   obtain ⟨g,off,rfl,hg⟩:=HS.out.adC (by omega)
   have hlx:k < xs.length:=by rw [← HLX.out];exact hlt
   have hin:=HX.out.at_ k hlt hlx
   have ro:codR.rd wr g (off + k * 8) = some rs[k]:=(HS.out.fr0 (F1.out.step0 HF.out)).rd k hlt
   have hmem:=List.getElem_mem hlx
   have HLX2:=Lib.hid hlx
   have HLT:=Lib.hid hlt
   have SH:=Lib.hid (fun w' (f:Fr noB w w')=>rshown_any w' (some ⟨g,off,none⟩) c rs.length rs xs rfl (HS.out.fr0 f) HB.out (HX.out.fr f) rs[k] xs[k] (hin.fr f) (HOK.out _ hmem).1 (HOK.out _ hmem).2)
   generalize hry:rs[k] = ry at hin ro SH
   generalize hy:xs[k] = y at hin SH
   have HY:=Lib.hid (show xs[k]'HLX2.out = y from hy)
   have HRY:=Lib.hid (show rs[k]'HLT.out = ry from hry)
   have HIN:=Lib.hid hin
   have rp:=(rwAtO ro).parent
   rw [← hin.parent] at rp
   have wk:wrap64 ((k:Int) + 1) = (k:Int) + 1:=IntWalk.wrap64_in _ (by have:=HB.out;omega)
   have HNX:=Lib.hid (fun (h:hitR xs s nm y = false) j (hj:j < xs.length) (hjk:j < k + 1)=>(show hitR xs s nm xs[j] = false by
    rcases Nat.lt_succ_iff_lt_or_eq.1 hjk with h3 | rfl
    ·exact HNO.out j hj h3
    ·rw [HY.out];exact h))
   have HHI:=Lib.hid (show hitR xs s nm y = (decide (y.Parent = s) && decide (shownR xs y = nm)) from rfl)
   generalize shownR xs y = sh at SH HHI
   have RO:=Lib.hid ro
   clear hin hlx hlt hry hy hmem hg hk
   go_upto_region 4 with fail
   have fd:Fr noB wr wr.drew:=(Fr.refl noB _).drew
   have hF0:(fun w':World=>codS.rd w' g (off + k * 8 + 2) = some y.Parent ∧ codR.rd w' g (off + k * 8) = some ry ∧ codS.rd w' Q 0 = some s) wr.drew:=⟨Cod.rd_fr0 rp fd,Cod.rd_fr0 ro fd,Cod.rd_fr0 (Cod.rd_fr0 Q1.out HF.out) fd⟩
   have FD:=Lib.hid (HF.out.step0 fd)
   clear fd rp ro
   by_cases hp:y.Parent = s
   ·have HP:=Lib.hid hp
    generalize hpp:y.Parent = pp at hF0 hp
    subst hp
    refine wp_region_M 16 17 [⟨32768,1,0⟩,⟨65536,256,0⟩,⟨131072,98304,3⟩,⟨262144,131072,4⟩,⟨524288,262144,8⟩,⟨1048576,16,0⟩,⟨2097152,1572864,48⟩,⟨4194304,2097152,64⟩,⟨8388608,4194305,128⟩,⟨16777216,4194305,128⟩,⟨33554432,4194560,128⟩,⟨67108864,54525952,1664⟩,⟨134217728,71303168,2176⟩,⟨268435456,146800640,4480⟩,⟨536870912,4194308,128⟩,⟨1073741824,809500672,24704⟩,⟨2147483648,1077936128,32896⟩] [(true,0),(true,1),(true,2),(true,3),(true,4),(true,5),(true,6),(true,7),(true,8),(true,9),(true,10),(true,11),(true,12),(true,14),(false,13),(true,15)] (fun w'=>codS.rd w' g (off + k * 8 + 2) = some pp ∧ codR.rd w' g (off + k * 8) = some ry ∧ codS.rd w' Q 0 = some pp) (by kernel_rfl) rfl (by kernel_rfl) (by kernel_rfl) (by kernel_rfl) hF0 (fun hA hF=>?_)
    clear hF0
    iterate 14
     refine wpAnyS_take (v:=?_) hA rfl (fun _ _ _ h=>h) (Or.inl ⟨by rfl,?_⟩) hF (fun hA=>?_)
     rotate_left
     ·intro wS hSw;(try dsimp only at hSw);obtain ⟨s1,s2,s3⟩:=hSw;first | (apply Eq.trans;apply ex_ldR_at;exact rfl;exact rfl;assumption;with_reducible rfl) | (apply Eq.trans;apply ex_ldS_at;exact rfl;exact rfl;assumption;with_reducible rfl) | (go_simp;try with_reducible rfl)
     try simp only [sA1,sA2,sA3,Act.put,sA4,sA5,sA6]
    refine wpAnyS_one hA rfl (fun K' hK=>?_)
    rw [if_pos (by rfl)]
    go_simp
    go_at_call 67
    refine (SH.out wr.drew (F1.out.step0 FD.out)).mono ?_
    rintro e w5 ⟨rfl,f5⟩
    replace hF:=(⟨Cod.rd_fr0 hF.1 f5,Cod.rd_fr0 hF.2.1 f5,Cod.rd_fr0 hF.2.2 f5⟩:codS.rd w5 g (off + k * 8 + 2) = some pp ∧ codR.rd w5 g (off + k * 8) = some ry ∧ codS.rd w5 Q 0 = some pp)
    refine hK.out _ _ hF (fun hA=>?_)
    clear hK K'
    try simp only [sA1,sA2,sA3,Act.put,sA4,sA5,sA6]
    have F5:=Lib.hid (FD.out.step0 f5)
    by_cases hsh:sh = nm
    ·have e1:((str sh).toList == (str nm).toList) = true:=by rw [hsh];exact beq_self_eq_true _
     have HSH:=Lib.hid hsh
     clear hsh
     refine wpAnyS_take (v:=?_) hA rfl (fun _ _ _ h=>h) (Or.inl ⟨by rfl,?_⟩) hF (fun hA=>?_)
     rotate_left
     ·intro wS hSw;(try dsimp only at hSw);obtain ⟨s1,s2,s3⟩:=hSw;first | (apply Eq.trans;apply ex_ldR_at;exact rfl;exact rfl;assumption;with_reducible rfl) | (apply Eq.trans;apply ex_ldS_at;exact rfl;exact rfl;assumption;with_reducible rfl) | (go_simp;try with_reducible rfl)
     try simp only [sA1,sA2,sA3,Act.put,sA4,sA5,sA6]
     refine wpAnyS_end hA rfl ?_
     simp only [List.drop_succ_cons,List.drop_zero]
     clear hF
     have b5:=Cod.bxd_fr0 B1.out F5.out
     have r5:=Cod.rd_fr0 RO.out ((Fr.refl noB wr).drew.step0 f5)
     have hst:=okR.stR_box b5 ry
     obtain ⟨p1,_,p3⟩:=Cod.put_fr b5 ry
     have HBX:=Lib.hid p3
     have HFE:=Lib.hid ((F1.out.step0 F5.out).step1 p1 HU.out)
     clear p1 p3 b5
     go_wp2_with fail
     refine bodyPost_ret (ret_row_tmp okR rfl _ _ _ _ (by rfl) HBX.out) rfl ?_
     refine ⟨⟨ry,true,rfl,.inl ⟨rfl,k,HLT.out,HLX2.out,?_,HRY.out.symm⟩⟩,HFE.out⟩
     rw [HRES.out,HY.out]
     exact find_at HLX2.out HY.out (by rw [HHI.out,decide_eq_true HP.out,decide_eq_true HSH.out];rfl) (fun j hj=>HNO.out j (by have:=HLX2.out;omega) hj)
    ·have e1:((str sh).toList == (str nm).toList) = false:=by rw [beq_eq_false_iff_ne];intro e;rw [str_toList,str_toList] at e;exact hsh e
     have HSH:=Lib.hid hsh
     clear hsh
     refine wpAnyS_take (v:=?_) hA rfl (fun _ _ _ h=>h) (Or.inl ⟨by rfl,?_⟩) hF (fun hA=>?_)
     rotate_left
     ·intro wS hSw;(try dsimp only at hSw);obtain ⟨s1,s2,s3⟩:=hSw;first | (apply Eq.trans;apply ex_ldR_at;exact rfl;exact rfl;assumption;with_reducible rfl) | (apply Eq.trans;apply ex_ldS_at;exact rfl;exact rfl;assumption;with_reducible rfl) | (go_simp;try with_reducible rfl)
     try simp only [sA1,sA2,sA3,Act.put,sA4,sA5,sA6]
     refine wpAnyS_end hA rfl ?_
     simp only [List.drop_succ_cons,List.drop_zero]
     clear hF
     go_wp2_with fail
     go_roundg (rs.length - (k + 1))
     case measure=>have:=HLT.out;omega
     case rel=>exact ⟨k + 1,by first | exact congrArg (Value.int .i64) wk | simp,rfl,by have:=HLT.out;omega,F5.out,HNX.out (by rw [HHI.out,decide_eq_false HSH.out,Bool.and_false])⟩
   ·refine wp_region_M 16 17 [⟨32768,1,0⟩,⟨65536,256,0⟩,⟨131072,98304,3⟩,⟨262144,131072,4⟩,⟨524288,262144,8⟩,⟨1048576,16,0⟩,⟨2097152,1572864,48⟩,⟨4194304,2097152,64⟩,⟨8388608,4194305,128⟩,⟨16777216,4194305,128⟩,⟨33554432,4194560,128⟩,⟨67108864,54525952,1664⟩,⟨134217728,71303168,2176⟩,⟨268435456,146800640,4480⟩,⟨536870912,4194308,128⟩,⟨1073741824,809500672,24704⟩,⟨2147483648,1077936128,32896⟩] [(true,0),(true,1),(true,2),(true,3),(true,4),(true,5),(true,6),(true,7),(true,8),(true,9),(true,10),(true,11),(true,12),(true,14),(false,13),(true,15)] (fun w'=>codS.rd w' g (off + k * 8 + 2) = some y.Parent ∧ codR.rd w' g (off + k * 8) = some ry ∧ codS.rd w' Q 0 = some s) (by kernel_rfl) rfl (by kernel_rfl) (by kernel_rfl) (by kernel_rfl) hF0 (fun hA hF=>?_)
    clear hF0
    iterate 8
     refine wpAnyS_take (v:=?_) hA rfl (fun _ _ _ h=>h) (Or.inl ⟨by rfl,?_⟩) hF (fun hA=>?_)
     rotate_left
     ·intro wS hSw;(try dsimp only at hSw);obtain ⟨s1,s2,s3⟩:=hSw;first | (apply Eq.trans;apply ex_ldR_at;exact rfl;exact rfl;assumption;with_reducible rfl) | (apply Eq.trans;apply ex_ldS_at;exact rfl;exact rfl;assumption;with_reducible rfl) | (go_simp;try with_reducible rfl)
     try simp only [sA1,sA2,sA3,Act.put,sA4,sA5,sA6]
    iterate 6
     refine wpAnyS_take (v:=undef) hA rfl (fun _ _ _ h=>h) (Or.inr ⟨by rfl,rfl⟩) hF (fun hA=>?_)
     try simp only [sA1,sA2,sA3,Act.put,sA4,sA5,sA6]
    refine wpAnyS_one hA rfl (fun K' hK=>?_)
    rw [if_neg (by intro h;exact Bool.false_ne_true h)]
    refine hK.out _ _ hF (fun hA=>?_)
    clear hK K'
    try simp only [sA1,sA2,sA3,Act.put,sA4,sA5,sA6]
    refine wpAnyS_take (v:=undef) hA rfl (fun _ _ _ h=>h) (Or.inr ⟨by rfl,rfl⟩) hF (fun hA=>?_)
    try simp only [sA1,sA2,sA3,Act.put,sA4,sA5,sA6]
    refine wpAnyS_end hA rfl ?_
    simp only [List.drop_succ_cons,List.drop_zero]
    clear hF
    have HP:=Lib.hid hp
    go_wp2_with fail
    go_roundg (rs.length - (k + 1))
    case measure=>have:=HLT.out;omega
    case rel=>exact ⟨k + 1,by first | exact congrArg (Value.int .i64) wk | simp,rfl,by have:=HLT.out;omega,FD.out,HNX.out (by rw [HHI.out,decide_eq_false HP.out];rfl)⟩
  ·have i1:¬ (k:Int) < (rs.length:Int):=by omega
   have HNN:=Lib.hid (show xs.find? (hitR xs s nm) = none by
    rw [List.find?_eq_none]
    intro x hx
    obtain ⟨j,hj,rfl⟩:=List.getElem_of_mem hx
    rw [HNO.out j hj (by have:=HLX.out;omega)]
    simp)
   clear hlt hk
   have b5:=Cod.bxd_fr0 B1.out HF.out
   have hst:=okR.stR_box b5 zRwW
   obtain ⟨p1,_,p3⟩:=Cod.put_fr b5 zRwW
   have HBX:=Lib.hid p3
   have HFE:=Lib.hid ((F1.out.step0 HF.out).step1 p1 HU.out)
   clear p1 p3 b5
   go_wp2_with fail
   refine bodyPost_ret (ret_row_tmp okR rfl _ _ _ _ (by rfl) HBX.out) rfl ?_
   exact ⟨⟨zRwW,false,rfl,.inr ⟨rfl,by rw [HRES.out,HNN.out],rfl⟩⟩,HFE.out⟩
end Go.Proofs.YthehiobacjjakaaGreatDoor
