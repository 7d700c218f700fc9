/- Contract of work: room. (ex_ldS_at ex_bldS2_at) -/
import Derived.Test.YthehiobacjjakaaGreatDoorWkHKc
import Derived.Test.YthehiobacjjakaaGreatDoorQFrKc
set_option linter.unusedVariables false
set_option linter.unusedSimpArgs false
namespace Go.Proofs.YthehiobacjjakaaGreatDoor
open Go.RowKit Go.Maps Go.Sort
set_option maxRecDepth 100000 in
set_option maxHeartbeats 1000000 in
theorem room1_any (w:World) (r:RwW) (B P:Nat) (d:DfW) (hB:w.cell? ⟨B,0,none⟩ = some (.pointer (some ⟨P,0,none⟩))) (hP:codDf.bxd w P = some d) :
  Calls Tryz.prog 82 #[.agg (codR.A r),.pointer (some ⟨B,0,none⟩)] w (Gives w (.bool (decide (0 ≤ cmpS r.Node d.next)))):=by
 have f0:Fr noB w (w.alloc (.cells (codR.A r) 60)):=(Fr.refl noB w).alloc _
 have q0:=(rwAt (Cod.rd_new (C:=codR) w 60 r)).node
 have qB:=cell_fr0 hB f0
 have qn:=(dfAt (Cod.bxd_fr0 hP f0)).next
 have C1:∀ wS,Calls Tryz.prog 45 #[.agg (codS.A r.Node),.agg (codS.A d.next)] wS (Gives wS (.int .i64 (cmpS r.Node d.next))):=fun wS=>scmp_v wS _ _
 have F0:=Lib.hid f0
 have cP:=(dfAt (Cod.bxd_fr0 hP f0)).rows
 clear hB hP f0
 go_enter Tryz.func82,Tryz.ntmps82
 go_upto_region 1 with fail
 generalize w.alloc (.cells (codR.A r) 60) = W at q0 qB qn cP F0 ⊢
 generalize w.heap.size = Q at q0 ⊢
 have l0:=Cod.rd_lt q0
 have l1:=World.block_lt_of_cell? _ _ qB
 have l2:P < W.heap.size:=Cod.rd_lt qn
 simp only at l1
 clear cP
 refine wp_region_fr (by kernel_rfl) (by kernel_rfl) ?_
 iterate 6
  refine wpQ_take (v:=?_) (by rfl) (fun wS hS=>?_) ?_
  rotate_left
  ·obtain ⟨L1,L2,L3,L4,L5,L6⟩:=Fr.same hS;go_simp;try with_reducible rfl
  try simp only [sA1,sA2,sA3,Act.put,sA4,sA5,sA6]
 refine wpQ_call (by rfl) (fun wS hS=>⟨_,_,?qh35,Calls.fr hS (C1 _)⟩) ?qk35
 case qh35=>obtain ⟨L1,L2,L3,L4,L5,L6⟩:=Fr.same hS;go_simp;try with_reducible rfl
 try simp only [sA1,sA2,sA3,Act.put,sA4,sA5,sA6]
 iterate 2
  refine wpQ_take (v:=?_) (by rfl) (fun wS hS=>?_) ?_
  rotate_left
  ·obtain ⟨L1,L2,L3,L4,L5,L6⟩:=Fr.same hS;go_simp;try with_reducible rfl
  try simp only [sA1,sA2,sA3,Act.put,sA4,sA5,sA6]
 refine wpQ_nil ?_
 intro w1 f1
 go_wp2_with fail
 go_ret
 exact ⟨by first | rfl | simp,F0.out.step0 f1⟩
def roomM (rs:List RwW) (d:DfW) (n:Nat):Bool:=rightS d.next && rightS ⟨d.next.T + n - 1,d.next.R⟩ && !((List.range rs.length).any fun k=>if h:k < rs.length then decide (0 ≤ cmpS rs[k].Node d.next) else false)
theorem wk_runV {P:Program} {w:World} {o:Oper} {a:Act} {K:Act → World → Prop} {Q:Exit → Act → World → Prop} (v:Value) (w':World)
  (hr:(execOp a.eval o).run P w = .ok (.value v) w') (h:K (a.put o.dst v) w'):Oper.wp P o a w K Q:=by
 unfold Oper.wp
 rw [hr]
 exact h
theorem ex_alS_at {ρ:Operand → Value} {o:Oper} (ho:o.op = .alloc 24) (w:World):(execOp ρ o).run Tryz.prog w = .ok (.value (.pointer (some ⟨w.heap.size,0,none⟩))) (w.alloc (codS.o zSt)):=okS.alOp ρ o ho w
theorem ex_bldS2_at {ρ:Operand → Value} {o:Oper} {x y:Operand} {w:World} {a b:Int} (ho:o.op = .build 24 #[(0,x),(1,y)]) (hx:ρ x = .int .i64 a) (hy:ρ y = .int .i64 b) :
  (execOp ρ o).run Tryz.prog w = .ok (.value (.agg (codS.A ⟨a,b⟩))) w:=by
 refine ex_buildG 24 ρ o #[(0,x),(1,y)] w w _ ho ?_
 simp [hx,hy,bldS2 w a b]
theorem room_wrap (s:St) (n:Nat) (hw:wfS s = true) (hn:n ≤ 1000000):(rightS s && rightS ⟨(IntKind.i64.wrap ((IntKind.i64.wrap (s.T + (n:Int))) - 1)),s.R⟩) = (rightS s && rightS ⟨s.T + n - 1,s.R⟩):=by
 cases h:rightS s with
 | false=>rfl
 | true =>
  unfold rightS at h
  simp only [Bool.and_eq_true,decide_eq_true_eq] at h
  have e1:IntKind.i64.wrap (s.T + (n:Int)) = s.T + n:=IntWalk.i64_in _ (by omega)
  rw [e1]
  have e2:IntKind.i64.wrap (s.T + (n:Int) - 1) = s.T + n - 1:=IntWalk.i64_in _ (by omega)
  rw [e2]
set_option maxRecDepth 100000 in
set_option maxHeartbeats 2000000 in
theorem room_any (w:World) (P:Nat) (d:DfW) (hP:codDf.bxd w P = some d) (rs:List RwW) (hn:rs.length = d.n) (hs:Sl w d.A (codR.row rs)) (hb:rs.length ≤ 1000000) (hw:wfS d.next = true) (n:Nat) (hnn:n ≤ 1000000) :
  Calls Tryz.prog 55 #[.pointer (some ⟨P,0,none⟩),.int .i64 (n:Int)] w (Gives w (.bool (roomM rs d n))):=by
 have HS:=Lib.hid hs
 have HN:=Lib.hid hn
 have HB:=Lib.hid hb
 have HW:=Lib.hid hw
 have HNN:=Lib.hid hnn
 have f0:Fr noB w (w.alloc (.cells #[Value.pointer (some ⟨P,0,none⟩)] 27)):=(Fr.refl noB w).alloc _
 have qB:(w.alloc (.cells #[Value.pointer (some ⟨P,0,none⟩)] 27)).cell? ⟨w.heap.size,0,none⟩ = some (.pointer (some ⟨P,0,none⟩)):=by
  simp
 have HP0:=Lib.hid (Cod.bxd_fr0 hP f0)
 have HRM:=Lib.hid (show roomM rs d n = (rightS d.next && rightS ⟨d.next.T + n - 1,d.next.R⟩ && !((List.range rs.length).any fun k=>if h:k < rs.length then decide (0 ≤ cmpS rs[k].Node d.next) else false)) from rfl)
 clear hs hn hb hw hnn hP
 go_enter Tryz.func55,Tryz.ntmps55
 go_upto_region 1 with fail
 generalize w.alloc (.cells #[Value.pointer (some ⟨P,0,none⟩)] 27) = w0 at f0 qB HP0 ⊢
 generalize w.heap.size = B at qB ⊢
 have F0:=Lib.hid f0
 have da:=dfAt HP0.out
 have hF0:w0.drew.cell? ⟨B,0,none⟩ = some (.pointer (some ⟨P,0,none⟩)) ∧ w0.drew.cell? ⟨P,1,none⟩ = some (.int .i64 d.next.T) ∧ w0.drew.cell? ⟨P,2,none⟩ = some (.int .i64 d.next.R):=⟨cell_fr0 qB (Fr.refl noB w0).drew,cell_fr0 da.T (Fr.refl noB w0).drew,cell_fr0 da.R (Fr.refl noB w0).drew⟩
 have FD:=Lib.hid (show Fr noB w0 w0.drew from (Fr.refl noB w0).drew)
 have QB:=Lib.hid qB
 clear qB da f0
 refine wp_region_M 15 16 [⟨128,4,0⟩,⟨256,128,1⟩,⟨512,256,2⟩,⟨1024,512,4⟩,⟨2048,1024,8⟩,⟨4096,2,0⟩,⟨8192,6144,48⟩,⟨16384,8192,64⟩,⟨32768,4,0⟩,⟨65536,32768,256⟩,⟨131072,65536,512⟩,⟨262144,131072,1024⟩,⟨524288,262144,2048⟩,⟨1048576,540672,4224⟩,⟨32,0,0⟩,⟨0,1048608,32767⟩] [(true,0),(true,1),(true,2),(true,3),(true,4),(true,5),(true,6),(true,7),(true,8),(true,9),(true,10),(true,11),(true,12),(true,13),(false,14)] (fun w'=>w'.cell? ⟨B,0,none⟩ = some (.pointer (some ⟨P,0,none⟩)) ∧ w'.cell? ⟨P,1,none⟩ = some (.int .i64 d.next.T) ∧ w'.cell? ⟨P,2,none⟩ = some (.int .i64 d.next.R)) (by kernel_rfl) rfl (by kernel_rfl) (by kernel_rfl) (by kernel_rfl) hF0 (fun hA hF=>?_)
 clear hF0
 generalize w0.drew = V at FD hF ⊢
 iterate 14
  refine wpAnyS_take (v:=?_) hA rfl (fun _ _ _ h=>h) (Or.inl ⟨by rfl,?_⟩) hF (fun hA=>?_)
  rotate_left
  ·intro wS hSw;(try dsimp only at hSw);obtain ⟨s1,s2,s3⟩:=hSw;first | (apply Eq.trans;apply ex_ldS_at;exact rfl;exact rfl;assumption;with_reducible rfl) | (apply Eq.trans;apply ex_bldS2_at;exact rfl;exact rfl;exact rfl;with_reducible rfl) | (go_simp;try with_reducible rfl)
  try simp only [sA1,sA2,sA3,Act.put,sA4,sA5,sA6]
 obtain ⟨en,hen⟩:∃ en:St,en = ⟨IntKind.i64.wrap (IntKind.i64.wrap (d.next.T + (n:Int)) - 1),d.next.R⟩:=⟨_,rfl⟩
 have HEN:=Lib.hid (show (rightS d.next && rightS en) = (rightS d.next && rightS ⟨d.next.T + n - 1,d.next.R⟩) by rw [hen];exact room_wrap _ _ HW.out HNN.out)
 rw [← hen]
 clear hen
 refine wpAnyS_one hA rfl (fun K' hK=>?_)
 refine wk_runV _ _ (ex_alS_at rfl V) ?_
 have fa:Fr noB V (V.alloc (codS.o zSt)):=(Fr.refl noB V).alloc _
 replace hF:=And.intro (cell_fr0 hF.1 fa) (And.intro (cell_fr0 hF.2.1 fa) (cell_fr0 hF.2.2 fa))
 refine hK.out _ _ hF (fun hA=>?_)
 clear hK K'
 as_aux_lemma =>
 try simp only [sA1,sA2,sA3,Act.put,sA4,sA5,sA6]
 refine wpAnyS_end hA rfl ?_
 simp only [List.drop_succ_cons,List.drop_zero]
 clear hF
 go_upto_region 2 with fail
 have f2:Fr noB V (V.alloc (codS.o en)):=(Fr.refl noB V).alloc _
 have e2:=Cod.rd_new' (C:=codS) V en
 have F2:=Lib.hid (FD.out.step0 f2)
 clear f2
 generalize V.alloc (codS.o en) = w2 at e2 F2 ⊢
 generalize V.heap.size = E at e2 ⊢
 have qB:=cell_fr0 QB.out F2.out
 have hP2:=Cod.bxd_fr0 HP0.out F2.out
 have cr:=(dfAt hP2).rows
 have CR:=Lib.hid (contRm_any w2 d.A d.c d.n rs HN.out (HS.out.fr0 (F0.out.step0 F2.out)) (by have:=HB.out;omega) (.pointer (some ⟨B,0,none⟩)) (fun k=>if h:k < rs.length then decide (0 ≤ cmpS rs[k].Node d.next) else false) (fun w' f k hk=>by
  have:=room1_any w' rs[k] B P d (cell_fr0 qB f) (Cod.bxd_fr0 hP2 f)
  simpa [hk] using this))
 have QB2:=Lib.hid qB
 have HP2:=Lib.hid hP2
 have E2:=Lib.hid e2
 clear hP2 e2
 generalize ((List.range rs.length).any fun k=>if h:k < rs.length then decide (0 ≤ cmpS rs[k].Node d.next) else false) = late at HRM CR
 go_upto_region 3 with (go_at_call 81;refine CR.out.mono ?_;rintro e w3 ⟨rfl,f3⟩)
 clear qB cr
 have qB:=cell_fr0 QB2.out f3
 have da:=dfAt (Cod.bxd_fr0 HP2.out f3)
 have cr:=da.rows
 have cn:=da.next
 have ce:=Cod.rd_fr0 E2.out f3
 have l0:=World.block_lt_of_cell? _ _ qB
 have l1:P < w3.heap.size:=Cod.rd_lt cn
 have l2:=Cod.rd_lt ce
 have F3:=Lib.hid (F0.out.step0 (F2.out.step0 f3))
 simp only at l0
 clear da f3
 generalize hb3:rightS ⟨d.next.T + n - 1,d.next.R⟩ = b3 at HEN HRM
 cases hb1:rightS d.next with
 | false =>
  have HB1:=Lib.hid hb1
  have HB2:=Lib.hid trivial
  clear hb1
  go_wp2_with (go_at_call 83;refine (right_v _ d.next).mono ?_;rintro e w4 ⟨rfl,f4⟩;rw [HB1.out])
  go_ret
  refine ⟨?_,F3.out.step0 f4⟩
  have e1:=HEN.out
  have e2:=HRM.out
  rw [HB1.out] at e1 e2
  skip
  show _ = Ending.returned (.bool (roomM rs d n))
  rw [e2]
  revert e1
  clear HB1 HB2 HEN HRM e2
  cases b3 <;> cases late <;> intro e1 <;> first | rfl | cases e1
 | true =>
  have HB1:=Lib.hid hb1
  clear hb1
  cases hb2:rightS en with
  | false =>
   have HB2:=Lib.hid hb2
   clear hb2
   have tok:True:=trivial
   go_wp2_with first
    | (go_at_call 83;have _t:=tok;refine (right_v _ d.next).mono ?_;rintro e w4 ⟨rfl,f4⟩;rw [HB1.out];have ce4:=Cod.rd_fr0 ce f4;clear tok)
    | (go_at_call 83;refine (right_v _ en).mono ?_;rintro e w5 ⟨rfl,f5⟩;rw [HB2.out])
   go_ret
   refine ⟨?_,F3.out.step0 (f4.step0 f5)⟩
   have e1:=HEN.out
   have e2:=HRM.out
   rw [HB1.out] at e1 e2
   rw [HB2.out] at e1
   show _ = Ending.returned (.bool (roomM rs d n))
   rw [e2]
   revert e1
   clear HB1 HB2 HEN HRM e2
   cases b3 <;> cases late <;> intro e1 <;> first | rfl | cases e1
  | true =>
   have HB2:=Lib.hid hb2
   clear hb2
   have tok:True:=trivial
   go_wp2_with first
    | (go_at_call 83;have _t:=tok;refine (right_v _ d.next).mono ?_;rintro e w4 ⟨rfl,f4⟩;rw [HB1.out];have ce4:=Cod.rd_fr0 ce f4;clear tok)
    | (go_at_call 83;refine (right_v _ en).mono ?_;rintro e w5 ⟨rfl,f5⟩;rw [HB2.out])
   go_ret
   refine ⟨?_,F3.out.step0 (f4.step0 f5)⟩
   have e1:=HEN.out
   have e2:=HRM.out
   rw [HB1.out] at e1 e2
   rw [HB2.out] at e1
   show _ = Ending.returned (.bool (roomM rs d n))
   rw [e2]
   revert e1
   clear HB1 HB2 HEN HRM e2
   cases b3 <;> cases late <;> intro e1 <;> first | rfl | cases e1
end Go.Proofs.YthehiobacjjakaaGreatDoor
