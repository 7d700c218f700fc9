/- Contracts: slices.Clone of rows; work's clone, Rows, New. (ex_ldS_at ex_ldR_at) Contracts: work's Rows, New. (ex_ldS_at ex_bldDf_at) Plain links: what the walks of work reckon on rows in memory is what is said of plain rows. A draft in memory through its calls. -/
import Derived.Test.YthehiobacjjakaaGreatDoorWkMKp
import Derived.Test.YthehiobacjjakaaGreatDoorLsPKp
set_option linter.unusedVariables false
set_option linter.unusedSimpArgs false
namespace Go.Proofs.YthehiobacjjakaaGreatDoor
open Go.RowKit Go.Maps Go.Sort
@[go_sem] theorem rs_eq_nil (w:World) (a:Option Addr) (n c:Nat):(binOp .eql 22 (.slice a n c) (.slice none 0 0)).run Tryz.prog w = .ok (.bool a.isNone) w :=
 Lib.run_eql_slice_nil w _ _ a n c 0 0 Tryz.underlying22
def NewRs (w:World) (l:List RwW) (e:Ending) (w':World):Prop:=∃ A c,e = .returned (.slice A l.length c) ∧ OwnC codR w w' A c l ∧ Fr noB w w'
set_option maxRecDepth 100000 in
theorem clRows_any (w:World) (A:Option Addr) (c:Nat) (l:List RwW) (n:Nat) (hn:l.length = n) (hs:Sl w A (codR.row l)) (hb:l.length ≤ 1000000) :
  Calls Tryz.prog 62 #[.slice A n c] w (NewRs w l):=by
 subst hn
 rcases A with _ | ad
 ·have hl:l = []:=by
   cases l with
   | nil=>rfl
   | cons b t=>obtain ⟨g,off,h,_⟩:=hs (Cod.row_ne (by simp));cases h
  subst hl
  go_enter Tryz.func62,Tryz.ntmps62
  go_wp2
  go_ret
  exact ⟨none,0,rfl,World.ownsRow_nil _ _ _ _,Fr.refl _ _⟩
 ·have hown:=World.ownsRow_lit (base:=w.heap.size) (e:=60) (size:=8) w #[] 0 (Nat.le_refl _) (by simp [maxLen]) rfl
  have hs1:Sl (w.alloc (.cells #[] 60)) (some ad) (codR.row l):=hs.fr0 ((Fr.refl noB w).alloc _)
  go_enter Tryz.func62,Tryz.ntmps62
  go_wp2_with (at_builtin;refine wpList_app _ etR rfl _ _ rfl w.heap.size _ _ _ rfl hown (some ad) l.length c (codR.row l) rfl hs1 (Cod.row_len l) (Cod.row_one l) (by omega) (by simp) ?_;intro v' w1 h1 h2 h3)
  go_ret
  obtain ⟨A',c',rfl,_,_⟩:=own_form h1
  simp only [Nat.zero_add,List.nil_append] at h1
  exact ⟨A',c',by simp,h1,((Fr.refl noB w).alloc _).stepG (r:=some w.heap.size) h2 (by intro g hg;injection hg with hg;omega)⟩
def ClTo (w:World) (xs:List RwP) (e:Ending) (w':World):Prop :=
 ∃ (A:Option Addr) (c:Nat) (rs:List RwW),e = .returned (.slice A rs.length c) ∧ OwnC codR w w' A c rs ∧ AllO RwO w' rs xs ∧ Fr noB w w'
def ClLoop (w:World) (A:Option Addr) (c:Nat) (xs:List RwP) (gk:Nat) (iv:Value) (wr:World):Prop :=
 ∃ (k:Nat) (qs:List RwW),iv = .int .i64 (k:Int) ∧ gk = xs.length - k ∧ k ≤ xs.length ∧ qs.length = xs.length ∧ OwnC codR w wr A c qs ∧ (∀ i (h:i < qs.length) (h':i < xs.length),(k ≤ i → RwIn w qs[i] xs[i]) ∧ (i < k → RwO wr qs[i] xs[i])) ∧ Fr noB w wr
theorem seR_Heads (r:RwW) (A:Option Addr) (n c:Nat):(codR.cs r).set 7 (.slice A n c) = codR.cs { r with A:=A,n:=n,c:=c }:=rfl
set_option maxRecDepth 100000 in
set_option maxHeartbeats 4000000 in
theorem clone_any' (w:World) (A:Option Addr) (c n:Nat) (rs:List RwW) (xs:List RwP) (hn:rs.length = n) (hs:Sl w A (codR.row rs)) (hX:RwsIn w rs xs) (hb:rs.length ≤ 1000000) (hbd:∀ x ∈ xs,x.Heads.length ≤ 2932031007402) :
  Calls Tryz.prog 29 #[.slice A n c] w (ClTo w xs):=by
 subst hn
 have HXL:=Lib.hid hX.len
 have HX:=Lib.hid hX
 have HB:=Lib.hid hb
 have HOV:=Lib.hid hbd
 have CO:=Lib.hid (clRows_any w A c rs rs.length rfl hs hb)
 clear hs hX hb hbd
 go_enter Tryz.func29,Tryz.ntmps29
 go_upto_region 2 with (go_at_call 62;refine CO.out.mono ?_;rintro e w1 ⟨A1,c1,rfl,o1,f1⟩)
 have h0:ClLoop w A1 c1 xs xs.length (.int .i64 ((0:Nat):Int)) w1:=⟨0,rs,rfl,rfl,Nat.zero_le _,HXL.out,o1,fun i h h'=>⟨fun _=>HX.out.at_ i h h',fun h=>absurd h (by omega)⟩,f1⟩
 rw [HXL.out]
 clear CO o1 f1
 go_wp2_with fail
 go_loopg [9] xs.length (fun gk iv wr=>ClLoop w A1 c1 xs gk iv wr)
 case atStart=>exact h0
 case round =>
  clear h0
  obtain ⟨k,qs,rfl,rfl,hk,hql,ho,hq,hf⟩:=hrel
  have HQ:=Lib.hid hq
  clear hq
  by_cases hlt:k < xs.length
  ·have i2:(k:Int) < (xs.length:Int):=by omega
   have i0:(0:Int) ≤ (k:Int):=by omega
   have hkq:k < qs.length:=by omega
   obtain ⟨g,rfl,hg,_,_,_⟩:=RwA.own ho (by intro h;rw [h] at hkq;simp at hkq)
   have e1:codR.rd wr g (k * 8) = some qs[k]:=by
    have:=(Sl.own ho).rd k hkq
    simpa [show codR.n = 8 from rfl] using this
   have u1:wr.cell? ⟨g,k * 8 + 7,none⟩ = some (.slice (qs[k]).A (qs[k]).n (qs[k]).c):=Cod.rd_cell e1 7 rfl
   have hin:=((HQ.out k hkq hlt).1 (Nat.le_refl _)).fr hf
   have CS:=Lib.hid (clHeads_any wr (qs[k]).A (qs[k]).c (xs[k]).Heads (qs[k]).n hin.len hin.sl (HOV.out _ (List.getElem_mem hlt)))
   have HIN:=Lib.hid hin
   have HO:=Lib.hid ho
   obtain ⟨x,hx⟩:∃ x,x = qs[k]:=⟨_,rfl⟩
   obtain ⟨hh,hhh⟩:∃ hh,hh = (xs[k]).Heads:=⟨_,rfl⟩
   rw [← hhh] at CS
   rw [← hx] at CS u1
   have HXE:=Lib.hid (And.intro hx hhh)
   have HKQ:=Lib.hid hkq
   have HQL:=Lib.hid hql
   clear hin ho e1 hx hhh hql
   go_upto_region 6 with (go_at_call 63;refine CS.out.mono ?_;rintro e w4 ⟨A4,c4,rfl,o4,f4⟩;have u4:=cell_fr0 u1 f4;have z4:w4.frozen? ⟨g,k * 8 + 7,none⟩ = false:=(OwnC.put1 (C:=codR) (w0:=w) (own_new0 HO.out f4) rfl k HKQ.out 7 (by decide) (.slice A4 hh.length c4) { qs[k]'HKQ.out with A:=A4,n:=hh.length,c:=c4 } (seR_Heads _ _ _ _)).2.2)
   obtain ⟨hp1,hp2,_⟩:=OwnC.put1 (C:=codR) (w0:=w) (own_new0 HO.out f4) rfl k HKQ.out 7 (by decide) (.slice A4 hh.length c4) { qs[k]'HKQ.out with A:=A4,n:=hh.length,c:=c4 } (seR_Heads _ _ _ _)
   obtain ⟨hgl,cur,zz,hgb⟩:=own_blkW (own_new0 HO.out f4) (g:=g) rfl
   have hnh:NoHS (oneB g) w4:=fun b hb cs z=>by
    have e:b = g:=hb
    subst e
    rw [hgb]
    exact ⟨fun h=>(by injection h with h;injection h with _ h;exact absurd h (by decide)),fun h=>(by injection h with h;injection h with _ h;exact absurd h (by decide))⟩
   have o5:=own_fr o4 hp2 (fun q hq hm=>by
    rw [ownBlock_sl'] at hq
    obtain ⟨_,cur',z',h4⟩:=own_blkW o4 hq
    have e:q = g:=hm
    subst e
    rw [hgb] at h4
    injection h4 with h4
    injection h4 with _ h4
    exact absurd h4 (by decide))
   have hF5:=(hf.step0 f4).step1 hp2 hgl
   have hN5:∀ i (h:i < (qs.set k { qs[k]'HKQ.out with A:=A4,n:=hh.length,c:=c4 }).length) (h':i < xs.length),(k + 1 ≤ i → RwIn w (qs.set k { qs[k]'HKQ.out with A:=A4,n:=hh.length,c:=c4 })[i] xs[i]) ∧ (i < k + 1 → RwO (w4.setCell ⟨g,k * 8 + 7,none⟩ (.slice A4 hh.length c4)) (qs.set k { qs[k]'HKQ.out with A:=A4,n:=hh.length,c:=c4 })[i] xs[i]):=by
    intro i h h'
    have hi:i < qs.length:=by simpa using h
    by_cases e:i = k
    ·subst e
     rw [List.getElem_set_self]
     have h0:=HIN.out
     refine ⟨fun h=>absurd h (by omega),fun _=>⟨⟨h0.eq,by rw [HXE.out.2],by rw [← HXE.out.2];exact Sl.own o5,h0.bd,h0.nm,h0.wn,h0.wp⟩,by rw [← HXE.out.2];exact own_base o5 (Nat.zero_le _)⟩⟩
    ·rw [List.getElem_set_ne (Ne.symm e)]
     exact ⟨fun h=>(HQ.out i hi h').1 (by omega),fun h=>(((HQ.out i hi h').2 (by omega)).fr f4 (NoHS.nob _)).fr hp2 hnh⟩
   have HNX:=Lib.hid (And.intro hp1 (And.intro hN5 hF5))
   clear hp1 hp2 hN5 hF5 o4 o5 hgb hnh
   go_wp2_with fail
   go_roundg (xs.length - (k + 1))
   case measure=>omega
   case rel=>exact ⟨k + 1,_,by first | (simp;done) | exact congrArg (Value.int .i64) (IntWalk.wrap64_in _ (by have:=HXL.out;have:=HB.out;omega)),rfl,by omega,by rw [List.length_set];exact HQL.out,HNX.out.1,HNX.out.2.1,HNX.out.2.2⟩
  ·have i2:¬ (k:Int) < (xs.length:Int):=by omega
   have hke:k = xs.length:=by omega
   subst hke
   have HO:=Lib.hid ho
   have HQL:=Lib.hid hql
   clear ho hql
   go_wp2_with fail
   go_ret
   rw [← HQL.out]
   exact ⟨A1,c1,qs,rfl,HO.out,⟨HQL.out,fun i h h'=>(HQ.out i h h').2 h'⟩,hf⟩
theorem bldDf (w:World) (A:Option Addr) (n c:Nat) (s:St):(Instr.build 68 #[(0,.slice A n c),(1,.agg (codS.A s))]).run Tryz.prog w = .ok (.agg (codDf.A ⟨A,n,c,s⟩)) w:=by
 have e:codS.A s = #[.int .i64 s.T,.int .i64 s.R]:=by rw [Cod.A_eq];rfl
 rw [e,Cod.A_eq];go_simp;rfl
theorem ex_bldDf_at {ρ:Operand → Value} {o:Oper} {x y:Operand} {w:World} {A:Option Addr} {n c:Nat} {s:St} (ho:o.op = .build 68 #[(0,x),(1,y)]) (hx:ρ x = .slice A n c) (hy:ρ y = .agg (codS.A s)) :
  (execOp ρ o).run Tryz.prog w = .ok (.value (.agg (codDf.A ⟨A,n,c,s⟩))) w:=by
 refine ex_buildG 68 ρ o #[(0,x),(1,y)] w w _ ho ?_
 have:=bldDf w A n c s
 simpa [hx,hy] using this
theorem ex_bxDf_at {ρ:Operand → Value} {o:Oper} {x:Operand} {w:World} {d:DfW} (ho:o.op = .box 68 x) (hx:ρ x = .agg (codDf.A d)) :
  (execOp ρ o).run Tryz.prog w = .ok (.value (.pointer (some ⟨w.heap.size,0,none⟩))) (w.alloc (codDf.o d)):=by
 unfold execOp
 have this:(Instr.box 68 (.agg (codDf.A d))).run Tryz.prog w = .ok (.pointer (some ⟨w.heap.size,0,none⟩)) (w.alloc (codDf.o d)):=Cod.bxO (C:=codDf) w d
 simp only [ho,hx,Sem.run_bind,this,Result.andThen_ok,Sem.run_pure]
set_option maxRecDepth 100000 in
theorem rows_any (w:World) (P:Nat) (d:DfW) (hP:codDf.bxd w P = some d) (rs:List RwW) (hn:rs.length = d.n) (hs:Sl w d.A (codR.row rs)) (xs:List RwP) (hX:RwsIn w rs xs) (hb:rs.length ≤ 1000000) (hbd:∀ x ∈ xs,x.Heads.length ≤ 2932031007402) :
  Calls Tryz.prog 17 #[.pointer (some ⟨P,0,none⟩)] w (ClTo w xs):=by
 have CL:=Lib.hid (clone_any' w d.A d.c d.n rs xs hn hs hX hb hbd)
 have q:=(dfAt hP).rows
 clear hP hn hs hX hb hbd
 go_enter Tryz.func17,Tryz.ntmps17
 go_wp2_with (go_at_call 29;refine CL.out.mono ?_;rintro e w1 ⟨A1,c1,rs1,rfl,o1,h1,f1⟩)
 go_ret
 exact ⟨A1,c1,rs1,rfl,o1,h1,f1⟩
noncomputable def newD (xs:List RwP):List RwP:=if rightB xs = true then xs else []
theorem newD_ok (xs:List RwP):TreeOk (newD xs):=by
 unfold newD
 split
 ·rename_i h;exact rightB_iff.1 h
 ·exact ⟨by simp,(fun r h=>nomatch h),rfl,(fun r h=>nomatch h)⟩
structure Dw (W w:World) (P:Nat) (D:Dft) (d:DfW) (rs:List RwW):Prop where
 bx:codDf.bxd w P = some d
 n:rs.length = d.n
 own:OwnC codR W w d.A d.c rs
 rows:AllO RwO w rs D.rows
 next:d.next = D.next
 base:W.heap.size ≤ P
structure NwTo (w:World) (D:Dft) (e:Ending) (w':World):Prop where
 ex:∃ P d rs,e = .returned (.pointer (some ⟨P,0,none⟩)) ∧ Dw w w' P D d rs
 fr:Fr noB w w'
set_option maxRecDepth 100000 in
set_option maxHeartbeats 2000000 in
theorem new_any' (w:World) (A:Option Addr) (c n:Nat) (rs:List RwW) (xs:List RwP) (hn:rs.length = n) (hs:Sl w A (codR.row rs)) (hb:rs.length ≤ 140737488355328) (hX:RwsIn w rs xs) (hbd:∀ x ∈ xs,x.Heads.length ≤ 2932031007402) (s:St) :
  Calls Tryz.prog 9 #[.slice A n c,.agg (codS.A s)] w (NwTo w ⟨newD xs,s⟩):=by
 have f0:Fr noB w (w.alloc (.cells (codS.A s) 24)):=(Fr.refl noB w).alloc _
 have q0:=Cod.rd_new (C:=codS) w 24 s
 have NT:=Lib.hid (fun w' (f:Fr noB w w')=>ntree_any w' A c n rs xs hn (hs.fr0 f) hb (hX.fr f) hbd)
 have CL:=Lib.hid (fun w' (f:Fr noB w w') (ht:TreeOk xs)=>clone_any' w' A c n rs xs hn (hs.fr0 f) (hX.fr f) (by have:=ht.len;have:=hX.len;omega) hbd)
 have CN:=Lib.hid (fun w'=>clone_any' w' none 0 0 [] [] rfl (Sl.nil _ _) RwsIn.nil (by simp) (by simp))
 clear hn hs hb hX hbd
 go_enter Tryz.func9,Tryz.ntmps9
 go_upto_region 1 with fail
 generalize w.alloc (.cells (codS.A s) 24) = w0 at f0 q0 ⊢
 obtain ⟨Q,eQ⟩:∃ Q,Q = w.heap.size:=⟨_,rfl⟩
 rw [← eQ] at q0 ⊢
 have HQ:=Lib.hid (show w.heap.size ≤ Q by omega)
 clear eQ
 have F0:=Lib.hid f0
 have Q0:=Lib.hid q0
 clear f0 q0
 by_cases ht:TreeOk xs
 ·have HT:=Lib.hid ht
  have HND:=Lib.hid (show newD xs = xs by unfold newD;rw [if_pos (rightB_iff.2 ht)])
  go_upto_region 3 with (go_at_call 28;refine (NT.out w0 F0.out).mono ?_;rintro e w1 ⟨b,rfl,f1,hbb⟩;have eb:b = true:=hbb.2 HT.out;rw [eb])
  have F1:=Lib.hid f1
  clear hbb f1 eb ht
  have keep:∀ w' w'':World,Fr noB w' w'' → codS.rd w' Q 0 = some s → codS.rd w'' Q 0 = some s:=fun w' w'' f h=>Cod.rd_fr0 h f
  have hF0:=keep w0 w1.drew (F1.out.step0 (Fr.refl noB w1).drew) Q0.out
  have FD:=Lib.hid (show Fr noB w1 w1.drew from (Fr.refl noB w1).drew)
  refine wp_region_M 5 6 [⟨256,1,0⟩,⟨512,256,1⟩,⟨1024,8,0⟩,⟨2048,1536,6⟩,⟨4096,2048,8⟩,⟨16,4096,31⟩] [(true,0),(true,2),(false,1),(true,3),(false,4)] (fun w'=>codS.rd w' Q 0 = some s) (by kernel_rfl) rfl (by kernel_rfl) (by kernel_rfl) (by kernel_rfl) hF0 (fun hA hF=>?_)
  clear hF0
  generalize w1.drew = V at FD hF ⊢
  iterate 2
   refine wpAnyS_take (v:=?_) hA rfl (fun _ _ _ h=>h) (Or.inl ⟨by rfl,?_⟩) hF (fun hA=>?_)
   rotate_left
   ·intro wS hSw;(try dsimp only at hSw);obtain s1:=hSw;first | (apply Eq.trans;apply ex_ldS_at;exact rfl;exact rfl;assumption;with_reducible rfl) | (apply Eq.trans;apply ex_bldDf_at;exact rfl;exact rfl;exact rfl;with_reducible rfl) | (go_simp;try with_reducible rfl)
   try simp only [sA1,sA2,sA3,Act.put,sA4,sA5,sA6]
  refine wpAnyS_one hA rfl (fun K' hK=>?_)
  go_simp
  go_at_call 29
  refine (CL.out V (F0.out.step0 (F1.out.step0 FD.out)) HT.out).mono ?_
  rintro e w2 ⟨A2,c2,rs2,rfl,o2,h2,f2⟩
  replace hF:=keep _ _ f2 hF
  refine hK.out _ _ hF (fun hA=>?_)
  clear hK K'
  try simp only [sA1,sA2,sA3,Act.put,sA4,sA5,sA6]
  refine wpAnyS_take (v:=?_) hA rfl (fun _ _ _ h=>h) (Or.inl ⟨by rfl,?_⟩) hF (fun hA=>?_)
  rotate_left
  ·intro wS hSw;(try dsimp only at hSw);obtain s1:=hSw;first | (apply Eq.trans;apply ex_ldS_at;exact rfl;exact rfl;assumption;with_reducible rfl) | (apply Eq.trans;apply ex_bldDf_at;exact rfl;exact rfl;exact rfl;with_reducible rfl) | (go_simp;try with_reducible rfl)
  try simp only [sA1,sA2,sA3,Act.put,sA4,sA5,sA6]
  refine wpAnyS_one hA rfl (fun K' hK=>?_)
  refine wk_runV _ _ (ex_bxDf_at (d:=⟨A2,rs2.length,c2,s⟩) rfl rfl) ?_
  have fb:Fr noB w2 (w2.alloc (codDf.o ⟨A2,rs2.length,c2,s⟩)):=(Fr.refl noB w2).alloc _
  have b3:=Cod.bxd_new (C:=codDf) w2 ⟨A2,rs2.length,c2,s⟩
  have o3:=own_new0 o2 fb
  replace hF:=keep _ _ fb hF
  refine hK.out _ _ hF (fun hA=>?_)
  clear hK K'
  try simp only [sA1,sA2,sA3,Act.put,sA4,sA5,sA6]
  refine wpAnyS_end hA rfl ?_
  simp only [List.drop_succ_cons,List.drop_zero]
  clear hF keep
  have HR3:=Lib.hid (h2.map fun r x h=>h.fr fb (NoHS.nob _))
  have FF:=Lib.hid (F0.out.step0 (F1.out.step0 (FD.out.step0 f2)))
  have FB:=Lib.hid fb
  have B3:=Lib.hid b3
  have O3:=Lib.hid (own_base o3 (show w.heap.size ≤ V.heap.size from (F0.out.step0 (F1.out.step0 FD.out)).size))
  clear h2 f2 fb b3 o3 o2
  go_wp2_with fail
  go_ret
  exact ⟨⟨w2.heap.size,_,rs2,rfl,B3.out,rfl,O3.out,by rw [HND.out];exact HR3.out,rfl,FF.out.size⟩,FF.out.step0 FB.out⟩
 ·have HT:=Lib.hid ht
  have HND:=Lib.hid (show newD xs = [] by unfold newD;rw [rightB_no ht];rfl)
  go_upto_region 3 with (go_at_call 28;refine (NT.out w0 F0.out).mono ?_;rintro e w1 ⟨b,rfl,f1,hbb⟩;have eb:b = false:=(by cases b with | false=>rfl | true=>exact absurd (hbb.1 rfl) HT.out);rw [eb])
  have F1:=Lib.hid f1
  clear hbb f1 eb ht
  have keep:∀ w' w'':World,Fr noB w' w'' → codS.rd w' Q 0 = some s → codS.rd w'' Q 0 = some s:=fun w' w'' f h=>Cod.rd_fr0 h f
  have hF0:=keep w0 w1.drew (F1.out.step0 (Fr.refl noB w1).drew) Q0.out
  have FD:=Lib.hid (show Fr noB w1 w1.drew from (Fr.refl noB w1).drew)
  refine wp_region_M 5 6 [⟨256,1,0⟩,⟨512,256,1⟩,⟨1024,8,0⟩,⟨2048,1536,6⟩,⟨4096,2048,8⟩,⟨16,4096,31⟩] [(true,0),(true,2),(false,1),(true,3),(false,4)] (fun w'=>codS.rd w' Q 0 = some s) (by kernel_rfl) rfl (by kernel_rfl) (by kernel_rfl) (by kernel_rfl) hF0 (fun hA hF=>?_)
  clear hF0
  generalize w1.drew = V at FD hF ⊢
  iterate 2
   refine wpAnyS_take (v:=?_) hA rfl (fun _ _ _ h=>h) (Or.inl ⟨by rfl,?_⟩) hF (fun hA=>?_)
   rotate_left
   ·intro wS hSw;(try dsimp only at hSw);obtain s1:=hSw;first | (apply Eq.trans;apply ex_ldS_at;exact rfl;exact rfl;assumption;with_reducible rfl) | (apply Eq.trans;apply ex_bldDf_at;exact rfl;exact rfl;exact rfl;with_reducible rfl) | (go_simp;try with_reducible rfl)
   try simp only [sA1,sA2,sA3,Act.put,sA4,sA5,sA6]
  refine wpAnyS_one hA rfl (fun K' hK=>?_)
  go_simp
  go_at_call 29
  refine (CN.out V).mono ?_
  rintro e w2 ⟨A2,c2,rs2,rfl,o2,h2,f2⟩
  replace hF:=keep _ _ f2 hF
  refine hK.out _ _ hF (fun hA=>?_)
  clear hK K'
  try simp only [sA1,sA2,sA3,Act.put,sA4,sA5,sA6]
  refine wpAnyS_take (v:=?_) hA rfl (fun _ _ _ h=>h) (Or.inl ⟨by rfl,?_⟩) hF (fun hA=>?_)
  rotate_left
  ·intro wS hSw;(try dsimp only at hSw);obtain s1:=hSw;first | (apply Eq.trans;apply ex_ldS_at;exact rfl;exact rfl;assumption;with_reducible rfl) | (apply Eq.trans;apply ex_bldDf_at;exact rfl;exact rfl;exact rfl;with_reducible rfl) | (go_simp;try with_reducible rfl)
  try simp only [sA1,sA2,sA3,Act.put,sA4,sA5,sA6]
  refine wpAnyS_one hA rfl (fun K' hK=>?_)
  refine wk_runV _ _ (ex_bxDf_at (d:=⟨A2,rs2.length,c2,s⟩) rfl rfl) ?_
  have fb:Fr noB w2 (w2.alloc (codDf.o ⟨A2,rs2.length,c2,s⟩)):=(Fr.refl noB w2).alloc _
  have b3:=Cod.bxd_new (C:=codDf) w2 ⟨A2,rs2.length,c2,s⟩
  have o3:=own_new0 o2 fb
  replace hF:=keep _ _ fb hF
  refine hK.out _ _ hF (fun hA=>?_)
  clear hK K'
  try simp only [sA1,sA2,sA3,Act.put,sA4,sA5,sA6]
  refine wpAnyS_end hA rfl ?_
  simp only [List.drop_succ_cons,List.drop_zero]
  clear hF keep
  have HR3:=Lib.hid (h2.map fun r x h=>h.fr fb (NoHS.nob _))
  have FF:=Lib.hid (F0.out.step0 (F1.out.step0 (FD.out.step0 f2)))
  have FB:=Lib.hid fb
  have B3:=Lib.hid b3
  have O3:=Lib.hid (own_base o3 (show w.heap.size ≤ V.heap.size from (F0.out.step0 (F1.out.step0 FD.out)).size))
  clear h2 f2 fb b3 o3 o2
  go_wp2_with fail
  go_ret
  exact ⟨⟨w2.heap.size,_,rs2,rfl,B3.out,rfl,O3.out,by rw [HND.out];exact HR3.out,rfl,FF.out.size⟩,FF.out.step0 FB.out⟩
theorem AllO.filter {α β:Type} {R:World → α → β → Prop} {w:World} (f:α → Bool) (g:β → Bool) (hfg:∀ r x,R w r x → f r = g x):∀ {rs:List α} {xs:List β},AllO R w rs xs → AllO R w (rs.filter f) (xs.filter g)
 | [],[],_=>AllO.nil
 | [],_ :: _,h=>by have:=h.1;simp at this
 | _ :: _,[],h=>by have:=h.1;simp at this
 | r :: rs,x :: xs,h=>by
  obtain ⟨h1,h2⟩:=h.tail
  rw [List.filter_cons,List.filter_cons,hfg r x h1]
  split
  ·exact AllO.cons h1 (h2.filter f g hfg)
  ·exact h2.filter f g hfg
theorem AllO.any {α β:Type} {R:World → α → β → Prop} {w:World} (f:α → Bool) (g:β → Bool) (hfg:∀ r x,R w r x → f r = g x):∀ {rs:List α} {xs:List β},AllO R w rs xs → rs.any f = xs.any g
 | [],[],_=>rfl
 | [],_ :: _,h=>by have:=h.1;simp at this
 | _ :: _,[],h=>by have:=h.1;simp at this
 | r :: rs,x :: xs,h=>by
  obtain ⟨h1,h2⟩:=h.tail
  rw [List.any_cons,List.any_cons,hfg r x h1,h2.any f g hfg]
theorem kids_link {w:World} {rs:List RwW} {xs:List RwP} (h:AllO RwO w rs xs) (p:St):AllO RwO w (kidsM rs p) (kidsD xs p) :=
 h.filter _ _ fun r x hr=>by rw [hr.inn.parent]
theorem shown_link {w:World} {us:List RwW} {vs:List RwP} (h:AllO RwO w us vs) (i:Nat) {r:RwW} {x:RwP} (hr:RwO w r x):shownM us i r = shownD vs i x:=by
 unfold shownM shownD twiceD
 rw [(h.take i).any (fun y=>decide (y.Name = r.Name)) (fun y=>decide (y.Name = x.Name)) (fun a b hab=>by rw [hab.inn.name,hr.inn.name]),hr.inn.name,hr.inn.node]
theorem kidFrom_link {w:World} {us:List RwW} {vs:List RwP} (h:AllO RwO w us vs) (nm:List UInt8):∀ (i:Nat) {l:List RwW} {m:List RwP},AllO RwO w l m → (kidFromM us nm i l = none ∧ kidFrom vs nm i m = none) ∨ ∃ r x,kidFromM us nm i l = some r ∧ kidFrom vs nm i m = some x ∧ RwO w r x
 | i,[],[],_=>.inl ⟨rfl,rfl⟩
 | i,[],_ :: _,h=>by have:=h.1;simp at this
 | i,_ :: _,[],h=>by have:=h.1;simp at this
 | i,r :: l,x :: m,hl=>by
  obtain ⟨h1,h2⟩:=hl.tail
  unfold kidFromM kidFrom
  rw [shown_link h i h1]
  split
  ·exact .inr ⟨r,x,rfl,rfl,h1⟩
  ·exact kidFrom_link h nm (i + 1) h2
theorem kid_link {w:World} {rs:List RwW} {xs:List RwP} (h:AllO RwO w rs xs) (p:St) (nm:List UInt8):(kidM rs p nm = none ∧ kidD xs p nm = none) ∨ ∃ r x,kidM rs p nm = some r ∧ kidD xs p nm = some x ∧ RwO w r x :=
 kidFrom_link (kids_link h p) nm 0 (kids_link h p)
theorem walk_link {w:World} {rs:List RwW} {xs:List RwP} (h:AllO RwO w rs xs):∀ (l:List (List UInt8)) {a:RwW} {b:RwP},RwO w a b → RwO w (walkM rs a l).1 (walkD xs b l).1 ∧ (walkM rs a l).2 = (walkD xs b l).2
 | [],a,b,hab=>⟨hab,rfl⟩
 | nm :: l,a,b,hab=>by
  unfold walkM walkD
  rw [hab.inn.node]
  rcases kid_link h a.Node nm with ⟨e1,e2⟩ | ⟨r,x,e1,e2,h1⟩
  ·rw [e1,e2]
   exact ⟨hab,rfl⟩
  ·rw [e1,e2]
   obtain ⟨h2,h3⟩:=walk_link h l h1
   exact ⟨h2,by simp only [h3]⟩
theorem RwO.zeroW (w:World):RwO w zRwW zRwP:=⟨⟨rfl,rfl,Sl.nil _ _,by simp [zRwP],by simp [zRwW],wf_zSt,wf_zSt⟩,World.ownsRow_nil _ _ _ _⟩
theorem walk_link0 {w:World} {rs:List RwW} {xs:List RwP} (h:AllO RwO w rs xs) (l:List (List UInt8)):RwO w (walkM rs zRwW l).1 (walkD xs zRwP l).1 ∧ (walkM rs zRwW l).2 = (walkD xs zRwP l).2:=walk_link h l (RwO.zeroW w)
theorem room_link {w:World} {rs:List RwW} {D:Dft} (h:AllO RwO w rs D.rows) {d:DfW} (hd:d.next = D.next) (n:Nat):roomM rs d n = roomD D n:=by
 unfold roomM roomD
 rw [hd]
 congr 2
 have e:((List.range rs.length).any fun k=>if h:k < rs.length then decide (0 ≤ cmpS rs[k].Node D.next) else false) = rs.any fun r=>decide (0 ≤ cmpS r.Node D.next):=by
  rw [Bool.eq_iff_iff,List.any_eq_true,List.any_eq_true]
  constructor
  ·rintro ⟨k,hk,h⟩
   rw [List.mem_range] at hk
   rw [dif_pos hk] at h
   exact ⟨_,List.getElem_mem hk,h⟩
  ·rintro ⟨x,hx,h⟩
   obtain ⟨k,hk,rfl⟩:=List.getElem_of_mem hx
   exact ⟨k,List.mem_range.2 hk,by rw [dif_pos hk];exact h⟩
 rw [e]
 exact h.any _ _ fun r x hr=>by rw [hr.inn.node]
theorem find_link {w:World} {rs:List RwW} {xs:List RwP} (h:AllO RwO w rs xs) (p:List UInt8):findM rs p = if namesOk p && decide ((splitD p).length ≤ (walkD xs zRwP (splitD p)).2) then ((walkD xs zRwP (splitD p)).1.Node,true) else (zSt,false):=by
 unfold findM
 obtain ⟨h1,h2⟩:=walk_link0 h (splitD p)
 rw [h2,h1.inn.node]
theorem rowsOk_link {w:World} {rs:List RwW} {xs:List RwP} (h:AllO RwO w rs xs):RowsOk rs:=fun r hr=>by
 obtain ⟨i,hi,rfl⟩:=List.getElem_of_mem hr
 have:=(h.2 i hi (by rw [← h.1];exact hi)).inn
 exact ⟨this.wn,this.nm⟩
theorem ris_linkP {w:World} {rs:List RwW} {xs:List RwP} (h:AllO RwO w rs xs) (ht:xs.Pairwise fun a b=>cmpS a.Node b.Node < 0):RisM rs:=by
 unfold RisM
 rw [List.pairwise_iff_getElem]
 intro i j hi hj hij
 have h1:=(h.2 i hi (by rw [← h.1];exact hi)).inn.node
 have h2:=(h.2 j hj (by rw [← h.1];exact hj)).inn.node
 rw [← h1,← h2]
 exact List.pairwise_iff_getElem.1 ht i j _ _ hij
theorem heads_small {xs:List RwP} (ht:TreeOk xs):∀ x ∈ xs,x.Heads.length ≤ 2932031007402:=fun x hx=>by
 have:=((rightR_iff x).1 (ht.ok x hx)).1.2.2.2.2.1
 omega
theorem dM.nohs {w:World} {P:Nat} {d:DfW} {W:World} {rs:List RwW} (hb:codDf.bxd w P = some d) (ho:OwnC codR W w d.A d.c rs):NoHS (dM P d) w:=by
 have h1:NoHS (oneB P) w:=NoHS.blk (Cod.bxd_blk hb) (by decide) (by decide)
 have h2:=NoHS.own ho (by decide) (by decide)
 rw [ownBlock_sl'] at h2
 intro b hb2
 rcases hb2 with e | e
 ·exact h1 b e
 ·exact h2 b e
structure DwTo (W w:World) (P:Nat) (d:DfW) (D':Dft) (w':World):Prop where
 ex:∃ d' rs',Dw W w' P D' d' rs' ∧ dN w d d'
 fr:Fr (dM P d) w w'
theorem dN.refl (w:World) (d:DfW):dN w d d:=.inl rfl
theorem dN.trans {w w1:World} {d d1 d2:DfW} (h:dN w d d1) (k:dN w1 d1 d2) (f:w.heap.size ≤ w1.heap.size):dN w d d2:=by
 rcases k with k | k
 ·rcases h with h | h
  ·exact .inl (k.trans h)
  ·exact .inr fun b hb=>h b (by rw [← k];exact hb)
 ·exact .inr fun b hb=>Nat.le_trans f (k b hb)
theorem dM.trans {w w1 w2:World} {P:Nat} {d d1:DfW} (f:Fr (dM P d) w w1) (h:dN w d d1) (k:Fr (dM P d1) w1 w2):Fr (dM P d) w w2 :=
 f.trans k fun b hb hm=>by
  rcases hm with e | e
  ·exact .inl e
  ·rcases h with h | h
   ·exact .inr (by rw [← h];exact e)
   ·have:=h b e
    omega
theorem Dw.fr0 {W w w':World} {P:Nat} {D:Dft} {d:DfW} {rs:List RwW} (h:Dw W w P D d rs) (f:Fr noB w w'):Dw W w' P D d rs :=
 ⟨Cod.bxd_fr0 h.bx f,h.n,own_new0 h.own f,h.rows.map fun r x hr=>hr.fr f (NoHS.nob _),h.next,h.base⟩
def NoH (M:Nat → Prop) (w:World):Prop:=∀ b,M b → ∀ cs z,w.heap[b]? ≠ some (.cells cs 78 z)
theorem NoHS.h {M:Nat → Prop} {w:World} (h:NoHS M w):NoH M w:=fun b hb cs z=>(h b hb cs z).1
theorem NoH.blk {w:World} {g:Nat} {t:TypeId} {cs:List Value} (h:Blk w g t cs) (h1:t ≠ 78):NoH (oneB g) w:=fun b hb c z e=>by
 have e1:b = g:=hb
 subst e1
 unfold Blk at h
 rw [h] at e
 injection e with e
 injection e with _ e
 exact h1 e
theorem RwO.frH {M:Nat → Prop} {w w':World} {r:RwW} {x:RwP} (h:RwO w r x) (f:Fr M w w') (hM:NoH M w):RwO w' r x:=by
 have ho:=own_hs h.own f hM
 exact ⟨h.inn.own_ ho,ho⟩
theorem Dw.frM {W w w':World} {P:Nat} {D:Dft} {d:DfW} {rs:List RwW} {M:Nat → Prop} (h:Dw W w P D d rs) (f:Fr M w w') (h1:¬ M P) (h2:∀ b,d.A.map (·.block) = some b → ¬ M b) (h3:NoH M w):Dw W w' P D d rs :=
 ⟨Cod.bxd_fr h.bx f h1,h.n,own_fr h.own f (fun g hg=>h2 g (by rw [ownBlock_sl'] at hg;exact hg)),h.rows.map fun r x hr=>hr.frH f h3,h.next,h.base⟩
theorem DwTo.old {W w w':World} {P:Nat} {D D':Dft} {d:DfW} {rs:List RwW} (h:Dw W w P D d rs) (k:DwTo W w P d D' w') (f:Fr noB W w):Fr noB W w' :=
 f.step k.fr fun b hb=>by
  rcases hb with e | e
  ·exact .inl (by rw [e];exact h.base)
  ·exact .inl (own_lt h.own b e).1
theorem DwTo.of0 {W w w':World} {P:Nat} {D:Dft} {d:DfW} {rs:List RwW} (h:Dw W w P D d rs) (f:Fr noB w w'):DwTo W w P d D w':=⟨⟨d,rs,h.fr0 f,dN.refl w d⟩,wk0 f⟩
structure PcTo (W w:World) (P:Nat) (d:DfW) (D':Dft) (e:Ending) (w':World):Prop where
 ret:e = .returned (.tuple #[])
 tw:DwTo W w P d D' w'
theorem put_call {W w:World} {P:Nat} {D:Dft} {d:DfW} {rs:List RwW} (h:Dw W w P D d rs) (hW:W.heap.size ≤ w.heap.size) (hp:D.rows.Pairwise fun a b=>cmpS a.Node b.Node < 0) (hb:D.rows.length ≤ 100000) {r:RwW} {x:RwP} (hr:RwO w r x)
  (hq:(∃ y ∈ D.rows,y.Node = x.Node) ∨ ∀ y ∈ D.rows,cmpS y.Node x.Node < 0):Calls Tryz.prog 57 #[.pointer (some ⟨P,0,none⟩),.agg (codR.A r)] w (PcTo W w P d ⟨putR D.rows x,D.next⟩):=by
 have hq':(∃ y ∈ rs,y.Node = r.Node) ∨ ∀ y ∈ rs,cmpS y.Node r.Node < 0:=by
  have hl:=h.rows.1
  rcases hq with ⟨y,hy,e⟩ | hq
  ·obtain ⟨i,hi,rfl⟩:=List.getElem_of_mem hy
   have h1:=(h.rows.2 i (by omega) hi).inn.node
   exact .inl ⟨rs[i]'(by omega),List.getElem_mem _,by rw [← h1,e,hr.inn.node]⟩
  ·refine .inr fun y hy=>?_
   obtain ⟨i,hi,rfl⟩:=List.getElem_of_mem hy
   have h1:=(h.rows.2 i hi (by omega)).inn.node
   rw [← h1,← hr.inn.node]
   exact hq _ (List.getElem_mem _)
 refine (put_any' W w P d h.bx rs h.n h.own hW (by have:=h.rows.1;omega) (ris_linkP h.rows hp) r hq').mono fun e w' k=>?_
 obtain ⟨d',h1,h2,h3,h4,h5⟩:=k.ex
 have hn:=dM.nohs h.bx h.own
 exact ⟨k.ret,⟨d',_,⟨h1,h4,h3,(RwsO_.put h.rows hr).map (fun r x hx=>hx.fr k.fr hn),h2.trans h.next,h.base⟩,h5⟩,k.fr⟩
structure TcTo (W w:World) (P:Nat) (D:Dft) (d:DfW) (rs:List RwW) (e:Ending) (w':World):Prop where
 ret:e = .returned (.agg (codS.A D.next))
 tw:Dw W w' P ⟨D.rows,tickD D.next 1⟩ { d with next:=tickW d.next } rs
 fr:Fr (oneB P) w w'
theorem take_call {W w:World} {P:Nat} {D:Dft} {d:DfW} {rs:List RwW} (h:Dw W w P D d rs) (hb : -9223372036854775808 ≤ D.next.T ∧ D.next.T < 9223372036854775807):Calls Tryz.prog 56 #[.pointer (some ⟨P,0,none⟩)] w (TcTo W w P D d rs) :=
 (wtake_any w P d h.bx (by rw [h.next];exact hb)).mono fun e w' k=>by
  have hn:NoHS (oneB P) w:=NoHS.blk (Cod.bxd_blk h.bx) (by decide) (by decide)
  refine ⟨by rw [← h.next];exact k.ret,⟨k.bx,h.n,own_fr h.own k.fr (fun g hg e=>?_),h.rows.map fun r x hr=>hr.fr k.fr hn,?_,h.base⟩,k.fr⟩
  ·rw [ownBlock_sl'] at hg
   obtain ⟨_,cur,z,h1⟩:=own_blkW h.own hg
   have h2:=Cod.bxd_blk h.bx
   have e:g = P:=e
   unfold Blk at h2
   rw [← e,h1] at h2
   injection h2 with h2
   injection h2 with _ h2
   exact absurd h2 (by decide)
  ·show tickW d.next = tickD D.next 1
   rw [h.next]
   rfl
theorem dM.one (P:Nat) (d:DfW) {w w':World} (f:Fr (oneB P) w w'):Fr (dM P d) w w':=f.mono fun b hb=>.inl hb
theorem room_call {W w:World} {P:Nat} {D:Dft} {d:DfW} {rs:List RwW} (h:Dw W w P D d rs) (hb:D.rows.length ≤ 100000) (hw:wfS D.next = true) (n:Nat) (hn:n ≤ 1000000):Calls Tryz.prog 55 #[.pointer (some ⟨P,0,none⟩),.int .i64 (n:Int)] w (Gives w (.bool (roomD D n))):=by
 have:=room_any w P d h.bx rs h.n (Sl.own h.own) (by have:=h.rows.1;omega) (by rw [h.next];exact hw) n hn
 rw [room_link h.rows h.next] at this
 exact this
theorem walk_call {W w:World} {P:Nat} {D:Dft} {d:DfW} {rs:List RwW} (h:Dw W w P D d rs) (hb:D.rows.length ≤ 100000) (hT:HasT w) (A:Option Addr) (c n:Nat) (l:List (List UInt8)) (hl:l.length = n) (hsl:Sl w A (nmsV l)) (hlb:l.length ≤ 100000000000000) :
  Calls Tryz.prog 39 #[.pointer (some ⟨P,0,none⟩),.slice A n c] w (fun e w'=>∃ r,e = .returned (.tuple #[.agg (codR.A r),.int .i64 ((walkD D.rows zRwP l).2:Int)]) ∧ RwO w' r (walkD D.rows zRwP l).1 ∧ Fr noB w w') :=
 (walk_any w P d h.bx rs h.n (Sl.own h.own) (by have:=h.rows.1;omega) (rowsOk_link h.rows) hT A c n l hl hsl hlb).mono fun e w' ⟨h1,f⟩=>by
  obtain ⟨h2,h3⟩:=walk_link0 h.rows l
  exact ⟨(walkM rs zRwW l).1,by rw [← h3];exact h1,h2.fr f (NoHS.nob _),f⟩
theorem kid_call {W w:World} {P:Nat} {D:Dft} {d:DfW} {rs:List RwW} (h:Dw W w P D d rs) (hb:D.rows.length ≤ 100000) (hT:HasT w) (p:St) (nm:List UInt8) :
  Calls Tryz.prog 58 #[.pointer (some ⟨P,0,none⟩),.agg (codS.A p),.string (str nm)] w (fun e w'=>∃ r,e = .returned (.tuple #[.agg (codR.A r),.bool (kidD D.rows p nm).isSome]) ∧ Fr noB w w') :=
 (kid_any w P d h.bx rs h.n (Sl.own h.own) (by have:=h.rows.1;omega) (rowsOk_link h.rows) hT p nm).mono fun e w' ⟨h1,f⟩=>by
  refine ⟨(kidM rs p nm).getD zRwW,?_,f⟩
  rcases kid_link h.rows p nm with ⟨e1,e2⟩ | ⟨r,x,e1,e2,_⟩ <;> rw [e1] at h1 ⊢ <;> rw [e2] <;> exact h1
end Go.Proofs.YthehiobacjjakaaGreatDoor
