/- Contracts: slices.Clone of rows; work's clone, Rows, New. (ex_ldS_at ex_ldR_at) Contracts: work's Rows, New. (ex_ldS_at ex_bldDf_at) -/
import Derived.Test.YthehiobacjjakaaGreatDoorWkMKn
import Derived.Test.YthehiobacjjakaaGreatDoorLsPKn
set_option linter.unusedVariables false
set_option linter.unusedSimpArgs false
namespace Go.Proofs.YthehiobacjjakaaGreatDoor
open Go.RowKit Go.Maps Go.Sort
@[go_sem] theorem rs_eq_nil (w:World) (a:Option Addr) (n c:Nat):(binOp .eql 22 (.slice a n c) (.slice none 0 0)).run Tryz.prog w = .ok (.bool a.isNone) w :=
 Lib.run_eql_slice_nil w _ _ a n c 0 0 Tryz.underlying22
def NewRs (w:World) (l:List RwW) (e:Ending) (w':World):Prop:=∃ A c,e = .returned (.slice A l.length c) ∧ OwnC codR w w' A c l ∧ Fr noB w w'
set_option maxRecDepth 100000 in
theorem clRows_any (w:World) (A:Option Addr) (c:Nat) (l:List RwW) (n:Nat) (hn:l.length = n) (hs:Sl w A (codR.row l)) (hb:l.length ≤ 1000000) :
  Calls Tryz.prog 62 #[.slice A n c] w (NewRs w l):=by
 subst hn
 rcases A with _ | ad
 ·have hl:l = []:=by
   cases l with
   | nil=>rfl
   | cons b t=>obtain ⟨g,off,h,_⟩:=hs (Cod.row_ne (by simp));cases h
  subst hl
  go_enter Tryz.func62,Tryz.ntmps62
  go_wp2
  go_ret
  exact ⟨none,0,rfl,World.ownsRow_nil _ _ _ _,Fr.refl _ _⟩
 ·have hown:=World.ownsRow_lit (base:=w.heap.size) (e:=60) (size:=8) w #[] 0 (Nat.le_refl _) (by simp [maxLen]) rfl
  have hs1:Sl (w.alloc (.cells #[] 60)) (some ad) (codR.row l):=hs.fr0 ((Fr.refl noB w).alloc _)
  go_enter Tryz.func62,Tryz.ntmps62
  go_wp2_with (at_builtin;refine wpList_app _ etR rfl _ _ rfl w.heap.size _ _ _ rfl hown (some ad) l.length c (codR.row l) rfl hs1 (Cod.row_len l) (Cod.row_one l) (by omega) (by simp) ?_;intro v' w1 h1 h2 h3)
  go_ret
  obtain ⟨A',c',rfl,_,_⟩:=own_form h1
  simp only [Nat.zero_add,List.nil_append] at h1
  exact ⟨A',c',by simp,h1,((Fr.refl noB w).alloc _).stepG (r:=some w.heap.size) h2 (by intro g hg;injection hg with hg;omega)⟩
def ClTo (w:World) (xs:List RwP) (e:Ending) (w':World):Prop :=
 ∃ (A:Option Addr) (c:Nat) (rs:List RwW),e = .returned (.slice A rs.length c) ∧ OwnC codR w w' A c rs ∧ AllO RwO w' rs xs ∧ Fr noB w w'
def ClLoop (w:World) (A:Option Addr) (c:Nat) (xs:List RwP) (gk:Nat) (iv:Value) (wr:World):Prop :=
 ∃ (k:Nat) (qs:List RwW),iv = .int .i64 (k:Int) ∧ gk = xs.length - k ∧ k ≤ xs.length ∧ qs.length = xs.length ∧ OwnC codR w wr A c qs ∧ (∀ i (h:i < qs.length) (h':i < xs.length),(k ≤ i → RwIn w qs[i] xs[i]) ∧ (i < k → RwO wr qs[i] xs[i])) ∧ Fr noB w wr
theorem seR_Heads (r:RwW) (A:Option Addr) (n c:Nat):(codR.cs r).set 7 (.slice A n c) = codR.cs { r with A:=A,n:=n,c:=c }:=rfl
set_option maxRecDepth 100000 in
set_option maxHeartbeats 4000000 in
theorem clone_any' (w:World) (A:Option Addr) (c n:Nat) (rs:List RwW) (xs:List RwP) (hn:rs.length = n) (hs:Sl w A (codR.row rs)) (hX:RwsIn w rs xs) (hb:rs.length ≤ 1000000) (hbd:∀ x ∈ xs,x.Heads.length ≤ 2932031007402) :
  Calls Tryz.prog 29 #[.slice A n c] w (ClTo w xs):=by
 subst hn
 have HXL:=Lib.hid hX.len
 have HX:=Lib.hid hX
 have HB:=Lib.hid hb
 have HOV:=Lib.hid hbd
 have CO:=Lib.hid (clRows_any w A c rs rs.length rfl hs hb)
 clear hs hX hb hbd
 go_enter Tryz.func29,Tryz.ntmps29
 go_upto_region 2 with (go_at_call 62;refine CO.out.mono ?_;rintro e w1 ⟨A1,c1,rfl,o1,f1⟩)
 have h0:ClLoop w A1 c1 xs xs.length (.int .i64 ((0:Nat):Int)) w1:=⟨0,rs,rfl,rfl,Nat.zero_le _,HXL.out,o1,fun i h h'=>⟨fun _=>HX.out.at_ i h h',fun h=>absurd h (by omega)⟩,f1⟩
 rw [HXL.out]
 clear CO o1 f1
 go_wp2_with fail
 go_loopg [9] xs.length (fun gk iv wr=>ClLoop w A1 c1 xs gk iv wr)
 case atStart=>exact h0
 case round =>
  clear h0
  obtain ⟨k,qs,rfl,rfl,hk,hql,ho,hq,hf⟩:=hrel
  have HQ:=Lib.hid hq
  clear hq
  by_cases hlt:k < xs.length
  ·have i2:(k:Int) < (xs.length:Int):=by omega
   have i0:(0:Int) ≤ (k:Int):=by omega
   have hkq:k < qs.length:=by omega
   obtain ⟨g,rfl,hg,_,_,_⟩:=RwA.own ho (by intro h;rw [h] at hkq;simp at hkq)
   have e1:codR.rd wr g (k * 8) = some qs[k]:=by
    have:=(Sl.own ho).rd k hkq
    simpa [show codR.n = 8 from rfl] using this
   have u1:wr.cell? ⟨g,k * 8 + 7,none⟩ = some (.slice (qs[k]).A (qs[k]).n (qs[k]).c):=Cod.rd_cell e1 7 rfl
   have hin:=((HQ.out k hkq hlt).1 (Nat.le_refl _)).fr hf
   have CS:=Lib.hid (clHeads_any wr (qs[k]).A (qs[k]).c (xs[k]).Heads (qs[k]).n hin.len hin.sl (HOV.out _ (List.getElem_mem hlt)))
   have HIN:=Lib.hid hin
   have HO:=Lib.hid ho
   obtain ⟨x,hx⟩:∃ x,x = qs[k]:=⟨_,rfl⟩
   obtain ⟨hh,hhh⟩:∃ hh,hh = (xs[k]).Heads:=⟨_,rfl⟩
   rw [← hhh] at CS
   rw [← hx] at CS u1
   have HXE:=Lib.hid (And.intro hx hhh)
   have HKQ:=Lib.hid hkq
   have HQL:=Lib.hid hql
   clear hin ho e1 hx hhh hql
   go_upto_region 6 with (go_at_call 63;refine CS.out.mono ?_;rintro e w4 ⟨A4,c4,rfl,o4,f4⟩;have u4:=cell_fr0 u1 f4;have z4:w4.frozen? ⟨g,k * 8 + 7,none⟩ = false:=(OwnC.put1 (C:=codR) (w0:=w) (own_new0 HO.out f4) rfl k HKQ.out 7 (by decide) (.slice A4 hh.length c4) { qs[k]'HKQ.out with A:=A4,n:=hh.length,c:=c4 } (seR_Heads _ _ _ _)).2.2)
   obtain ⟨hp1,hp2,_⟩:=OwnC.put1 (C:=codR) (w0:=w) (own_new0 HO.out f4) rfl k HKQ.out 7 (by decide) (.slice A4 hh.length c4) { qs[k]'HKQ.out with A:=A4,n:=hh.length,c:=c4 } (seR_Heads _ _ _ _)
   obtain ⟨hgl,cur,zz,hgb⟩:=own_blkW (own_new0 HO.out f4) (g:=g) rfl
   have hnh:NoHS (oneB g) w4:=fun b hb cs z=>by
    have e:b = g:=hb
    subst e
    rw [hgb]
    exact ⟨fun h=>(by injection h with h;injection h with _ h;exact absurd h (by decide)),fun h=>(by injection h with h;injection h with _ h;exact absurd h (by decide))⟩
   have o5:=own_fr o4 hp2 (fun q hq hm=>by
    rw [ownBlock_sl'] at hq
    obtain ⟨_,cur',z',h4⟩:=own_blkW o4 hq
    have e:q = g:=hm
    subst e
    rw [hgb] at h4
    injection h4 with h4
    injection h4 with _ h4
    exact absurd h4 (by decide))
   have hF5:=(hf.step0 f4).step1 hp2 hgl
   have hN5:∀ i (h:i < (qs.set k { qs[k]'HKQ.out with A:=A4,n:=hh.length,c:=c4 }).length) (h':i < xs.length),(k + 1 ≤ i → RwIn w (qs.set k { qs[k]'HKQ.out with A:=A4,n:=hh.length,c:=c4 })[i] xs[i]) ∧ (i < k + 1 → RwO (w4.setCell ⟨g,k * 8 + 7,none⟩ (.slice A4 hh.length c4)) (qs.set k { qs[k]'HKQ.out with A:=A4,n:=hh.length,c:=c4 })[i] xs[i]):=by
    intro i h h'
    have hi:i < qs.length:=by simpa using h
    by_cases e:i = k
    ·subst e
     rw [List.getElem_set_self]
     have h0:=HIN.out
     refine ⟨fun h=>absurd h (by omega),fun _=>⟨⟨h0.eq,by rw [HXE.out.2],by rw [← HXE.out.2];exact Sl.own o5,h0.bd,h0.nm,h0.wn,h0.wp⟩,by rw [← HXE.out.2];exact own_base o5 (Nat.zero_le _)⟩⟩
    ·rw [List.getElem_set_ne (Ne.symm e)]
     exact ⟨fun h=>(HQ.out i hi h').1 (by omega),fun h=>(((HQ.out i hi h').2 (by omega)).fr f4 (NoHS.nob _)).fr hp2 hnh⟩
   have HNX:=Lib.hid (And.intro hp1 (And.intro hN5 hF5))
   clear hp1 hp2 hN5 hF5 o4 o5 hgb hnh
   go_wp2_with fail
   go_roundg (xs.length - (k + 1))
   case measure=>omega
   case rel=>exact ⟨k + 1,_,by first | (simp;done) | exact congrArg (Value.int .i64) (IntWalk.wrap64_in _ (by have:=HXL.out;have:=HB.out;omega)),rfl,by omega,by rw [List.length_set];exact HQL.out,HNX.out.1,HNX.out.2.1,HNX.out.2.2⟩
  ·have i2:¬ (k:Int) < (xs.length:Int):=by omega
   have hke:k = xs.length:=by omega
   subst hke
   have HO:=Lib.hid ho
   have HQL:=Lib.hid hql
   clear ho hql
   go_wp2_with fail
   go_ret
   rw [← HQL.out]
   exact ⟨A1,c1,qs,rfl,HO.out,⟨HQL.out,fun i h h'=>(HQ.out i h h').2 h'⟩,hf⟩
theorem bldDf (w:World) (A:Option Addr) (n c:Nat) (s:St):(Instr.build 68 #[(0,.slice A n c),(1,.agg (codS.A s))]).run Tryz.prog w = .ok (.agg (codDf.A ⟨A,n,c,s⟩)) w:=by
 have e:codS.A s = #[.int .i64 s.T,.int .i64 s.R]:=by rw [Cod.A_eq];rfl
 rw [e,Cod.A_eq];go_simp;rfl
theorem ex_bldDf_at {ρ:Operand → Value} {o:Oper} {x y:Operand} {w:World} {A:Option Addr} {n c:Nat} {s:St} (ho:o.op = .build 68 #[(0,x),(1,y)]) (hx:ρ x = .slice A n c) (hy:ρ y = .agg (codS.A s)) :
  (execOp ρ o).run Tryz.prog w = .ok (.value (.agg (codDf.A ⟨A,n,c,s⟩))) w:=by
 refine ex_buildG 68 ρ o #[(0,x),(1,y)] w w _ ho ?_
 have:=bldDf w A n c s
 simpa [hx,hy] using this
theorem ex_bxDf_at {ρ:Operand → Value} {o:Oper} {x:Operand} {w:World} {d:DfW} (ho:o.op = .box 68 x) (hx:ρ x = .agg (codDf.A d)) :
  (execOp ρ o).run Tryz.prog w = .ok (.value (.pointer (some ⟨w.heap.size,0,none⟩))) (w.alloc (codDf.o d)):=by
 unfold execOp
 have this:(Instr.box 68 (.agg (codDf.A d))).run Tryz.prog w = .ok (.pointer (some ⟨w.heap.size,0,none⟩)) (w.alloc (codDf.o d)):=Cod.bxO (C:=codDf) w d
 simp only [ho,hx,Sem.run_bind,this,Result.andThen_ok,Sem.run_pure]
set_option maxRecDepth 100000 in
theorem rows_any (w:World) (P:Nat) (d:DfW) (hP:codDf.bxd w P = some d) (rs:List RwW) (hn:rs.length = d.n) (hs:Sl w d.A (codR.row rs)) (xs:List RwP) (hX:RwsIn w rs xs) (hb:rs.length ≤ 1000000) (hbd:∀ x ∈ xs,x.Heads.length ≤ 2932031007402) :
  Calls Tryz.prog 17 #[.pointer (some ⟨P,0,none⟩)] w (ClTo w xs):=by
 have CL:=Lib.hid (clone_any' w d.A d.c d.n rs xs hn hs hX hb hbd)
 have q:=(dfAt hP).rows
 clear hP hn hs hX hb hbd
 go_enter Tryz.func17,Tryz.ntmps17
 go_wp2_with (go_at_call 29;refine CL.out.mono ?_;rintro e w1 ⟨A1,c1,rs1,rfl,o1,h1,f1⟩)
 go_ret
 exact ⟨A1,c1,rs1,rfl,o1,h1,f1⟩
noncomputable def newD (xs:List RwP):List RwP:=if rightB xs = true then xs else []
structure Dw (W w:World) (P:Nat) (D:Dft) (d:DfW) (rs:List RwW):Prop where
 bx:codDf.bxd w P = some d
 n:rs.length = d.n
 own:OwnC codR W w d.A d.c rs
 rows:AllO RwO w rs D.rows
 next:d.next = D.next
 base:W.heap.size ≤ P
structure NwTo (w:World) (D:Dft) (e:Ending) (w':World):Prop where
 ex:∃ P d rs,e = .returned (.pointer (some ⟨P,0,none⟩)) ∧ Dw w w' P D d rs
 fr:Fr noB w w'
set_option maxRecDepth 100000 in
set_option maxHeartbeats 2000000 in
theorem new_any' (w:World) (A:Option Addr) (c n:Nat) (rs:List RwW) (xs:List RwP) (hn:rs.length = n) (hs:Sl w A (codR.row rs)) (hb:rs.length ≤ 140737488355328) (hX:RwsIn w rs xs) (hbd:∀ x ∈ xs,x.Heads.length ≤ 2932031007402) (s:St) :
  Calls Tryz.prog 9 #[.slice A n c,.agg (codS.A s)] w (NwTo w ⟨newD xs,s⟩):=by
 have f0:Fr noB w (w.alloc (.cells (codS.A s) 24)):=(Fr.refl noB w).alloc _
 have q0:=Cod.rd_new (C:=codS) w 24 s
 have NT:=Lib.hid (fun w' (f:Fr noB w w')=>ntree_any w' A c n rs xs hn (hs.fr0 f) hb (hX.fr f) hbd)
 have CL:=Lib.hid (fun w' (f:Fr noB w w') (ht:TreeOk xs)=>clone_any' w' A c n rs xs hn (hs.fr0 f) (hX.fr f) (by have:=ht.len;have:=hX.len;omega) hbd)
 have CN:=Lib.hid (fun w'=>clone_any' w' none 0 0 [] [] rfl (Sl.nil _ _) RwsIn.nil (by simp) (by simp))
 clear hn hs hb hX hbd
 go_enter Tryz.func9,Tryz.ntmps9
 go_upto_region 1 with fail
 generalize w.alloc (.cells (codS.A s) 24) = w0 at f0 q0 ⊢
 obtain ⟨Q,eQ⟩:∃ Q,Q = w.heap.size:=⟨_,rfl⟩
 rw [← eQ] at q0 ⊢
 have HQ:=Lib.hid (show w.heap.size ≤ Q by omega)
 clear eQ
 have F0:=Lib.hid f0
 have Q0:=Lib.hid q0
 clear f0 q0
 by_cases ht:TreeOk xs
 ·have HT:=Lib.hid ht
  have HND:=Lib.hid (show newD xs = xs by unfold newD;rw [if_pos (rightB_iff.2 ht)])
  go_upto_region 3 with (go_at_call 28;refine (NT.out w0 F0.out).mono ?_;rintro e w1 ⟨b,rfl,f1,hbb⟩;have eb:b = true:=hbb.2 HT.out;rw [eb])
  have F1:=Lib.hid f1
  clear hbb f1 eb ht
  have keep:∀ w' w'':World,Fr noB w' w'' → codS.rd w' Q 0 = some s → codS.rd w'' Q 0 = some s:=fun w' w'' f h=>Cod.rd_fr0 h f
  have hF0:=keep w0 w1.drew (F1.out.step0 (Fr.refl noB w1).drew) Q0.out
  have FD:=Lib.hid (show Fr noB w1 w1.drew from (Fr.refl noB w1).drew)
  refine wp_region_M 5 6 [⟨256,1,0⟩,⟨512,256,1⟩,⟨1024,8,0⟩,⟨2048,1536,6⟩,⟨4096,2048,8⟩,⟨16,4096,31⟩] [(true,0),(true,2),(false,1),(true,3),(false,4)] (fun w'=>codS.rd w' Q 0 = some s) (by kernel_rfl) rfl (by kernel_rfl) (by kernel_rfl) (by kernel_rfl) hF0 (fun hA hF=>?_)
  clear hF0
  generalize w1.drew = V at FD hF ⊢
  iterate 2
   refine wpAnyS_take (v:=?_) hA rfl (fun _ _ _ h=>h) (Or.inl ⟨by rfl,?_⟩) hF (fun hA=>?_)
   rotate_left
   ·intro wS hSw;(try dsimp only at hSw);obtain s1:=hSw;first | (apply Eq.trans;apply ex_ldS_at;exact rfl;exact rfl;assumption;with_reducible rfl) | (apply Eq.trans;apply ex_bldDf_at;exact rfl;exact rfl;exact rfl;with_reducible rfl) | (go_simp;try with_reducible rfl)
   try simp only [sA1,sA2,sA3,Act.put,sA4,sA5,sA6]
  refine wpAnyS_one hA rfl (fun K' hK=>?_)
  go_simp
  go_at_call 29
  refine (CL.out V (F0.out.step0 (F1.out.step0 FD.out)) HT.out).mono ?_
  rintro e w2 ⟨A2,c2,rs2,rfl,o2,h2,f2⟩
  replace hF:=keep _ _ f2 hF
  refine hK.out _ _ hF (fun hA=>?_)
  clear hK K'
  try simp only [sA1,sA2,sA3,Act.put,sA4,sA5,sA6]
  refine wpAnyS_take (v:=?_) hA rfl (fun _ _ _ h=>h) (Or.inl ⟨by rfl,?_⟩) hF (fun hA=>?_)
  rotate_left
  ·intro wS hSw;(try dsimp only at hSw);obtain s1:=hSw;first | (apply Eq.trans;apply ex_ldS_at;exact rfl;exact rfl;assumption;with_reducible rfl) | (apply Eq.trans;apply ex_bldDf_at;exact rfl;exact rfl;exact rfl;with_reducible rfl) | (go_simp;try with_reducible rfl)
  try simp only [sA1,sA2,sA3,Act.put,sA4,sA5,sA6]
  refine wpAnyS_one hA rfl (fun K' hK=>?_)
  refine wk_runV _ _ (ex_bxDf_at (d:=⟨A2,rs2.length,c2,s⟩) rfl rfl) ?_
  have fb:Fr noB w2 (w2.alloc (codDf.o ⟨A2,rs2.length,c2,s⟩)):=(Fr.refl noB w2).alloc _
  have b3:=Cod.bxd_new (C:=codDf) w2 ⟨A2,rs2.length,c2,s⟩
  have o3:=own_new0 o2 fb
  replace hF:=keep _ _ fb hF
  refine hK.out _ _ hF (fun hA=>?_)
  clear hK K'
  try simp only [sA1,sA2,sA3,Act.put,sA4,sA5,sA6]
  refine wpAnyS_end hA rfl ?_
  simp only [List.drop_succ_cons,List.drop_zero]
  clear hF keep
  have HR3:=Lib.hid (h2.map fun r x h=>h.fr fb (NoHS.nob _))
  have FF:=Lib.hid (F0.out.step0 (F1.out.step0 (FD.out.step0 f2)))
  have FB:=Lib.hid fb
  have B3:=Lib.hid b3
  have O3:=Lib.hid (own_base o3 (show w.heap.size ≤ V.heap.size from (F0.out.step0 (F1.out.step0 FD.out)).size))
  clear h2 f2 fb b3 o3 o2
  go_wp2_with fail
  go_ret
  exact ⟨⟨w2.heap.size,_,rs2,rfl,B3.out,rfl,O3.out,by rw [HND.out];exact HR3.out,rfl,FF.out.size⟩,FF.out.step0 FB.out⟩
 ·have HT:=Lib.hid ht
  have HND:=Lib.hid (show newD xs = [] by unfold newD;rw [rightB_no ht];rfl)
  go_upto_region 3 with (go_at_call 28;refine (NT.out w0 F0.out).mono ?_;rintro e w1 ⟨b,rfl,f1,hbb⟩;have eb:b = false:=(by cases b with | false=>rfl | true=>exact absurd (hbb.1 rfl) HT.out);rw [eb])
  have F1:=Lib.hid f1
  clear hbb f1 eb ht
  have keep:∀ w' w'':World,Fr noB w' w'' → codS.rd w' Q 0 = some s → codS.rd w'' Q 0 = some s:=fun w' w'' f h=>Cod.rd_fr0 h f
  have hF0:=keep w0 w1.drew (F1.out.step0 (Fr.refl noB w1).drew) Q0.out
  have FD:=Lib.hid (show Fr noB w1 w1.drew from (Fr.refl noB w1).drew)
  refine wp_region_M 5 6 [⟨256,1,0⟩,⟨512,256,1⟩,⟨1024,8,0⟩,⟨2048,1536,6⟩,⟨4096,2048,8⟩,⟨16,4096,31⟩] [(true,0),(true,2),(false,1),(true,3),(false,4)] (fun w'=>codS.rd w' Q 0 = some s) (by kernel_rfl) rfl (by kernel_rfl) (by kernel_rfl) (by kernel_rfl) hF0 (fun hA hF=>?_)
  clear hF0
  generalize w1.drew = V at FD hF ⊢
  iterate 2
   refine wpAnyS_take (v:=?_) hA rfl (fun _ _ _ h=>h) (Or.inl ⟨by rfl,?_⟩) hF (fun hA=>?_)
   rotate_left
   ·intro wS hSw;(try dsimp only at hSw);obtain s1:=hSw;first | (apply Eq.trans;apply ex_ldS_at;exact rfl;exact rfl;assumption;with_reducible rfl) | (apply Eq.trans;apply ex_bldDf_at;exact rfl;exact rfl;exact rfl;with_reducible rfl) | (go_simp;try with_reducible rfl)
   try simp only [sA1,sA2,sA3,Act.put,sA4,sA5,sA6]
  refine wpAnyS_one hA rfl (fun K' hK=>?_)
  go_simp
  go_at_call 29
  refine (CN.out V).mono ?_
  rintro e w2 ⟨A2,c2,rs2,rfl,o2,h2,f2⟩
  replace hF:=keep _ _ f2 hF
  refine hK.out _ _ hF (fun hA=>?_)
  clear hK K'
  try simp only [sA1,sA2,sA3,Act.put,sA4,sA5,sA6]
  refine wpAnyS_take (v:=?_) hA rfl (fun _ _ _ h=>h) (Or.inl ⟨by rfl,?_⟩) hF (fun hA=>?_)
  rotate_left
  ·intro wS hSw;(try dsimp only at hSw);obtain s1:=hSw;first | (apply Eq.trans;apply ex_ldS_at;exact rfl;exact rfl;assumption;with_reducible rfl) | (apply Eq.trans;apply ex_bldDf_at;exact rfl;exact rfl;exact rfl;with_reducible rfl) | (go_simp;try with_reducible rfl)
  try simp only [sA1,sA2,sA3,Act.put,sA4,sA5,sA6]
  refine wpAnyS_one hA rfl (fun K' hK=>?_)
  refine wk_runV _ _ (ex_bxDf_at (d:=⟨A2,rs2.length,c2,s⟩) rfl rfl) ?_
  have fb:Fr noB w2 (w2.alloc (codDf.o ⟨A2,rs2.length,c2,s⟩)):=(Fr.refl noB w2).alloc _
  have b3:=Cod.bxd_new (C:=codDf) w2 ⟨A2,rs2.length,c2,s⟩
  have o3:=own_new0 o2 fb
  replace hF:=keep _ _ fb hF
  refine hK.out _ _ hF (fun hA=>?_)
  clear hK K'
  try simp only [sA1,sA2,sA3,Act.put,sA4,sA5,sA6]
  refine wpAnyS_end hA rfl ?_
  simp only [List.drop_succ_cons,List.drop_zero]
  clear hF keep
  have HR3:=Lib.hid (h2.map fun r x h=>h.fr fb (NoHS.nob _))
  have FF:=Lib.hid (F0.out.step0 (F1.out.step0 (FD.out.step0 f2)))
  have FB:=Lib.hid fb
  have B3:=Lib.hid b3
  have O3:=Lib.hid (own_base o3 (show w.heap.size ≤ V.heap.size from (F0.out.step0 (F1.out.step0 FD.out)).size))
  clear h2 f2 fb b3 o3 o2
  go_wp2_with fail
  go_ret
  exact ⟨⟨w2.heap.size,_,rs2,rfl,B3.out,rfl,O3.out,by rw [HND.out];exact HR3.out,rfl,FF.out.size⟩,FF.out.step0 FB.out⟩
end Go.Proofs.YthehiobacjjakaaGreatDoor
