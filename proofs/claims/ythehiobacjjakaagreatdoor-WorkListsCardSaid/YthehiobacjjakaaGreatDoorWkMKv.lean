/- Contract of work: put. (ex_ldS_at ex_ldR_at) -/
import Derived.Test.YthehiobacjjakaaGreatDoorWkLKv
set_option linter.unusedVariables false
set_option linter.unusedSimpArgs false
namespace Go.Proofs.YthehiobacjjakaaGreatDoor
open Go.RowKit Go.Maps Go.Sort
def dM (P:Nat) (d:DfW):Nat → Prop:=fun b=>b = P ∨ d.A.map (·.block) = some b
def dN (w:World) (d d':DfW):Prop:=d'.A.map (·.block) = d.A.map (·.block) ∨ ∀ b,d'.A.map (·.block) = some b → w.heap.size ≤ b
theorem putW_set {rs:List RwW} (h:RisM rs) {r:RwW} {i:Nat} (hi:i < rs.length) (e:rs[i].Node = r.Node):putW rs r = rs.set i r:=by
 have hf:(findW rs r.Node).isSome = true:=by
  cases hf:findW rs r.Node with
  | some x=>rfl
  | none =>
   unfold findW at hf
   rw [List.find?_eq_none] at hf
   exact absurd (by simpa using e) (hf _ (List.getElem_mem hi))
 unfold putW
 rw [if_pos hf]
 refine List.ext_getElem (by simp) fun j h1 h2=>?_
 rw [List.getElem_map,List.getElem_set]
 have hj:j < rs.length:=by simpa using h1
 by_cases hij:i = j
 ·subst hij
  rw [if_pos e,if_pos rfl]
 ·rw [if_neg hij,if_neg]
  intro e2
  have e3:cmpS rs[i].Node rs[j].Node = 0:=by rw [e,e2,cmpS_self]
  rcases Nat.lt_or_gt_of_ne hij with hl | hl
  ·have:=List.pairwise_iff_getElem.1 h i j hi hj hl
   omega
  ·have:=List.pairwise_iff_getElem.1 h j i hj hi hl
   rw [cmpS_flip] at e3
   omega
theorem putW_end {rs:List RwW} {r:RwW} (h:∀ x ∈ rs,cmpS x.Node r.Node < 0):putW rs r = rs ++ [r]:=by
 unfold putW
 rw [if_neg]
 intro hs
 obtain ⟨x,hx⟩:=Option.isSome_iff_exists.1 hs
 obtain ⟨h1,h2⟩:=findW_some hx
 have:=h x h1
 rw [h2,cmpS_self] at this
 omega
theorem bs_yes {rs:List RwW} {s:St} {i:Nat} {b:Bool} (hb:b = true ↔ ∃ h:i < rs.length,cmpS rs[i].Node s = 0) (e:b = true):∃ h:i < rs.length,rs[i].Node = s:=by
 obtain ⟨h,e⟩:=hb.1 e
 exact ⟨h,cmpS_zero.1 e⟩
theorem bs_no {rs:List RwW} {s:St} {i:Nat} {b:Bool} (hr:RisM rs) (hi:BsI rs s i i) (hb:b = true ↔ ∃ h:i < rs.length,cmpS rs[i].Node s = 0) (e:b = false) (hq:(∃ x ∈ rs,x.Node = s) ∨ ∀ x ∈ rs,cmpS x.Node s < 0):i = rs.length ∧ ∀ x ∈ rs,cmpS x.Node s < 0:=by
 have hall:∀ x ∈ rs,cmpS x.Node s < 0:=by
  rcases hq with ⟨x,hx,hs⟩ | hq
  ·obtain ⟨k,hk,rfl⟩:=List.getElem_of_mem hx
   have e0:cmpS rs[k].Node s = 0:=by rw [hs,cmpS_self]
   rcases Nat.lt_trichotomy k i with hl | hl | hl
   ·have:=hi.lo k hk hl
    omega
   ·subst hl
    rw [hb.2 ⟨hk,e0⟩] at e
    cases e
   ·have h1:=List.pairwise_iff_getElem.1 hr i k (by omega) hk hl
    rw [hs] at h1
    exact absurd h1 (hi.hi i (by omega) (Nat.le_refl _))
  ·exact hq
 refine ⟨?_,hall⟩
 have:=hi.jn
 rcases Nat.lt_or_ge i rs.length with hl | hl
 ·exact absurd (hall _ (List.getElem_mem hl)) (hi.hi i hl (Nat.le_refl _))
 ·omega
structure PuTo (W w:World) (P:Nat) (d:DfW) (rs:List RwW) (e:Ending) (w':World):Prop where
 ret:e = .returned (.tuple #[])
 ex:∃ d',codDf.bxd w' P = some d' ∧ d'.next = d.next ∧ OwnC codR W w' d'.A d'.c rs ∧ rs.length = d'.n ∧ dN w d d'
 fr:Fr (dM P d) w w'
set_option maxRecDepth 100000 in
set_option maxHeartbeats 4000000 in
theorem put_any' (W w:World) (P:Nat) (d:DfW) (hP:codDf.bxd w P = some d) (rs:List RwW) (hn:rs.length = d.n) (ho:OwnC codR W w d.A d.c rs) (hW:W.heap.size ≤ w.heap.size) (hb:rs.length ≤ 100000) (hr:RisM rs) (r:RwW)
  (hq:(∃ x ∈ rs,x.Node = r.Node) ∨ ∀ x ∈ rs,cmpS x.Node r.Node < 0):Calls Tryz.prog 57 #[.pointer (some ⟨P,0,none⟩),.agg (codR.A r)] w (PuTo W w P d (putW rs r)):=by
 have HP:=Lib.hid hP
 have HNN:=Lib.hid hn
 have HO:=Lib.hid ho
 have HWW:=Lib.hid hW
 have HB:=Lib.hid hb
 have HR:=Lib.hid hr
 have HQ:=Lib.hid hq
 have hlt:=Cod.bxd_lt hP
 have f0:Fr noB w (w.alloc (.cells (codR.A r) 60)):=(Fr.refl noB w).alloc _
 have q0:=Cod.rd_new (C:=codR) w 60 r
 clear hP hn ho hW hb hr hq
 go_enter Tryz.func57,Tryz.ntmps57
 go_upto_region 1 with fail
 generalize w.alloc (.cells (codR.A r) 60) = w0 at f0 q0 ⊢
 obtain ⟨Q,eQ⟩:∃ Q,Q = w.heap.size:=⟨_,rfl⟩
 rw [← eQ] at q0 ⊢
 have HPQ:=Lib.hid (show P < Q ∧ w.heap.size ≤ Q by omega)
 clear eQ hlt
 have F0:=Lib.hid f0
 have QR:=Lib.hid q0
 have keep:∀ w' w'':World,Fr noB w' w'' → (w'.cell? ⟨P,0,none⟩ = some (.slice d.A d.n d.c) ∧ codS.rd w' Q 0 = some r.Node) → (w''.cell? ⟨P,0,none⟩ = some (.slice d.A d.n d.c) ∧ codS.rd w'' Q 0 = some r.Node):=fun w' w'' f h=>⟨cell_fr0 h.1 f,Cod.rd_fr0 h.2 f⟩
 have hF0:=keep w0 w0.drew (Fr.refl noB w0).drew ⟨(dfAt (Cod.bxd_fr0 HP.out f0)).rows,(rwAt q0).node⟩
 have FD:=Lib.hid (show Fr noB w0 w0.drew from (Fr.refl noB w0).drew)
 clear f0 q0
 refine wp_region_M 11 12 [⟨128,1,0⟩,⟨256,128,1⟩,⟨512,256,2⟩,⟨1024,512,4⟩,⟨2048,8,0⟩,⟨4096,2048,16⟩,⟨8192,5120,40⟩,⟨64,8192,64⟩,⟨16384,64,128⟩,⟨32768,64,128⟩,⟨16,16384,511⟩,⟨32,32768,2047⟩] [(true,0),(true,1),(true,2),(true,3),(true,4),(true,5),(false,6),(true,7),(true,8),(true,9),(true,10)] (fun w'=>w'.cell? ⟨P,0,none⟩ = some (.slice d.A d.n d.c) ∧ codS.rd w' Q 0 = some r.Node) (by kernel_rfl) rfl (by kernel_rfl) (by kernel_rfl) (by kernel_rfl) hF0 (fun hA hF=>?_)
 clear hF0
 generalize w0.drew = V at FD hF ⊢
 iterate 6
  refine wpAnyS_take (v:=?_) hA rfl (fun _ _ _ h=>h) (Or.inl ⟨by rfl,?_⟩) hF (fun hA=>?_)
  rotate_left
  ·intro wS hSw;(try dsimp only at hSw);obtain ⟨s1,s2⟩:=hSw;first | (apply Eq.trans;apply ex_ldR_at;exact rfl;exact rfl;assumption;with_reducible rfl) | (apply Eq.trans;apply ex_ldS_at;exact rfl;exact rfl;assumption;with_reducible rfl) | (go_simp;try with_reducible rfl)
  try simp only [sA1,sA2,sA3,Act.put,sA4,sA5,sA6]
 refine wpAnyS_one hA rfl (fun K' hK=>?_)
 go_simp
 go_at_call 84
 refine (bsf_any V d.A d.c d.n rs HNN.out ((Sl.own HO.out).fr0 (F0.out.step0 FD.out)) (by have:=HB.out;omega) HR.out r.Node).mono ?_
 rintro e w1 ⟨⟨i,b,rfl,hbi,hbb⟩,f1⟩
 replace hF:=keep _ _ f1 hF
 refine hK.out _ _ hF (fun hA=>?_)
 clear hK K'
 try simp only [sA1,sA2,sA3,Act.put,sA4,sA5,sA6]
 iterate 4
  refine wpAnyS_take (v:=?_) hA rfl (fun _ _ _ h=>h) (Or.inl ⟨by rfl,?_⟩) hF (fun hA=>?_)
  rotate_left
  ·intro wS hSw;(try dsimp only at hSw);obtain ⟨s1,s2⟩:=hSw;first | (apply Eq.trans;apply ex_ldR_at;exact rfl;exact rfl;assumption;with_reducible rfl) | (apply Eq.trans;apply ex_ldS_at;exact rfl;exact rfl;assumption;with_reducible rfl) | (go_simp;try with_reducible rfl)
  try simp only [sA1,sA2,sA3,Act.put,sA4,sA5,sA6]
 refine wpAnyS_end hA rfl ?_
 simp only [List.drop_succ_cons,List.drop_zero]
 clear hF keep
 have HBI:=Lib.hid hbi
 have HBB:=Lib.hid hbb
 have F1:=Lib.hid (FD.out.step0 f1)
 clear hbi hbb f1
 have HPP:=Lib.hid (Cod.bxd_fr0 HP.out (F0.out.step0 F1.out))
 have r1:=Cod.rd_fr0 QR.out F1.out
 have FD1:=Lib.hid (show Fr noB w1 w1.drew from (Fr.refl noB w1).drew)
 cases b with
 | true =>
  obtain ⟨hi,he⟩:=bs_yes HBB.out rfl
  have HPW:=Lib.hid (putW_set HR.out hi he)
  have HNI:=Lib.hid hi
  have i1:(i:Int) < (d.n:Int):=by have:=HNN.out;omega
  have i0:(0:Int) ≤ (i:Int):=by omega
  obtain ⟨g,eA,hg,_,_,_⟩:=RwA.own HO.out (by intro h;rw [h] at hi;simp at hi)
  have HEA:=Lib.hid eA
  have hF0:w1.drew.cell? ⟨P,0,none⟩ = some (.slice (some ⟨g,0,none⟩) d.n d.c) ∧ codR.rd w1.drew Q 0 = some r:=⟨by rw [← eA];exact cell_fr0 (dfAt HPP.out).rows FD1.out,Cod.rd_fr0 r1 FD1.out⟩
  clear he hi r1 eA
  go_upto_region 3 with fail
  refine wp_region_M 7 8 [⟨131072,1,0⟩,⟨262144,131072,1⟩,⟨524288,262144,2⟩,⟨1048576,524288,4⟩,⟨2097152,16,0⟩,⟨4194304,8,0⟩,⟨8388608,3145728,63⟩,⟨0,12582912,127⟩] [(true,0),(true,1),(true,2),(true,3),(true,4),(true,5),(true,6)] (fun w'=>w'.cell? ⟨P,0,none⟩ = some (.slice (some ⟨g,0,none⟩) d.n d.c) ∧ codR.rd w' Q 0 = some r) (by kernel_rfl) rfl (by kernel_rfl) (by kernel_rfl) (by kernel_rfl) hF0 (fun hA hF=>?_)
  clear hF0
  generalize w1.drew = V2 at FD1 hF ⊢
  iterate 7
   refine wpAnyS_take (v:=?_) hA rfl (fun _ _ _ h=>h) (Or.inl ⟨by rfl,?_⟩) hF (fun hA=>?_)
   rotate_left
   ·intro wS hSw;(try dsimp only at hSw);obtain ⟨s1,s2⟩:=hSw;first | (apply Eq.trans;apply ex_ldR_at;exact rfl;exact rfl;assumption;with_reducible rfl) | (apply Eq.trans;apply ex_ldS_at;exact rfl;exact rfl;assumption;with_reducible rfl) | (go_simp;try with_reducible rfl)
   try simp only [sA1,sA2,sA3,Act.put,sA4,sA5,sA6]
  refine wpAnyS_end hA rfl ?_
  simp only [List.drop_succ_cons,List.drop_zero]
  clear hF
  have o2:=own_new0 HO.out (F0.out.step0 (F1.out.step0 FD1.out))
  have hst:codR.stR V2 (.pointer (some ⟨g,i * 8,none⟩)) (.agg (codR.A r)) = .ok .skip (V2.setCells g (i * 8) (codR.cs r)):=okR.stR_own o2 HEA.out i HNI.out r
  have OS:=Lib.hid (OwnC.set o2 HEA.out i HNI.out r)
  obtain ⟨hgl,cur,zz,hgb⟩:=own_blkW o2 (g:=g) (by rw [HEA.out];rfl)
  have HGB:=Lib.hid hgb
  clear o2 hgb hgl hg
  go_wp2_with fail
  refine bodyPost_ret (results_none rfl _ _ _) rfl ?_
  have bP:=Cod.bxd_fr0 HPP.out FD1.out
  have hne:¬ oneB g P:=fun e=>by
   have e:P = g:=e
   have h1:=Cod.bxd_blk bP
   unfold Blk at h1
   rw [e,HGB.out] at h1
   injection h1 with h1
   injection h1 with _ h1
   exact absurd h1 (by decide)
  refine ⟨rfl,⟨d,Cod.bxd_fr bP OS.out.2 hne,rfl,by rw [HPW.out];exact OS.out.1,by rw [HPW.out,List.length_set];exact HNN.out,.inl rfl⟩,?_⟩
  exact (wk0 (F0.out.step0 (F1.out.step0 FD1.out))).trans OS.out.2 (fun b _ hb=>.inr (by rw [HEA.out,show b = g from hb];rfl))
 | false =>
  obtain ⟨hi,hall⟩:=bs_no HR.out HBI.out HBB.out rfl HQ.out
  have HPW:=Lib.hid (putW_end hall)
  have HIN:=Lib.hid (show i = d.n by rw [hi];exact HNN.out)
  clear hi hall
  go_upto_region 4 with fail
  have keep:∀ w' w'':World,Fr noB w' w'' → (w'.cell? ⟨P,0,none⟩ = some (.slice d.A d.n d.c) ∧ codR.rd w' Q 0 = some r) → (w''.cell? ⟨P,0,none⟩ = some (.slice d.A d.n d.c) ∧ codR.rd w'' Q 0 = some r):=fun w' w'' f h=>⟨cell_fr0 h.1 f,Cod.rd_fr0 h.2 f⟩
  have hF0:=keep w1 w1.drew FD1.out ⟨(dfAt HPP.out).rows,r1⟩
  clear r1
  refine wp_region_M 11 12 [⟨16777216,1,0⟩,⟨33554432,1,0⟩,⟨67108864,33554432,2⟩,⟨134217728,67108864,4⟩,⟨268435456,134217728,8⟩,⟨536870912,16,0⟩,⟨1073741824,8,0⟩,⟨2147483648,1073741824,64⟩,⟨4294967296,2952790016,176⟩,⟨8589934592,16777216,511⟩,⟨17179869184,8589934592,1023⟩,⟨0,21474836480,1535⟩] [(true,0),(true,1),(true,2),(true,3),(true,4),(true,5),(true,6),(false,7),(false,8),(true,9),(true,10)] (fun w'=>w'.cell? ⟨P,0,none⟩ = some (.slice d.A d.n d.c) ∧ codR.rd w' Q 0 = some r) (by kernel_rfl) rfl (by kernel_rfl) (by kernel_rfl) (by kernel_rfl) hF0 (fun hA hF=>?_)
  clear hF0
  generalize w1.drew = V2 at FD1 hF ⊢
  iterate 7
   refine wpAnyS_take (v:=?_) hA rfl (fun _ _ _ h=>h) (Or.inl ⟨by rfl,?_⟩) hF (fun hA=>?_)
   rotate_left
   ·intro wS hSw;(try dsimp only at hSw);obtain ⟨s1,s2⟩:=hSw;first | (apply Eq.trans;apply ex_ldR_at;exact rfl;exact rfl;assumption;with_reducible rfl) | (apply Eq.trans;apply ex_ldS_at;exact rfl;exact rfl;assumption;with_reducible rfl) | (go_simp;try with_reducible rfl)
   try simp only [sA1,sA2,sA3,Act.put,sA4,sA5,sA6]
  refine wpAnyS_one hA rfl (fun K' hK=>?_)
  refine wk_runV _ _ (ex_bsR_at (x:=r) rfl rfl) ?_
  have fa:Fr noB V2 (V2.alloc (codR.ro [r])):=(Fr.refl noB V2).alloc _
  have sl:=Cod.sl_new (C:=codR) V2 [r]
  replace hF:=keep _ _ fa hF
  refine hK.out _ _ hF (fun hA=>?_)
  clear hK K'
  try simp only [sA1,sA2,sA3,Act.put,sA4,sA5,sA6]
  have FA:=Lib.hid (F0.out.step0 (F1.out.step0 (FD1.out.step0 fa)))
  have SLN:=Lib.hid sl
  clear fa sl
  generalize V2.alloc (codR.ro [r]) = V3 at FA SLN hF ⊢
  generalize V2.heap.size = BN at SLN ⊢
  refine wpAnyS_one hA rfl (fun K' hK=>?_)
  go_simp
  go_at_call 86
  rw [HIN.out]
  refine (insR_any W V3 d.A d.c d.n rs HNN.out (own_new0 HO.out FA.out) (Nat.le_trans HWW.out FA.out.size) (by have:=HB.out;omega) (some ⟨BN,0,none⟩) r SLN.out).mono ?_
  rintro e w4 ⟨A4,c4,rfl,o4,g4,hA4⟩
  have hn4:(rs ++ [r]).length = d.n + 1:=by rw [List.length_append,HNN.out];rfl
  rw [hn4]
  have f4:Fr (fun b=>d.A.map (·.block) = some b) V3 w4:=Fr.ofGrown (M:=fun b=>d.A.map (·.block) = some b) g4 (fun g hg=>hg)
  have bP3:=Cod.bxd_fr0 HP.out FA.out
  have hne:∀ g,d.A.map (·.block) = some g → P ≠ g:=fun g hg e=>by
   obtain ⟨_,cur,zz,hgb⟩:=own_blkW (own_new0 HO.out FA.out) (g:=g) hg
   have h1:=Cod.bxd_blk bP3
   unfold Blk at h1
   rw [e,hgb] at h1
   injection h1 with h1
   injection h1 with _ h1
   exact absurd h1 (by decide)
  have bP4:=Cod.bxd_fr bP3 f4 (fun e=>hne P e rfl)
  have hnq:∀ g,d.A.map (·.block) = some g → Q ≠ g:=fun g hg e=>by
   have h1:=(own_lt HO.out g hg).2
   have h2:=HPQ.out.2
   omega
  replace hF:=And.intro (cell_frM hF.1 f4 (fun e=>hne P e rfl)) (Cod.rd_fr hF.2 f4 (fun e=>hnq Q e rfl))
  refine hK.out _ _ hF (fun hA=>?_)
  clear hK K'
  try simp only [sA1,sA2,sA3,Act.put,sA4,sA5,sA6]
  iterate 2
   refine wpAnyS_take (v:=?_) hA rfl (fun _ _ _ h=>h) (Or.inl ⟨by rfl,?_⟩) hF (fun hA=>?_)
   rotate_left
   ·intro wS hSw;(try dsimp only at hSw);obtain ⟨s1,s2⟩:=hSw;first | (apply Eq.trans;apply ex_ldR_at;exact rfl;exact rfl;assumption;with_reducible rfl) | (apply Eq.trans;apply ex_ldS_at;exact rfl;exact rfl;assumption;with_reducible rfl) | (go_simp;try with_reducible rfl)
   try simp only [sA1,sA2,sA3,Act.put,sA4,sA5,sA6]
  refine wpAnyS_end hA rfl ?_
  simp only [List.drop_succ_cons,List.drop_zero]
  clear hF keep
  have zz:=(Cod.bxd_blk bP4).frozen 0
  have u0:=(dfAt bP4).rows
  have st:=Cod.set_fr w4 P 0 (.slice A4 (d.n + 1) c4)
  have bs:=Cod.bxd_set bP4 0 (.slice A4 (d.n + 1) c4) { d with A:=A4,n:=d.n + 1,c:=c4 } rfl
  have ST:=Lib.hid st
  have BS:=Lib.hid bs
  have O4:=Lib.hid o4
  have F4:=Lib.hid f4
  have HA4:=Lib.hid hA4
  have HNE:=Lib.hid hne
  have BP4:=Lib.hid bP4
  have HSZ:=Lib.hid (Nat.le_trans FA.out.size f4.size)
  clear st bs o4 f4 hA4 hne hnq bP3 bP4 g4
  go_wp2_with fail
  refine bodyPost_end (results_none rfl _ _ _) rfl ?_
  have HN4:=HNN.out
  have hA5:dN w d { d with A:=A4,n:=d.n + 1,c:=c4 }:=by
   rcases HA4.out with e | e
   ·exact .inl e
   ·refine .inr fun b hb=>?_
    rw [show A4.map (·.block) = some V3.heap.size from e] at hb
    injection hb with hb
    have:=FA.out.size
    omega
  refine ⟨rfl,⟨{ d with A:=A4,n:=d.n + 1,c:=c4 },BS.out,rfl,?_,?_,hA5⟩,?_⟩
  ·rw [HPW.out]
   refine own_fr O4.out ST.out (fun g hg e=>?_)
   rw [ownBlock_sl'] at hg
   obtain ⟨_,cur,z2,hgb⟩:=own_blkW O4.out (g:=g) hg
   have e:g = P:=e
   have h1:=Cod.bxd_blk BP4.out
   unfold Blk at h1
   rw [← e,hgb] at h1
   injection h1 with h1
   injection h1 with _ h1
   exact absurd h1 (by decide)
  ·rw [HPW.out,List.length_append,HN4]
   rfl
  ·refine ((wk0 FA.out).trans F4.out (fun b _ hb=>.inr hb)).trans ST.out (fun b _ hb=>.inl hb)
end Go.Proofs.YthehiobacjjakaaGreatDoor
