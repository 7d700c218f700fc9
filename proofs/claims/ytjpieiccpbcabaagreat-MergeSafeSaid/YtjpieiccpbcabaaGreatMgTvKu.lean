/- Contract: pollardlaw15.alive. (rdI) Contract: pollardlaw15.grown. (rdI) Words for MergeTwo, MergeSafe, MergeKnown: rules at operations, rows that are the same, histories of grown. -/
import Derived.Test.YtjpieiccpbcabaaGreatMgTsKu
import Derived.Deep.LoopGhost
import Derived.Deep.CutRange
import Derived.Test.YtjpieiccpbcabaaGreatSmDKu
set_option linter.unusedVariables false
set_option linter.unusedSimpArgs false
namespace Go.Proofs.YtjpieiccpbcabaaGreat
open Go.RowKit Go.Maps Go.Sort
theorem ex_bld0_at {ρ:Operand → Value} {o:Oper} {w:World} (ho:o.op = .build 24 #[]):(execOp ρ o).run Tryz.prog w = .ok (.value (encI zID)) w:=by
 obtain ⟨d,op,t,p,f,g⟩:=o
 simp only at ho
 subst ho
 rw [ex_bld0]
structure Al (w0 w:World) (P H:Nat) (S:Nat → Prop) (L:Hst):Prop where
 hs:Hs w H S L
 ia:rdI w P 0 = some eA
 ib:rdI w (P + 1) 0 = some eB
 ic:rdI w (P + 1 + 1) 0 = some eC
 na:¬ S P
 nb:¬ S (P + 1)
 nc:¬ S (P + 1 + 1)
 lo:∀ b,S b → w0.heap.size ≤ b
 fr:Fr noB w0 w
theorem Al.fr0 {w0 w w':World} {P H:Nat} {S:Nat → Prop} {L:Hst} (h:Al w0 w P H S L) (f:Fr noB w w'):Al w0 w' P H S L :=
 ⟨h.hs.fr0 f,rdI_fr h.ia (rdI_lt h.ia) f (by simp [noB]),rdI_fr h.ib (rdI_lt h.ib) f (by simp [noB]),rdI_fr h.ic (rdI_lt h.ic) f (by simp [noB]),h.na,h.nb,h.nc,h.lo,h.fr.step0 f⟩
theorem Al.add {w0 w w':World} {P H:Nat} {S:Nat → Prop} {L L':Hst} (h:Al w0 w P H S L) (h':Hs w' H (grF S w w') L') (f:Fr S w w'):Al w0 w' P H (grF S w w') L' :=
 ⟨h',rdI_fr h.ia (rdI_lt h.ia) f h.na,rdI_fr h.ib (rdI_lt h.ib) f h.nb,rdI_fr h.ic (rdI_lt h.ic) f h.nc,
  fun e=>e.elim h.na (fun e=>by have:=rdI_lt h.ia;omega),fun e=>e.elim h.nb (fun e=>by have:=rdI_lt h.ib;omega),fun e=>e.elim h.nc (fun e=>by have:=rdI_lt h.ic;omega),
  fun b e=>e.elim (h.lo b) (fun e=>Nat.le_trans h.fr.size e.1),h.fr.step f (fun q hq=>.inl (h.lo q hq))⟩
theorem Al.new {w0 w:World} {P H:Nat} {S:Nat → Prop} {L:Hst} (h:Al w0 w P H S L) {b:Nat} (hb:w.heap.size ≤ b):¬ S b:=fun e=>by
 have:=h.hs.lt e
 omega
set_option maxRecDepth 100000 in
set_option maxHeartbeats 8000000 in
theorem l15alive_any (w:World):Calls Tryz.prog 9 #[] w (Gives w (.bool true)):=by
 go_enter Tryz.func9,Tryz.ntmps9
 go_upto_region 2 with (go_at_call 8;refine (mgNew_any _).mono ?_;rintro e w1 ⟨H,rfl,h1,f1⟩)
 have f3:Fr noB w1 (((w1.alloc (ido zID)).alloc (ido zID)).alloc (ido zID)):=(((Fr.refl noB w1).alloc _).alloc _).alloc _
 have s1:bxI (((w1.alloc (ido zID)).alloc (ido zID)).alloc (ido zID)) w1.heap.size = some zID:=by
  rw [bxI_old _ _ _ (by simp;omega),bxI_old _ _ _ (by simp),bxI_new]
 have s2':bxI (((w1.alloc (ido zID)).alloc (ido zID)).alloc (ido zID)) (w1.heap.size + 1) = some zID:=by
  rw [bxI_old _ _ _ (by simp),bxI_new' _ _ _ (by simp)]
 have s3':bxI (((w1.alloc (ido zID)).alloc (ido zID)).alloc (ido zID)) (w1.heap.size + 2) = some zID:=by
  rw [bxI_new' _ _ _ (by simp)]
 obtain ⟨a1,a2,a3⟩:=putB_fr s1 (id2 1 0)
 have s2:=bxI_fr s2' a1 (by simp [oneB])
 have s3'':=bxI_fr s3' a1 (by simp [oneB])
 obtain ⟨b1,b2,b3⟩:=putB_fr s2 (id2 2 0)
 have s3:=bxI_fr s3'' b1 (by simp [oneB])
 obtain ⟨c1,c2,c3⟩:=putB_fr s3 (id2 3 0)
 have q1:=bxI_fr (bxI_fr a3 b1 (by simp [oneB])) c1 (by simp [oneB])
 have q2:=bxI_fr b3 c1 (by simp [oneB])
 have lw:=f1.size
 have hA:Al w (putB (putB (putB (((w1.alloc (ido zID)).alloc (ido zID)).alloc (ido zID)) w1.heap.size (id2 1 0)) (w1.heap.size + 1) (id2 2 0)) (w1.heap.size + 1 + 1) (id2 3 0)) w1.heap.size H (grF (fun _=>False) w w1) []:=by
  have hno:∀ b,w1.heap.size ≤ b → ¬ grF (fun _=>False) w w1 b:=fun b hb e=>by
   rcases e with e | e
   ·exact e
   ·omega
  refine ⟨(((h1.fr0 f3).fr a1 ?_).fr b1 ?_).fr c1 ?_,bxI_rd q1,bxI_rd q2,bxI_rd c3,hno _ (by omega),hno _ (by omega),hno _ (by omega),fun b e=>e.elim False.elim (fun e=>e.1),(((f1.step0 f3).step1 a1 lw).step1 b1 (by omega)).step1 c1 (by omega)⟩
  ·intro b hb e;have:b = _:=e;exact hno b (by omega) hb
  ·intro b hb e;have:b = _:=e;exact hno b (by omega) hb
  ·intro b hb e;have:b = _:=e;exact hno b (by omega) hb
 have HAL:=Lib.hid hA
 clear hA a1 a2 a3 b1 b2 b3 c1 c2 c3 q1 q2 s2' s3' s3'' lw h1 f1 f3
 go_upto_region 3 with fail
 clear s1 s2 s3
 generalize putB (putB (putB (((w1.alloc (ido zID)).alloc (ido zID)).alloc (ido zID)) w1.heap.size (id2 1 0)) (w1.heap.size + 1) (id2 2 0)) (w1.heap.size + 1 + 1) (id2 3 0) = W at HAL ⊢
 generalize grF (fun _=>False) w w1 = S0 at HAL
 generalize w1.heap.size = P at HAL ⊢
 have hk:∀ w' w'':World,Fr noB w' w'' → (rdI w' P 0 = some eA ∧ rdI w' (P + 1) 0 = some eB ∧ rdI w' (P + 1 + 1) 0 = some eC) → (rdI w'' P 0 = some eA ∧ rdI w'' (P + 1) 0 = some eB ∧ rdI w'' (P + 1 + 1) 0 = some eC):=fun w' w'' f h=>⟨rdI_fr h.1 (rdI_lt h.1) f (by simp [noB]),rdI_fr h.2.1 (rdI_lt h.2.1) f (by simp [noB]),rdI_fr h.2.2 (rdI_lt h.2.2) f (by simp [noB])⟩
 have fd:Fr noB W W.drew:=(Fr.refl noB W).drew
 have A0:=HAL.out.fr0 fd
 refine wp_region_M 26 27 [⟨32768,2,0⟩,⟨65536,32768,1⟩,⟨131072,65536,2⟩,⟨262144,131074,4⟩,⟨524288,131076,4⟩,⟨1048576,131072,4⟩,⟨2097152,1966080,60⟩,⟨4194304,2228224,68⟩,⟨8388608,4325376,132⟩,⟨16777216,8388608,320⟩,⟨33554432,16777218,512⟩,⟨67108864,16777224,512⟩,⟨134217728,16777220,512⟩,⟨268435456,150994944,4608⟩,⟨536870912,285212672,8704⟩,⟨1073741824,654311424,19968⟩,⟨2147483648,1090519040,33280⟩,⟨4294967296,2164260864,66048⟩,⟨8589934592,4294967296,163840⟩,⟨17179869184,8589934594,262144⟩,⟨34359738368,8589934608,262144⟩,⟨68719476736,8589934596,262144⟩,⟨137438953472,77309411328,2359296⟩,⟨274877906944,146028888064,4456448⟩,⟨549755813888,335007449088,10223616⟩,⟨1099511627776,558345748480,17039360⟩,⟨2199023255552,1108101562368,33816576⟩] [(true,0),(true,1),(true,2),(true,3),(true,4),(false,5),(false,6),(true,7),(true,8),(true,9),(true,10),(true,11),(true,12),(false,13),(false,14),(false,15),(true,16),(true,17),(true,18),(true,19),(true,20),(true,21),(false,22),(false,23),(false,24),(true,25)] (fun w'=>rdI w' P 0 = some eA ∧ rdI w' (P + 1) 0 = some eB ∧ rdI w' (P + 1 + 1) 0 = some eC) (by kernel_rfl) rfl (by kernel_rfl) (by kernel_rfl) (by kernel_rfl) ⟨A0.ia,A0.ib,A0.ic⟩ (fun hA hF=>?_)
 clear HAL fd
 iterate 5
  refine wpAnyS_take (v:=?_) hA rfl (fun _ _ _ h=>h) (Or.inl ⟨by rfl,?_⟩) hF (fun hA=>?_)
  rotate_left
  ·intro wS hSw;(try dsimp only at hSw);obtain ⟨s1,s2,s3⟩:=hSw;first | (apply Eq.trans;apply ex_ld_id;exact rfl;exact rfl;assumption;with_reducible rfl) | (apply Eq.trans;apply ex_bld0_at;exact rfl;with_reducible rfl) | (go_simp;try with_reducible rfl)
  try simp only [sA1,sA2,sA3,Act.put,sA4,sA5,sA6]
 refine wpAnyS_one hA rfl (fun K' hK=>?_)
 rw [if_pos (by rfl)]
 go_simp
 go_at_call 31
 refine (l15put_any _ none 0 0 1 1).mono ?_
 rintro e u1 ⟨g1,rfl,l1,l1',t1,v1⟩
 replace hF:=hk _ _ v1 hF
 refine hK.out _ _ hF (fun hA=>?_)
 clear hK K'
 as_aux_lemma =>
 have A1:=A0.fr0 v1
 refine wpAnyS_one hA rfl (fun K' hK=>?_)
 rw [if_pos (by rfl)]
 go_simp
 go_at_call 10
 refine (mgAdd_any A1.hs (by decide) eA _ _ (ptC [] 1 1) (PutTo15.q t1 (A0.new l1) rfl (Sl.nil _ _) (by simp) (fun h=>absurd rfl h)) (by simp [ptC])).mono ?_
 rintro e u2 ⟨rfl,h2,v2⟩
 rw [ad15a] at h2 ⊢
 have A2:=A1.add h2 v2
 clear A0 A1 l1 l1' t1 v1 h2 v2
 generalize grF S0 u1 u2 = S2 at A2
 replace hF:=(And.intro A2.ia (And.intro A2.ib A2.ic))
 refine hK.out _ _ hF (fun hA=>?_)
 clear hK K'
 as_aux_lemma =>
 iterate 6
  refine wpAnyS_take (v:=?_) hA rfl (fun _ _ _ h=>h) (Or.inl ⟨by rfl,?_⟩) hF (fun hA=>?_)
  rotate_left
  ·intro wS hSw;(try dsimp only at hSw);obtain ⟨s1,s2,s3⟩:=hSw;first | (apply Eq.trans;apply ex_ld_id;exact rfl;exact rfl;assumption;with_reducible rfl) | (apply Eq.trans;apply ex_bld0_at;exact rfl;with_reducible rfl) | (go_simp;try with_reducible rfl)
  try simp only [sA1,sA2,sA3,Act.put,sA4,sA5,sA6]
 refine wpAnyS_one hA rfl (fun K' hK=>?_)
 rw [if_pos (by rfl)]
 refine step_runP _ _ (ex_bs1_at (x:=eA) rfl rfl) ?_
 have fn:Fr noB u2 (u2.alloc (rowo [eA])):=(Fr.refl noB u2).alloc _
 have sn:=sl_new u2 [eA]
 have A3:=A2.fr0 fn
 have hgn:¬ S2 u2.heap.size:=A2.new (Nat.le_refl _)
 replace hF:=hk _ _ fn hF
 refine hK.out _ _ hF (fun hA=>?_)
 clear hK K'
 as_aux_lemma =>
 refine wpAnyS_one hA rfl (fun K' hK=>?_)
 rw [if_pos (by rfl)]
 go_simp
 go_at_call 31
 refine (l15put_any _ _ 1 1 2 1).mono ?_
 rintro e u4 ⟨g1,rfl,l1,l1',t1,v1⟩
 replace hF:=hk _ _ v1 hF
 refine hK.out _ _ hF (fun hA=>?_)
 clear hK K'
 as_aux_lemma =>
 have A4:=A3.fr0 v1
 refine wpAnyS_one hA rfl (fun K' hK=>?_)
 rw [if_pos (by rfl)]
 go_simp
 go_at_call 10
 refine (mgAdd_any A4.hs (by decide) eB _ _ (ptC [eA] 2 1) (PutTo15.q t1 (A3.new l1) rfl (sn.fr0 v1) (by simp) (fun _ g hg=>by injection hg with hg;subst hg;exact hgn)) (by simp [ptC])).mono ?_
 rintro e u5 ⟨rfl,h2,v2⟩
 rw [ad15b] at h2 ⊢
 have A5:=A4.add h2 v2
 clear A2 A3 A4 l1 l1' t1 v1 h2 v2 fn sn hgn
 generalize grF S2 u4 u5 = S5 at A5
 replace hF:=(And.intro A5.ia (And.intro A5.ib A5.ic))
 refine hK.out _ _ hF (fun hA=>?_)
 clear hK K'
 as_aux_lemma =>
 iterate 6
  refine wpAnyS_take (v:=?_) hA rfl (fun _ _ _ h=>h) (Or.inl ⟨by rfl,?_⟩) hF (fun hA=>?_)
  rotate_left
  ·intro wS hSw;(try dsimp only at hSw);obtain ⟨s1,s2,s3⟩:=hSw;first | (apply Eq.trans;apply ex_ld_id;exact rfl;exact rfl;assumption;with_reducible rfl) | (apply Eq.trans;apply ex_bld0_at;exact rfl;with_reducible rfl) | (go_simp;try with_reducible rfl)
  try simp only [sA1,sA2,sA3,Act.put,sA4,sA5,sA6]
 refine wpAnyS_one hA rfl (fun K' hK=>?_)
 rw [if_pos (by rfl)]
 refine step_runP _ _ (ex_bs1_at (x:=eA) rfl rfl) ?_
 have fn:Fr noB u5 (u5.alloc (rowo [eA])):=(Fr.refl noB u5).alloc _
 have sn:=sl_new u5 [eA]
 have A3:=A5.fr0 fn
 have hgn:¬ S5 u5.heap.size:=A5.new (Nat.le_refl _)
 replace hF:=hk _ _ fn hF
 refine hK.out _ _ hF (fun hA=>?_)
 clear hK K'
 as_aux_lemma =>
 refine wpAnyS_one hA rfl (fun K' hK=>?_)
 rw [if_pos (by rfl)]
 go_simp
 go_at_call 31
 refine (l15put_any _ _ 1 1 2 2).mono ?_
 rintro e u4 ⟨g1,rfl,l1,l1',t1,v1⟩
 replace hF:=hk _ _ v1 hF
 refine hK.out _ _ hF (fun hA=>?_)
 clear hK K'
 as_aux_lemma =>
 have A4:=A3.fr0 v1
 refine wpAnyS_one hA rfl (fun K' hK=>?_)
 rw [if_pos (by rfl)]
 go_simp
 go_at_call 10
 refine (mgAdd_any A4.hs (by decide) eC _ _ (ptC [eA] 2 2) (PutTo15.q t1 (A3.new l1) rfl (sn.fr0 v1) (by simp) (fun _ g hg=>by injection hg with hg;subst hg;exact hgn)) (by simp [ptC])).mono ?_
 rintro e u6 ⟨rfl,h2,v2⟩
 rw [ad15c] at h2 ⊢
 have A6:=A4.add h2 v2
 clear A5 A3 A4 l1 l1' t1 v1 h2 v2 fn sn hgn
 generalize grF S5 u4 u6 = S6 at A6
 replace hF:=(And.intro A6.ia (And.intro A6.ib A6.ic))
 refine hK.out _ _ hF (fun hA=>?_)
 clear hK K'
 as_aux_lemma =>
 refine wpAnyS_take (v:=?_) hA rfl (fun _ _ _ h=>h) (Or.inl ⟨by rfl,?_⟩) hF (fun hA=>?_)
 rotate_left
 ·intro wS hSw;(try dsimp only at hSw);obtain ⟨s1,s2,s3⟩:=hSw;first | (apply Eq.trans;apply ex_ld_id;exact rfl;exact rfl;assumption;with_reducible rfl) | (apply Eq.trans;apply ex_bld0_at;exact rfl;with_reducible rfl) | (go_simp;try with_reducible rfl)
 try simp only [sA1,sA2,sA3,Act.put,sA4,sA5,sA6]
 refine wpAnyS_end hA rfl ?_
 simp only [List.drop_succ_cons,List.drop_zero]
 clear hF hk
 have qa6:=A6.ia
 have qb6:=A6.ib
 have qc6:=A6.ic
 have HA6:=Lib.hid A6
 clear A6
 go_upto_region 6 with (go_at_call 22;refine (mgMerge_any HA6.out.hs nd15 (by decide) eB eC).mono ?_;rintro e u7 ⟨r1,rfl,v7,_,hp⟩;have hp1:=Lib.hid (hp mg15);rw [mg15];clear hp)
 have fn:Fr noB u7 (u7.alloc (codPl.o r1)):=(Fr.refl noB u7).alloc _
 have bN1:=Cod.bxd_new (C:=codPl) u7 r1
 have A8:=(HA6.out.fr0 v7).fr0 fn
 obtain ⟨base,ops,pl1,hbn,hbs,_,_,hrs⟩:=hp1.out.plan
 obtain ⟨e1,e2,e3,e4,e5⟩:=plan15 pl1
 subst e2 e3
 have hrl:=hrs.len
 rw [runx3] at hrl
 obtain ⟨rF,rBA,rbn,rbc,rRA,rrn,rrc,rS,rT⟩:=r1
 simp only at e1 e4 e5 hbn hrl hbs
 subst e1 e4 e5 hrl
 have hbn':rbn = 1:=hbn.symm
 subst hbn'
 obtain ⟨gb,ob,rfl⟩:=Sl.adG hbs (by simp)
 have ib:=(hbs.fr0 fn).id 0 (by simp)
 simp only [Nat.zero_mul,Nat.add_zero,List.getElem_cons_zero] at ib
 have HA8:=Lib.hid A8
 have qa8:=A8.ia
 have qb8:=A8.ib
 clear A8 HA6 hp1 pl1 hrs hbs hbn v7 fn qa6 qb6 qc6
 generalize u7.alloc (codPl.o ⟨zID,some ⟨gb,ob,none⟩,1,rbc,rRA,3,rrc,true,3⟩) = u8 at bN1 ib HA8 qa8 qb8 ⊢
 generalize u7.heap.size = N1 at bN1 ⊢
 have HB1:=Lib.hid bN1
 clear bN1
 go_upto_region 7 with (go_at_call 22;refine (mgMerge_any HA8.out.hs nd15 (by decide) eB eA).mono ?_;rintro e u9 ⟨r2,rfl,v9,_,hp⟩;have hp2:=Lib.hid (hp mg15');rw [mg15'];clear hp)
 have fn:Fr noB u9 (u9.alloc (codPl.o r2)):=(Fr.refl noB u9).alloc _
 have bN2:=Cod.bxd_new (C:=codPl) u9 r2
 have f89:=v9.step0 fn
 have A10:=HA8.out.fr0 f89
 have bN1:=Cod.bxd_fr0 HB1.out f89
 have ib2:=rdI_fr ib (rdI_lt ib) f89 (by simp [noB])
 obtain ⟨base2,ops2,pl2,_,_,_,_,hrs⟩:=hp2.out.plan
 obtain ⟨e1,e3⟩:=plan15' pl2
 subst e3
 have hrl:=hrs.len
 rw [runx2] at hrl
 have HP2:=Lib.hid (And.intro e1 hrl)
 have HA10:=Lib.hid A10
 have HB1':=Lib.hid bN1
 have qb10:=A10.ib
 clear A10 HA8 HB1 hp2 pl2 hrs hrl e1 v9 fn f89 qa8 qb8 ib bN1
 generalize u9.alloc (codPl.o r2) = u10 at bN2 ib2 HA10 HB1' qb10 ⊢
 generalize u9.heap.size = N2 at bN2 ⊢
 have HB2:=Lib.hid bN2
 clear bN2
 go_upto_region 8 with (go_at_call 14;refine (mgCommit_any HA10.out.hs eB).mono ?_;rintro e u11 ⟨r3,rs3,rfl,hc3,v11⟩;rw [show (findC L15c eB).isSome = true from rfl])
 have fn:Fr noB u11 (u11.alloc (codC.o r3)):=(Fr.refl noB u11).alloc _
 have bN3:=Cod.bxd_new (C:=codC) u11 r3
 have f11:=v11.step0 fn
 have A12:=HA10.out.fr0 f11
 have bN1:=Cod.bxd_fr0 HB1'.out f11
 have bN2:=Cod.bxd_fr0 HB2.out f11
 have ib3:=rdI_fr ib2 (rdI_lt ib2) f11 (by simp [noB])
 have t3:r3.Time = 2:=hc3.inn.time.symm
 have c3:=(cgAt (Cod.bxd_rd bN3)).time
 rw [t3] at c3
 have d1:=plAt (Cod.bxd_rd bN1)
 have d2:=plAt (Cod.bxd_rd bN2)
 have d2f:=d2.fw
 have d2r:=d2.rows
 rw [HP2.out.1] at d2f
 rw [HP2.out.2] at d2r
 clear HA10 HB1' HB2 fn v11 hc3 f11 ib2 qb10 t3 bN1 bN2 bN3 d2
 have d1b:=d1.base
 have d1r:=d1.rows
 have d1s:=d1.safe
 have d1t:=d1.time
 have d1f:=d1.fw
 simp only at d1b d1r d1s d1t d1f
 clear d1
 generalize u11.alloc (codC.o r3) = u12 at A12 ib3 c3 d1b d1r d1s d1t d1f d2f d2r ⊢
 generalize u11.heap.size = N3 at c3 ⊢
 have hk:∀ w' w'':World,Fr noB w' w'' → (rdI w' P 0 = some eA ∧ rdI w' (P + 1) 0 = some eB ∧ rdI w' (P + 1 + 1) 0 = some eC ∧ w'.cell? ⟨N1,32,none⟩ = some (.slice (some ⟨gb,ob,none⟩) 1 rbc) ∧ rdI w' gb ob = some eA ∧ w'.cell? ⟨N1,33,none⟩ = some (.slice rRA 3 rrc) ∧ w'.cell? ⟨N1,34,none⟩ = some (.bool true) ∧ w'.cell? ⟨N1,35,none⟩ = some (.int .i64 3) ∧ rdI w' N1 0 = some zID ∧ rdI w' N2 0 = some eB ∧ w'.cell? ⟨N2,33,none⟩ = some (.slice r2.RA 2 r2.rc) ∧ w'.cell? ⟨N3,1,none⟩ = some (.int .i64 2)) → (rdI w'' P 0 = some eA ∧ rdI w'' (P + 1) 0 = some eB ∧ rdI w'' (P + 1 + 1) 0 = some eC ∧ w''.cell? ⟨N1,32,none⟩ = some (.slice (some ⟨gb,ob,none⟩) 1 rbc) ∧ rdI w'' gb ob = some eA ∧ w''.cell? ⟨N1,33,none⟩ = some (.slice rRA 3 rrc) ∧ w''.cell? ⟨N1,34,none⟩ = some (.bool true) ∧ w''.cell? ⟨N1,35,none⟩ = some (.int .i64 3) ∧ rdI w'' N1 0 = some zID ∧ rdI w'' N2 0 = some eB ∧ w''.cell? ⟨N2,33,none⟩ = some (.slice r2.RA 2 r2.rc) ∧ w''.cell? ⟨N3,1,none⟩ = some (.int .i64 2)):=fun w' w'' f h=>⟨rdI_fr h.1 (rdI_lt h.1) f (by simp [noB]),rdI_fr h.2.1 (rdI_lt h.2.1) f (by simp [noB]),rdI_fr h.2.2.1 (rdI_lt h.2.2.1) f (by simp [noB]),cell_fr0 h.2.2.2.1 f,rdI_fr h.2.2.2.2.1 (rdI_lt h.2.2.2.2.1) f (by simp [noB]),cell_fr0 h.2.2.2.2.2.1 f,cell_fr0 h.2.2.2.2.2.2.1 f,cell_fr0 h.2.2.2.2.2.2.2.1 f,rdI_fr h.2.2.2.2.2.2.2.2.1 (rdI_lt h.2.2.2.2.2.2.2.2.1) f (by simp [noB]),rdI_fr h.2.2.2.2.2.2.2.2.2.1 (rdI_lt h.2.2.2.2.2.2.2.2.2.1) f (by simp [noB]),cell_fr0 h.2.2.2.2.2.2.2.2.2.2.1 f,cell_fr0 h.2.2.2.2.2.2.2.2.2.2.2 f⟩
 have fd:Fr noB u12 u12.drew:=(Fr.refl noB u12).drew
 have hF0:=hk _ _ fd ⟨A12.ia,A12.ib,A12.ic,d1b,ib3,d1r,d1s,d1t,d1f,d2f,d2r,c3⟩
 have B0:=A12.fr0 fd
 have p1:(0:Int) < 1:=by decide
 clear A12 d1b ib3 d1r d1s d1t d1f d2f d2r c3 fd
 try simp only [List.append_eq,List.cons_append,List.nil_append]
 refine wp_region_M 83 84 [⟨4611686018427387904,64,0⟩,⟨9223372036854775808,4611686018427387904,1⟩,⟨18446744073709551616,9223372036854775808,2⟩,⟨36893488147419103232,18446744073709551648,4⟩,⟨73786976294838206464,55340232221128654848,12⟩,⟨147573952589676412928,92233720368547758080,20⟩,⟨295147905179352825856,166020696663385964544,36⟩,⟨590295810358705651712,313594649253062377472,68⟩,⟨1180591620717411303424,590295810358705651712,132⟩,⟨2361183241434822606848,1180591620717411303456,256⟩,⟨4722366482869645213696,3541774862152233910272,768⟩,⟨9444732965739290427392,5902958103587056517120,1280⟩,⟨18889465931478580854784,10625324586456701730816,2304⟩,⟨37778931862957161709568,1180591620717411303428,256⟩,⟨75557863725914323419136,57848989415153153867776,12544⟩,⟨151115727451828646838272,76738455346631734722560,16640⟩,⟨302231454903657293676544,151115727451828646838272,33024⟩,⟨604462909807314587353088,302231454903657293676576,65536⟩,⟨1208925819614629174706176,906694364710971881029632,196608⟩,⟨2417851639229258349412352,1511157274518286468382720,327680⟩,⟨4835703278458516698824704,2720083094132915643088896,589824⟩,⟨9671406556917033397649408,5137934733362173992501248,1114112⟩,⟨19342813113834066795298816,9671406556917033397649408,2162688⟩,⟨38685626227668133590597632,19342813113834066795298848,4194304⟩,⟨77371252455336267181195264,58028439341502200385896448,12582912⟩,⟨154742504910672534362390528,96714065569170333976494080,20971520⟩,⟨309485009821345068724781056,154742504910672534362390528,37748736⟩,⟨618970019642690137449562112,309485009821345068724781088,67108864⟩,⟨1237940039285380274899124224,928455029464035206174343168,201326592⟩,⟨2475880078570760549798248448,1547425049106725343623905280,335544320⟩,⟨4951760157141521099596496896,2785365088392105618523029504,603979776⟩,⟨9903520314283042199192993792,4951760157141521099596496896,1140850688⟩,⟨19807040628566084398385987584,9903520314283042199192993824,2147483648⟩,⟨39614081257132168796771975168,29710560942849126597578981376,6442450944⟩,⟨79228162514264337593543950336,9903520314283042199192993792,2147483648⟩,⟨158456325028528675187087900672,128745764085679548589508919296,27917287424⟩,⟨316912650057057350374175801344,168359845342811717386280894464,36507222016⟩,⟨633825300114114700748351602688,316912650057057350374175801344,70866960384⟩,⟨1267650600228229401496703205376,633825300114114700748351602944,137438953472⟩,⟨2535301200456458802993406410752,1901475900342344102245054808064,412316860416⟩,⟨5070602400912917605986812821504,3169126500570573503741758013440,687194767360⟩,⟨10141204801825835211973625643008,5070602400912917605986812821504,1236950581248⟩,⟨20282409603651670423947251286016,10141204801825835211973625643136,2199023255552⟩,⟨40564819207303340847894502572032,30423614405477505635920876929024,6597069766656⟩,⟨81129638414606681695789005144064,10141204801825835211973625643016,2199023255552⟩,⟨162259276829213363391578010288128,131835662423735857755657133359104,28587302322176⟩,⟨324518553658426726783156020576256,172400481631039198603551635931136,37383395344384⟩,⟨649037107316853453566312041152512,324518553658426726783156020576256,72567767433216⟩,⟨1298074214633706907132624082305024,649037107316853453566312041152640,140737488355328⟩,⟨2596148429267413814265248164610048,1947111321950560360698936123457536,422212465065984⟩,⟨5192296858534827628530496329220096,3245185536584267267831560205762560,703687441776640⟩,⟨10384593717069655257060992658440192,5841333965851681082096808370372608,1266637395197952⟩,⟨20769187434139310514121985316880384,11033630824386508710627304699592704,2392537302040576⟩,⟨41538374868278621028243970633760768,20769187434139310514121985316880384,4644337115725824⟩,⟨83076749736557242056487941267521536,41538374868278621028243970633761792,9007199254740992⟩,⟨166153499473114484112975882535043072,124615124604835863084731911901282304,27021597764222976⟩,⟨332306998946228968225951765070086144,166153499473114484112975882535043072,45035996273704960⟩,⟨664613997892457936451903530140172288,332306998946228968225951765070086656,72057594037927936⟩,⟨1329227995784915872903807060280344576,996920996838686904677855295210258432,216172782113783808⟩,⟨2658455991569831745807614120560689152,1661534994731144841129758825350430720,360287970189639680⟩,⟨5316911983139663491615228241121378304,2990762990516060714033565885630775296,648518346341351424⟩,⟨10633823966279326983230456482242756608,5316911983139663491615228241121378304,1224979098644774912⟩,⟨21267647932558653966460912964485513216,10633823966279326983230456482242756610,2305843009213693952⟩,⟨42535295865117307932921825928971026432,10633823966279326983230456482242756616,2305843009213693952⟩,⟨85070591730234615865843651857942052864,53169119831396634916152282411213783040,11529215046068469760⟩,⟨170141183460469231731687303715884105728,116972063629072596815535021304670322688,25364273101350633472⟩,⟨340282366920938463463374607431768211456,180775007426748558714917760198126862336,39199331156632797184⟩,⟨680564733841876926926749214863536422912,350916190887217790446605063914010968064,76092819304051900416⟩,⟨1361129467683753853853498429727072845824,691198557808156253909979671345779179520,149879795598890106880⟩,⟨2722258935367507707706996859454145691648,1361129467683753853853498429727072845824,332041393326771929088⟩,⟨5444517870735015415413993718908291383296,2722258935367507707706996859454145691650,590295810358705651712⟩,⟨10889035741470030830827987437816582766592,2722258935367507707706996859454145691664,590295810358705651712⟩,⟨21778071482940061661655974875633165533184,13611294676837538538534984297270728458240,2951479051793528258560⟩,⟨43556142965880123323311949751266331066368,29944848289042584784776965453995602608128,6493253913945762168832⟩,⟨87112285931760246646623899502532662132736,46278401901247631031018946610720476758016,10035028776097996079104⟩,⟨174224571863520493293247799005065324265472,89834544867127754354330896361986807824384,19479761741837286506496⟩,⟨348449143727040986586495598010130648530944,176946830798888001000954795864519469957120,38369227673315867361280⟩,⟨696898287454081973172991196020261297061888,348449143727040986586495598010130648530944,85002596691653613846528⟩,⟨1393796574908163946345982392040522594123776,696898287454081973172991196020261297061890,151115727451828646838272⟩,⟨2787593149816327892691964784081045188247552,2090694862362245919518973588060783891185664,453347182355485940514816⟩,⟨5575186299632655785383929568162090376495104,3484491437270409865864955980101306485309440,755578637259143234191360⟩,⟨11150372599265311570767859136324180752990208,6272084587086737758556920764182351673556992,1360041547066457821544448⟩,⟨22300745198530623141535718272648361505980416,11847270886719393543940850332344442050052096,2568967366681086996250624⟩,⟨1,22300745198530623141535718272648361505980416,9671406556917033397649407⟩] [(true,0),(true,1),(true,2),(true,3),(true,4),(true,5),(true,6),(true,7),(true,8),(true,9),(true,10),(true,11),(true,12),(true,13),(true,14),(true,15),(true,16),(true,17),(true,18),(true,19),(true,20),(true,21),(true,22),(true,23),(true,24),(true,25),(true,26),(true,27),(true,28),(true,29),(true,30),(true,31),(true,32),(true,33),(true,34),(true,35),(true,36),(true,37),(true,38),(true,39),(true,40),(true,41),(true,42),(true,43),(true,44),(true,45),(true,46),(true,47),(true,48),(true,49),(true,50),(true,51),(true,52),(true,53),(true,54),(true,55),(true,56),(true,57),(true,58),(true,59),(true,60),(true,61),(true,62),(true,63),(false,64),(false,65),(true,66),(true,67),(true,68),(true,69),(true,70),(true,71),(false,72),(false,73),(true,74),(true,75),(true,76),(true,77),(true,78),(false,79),(false,80),(true,81),(true,82)] (fun w'=>rdI w' P 0 = some eA ∧ rdI w' (P + 1) 0 = some eB ∧ rdI w' (P + 1 + 1) 0 = some eC ∧ w'.cell? ⟨N1,32,none⟩ = some (.slice (some ⟨gb,ob,none⟩) 1 rbc) ∧ rdI w' gb ob = some eA ∧ w'.cell? ⟨N1,33,none⟩ = some (.slice rRA 3 rrc) ∧ w'.cell? ⟨N1,34,none⟩ = some (.bool true) ∧ w'.cell? ⟨N1,35,none⟩ = some (.int .i64 3) ∧ rdI w' N1 0 = some zID ∧ rdI w' N2 0 = some eB ∧ w'.cell? ⟨N2,33,none⟩ = some (.slice r2.RA 2 r2.rc) ∧ w'.cell? ⟨N3,1,none⟩ = some (.int .i64 2)) (by kernel_rfl) rfl (by kernel_rfl) (by kernel_rfl) (by kernel_rfl) hF0 (fun hA hF=>?_)
 iterate 64
  refine wpAnyS_take (v:=?_) hA rfl (fun _ _ _ h=>h) (Or.inl ⟨by rfl,?_⟩) hF (fun hA=>?_)
  rotate_left
  ·intro wS hSw;(try dsimp only at hSw);obtain ⟨s1,s2,s3,s4,s5,s6,s7,s8,s9,s10,s11,s12⟩:=hSw;first | (apply Eq.trans;apply ex_ld_id;exact rfl;exact rfl;assumption;with_reducible rfl) | (apply Eq.trans;apply ex_bld0_at;exact rfl;with_reducible rfl) | (go_simp;try with_reducible rfl)
  try simp only [sA1,sA2,sA3,Act.put,sA4,sA5,sA6]
 refine wpAnyS_one hA rfl (fun K' hK=>?_)
 rw [if_pos (by rfl)]
 refine step_runP _ _ (ex_bs1_at (x:=eB) rfl rfl) ?_
 have fn:Fr noB u12.drew (u12.drew.alloc (rowo [eB])):=(Fr.refl noB _).alloc _
 have sn:=sl_new u12.drew [eB]
 have B1:=B0.fr0 fn
 replace hF:=hk _ _ fn hF
 refine hK.out _ _ hF (fun hA=>?_)
 clear hK K'
 as_aux_lemma =>
 refine wpAnyS_one hA rfl (fun K' hK=>?_)
 rw [if_pos (by rfl)]
 go_simp
 go_at_call 17
 refine (mgOps_any B1.hs nd15 (by decide) _ _ 1 [eB] rfl sn (by simp)).mono ?_
 rintro e u13 ⟨Ao,co,rso,lo,rfl,po,bo,so,ao,f13⟩
 have hl2:rso.length = 2:=by rw [ao.1,opsB po];rfl
 rw [hl2]
 replace hF:=hk _ _ f13 hF
 refine hK.out _ _ hF (fun hA=>?_)
 clear hK K'
 as_aux_lemma =>
 have B2:=B1.fr0 f13
 clear B0 B1 fn sn hl2 po bo so ao f13
 iterate 6
  refine wpAnyS_take (v:=?_) hA rfl (fun _ _ _ h=>h) (Or.inl ⟨by rfl,?_⟩) hF (fun hA=>?_)
  rotate_left
  ·intro wS hSw;(try dsimp only at hSw);obtain ⟨s1,s2,s3,s4,s5,s6,s7,s8,s9,s10,s11,s12⟩:=hSw;first | (apply Eq.trans;apply ex_ld_id;exact rfl;exact rfl;assumption;with_reducible rfl) | (apply Eq.trans;apply ex_bld0_at;exact rfl;with_reducible rfl) | (go_simp;try with_reducible rfl)
  try simp only [sA1,sA2,sA3,Act.put,sA4,sA5,sA6]
 refine wpAnyS_one hA rfl (fun K' hK=>?_)
 rw [if_pos (by rfl)]
 refine step_runP _ _ (ex_bs1_at (x:=eC) rfl rfl) ?_
 have fn:Fr noB u13 (u13.alloc (rowo [eC])):=(Fr.refl noB _).alloc _
 have sn:=sl_new u13 [eC]
 have B3:=B2.fr0 fn
 replace hF:=hk _ _ fn hF
 refine hK.out _ _ hF (fun hA=>?_)
 clear hK K'
 as_aux_lemma =>
 refine wpAnyS_one hA rfl (fun K' hK=>?_)
 rw [if_pos (by rfl)]
 go_simp
 go_at_call 20
 refine (mgRows_any B3.hs nd15 (by decide) _ _ 1 [eC] rfl sn (by simp)).mono ?_
 rintro e u14 hr14
 obtain ⟨Ar,nr,cr,lr,rfl,pr,br,rr,f14⟩:=hr14.u
 have hl2:nr = 2:=by rw [rr.s.len,opsC pr];exact runx2'
 subst hl2
 replace hF:=hk _ _ f14 hF
 refine hK.out _ _ hF (fun hA=>?_)
 clear hK K'
 as_aux_lemma =>
 have B4:=B3.fr0 f14
 clear B2 B3 fn sn pr br rr f14 hr14
 iterate 5
  refine wpAnyS_take (v:=?_) hA rfl (fun _ _ _ h=>h) (Or.inl ⟨by rfl,?_⟩) hF (fun hA=>?_)
  rotate_left
  ·intro wS hSw;(try dsimp only at hSw);obtain ⟨s1,s2,s3,s4,s5,s6,s7,s8,s9,s10,s11,s12⟩:=hSw;first | (apply Eq.trans;apply ex_ld_id;exact rfl;exact rfl;assumption;with_reducible rfl) | (apply Eq.trans;apply ex_bld0_at;exact rfl;with_reducible rfl) | (go_simp;try with_reducible rfl)
  try simp only [sA1,sA2,sA3,Act.put,sA4,sA5,sA6]
 refine wpAnyS_one hA rfl (fun K' hK=>?_)
 rw [if_pos (by rfl)]
 go_simp
 go_at_call 12
 refine (mgDag_any B4.hs).mono ?_
 rintro e u15 ⟨D,Fd,rfl,hd,f15⟩
 replace hF:=hk _ _ f15 hF
 refine hK.out _ _ hF (fun hA=>?_)
 clear hK K'
 as_aux_lemma =>
 have B5:=B4.fr0 f15
 clear B4 f15
 refine wpAnyS_one hA rfl (fun K' hK=>?_)
 rw [if_pos (by rfl)]
 go_simp
 go_at_call 13
 refine (len_any _ D Fd (dgH L15c) hd).mono ?_
 rintro e u16 ⟨rfl,f16⟩
 rw [show (dgH L15c).length = 3 from rfl]
 replace hF:=hk _ _ f16 hF
 refine hK.out _ _ hF (fun hA=>?_)
 clear hK K'
 as_aux_lemma =>
 have B6:=B5.fr0 f16
 clear B5 f16 hd
 iterate 2
  refine wpAnyS_take (v:=?_) hA rfl (fun _ _ _ h=>h) (Or.inl ⟨by rfl,?_⟩) hF (fun hA=>?_)
  rotate_left
  ·intro wS hSw;(try dsimp only at hSw);obtain ⟨s1,s2,s3,s4,s5,s6,s7,s8,s9,s10,s11,s12⟩:=hSw;first | (apply Eq.trans;apply ex_ld_id;exact rfl;exact rfl;assumption;with_reducible rfl) | (apply Eq.trans;apply ex_bld0_at;exact rfl;with_reducible rfl) | (go_simp;try with_reducible rfl)
  try simp only [sA1,sA2,sA3,Act.put,sA4,sA5,sA6]
 refine wpAnyS_end hA rfl ?_
 simp only [List.drop_succ_cons,List.drop_zero]
 have hfr:=B6.fr
 clear hF hk hF0 B6
 go_wp2_with fail
 go_ret
 exact ⟨rfl,hfr⟩
def Grown15 (w:World) (e:Ending) (w':World):Prop:=∃ H S L ts A cA,e = .returned (.tuple #[.pointer (some ⟨H,0,none⟩),.slice A ts.length cA]) ∧ Hs w' H S L ∧ Gw L ts ∧ OwnC codI w w' A cA (rowG ts.length) ∧ (∀ g,A.map (·.block) = some g → ¬ S g) ∧ (∀ b,S b → w.heap.size ≤ b) ∧ Fr noB w w'
def GroR15 (w0:World) (H:Nat) (nums:List Tri) (gk:Nat) (iv tv kv:Value) (wr:World):Prop :=
 ∃ ts S A cA B cB L,kv = .int .i64 ((ts.length:Nat):Int) ∧ gk = nums.length - ts.length ∧ ts.length ≤ nums.length ∧ iv = .slice A ts.length cA ∧ tv = .slice B ts.length cB ∧ GR w0 wr H S L ts A cA B cB
set_option maxRecDepth 100000 in
set_option maxHeartbeats 8000000 in
theorem l15grown_any (w:World) (A0:Option Addr) (c0 n:Nat) (nums:List Tri) (hn:nums.length = n) (hs:Sl w A0 (codTr.row nums)) (hb:nums.length ≤ 200000000000000) :
  Calls Tryz.prog 26 #[.slice A0 n c0] w (Grown15 w):=by
 go_enter Tryz.func26,Tryz.ntmps26
 go_upto_region 2 with (go_at_call 8;refine (mgNew_any _).mono ?_;rintro e w1 ⟨H,rfl,h1,f1⟩)
 subst hn
 have HS0:=Lib.hid h1
 have F0:=Lib.hid f1
 clear h1 f1
 go_upto_region 4 with fail
 go_wp2_with fail
 go_loopg [5,6,23] nums.length (fun gk iv tv kv wr=>GroR15 w H nums gk iv tv kv wr)
 case atStart =>
  have e0:GR w w1 H (grF (fun _=>False) w w1) [] [] none 0 none 0:=⟨HS0.out,Gw.nil,World.ownsRow_nil _ _ _ _,World.ownsRow_nil _ _ _ _,(fun g hg=>by cases hg),(fun g hg=>by cases hg),fun b e=>e.elim False.elim (fun e=>e.1),F0.out⟩
  have fa:Fr noB w1 (w1.alloc (.cells #[] 24)):=(Fr.refl noB w1).alloc _
  have fb:Fr noB (w1.alloc (.cells #[] 24)) ((w1.alloc (.cells #[] 24)).alloc (.cells #[] 2)):=(Fr.refl noB _).alloc _
  have la:=F0.out.size
  have no:∀ b,w1.heap.size ≤ b → ¬ grF (fun _=>False) w w1 b:=fun b hb e=>e.elim False.elim (fun e=>by omega)
  refine ⟨[],_,_,0,_,0,[],rfl,rfl,Nat.zero_le _,rfl,rfl,e0.hs.fr0 (fa.step0 fb),Gw.nil,?_,?_,?_,?_,e0.lo,e0.fr.step0 (fa.step0 fb)⟩
  ·have:=World.ownsRow_lit (base:=w1.heap.size) (e:=24) (size:=32) w1 #[] 0 (Nat.le_refl _) (by simp [maxLen]) rfl
   exact own_base (own_new0 this fb) la
  ·have:=World.ownsRow_lit (base:=(w1.alloc (.cells #[] 24)).heap.size) (e:=2) (size:=1) (w1.alloc (.cells #[] 24)) #[] 0 (Nat.le_refl _) (by simp [maxLen]) rfl
   simp only [World.size_alloc] at this
   exact own_base this (by omega)
  ·intro g hg
   simp only [Option.map_some,Option.some.injEq] at hg
   exact no g (by omega)
  ·intro g hg
   simp only [Option.map_some,Option.some.injEq] at hg
   exact no g (by omega)
 case round =>
  clear HS0 F0
  obtain ⟨ts,S,A,cA,B,cB,L,rfl,rfl,hkn,rfl,rfl,hR⟩:=hrel
  obtain ⟨k,hk⟩:∃ k,k = ts.length:=⟨_,rfl⟩
  rw [← hk] at hkn ⊢
  have HK:=Lib.hid hk
  have HR:=Lib.hid hR
  clear hk hR
  by_cases hlt:k < nums.length
  ·by_cases h16:k < 16
   ·have i1:(k:Int) < (nums.length:Int):=by omega
    have i2:(k:Int) < 16:=by omega
    obtain ⟨gN,oN,rfl,hgN⟩:=Sl.addr hs (by omega)
    have rx:codTr.rd wr gN (oN + k * 3) = some nums[k]:=Sl.rd (hs.fr0 HR.out.fr) k hlt
    have HNX:=Lib.hid rx
    generalize nums[k] = x at rx
    have hi:(0:Int) ≤ (k:Int):=by omega
    have v1:wrap64 ((k:Int) + 1) = k + 1:=by unfold wrap64;omega
    have v2:wrap64 (1 + (k:Int)) = k + 1:=by unfold wrap64;omega
    have v3:IntKind.u8.wrap ((k:Int) + 1) = k + 1:=by rw [IntKind.wrap_u8];omega
    have t1:((k:Int) + 1).toNat = k + 1:=by omega
    have u1:(0:Int) ≤ k + 1:=by omega
    have u2:(k + 1:Int) < 256:=by omega
    go_upto_region 8 with fail
    clear HNX rx hgN
    have fa:Fr noB wr (wr.alloc (codTr.o x)):=(Fr.refl noB wr).alloc _
    have qa:=Cod.rd_new' (C:=codTr) wr x
    have za:(wr.alloc (codTr.o x)).heap.size = wr.heap.size + 1:=by simp
    obtain ⟨P,hP⟩:∃ P,P = wr.heap.size:=⟨_,rfl⟩
    rw [← hP] at qa za ⊢
    generalize wr.alloc (codTr.o x) = Wa at fa qa za ⊢
    have HZ:=Lib.hid (And.intro hP za)
    clear hP za
    go_upto_region 9 with fail
    obtain ⟨a1,a2,a3⟩:=putB_fr (bxI_new Wa zID) (id2 (k + 1) 0)
    have fb:Fr noB Wa (putB (Wa.alloc (ido zID)) Wa.heap.size (id2 (k + 1) 0)):=((Fr.refl noB Wa).alloc _).step1 a1 (Nat.le_refl _)
    have zb:(putB (Wa.alloc (ido zID)) Wa.heap.size (id2 (k + 1) 0)).heap.size = P + 2:=by rw [a2,World.size_alloc,HZ.out.2]
    have qb:=Cod.rd_fr0 qa fb
    have Fb:=fa.step0 fb
    clear qa a1 a2 fa fb
    rw [HZ.out.2] at a3 zb Fb qb ⊢
    generalize putB (Wa.alloc (ido zID)) (P + 1) (id2 (k + 1) 0) = Wb at a3 zb Fb qb ⊢
    have HZb:=Lib.hid zb
    clear zb
    go_upto_region 10 with fail
    have fc:Fr noB Wb (Wb.alloc (codC.o ⟨zCgW.PA,zCgW.pn,zCgW.pc,1,1 + (k:Int),zCgW.OA,zCgW.on,zCgW.oc,id2 1 0,zCgW.Msg⟩)):=(Fr.refl noB Wb).alloc _
    have b1:=Cod.bxd_new (C:=codC) Wb ⟨zCgW.PA,zCgW.pn,zCgW.pc,1,1 + (k:Int),zCgW.OA,zCgW.on,zCgW.oc,id2 1 0,zCgW.Msg⟩
    have zc:(Wb.alloc (codC.o ⟨zCgW.PA,zCgW.pn,zCgW.pc,1,1 + (k:Int),zCgW.OA,zCgW.on,zCgW.oc,id2 1 0,zCgW.Msg⟩)).heap.size = P + 3:=by rw [World.size_alloc,HZb.out]
    have qi:=rdI_fr (bxI_rd a3) (rdI_lt (bxI_rd a3)) fc (by simp [noB])
    rw [HZb.out] at b1 ⊢
    obtain ⟨W,hW⟩:∃ W,W = Wb.alloc (codC.o ⟨zCgW.PA,zCgW.pn,zCgW.pc,1,1 + (k:Int),zCgW.OA,zCgW.on,zCgW.oc,id2 1 0,zCgW.Msg⟩):=⟨_,rfl⟩
    rw [← hW] at fc b1 zc qi ⊢
    have hB:GB wr W W P x k (cwG none 0 0 1 k none 0 0):=⟨Cod.rd_fr0 qb fc,qi,b1,Fb.step0 fc,Nat.le_refl _,HZ.out.1,zc⟩
    clear hW fc b1 zc qi qb Fb a3 HZ HZb v1 v2 v3 t1 u1 u2
    obtain ⟨d1,d2,d3⟩:=hB.tri
    have HB:=Lib.hid hB
    clear hB
    go_cut [44] from 24 to 165 (fun v wx=>∃ b:Bool,v = .bool b ∧ (b = true → 0 < k) ∧ W = wx)
    case first =>
     by_cases hk0:0 < k
     ·have e0:decide (0 < (k:Int)) = true:=by simpa using hk0
      by_cases ha:0 ≤ x.a
      ·have e1:decide (0 ≤ x.a) = true:=by simpa using ha
       go_wp2_with fail
       go_meet
       case rel=>exact ⟨true,rfl,fun _=>hk0,rfl⟩
      ·have e1:decide (0 ≤ x.a) = false:=by simpa using ha
       go_wp2_with fail
       go_meet
       case rel=>exact ⟨false,rfl,fun h=>absurd h (by decide),rfl⟩
     ·have e0:decide (0 < (k:Int)) = false:=by simpa using hk0
      go_wp2_with fail
      go_meet
      case rel=>exact ⟨false,rfl,fun h=>absurd h (by decide),rfl⟩
    case rest =>
     obtain ⟨b0,rfl,hb0,rfl⟩:=hcut
     have HB0:=Lib.hid hb0
     clear hb0
     go_upto_if 44 with fail
     go_cut [11,12] from 24 to 165 (fun va vb wx=>∃ ps t PA pc,GB wr W wx P x k (cwG PA ps.length pc t k none 0 0) ∧ OwnC codI W wx PA pc ps ∧ PsG ts t ps 1)
     case first =>
      cases b0
      case true =>
       have hk0:=HB0.out rfl
       obtain ⟨ra,era,hra⟩:=and_maskM x.a 1023 (by omega)
       obtain ⟨rb,erb,hrb⟩:=and_maskM x.b 1023 (by omega)
       have la:ra % k < k:=Nat.mod_lt _ hk0
       have lb:rb % k < k:=Nat.mod_lt _ hk0
       have hkz:¬ (k = 0):=by omega
       have ha:(bits BinOp.and IntKind.i64 x.a 1023).tmod (k:Int) = ((ra % k:Nat):Int):=by rw [show bits BinOp.and IntKind.i64 x.a 1023 = (ra:Int) from era];rfl
       have hb':(bits BinOp.and IntKind.i64 x.b 1023).tmod (k:Int) = ((rb % k:Nat):Int):=by rw [show bits BinOp.and IntKind.i64 x.b 1023 = (rb:Int) from erb];rfl
       generalize ra % k = a at la ha
       generalize rb % k = b at lb hb'
       clear era erb hra hrb HB0
       go_upto_region 11 with fail
       refine wp_region_H (fun w'=>w'.cell? ⟨P,0,none⟩ = some (.int .i64 x.a) ∧ w'.cell? ⟨P,1,none⟩ = some (.int .i64 x.b)) (by kernel_rfl) ⟨d1,d2⟩ (fun hF=>?_)
       refine wpAnyH_take (i:=0) (v:=?_) rfl (by kernel_rfl) (by kernel_rfl) (by kernel_rfl) (fun _ _ _ h=>h) (Or.inl ⟨by rfl,?_⟩) hF ?_
       rotate_left
       ·intro wS hSw;(try dsimp only at hSw);obtain ⟨s1,s2⟩:=hSw;first | (apply Eq.trans;apply ex_ld_id;exact rfl;exact rfl;assumption;with_reducible rfl) | (go_simp;try with_reducible rfl)
       try simp only [sA1,sA2,sA3,Act.put,sA4,sA5,sA6]
       refine wpAnyH_take (i:=1) (v:=?_) rfl (by kernel_rfl) (by kernel_rfl) (by kernel_rfl) (fun _ _ _ h=>h) (Or.inl ⟨by rfl,?_⟩) hF ?_
       rotate_left
       ·intro wS hSw;(try dsimp only at hSw);obtain ⟨s1,s2⟩:=hSw;first | (apply Eq.trans;apply ex_ld_id;exact rfl;exact rfl;assumption;with_reducible rfl) | (go_simp;try with_reducible rfl)
       try simp only [sA1,sA2,sA3,Act.put,sA4,sA5,sA6]
       refine wpAnyH_take (i:=2) (v:=?_) rfl (by kernel_rfl) (by kernel_rfl) (by kernel_rfl) (fun _ _ _ h=>h) (Or.inl ⟨by rfl,?_⟩) hF ?_
       rotate_left
       ·intro wS hSw;(try dsimp only at hSw);obtain ⟨s1,s2⟩:=hSw;first | (apply Eq.trans;apply ex_ld_id;exact rfl;exact rfl;assumption;with_reducible rfl) | (go_simp;try with_reducible rfl)
       try simp only [sA1,sA2,sA3,Act.put,sA4,sA5,sA6]
       refine wpAnyH_take (i:=3) (v:=?_) rfl (by kernel_rfl) (by kernel_rfl) (by kernel_rfl) (fun _ _ _ h=>h) (Or.inl ⟨by rfl,?_⟩) hF ?_
       rotate_left
       ·intro wS hSw;(try dsimp only at hSw);obtain ⟨s1,s2⟩:=hSw;first | (apply Eq.trans;apply ex_ld_id;exact rfl;exact rfl;assumption;with_reducible rfl) | (go_simp;try with_reducible rfl)
       try simp only [sA1,sA2,sA3,Act.put,sA4,sA5,sA6]
       refine wpAnyH_take (i:=4) (v:=?_) rfl (by kernel_rfl) (by kernel_rfl) (by kernel_rfl) (fun _ _ _ h=>h) (Or.inl ⟨by rfl,?_⟩) hF ?_
       rotate_left
       ·intro wS hSw;(try dsimp only at hSw);obtain ⟨s1,s2⟩:=hSw;first | (apply Eq.trans;apply ex_ld_id;exact rfl;exact rfl;assumption;with_reducible rfl) | (go_simp;try with_reducible rfl)
       try simp only [sA1,sA2,sA3,Act.put,sA4,sA5,sA6]
       refine wpAnyH_take (i:=5) (v:=?_) rfl (by kernel_rfl) (by kernel_rfl) (by kernel_rfl) (fun _ _ _ h=>h) (Or.inl ⟨by rfl,?_⟩) hF ?_
       rotate_left
       ·intro wS hSw;(try dsimp only at hSw);obtain ⟨s1,s2⟩:=hSw;first | (apply Eq.trans;apply ex_ld_id;exact rfl;exact rfl;assumption;with_reducible rfl) | (go_simp;try with_reducible rfl)
       try simp only [sA1,sA2,sA3,Act.put,sA4,sA5,sA6]
       refine wpAnyH_take (i:=6) (v:=?_) rfl (by kernel_rfl) (by kernel_rfl) (by kernel_rfl) (fun _ _ _ h=>h) (Or.inl ⟨by rfl,?_⟩) hF ?_
       rotate_left
       ·intro wS hSw;(try dsimp only at hSw);obtain ⟨s1,s2⟩:=hSw;first | (apply Eq.trans;apply ex_ld_id;exact rfl;exact rfl;assumption;with_reducible rfl) | (go_simp;try with_reducible rfl)
       try simp only [sA1,sA2,sA3,Act.put,sA4,sA5,sA6]
       refine wpAnyH_take (i:=7) (v:=?_) rfl (by kernel_rfl) (by kernel_rfl) (by kernel_rfl) (fun _ _ _ h=>h) (Or.inl ⟨by rfl,?_⟩) hF ?_
       rotate_left
       ·intro wS hSw;(try dsimp only at hSw);obtain ⟨s1,s2⟩:=hSw;first | (apply Eq.trans;apply ex_ld_id;exact rfl;exact rfl;assumption;with_reducible rfl) | (go_simp;try with_reducible rfl)
       try simp only [sA1,sA2,sA3,Act.put,sA4,sA5,sA6]
       refine wpAnyH_take (i:=8) (v:=?_) rfl (by kernel_rfl) (by kernel_rfl) (by kernel_rfl) (fun _ _ _ h=>h) (Or.inl ⟨by rfl,?_⟩) hF ?_
       rotate_left
       ·intro wS hSw;(try dsimp only at hSw);obtain ⟨s1,s2⟩:=hSw;first | (apply Eq.trans;apply ex_ld_id;exact rfl;exact rfl;assumption;with_reducible rfl) | (go_simp;try with_reducible rfl)
       try simp only [sA1,sA2,sA3,Act.put,sA4,sA5,sA6]
       refine wpAnyH_take (i:=9) (v:=?_) rfl (by kernel_rfl) (by kernel_rfl) (by kernel_rfl) (fun _ _ _ h=>h) (Or.inl ⟨by rfl,?_⟩) hF ?_
       rotate_left
       ·intro wS hSw;(try dsimp only at hSw);obtain ⟨s1,s2⟩:=hSw;first | (apply Eq.trans;apply ex_ld_id;exact rfl;exact rfl;assumption;with_reducible rfl) | (go_simp;try with_reducible rfl)
       try simp only [sA1,sA2,sA3,Act.put,sA4,sA5,sA6]
       refine wpAnyH_take (i:=10) (v:=?_) rfl (by kernel_rfl) (by kernel_rfl) (by kernel_rfl) (fun _ _ _ h=>h) (Or.inl ⟨by rfl,?_⟩) hF ?_
       rotate_left
       ·intro wS hSw;(try dsimp only at hSw);obtain ⟨s1,s2⟩:=hSw;first | (apply Eq.trans;apply ex_ld_id;exact rfl;exact rfl;assumption;with_reducible rfl) | (go_simp;try with_reducible rfl)
       try simp only [sA1,sA2,sA3,Act.put,sA4,sA5,sA6]
       refine wpAnyH_take (i:=11) (v:=?_) rfl (by kernel_rfl) (by kernel_rfl) (by kernel_rfl) (fun _ _ _ h=>h) (Or.inl ⟨by rfl,?_⟩) hF ?_
       rotate_left
       ·intro wS hSw;(try dsimp only at hSw);obtain ⟨s1,s2⟩:=hSw;first | (apply Eq.trans;apply ex_ld_id;exact rfl;exact rfl;assumption;with_reducible rfl) | (go_simp;try with_reducible rfl)
       try simp only [sA1,sA2,sA3,Act.put,sA4,sA5,sA6]
       refine wpAnyH_done (by kernel_rfl) ?_ _
       clear hF ha hb' d1 d2 d3
       have hB1:=HB.out.new (Fr.refl noB W).drew
       generalize W.drew = V at hB1 ⊢
       have hkt:=HK.out
       have oA:=HR.out.ia
       rw [← hkt] at oA
       obtain ⟨gA,oA',rfl⟩:=(Sl.own oA).adG (by rw [rowG_len];omega)
       have gm:=(Sl.own oA).id (min a b) (by rw [rowG_len];omega)
       have gx:=(Sl.own oA).id (max a b) (by rw [rowG_len];omega)
       rw [rowG_get] at gm gx
       obtain ⟨gT,oT,rfl⟩:∃ g o,B = some ⟨g,o,none⟩:=by
        obtain ⟨g,o,e,_⟩:=Sl.addr (Sl.own HR.out.tm) (by omega)
        exact ⟨g,o,e⟩
       have ca:=Sl.cell1 rfl (Sl.own HR.out.tm) a (by omega) rfl
       have cb:=Sl.cell1 rfl (Sl.own HR.out.tm) b (by omega) rfl
       have hta:=HR.out.g.tm _ (List.getElem_mem (show a < ts.length by omega))
       have htb:=HR.out.g.tm _ (List.getElem_mem (show b < ts.length by omega))
       have la2:a < ts.length:=by omega
       have lb2:b < ts.length:=by omega
       obtain ⟨ta,eta⟩:∃ ta,ta = ts[a]'la2:=⟨_,rfl⟩
       obtain ⟨tb,etb⟩:∃ tb,tb = ts[b]'lb2:=⟨_,rfl⟩
       rw [← eta] at ca hta
       rw [← etb] at cb htb
       rw [← hkt] at hta htb
       have HT:=Lib.hid (And.intro eta etb)
       have m3:min (a:Int) (b:Int) = ((min a b:Nat):Int):=by omega
       have m4:max (a:Int) (b:Int) = ((max a b:Nat):Int):=by omega
       have z1:(0:Int) ≤ ((min a b:Nat):Int):=by omega
       have z2:((min a b:Nat):Int) < (k:Int):=by omega
       have z3:(0:Int) ≤ ((max a b:Nat):Int):=by omega
       have z4:((max a b:Nat):Int) < (k:Int):=by omega
       have HM:=Lib.hid (And.intro gm gx)
       have HC:=Lib.hid (And.intro ca cb)
       have HW0:=Lib.hid (And.intro hta htb)
       clear eta etb hkt oA gm gx ca cb hta htb
       go_upto_region 12 with fail
       have hB2:=hB1.new (Fr.refl noB V).drew
       have rd:∀ (w':World) (cw:CgW),GB wr W w' P x k cw → rdI w' gA (oA' + min a b * 32) = some (idG (min a b)) ∧ rdI w' gA (oA' + max a b * 32) = some (idG (max a b)):=fun w' cw h=>⟨rdI_fr HM.out.1 (rdI_lt HM.out.1) h.fr (by simp [noB]),rdI_fr HM.out.2 (rdI_lt HM.out.2) h.fr (by simp [noB])⟩
       have RD:=Lib.hid rd
       clear rd hB1
       have hF0:V.drew.cell? ⟨P + 2,0,none⟩ = some (.slice none 0 0) ∧ rdI V.drew gA (oA' + min a b * 32) = some (idG (min a b)):=⟨(cgAt (Cod.bxd_rd hB2.c)).parents,(RD.out _ _ hB2).1⟩
       refine wp_region_M 11 12 [⟨36028797018963968,1024,0⟩,⟨72057594037927936,36028797018963968,1⟩,⟨144115188075855872,32,0⟩,⟨288230376151711744,2048,0⟩,⟨576460752303423488,4096,0⟩,⟨1152921504606846976,864691128455135232,24⟩,⟨2305843009213693952,1297036692682702848,36⟩,⟨4611686018427387904,2305843009213693952,64⟩,⟨9223372036854775808,4611686018427387904,128⟩,⟨18446744073709551616,9295429630892703744,258⟩,⟨36893488147419103232,1024,1023⟩,⟨0,55340232221128654848,2047⟩] [(true,0),(true,1),(true,2),(true,3),(true,4),(true,5),(true,6),(true,7),(false,8),(false,9),(true,10)] (fun w'=>w'.cell? ⟨P + 2,0,none⟩ = some (.slice none 0 0) ∧ rdI w' gA (oA' + min a b * 32) = some (idG (min a b))) (by kernel_rfl) rfl (by kernel_rfl) (by kernel_rfl) (by kernel_rfl) hF0 (fun hA hF=>?_)
       clear hF0
       iterate 8
        refine wpAnyS_take (v:=?_) hA rfl (fun _ _ _ h=>h) (Or.inl ⟨by rfl,?_⟩) hF (fun hA=>?_)
        rotate_left
        ·intro wS hSw;(try dsimp only at hSw);obtain ⟨s1,s2⟩:=hSw;first | (apply Eq.trans;apply ex_ld_id;exact rfl;exact rfl;assumption;with_reducible rfl) | (go_simp;try with_reducible rfl)
        try simp only [sA1,sA2,sA3,Act.put,sA4,sA5,sA6]
       refine wpAnyS_one hA rfl (fun K' hK=>?_)
       refine step_runI rfl _ _ (ex_bsI_at (x:=idG (min a b)) rfl rfl) ?_
       have fn:Fr noB V.drew (V.drew.alloc (rowo [idG (min a b)])):=(Fr.refl noB _).alloc _
       have sl:Sl (V.drew.alloc (rowo [idG (min a b)])) (some ⟨V.drew.heap.size,0,none⟩) (codI.row [idG (min a b)]):=sl_new V.drew [idG (min a b)]
       have hB3:=hB2.new fn
       replace hF:=(And.intro (cgAt (Cod.bxd_rd hB3.c)).parents (RD.out _ _ hB3).1)
       refine hK.out _ _ hF (fun hA=>?_)
       clear hK K'
       refine wpAnyS_one hA rfl (fun K' hK=>?_)
       refine step_appC' etI W _ rfl _ _ rfl none 0 0 [] rfl rfl (own0 W _) (some ⟨V.drew.heap.size,0,none⟩) 1 1 [idG (min a b)] rfl sl rfl (by simp) hB3.ge ?_
       intro A5 c5 w5 hc5 hm5 ho5 hg5 hA5
       have hB4:=hB3.grow0 hg5
       simp only [List.nil_append] at ho5
       clear hB2 hB3 hg5 hA5 fn sl
       replace hF:=(And.intro (cgAt (Cod.bxd_rd hB4.c)).parents (RD.out _ _ hB4).1)
       refine hK.out _ _ hF (fun hA=>?_)
       clear hK K'
       refine wpAnyS_take (v:=?_) hA rfl (fun _ _ _ h=>h) (Or.inl ⟨by rfl,?_⟩) hF (fun hA=>?_)
       rotate_left
       ·intro wS hSw;(try dsimp only at hSw);obtain ⟨s1,s2⟩:=hSw;first | (apply Eq.trans;apply ex_ld_id;exact rfl;exact rfl;assumption;with_reducible rfl) | (go_simp;try with_reducible rfl)
       try simp only [sA1,sA2,sA3,Act.put,sA4,sA5,sA6]
       refine wpAnyS_end hA rfl ?_
       simp only [List.drop_succ_cons,List.drop_zero]
       have k4:=(Cod.bxd_blk hB4.c).frozen 0
       go_upto_region 13 with fail
       have hB5:=hB4.set 0 (.slice A5 1 c5) (cwG A5 1 c5 1 k none 0 0) (seC_Parents _ A5 _ c5)
       have ho6:=hB4.own ho5 0 (.slice A5 1 c5)
       clear hB4 ho5 k4 hF
       generalize World.setCell _ _ _ = w6 at hB5 ho6 ⊢
       have fd:=(Fr.refl noB w6).drew
       have hB6:=hB5.new fd
       have ho7:=own_new0 ho6 fd
       have hw1:wrap64 (max ta tb + 1) = max ta tb + 1:=by
        have:=HW0.out
        unfold wrap64
        omega
       have hF0:w6.drew.cell? ⟨gT,oT + a,none⟩ = some (.int .i64 ta) ∧ w6.drew.cell? ⟨gT,oT + b,none⟩ = some (.int .i64 tb):=⟨cell_fr0 HC.out.1 hB6.fr,cell_fr0 HC.out.2 hB6.fr⟩
       clear hB5 ho6 fd
       have y1:(0:Int) ≤ (a:Int):=by omega
       have y2:(a:Int) < (k:Int):=by omega
       have y3:(0:Int) ≤ (b:Int):=by omega
       have y4:(b:Int) < (k:Int):=by omega
       refine wp_region_M 11 12 [⟨73786976294838206464,64,0⟩,⟨147573952589676412928,2048,0⟩,⟨295147905179352825856,221360928884514619392,3⟩,⟨590295810358705651712,295147905179352825856,4⟩,⟨1180591620717411303424,64,0⟩,⟨2361183241434822606848,4096,0⟩,⟨4722366482869645213696,3541774862152233910272,48⟩,⟨9444732965739290427392,4722366482869645213696,64⟩,⟨18889465931478580854784,10035028776097996079104,136⟩,⟨37778931862957161709568,18889465931478580854784,256⟩,⟨75557863725914323419136,1024,1023⟩,⟨0,113336795588871485128704,2047⟩] [(true,0),(true,1),(true,2),(true,3),(true,4),(true,5),(true,6),(true,7),(true,8),(true,9),(true,10)] (fun w'=>w'.cell? ⟨gT,oT + a,none⟩ = some (.int .i64 ta) ∧ w'.cell? ⟨gT,oT + b,none⟩ = some (.int .i64 tb)) (by kernel_rfl) rfl (by kernel_rfl) (by kernel_rfl) (by kernel_rfl) hF0 (fun hA hF=>?_)
       clear hF0
       obtain ⟨w7,hw7⟩:∃ w7,w7 = w6.drew:=⟨_,rfl⟩
       rw [← hw7] at hB6 ho7 hF ⊢
       clear hw7
       iterate 11
        refine wpAnyS_take (v:=?_) hA rfl (fun _ _ _ h=>h) (Or.inl ⟨by rfl,?_⟩) hF (fun hA=>?_)
        rotate_left
        ·intro wS hSw;(try dsimp only at hSw);obtain ⟨s1,s2⟩:=hSw;first | (apply Eq.trans;apply ex_ld_id;exact rfl;exact rfl;assumption;with_reducible rfl) | (go_simp;try with_reducible rfl)
        try simp only [sA1,sA2,sA3,Act.put,sA4,sA5,sA6]
       refine wpAnyS_end hA rfl ?_
       simp only [List.drop_succ_cons,List.drop_zero]
       have k4:=(Cod.bxd_blk hB6.c).frozen 1
       have k5:=(cgAt (Cod.bxd_rd hB6.c)).time
       go_upto_region 14 with fail
       clear hF
       have hB7:=hB6.set 1 (.int .i64 (wrap64 (max ta tb + 1))) (cwG A5 1 c5 (wrap64 (max ta tb + 1)) k none 0 0) (seC_Time _ _)
       have ho8:=hB6.own ho7 1 (.int .i64 (wrap64 (max ta tb + 1)))
       clear hB6 ho7 k4 k5
       generalize World.setCell _ _ _ = w8 at hB7 ho8 ⊢
       rw [hw1] at hB7
       clear hw1
       have par1:∀ j:Nat,(j = a ∨ j = b) → ∃ (i:Nat) (hi:i < ts.length),idG j = idG i ∧ ts[i] < max ta tb + 1:=fun j hj=>by
        rcases hj with rfl | rfl
        ·exact ⟨j,la2,rfl,by rw [← HT.out.1];omega⟩
        ·exact ⟨j,lb2,rfl,by rw [← HT.out.2];omega⟩
       have PAR:=Lib.hid par1
       have TM:=Lib.hid (show 1 ≤ max ta tb + 1 ∧ max ta tb + 1 ≤ 4 * (ts.length:Int) + 1 by have:=HW0.out;have:=HK.out;omega)
       have HB7:=Lib.hid hB7
       have HO8:=Lib.hid ho8
       clear par1 hB7 ho8
       by_cases hab:a = b
       ·have e2:((a:Int) == (b:Int)) = true:=by simp [hab]
        have e3:((a:Int) != (b:Int)) = false:=by simp [hab]
        have HAB:=Lib.hid hab
        clear hab
        go_wp2_with fail
        go_meet
        case rel =>
         have hm:min a b = a:=by have:=HAB.out;omega
         exact ⟨[idG (min a b)],max ta tb + 1,A5,c5,HB7.out,HO8.out,.inr (.inl ⟨min a b,by omega,rfl⟩),fun p hp=>by rw [List.mem_singleton] at hp;subst hp;exact PAR.out _ (by omega),TM.out.1,TM.out.2⟩
       ·have e2:((a:Int) == (b:Int)) = false:=by rw [beq_eq_false_iff_ne];omega
        have e3:((a:Int) != (b:Int)) = true:=by simp [bne,e2]
        have HAB:=Lib.hid hab
        clear hab
        go_upto_region 15 with fail
        have fd:=(Fr.refl noB w8).drew
        have hB2:=HB7.out.new fd
        have ho2:=own_new0 HO8.out fd
        have hF0:w8.drew.cell? ⟨P + 2,0,none⟩ = some (.slice A5 1 c5) ∧ rdI w8.drew gA (oA' + max a b * 32) = some (idG (max a b)):=⟨(cgAt (Cod.bxd_rd hB2.c)).parents,(RD.out _ _ hB2).2⟩
        refine wp_region_M 11 12 [⟨1208925819614629174706176,1024,0⟩,⟨2417851639229258349412352,1208925819614629174706176,1⟩,⟨4835703278458516698824704,32,0⟩,⟨9671406556917033397649408,2048,0⟩,⟨19342813113834066795298816,4096,0⟩,⟨38685626227668133590597632,29014219670751100192948224,24⟩,⟨77371252455336267181195264,43521329506126650289422336,36⟩,⟨154742504910672534362390528,77371252455336267181195264,64⟩,⟨309485009821345068724781056,154742504910672534362390528,128⟩,⟨618970019642690137449562112,311902861460574327074193408,258⟩,⟨1237940039285380274899124224,1024,1023⟩,⟨0,1856910058928070412348686336,2047⟩] [(true,0),(true,1),(true,2),(true,3),(true,4),(true,5),(true,6),(true,7),(false,8),(false,9),(true,10)] (fun w'=>w'.cell? ⟨P + 2,0,none⟩ = some (.slice A5 1 c5) ∧ rdI w' gA (oA' + max a b * 32) = some (idG (max a b))) (by kernel_rfl) rfl (by kernel_rfl) (by kernel_rfl) (by kernel_rfl) hF0 (fun hA hF=>?_)
        clear hF0 fd
        iterate 8
         refine wpAnyS_take (v:=?_) hA rfl (fun _ _ _ h=>h) (Or.inl ⟨by rfl,?_⟩) hF (fun hA=>?_)
         rotate_left
         ·intro wS hSw;(try dsimp only at hSw);obtain ⟨s1,s2⟩:=hSw;first | (apply Eq.trans;apply ex_ld_id;exact rfl;exact rfl;assumption;with_reducible rfl) | (go_simp;try with_reducible rfl)
         try simp only [sA1,sA2,sA3,Act.put,sA4,sA5,sA6]
        refine wpAnyS_one hA rfl (fun K' hK=>?_)
        refine step_runI rfl _ _ (ex_bsI_at (x:=idG (max a b)) rfl rfl) ?_
        have fn:Fr noB w8.drew (w8.drew.alloc (rowo [idG (max a b)])):=(Fr.refl noB _).alloc _
        have sl:Sl (w8.drew.alloc (rowo [idG (max a b)])) (some ⟨w8.drew.heap.size,0,none⟩) (codI.row [idG (max a b)]):=sl_new w8.drew [idG (max a b)]
        have hB3:=hB2.new fn
        have ho3:=own_new0 ho2 fn
        replace hF:=(And.intro (cgAt (Cod.bxd_rd hB3.c)).parents (RD.out _ _ hB3).2)
        refine hK.out _ _ hF (fun hA=>?_)
        clear hK K'
        refine wpAnyS_one hA rfl (fun K' hK=>?_)
        refine step_appC' etI W _ rfl _ _ rfl A5 1 c5 [idG (min a b)] rfl rfl ho3 (some ⟨w8.drew.heap.size,0,none⟩) 1 1 [idG (max a b)] rfl sl rfl (by simp) hB3.ge ?_
        intro A9 c9 w9 hc9 hm9 ho9 hg9 hA9
        have hB4:=hB3.grow ho3 hg9
        simp only [List.cons_append,List.nil_append] at ho9
        clear hB2 hB3 hg9 hA9 fn sl ho2 ho3
        replace hF:=(And.intro (cgAt (Cod.bxd_rd hB4.c)).parents (RD.out _ _ hB4).2)
        refine hK.out _ _ hF (fun hA=>?_)
        clear hK K'
        refine wpAnyS_take (v:=?_) hA rfl (fun _ _ _ h=>h) (Or.inl ⟨by rfl,?_⟩) hF (fun hA=>?_)
        rotate_left
        ·intro wS hSw;(try dsimp only at hSw);obtain ⟨s1,s2⟩:=hSw;first | (apply Eq.trans;apply ex_ld_id;exact rfl;exact rfl;assumption;with_reducible rfl) | (go_simp;try with_reducible rfl)
        try simp only [sA1,sA2,sA3,Act.put,sA4,sA5,sA6]
        refine wpAnyS_end hA rfl ?_
        simp only [List.drop_succ_cons,List.drop_zero]
        have k4:=(Cod.bxd_blk hB4.c).frozen 0
        go_wp2_with fail
        go_meet
        case rel =>
         have hB9:=hB4.set 0 (.slice A9 2 c9) (cwG A9 2 c9 (max ta tb + 1) k none 0 0) (seC_Parents _ A9 _ c9)
         have ho10:=hB4.own ho9 0 (.slice A9 2 c9)
         have hm:=HAB.out
         refine ⟨[idG (min a b),idG (max a b)],max ta tb + 1,A9,c9,hB9,ho10,.inr (.inr ⟨min a b,max a b,by omega,by omega,rfl⟩),fun p hp=>?_,TM.out.1,TM.out.2⟩
         simp only [List.mem_cons,List.not_mem_nil,or_false] at hp
         rcases hp with rfl | rfl
         ·exact PAR.out _ (by omega)
         ·exact PAR.out _ (by omega)
      case false =>
       go_wp2_with fail
       go_meet
       case rel=>exact ⟨[],1,none,0,HB.out,World.ownsRow_nil _ _ _ _,.inl rfl,by simp,by omega,by omega⟩
     case rest =>
      obtain ⟨ps,t,PA,pc,hB,ho,hp⟩:=hcut
      clear HB HB0 d1 d2 d3
      have hPs:=Lib.hid hp
      have tb:=And.intro hp.lo hp.hi
      have hkt:=HK.out
      have htb:1 ≤ t ∧ t ≤ 4 * (k:Int) + 1:=by rw [hkt];exact tb
      clear tb hp
      obtain ⟨r3,er3,hr3⟩:=and_maskM x.c 3 (by omega)
      have e3:bits BinOp.and IntKind.i64 x.c 3 = (r3:Int):=er3
      have hw1:wrap64 (t + (r3:Int)) = t + r3:=by
       unfold wrap64
       omega
      have htb2:1 ≤ t + (r3:Int) ∧ t + (r3:Int) ≤ 4 * ((k:Int) + 1):=by omega
      have d3:=hB.tri.2.2
      have k3:wc.cell? ⟨P + 2,1,none⟩ = some (.int .i64 t):=(cgAt (Cod.bxd_rd hB.c)).time
      have k4:=(Cod.bxd_blk hB.c).frozen 1
      clear er3 hkt htb
      have HTB:=Lib.hid htb2
      clear htb2 hr3
      go_upto_region 17 with fail
      have hB1:=hB.set 1 (.int .i64 (t + (r3:Int))) (cwG PA ps.length pc (t + (r3:Int)) k none 0 0) (seC_Time _ _)
      have ho1:=hB.own ho 1 (.int .i64 (t + (r3:Int)))
      clear d3 k3 k4 hB ho e3 hw1
      generalize World.setCell _ _ _ = w16 at hB1 ho1 ⊢
      have hPs2:=Lib.hid (show PsG ts (t + (r3:Int)) ps 4 from ⟨hPs.out.par,fun p hp=>by
       obtain ⟨j,hj,e,h⟩:=hPs.out.at_ p hp
       exact ⟨j,hj,e,by omega⟩,HTB.out.1,by have:=HTB.out.2;have:=HK.out;omega⟩)
      clear hPs
      generalize t + (r3:Int) = t' at hB1 ho1 HTB hPs2 ⊢
      have k3:w16.cell? ⟨P + 2,0,none⟩ = some (.slice PA ps.length pc):=(cgAt (Cod.bxd_rd hB1.c)).parents
      go_upto_if 101 with fail
      go_cut [13,14,15,16,17] from 24 to 165 (fun va vb vc vd ve wx=>∃ cw rs ops,GB wr W wx P x k cw ∧ cw.Time = t' ∧ rightCh (chG ps t' k ops) = true ∧ CgQ (fun g=>¬ S g) wx cw rs (chG ps t' k ops) ∧ (∀ o ∈ ops,o.Name = [110]))
      case first =>
       have hPA:ps ≠ [] → InQ (fun g=>¬ S g) PA:=fun _ g hg hS=>by
        have h1:=(own_lt ho1 g hg).1
        have h2:=HR.out.hs.lt hS
        have h3:=hB1.hW
        have h4:=hB1.hP
        omega
       have HPA:=Lib.hid hPA
       have hHB:=Lib.hid hB1
       have hHO:=Lib.hid ho1
       by_cases hp2:(ps.length:Int) < 2
       ·clear hPA
        have k1:w16.cell? ⟨P + 2,1,none⟩ = some (.int .i64 t'):=(cgAt (Cod.bxd_rd hB1.c)).time
        have k2:w16.cell? ⟨P + 2,2,none⟩ = some (.int .i64 (1 + (k:Int))):=(cgAt (Cod.bxd_rd hB1.c)).R
        go_upto_region 19 with fail
        have fs:Fr noB w16 (w16.alloc (codS.o ⟨t',1 + (k:Int)⟩)):=(Fr.refl noB w16).alloc _
        have qs:=Cod.rd_new' (C:=codS) w16 ⟨t',1 + (k:Int)⟩
        have hB2:=hB1.new fs
        have ho2:=own_new0 ho1 fs
        have q13:P + 3 ≤ w16.heap.size:=hB1.lt
        clear k1 k2 k3 hB1 ho1
        generalize w16.alloc (codS.o ⟨t',1 + (k:Int)⟩) = w18 at fs qs hB2 ho2 ⊢
        generalize w16.heap.size = q at q13 qs ⊢
        have hmv:(⟨1,⟨t',1 + (k:Int)⟩,⟨t',1 + (k:Int)⟩,zOpW.Parent,[110],zOpW.Data,zOpW.A,zOpW.n,zOpW.c⟩:OpW) = opWG t' k ⟨t',1 + (k:Int)⟩ zSt:=rfl
        go_upto_if 111 with fail
        have fo:Fr noB w18 (w18.alloc (codO.o (opWG t' k ⟨t',1 + (k:Int)⟩ zSt))):=(Fr.refl noB w18).alloc _
        have bO:=Cod.bxd_new (C:=codO) w18 (opWG t' k ⟨t',1 + (k:Int)⟩ zSt)
        have hB3:=hB2.new fo
        have ho3:=own_new0 ho2 fo
        have qs3:=Cod.rd_fr0 qs fo
        have q14:P + 3 ≤ w18.heap.size:=hB2.lt
        clear hmv fs qs hB2 ho2 fo
        generalize w18.alloc (codO.o (opWG t' k ⟨t',1 + (k:Int)⟩ zSt)) = w19 at bO hB3 ho3 qs3 ⊢
        generalize w18.heap.size = r at bO q14 ⊢
        have AT:rightS ⟨t',1 + (k:Int)⟩ = true:=rightS_G ⟨HTB.out.1,by have:=HTB.out.2;omega⟩ (by omega)
        have HAT:=Lib.hid AT
        clear AT
        go_cut [15,16,17] from 24 to 165 (fun va vb vc wx=>∃ nd pr,GB wr W wx P x k (cwG PA ps.length pc t' k none 0 0) ∧ OwnC codI W wx PA pc ps ∧ codO.bxd wx r = some (opWG t' k nd pr) ∧ goodOp (opG t' k nd pr) = true)
        case first =>
         have GOOD:=Lib.hid (show ∀ nd pr,rightS nd = true → cmpS nd ⟨t',1 + (k:Int)⟩ ≤ 0 → (rightS pr = true ∨ pr = zSt) → goodOp (opG t' k nd pr) = true from fun nd pr h1 h2 h3=>opG_good (by omega) ⟨HTB.out.1,by have:=HTB.out.2;omega⟩ h1 (by rw [Int.add_comm];exact h2) h3)
         have HB3:=Lib.hid hB3
         have HO3:=Lib.hid ho3
         have HBO:=Lib.hid bO
         by_cases hk0:(0:Int) < (k:Int)
         ·obtain ⟨ra,era,hra⟩:=and_maskM x.c 1023 (by omega)
          obtain ⟨rb,erb,hrb⟩:=and_maskM x.b 1023 (by omega)
          have hk0':0 < k:=by omega
          have la:ra % k < k:=Nat.mod_lt _ hk0'
          have lb:rb % k < k:=Nat.mod_lt _ hk0'
          have hkz:¬ (k = 0):=by omega
          have ha:(bits BinOp.and IntKind.i64 x.c 1023).tmod (k:Int) = ((ra % k:Nat):Int):=by rw [show bits BinOp.and IntKind.i64 x.c 1023 = (ra:Int) from era];rfl
          have hb':(bits BinOp.and IntKind.i64 x.b 1023).tmod (k:Int) = ((rb % k:Nat):Int):=by rw [show bits BinOp.and IntKind.i64 x.b 1023 = (rb:Int) from erb];rfl
          generalize ra % k = a at la ha
          generalize rb % k = b at lb hb'
          clear era erb hra hrb bO ho3
          obtain ⟨gT,oT,rfl⟩:∃ g o,B = some ⟨g,o,none⟩:=by
           obtain ⟨g,o,e,_⟩:=Sl.addr (Sl.own HR.out.tm) (by have:=HK.out;omega)
           exact ⟨g,o,e⟩
          have la2:a < ts.length:=by have:=HK.out;omega
          have lb2:b < ts.length:=by have:=HK.out;omega
          have ca:=cell_fr0 (Sl.cell1 rfl (Sl.own HR.out.tm) a la2 rfl) hB3.fr
          have cb:=cell_fr0 (Sl.cell1 rfl (Sl.own HR.out.tm) b lb2 rfl) hB3.fr
          have hta:=HR.out.g.tm _ (List.getElem_mem la2)
          have htb:=HR.out.g.tm _ (List.getElem_mem lb2)
          rw [← HK.out] at hta htb
          generalize ts[a] = ta at ca hta
          obtain ⟨tb,etb⟩:∃ tb,tb = ts[b]:=⟨_,rfl⟩
          rw [← etb] at cb htb
          have HTS:=Lib.hid etb.symm
          clear etb
          have HTA:=Lib.hid (show rightS ⟨ta,1 + (a:Int)⟩ = true from rightS_G ⟨hta.1,by omega⟩ (by omega))
          have HTB':=Lib.hid (show rightS ⟨tb,1 + (b:Int)⟩ = true from rightS_G ⟨htb.1,by omega⟩ (by omega))
          have y1:(0:Int) ≤ (a:Int):=by omega
          have y2:(a:Int) < (k:Int):=by omega
          have y3:(0:Int) ≤ (b:Int):=by omega
          have y4:(b:Int) < (k:Int):=by omega
          obtain ⟨_,d2,d3⟩:=hB3.tri
          clear hB3 hta htb
          have HCB:=Lib.hid cb
          clear cb
          go_upto_region 23 with fail
          have fs:Fr noB w19 (w19.alloc (codS.o ⟨ta,1 + (a:Int)⟩)):=(Fr.refl noB w19).alloc _
          have qx:=Cod.rd_new' (C:=codS) w19 ⟨ta,1 + (a:Int)⟩
          have q16:P + 3 ≤ w19.heap.size:=HB3.out.lt
          have d3':=cell_fr0 d3 fs
          have qs4:=Cod.rd_fr0 qs3 fs
          clear ca d2 d3 ha qs3
          generalize w19.alloc (codS.o ⟨ta,1 + (a:Int)⟩) = w22 at fs qx d3' qs4 ⊢
          generalize w19.heap.size = q2 at qx q16 ⊢
          go_cut [133] from 24 to 165 (fun v wx=>∃ bb:Bool,v = .bool bb ∧ (bb = true → cmpS ⟨ta,1 + (a:Int)⟩ ⟨t',1 + (k:Int)⟩ = -1) ∧ Fr noB w22 wx)
          case first =>
           by_cases hc:cmpS ⟨ta,1 + (a:Int)⟩ ⟨t',1 + (k:Int)⟩ = -1
           ·have C1:∀ w,Calls Tryz.prog 29 #[.agg (codS.A ⟨ta,1 + (a:Int)⟩),.agg (codS.A ⟨t',1 + (k:Int)⟩)] w (Gives w (.int .i64 (-1))):=fun w=>Gives.val (r3cmp_any w _ _) (by rw [hc])
            have HC1:=Lib.hid C1
            have HCC:=Lib.hid hc
            clear C1 hc
            by_cases h8:bits BinOp.and IntKind.i64 x.c 8 = 8
            ·have e8:(bits BinOp.and IntKind.i64 x.c 8 == 8) = true:=by simp [h8]
             go_wp2_with (go_at_call 29;refine (HC1.out _).mono ?_;rintro e wq ⟨rfl,fq⟩;have d3q:=cell_fr0 d3' fq;have FQ:=Lib.hid fq;clear fq)
             go_meet
             case rel=>exact ⟨true,rfl,fun _=>HCC.out,FQ.out⟩
            ·have e8:(bits BinOp.and IntKind.i64 x.c 8 == 8) = false:=by simp [h8]
             go_wp2_with (go_at_call 29;refine (HC1.out _).mono ?_;rintro e wq ⟨rfl,fq⟩;have d3q:=cell_fr0 d3' fq;have FQ:=Lib.hid fq;clear fq)
             go_meet
             case rel=>exact ⟨false,rfl,fun h=>absurd h (by decide),FQ.out⟩
           ·have e8:(cmpS ⟨ta,1 + (a:Int)⟩ ⟨t',1 + (k:Int)⟩ == -1) = false:=by simp [hc]
            go_wp2_with (go_at_call 29;refine (r3cmp_any _ _ _).mono ?_;rintro e wq ⟨rfl,fq⟩;have FQ:=Lib.hid fq;clear fq)
            go_meet
            case rel=>exact ⟨false,rfl,fun h=>absurd h (by decide),FQ.out⟩
          case rest =>
           obtain ⟨bb,rfl,hbb,fq⟩:=hcut
           have hB4:=(HB3.out.new fs).new fq
           have ho4:=own_new0 (own_new0 HO3.out fs) fq
           have bO4:=Cod.bxd_fr0 (Cod.bxd_fr0 HBO.out fs) fq
           have qx4:=Cod.rd_fr0 qx fq
           have HBB:=Lib.hid hbb
           clear hbb fs fq qx d3' qs4
           go_upto_if 133 with fail
           go_cut [] from 24 to 165 (fun wx=>∃ nd,GB wr W wx P x k (cwG PA ps.length pc t' k none 0 0) ∧ OwnC codI W wx PA pc ps ∧ codO.bxd wx r = some (opWG t' k nd zSt) ∧ rightS nd = true ∧ cmpS nd ⟨t',1 + (k:Int)⟩ ≤ 0)
           case first =>
            cases bb
            case true =>
             have HBC:=Lib.hid (show cmpS ⟨ta,1 + (a:Int)⟩ ⟨t',1 + (k:Int)⟩ ≤ 0 by rw [HBB.out rfl];decide)
             have hst:=stO_Node bO4 ⟨ta,1 + (a:Int)⟩
             obtain ⟨p1,p2,p3⟩:=Cod.put_fr bO4 (opWG t' k ⟨ta,1 + (a:Int)⟩ zSt)
             have HPP:=Lib.hid (And.intro p1 (And.intro p2 p3))
             have HB4:=Lib.hid hB4
             have HO4:=Lib.hid ho4
             have HBK:=Lib.hid (Cod.bxd_blk bO4)
             clear p1 p2 p3 hB4 ho4 bO4
             go_wp2_with fail
             go_meet
             case rel =>
              obtain ⟨p1,p2,p3⟩:=HPP.out
              exact ⟨⟨ta,1 + (a:Int)⟩,HB4.out.far p1 (fun b' hb'=>by have:b' = r:=hb';omega),own_box HBK.out HO4.out (by decide) p1,p3,HTA.out,HBC.out⟩
            case false =>
             clear qx4
             go_wp2_with fail
             go_meet
             case rel=>exact ⟨⟨t',1 + (k:Int)⟩,hB4,ho4,bO4,HAT.out,by rw [cmpS_self];decide⟩
           case rest =>
            obtain ⟨nd,hB5,ho5,bO5,hnd,hcn⟩:=hcut
            clear hB4 ho4 bO4 qx4 HBB
            have HND:=Lib.hid (And.intro hnd hcn)
            clear hnd hcn
            have d2:=hB5.tri.2.1
            have cb:=cell_fr0 (Sl.cell1 rfl (Sl.own HR.out.tm) b (by have:=HK.out;omega) rfl) hB5.fr
            have cb':wc.cell? ⟨gT,oT + b,none⟩ = some (.int .i64 tb):=by rw [cb];exact congrArg _ (congrArg _ HTS.out)
            have hst:=stO_Parent bO5 ⟨tb,1 + (b:Int)⟩
            obtain ⟨p1,p2,p3⟩:=Cod.put_fr bO5 (opWG t' k nd ⟨tb,1 + (b:Int)⟩)
            have HPP:=Lib.hid (And.intro p1 (And.intro p2 p3))
            have HB5:=Lib.hid hB5
            have HO5:=Lib.hid ho5
            have HBK:=Lib.hid (Cod.bxd_blk bO5)
            clear p1 p2 p3 hB5 ho5 bO5 cb
            go_wp2_with fail
            go_meet
            case rel =>
             obtain ⟨p1,p2,p3⟩:=HPP.out
             exact ⟨nd,⟨tb,1 + (b:Int)⟩,HB5.out.far p1 (fun b' hb'=>by have:b' = r:=hb';omega),own_box HBK.out HO5.out (by decide) p1,p3,GOOD.out _ _ HND.out.1 HND.out.2 (.inl HTB'.out)⟩
         ·have HK0:=Lib.hid hk0
          have ek0:decide ((0:Int) < (k:Int)) = false:=by simpa using hk0
          clear hB3 ho3 bO
          go_wp2_with fail
          go_meet
          case rel=>exact ⟨⟨t',1 + (k:Int)⟩,zSt,HB3.out,HO3.out,HBO.out,GOOD.out _ _ HAT.out (by rw [cmpS_self];decide) (.inr rfl)⟩
        case rest =>
         obtain ⟨nd,pr,hB6,ho6,bO6,hgood⟩:=hcut
         have rO:=Cod.bxd_rd bO6
         have fa:Fr noB wc (wc.alloc (codO.ro [opWG t' k nd pr])):=(Fr.refl noB wc).alloc _
         have sO:=Cod.sl_new (C:=codO) wc [opWG t' k nd pr]
         have hB7:=hB6.new fa
         have ho7:=own_new0 ho6 fa
         have k3:(wc.alloc (codO.ro [opWG t' k nd pr])).cell? ⟨P + 2,3,none⟩ = some (.slice none 0 0):=(cgAt (Cod.bxd_rd hB7.c)).ops
         have k4:=(Cod.bxd_blk hB7.c).frozen 3
         have lz:P + 3 ≤ wc.heap.size:=hB6.lt
         have HB7:=Lib.hid hB7
         have HO7:=Lib.hid ho7
         have HSO:=Lib.hid sO
         have HGO:=Lib.hid hgood
         clear hB6 ho6 bO6 fa sO hB7 ho7 hgood hB3 ho3 bO qs3
         go_wp2_with fail
         go_meet
         case rel =>
          have hB8:=HB7.out.set 3 (.slice (some ⟨wc.heap.size,0,none⟩) 1 1) (cwG PA ps.length pc t' k (some ⟨wc.heap.size,0,none⟩) 1 1) (seC_Ops _ _ _ _)
          have ho8:=HB7.out.own HO7.out 3 (.slice (some ⟨wc.heap.size,0,none⟩) 1 1)
          refine ⟨_,[opWG t' k nd pr],[opG t' k nd pr],hB8,rfl,?_,cwG_q (Sl.own ho8) HPA.out ?_ (fun _ g hg hS=>?_) (by have:=hPs2.out.len;omega) (.inr ⟨nd,pr,rfl,rfl⟩),fun o ho=>by rw [List.mem_singleton] at ho;rw [ho];rfl⟩
          ·exact chG_right (by omega) ⟨HTB.out.1,by have:=HTB.out.2;omega⟩ (by rw [HK.out];exact hPs2.out.par) (.inr ⟨by omega,nd,pr,rfl,HGO.out⟩)
          ·refine HSO.out.fr (Cod.set_fr _ (P + 2) 3 _) (fun a' ha' e=>?_)
           injection ha' with ha'
           subst ha'
           have e':wc.heap.size = P + 2:=e
           omega
          ·injection hg with hg
           have h2:=HR.out.hs.lt hS
           have h4:=hHB.out.hP
           have h5:wc.heap.size = g:=hg
           omega
       ·have HP2:=Lib.hid hp2
        have e2:decide ((ps.length:Int) < 2) = false:=by simpa using hp2
        clear hp2 hB1 ho1 hPA
        go_wp2_with fail
        go_meet
        case rel =>
         refine ⟨_,[],[],hHB.out,rfl,?_,cwG_q (Sl.own hHO.out) HPA.out (Sl.nil _ _) (fun h=>absurd rfl h) (by have:=hPs2.out.len;omega) (.inl ⟨rfl,rfl⟩),fun o ho=>absurd ho (by simp)⟩
         exact chG_right (by omega) ⟨HTB.out.1,by have:=HTB.out.2;omega⟩ (by rw [HK.out];exact hPs2.out.par) (.inl rfl)
      case rest =>
       obtain ⟨cw,rs,ops,hB,hct,hrc,hq,hnm⟩:=hcut
       clear hB1 ho1 k3
       have hgk:wc.heap.size = wc.heap.size:=rfl
       have hsW:=HR.out.hs.fr0 hB.fr
       have rI:=hB.i
       have rC:=Cod.bxd_rd hB.c
       have HQ:=Lib.hid hq
       have HHS:=Lib.hid hsW
       have HCT:=Lib.hid hct
       have HGA:=Lib.hid (HR.out.g.add (by have:=HK.out;omega) hrc (by show (k:Int) + 1 = _;rw [HK.out]) ⟨HTB.out.1,by have:=HTB.out.2;have:=HK.out;show t' ≤ _;omega⟩ (fun p hp=>by
        obtain ⟨j,hj,e,h⟩:=hPs2.out.at_ p hp
        exact ⟨j,hj,e,h⟩) (fun o ho=>hnm o ho))
       have hLl:L.length < 100000:=by have:=HR.out.g.len;have:=HK.out;omega
       have HLL:=Lib.hid hLl
       have HPL:=Lib.hid (show (chG ps t' k ops).Parents.length ≤ 1000000000 by have:=hPs2.out.len;show ps.length ≤ _;omega)
       have HBF:=Lib.hid hB
       have lz:=hB.lt
       clear hq hsW hct hLl hgk hB hrc hnm
       go_upto_region 30 with (go_at_call 10;refine (mgAdd_any HHS.out HLL.out (idG k) _ _ _ HQ.out HPL.out).mono ?_;rintro e v1 ⟨rfl,hs1,f1⟩;have hga:=HGA.out.1;rw [← HK.out] at hga;rw [hga] at hs1 ⊢;clear hga)
       have nS:∀ b,P ≤ b → ¬ S b:=fun b hb hS=>by have:=HR.out.hs.lt hS;have:=HBF.out.hP;omega
       have rI1:rdI v1 (P + 1) 0 = some (idG k):=rdI_fr HBF.out.i (rdI_lt HBF.out.i) f1 (nS _ (by omega))
       have rC1:=Cod.bxd_fr HBF.out.c f1 (nS _ (by omega))
       have oA1:OwnC codI w v1 A cA (rowG k):=by
        have h:=HR.out.ia
        rw [← HK.out] at h
        exact own_fr (own_new0 h HBF.out.fr) f1 (fun g hg=>by rw [ownBlock_sl'] at hg;exact HR.out.na g hg)
       have oB1:OwnC cod64 w v1 B cB ts:=own_fr (own_new0 HR.out.tm HBF.out.fr) f1 (fun g hg=>by rw [ownBlock_sl'] at hg;exact HR.out.nb g hg)
       have fx:Fr noB v1 (v1.alloc (rowo [idG k])):=(Fr.refl noB v1).alloc _
       have sx:Sl (v1.alloc (rowo [idG k])) (some ⟨v1.heap.size,0,none⟩) (codI.row [idG k]):=sl_new v1 [idG k]
       have oA2:=own_new0 oA1 fx
       have gl:=rowG_len k
       have HGL:=Lib.hid gl
       have hz1:w.heap.size ≤ (v1.alloc (rowo [idG k])).heap.size:=by
        have h1:=HR.out.fr.size
        have h2:=HBF.out.fr.size
        have h3:=f1.size
        have h4:=fx.size
        omega
       have HZ1:=Lib.hid hz1
       have hbA:((rowG k).length + [idG k].length) * 32 ≤ 140737488355328:=by rw [gl];simp;omega
       have HBA:=Lib.hid hbA
       have HF1:=Lib.hid f1
       have HSS1:=Lib.hid hs1
       clear f1 hs1 nS oA1 gl hz1 hbA rI rC
       go_upto_region 31 with (at_builtin;refine wpList_appC' etI w _ rfl _ _ rfl A k cA (rowG k) rfl HGL.out oA2 (some ⟨v1.heap.size,0,none⟩) 1 1 [idG k] rfl sx rfl HBA.out HZ1.out ?_;intro A6 c6 w6 hc6 hm6 ho6 hg6 hA6)
       have nA:∀ g,A.map (·.block) = some g → g < P:=fun g hg=>by have:=(own_lt HR.out.ia g hg).2;have:=HBF.out.hP;omega
       have f6:Fr (fun b=>A.map (·.block) = some b) (v1.alloc (rowo [idG k])) w6:=Fr.ofGrown hg6 (fun g hg=>hg)
       have bC6:=Cod.bxd_fr (Cod.bxd_fr0 rC1 fx) f6 (fun e=>by have:=nA _ e;omega)
       have k1:w6.cell? ⟨P + 2,1,none⟩ = some (.int .i64 t'):=by
        have h:=(cgAt (Cod.bxd_rd bC6)).time
        rw [HCT.out] at h
        exact h
       have oB6:OwnC cod64 w w6 B cB ts:=own_fr (own_new0 oB1 fx) f6 (fun g hg e=>by
        rw [ownBlock_sl'] at hg
        obtain ⟨_,cA1,z1,hA1⟩:=own_blk HR.out.ia e
        obtain ⟨_,cB1,z2,hB1⟩:=own_blk HR.out.tm hg
        rw [hA1] at hB1
        injection hB1 with hB1
        injection hB1 with _ h2
        exact absurd h2 (by decide))
       have fy:Fr noB w6 (w6.alloc (.cells #[.int .i64 t'] 2)):=(Fr.refl noB w6).alloc _
       have sy:Sl (w6.alloc (.cells #[.int .i64 t'] 2)) (some ⟨w6.heap.size,0,none⟩) (cod64.row [t']):=Sl.new w6 2 [.int .i64 t']
       have oB7:=own_new0 oB6 fy
       have HZ7:=Lib.hid (show w.heap.size ≤ (w6.alloc (.cells #[.int .i64 t'] 2)).heap.size from Nat.le_trans (Nat.le_trans HZ1.out f6.size) fy.size)
       have HBY:=Lib.hid (show (ts.length + [t'].length) * 8 ≤ 140737488355328 from by have:=HK.out;simp;omega)
       have HO6:=Lib.hid ho6
       have HG6:=Lib.hid hg6
       have HA6:=Lib.hid hA6
       have HFX:=Lib.hid fx
       clear nA f6 bC6 rC1 oB6 oB1 fx sx oA2 ho6 hg6 hA6 hc6 hm6 rI1
       go_wp2_with (at_builtin;refine wpList_appC' et64 w _ rfl _ _ rfl B k cB ts rfl HK.out.symm oB7 (some ⟨w6.heap.size,0,none⟩) 1 1 [t'] rfl sy rfl HBY.out HZ7.out ?_;intro A7 c7 w7 hc7 hm7 ho7 hg7 hA7)
       go_roundg (nums.length - (k + 1))
       case measure=>have:=HK.out;omega
       case rel =>
        have hg2:=HGA.out.2
        rw [← HK.out] at hg2
        have o6:=HO6.out
        have hs1:=HSS1.out
        have hgl:=HGL.out
        have hkk:=HK.out
        have el:(ts ++ [t']).length = k + 1:=by rw [List.length_append,← hkk];rfl
        rw [hkk] at o6
        refine ⟨ts ++ [t'],grF S wc v1,A6,c6,A7,c7,_,by rw [el];simp,by rw [el],by rw [el];omega,by rw [el,hgl],by rw [el,hkk],GR.next HR.out hg2 HBF.out.fr hs1 HF1.out HFX.out o6 HG6.out HA6.out fy ho7 hg7 hA7⟩
   ·have ek:k = 16:=by have:=HR.out.g.le;have:=HK.out;omega
    subst ek
    have i1:(16:Int) < (nums.length:Int):=by omega
    have HLT:=Lib.hid hlt
    clear hlt h16 hkn
    obtain ⟨gN,oN,rfl,hgN⟩:=Sl.addr hs (by have:=HLT.out;omega)
    have rx:codTr.rd wr gN (oN + 16 * 3) = some (nums[16]'HLT.out):=Sl.rd (hs.fr0 HR.out.fr) 16 HLT.out
    generalize nums[16]'HLT.out = x at rx
    go_wp2_with fail
    go_ret2
    have fz:Fr noB wr (wr.alloc (codTr.o x)):=(Fr.refl noB wr).alloc _
    exact ⟨H,S,L,ts,A,cA,by rw [← HK.out];rfl,HR.out.hs.fr0 fz,HR.out.g,own_new0 HR.out.ia fz,HR.out.na,HR.out.lo,HR.out.fr.step0 fz⟩
  ·have ek:k = nums.length:=by omega
   have i1:¬ ((k:Int) < (nums.length:Int)):=by omega
   have HEK:=Lib.hid ek
   clear ek hlt hkn
   go_wp2_with fail
   go_ret2
   exact ⟨H,S,L,ts,A,cA,by rw [← HK.out];rfl,HR.out.hs,HR.out.g,HR.out.ia,HR.out.na,HR.out.lo,HR.out.fr⟩
theorem ex_alM_at {ρ:Operand → Value} {o:Oper} (ho:o.op = .alloc 24) (w:World):(execOp ρ o).run Tryz.prog w = .ok (.value (.pointer (some ⟨w.heap.size,0,none⟩))) (w.alloc (ido zID)):=by
 obtain ⟨d,op,t,p,f,g⟩:=o
 simp only at ho
 subst ho
 rw [ex_al]
theorem step_skipM {P:Program} {w:World} {o:Oper} {a:Act} {K:Act → World → Prop} {Q:Exit → Act → World → Prop} (w':World)
  (hr:(execOp a.eval o).run P w = .ok .skip w') (h:K (a.put o.dst undef) w'):Oper.wp P o a w K Q:=by
 unfold Oper.wp
 rw [hr]
 exact h
theorem ex_stM_at {ρ:Operand → Value} {o:Oper} {a b:Operand} {w:World} {k:Nat} {x y:ID} (ho:o.op = .store 24 a b) (ha:ρ a = .pointer (some ⟨k,0,none⟩)) (hb:ρ b = encI x) (hk:bxI w k = some y):(execOp ρ o).run Tryz.prog w = .ok .skip (putB w k x):=by
 obtain ⟨d,op,t,p,f,g⟩:=o
 simp only at ho
 subst ho
 rw [ex_st,ha,hb]
 exact stI_box hk x
theorem ex_bsM2_at {ρ:Operand → Value} {o:Oper} {a b:Operand} {w:World} {x y:ID} (ho:o.op = .buildSlice 32 2 #[(0,a),(1,b)]) (ha:ρ a = encI x) (hb:ρ b = encI y):(execOp ρ o).run Tryz.prog w = .ok (.value (.slice (some ⟨w.heap.size,0,none⟩) 2 2)) (w.alloc (rowo [x,y])):=by
 obtain ⟨d,op,t,p,f,g⟩:=o
 simp only at ho
 subst ho
 rw [ex_bs2,ha,hb,bsI2_at]
theorem zs3:(Array.range (3 * 32)).map ((encI zID).cells[· % (encI zID).cells.size]!) = ([] ++ z32 ++ (z32 ++ z32)).toArray:=by rw [cellsI];kernel_rfl
theorem bs_3 (w:World) (x y z:ID):(Instr.buildSlice 32 3 #[(0,encI x),(1,encI y),(2,encI z)]).run Tryz.prog w = .ok (.slice (some ⟨w.heap.size,0,none⟩) 3 3) (w.alloc (rowo [x,y,z])):=by
 have h1:Instr.fill (fun i=>some (i * 32,32)) ([] ++ z32 ++ (z32 ++ z32)).toArray [(0,encI x),(1,encI y),(2,encI z)] = some (idc [x,y,z]).toArray:=by
  refine (fill_one (fun i=>some (i * 32,32)) [] z32 (z32 ++ z32) (bv x.1) 0 (encI x) [(1,encI y),(2,encI z)] (cellsI x) (by simp [x.2]) (by simp [x.2,z32_len])).trans ?_
  have h2:=fill_one (fun i=>some (i * 32,32)) (bv x.1) z32 z32 (bv y.1) 1 (encI y) [(2,encI z)] (cellsI y) (by simp [x.2,y.2]) (by simp [y.2,z32_len])
  rw [List.nil_append,← List.append_assoc]
  refine h2.trans ?_
  have h3:=fill_one (fun i=>some (i * 32,32)) (bv x.1 ++ bv y.1) z32 [] (bv z.1) 2 (encI z) [] (cellsI z) (by simp [x.2,y.2,z.2]) (by simp [z.2,z32_len])
  rw [List.append_nil] at h3
  refine h3.trans (by simp [Instr.fill,idc])
 simp only [Instr.buildSlice,Sem.run_bind,run_underlying Tryz.underlying32,Result.andThen_ok,sizeID,zeroID]
 simp only [show (3 * 32 > 2 ^ 24) = False from by simp,show (3 * 32 = 0) = False from by simp,if_false,Sem.run_bind,zeroID,Result.andThen_ok,Sem.run_pure,zs3,h1]
 simp [newRow,newObj,rowo,idR_eq,Sem.run,Result.andThen]
theorem same_rows {w:World} {A B:Option Addr} {n m c d:Nat} {ops:List Opn} (h:RowsS w A n c ops) (h':RowsS w B m d ops) (hb:ops.length ≤ 64000):Calls Tryz.prog 19 #[.slice A n c,.slice B m d] w (Gives w (.bool true)):=by
 have ln:=h.len
 have lm:=h'.len
 have lr:=runX_len [] ops
 simp only [List.length_nil] at lr
 obtain ⟨rs,ss,ys,e1,e2,s1,s2,i1,i2⟩:=h.same h'
 have:=r12sameY_any w A B c d n m rs ss ys ys e1 e2 s1 s2 i1 i2 (by omega) (by omega)
 simpa using this
theorem Gw.ok0 {L:Hst} {ts:List Int} (h:Gw L ts) {i j:Nat} (hi:i < ts.length) (hj:j < ts.length):mgE L (idG i) (idG j) = 0:=by
 obtain ⟨c,hc,ec⟩:=h.has i hi
 obtain ⟨d,hd,ed⟩:=h.has j hj
 have h1:=h.tm _ (List.getElem_mem hi)
 have h2:=h.tm _ (List.getElem_mem hj)
 have hl:=h.le
 rw [← ec] at h1
 rw [← ed] at h2
 unfold mgE
 rw [hc,hd]
 simp only
 split
 ·rfl
 ·split
  ·rfl
  ·rw [if_neg (by omega)]
end Go.Proofs.YtjpieiccpbcabaaGreat
