/- Contract: pollardlaw15.alive. (rdI) -/
import Derived.Test.YtjpieiccpbcabaaGreatMgThPKu
set_option linter.unusedVariables false
set_option linter.unusedSimpArgs false
namespace Go.Proofs.YtjpieiccpbcabaaGreat
open Go.RowKit Go.Maps Go.Sort
theorem ex_bld0_at {ρ:Operand → Value} {o:Oper} {w:World} (ho:o.op = .build 24 #[]):(execOp ρ o).run Tryz.prog w = .ok (.value (encI zID)) w:=by
 obtain ⟨d,op,t,p,f,g⟩:=o
 simp only at ho
 subst ho
 rw [ex_bld0]
structure Al (w0 w:World) (P H:Nat) (S:Nat → Prop) (L:Hst):Prop where
 hs:Hs w H S L
 ia:rdI w P 0 = some eA
 ib:rdI w (P + 1) 0 = some eB
 ic:rdI w (P + 1 + 1) 0 = some eC
 na:¬ S P
 nb:¬ S (P + 1)
 nc:¬ S (P + 1 + 1)
 lo:∀ b,S b → w0.heap.size ≤ b
 fr:Fr noB w0 w
theorem Al.fr0 {w0 w w':World} {P H:Nat} {S:Nat → Prop} {L:Hst} (h:Al w0 w P H S L) (f:Fr noB w w'):Al w0 w' P H S L :=
 ⟨h.hs.fr0 f,rdI_fr h.ia (rdI_lt h.ia) f (by simp [noB]),rdI_fr h.ib (rdI_lt h.ib) f (by simp [noB]),rdI_fr h.ic (rdI_lt h.ic) f (by simp [noB]),h.na,h.nb,h.nc,h.lo,h.fr.step0 f⟩
theorem Al.add {w0 w w':World} {P H:Nat} {S:Nat → Prop} {L L':Hst} (h:Al w0 w P H S L) (h':Hs w' H (grF S w w') L') (f:Fr S w w'):Al w0 w' P H (grF S w w') L' :=
 ⟨h',rdI_fr h.ia (rdI_lt h.ia) f h.na,rdI_fr h.ib (rdI_lt h.ib) f h.nb,rdI_fr h.ic (rdI_lt h.ic) f h.nc,
  fun e=>e.elim h.na (fun e=>by have:=rdI_lt h.ia;omega),fun e=>e.elim h.nb (fun e=>by have:=rdI_lt h.ib;omega),fun e=>e.elim h.nc (fun e=>by have:=rdI_lt h.ic;omega),
  fun b e=>e.elim (h.lo b) (fun e=>Nat.le_trans h.fr.size e.1),h.fr.step f (fun q hq=>.inl (h.lo q hq))⟩
theorem Al.new {w0 w:World} {P H:Nat} {S:Nat → Prop} {L:Hst} (h:Al w0 w P H S L) {b:Nat} (hb:w.heap.size ≤ b):¬ S b:=fun e=>by
 have:=h.hs.lt e
 omega
set_option maxRecDepth 100000 in
set_option maxHeartbeats 8000000 in
theorem l15alive_any (w:World):Calls Tryz.prog 9 #[] w (Gives w (.bool true)):=by
 go_enter Tryz.func9,Tryz.ntmps9
 go_upto_region 2 with (go_at_call 8;refine (mgNew_any _).mono ?_;rintro e w1 ⟨H,rfl,h1,f1⟩)
 have f3:Fr noB w1 (((w1.alloc (ido zID)).alloc (ido zID)).alloc (ido zID)):=(((Fr.refl noB w1).alloc _).alloc _).alloc _
 have s1:bxI (((w1.alloc (ido zID)).alloc (ido zID)).alloc (ido zID)) w1.heap.size = some zID:=by
  rw [bxI_old _ _ _ (by simp;omega),bxI_old _ _ _ (by simp),bxI_new]
 have s2':bxI (((w1.alloc (ido zID)).alloc (ido zID)).alloc (ido zID)) (w1.heap.size + 1) = some zID:=by
  rw [bxI_old _ _ _ (by simp),bxI_new' _ _ _ (by simp)]
 have s3':bxI (((w1.alloc (ido zID)).alloc (ido zID)).alloc (ido zID)) (w1.heap.size + 2) = some zID:=by
  rw [bxI_new' _ _ _ (by simp)]
 obtain ⟨a1,a2,a3⟩:=putB_fr s1 (id2 1 0)
 have s2:=bxI_fr s2' a1 (by simp [oneB])
 have s3'':=bxI_fr s3' a1 (by simp [oneB])
 obtain ⟨b1,b2,b3⟩:=putB_fr s2 (id2 2 0)
 have s3:=bxI_fr s3'' b1 (by simp [oneB])
 obtain ⟨c1,c2,c3⟩:=putB_fr s3 (id2 3 0)
 have q1:=bxI_fr (bxI_fr a3 b1 (by simp [oneB])) c1 (by simp [oneB])
 have q2:=bxI_fr b3 c1 (by simp [oneB])
 have lw:=f1.size
 have hA:Al w (putB (putB (putB (((w1.alloc (ido zID)).alloc (ido zID)).alloc (ido zID)) w1.heap.size (id2 1 0)) (w1.heap.size + 1) (id2 2 0)) (w1.heap.size + 1 + 1) (id2 3 0)) w1.heap.size H (grF (fun _=>False) w w1) []:=by
  have hno:∀ b,w1.heap.size ≤ b → ¬ grF (fun _=>False) w w1 b:=fun b hb e=>by
   rcases e with e | e
   ·exact e
   ·omega
  refine ⟨(((h1.fr0 f3).fr a1 ?_).fr b1 ?_).fr c1 ?_,bxI_rd q1,bxI_rd q2,bxI_rd c3,hno _ (by omega),hno _ (by omega),hno _ (by omega),fun b e=>e.elim False.elim (fun e=>e.1),(((f1.step0 f3).step1 a1 lw).step1 b1 (by omega)).step1 c1 (by omega)⟩
  ·intro b hb e;have:b = _:=e;exact hno b (by omega) hb
  ·intro b hb e;have:b = _:=e;exact hno b (by omega) hb
  ·intro b hb e;have:b = _:=e;exact hno b (by omega) hb
 have HAL:=Lib.hid hA
 clear hA a1 a2 a3 b1 b2 b3 c1 c2 c3 q1 q2 s2' s3' s3'' lw h1 f1 f3
 go_upto_region 3 with fail
 clear s1 s2 s3
 generalize putB (putB (putB (((w1.alloc (ido zID)).alloc (ido zID)).alloc (ido zID)) w1.heap.size (id2 1 0)) (w1.heap.size + 1) (id2 2 0)) (w1.heap.size + 1 + 1) (id2 3 0) = W at HAL ⊢
 generalize grF (fun _=>False) w w1 = S0 at HAL
 generalize w1.heap.size = P at HAL ⊢
 have hk:∀ w' w'':World,Fr noB w' w'' → (rdI w' P 0 = some eA ∧ rdI w' (P + 1) 0 = some eB ∧ rdI w' (P + 1 + 1) 0 = some eC) → (rdI w'' P 0 = some eA ∧ rdI w'' (P + 1) 0 = some eB ∧ rdI w'' (P + 1 + 1) 0 = some eC):=fun w' w'' f h=>⟨rdI_fr h.1 (rdI_lt h.1) f (by simp [noB]),rdI_fr h.2.1 (rdI_lt h.2.1) f (by simp [noB]),rdI_fr h.2.2 (rdI_lt h.2.2) f (by simp [noB])⟩
 have fd:Fr noB W W.drew:=(Fr.refl noB W).drew
 have A0:=HAL.out.fr0 fd
 refine wp_region_M 26 27 [⟨32768,2,0⟩,⟨65536,32768,1⟩,⟨131072,65536,2⟩,⟨262144,131074,4⟩,⟨524288,131076,4⟩,⟨1048576,131072,4⟩,⟨2097152,1966080,60⟩,⟨4194304,2228224,68⟩,⟨8388608,4325376,132⟩,⟨16777216,8388608,320⟩,⟨33554432,16777218,512⟩,⟨67108864,16777224,512⟩,⟨134217728,16777220,512⟩,⟨268435456,150994944,4608⟩,⟨536870912,285212672,8704⟩,⟨1073741824,654311424,19968⟩,⟨2147483648,1090519040,33280⟩,⟨4294967296,2164260864,66048⟩,⟨8589934592,4294967296,163840⟩,⟨17179869184,8589934594,262144⟩,⟨34359738368,8589934608,262144⟩,⟨68719476736,8589934596,262144⟩,⟨137438953472,77309411328,2359296⟩,⟨274877906944,146028888064,4456448⟩,⟨549755813888,335007449088,10223616⟩,⟨1099511627776,558345748480,17039360⟩,⟨2199023255552,1108101562368,33816576⟩] [(true,0),(true,1),(true,2),(true,3),(true,4),(false,5),(false,6),(true,7),(true,8),(true,9),(true,10),(true,11),(true,12),(false,13),(false,14),(false,15),(true,16),(true,17),(true,18),(true,19),(true,20),(true,21),(false,22),(false,23),(false,24),(true,25)] (fun w'=>rdI w' P 0 = some eA ∧ rdI w' (P + 1) 0 = some eB ∧ rdI w' (P + 1 + 1) 0 = some eC) (by kernel_rfl) rfl (by kernel_rfl) (by kernel_rfl) (by kernel_rfl) ⟨A0.ia,A0.ib,A0.ic⟩ (fun hA hF=>?_)
 clear HAL fd
 iterate 5
  refine wpAnyS_take (v:=?_) hA rfl (fun _ _ _ h=>h) (Or.inl ⟨by rfl,?_⟩) hF (fun hA=>?_)
  rotate_left
  ·intro wS hSw;(try dsimp only at hSw);obtain ⟨s1,s2,s3⟩:=hSw;first | (apply Eq.trans;apply ex_ld_id;exact rfl;exact rfl;assumption;with_reducible rfl) | (apply Eq.trans;apply ex_bld0_at;exact rfl;with_reducible rfl) | (go_simp;try with_reducible rfl)
  try simp only [sA1,sA2,sA3,Act.put,sA4,sA5,sA6]
 refine wpAnyS_one hA rfl (fun K' hK=>?_)
 rw [if_pos (by rfl)]
 go_simp
 go_at_call 31
 refine (l15put_any _ none 0 0 1 1).mono ?_
 rintro e u1 ⟨g1,rfl,l1,l1',t1,v1⟩
 replace hF:=hk _ _ v1 hF
 refine hK.out _ _ hF (fun hA=>?_)
 clear hK K'
 as_aux_lemma =>
 have A1:=A0.fr0 v1
 refine wpAnyS_one hA rfl (fun K' hK=>?_)
 rw [if_pos (by rfl)]
 go_simp
 go_at_call 10
 refine (mgAdd_any A1.hs (by decide) eA _ _ (ptC [] 1 1) (PutTo15.q t1 (A0.new l1) rfl (Sl.nil _ _) (by simp) (fun h=>absurd rfl h)) (by simp [ptC])).mono ?_
 rintro e u2 ⟨rfl,h2,v2⟩
 rw [ad15a] at h2 ⊢
 have A2:=A1.add h2 v2
 clear A0 A1 l1 l1' t1 v1 h2 v2
 generalize grF S0 u1 u2 = S2 at A2
 replace hF:=(And.intro A2.ia (And.intro A2.ib A2.ic))
 refine hK.out _ _ hF (fun hA=>?_)
 clear hK K'
 as_aux_lemma =>
 iterate 6
  refine wpAnyS_take (v:=?_) hA rfl (fun _ _ _ h=>h) (Or.inl ⟨by rfl,?_⟩) hF (fun hA=>?_)
  rotate_left
  ·intro wS hSw;(try dsimp only at hSw);obtain ⟨s1,s2,s3⟩:=hSw;first | (apply Eq.trans;apply ex_ld_id;exact rfl;exact rfl;assumption;with_reducible rfl) | (apply Eq.trans;apply ex_bld0_at;exact rfl;with_reducible rfl) | (go_simp;try with_reducible rfl)
  try simp only [sA1,sA2,sA3,Act.put,sA4,sA5,sA6]
 refine wpAnyS_one hA rfl (fun K' hK=>?_)
 rw [if_pos (by rfl)]
 refine step_runP _ _ (ex_bs1_at (x:=eA) rfl rfl) ?_
 have fn:Fr noB u2 (u2.alloc (rowo [eA])):=(Fr.refl noB u2).alloc _
 have sn:=sl_new u2 [eA]
 have A3:=A2.fr0 fn
 have hgn:¬ S2 u2.heap.size:=A2.new (Nat.le_refl _)
 replace hF:=hk _ _ fn hF
 refine hK.out _ _ hF (fun hA=>?_)
 clear hK K'
 as_aux_lemma =>
 refine wpAnyS_one hA rfl (fun K' hK=>?_)
 rw [if_pos (by rfl)]
 go_simp
 go_at_call 31
 refine (l15put_any _ _ 1 1 2 1).mono ?_
 rintro e u4 ⟨g1,rfl,l1,l1',t1,v1⟩
 replace hF:=hk _ _ v1 hF
 refine hK.out _ _ hF (fun hA=>?_)
 clear hK K'
 as_aux_lemma =>
 have A4:=A3.fr0 v1
 refine wpAnyS_one hA rfl (fun K' hK=>?_)
 rw [if_pos (by rfl)]
 go_simp
 go_at_call 10
 refine (mgAdd_any A4.hs (by decide) eB _ _ (ptC [eA] 2 1) (PutTo15.q t1 (A3.new l1) rfl (sn.fr0 v1) (by simp) (fun _ g hg=>by injection hg with hg;subst hg;exact hgn)) (by simp [ptC])).mono ?_
 rintro e u5 ⟨rfl,h2,v2⟩
 rw [ad15b] at h2 ⊢
 have A5:=A4.add h2 v2
 clear A2 A3 A4 l1 l1' t1 v1 h2 v2 fn sn hgn
 generalize grF S2 u4 u5 = S5 at A5
 replace hF:=(And.intro A5.ia (And.intro A5.ib A5.ic))
 refine hK.out _ _ hF (fun hA=>?_)
 clear hK K'
 as_aux_lemma =>
 iterate 6
  refine wpAnyS_take (v:=?_) hA rfl (fun _ _ _ h=>h) (Or.inl ⟨by rfl,?_⟩) hF (fun hA=>?_)
  rotate_left
  ·intro wS hSw;(try dsimp only at hSw);obtain ⟨s1,s2,s3⟩:=hSw;first | (apply Eq.trans;apply ex_ld_id;exact rfl;exact rfl;assumption;with_reducible rfl) | (apply Eq.trans;apply ex_bld0_at;exact rfl;with_reducible rfl) | (go_simp;try with_reducible rfl)
  try simp only [sA1,sA2,sA3,Act.put,sA4,sA5,sA6]
 refine wpAnyS_one hA rfl (fun K' hK=>?_)
 rw [if_pos (by rfl)]
 refine step_runP _ _ (ex_bs1_at (x:=eA) rfl rfl) ?_
 have fn:Fr noB u5 (u5.alloc (rowo [eA])):=(Fr.refl noB u5).alloc _
 have sn:=sl_new u5 [eA]
 have A3:=A5.fr0 fn
 have hgn:¬ S5 u5.heap.size:=A5.new (Nat.le_refl _)
 replace hF:=hk _ _ fn hF
 refine hK.out _ _ hF (fun hA=>?_)
 clear hK K'
 as_aux_lemma =>
 refine wpAnyS_one hA rfl (fun K' hK=>?_)
 rw [if_pos (by rfl)]
 go_simp
 go_at_call 31
 refine (l15put_any _ _ 1 1 2 2).mono ?_
 rintro e u4 ⟨g1,rfl,l1,l1',t1,v1⟩
 replace hF:=hk _ _ v1 hF
 refine hK.out _ _ hF (fun hA=>?_)
 clear hK K'
 as_aux_lemma =>
 have A4:=A3.fr0 v1
 refine wpAnyS_one hA rfl (fun K' hK=>?_)
 rw [if_pos (by rfl)]
 go_simp
 go_at_call 10
 refine (mgAdd_any A4.hs (by decide) eC _ _ (ptC [eA] 2 2) (PutTo15.q t1 (A3.new l1) rfl (sn.fr0 v1) (by simp) (fun _ g hg=>by injection hg with hg;subst hg;exact hgn)) (by simp [ptC])).mono ?_
 rintro e u6 ⟨rfl,h2,v2⟩
 rw [ad15c] at h2 ⊢
 have A6:=A4.add h2 v2
 clear A5 A3 A4 l1 l1' t1 v1 h2 v2 fn sn hgn
 generalize grF S5 u4 u6 = S6 at A6
 replace hF:=(And.intro A6.ia (And.intro A6.ib A6.ic))
 refine hK.out _ _ hF (fun hA=>?_)
 clear hK K'
 as_aux_lemma =>
 refine wpAnyS_take (v:=?_) hA rfl (fun _ _ _ h=>h) (Or.inl ⟨by rfl,?_⟩) hF (fun hA=>?_)
 rotate_left
 ·intro wS hSw;(try dsimp only at hSw);obtain ⟨s1,s2,s3⟩:=hSw;first | (apply Eq.trans;apply ex_ld_id;exact rfl;exact rfl;assumption;with_reducible rfl) | (apply Eq.trans;apply ex_bld0_at;exact rfl;with_reducible rfl) | (go_simp;try with_reducible rfl)
 try simp only [sA1,sA2,sA3,Act.put,sA4,sA5,sA6]
 refine wpAnyS_end hA rfl ?_
 simp only [List.drop_succ_cons,List.drop_zero]
 clear hF hk
 have qa6:=A6.ia
 have qb6:=A6.ib
 have qc6:=A6.ic
 have HA6:=Lib.hid A6
 clear A6
 go_upto_region 6 with (go_at_call 22;refine (mgMerge_any HA6.out.hs nd15 (by decide) eB eC).mono ?_;rintro e u7 ⟨r1,rfl,v7,_,hp⟩;have hp1:=Lib.hid (hp mg15);rw [mg15];clear hp)
 have fn:Fr noB u7 (u7.alloc (codPl.o r1)):=(Fr.refl noB u7).alloc _
 have bN1:=Cod.bxd_new (C:=codPl) u7 r1
 have A8:=(HA6.out.fr0 v7).fr0 fn
 obtain ⟨base,ops,pl1,hbn,hbs,_,_,hrs⟩:=hp1.out.plan
 obtain ⟨e1,e2,e3,e4,e5⟩:=plan15 pl1
 subst e2 e3
 have hrl:=hrs.len
 rw [runx3] at hrl
 obtain ⟨rF,rBA,rbn,rbc,rRA,rrn,rrc,rS,rT⟩:=r1
 simp only at e1 e4 e5 hbn hrl hbs
 subst e1 e4 e5 hrl
 have hbn':rbn = 1:=hbn.symm
 subst hbn'
 obtain ⟨gb,ob,rfl⟩:=Sl.adG hbs (by simp)
 have ib:=(hbs.fr0 fn).id 0 (by simp)
 simp only [Nat.zero_mul,Nat.add_zero,List.getElem_cons_zero] at ib
 have HA8:=Lib.hid A8
 have qa8:=A8.ia
 have qb8:=A8.ib
 clear A8 HA6 hp1 pl1 hrs hbs hbn v7 fn qa6 qb6 qc6
 generalize u7.alloc (codPl.o ⟨zID,some ⟨gb,ob,none⟩,1,rbc,rRA,3,rrc,true,3⟩) = u8 at bN1 ib HA8 qa8 qb8 ⊢
 generalize u7.heap.size = N1 at bN1 ⊢
 have HB1:=Lib.hid bN1
 clear bN1
 go_upto_region 7 with (go_at_call 22;refine (mgMerge_any HA8.out.hs nd15 (by decide) eB eA).mono ?_;rintro e u9 ⟨r2,rfl,v9,_,hp⟩;have hp2:=Lib.hid (hp mg15');rw [mg15'];clear hp)
 have fn:Fr noB u9 (u9.alloc (codPl.o r2)):=(Fr.refl noB u9).alloc _
 have bN2:=Cod.bxd_new (C:=codPl) u9 r2
 have f89:=v9.step0 fn
 have A10:=HA8.out.fr0 f89
 have bN1:=Cod.bxd_fr0 HB1.out f89
 have ib2:=rdI_fr ib (rdI_lt ib) f89 (by simp [noB])
 obtain ⟨base2,ops2,pl2,_,_,_,_,hrs⟩:=hp2.out.plan
 obtain ⟨e1,e3⟩:=plan15' pl2
 subst e3
 have hrl:=hrs.len
 rw [runx2] at hrl
 have HP2:=Lib.hid (And.intro e1 hrl)
 have HA10:=Lib.hid A10
 have HB1':=Lib.hid bN1
 have qb10:=A10.ib
 clear A10 HA8 HB1 hp2 pl2 hrs hrl e1 v9 fn f89 qa8 qb8 ib bN1
 generalize u9.alloc (codPl.o r2) = u10 at bN2 ib2 HA10 HB1' qb10 ⊢
 generalize u9.heap.size = N2 at bN2 ⊢
 have HB2:=Lib.hid bN2
 clear bN2
 go_upto_region 8 with (go_at_call 14;refine (mgCommit_any HA10.out.hs eB).mono ?_;rintro e u11 ⟨r3,rs3,rfl,hc3,v11⟩;rw [show (findC L15c eB).isSome = true from rfl])
 have fn:Fr noB u11 (u11.alloc (codC.o r3)):=(Fr.refl noB u11).alloc _
 have bN3:=Cod.bxd_new (C:=codC) u11 r3
 have f11:=v11.step0 fn
 have A12:=HA10.out.fr0 f11
 have bN1:=Cod.bxd_fr0 HB1'.out f11
 have bN2:=Cod.bxd_fr0 HB2.out f11
 have ib3:=rdI_fr ib2 (rdI_lt ib2) f11 (by simp [noB])
 have t3:r3.Time = 2:=hc3.inn.time.symm
 have c3:=(cgAt (Cod.bxd_rd bN3)).time
 rw [t3] at c3
 have d1:=plAt (Cod.bxd_rd bN1)
 have d2:=plAt (Cod.bxd_rd bN2)
 have d2f:=d2.fw
 have d2r:=d2.rows
 rw [HP2.out.1] at d2f
 rw [HP2.out.2] at d2r
 clear HA10 HB1' HB2 fn v11 hc3 f11 ib2 qb10 t3 bN1 bN2 bN3 d2
 have d1b:=d1.base
 have d1r:=d1.rows
 have d1s:=d1.safe
 have d1t:=d1.time
 have d1f:=d1.fw
 simp only at d1b d1r d1s d1t d1f
 clear d1
 generalize u11.alloc (codC.o r3) = u12 at A12 ib3 c3 d1b d1r d1s d1t d1f d2f d2r ⊢
 generalize u11.heap.size = N3 at c3 ⊢
 have hk:∀ w' w'':World,Fr noB w' w'' → (rdI w' P 0 = some eA ∧ rdI w' (P + 1) 0 = some eB ∧ rdI w' (P + 1 + 1) 0 = some eC ∧ w'.cell? ⟨N1,32,none⟩ = some (.slice (some ⟨gb,ob,none⟩) 1 rbc) ∧ rdI w' gb ob = some eA ∧ w'.cell? ⟨N1,33,none⟩ = some (.slice rRA 3 rrc) ∧ w'.cell? ⟨N1,34,none⟩ = some (.bool true) ∧ w'.cell? ⟨N1,35,none⟩ = some (.int .i64 3) ∧ rdI w' N1 0 = some zID ∧ rdI w' N2 0 = some eB ∧ w'.cell? ⟨N2,33,none⟩ = some (.slice r2.RA 2 r2.rc) ∧ w'.cell? ⟨N3,1,none⟩ = some (.int .i64 2)) → (rdI w'' P 0 = some eA ∧ rdI w'' (P + 1) 0 = some eB ∧ rdI w'' (P + 1 + 1) 0 = some eC ∧ w''.cell? ⟨N1,32,none⟩ = some (.slice (some ⟨gb,ob,none⟩) 1 rbc) ∧ rdI w'' gb ob = some eA ∧ w''.cell? ⟨N1,33,none⟩ = some (.slice rRA 3 rrc) ∧ w''.cell? ⟨N1,34,none⟩ = some (.bool true) ∧ w''.cell? ⟨N1,35,none⟩ = some (.int .i64 3) ∧ rdI w'' N1 0 = some zID ∧ rdI w'' N2 0 = some eB ∧ w''.cell? ⟨N2,33,none⟩ = some (.slice r2.RA 2 r2.rc) ∧ w''.cell? ⟨N3,1,none⟩ = some (.int .i64 2)):=fun w' w'' f h=>⟨rdI_fr h.1 (rdI_lt h.1) f (by simp [noB]),rdI_fr h.2.1 (rdI_lt h.2.1) f (by simp [noB]),rdI_fr h.2.2.1 (rdI_lt h.2.2.1) f (by simp [noB]),cell_fr0 h.2.2.2.1 f,rdI_fr h.2.2.2.2.1 (rdI_lt h.2.2.2.2.1) f (by simp [noB]),cell_fr0 h.2.2.2.2.2.1 f,cell_fr0 h.2.2.2.2.2.2.1 f,cell_fr0 h.2.2.2.2.2.2.2.1 f,rdI_fr h.2.2.2.2.2.2.2.2.1 (rdI_lt h.2.2.2.2.2.2.2.2.1) f (by simp [noB]),rdI_fr h.2.2.2.2.2.2.2.2.2.1 (rdI_lt h.2.2.2.2.2.2.2.2.2.1) f (by simp [noB]),cell_fr0 h.2.2.2.2.2.2.2.2.2.2.1 f,cell_fr0 h.2.2.2.2.2.2.2.2.2.2.2 f⟩
 have fd:Fr noB u12 u12.drew:=(Fr.refl noB u12).drew
 have hF0:=hk _ _ fd ⟨A12.ia,A12.ib,A12.ic,d1b,ib3,d1r,d1s,d1t,d1f,d2f,d2r,c3⟩
 have B0:=A12.fr0 fd
 have p1:(0:Int) < 1:=by decide
 clear A12 d1b ib3 d1r d1s d1t d1f d2f d2r c3 fd
 try simp only [List.append_eq,List.cons_append,List.nil_append]
 refine wp_region_M 83 84 [⟨4611686018427387904,64,0⟩,⟨9223372036854775808,4611686018427387904,1⟩,⟨18446744073709551616,9223372036854775808,2⟩,⟨36893488147419103232,18446744073709551648,4⟩,⟨73786976294838206464,55340232221128654848,12⟩,⟨147573952589676412928,92233720368547758080,20⟩,⟨295147905179352825856,166020696663385964544,36⟩,⟨590295810358705651712,313594649253062377472,68⟩,⟨1180591620717411303424,590295810358705651712,132⟩,⟨2361183241434822606848,1180591620717411303456,256⟩,⟨4722366482869645213696,3541774862152233910272,768⟩,⟨9444732965739290427392,5902958103587056517120,1280⟩,⟨18889465931478580854784,10625324586456701730816,2304⟩,⟨37778931862957161709568,1180591620717411303428,256⟩,⟨75557863725914323419136,57848989415153153867776,12544⟩,⟨151115727451828646838272,76738455346631734722560,16640⟩,⟨302231454903657293676544,151115727451828646838272,33024⟩,⟨604462909807314587353088,302231454903657293676576,65536⟩,⟨1208925819614629174706176,906694364710971881029632,196608⟩,⟨2417851639229258349412352,1511157274518286468382720,327680⟩,⟨4835703278458516698824704,2720083094132915643088896,589824⟩,⟨9671406556917033397649408,5137934733362173992501248,1114112⟩,⟨19342813113834066795298816,9671406556917033397649408,2162688⟩,⟨38685626227668133590597632,19342813113834066795298848,4194304⟩,⟨77371252455336267181195264,58028439341502200385896448,12582912⟩,⟨154742504910672534362390528,96714065569170333976494080,20971520⟩,⟨309485009821345068724781056,154742504910672534362390528,37748736⟩,⟨618970019642690137449562112,309485009821345068724781088,67108864⟩,⟨1237940039285380274899124224,928455029464035206174343168,201326592⟩,⟨2475880078570760549798248448,1547425049106725343623905280,335544320⟩,⟨4951760157141521099596496896,2785365088392105618523029504,603979776⟩,⟨9903520314283042199192993792,4951760157141521099596496896,1140850688⟩,⟨19807040628566084398385987584,9903520314283042199192993824,2147483648⟩,⟨39614081257132168796771975168,29710560942849126597578981376,6442450944⟩,⟨79228162514264337593543950336,9903520314283042199192993792,2147483648⟩,⟨158456325028528675187087900672,128745764085679548589508919296,27917287424⟩,⟨316912650057057350374175801344,168359845342811717386280894464,36507222016⟩,⟨633825300114114700748351602688,316912650057057350374175801344,70866960384⟩,⟨1267650600228229401496703205376,633825300114114700748351602944,137438953472⟩,⟨2535301200456458802993406410752,1901475900342344102245054808064,412316860416⟩,⟨5070602400912917605986812821504,3169126500570573503741758013440,687194767360⟩,⟨10141204801825835211973625643008,5070602400912917605986812821504,1236950581248⟩,⟨20282409603651670423947251286016,10141204801825835211973625643136,2199023255552⟩,⟨40564819207303340847894502572032,30423614405477505635920876929024,6597069766656⟩,⟨81129638414606681695789005144064,10141204801825835211973625643016,2199023255552⟩,⟨162259276829213363391578010288128,131835662423735857755657133359104,28587302322176⟩,⟨324518553658426726783156020576256,172400481631039198603551635931136,37383395344384⟩,⟨649037107316853453566312041152512,324518553658426726783156020576256,72567767433216⟩,⟨1298074214633706907132624082305024,649037107316853453566312041152640,140737488355328⟩,⟨2596148429267413814265248164610048,1947111321950560360698936123457536,422212465065984⟩,⟨5192296858534827628530496329220096,3245185536584267267831560205762560,703687441776640⟩,⟨10384593717069655257060992658440192,5841333965851681082096808370372608,1266637395197952⟩,⟨20769187434139310514121985316880384,11033630824386508710627304699592704,2392537302040576⟩,⟨41538374868278621028243970633760768,20769187434139310514121985316880384,4644337115725824⟩,⟨83076749736557242056487941267521536,41538374868278621028243970633761792,9007199254740992⟩,⟨166153499473114484112975882535043072,124615124604835863084731911901282304,27021597764222976⟩,⟨332306998946228968225951765070086144,166153499473114484112975882535043072,45035996273704960⟩,⟨664613997892457936451903530140172288,332306998946228968225951765070086656,72057594037927936⟩,⟨1329227995784915872903807060280344576,996920996838686904677855295210258432,216172782113783808⟩,⟨2658455991569831745807614120560689152,1661534994731144841129758825350430720,360287970189639680⟩,⟨5316911983139663491615228241121378304,2990762990516060714033565885630775296,648518346341351424⟩,⟨10633823966279326983230456482242756608,5316911983139663491615228241121378304,1224979098644774912⟩,⟨21267647932558653966460912964485513216,10633823966279326983230456482242756610,2305843009213693952⟩,⟨42535295865117307932921825928971026432,10633823966279326983230456482242756616,2305843009213693952⟩,⟨85070591730234615865843651857942052864,53169119831396634916152282411213783040,11529215046068469760⟩,⟨170141183460469231731687303715884105728,116972063629072596815535021304670322688,25364273101350633472⟩,⟨340282366920938463463374607431768211456,180775007426748558714917760198126862336,39199331156632797184⟩,⟨680564733841876926926749214863536422912,350916190887217790446605063914010968064,76092819304051900416⟩,⟨1361129467683753853853498429727072845824,691198557808156253909979671345779179520,149879795598890106880⟩,⟨2722258935367507707706996859454145691648,1361129467683753853853498429727072845824,332041393326771929088⟩,⟨5444517870735015415413993718908291383296,2722258935367507707706996859454145691650,590295810358705651712⟩,⟨10889035741470030830827987437816582766592,2722258935367507707706996859454145691664,590295810358705651712⟩,⟨21778071482940061661655974875633165533184,13611294676837538538534984297270728458240,2951479051793528258560⟩,⟨43556142965880123323311949751266331066368,29944848289042584784776965453995602608128,6493253913945762168832⟩,⟨87112285931760246646623899502532662132736,46278401901247631031018946610720476758016,10035028776097996079104⟩,⟨174224571863520493293247799005065324265472,89834544867127754354330896361986807824384,19479761741837286506496⟩,⟨348449143727040986586495598010130648530944,176946830798888001000954795864519469957120,38369227673315867361280⟩,⟨696898287454081973172991196020261297061888,348449143727040986586495598010130648530944,85002596691653613846528⟩,⟨1393796574908163946345982392040522594123776,696898287454081973172991196020261297061890,151115727451828646838272⟩,⟨2787593149816327892691964784081045188247552,2090694862362245919518973588060783891185664,453347182355485940514816⟩,⟨5575186299632655785383929568162090376495104,3484491437270409865864955980101306485309440,755578637259143234191360⟩,⟨11150372599265311570767859136324180752990208,6272084587086737758556920764182351673556992,1360041547066457821544448⟩,⟨22300745198530623141535718272648361505980416,11847270886719393543940850332344442050052096,2568967366681086996250624⟩,⟨1,22300745198530623141535718272648361505980416,9671406556917033397649407⟩] [(true,0),(true,1),(true,2),(true,3),(true,4),(true,5),(true,6),(true,7),(true,8),(true,9),(true,10),(true,11),(true,12),(true,13),(true,14),(true,15),(true,16),(true,17),(true,18),(true,19),(true,20),(true,21),(true,22),(true,23),(true,24),(true,25),(true,26),(true,27),(true,28),(true,29),(true,30),(true,31),(true,32),(true,33),(true,34),(true,35),(true,36),(true,37),(true,38),(true,39),(true,40),(true,41),(true,42),(true,43),(true,44),(true,45),(true,46),(true,47),(true,48),(true,49),(true,50),(true,51),(true,52),(true,53),(true,54),(true,55),(true,56),(true,57),(true,58),(true,59),(true,60),(true,61),(true,62),(true,63),(false,64),(false,65),(true,66),(true,67),(true,68),(true,69),(true,70),(true,71),(false,72),(false,73),(true,74),(true,75),(true,76),(true,77),(true,78),(false,79),(false,80),(true,81),(true,82)] (fun w'=>rdI w' P 0 = some eA ∧ rdI w' (P + 1) 0 = some eB ∧ rdI w' (P + 1 + 1) 0 = some eC ∧ w'.cell? ⟨N1,32,none⟩ = some (.slice (some ⟨gb,ob,none⟩) 1 rbc) ∧ rdI w' gb ob = some eA ∧ w'.cell? ⟨N1,33,none⟩ = some (.slice rRA 3 rrc) ∧ w'.cell? ⟨N1,34,none⟩ = some (.bool true) ∧ w'.cell? ⟨N1,35,none⟩ = some (.int .i64 3) ∧ rdI w' N1 0 = some zID ∧ rdI w' N2 0 = some eB ∧ w'.cell? ⟨N2,33,none⟩ = some (.slice r2.RA 2 r2.rc) ∧ w'.cell? ⟨N3,1,none⟩ = some (.int .i64 2)) (by kernel_rfl) rfl (by kernel_rfl) (by kernel_rfl) (by kernel_rfl) hF0 (fun hA hF=>?_)
 iterate 64
  refine wpAnyS_take (v:=?_) hA rfl (fun _ _ _ h=>h) (Or.inl ⟨by rfl,?_⟩) hF (fun hA=>?_)
  rotate_left
  ·intro wS hSw;(try dsimp only at hSw);obtain ⟨s1,s2,s3,s4,s5,s6,s7,s8,s9,s10,s11,s12⟩:=hSw;first | (apply Eq.trans;apply ex_ld_id;exact rfl;exact rfl;assumption;with_reducible rfl) | (apply Eq.trans;apply ex_bld0_at;exact rfl;with_reducible rfl) | (go_simp;try with_reducible rfl)
  try simp only [sA1,sA2,sA3,Act.put,sA4,sA5,sA6]
 refine wpAnyS_one hA rfl (fun K' hK=>?_)
 rw [if_pos (by rfl)]
 refine step_runP _ _ (ex_bs1_at (x:=eB) rfl rfl) ?_
 have fn:Fr noB u12.drew (u12.drew.alloc (rowo [eB])):=(Fr.refl noB _).alloc _
 have sn:=sl_new u12.drew [eB]
 have B1:=B0.fr0 fn
 replace hF:=hk _ _ fn hF
 refine hK.out _ _ hF (fun hA=>?_)
 clear hK K'
 as_aux_lemma =>
 refine wpAnyS_one hA rfl (fun K' hK=>?_)
 rw [if_pos (by rfl)]
 go_simp
 go_at_call 17
 refine (mgOps_any B1.hs nd15 (by decide) _ _ 1 [eB] rfl sn (by simp)).mono ?_
 rintro e u13 ⟨Ao,co,rso,lo,rfl,po,bo,so,ao,f13⟩
 have hl2:rso.length = 2:=by rw [ao.1,opsB po];rfl
 rw [hl2]
 replace hF:=hk _ _ f13 hF
 refine hK.out _ _ hF (fun hA=>?_)
 clear hK K'
 as_aux_lemma =>
 have B2:=B1.fr0 f13
 clear B0 B1 fn sn hl2 po bo so ao f13
 iterate 6
  refine wpAnyS_take (v:=?_) hA rfl (fun _ _ _ h=>h) (Or.inl ⟨by rfl,?_⟩) hF (fun hA=>?_)
  rotate_left
  ·intro wS hSw;(try dsimp only at hSw);obtain ⟨s1,s2,s3,s4,s5,s6,s7,s8,s9,s10,s11,s12⟩:=hSw;first | (apply Eq.trans;apply ex_ld_id;exact rfl;exact rfl;assumption;with_reducible rfl) | (apply Eq.trans;apply ex_bld0_at;exact rfl;with_reducible rfl) | (go_simp;try with_reducible rfl)
  try simp only [sA1,sA2,sA3,Act.put,sA4,sA5,sA6]
 refine wpAnyS_one hA rfl (fun K' hK=>?_)
 rw [if_pos (by rfl)]
 refine step_runP _ _ (ex_bs1_at (x:=eC) rfl rfl) ?_
 have fn:Fr noB u13 (u13.alloc (rowo [eC])):=(Fr.refl noB _).alloc _
 have sn:=sl_new u13 [eC]
 have B3:=B2.fr0 fn
 replace hF:=hk _ _ fn hF
 refine hK.out _ _ hF (fun hA=>?_)
 clear hK K'
 as_aux_lemma =>
 refine wpAnyS_one hA rfl (fun K' hK=>?_)
 rw [if_pos (by rfl)]
 go_simp
 go_at_call 20
 refine (mgRows_any B3.hs nd15 (by decide) _ _ 1 [eC] rfl sn (by simp)).mono ?_
 rintro e u14 hr14
 obtain ⟨Ar,nr,cr,lr,rfl,pr,br,rr,f14⟩:=hr14.u
 have hl2:nr = 2:=by rw [rr.s.len,opsC pr];exact runx2'
 subst hl2
 replace hF:=hk _ _ f14 hF
 refine hK.out _ _ hF (fun hA=>?_)
 clear hK K'
 as_aux_lemma =>
 have B4:=B3.fr0 f14
 clear B2 B3 fn sn pr br rr f14 hr14
 iterate 5
  refine wpAnyS_take (v:=?_) hA rfl (fun _ _ _ h=>h) (Or.inl ⟨by rfl,?_⟩) hF (fun hA=>?_)
  rotate_left
  ·intro wS hSw;(try dsimp only at hSw);obtain ⟨s1,s2,s3,s4,s5,s6,s7,s8,s9,s10,s11,s12⟩:=hSw;first | (apply Eq.trans;apply ex_ld_id;exact rfl;exact rfl;assumption;with_reducible rfl) | (apply Eq.trans;apply ex_bld0_at;exact rfl;with_reducible rfl) | (go_simp;try with_reducible rfl)
  try simp only [sA1,sA2,sA3,Act.put,sA4,sA5,sA6]
 refine wpAnyS_one hA rfl (fun K' hK=>?_)
 rw [if_pos (by rfl)]
 go_simp
 go_at_call 12
 refine (mgDag_any B4.hs).mono ?_
 rintro e u15 ⟨D,Fd,rfl,hd,f15⟩
 replace hF:=hk _ _ f15 hF
 refine hK.out _ _ hF (fun hA=>?_)
 clear hK K'
 as_aux_lemma =>
 have B5:=B4.fr0 f15
 clear B4 f15
 refine wpAnyS_one hA rfl (fun K' hK=>?_)
 rw [if_pos (by rfl)]
 go_simp
 go_at_call 13
 refine (len_any _ D Fd (dgH L15c) hd).mono ?_
 rintro e u16 ⟨rfl,f16⟩
 rw [show (dgH L15c).length = 3 from rfl]
 replace hF:=hk _ _ f16 hF
 refine hK.out _ _ hF (fun hA=>?_)
 clear hK K'
 as_aux_lemma =>
 have B6:=B5.fr0 f16
 clear B5 f16 hd
 iterate 2
  refine wpAnyS_take (v:=?_) hA rfl (fun _ _ _ h=>h) (Or.inl ⟨by rfl,?_⟩) hF (fun hA=>?_)
  rotate_left
  ·intro wS hSw;(try dsimp only at hSw);obtain ⟨s1,s2,s3,s4,s5,s6,s7,s8,s9,s10,s11,s12⟩:=hSw;first | (apply Eq.trans;apply ex_ld_id;exact rfl;exact rfl;assumption;with_reducible rfl) | (apply Eq.trans;apply ex_bld0_at;exact rfl;with_reducible rfl) | (go_simp;try with_reducible rfl)
  try simp only [sA1,sA2,sA3,Act.put,sA4,sA5,sA6]
 refine wpAnyS_end hA rfl ?_
 simp only [List.drop_succ_cons,List.drop_zero]
 have hfr:=B6.fr
 clear hF hk hF0 B6
 go_wp2_with fail
 go_ret
 exact ⟨rfl,hfr⟩
end Go.Proofs.YtjpieiccpbcabaaGreat
