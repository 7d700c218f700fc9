/- Contract: merge's Merge. (rdI, ex_ldS_at, ex_ldO_at, ex_bldFR_at, ex_bldBT_at) -/
import Derived.Test.YtjpieiccpbcabaaGreatMgKKu
set_option linter.unusedVariables false
set_option linter.unusedSimpArgs false
namespace Go.Proofs.YtjpieiccpbcabaaGreat
open Go.RowKit Go.Maps Go.Sort Go.Shelf
attribute [local go_sem] Oper.semAt_some
theorem lift_T1 {X:Prop} {P:Program} {md:Region.Mode} {ops:Array Oper} {Q:Exit → Act → World → Prop} {FF:World → Prop} {n fuel:Nat} {s:Sch} {act:Nat → Option Addr → Nat → Nat → Act} {F:Nat → Option Addr → Nat → Nat → World → Prop}
  (h1:(∀ a b k c L W,F a b k c W → RegT md ops n L s → wpAnyN P md ops Q FF n fuel L (act a b k c) W) → X)
  (h2:∀ a b k c L W,F a b k c W → RegT md ops n L s → wpAnyN P md ops Q FF n fuel L (act a b k c) W):X:=h1 h2
theorem step_runP {P:Program} {w:World} {o:Oper} {a:Act} {K:Act → World → Prop} {Q:Exit → Act → World → Prop} (v:Value) (w':World)
  (hr:(execOp a.eval o).run P w = .ok (.value v) w') (h:K (a.put o.dst v) w'):Oper.wp P o a w K Q:=by
 unfold Oper.wp
 rw [hr]
 exact h
def RowsS (w:World) (A:Option Addr) (n c:Nat) (ops:List Opn):Prop :=
 ∃ (rs:List RwW) (ys:List RwP),rs.length = n ∧ Sl w A (codR.row rs) ∧ RwsIn w rs ys ∧ ys.Perm (runX [] ops) ∧ ys.Pairwise (fun a b=>cmpS a.Node b.Node < 0)
structure PlG (w:World) (L:Hst) (a b:ID) (r:PlW):Prop where
 plan:∃ base ops,PlanP L a b r.F base ops r.Safe r.Time ∧ base.length = r.bn ∧ Sl w r.BA (idc base) ∧ base.length ≤ 1000000000 ∧ ops.length ≤ 64000 ∧ RowsS w r.RA r.rn r.rc ops
def MgTo (w:World) (L:Hst) (a b:ID) (e:Ending) (w':World):Prop :=
 ∃ r:PlW,e = .returned (.tuple #[.agg (codPl.A r),.int .i64 (mgE L a b)]) ∧ Fr noB w w' ∧ (mgE L a b ≠ 0 → r = zPlW) ∧ (mgE L a b = 0 → PlG w' L a b r)
theorem HOk.times {L:Hst} (h:HOk L) {x:ID} {c:Chg} (hf:findC L x = some c):1 ≤ c.Time ∧ c.Time ≤ 1099511627776:=by
 have:=(rightCh_parts (h.right _ (findC_mem hf))).2.2.1
 unfold rightS at this
 simp at this
 omega
def RowsW (w:World) (A:Option Addr) (n c:Nat) (ops:List Opn):Prop :=
 ∃ (rs:List RwW) (ys:List RwP),rs.length = n ∧ w.ownsRow 0 codR.t codR.n (.slice A rs.length c) rs.length (codR.row rs) ∧ AllO (RwN 0) w rs ys ∧ ys.Perm (runX [] ops) ∧ ys.Pairwise (fun a b=>cmpS a.Node b.Node < 0)
theorem RowsTo.w {wa w':World} {ops:List Opn} {A:Option Addr} {n c:Nat} (h:RowsTo wa (runX [] ops) (.returned (.slice A n c)) w'):RowsW w' A n c ops:=by
 obtain ⟨A',c',rs,ys,e,o,x,_,p,q,_⟩:=h
 injection e with e
 injection e with e1 e2 e3
 subst e1 e2 e3
 exact ⟨rs,ys,rfl,own_base o (Nat.zero_le _),⟨x.1,fun i h h'=>⟨(x.2 i h h').row,own_base (x.2 i h h').own (Nat.zero_le _)⟩⟩,p,q⟩
theorem RowsW.pl {w w':World} {A:Option Addr} {n c B:Nat} {ops:List Opn} {v:PlW} (h:RowsW w A n c ops) (hB:codPl.bxd w B = some v) (f:Fr (oneB B) w w'):RowsW w' A n c ops:=by
 obtain ⟨rs,ys,e,o,x,p,q⟩:=h
 have hblk:=Cod.bxd_blk hB
 exact ⟨rs,ys,e,own_box hblk o (by decide) f,x.map fun r y hr=>hr.fr f (NoHS.blk hblk (by decide) (by decide)),p,q⟩
theorem RowsW.s {w:World} {A:Option Addr} {n c:Nat} {ops:List Opn} (h:RowsW w A n c ops):RowsS w A n c ops:=by
 obtain ⟨rs,ys,e,o,x,p,q⟩:=h
 subst e
 exact ⟨rs,ys,rfl,Sl.own o,⟨x.1,fun i h h'=>(x.2 i h h').row.inn⟩,p,q⟩
theorem RowsTo.u {wa w':World} {ops:List Opn} {e:Ending} (h:RowsTo wa (runX [] ops) e w'):∃ A n c,e = .returned (.slice A n c) ∧ RowsW w' A n c ops ∧ Fr noB wa w':=by
 obtain ⟨A,c,rs,ys,rfl,h5⟩:=id h
 exact ⟨A,_,c,rfl,h.w,h5.2.2.2.2.2⟩
theorem FastTo.u {w w':World} {base all:List Opn} {e:Ending} (h:FastTo w base all e w'):∃ A n c,e = .returned (.tuple #[.slice A n c,.bool (safeO base all)]) ∧ Fr noB w w' ∧ (safeO base all = true → RowsW w' A n c all):=by
 rcases h with ⟨h1,A,c,rs,wa,rfl,h2,h3⟩ | ⟨h1,rfl,h2⟩
 ·have h4:=h2
  obtain ⟨_,_,_,_,_,_,_,_,_,_,f⟩:=h4
  exact ⟨A,_,c,by rw [h1],h3.step0 f,fun _=>h2.w⟩
 ·exact ⟨none,0,0,by rw [h1],h2,fun h=>by rw [h1] at h;cases h⟩
theorem RwsTo.u {w w':World} {L:Hst} {ids:List ID} {e:Ending} (h:RwsTo w L ids e w'):∃ A n c l,e = .returned (.slice A n c) ∧ OpsP L ids l ∧ l.length ≤ 64000 ∧ RowsW w' A n c l ∧ Fr noB w w':=by
 obtain ⟨l,wa,h1,h2,h3,h4⟩:=h
 obtain ⟨A,c,rs,ys,rfl,h5⟩:=id h4
 exact ⟨A,_,c,l,rfl,h1,h2,h4.w,h3.step0 h5.2.2.2.2.2⟩
theorem sl_pl {w w':World} {A:Option Addr} {rs:List OpW} {B:Nat} {v:PlW} (h:Sl w A (codO.row rs)) (hB:codPl.bxd w B = some v) (f:Fr (oneB B) w w'):Sl w' A (codO.row rs):=by
 by_cases h0:rs = []
 ·rw [h0];exact Sl.nil _ _
 ·refine h.fr f (fun a ha hb=>?_)
  obtain ⟨g,off,e,_,hc⟩:=h (Cod.row_ne h0)
  rw [ha] at e
  injection e with e
  subst e
  have hb':g = B:=hb
  subst hb'
  have hl:0 < rs.length:=List.length_pos_iff.2 h0
  have hlen:(codO.row rs).length = rs.length * 41:=Cod.row_len ..
  have h40:=hc 40 _ (List.getElem?_eq_getElem (by rw [hlen];omega))
  rw [(Cod.bxd_blk hB).cell,List.getElem?_eq_none (by rw [codPl.len];show 36 ≤ off + 40;omega)] at h40
  cases h40
structure MrB (w:World) (P H D A:Nat) (a b:ID):Prop where
 c0:w.cell? ⟨H,0,none⟩ = some (.pointer (some ⟨D,0,none⟩))
 c1:w.cell? ⟨H,1,none⟩ = some (.map (some A))
 qa:rdI w P 0 = some a
 qb:rdI w (P + 1) 0 = some b
 pl:codPl.bxd w (P + 2) = some zPlW
theorem MrB.fr0 {w w':World} {P H D A:Nat} {a b:ID} (h:MrB w P H D A a b) (f:Fr noB w w'):MrB w' P H D A a b :=
 ⟨cell_fr0 h.c0 f,cell_fr0 h.c1 f,rdI_fr h.qa (rdI_lt h.qa) f (by simp [noB]),rdI_fr h.qb (rdI_lt h.qb) f (by simp [noB]),Cod.bxd_fr0 h.pl f⟩
set_option maxRecDepth 100000 in
set_option maxHeartbeats 8000000 in
theorem mgMerge_any {w:World} {H:Nat} {S:Nat → Prop} {L:Hst} (h:Hs w H S L) (hn:NdH L) (hl:L.length ≤ 1000) (a b:ID) :
  Calls Tryz.prog 22 #[.pointer (some ⟨H,0,none⟩),encI a,encI b] w (MgTo w L a b):=by
 have HH:=Lib.hid h
 have HK:=Lib.hid h.ok
 have CO:=Lib.hid (fun w' (f:Fr noB w w') P c n ids (hi:ids.length = n) (hs:Sl w' P (idc ids)) (hb:ids.length ≤ 1000000000)=>mgOps_any (HH.out.fr0 f) hn hl P c n ids hi hs hb)
 have CR:=Lib.hid (fun w' (f:Fr noB w w') P c x (hs:Sl w' P (idc [x]))=>mgRows_any (HH.out.fr0 f) hn hl P c 1 [x] rfl hs (by simp))
 obtain ⟨D,A,O,kvA,kvO,F,Q,h1,h2,h3⟩:=h
 have HA:=Lib.hid h1
 have CRe:=Lib.hid (fun w' (f:Fr noB w w') x y=>reaches_any w' D F (dgH L) (h1.dag.fr0 f) x y)
 have CB:=Lib.hid (fun w' (f:Fr noB w w')=>bases_any w' D F (dgH L) (h1.dag.fr0 f) a b)
 have fa:Fr noB w (w.alloc (ido a)):=(Fr.refl noB w).alloc _
 have fb:Fr noB (w.alloc (ido a)) ((w.alloc (ido a)).alloc (ido b)):=(Fr.refl noB _).alloc _
 have fc:Fr noB ((w.alloc (ido a)).alloc (ido b)) (((w.alloc (ido a)).alloc (ido b)).alloc (codPl.o zPlW)):=(Fr.refl noB _).alloc _
 have za:(w.alloc (ido a)).heap.size = w.heap.size + 1:=by simp
 have zb:((w.alloc (ido a)).alloc (ido b)).heap.size = w.heap.size + 2:=by simp
 have f0:=(fa.step0 fb).step0 fc
 have q0:MrB (((w.alloc (ido a)).alloc (ido b)).alloc (codPl.o zPlW)) w.heap.size H D A a b:=by
  have h4:rdI (w.alloc (ido a)) w.heap.size 0 = some a:=rdI_new w a
  have h5:rdI ((w.alloc (ido a)).alloc (ido b)) (w.alloc (ido a)).heap.size 0 = some b:=rdI_new _ b
  rw [za] at h5
  have h6:=Cod.bxd_new (C:=codPl) ((w.alloc (ido a)).alloc (ido b)) zPlW
  rw [zb] at h6
  have h7:=rdI_fr h4 (rdI_lt h4) fb (by simp [noB])
  exact ⟨cell_fr0 h1.c0 f0,cell_fr0 h1.c1 f0,rdI_fr h7 (rdI_lt h7) fc (by simp [noB]),rdI_fr h5 (rdI_lt h5) fc (by simp [noB]),h6⟩
 have m0:=mpI_fr h1.all f0 (by simp [noB])
 obtain ⟨ra,rsa,ca,ba,la1,la2,ea1,ea2,hca,_,_,_,_⟩:=h1.getC a
 obtain ⟨rb,rsb,cb,bb,lb1,lb2,eb1,eb2,hcb,_,_,_,_⟩:=h1.getC b
 have HTa:=Lib.hid hca.inn.time
 have HTb:=Lib.hid hcb.inn.time
 have HEa:=Lib.hid (And.intro ea1 ea2)
 have HEb:=Lib.hid (And.intro eb1 eb2)
 clear h1 h2 h3 hca hcb ea1 ea2 eb1 eb2 fa fb fc za hn hl
 go_enter Tryz.func22,Tryz.ntmps22
 go_upto_region 1 with fail
 generalize hW0:((w.alloc (ido a)).alloc (ido b)).alloc (codPl.o zPlW) = W0 at f0 q0 m0 ⊢
 clear hW0 zb
 obtain ⟨P,hP⟩:∃ P,P = w.heap.size:=⟨_,rfl⟩
 rw [← hP] at q0 ⊢
 have HP:=Lib.hid hP
 have e2:P + 1 + 1 = P + 2:=rfl
 clear hP
 have hk:∀ w' w'':World,Fr noB w' w'' → (w'.cell? ⟨H,1,none⟩ = some (.map (some A)) ∧ rdI w' P 0 = some a ∧ mpI w' A = some kvA) → (w''.cell? ⟨H,1,none⟩ = some (.map (some A)) ∧ rdI w'' P 0 = some a ∧ mpI w'' A = some kvA):=fun w' w'' f h=>⟨cell_fr0 h.1 f,rdI_fr h.2.1 (rdI_lt h.2.1) f (by simp [noB]),mpI_fr h.2.2 f (by simp [noB])⟩
 have fd:Fr noB W0 W0.drew:=(Fr.refl noB W0).drew
 have hF0:=hk _ _ fd ⟨q0.c1,q0.qa,m0⟩
 refine wp_region_M 11 12 [⟨32768,1,0⟩,⟨65536,32768,1⟩,⟨131072,65536,2⟩,⟨262144,131072,4⟩,⟨524288,16,0⟩,⟨1048576,786432,24⟩,⟨16384,1048576,32⟩,⟨2097152,16384,64⟩,⟨4194304,16384,64⟩,⟨256,0,0⟩,⟨0,2097408,767⟩,⟨512,4194304,2047⟩] [(true,0),(true,1),(true,2),(true,3),(true,4),(true,5),(true,6),(true,7),(true,8),(false,9),(false,10)] (fun w'=>w'.cell? ⟨H,1,none⟩ = some (.map (some A)) ∧ rdI w' P 0 = some a ∧ mpI w' A = some kvA) (by kernel_rfl) rfl (by kernel_rfl) (by kernel_rfl) (by kernel_rfl) hF0 (fun hA hF=>?_)
 iterate 9
  refine wpAnyS_take (v:=?_) hA rfl (fun _ _ _ h=>h) (Or.inl ⟨by rfl,?_⟩) hF (fun hA=>?_)
  rotate_left
  ·intro wS hSw;(try dsimp only at hSw);obtain ⟨s1,s2,s3⟩:=hSw;first | (apply Eq.trans;apply ex_ld_id;exact rfl;exact rfl;assumption;with_reducible rfl) | (apply Eq.trans;apply ex_ldO_at;exact rfl;exact rfl;assumption;with_reducible rfl) | (apply Eq.trans;apply ex_ldS_at;exact rfl;exact rfl;assumption;with_reducible rfl) | (apply Eq.trans;apply ex_bldFR_at;exact rfl;exact rfl;exact rfl;with_reducible rfl) | (apply Eq.trans;apply ex_bldBT_at;exact rfl;exact rfl;exact rfl;with_reducible rfl) | (go_simp;try with_reducible rfl)
  try simp only [sA1,sA2,sA3,Act.put,sA4,sA5,sA6]
 refine wpAnyS_one hA rfl (fun K' hK=>?_)
 refine step_runI rfl _ _ (okC.alOp _ _ rfl _) ?_
 have fa:Fr noB W0.drew (W0.drew.alloc (codC.o zCgW)):=(Fr.refl noB _).alloc _
 replace hF:=hk _ _ fa hF
 refine hK.out _ _ hF (fun hA=>?_)
 clear hK K'
 as_aux_lemma =>
 refine wpAnyS_one hA rfl (fun K' hK=>?_)
 refine stp_skip rfl _ (ex_stV_at (C:=codC) (v:=ra) rfl rfl rfl (st_newC W0.drew ra zCgW)) ?_
 have fb:Fr noB W0.drew (W0.drew.alloc (codC.o ra)):=(Fr.refl noB _).alloc _
 replace hF:=(hk _ _ fb hF0)
 refine hK.out _ _ hF (fun hA=>?_)
 clear hK K'
 as_aux_lemma =>
 refine wpAnyS_end hA rfl ?_
 simp only [List.drop_succ_cons,List.drop_zero]
 have bNa:codC.bxd (W0.drew.alloc (codC.o ra)) W0.drew.heap.size = some ra:=Cod.bxd_new (C:=codC) W0.drew ra
 clear hF hk hF0 fa la1 la2
 have q1:=q0.fr0 (fd.step0 fb)
 have m1:=mpI_fr m0 (fd.step0 fb) (by simp [noB])
 have g1:=f0.step0 (fd.step0 fb)
 clear q0 m0 f0 fd fb
 generalize W0.drew.alloc (codC.o ra) = W1 at bNa q1 m1 g1 ⊢
 generalize W0.drew.heap.size = Na at bNa ⊢
 go_upto_region 2 with fail
 have hk:∀ w' w'':World,Fr noB w' w'' → (w'.cell? ⟨H,1,none⟩ = some (.map (some A)) ∧ rdI w' (P + 1) 0 = some b ∧ mpI w' A = some kvA) → (w''.cell? ⟨H,1,none⟩ = some (.map (some A)) ∧ rdI w'' (P + 1) 0 = some b ∧ mpI w'' A = some kvA):=fun w' w'' f h=>⟨cell_fr0 h.1 f,rdI_fr h.2.1 (rdI_lt h.2.1) f (by simp [noB]),mpI_fr h.2.2 f (by simp [noB])⟩
 have fd:Fr noB W1 W1.drew:=(Fr.refl noB W1).drew
 have hF0:=hk _ _ fd ⟨q1.c1,q1.qb,m1⟩
 refine wp_region_M 11 12 [⟨16777216,1,0⟩,⟨33554432,16777216,1⟩,⟨67108864,33554432,2⟩,⟨134217728,67108864,4⟩,⟨268435456,32,0⟩,⟨536870912,402653184,24⟩,⟨8388608,536870912,32⟩,⟨1073741824,8388608,64⟩,⟨2147483648,8388608,64⟩,⟨1024,0,0⟩,⟨0,1073742848,767⟩,⟨2048,2147483648,2047⟩] [(true,0),(true,1),(true,2),(true,3),(true,4),(true,5),(true,6),(true,7),(true,8),(false,9),(false,10)] (fun w'=>w'.cell? ⟨H,1,none⟩ = some (.map (some A)) ∧ rdI w' (P + 1) 0 = some b ∧ mpI w' A = some kvA) (by kernel_rfl) rfl (by kernel_rfl) (by kernel_rfl) (by kernel_rfl) hF0 (fun hA hF=>?_)
 iterate 9
  refine wpAnyS_take (v:=?_) hA rfl (fun _ _ _ h=>h) (Or.inl ⟨by rfl,?_⟩) hF (fun hA=>?_)
  rotate_left
  ·intro wS hSw;(try dsimp only at hSw);obtain ⟨s1,s2,s3⟩:=hSw;first | (apply Eq.trans;apply ex_ld_id;exact rfl;exact rfl;assumption;with_reducible rfl) | (apply Eq.trans;apply ex_ldO_at;exact rfl;exact rfl;assumption;with_reducible rfl) | (apply Eq.trans;apply ex_ldS_at;exact rfl;exact rfl;assumption;with_reducible rfl) | (apply Eq.trans;apply ex_bldFR_at;exact rfl;exact rfl;exact rfl;with_reducible rfl) | (apply Eq.trans;apply ex_bldBT_at;exact rfl;exact rfl;exact rfl;with_reducible rfl) | (go_simp;try with_reducible rfl)
  try simp only [sA1,sA2,sA3,Act.put,sA4,sA5,sA6]
 refine wpAnyS_one hA rfl (fun K' hK=>?_)
 refine step_runI rfl _ _ (okC.alOp _ _ rfl _) ?_
 have fa:Fr noB W1.drew (W1.drew.alloc (codC.o zCgW)):=(Fr.refl noB _).alloc _
 replace hF:=hk _ _ fa hF
 refine hK.out _ _ hF (fun hA=>?_)
 clear hK K'
 as_aux_lemma =>
 refine wpAnyS_one hA rfl (fun K' hK=>?_)
 refine stp_skip rfl _ (ex_stV_at (C:=codC) (v:=rb) rfl rfl rfl (st_newC W1.drew rb zCgW)) ?_
 have fb:Fr noB W1.drew (W1.drew.alloc (codC.o rb)):=(Fr.refl noB _).alloc _
 replace hF:=(hk _ _ fb hF0)
 refine hK.out _ _ hF (fun hA=>?_)
 clear hK K'
 as_aux_lemma =>
 refine wpAnyS_end hA rfl ?_
 simp only [List.drop_succ_cons,List.drop_zero]
 have bNb:codC.bxd (W1.drew.alloc (codC.o rb)) W1.drew.heap.size = some rb:=Cod.bxd_new (C:=codC) W1.drew rb
 clear hF hk hF0 fa lb1 lb2
 have q2:=q1.fr0 (fd.step0 fb)
 have bNa2:=Cod.bxd_fr0 bNa (fd.step0 fb)
 have g2:=g1.step0 (fd.step0 fb)
 clear q1 m1 g1 fd fb bNa
 generalize W1.drew.alloc (codC.o rb) = W2 at bNb bNa2 q2 g2 ⊢
 generalize W1.drew.heap.size = Nb at bNb ⊢
 have plz:=q2.pl
 cases ba with
 | false =>
  have HM4:=Lib.hid (show mgE L a b = 4 by
   unfold mgE
   have h1:=HEa.out.2
   have h2:=HEb.out.2
   cases hfa:findC L a <;> cases hfb:findC L b <;> simp [hfa,hfb] at h1 h2 ⊢)
  have hst:=okPl.stR_box plz zPlW
  obtain ⟨p1,p2,p3⟩:=Cod.put_fr plz zPlW
  go_wp2_with fail
  refine bodyPost_ret (ret_row_tmp okPl rfl _ _ (P + 2) _ (by rfl) p3) rfl ?_
  refine ⟨zPlW,by rw [HM4.out];rfl,g2.step1 p1 (by have:=HP.out;omega),fun _=>rfl,fun h=>by rw [HM4.out] at h;cases h⟩
 | true =>
  cases bb with
  | false =>
   have HM4:=Lib.hid (show mgE L a b = 4 by
    unfold mgE
    have h1:=HEa.out.2
    have h2:=HEb.out.2
    cases hfa:findC L a <;> cases hfb:findC L b <;> simp [hfa,hfb] at h1 h2 ⊢)
   have hst:=okPl.stR_box plz zPlW
   obtain ⟨p1,p2,p3⟩:=Cod.put_fr plz zPlW
   go_wp2_with fail
   refine bodyPost_ret (ret_row_tmp okPl rfl _ _ (P + 2) _ (by rfl) p3) rfl ?_
   refine ⟨zPlW,by rw [HM4.out];rfl,g2.step1 p1 (by have:=HP.out;omega),fun _=>rfl,fun h=>by rw [HM4.out] at h;cases h⟩
  | true =>
   clear plz
   have HTS:=Lib.hid (show (ra.Time = ca.Time ∧ 1 ≤ ca.Time ∧ ca.Time ≤ 1099511627776 ∧ findC L a = some ca) ∧ (rb.Time = cb.Time ∧ 1 ≤ cb.Time ∧ cb.Time ≤ 1099511627776 ∧ findC L b = some cb) by
    have h1:=HEa.out
    have h2:=HEb.out
    cases hfa:findC L a with
    | none=>rw [hfa] at h1;exact absurd h1.2 (by simp)
    | some x =>
     cases hfb:findC L b with
     | none=>rw [hfb] at h2;exact absurd h2.2 (by simp)
     | some y =>
      rw [hfa] at h1
      rw [hfb] at h2
      obtain rfl:ca = x:=h1.1
      obtain rfl:cb = y:=h2.1
      exact ⟨⟨HTa.out.symm,(HK.out.times hfa).1,(HK.out.times hfa).2,rfl⟩,⟨HTb.out.symm,(HK.out.times hfb).1,(HK.out.times hfb).2,rfl⟩⟩)
   go_upto_region 5 with fail
   have hk:∀ w' w'':World,Fr noB w' w'' → (w'.cell? ⟨H,0,none⟩ = some (.pointer (some ⟨D,0,none⟩)) ∧ rdI w' P 0 = some a ∧ rdI w' (P + 1) 0 = some b) → (w''.cell? ⟨H,0,none⟩ = some (.pointer (some ⟨D,0,none⟩)) ∧ rdI w'' P 0 = some a ∧ rdI w'' (P + 1) 0 = some b):=fun w' w'' f h=>⟨cell_fr0 h.1 f,rdI_fr h.2.1 (rdI_lt h.2.1) f (by simp [noB]),rdI_fr h.2.2 (rdI_lt h.2.2) f (by simp [noB])⟩
   have fd:Fr noB W2 W2.drew:=(Fr.refl noB W2).drew
   have hF0:=hk _ _ fd ⟨q2.c0,q2.qa,q2.qb⟩
   refine wp_region_M 7 8 [⟨2199023255552,1,0⟩,⟨4398046511104,2199023255552,1⟩,⟨8796093022208,4398046511104,2⟩,⟨17592186044416,8796093022208,4⟩,⟨35184372088832,16,0⟩,⟨70368744177664,32,0⟩,⟨140737488355328,123145302310912,56⟩,⟨1099511627776,140737488355328,64⟩] [(true,0),(true,1),(true,2),(true,3),(true,4),(true,5),(false,6)] (fun w'=>w'.cell? ⟨H,0,none⟩ = some (.pointer (some ⟨D,0,none⟩)) ∧ rdI w' P 0 = some a ∧ rdI w' (P + 1) 0 = some b) (by kernel_rfl) rfl (by kernel_rfl) (by kernel_rfl) (by kernel_rfl) hF0 (fun hA hF=>?_)
   iterate 6
    refine wpAnyS_take (v:=?_) hA rfl (fun _ _ _ h=>h) (Or.inl ⟨by rfl,?_⟩) hF (fun hA=>?_)
    rotate_left
    ·intro wS hSw;(try dsimp only at hSw);obtain ⟨s1,s2,s3⟩:=hSw;first | (apply Eq.trans;apply ex_ld_id;exact rfl;exact rfl;assumption;with_reducible rfl) | (apply Eq.trans;apply ex_ldO_at;exact rfl;exact rfl;assumption;with_reducible rfl) | (apply Eq.trans;apply ex_ldS_at;exact rfl;exact rfl;assumption;with_reducible rfl) | (apply Eq.trans;apply ex_bldFR_at;exact rfl;exact rfl;exact rfl;with_reducible rfl) | (apply Eq.trans;apply ex_bldBT_at;exact rfl;exact rfl;exact rfl;with_reducible rfl) | (go_simp;try with_reducible rfl)
    try simp only [sA1,sA2,sA3,Act.put,sA4,sA5,sA6]
   refine wpAnyS_one hA rfl (fun K' hK=>?_)
   go_simp
   go_at_call 27
   refine (CRe.out _ (g2.step0 fd) a b).mono ?_
   rintro e w3 ⟨rfl,f3⟩
   replace hF:=hk _ _ f3 hF
   refine hK.out _ _ hF (fun hA=>?_)
   clear hK K'
   as_aux_lemma =>
   refine wpAnyS_end hA rfl ?_
   simp only [List.drop_succ_cons,List.drop_zero]
   clear hF hk hF0
   have q3:=q2.fr0 (fd.step0 f3)
   have g3:=g2.step0 (fd.step0 f3)
   have ta:=(cgAt (Cod.bxd_rd (Cod.bxd_fr0 bNa2 (fd.step0 f3)))).time
   have tb:=(cgAt (Cod.bxd_rd (Cod.bxd_fr0 bNb (fd.step0 f3)))).time
   clear q2 g2 bNa2 bNb fd f3
   cases hab:ancG (dgH L) a b with
   | true =>
    have HM0:=Lib.hid (show mgE L a b = 0 by
     unfold mgE
     rw [HTS.out.1.2.2.2,HTS.out.2.2.2.2]
     simp [hab])
    have HAB:=Lib.hid hab
    clear hab ta tb
    go_upto_region 6 with fail
    have hk:∀ w' w'':World,Fr noB w' w'' → rdI w' (P) 0 = some a → rdI w'' (P) 0 = some a:=fun w' w'' f h=>rdI_fr h (rdI_lt h) f (by simp [noB])
    have fd:Fr noB w3 w3.drew:=(Fr.refl noB w3).drew
    have hF0:=hk _ _ fd q3.qa
    refine wp_region_M 6 8 [⟨281474976710656,16,0⟩,⟨562949953421312,1,0⟩,⟨1125899906842624,16,0⟩,⟨2251799813685248,1125899906842624,4⟩,⟨4503599627370496,2814749767106560,10⟩,⟨9007199254740992,4785074604081152,17⟩,⟨0,9007199254741056,63⟩,⟨128,0,127⟩] [(true,0),(true,1),(true,2),(false,3),(false,4),(true,5)] (fun w'=>rdI w' (P) 0 = some a) (by kernel_rfl) rfl (by kernel_rfl) (by kernel_rfl) (by kernel_rfl) hF0 (fun hA hF=>?_)
    iterate 3
     refine wpAnyS_take (v:=?_) hA rfl (fun _ _ _ h=>h) (Or.inl ⟨by rfl,?_⟩) hF (fun hA=>?_)
     rotate_left
     ·intro wS hSw;(try dsimp only at hSw);obtain s1:=hSw;first | (apply Eq.trans;apply ex_ld_id;exact rfl;exact rfl;assumption;with_reducible rfl) | (apply Eq.trans;apply ex_ldO_at;exact rfl;exact rfl;assumption;with_reducible rfl) | (apply Eq.trans;apply ex_ldS_at;exact rfl;exact rfl;assumption;with_reducible rfl) | (apply Eq.trans;apply ex_bldFR_at;exact rfl;exact rfl;exact rfl;with_reducible rfl) | (apply Eq.trans;apply ex_bldBT_at;exact rfl;exact rfl;exact rfl;with_reducible rfl) | (go_simp;try with_reducible rfl)
     try simp only [sA1,sA2,sA3,Act.put,sA4,sA5,sA6]
    refine wpAnyS_one hA rfl (fun K' hK=>?_)
    refine step_runI rfl _ _ (ex_bs1_at (x:=a) rfl rfl) ?_
    have fn:Fr noB w3.drew (w3.drew.alloc (rowo [a])):=(Fr.refl noB _).alloc _
    have CRx:=Lib.hid (CR.out _ (g3.step0 (fd.step0 fn)) _ 1 a (sl_new w3.drew [a]))
    replace hF:=hk _ _ fn hF
    refine hK.out _ _ hF (fun hA=>?_)
    clear hK K'
    as_aux_lemma =>
    refine wpAnyS_one hA rfl (fun K' hK=>?_)
    go_simp
    go_at_call 20
    refine CRx.out.mono ?_
    rintro e w6 hr6
    obtain ⟨A6,n6,c6,l6,rfl,p6,b6,r6,f6⟩:=hr6.u
    replace hF:=hk _ _ f6 hF
    refine hK.out _ _ hF (fun hA=>?_)
    clear hK K'
    as_aux_lemma =>
    refine wpAnyS_take (v:=?_) hA rfl (fun _ _ _ h=>h) (Or.inl ⟨by rfl,?_⟩) hF (fun hA=>?_)
    rotate_left
    ·intro wS hSw;(try dsimp only at hSw);obtain s1:=hSw;first | (apply Eq.trans;apply ex_ld_id;exact rfl;exact rfl;assumption;with_reducible rfl) | (apply Eq.trans;apply ex_ldO_at;exact rfl;exact rfl;assumption;with_reducible rfl) | (apply Eq.trans;apply ex_ldS_at;exact rfl;exact rfl;assumption;with_reducible rfl) | (apply Eq.trans;apply ex_bldFR_at;exact rfl;exact rfl;exact rfl;with_reducible rfl) | (apply Eq.trans;apply ex_bldBT_at;exact rfl;exact rfl;exact rfl;with_reducible rfl) | (go_simp;try with_reducible rfl)
    try simp only [sA1,sA2,sA3,Act.put,sA4,sA5,sA6]
    refine wpAnyS_end hA rfl ?_
    simp only [List.drop_succ_cons,List.drop_zero]
    have ff:=(fd.step0 fn).step0 f6
    have pl6:=Cod.bxd_fr0 q3.pl ff
    have hst:=okPl.stR_box pl6 { zPlW with F:=a,RA:=A6,rn:=n6,rc:=c6 }
    obtain ⟨p1,p2,p3⟩:=Cod.put_fr pl6 { zPlW with F:=a,RA:=A6,rn:=n6,rc:=c6 }
    clear hF hk hF0 fd fn f6 hr6
    go_wp2_with fail
    refine bodyPost_ret (ret_row_tmp okPl rfl _ _ (P + 2) _ (by rfl) p3) rfl ?_
    refine ⟨_,by rw [HM0.out];rfl,(g3.step0 ff).step1 p1 (by have:=HP.out;omega),fun h=>absurd HM0.out h,fun _=>⟨[],l6,⟨fun _=>⟨rfl,rfl,p6,rfl,rfl⟩,fun h=>(by rw [HAB.out] at h;cases h),fun h=>(by rw [HAB.out] at h;cases h)⟩,rfl,Sl.nil _ _,by simp,b6,(r6.pl pl6 p1).s⟩⟩
   | false =>
    have HAB:=Lib.hid hab
    clear hab
    go_upto_region 7 with fail
    have hk:∀ w' w'':World,Fr noB w' w'' → (w'.cell? ⟨H,0,none⟩ = some (.pointer (some ⟨D,0,none⟩)) ∧ rdI w' P 0 = some a ∧ rdI w' (P + 1) 0 = some b) → (w''.cell? ⟨H,0,none⟩ = some (.pointer (some ⟨D,0,none⟩)) ∧ rdI w'' P 0 = some a ∧ rdI w'' (P + 1) 0 = some b):=fun w' w'' f h=>⟨cell_fr0 h.1 f,rdI_fr h.2.1 (rdI_lt h.2.1) f (by simp [noB]),rdI_fr h.2.2 (rdI_lt h.2.2) f (by simp [noB])⟩
    have fd:Fr noB w3 w3.drew:=(Fr.refl noB w3).drew
    have hF0:=hk _ _ fd ⟨q3.c0,q3.qa,q3.qb⟩
    refine wp_region_M 7 8 [⟨36028797018963968,1,0⟩,⟨72057594037927936,36028797018963968,1⟩,⟨144115188075855872,72057594037927936,2⟩,⟨288230376151711744,144115188075855872,4⟩,⟨576460752303423488,32,0⟩,⟨1152921504606846976,16,0⟩,⟨2305843009213693952,2017612633061982208,56⟩,⟨18014398509481984,2305843009213693952,64⟩] [(true,0),(true,1),(true,2),(true,3),(true,4),(true,5),(false,6)] (fun w'=>w'.cell? ⟨H,0,none⟩ = some (.pointer (some ⟨D,0,none⟩)) ∧ rdI w' P 0 = some a ∧ rdI w' (P + 1) 0 = some b) (by kernel_rfl) rfl (by kernel_rfl) (by kernel_rfl) (by kernel_rfl) hF0 (fun hA hF=>?_)
    iterate 6
     refine wpAnyS_take (v:=?_) hA rfl (fun _ _ _ h=>h) (Or.inl ⟨by rfl,?_⟩) hF (fun hA=>?_)
     rotate_left
     ·intro wS hSw;(try dsimp only at hSw);obtain ⟨s1,s2,s3⟩:=hSw;first | (apply Eq.trans;apply ex_ld_id;exact rfl;exact rfl;assumption;with_reducible rfl) | (apply Eq.trans;apply ex_ldO_at;exact rfl;exact rfl;assumption;with_reducible rfl) | (apply Eq.trans;apply ex_ldS_at;exact rfl;exact rfl;assumption;with_reducible rfl) | (apply Eq.trans;apply ex_bldFR_at;exact rfl;exact rfl;exact rfl;with_reducible rfl) | (apply Eq.trans;apply ex_bldBT_at;exact rfl;exact rfl;exact rfl;with_reducible rfl) | (go_simp;try with_reducible rfl)
     try simp only [sA1,sA2,sA3,Act.put,sA4,sA5,sA6]
    refine wpAnyS_one hA rfl (fun K' hK=>?_)
    go_simp
    go_at_call 27
    refine (CRe.out _ (g3.step0 fd) b a).mono ?_
    rintro e w4 ⟨rfl,f3⟩
    replace hF:=hk _ _ f3 hF
    refine hK.out _ _ hF (fun hA=>?_)
    clear hK K'
    as_aux_lemma =>
    refine wpAnyS_end hA rfl ?_
    simp only [List.drop_succ_cons,List.drop_zero]
    clear hF hk hF0
    have q4:=q3.fr0 (fd.step0 f3)
    have g4:=g3.step0 (fd.step0 f3)
    have ta4:=cell_fr0 ta (fd.step0 f3)
    have tb4:=cell_fr0 tb (fd.step0 f3)
    clear q3 g3 ta tb fd f3
    cases hba:ancG (dgH L) b a with
    | true =>
     have HM0:=Lib.hid (show mgE L a b = 0 by
      unfold mgE
      rw [HTS.out.1.2.2.2,HTS.out.2.2.2.2]
      simp [HAB.out,hba])
     have HBA:=Lib.hid hba
     clear hba ta4 tb4
     go_upto_region 8 with fail
     have hk:∀ w' w'':World,Fr noB w' w'' → rdI w' ((P + 1)) 0 = some b → rdI w'' ((P + 1)) 0 = some b:=fun w' w'' f h=>rdI_fr h (rdI_lt h) f (by simp [noB])
     have fd:Fr noB w4 w4.drew:=(Fr.refl noB w4).drew
     have hF0:=hk _ _ fd q4.qb
     refine wp_region_M 6 8 [⟨4611686018427387904,32,0⟩,⟨9223372036854775808,1,0⟩,⟨18446744073709551616,32,0⟩,⟨36893488147419103232,18446744073709551616,4⟩,⟨73786976294838206464,46116860184273879040,10⟩,⟨147573952589676412928,78398662313265594368,17⟩,⟨0,147573952589676412992,63⟩,⟨128,0,127⟩] [(true,0),(true,1),(true,2),(false,3),(false,4),(true,5)] (fun w'=>rdI w' ((P + 1)) 0 = some b) (by kernel_rfl) rfl (by kernel_rfl) (by kernel_rfl) (by kernel_rfl) hF0 (fun hA hF=>?_)
     iterate 3
      refine wpAnyS_take (v:=?_) hA rfl (fun _ _ _ h=>h) (Or.inl ⟨by rfl,?_⟩) hF (fun hA=>?_)
      rotate_left
      ·intro wS hSw;(try dsimp only at hSw);obtain s1:=hSw;first | (apply Eq.trans;apply ex_ld_id;exact rfl;exact rfl;assumption;with_reducible rfl) | (apply Eq.trans;apply ex_ldO_at;exact rfl;exact rfl;assumption;with_reducible rfl) | (apply Eq.trans;apply ex_ldS_at;exact rfl;exact rfl;assumption;with_reducible rfl) | (apply Eq.trans;apply ex_bldFR_at;exact rfl;exact rfl;exact rfl;with_reducible rfl) | (apply Eq.trans;apply ex_bldBT_at;exact rfl;exact rfl;exact rfl;with_reducible rfl) | (go_simp;try with_reducible rfl)
      try simp only [sA1,sA2,sA3,Act.put,sA4,sA5,sA6]
     refine wpAnyS_one hA rfl (fun K' hK=>?_)
     refine step_runI rfl _ _ (ex_bs1_at (x:=b) rfl rfl) ?_
     have fn:Fr noB w4.drew (w4.drew.alloc (rowo [b])):=(Fr.refl noB _).alloc _
     have CRx:=Lib.hid (CR.out _ (g4.step0 (fd.step0 fn)) _ 1 b (sl_new w4.drew [b]))
     replace hF:=hk _ _ fn hF
     refine hK.out _ _ hF (fun hA=>?_)
     clear hK K'
     as_aux_lemma =>
     refine wpAnyS_one hA rfl (fun K' hK=>?_)
     go_simp
     go_at_call 20
     refine CRx.out.mono ?_
     rintro e w6 hr6
     obtain ⟨A6,n6,c6,l6,rfl,p6,b6,r6,f6⟩:=hr6.u
     replace hF:=hk _ _ f6 hF
     refine hK.out _ _ hF (fun hA=>?_)
     clear hK K'
     as_aux_lemma =>
     refine wpAnyS_take (v:=?_) hA rfl (fun _ _ _ h=>h) (Or.inl ⟨by rfl,?_⟩) hF (fun hA=>?_)
     rotate_left
     ·intro wS hSw;(try dsimp only at hSw);obtain s1:=hSw;first | (apply Eq.trans;apply ex_ld_id;exact rfl;exact rfl;assumption;with_reducible rfl) | (apply Eq.trans;apply ex_ldO_at;exact rfl;exact rfl;assumption;with_reducible rfl) | (apply Eq.trans;apply ex_ldS_at;exact rfl;exact rfl;assumption;with_reducible rfl) | (apply Eq.trans;apply ex_bldFR_at;exact rfl;exact rfl;exact rfl;with_reducible rfl) | (apply Eq.trans;apply ex_bldBT_at;exact rfl;exact rfl;exact rfl;with_reducible rfl) | (go_simp;try with_reducible rfl)
     try simp only [sA1,sA2,sA3,Act.put,sA4,sA5,sA6]
     refine wpAnyS_end hA rfl ?_
     simp only [List.drop_succ_cons,List.drop_zero]
     have ff:=(fd.step0 fn).step0 f6
     have pl6:=Cod.bxd_fr0 q4.pl ff
     have hst:=okPl.stR_box pl6 { zPlW with F:=b,RA:=A6,rn:=n6,rc:=c6 }
     obtain ⟨p1,p2,p3⟩:=Cod.put_fr pl6 { zPlW with F:=b,RA:=A6,rn:=n6,rc:=c6 }
     clear hF hk hF0 fd fn f6 hr6
     go_wp2_with fail
     refine bodyPost_ret (ret_row_tmp okPl rfl _ _ (P + 2) _ (by rfl) p3) rfl ?_
     refine ⟨_,by rw [HM0.out];rfl,(g4.step0 ff).step1 p1 (by have:=HP.out;omega),fun h=>absurd HM0.out h,fun _=>⟨[],l6,⟨fun h=>(by rw [HAB.out] at h;cases h),fun _ _=>⟨rfl,rfl,p6,rfl,rfl⟩,fun _ h=>(by rw [HBA.out] at h;cases h)⟩,rfl,Sl.nil _ _,by simp,b6,(r6.pl pl6 p1).s⟩⟩
    | false =>
     have HBA:=Lib.hid hba
     clear hba
     have HM:=Lib.hid (show mgE L a b = if max ca.Time cb.Time + 1 > 1099511627776 then 1 else 0 by
      unfold mgE
      rw [HTS.out.1.2.2.2,HTS.out.2.2.2.2]
      simp [HAB.out,HBA.out])
     rw [HTS.out.1.1] at ta4
     rw [HTS.out.2.1] at tb4
     go_upto_region 9 with fail
     have hk:∀ w' w'':World,Fr noB w' w'' → (w'.cell? ⟨H,0,none⟩ = some (.pointer (some ⟨D,0,none⟩)) ∧ rdI w' P 0 = some a ∧ rdI w' (P + 1) 0 = some b ∧ w'.cell? ⟨Na,0 + 1,none⟩ = some (.int .i64 ca.Time) ∧ w'.cell? ⟨Nb,0 + 1,none⟩ = some (.int .i64 cb.Time)) → (w''.cell? ⟨H,0,none⟩ = some (.pointer (some ⟨D,0,none⟩)) ∧ rdI w'' P 0 = some a ∧ rdI w'' (P + 1) 0 = some b ∧ w''.cell? ⟨Na,0 + 1,none⟩ = some (.int .i64 ca.Time) ∧ w''.cell? ⟨Nb,0 + 1,none⟩ = some (.int .i64 cb.Time)):=fun w' w'' f h=>⟨cell_fr0 h.1 f,rdI_fr h.2.1 (rdI_lt h.2.1) f (by simp [noB]),rdI_fr h.2.2.1 (rdI_lt h.2.2.1) f (by simp [noB]),cell_fr0 h.2.2.2.1 f,cell_fr0 h.2.2.2.2 f⟩
     have fd:Fr noB w4 w4.drew:=(Fr.refl noB w4).drew
     have hF0:=hk _ _ fd ⟨q4.c0,q4.qa,q4.qb,ta4,tb4⟩
     obtain ⟨T,hT⟩:∃ T,T = max ca.Time cb.Time + 1:=⟨_,rfl⟩
     have wt:IntKind.i64.wrap (max ca.Time cb.Time + 1) = T:=by rw [IntKind.wrap_i64];have:=HTS.out;omega
     have HT:=Lib.hid hT
     clear hT
     refine wp_region_T 15 16 [⟨295147905179352825856,1,0⟩,⟨590295810358705651712,295147905179352825856,1⟩,⟨1180591620717411303424,590295810358705651712,2⟩,⟨2361183241434822606848,1180591620717411303424,4⟩,⟨4722366482869645213696,16,0⟩,⟨9444732965739290427392,32,0⟩,⟨18889465931478580854784,16528282690043758247936,56⟩,⟨37778931862957161709568,256,0⟩,⟨75557863725914323419136,37778931862957161709568,128⟩,⟨151115727451828646838272,1024,0⟩,⟨302231454903657293676544,151115727451828646838272,512⟩,⟨604462909807314587353088,377789318629571617095680,1280⟩,⟨1208925819614629174706176,604462909807314587353088,2048⟩,⟨2417851639229258349412352,1227815285546107755560960,4160⟩,⟨4096,0,0⟩,⟨0,2417851639229258349416448,32767⟩] (.take 0 (.take 1 (.take 2 (.take 3 (.take 4 (.take 5 (.take 7 (.take 8 (.take 9 (.take 10 (.take 11 (.take 12 (.two 6 14 (.take 13 (.one 14 .done)) (.one 6 (.take 13 .done))))))))))))))) (fun w'=>w'.cell? ⟨H,0,none⟩ = some (.pointer (some ⟨D,0,none⟩)) ∧ rdI w' P 0 = some a ∧ rdI w' (P + 1) 0 = some b ∧ w'.cell? ⟨Na,0 + 1,none⟩ = some (.int .i64 ca.Time) ∧ w'.cell? ⟨Nb,0 + 1,none⟩ = some (.int .i64 cb.Time)) (by kernel_rfl) rfl (by kernel_rfl) (by kernel_rfl) (by kernel_rfl) hF0 (fun hA hF=>?_)
     iterate 12
      refine wpAnyT_take (v:=?_) hA rfl (fun _ _ _ h=>h) (Or.inl ⟨by rfl,?_⟩) hF (fun hA=>?_)
      rotate_left
      ·intro wS hSw;(try dsimp only at hSw);obtain ⟨s1,s2,s3,s4,s5⟩:=hSw;first | (apply Eq.trans;apply ex_ld_id;exact rfl;exact rfl;assumption;with_reducible rfl) | (apply Eq.trans;apply ex_ldO_at;exact rfl;exact rfl;assumption;with_reducible rfl) | (apply Eq.trans;apply ex_ldS_at;exact rfl;exact rfl;assumption;with_reducible rfl) | (apply Eq.trans;apply ex_bldFR_at;exact rfl;exact rfl;exact rfl;with_reducible rfl) | (apply Eq.trans;apply ex_bldBT_at;exact rfl;exact rfl;exact rfl;with_reducible rfl) | (go_simp;try with_reducible rfl)
      try simp only [sA1,sA2,sA3,Act.put,sA4,sA5,sA6]
     apply lift_T1 (F:=fun q A n c u=>codPl.bxd u q = some zPlW ∧ w4.heap.size ≤ q ∧ ∃ l:List ID,l.length = n ∧ u.ownsRow 0 24 32 (.slice A n c) n (idc l) ∧ Rise cmpI l ∧ (∀ y,y ∈ l ↔ BaseOf (dgH L) a b y) ∧ l.length ≤ 1000000000 ∧ Fr noB w4 u)
     ·intro cont
      refine wpAnyT_two (i:=6) (j:=14) hA rfl rfl (fun K' hK=>?_) (fun K' hK=>?_)
      ·rw [if_pos (by rfl)]
       go_simp
       go_at_call 51
       refine (CB.out _ (g4.step0 fd)).mono ?_
       rintro e u1 ⟨l,⟨A1,c1,rfl,o1,f1⟩,hr,hm,hb⟩
       replace hF:=hk _ _ f1 hF
       refine hK.out _ _ hF (fun hA=>?_)
       clear hK K'
       try simp only [sA1,sA2,sA3,Act.put,sA4,sA5,sA6]
       refine wpAnyT_take (v:=?_) hA rfl (fun _ _ _ h=>h) (Or.inl ⟨by rfl,?_⟩) hF (fun hA=>?_)
       rotate_left
       ·intro wS hSw;(try dsimp only at hSw);obtain ⟨s1,s2,s3,s4,s5⟩:=hSw;first | (apply Eq.trans;apply ex_ld_id;exact rfl;exact rfl;assumption;with_reducible rfl) | (apply Eq.trans;apply ex_ldO_at;exact rfl;exact rfl;assumption;with_reducible rfl) | (apply Eq.trans;apply ex_ldS_at;exact rfl;exact rfl;assumption;with_reducible rfl) | (apply Eq.trans;apply ex_bldFR_at;exact rfl;exact rfl;exact rfl;with_reducible rfl) | (apply Eq.trans;apply ex_bldBT_at;exact rfl;exact rfl;exact rfl;with_reducible rfl) | (go_simp;try with_reducible rfl)
       try simp only [sA1,sA2,sA3,Act.put,sA4,sA5,sA6]
       refine wpAnyT_one hA rfl (fun K' hK=>?_)
       refine step_runI rfl _ _ (okPl.alOp _ _ rfl _) ?_
       have fx:Fr noB u1 (u1.alloc (codPl.o codPl.z)):=(Fr.refl noB _).alloc _
       replace hF:=hk _ _ fx hF
       refine hK.out _ _ hF (fun hA=>?_)
       clear hK K'
       try simp only [sA1,sA2,sA3,Act.put,sA4,sA5,sA6]
       have bx:codPl.bxd (u1.alloc (codPl.o codPl.z)) u1.heap.size = some zPlW:=Cod.bxd_new (C:=codPl) u1 zPlW
       have o2:=own_base (own_new0 o1 fx) (Nat.zero_le _)
       have ff:=(fd.step0 f1).step0 fx
       have hq:=(fd.step0 f1).size
       generalize u1.alloc (codPl.o codPl.z) = u2 at bx o2 ff hF ⊢
       generalize u1.heap.size = q at bx hq ⊢
       generalize en:l.length = n at o2 ⊢
       exact cont q A1 n c1 _ u2 ⟨bx,hq,l,en,o2,hr,hm,hb,ff⟩ hA
      ·rw [if_pos (by rfl)]
       refine step_runP _ _ (okPl.alOp _ _ rfl _) ?_
       have fx:Fr noB w4.drew (w4.drew.alloc (codPl.o codPl.z)):=(Fr.refl noB _).alloc _
       replace hF:=hk _ _ fx hF
       refine hK.out _ _ hF (fun hA=>?_)
       clear hK K'
       try simp only [sA1,sA2,sA3,Act.put,sA4,sA5,sA6]
       have bx:codPl.bxd (w4.drew.alloc (codPl.o codPl.z)) w4.drew.heap.size = some zPlW:=Cod.bxd_new (C:=codPl) w4.drew zPlW
       have hq:=fd.size
       have fe:=fd.step0 fx
       generalize w4.drew.alloc (codPl.o codPl.z) = u0 at bx fe hF ⊢
       generalize w4.drew.heap.size = q at bx hq ⊢
       refine wpAnyT_one hA rfl (fun K' hK=>?_)
       go_simp
       go_at_call 51
       refine (CB.out _ (g4.step0 fe)).mono ?_
       rintro e u1 ⟨l,⟨A1,c1,rfl,o1,f1⟩,hr,hm,hb⟩
       replace hF:=hk _ _ f1 hF
       refine hK.out _ _ hF (fun hA=>?_)
       clear hK K'
       try simp only [sA1,sA2,sA3,Act.put,sA4,sA5,sA6]
       refine wpAnyT_take (v:=?_) hA rfl (fun _ _ _ h=>h) (Or.inl ⟨by rfl,?_⟩) hF (fun hA=>?_)
       rotate_left
       ·intro wS hSw;(try dsimp only at hSw);obtain ⟨s1,s2,s3,s4,s5⟩:=hSw;first | (apply Eq.trans;apply ex_ld_id;exact rfl;exact rfl;assumption;with_reducible rfl) | (apply Eq.trans;apply ex_ldO_at;exact rfl;exact rfl;assumption;with_reducible rfl) | (apply Eq.trans;apply ex_ldS_at;exact rfl;exact rfl;assumption;with_reducible rfl) | (apply Eq.trans;apply ex_bldFR_at;exact rfl;exact rfl;exact rfl;with_reducible rfl) | (apply Eq.trans;apply ex_bldBT_at;exact rfl;exact rfl;exact rfl;with_reducible rfl) | (go_simp;try with_reducible rfl)
       try simp only [sA1,sA2,sA3,Act.put,sA4,sA5,sA6]
       have bx2:=Cod.bxd_fr0 bx f1
       have o2:=own_base o1 (Nat.zero_le _)
       have ff:=fe.step0 f1
       generalize en:l.length = n at o2 ⊢
       exact cont q A1 n c1 _ u1 ⟨bx2,hq,l,en,o2,hr,hm,hb,ff⟩ hA
     clear hA hF hF0 hk fd wt ta4 tb4
     rintro q A1 n1 c1 L1 u ⟨bx,hq,l,rfl,o1,hr,hm,hb,ff⟩ hA
     refine wpAnyT_end hA rfl ?_
     simp only [List.drop_succ_cons,List.drop_zero]
     have f9:=g4.step0 ff
     have q9:=q4.fr0 ff
     have hPq:P + 2 ≠ q:=by have:=Cod.bxd_lt q4.pl;omega
     have hwq:w.heap.size ≤ q:=Nat.le_trans g4.size hq
     have hst:=okPl.stR_box bx { zPlW with BA:=A1,bn:=l.length,bc:=c1,Time:=T }
     obtain ⟨p1,p2,p3⟩:=Cod.put_fr bx { zPlW with BA:=A1,bn:=l.length,bc:=c1,Time:=T }
     have o10:=own_box (Cod.bxd_blk bx) o1 (by decide) p1
     have F10:=f9.step1 p1 hwq
     have qa10:=rdI_fr q9.qa (rdI_lt q9.qa) p1 (by have:=rdI_lt q4.qa;show ¬ P = q;omega)
     have qb10:=rdI_fr q9.qb (rdI_lt q9.qb) p1 (by have:=rdI_lt q4.qb;show ¬ P + 1 = q;omega)
     have pl10:=Cod.bxd_fr q9.pl p1 hPq
     have u10:=(plAt (Cod.bxd_rd p3)).time
     have HBS:=Lib.hid (And.intro hr (And.intro hm hb))
     have HPQ:=Lib.hid (And.intro hPq hwq)
     clear ff f9 q9 g4 q4 o1 p1 p2 hr hm hb hq hPq hwq CB CRe CR HA
     go_upto_region 10 with fail
     clear hst bx
     generalize codPl.put u q { zPlW with BA:=A1,bn:=l.length,bc:=c1,Time:=T } = W10 at p3 o10 F10 qa10 qb10 pl10 u10 ⊢
     by_cases ht:1099511627776 < T
     ·have HM1:=Lib.hid (show mgE L a b = 1 by rw [HM.out,← HT.out,if_pos ht])
      have hst:=okPl.stR_box pl10 zPlW
      obtain ⟨p1,p2,p4⟩:=Cod.put_fr pl10 zPlW
      go_wp2_with fail
      refine bodyPost_ret (ret_row_tmp okPl rfl _ _ (P + 2) _ (by rfl) p4) rfl ?_
      refine ⟨zPlW,by rw [HM1.out];rfl,F10.step1 p1 (by have:=HP.out;omega),fun _=>rfl,fun h=>by rw [HM1.out] at h;cases h⟩
     ·have HM0:=Lib.hid (show mgE L a b = 0 by rw [HM.out,← HT.out,if_neg ht])
      go_upto_region 13 with (go_at_call 17;refine (CO.out _ (F10.step0 ((Fr.refl noB _).alloc _)) _ _ 2 [a,b] rfl (sl_new W10 [a,b]) (by simp)).mono ?_;rintro e w12 ⟨Aa,cAa,rsa2,all,rfl,pa,bla,sa,aa,f12⟩)
      have ff:=((Fr.refl noB W10).alloc (rowo [a,b])).step0 f12
      have F12:=F10.step0 ff
      have p12:=Cod.bxd_fr0 p3 ff
      have o12:=own_new0 o10 ff
      have pl12:=Cod.bxd_fr0 pl10 ff
      clear f12 F10 ff p3 o10 pl10 qa10 qb10 u10
      have u32:=(plAt (Cod.bxd_rd p12)).base
      have CO2:=Lib.hid (CO.out _ F12 A1 c1 _ l rfl (Sl.own o12) HBS.out.2.2)
      have HSA:=Lib.hid sa
      have HAA:=Lib.hid aa
      have HPA:=Lib.hid pa
      have HBL:=Lib.hid bla
      clear CO sa aa pa bla
      go_upto_region 14 with (first
       | (go_at_call 17;refine CO2.out.mono ?_;rintro e w13 ⟨Ab,cAb,rsb2,bo,rfl,pb,blb,sb,ab,f13⟩;have CF:=Lib.hid (mgFast_any w13 Ab Aa cAb cAa _ _ rsb2 rsa2 bo all rfl rfl sb (HSA.out.fr0 f13) ⟨ab.1,fun i h h'=>(ab.2 i h h').op.inn⟩ ⟨HAA.out.1,fun i h h'=>(HAA.out.2 i h h').op.inn.fr f13⟩ pb.srt HPA.out.srt (pb.sub HPA.out (fun x hx=>reached_two.2 (.inl ((base_reached HK.out.ok HBS.out.2.1 x).1 hx).1))) (HPA.out.good HK.out) HBL.out blb))
       | (go_at_call 52;refine CF.out.mono ?_;rintro e w14 hf14;obtain ⟨Af,nf,cf,rfl,f14,hrw⟩:=hf14.u;have p14:=Cod.bxd_fr0 p12 (f13.step0 f14);have u14:=(plAt (Cod.bxd_rd p14)).rows;have z14:=(Cod.bxd_blk p14).frozen 33;have p15:=Cod.bxd_set p14 33 (.slice Af nf cf) _ (sePl_Rows _ _ _ _);have u15:=(plAt (Cod.bxd_rd p15)).safe;have z15:=(Cod.bxd_blk p15).frozen 34))
      obtain ⟨sv,hsv⟩:∃ sv,sv = safeO bo all:=⟨_,rfl⟩
      rw [← hsv] at hrw ⊢
      have g15:=Cod.set_fr w14 q 33 (.slice Af nf cf)
      have p16:codPl.bxd ((w14.setCell ⟨q,33,none⟩ (.slice Af nf cf)).setCell ⟨q,34,none⟩ (.bool sv)) q = some ⟨zID,A1,l.length,c1,Af,nf,cf,sv,T⟩:=Cod.bxd_set p15 34 (.bool sv) _ (sePl_Safe _ _)
      have g16:=Cod.set_fr (w14.setCell ⟨q,33,none⟩ (.slice Af nf cf)) q 34 (.bool sv)
      have f34:=f13.step0 f14
      have F16:=((F12.step0 f34).step1 g15 HPQ.out.2).step1 g16 HPQ.out.2
      have o16:=own_box (Cod.bxd_blk p15) (own_box (Cod.bxd_blk p14) (own_new0 o12 f34) (by decide) g15) (by decide) g16
      have pl16:=Cod.bxd_fr (Cod.bxd_fr (Cod.bxd_fr0 pl12 f34) g15 HPQ.out.1) g16 HPQ.out.1
      have sa16:=sl_pl (sl_pl (HSA.out.fr0 f34) p14 g15) p15 g16
      have n14:NoHS (oneB q) w14:=NoHS.blk (Cod.bxd_blk p14) (by decide) (by decide)
      have n15:NoHS (oneB q) (w14.setCell ⟨q,33,none⟩ (.slice Af nf cf)):=NoHS.blk (Cod.bxd_blk p15) (by decide) (by decide)
      have aa16:AllO OpIn ((w14.setCell ⟨q,33,none⟩ (.slice Af nf cf)).setCell ⟨q,34,none⟩ (.bool sv)) rsa2 all:=⟨HAA.out.1,fun i h h'=>((((HAA.out.2 i h h').op.fr f34 (NoHS.nob _)).fr g15 n14).fr g16 n15).inn⟩
      have hr16:sv = true → RowsW ((w14.setCell ⟨q,33,none⟩ (.slice Af nf cf)).setCell ⟨q,34,none⟩ (.bool sv)) Af nf cf all:=fun h=>((hrw h).pl p14 g15).pl p15 g16
      have us:=(plAt (Cod.bxd_rd p16)).safe
      have HPL:=Lib.hid (show PlanP L a b zID l all sv T from ⟨fun h=>(by rw [HAB.out] at h;cases h),fun _ h=>(by rw [HBA.out] at h;cases h),fun _ _=>⟨rfl,HBS.out.2.1,HBS.out.1,HPA.out,⟨bo,pb,hsv⟩,fun x y hx hy=>by
       rw [HTS.out.1.2.2.2] at hx
       rw [HTS.out.2.2.2.2] at hy
       injection hx with hx
       injection hy with hy
       rw [← hx,← hy]
       exact HT.out⟩⟩)
      clear g15 g16 f13 f14 f34 p14 p15 u14 z14 u15 z15 n14 n15 hrw hsv pb blb sb ab CF CO2 u32 HSA HAA F12 o12 pl12 p12
      simp only at us
      generalize (w14.setCell ⟨q,33,none⟩ (.slice Af nf cf)).setCell ⟨q,34,none⟩ (.bool sv) = W16 at p16 F16 o16 pl16 sa16 aa16 hr16 us ⊢
      cases sv with
      | true =>
       have ld:=Cod.bxd_rd p16
       have hst:=okPl.stR_box pl16 ⟨zID,A1,l.length,c1,Af,nf,cf,true,T⟩
       obtain ⟨p1,p2,p3⟩:=Cod.put_fr pl16 ⟨zID,A1,l.length,c1,Af,nf,cf,true,T⟩
       go_wp2_with fail
       refine bodyPost_ret (ret_row_tmp okPl rfl _ _ (P + 2) _ (by rfl) p3) rfl ?_
       exact ⟨_,by rw [HM0.out];rfl,F16.step1 p1 (by have:=HP.out;omega),fun h=>absurd HM0.out h,fun _=>⟨l,all,HPL.out,rfl,Sl.own (own_box (Cod.bxd_blk pl16) o16 (by decide) p1),HBS.out.2.2,HBL.out,((hr16 (by trivial)).pl pl16 p1).s⟩⟩
      | false =>
       have CT:=Lib.hid (mgTree_any W16 Aa cAa _ rsa2 all rfl sa16 aa16 (HPA.out.good HK.out) HPA.out.srt (by have:=HBL.out;omega))
       clear hr16 sa16 aa16
       go_upto_region 16 with (first
        | (go_at_call 48;refine CT.out.mono ?_;rintro e w17 ⟨b2,t2,rfl,g17,f17⟩)
        | (go_at_call 49;refine (gvRows_any g17 (by have:=HBL.out;omega)).mono ?_;rintro e w18 hr18;obtain ⟨A18,n18,c18,rfl,r18,f18⟩:=hr18.u;have p18:=Cod.bxd_fr0 p16 (f17.step0 f18);have u18:=(plAt (Cod.bxd_rd p18)).rows;have z18:=(Cod.bxd_blk p18).frozen 33))
       have g19:=Cod.set_fr w18 q 33 (.slice A18 n18 c18)
       have p19:codPl.bxd (w18.setCell ⟨q,33,none⟩ (.slice A18 n18 c18)) q = some ⟨zID,A1,l.length,c1,A18,n18,c18,false,T⟩:=Cod.bxd_set p18 33 (.slice A18 n18 c18) _ (sePl_Rows _ _ _ _)
       have r19:=r18.pl p18 g19
       have f78:=f17.step0 f18
       have F19:=(F16.step0 f78).step1 g19 HPQ.out.2
       have o19:=own_box (Cod.bxd_blk p18) (own_new0 o16 f78) (by decide) g19
       have pl19:=Cod.bxd_fr (Cod.bxd_fr0 pl16 f78) g19 HPQ.out.1
       clear g19 p18 u18 z18 r18 f17 f18 f78 g17 CT p16 F16 o16 pl16 us
       generalize w18.setCell ⟨q,33,none⟩ (.slice A18 n18 c18) = W19 at p19 r19 F19 o19 pl19 ⊢
       have ld:=Cod.bxd_rd p19
       have hst:=okPl.stR_box pl19 ⟨zID,A1,l.length,c1,A18,n18,c18,false,T⟩
       obtain ⟨p1,p2,p3⟩:=Cod.put_fr pl19 ⟨zID,A1,l.length,c1,A18,n18,c18,false,T⟩
       go_wp2_with fail
       refine bodyPost_ret (ret_row_tmp okPl rfl _ _ (P + 2) _ (by rfl) p3) rfl ?_
       exact ⟨_,by rw [HM0.out];rfl,F19.step1 p1 (by have:=HP.out;omega),fun h=>absurd HM0.out h,fun _=>⟨l,all,HPL.out,rfl,Sl.own (own_box (Cod.bxd_blk pl19) o19 (by decide) p1),HBS.out.2.2,HBL.out,(r19.pl pl19 p1).s⟩⟩
end Go.Proofs.YtjpieiccpbcabaaGreat
