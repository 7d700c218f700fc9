/- Contract: grove's Insert. (ex_ldS_at, ex_ldD_at, ex_ldO_at) -/
import Derived.Test.YtjpieiccpbcabaaGreatGvKKu
set_option linter.unusedVariables false
set_option linter.unusedSimpArgs false
namespace Go.Proofs.YtjpieiccpbcabaaGreat
open Go.RowKit Go.Shelf
attribute [local go_sem] Oper.semAt_some
attribute [local simp ↓] sem_ld sem_st sem_al
def InsP (L:List Opn) (o:Opn) (u:Int) (E:Int) (L':List Opn) (u':Int):Prop :=
 (goodOp o = false ∧ E = 1 ∧ L' = L ∧ u' = u) ∨
 (goodOp o = true ∧ ∃ p ∈ L,p.At = o.At ∧ ((p = o ∧ E = 0 ∧ L' = L ∧ u' = 0) ∨ (p ≠ o ∧ E = 5 ∧ L' = L ∧ u' = u))) ∨
 (goodOp o = true ∧ E = 0 ∧ ∃ L1 L2,L = L1 ++ L2 ∧ L' = L1 ++ o :: L2 ∧ (∀ p ∈ L1,cmpS p.At o.At < 0) ∧ (∀ p ∈ L2,cmpS o.At p.At < 0) ∧ u' = (L2.length:Int))
def InTo (base:Nat) (w:World) (b:Nat) (t:TrW) (L:List Opn) (o:Opn) (e:Ending) (w':World):Prop :=
 ∃ (E:Int) (t':TrW) (L':List Opn),e = .returned (.int .i64 E) ∧ GvS base w' b t' L' ∧ t'.m = t.m ∧ (t'.A.map (·.block) = t.A.map (·.block) ∨ ∀ g,t'.A.map (·.block) = some g → w.heap.size ≤ g) ∧ Fr (trM b t) w w' ∧ InsP L o t.u E L' t'.u
def pAt (L:List Opn) (s:St) (i:Nat):Bool:=if h:i < L.length then decide (0 ≤ cmpS L[i].At s) else true
theorem pAt_mono {L:List Opn} (hs:SrtL L) (s:St):∀ i j,i ≤ j → pAt L s i = true → pAt L s j = true:=by
 intro i j hij h
 unfold pAt at h ⊢
 by_cases hj:j < L.length
 ·rw [dif_pos hj,decide_eq_true_eq]
  rw [dif_pos (by omega),decide_eq_true_eq] at h
  by_cases e:i = j
  ·subst e;exact h
  ·have:=List.pairwise_iff_getElem.1 hs i j (by omega) hj (by omega)
   rcases Int.lt_or_le (cmpS L[j].At s) 0 with h1 | h1
   ·have:=cmpS_trans this h1
    omega
   ·exact h1
 ·rw [dif_neg hj]
theorem logX_op (xs:List RwP) (L:List Opn) (i:Nat) (h:i < L.length):((logX xs L)[i]'(by rw [logX_len];exact h)).op = L[i]:=by
 rw [logX_get xs L i h];rfl
def InLoop (base:Nat) (W8:World) (b:Nat) (t:TrW) (L1 L2:List Opn) (o:Opn) (gk:Nat) (iv:Value) (wr:World):Prop :=
 ∃ (i:Nat) (ti:TrW),iv = .int .i64 (i:Int) ∧ gk = L2.length - i ∧ i ≤ L2.length ∧ GvW base wr b ti (runX [] (L1 ++ o :: L2.take i)) (logX [] (L1 ++ o :: L2.take i)) ∧ ti.m = t.m ∧
  (ti.A.map (·.block) = t.A.map (·.block) ∨ ∀ g,ti.A.map (·.block) = some g → W8.heap.size ≤ g) ∧ Fr (trM b t) W8 wr
theorem goodOp_over {o:Opn} (h:goodOp o = true):o.Over.length ≤ 64:=by
 obtain ⟨_,_,hk | hk⟩:=goodOp_at h
 ·rw [(goodOp_move h hk).2.2.2];simp
 ·unfold goodOp at h
  simp only [Bool.and_eq_true] at h
  have:=h.2
  rw [if_neg (by omega),if_pos hk] at this
  unfold editOk at this
  simp only [Bool.and_eq_true,decide_eq_true_eq] at this
  omega
set_option maxRecDepth 100000 in
set_option maxHeartbeats 8000000 in
theorem gvInsertX_any (base:Nat) (w:World) (b:Nat) (t:TrW) (L:List Opn) (hS:GvS base w b t L) (hsrt:SrtL L) (hL:L.length ≤ 100000) (r:OpW) (o:Opn) (ho:OpIn w r o) :
  Calls Tryz.prog 82 #[.pointer (some ⟨b,0,none⟩),.agg (codO.A r)] w (InTo base w b t L o):=by
 have f0:Fr noB w ((w.alloc (.cells #[.pointer (some ⟨b,0,none⟩)] 112)).alloc (.cells (codO.A r) 83)):=((Fr.refl noB w).alloc _).alloc _
 have hz:(w.alloc (.cells #[.pointer (some ⟨b,0,none⟩)] 112)).heap.size = w.heap.size + 1:=by simp
 have bO:codO.bxd ((w.alloc (.cells #[.pointer (some ⟨b,0,none⟩)] 112)).alloc (.cells (codO.A r) 83)) (w.alloc (.cells #[.pointer (some ⟨b,0,none⟩)] 112)).heap.size = some r:=Cod.bxd_box (C:=codO) (w.alloc (.cells #[.pointer (some ⟨b,0,none⟩)] 112)) r
 rw [hz] at bO
 have tb:((w.alloc (.cells #[.pointer (some ⟨b,0,none⟩)] 112)).alloc (.cells (codO.A r) 83)).cell? ⟨w.heap.size,0,none⟩ = some (.pointer (some ⟨b,0,none⟩)):=by
  have h:=(Blk.new w 112 [.pointer (some ⟨b,0,none⟩)]).cell 0
  exact cell_fr0 h ((Fr.refl noB _).alloc (.cells (codO.A r) 83))
 have HG:=Lib.hid (sgood_any _ r o (ho.fr f0))
 have lg:=(hS.tr.fr0 f0).log
 have hb0:=Blk.lt hS.tr
 have hm0:=hS.rows
 have HS:=Lib.hid hS
 have HSRT:=Lib.hid hsrt
 have HO:=Lib.hid ho
 have HN:=Lib.hid hS.len
 clear hsrt hm0
 refine callsM Tryz.func82 rfl ?_
 simp only [Tryz.ntmps82,List.size_toArray,List.length_cons,List.length_nil,Nat.reduceAdd,Nat.reduceSub,Array.replicate_succ,Array.replicate_zero,List.push_toArray,List.append_toArray,List.nil_append,List.cons_append]
 go_upto_region 1 with fail
 generalize (w.alloc (.cells #[.pointer (some ⟨b,0,none⟩)] 112)).alloc (.cells (codO.A r) 83) = W0 at f0 bO tb HG lg ⊢
 obtain ⟨TB,hTB⟩:∃ x,x = w.heap.size:=⟨_,rfl⟩
 obtain ⟨O,hOO⟩:∃ x,x = w.heap.size + 1:=⟨_,rfl⟩
 rw [← hTB] at tb ⊢
 rw [← hOO] at bO
 have eTO:TB + 1 = O:=by omega
 rw [eTO]
 have HTO:=Lib.hid (show w.heap.size ≤ TB ∧ TB < O ∧ b < w.heap.size from ⟨by omega,by omega,hb0⟩)
 clear hz hTB hOO eTO hb0
 have rO:=Cod.bxd_rd bO
 cases hg:goodOp o with
 | false =>
  rw [hg] at HG
  have HGD:=Lib.hid hg
  clear hg
  go_wp2_with (go_at_call 105;refine HG.out.mono ?_;rintro e w1 ⟨rfl,f1⟩)
  refine leaveM0 rfl (results_tmp rfl _ _ _) ?_
  have g:=f0.step0 f1
  exact ⟨1,t,L,rfl,HS.out.fr0 g,rfl,.inl rfl,(Fr.refl _ w).step0 g,.inl ⟨HGD.out,rfl,rfl,rfl⟩⟩
 | true =>
  rw [hg] at HG
  have HGD:=Lib.hid hg
  have hov:o.Over.length ≤ 1000000:=by have:=goodOp_over hg;omega
  clear hg
  -- the search
  obtain ⟨ds,hdn,hdo,hda⟩:=hS.log
  have hdL:ds.length = L.length:=by rw [hda.1,logX_len]
  have hop:∀ i (h:i < L.length) (h':i < ds.length),ds[i].op.At = L[i].At:=fun i h h'=>by
   have h1:=(hda.2 i (by rw [hdL];exact h) (by rw [logX_len];exact h)).op.inn.eq
   rw [logX_op [] L i h] at h1
   rw [h1];rfl
  have eA:o.At = r.At:=by rw [ho.eq];rfl
  have hoAt:codS.rd W0 O 1 = some r.At:=(opAt rO).At
  have HSR:=Lib.hid (fun w' (f:Fr noB W0 w')=>srchIns_any w' L.length (by omega) (.pointer (some ⟨TB,0,none⟩)) (.pointer (some ⟨O,0,none⟩)) (pAt L r.At) (pAt_mono HSRT.out r.At) (fun w'' f' i hi=>by
   have ff:=f.step0 f'
   have h:=gvInsert1_any w'' TB b O t (cell_fr0 tb ff) (hS.tr.fr0 (f0.step0 ff)) ds hdn ((Sl.own hdo).fr0 (f0.step0 ff)) r.At (Cod.rd_fr0 hoAt ff) i (by rw [hdL];exact hi)
   rw [hop i hi (by rw [hdL];exact hi)] at h
   unfold pAt
   rw [dif_pos hi]
   exact h))
  rw [HN.out] at lg
  have HD:=Lib.hid (And.intro hdn (And.intro hdo (And.intro hda (And.intro hdL hop))))
  have HEA:=Lib.hid eA
  clear hdn hdo hda hdL hop eA hS
  go_upto_region 4 with (first
   | (go_at_call 105;refine HG.out.mono ?_;rintro e w1 ⟨rfl,f1⟩;replace tb:=cell_fr0 tb f1;replace lg:=cell_fr0 lg f1)
   | (go_at_call 106;refine (HSR.out _ f1).mono ?_;rintro e w2 ⟨at_,rfl,hat,f2⟩))
  have F:=(f0.step0 f1).step0 f2
  replace tb:=cell_fr0 tb f2
  replace lg:=cell_fr0 lg f2
  have bO2:=Cod.bxd_fr0 (Cod.bxd_fr0 bO f1) f2
  have rO2:=Cod.bxd_rd bO2
  have oAt:=(opAt rO2).At
  have HAT:=Lib.hid hat
  have hatl:at_ ≤ L.length:=hat.le
  have HLL:=Lib.hid hL
  clear f0 f1 f2 bO HSR HG hat rO hoAt hL
  have hk:∀ w' w'':World,Fr noB w' w'' → (w'.cell? ⟨TB,0,none⟩ = some (.pointer (some ⟨b,0,none⟩)) ∧ w'.cell? ⟨b,1,none⟩ = some (.slice t.A L.length t.c)) → (w''.cell? ⟨TB,0,none⟩ = some (.pointer (some ⟨b,0,none⟩)) ∧ w''.cell? ⟨b,1,none⟩ = some (.slice t.A L.length t.c)):=fun w' w'' f h=>⟨cell_fr0 h.1 f,cell_fr0 h.2 f⟩
  have fd2:Fr noB w2 w2.drew:=(Fr.refl noB w2).drew
  by_cases hlt:at_ < L.length
  ·obtain ⟨hdn,hdo,hda,hdL,hop⟩:=HD.out
   have i1:(at_:Int) < (L.length:Int):=by omega
   have i1':at_ < L.length:=hlt
   have i0:(0:Int) ≤ (at_:Int):=by omega
   have hsl:=(Sl.own hdo).fr0 F
   generalize hA:t.A = A at lg hsl
   obtain ⟨g,off,rfl,hgg⟩:=hsl.adC (by omega)
   have e0:codD.rd w2 g (off + at_ * 51) = some (ds[at_]'(by omega)):=hsl.rd at_ (by omega)
   have e1:=(dnAt e0).At
   have e2:=(dnAt e0).op
   have hpA:=hop at_ hlt (by omega)
   have hdO:=(hda.2 at_ (by omega) (by rw [logX_len];exact hlt)).op.inn.fr F
   have hdO':OpIn w2 (ds[at_]'(by omega)).op L[at_]:=by
    have h:=hdO
    rw [logX_op [] L at_ hlt] at h
    exact h
   generalize (ds[at_]'(by omega)).op = dr at e1 e2 hpA hdO'
   have HA:=Lib.hid hA
   have HP:=Lib.hid (And.intro hpA (And.intro hdO' (List.getElem_mem hlt)))
   have HPE:=Lib.hid (fun h:dr.At ≠ r.At=>show ∀ p ∈ L,p.At ≠ o.At from fun p hp e=>by
    obtain ⟨j,hj,rfl⟩:=List.getElem_of_mem hp
    rw [HEA.out] at e
    rcases Nat.lt_trichotomy j at_ with h1 | h1 | h1
    ·have:=HAT.out.lo j h1
     unfold pAt at this
     rw [dif_pos hj,decide_eq_false_iff_not,e,cmpS_self] at this
     omega
    ·subst h1
     exact h (hpA.trans e)
    ·have h2:=HAT.out.hi at_ (Nat.le_refl _) hlt
     unfold pAt at h2
     rw [dif_pos hlt,decide_eq_true_eq] at h2
     have h3:=List.pairwise_iff_getElem.1 HSRT.out at_ j hlt hj h1
     rw [e] at h3
     omega)
   clear hdn hdo hda hdL hop hsl e0 hpA hdO hdO' hA
   have hk2:∀ w' w'':World,Fr noB w' w'' → (w'.cell? ⟨TB,0,none⟩ = some (.pointer (some ⟨b,0,none⟩)) ∧ w'.cell? ⟨b,1,none⟩ = some (.slice (some ⟨g,off,none⟩) L.length t.c) ∧ codS.rd w' g (off + at_ * 51 + 1) = some dr.At ∧ codS.rd w' O 1 = some r.At) → (w''.cell? ⟨TB,0,none⟩ = some (.pointer (some ⟨b,0,none⟩)) ∧ w''.cell? ⟨b,1,none⟩ = some (.slice (some ⟨g,off,none⟩) L.length t.c) ∧ codS.rd w'' g (off + at_ * 51 + 1) = some dr.At ∧ codS.rd w'' O 1 = some r.At):=fun w' w'' f h=>⟨cell_fr0 h.1 f,cell_fr0 h.2.1 f,Cod.rd_fr0 h.2.2.1 f,Cod.rd_fr0 h.2.2.2 f⟩
   by_cases heq:dr.At = r.At
   ·have d1:decide (dr.At = r.At) = true:=by simp [heq]
    have HEQ:=Lib.hid heq
    clear heq
    refine wp_region_M 20 21 [⟨2097152,32,0⟩,⟨4194304,4,0⟩,⟨8388608,4194304,2⟩,⟨16777216,8388608,4⟩,⟨33554432,16777216,8⟩,⟨67108864,33554432,16⟩,⟨134217728,69206016,33⟩,⟨268435456,134217728,64⟩,⟨536870912,268435460,128⟩,⟨1073741824,805306368,384⟩,⟨2147483648,1342177280,640⟩,⟨4294967296,2415919104,1152⟩,⟨8589934592,268435488,128⟩,⟨17179869184,13153337344,6272⟩,⟨34359738368,17448304640,8320⟩,⟨68719476736,34628173824,16512⟩,⟨137438953472,68987912192,32896⟩,⟨274877906944,268435464,128⟩,⟨549755813888,275146342400,131200⟩,⟨1099511627776,687463202816,327808⟩,⟨2199023255552,1099780063232,524416⟩] [(true,0),(true,1),(true,2),(true,3),(true,4),(true,5),(true,6),(true,7),(true,8),(true,9),(true,10),(true,11),(true,12),(true,13),(true,14),(true,15),(true,16),(true,17),(true,18),(true,19)] (fun w'=>w'.cell? ⟨TB,0,none⟩ = some (.pointer (some ⟨b,0,none⟩)) ∧ w'.cell? ⟨b,1,none⟩ = some (.slice (some ⟨g,off,none⟩) L.length t.c) ∧ codS.rd w' g (off + at_ * 51 + 1) = some dr.At ∧ codS.rd w' O 1 = some r.At) (by kernel_rfl) rfl (by kernel_rfl) (by kernel_rfl) (by kernel_rfl) (hk2 _ _ fd2 ⟨tb,lg,e1,oAt⟩) (fun hA hF=>?_)
    iterate 20
     refine wpAnyS_take (v:=?_) hA rfl (fun _ _ _ h=>h) (Or.inl ⟨by rfl,?_⟩) hF (fun hA=>?_)
     rotate_left
     ·intro wS hSw;(try dsimp only at hSw);obtain ⟨s1,s2,s3,s4⟩:=hSw;first | (apply Eq.trans;apply ex_ldO_at;exact rfl;exact rfl;assumption;with_reducible rfl) | (apply Eq.trans;apply ex_ldS_at;exact rfl;exact rfl;assumption;with_reducible rfl) | (go_simp;try with_reducible rfl)
     try simp only [sA1,sA2,sA3,Act.put,sA4,sA5,sA6]
    refine wpAnyS_end hA rfl ?_
    simp only [List.drop_succ_cons,List.drop_zero]
    clear hF hk2 hk
    go_upto_region 5 with fail
    have F3:=F.step0 fd2
    have tb3:=cell_fr0 tb fd2
    have lg3:=cell_fr0 lg fd2
    have e23:=Cod.rd_fr0 e2 fd2
    have rO3:=Cod.rd_fr0 rO2 fd2
    have P1:=Lib.hid (HP.out.2.1.fr fd2)
    have P2:=Lib.hid (HO.out.fr F3)
    generalize w2.drew = W3 at F3 tb3 lg3 e23 rO3 P1 P2 ⊢
    have hk3:∀ w' w'':World,Fr noB w' w'' → (w'.cell? ⟨TB,0,none⟩ = some (.pointer (some ⟨b,0,none⟩)) ∧ w'.cell? ⟨b,1,none⟩ = some (.slice (some ⟨g,off,none⟩) L.length t.c) ∧ codO.rd w' g (off + at_ * 51) = some dr ∧ codO.rd w' O 0 = some r) → (w''.cell? ⟨TB,0,none⟩ = some (.pointer (some ⟨b,0,none⟩)) ∧ w''.cell? ⟨b,1,none⟩ = some (.slice (some ⟨g,off,none⟩) L.length t.c) ∧ codO.rd w'' g (off + at_ * 51) = some dr ∧ codO.rd w'' O 0 = some r):=fun w' w'' f h=>⟨cell_fr0 h.1 f,cell_fr0 h.2.1 f,Cod.rd_fr0 h.2.2.1 f,Cod.rd_fr0 h.2.2.2 f⟩
    have fd3:Fr noB W3 W3.drew:=(Fr.refl noB W3).drew
    refine wp_region_M 10 11 [⟨4398046511104,4,0⟩,⟨8796093022208,4398046511104,1⟩,⟨17592186044416,8796093022208,2⟩,⟨35184372088832,17592186044416,4⟩,⟨70368744177664,32,0⟩,⟨140737488355328,105553116266496,24⟩,⟨281474976710656,140737488355328,32⟩,⟨562949953421312,281474976710656,64⟩,⟨1125899906842624,8,0⟩,⟨2251799813685248,1688849860263936,384⟩,⟨4503599627370496,2251799813685248,512⟩] [(true,0),(true,1),(true,2),(true,3),(true,4),(true,5),(true,6),(true,7),(true,8),(false,9)] (fun w'=>w'.cell? ⟨TB,0,none⟩ = some (.pointer (some ⟨b,0,none⟩)) ∧ w'.cell? ⟨b,1,none⟩ = some (.slice (some ⟨g,off,none⟩) L.length t.c) ∧ codO.rd w' g (off + at_ * 51) = some dr ∧ codO.rd w' O 0 = some r) (by kernel_rfl) rfl (by kernel_rfl) (by kernel_rfl) (by kernel_rfl) (hk3 _ _ fd3 ⟨tb3,lg3,e23,rO3⟩) (fun hA hF=>?_)
    iterate 9
     refine wpAnyS_take (v:=?_) hA rfl (fun _ _ _ h=>h) (Or.inl ⟨by rfl,?_⟩) hF (fun hA=>?_)
     rotate_left
     ·intro wS hSw;(try dsimp only at hSw);obtain ⟨s1,s2,s3,s4⟩:=hSw;first | (apply Eq.trans;apply ex_ldO_at;exact rfl;exact rfl;assumption;with_reducible rfl) | (apply Eq.trans;apply ex_ldS_at;exact rfl;exact rfl;assumption;with_reducible rfl) | (go_simp;try with_reducible rfl)
     try simp only [sA1,sA2,sA3,Act.put,sA4,sA5,sA6]
    refine wpAnyS_one hA rfl (fun K' hK=>?_)
    go_simp
    go_at_call 68
    refine (sSame_any _ dr r L[at_] o (P1.out.fr fd3) (P2.out.fr fd3)).mono ?_
    rintro e w4 ⟨rfl,f4⟩
    replace hF:=hk3 _ _ f4 hF
    refine hK.out _ _ hF (fun hA=>?_)
    clear hK K'
    as_aux_lemma =>
    refine wpAnyS_end hA rfl ?_
    simp only [List.drop_succ_cons,List.drop_zero]
    clear hF hk3
    have F4:=(F3.step0 fd3).step0 f4
    have tb4:=cell_fr0 (cell_fr0 tb3 fd3) f4
    have hS4:=HS.out.fr0 F4
    clear tb3 lg3 e23 rO3 fd3 f4 F3 P1 P2
    cases hsm:sameO L[at_] o with
    | false =>
     have HSM:=Lib.hid hsm
     clear hsm
     go_wp2_with fail
     refine leaveM0 rfl (results_tmp rfl _ _ _) ?_
     exact ⟨5,t,L,rfl,hS4,rfl,.inl rfl,(Fr.refl _ w).step0 F4,.inr (.inl ⟨HGD.out,L[at_],HP.out.2.2,by rw [HP.out.1.symm,HEQ.out,HEA.out],.inr ⟨fun h=>by rw [sameO_iff.2 h] at HSM;exact absurd HSM.out (by simp),rfl,rfl,rfl⟩⟩)⟩
    | true =>
     have HSM:=Lib.hid hsm
     clear hsm
     have c4:=hS4.tr.u
     have z4:=hS4.tr.frozen 2
     have HS4:=Lib.hid hS4
     clear hS4
     go_wp2_with fail
     obtain ⟨hU,fU⟩:=HS4.out.wk.setU 0
     refine leaveM0 rfl (results_tmp rfl _ _ _) ?_
     exact ⟨0,{ t with u:=0 },L,rfl,hU.tree HS4.out.ok,rfl,.inl rfl,((Fr.refl (trM b t) w).step0 F4).trans fU (fun q _ e=>.inl e),.inr (.inl ⟨HGD.out,L[at_],HP.out.2.2,by rw [HP.out.1.symm,HEQ.out,HEA.out],.inl ⟨sameO_iff.1 HSM.out,rfl,rfl,rfl⟩⟩)⟩
   ·have d1:decide (dr.At = r.At) = false:=by simp [heq]
    have HNE:=Lib.hid (HPE.out heq)
    clear heq HPE
    refine wp_region_M 20 21 [⟨2097152,32,0⟩,⟨4194304,4,0⟩,⟨8388608,4194304,2⟩,⟨16777216,8388608,4⟩,⟨33554432,16777216,8⟩,⟨67108864,33554432,16⟩,⟨134217728,69206016,33⟩,⟨268435456,134217728,64⟩,⟨536870912,268435460,128⟩,⟨1073741824,805306368,384⟩,⟨2147483648,1342177280,640⟩,⟨4294967296,2415919104,1152⟩,⟨8589934592,268435488,128⟩,⟨17179869184,13153337344,6272⟩,⟨34359738368,17448304640,8320⟩,⟨68719476736,34628173824,16512⟩,⟨137438953472,68987912192,32896⟩,⟨274877906944,268435464,128⟩,⟨549755813888,275146342400,131200⟩,⟨1099511627776,687463202816,327808⟩,⟨2199023255552,1099780063232,524416⟩] [(true,0),(true,1),(true,2),(true,3),(true,4),(true,5),(true,6),(true,7),(true,8),(true,9),(true,10),(true,11),(true,12),(true,13),(true,14),(true,15),(true,16),(true,17),(true,18),(true,19)] (fun w'=>w'.cell? ⟨TB,0,none⟩ = some (.pointer (some ⟨b,0,none⟩)) ∧ w'.cell? ⟨b,1,none⟩ = some (.slice (some ⟨g,off,none⟩) L.length t.c) ∧ codS.rd w' g (off + at_ * 51 + 1) = some dr.At ∧ codS.rd w' O 1 = some r.At) (by kernel_rfl) rfl (by kernel_rfl) (by kernel_rfl) (by kernel_rfl) (hk2 _ _ fd2 ⟨tb,lg,e1,oAt⟩) (fun hA hF=>?_)
    iterate 20
     refine wpAnyS_take (v:=?_) hA rfl (fun _ _ _ h=>h) (Or.inl ⟨by rfl,?_⟩) hF (fun hA=>?_)
     rotate_left
     ·intro wS hSw;(try dsimp only at hSw);obtain ⟨s1,s2,s3,s4⟩:=hSw;first | (apply Eq.trans;apply ex_ldO_at;exact rfl;exact rfl;assumption;with_reducible rfl) | (apply Eq.trans;apply ex_ldS_at;exact rfl;exact rfl;assumption;with_reducible rfl) | (go_simp;try with_reducible rfl)
     try simp only [sA1,sA2,sA3,Act.put,sA4,sA5,sA6]
    refine wpAnyS_end hA rfl ?_
    simp only [List.drop_succ_cons,List.drop_zero]
    clear hF hk2 hk
    go_upto_region 9 with fail
    rw [← HA.out] at lg
    have F3:=F.step0 fd2
    have hS3:=Lib.hid (HS.out.fr0 F3)
    have tb3:=cell_fr0 tb fd2
    have bO3:=Cod.bxd_fr0 bO2 fd2
    have hO3:=HO.out.fr F3
    generalize w2.drew = W3 at F3 hS3 tb3 bO3 hO3 ⊢
    have u3:=(opAt (Cod.bxd_rd bO3)).over
    have CS:=Lib.hid (fun w' (f:Fr noB W3 w')=>clStamps_any w' r.A r.c o.Over r.n hO3.len (hO3.sl.fr0 f) (by omega))
    clear fd2 tb lg bO2 rO2 oAt F i1
    try clear i0
    go_upto_region 10 with (go_at_call 73;refine (CS.out _ (Fr.refl noB _)).mono ?_;rintro e w4 ⟨A4,c4,rfl,o4,f4,hc4⟩;have u4:=cell_fr0 u3 f4;have z4:=(Cod.bxd_blk (Cod.bxd_fr0 bO3 f4)).frozen 40)
    have bO4:=Cod.bxd_fr0 bO3 f4
    have g5:=Cod.set_fr w4 O 40 (.slice A4 o.Over.length c4)
    have bO5:=Cod.bxd_set bO4 40 (.slice A4 o.Over.length c4) _ (seO_Over _ _ _ _)
    have o5:=own_base (own_box (Cod.bxd_blk bO4) o4 (by decide) g5) (Nat.zero_le _)
    have F5:=(F3.step0 f4).step1 g5 (by have:=HTO.out;omega)
    have tb5:=gcell_fr (cell_fr0 tb3 f4) g5 (by have:=HTO.out;show ¬ TB = O;omega)
    obtain ⟨r5,hr5⟩:∃ q:OpW,q = { r with A:=A4,n:=o.Over.length,c:=c4 }:=⟨_,rfl⟩
    rw [← hr5] at bO5
    have hP5:=Lib.hid (show OpO (w4.setCell ⟨O,40,none⟩ (.slice A4 o.Over.length c4)) r5 o from by
     rw [hr5]
     exact ⟨⟨by rw [hO3.eq];rfl,rfl,Sl.own o5,hO3.bd,hO3.nm⟩,.inr o5⟩)
    clear hr5 hS3 tb3 hO3 u3 CS u4 z4 bO4 g5 o5 f4 o4 hc4 F3 bO3
    generalize w4.setCell ⟨O,40,none⟩ (.slice A4 o.Over.length c4) = W5 at bO5 F5 tb5 hP5 ⊢
    have hS5:=HS.out.fr0 F5
    have lg5:=hS5.tr.log
    rw [HN.out] at lg5
    obtain ⟨ds,hdn,hdo,hda⟩:=hS5.log
    have hdL:ds.length = L.length:=by rw [hda.1,logX_len]
    have hcap:L.length ≤ t.c:=by
     have:=HN.out
     have h1:=own_capV hdo
     omega
    obtain ⟨dl,hdl⟩:∃ l,l = ds.drop at_:=⟨_,rfl⟩
    obtain ⟨N,hN⟩:∃ N,N = L.length - at_:=⟨_,rfl⟩
    have hdlN:dl.length = N:=by rw [hdl,hN,List.length_drop,hdL]
    have CD:=Lib.hid (fun w' (f:Fr noB W5 w')=>clDones_any w' (cutA t.A t.c at_ 51) (t.c - at_) dl N hdlN (by
     rw [hdl]
     exact (dnsCut (Sl.own hdo) (by omega) (by omega)).fr0 f) (by have:=HLL.out;omega))
    have HDL:=Lib.hid (And.intro hdl (And.intro hN (And.intro hdlN hdL)))
    have HDS:=Lib.hid (And.intro hdn (And.intro hdo hda))
    have hcap':(at_:Int) ≤ (t.c:Int):=by omega
    clear hdl hN hdL hdn hdo hda hcap
    have i0:(0:Int) ≤ (at_:Int):=by omega
    have i1:(at_:Int) ≤ (L.length:Int):=by omega
    go_upto_region 11 with (go_at_call 108;rw [← HDL.out.2.1];(refine (CD.out _ (Fr.refl noB _)).mono ?_;rintro e w6 ⟨A6,c6,rfl,o6,f6,hc6⟩))
    have F6:=F5.step0 f6
    have F5z:=F5.size
    have tb6:=cell_fr0 tb5 f6
    have bO6:=Cod.bxd_fr0 bO5 f6
    have hP6:=hP5.out.fr f6 (NoHS.nob _)
    rw [hdlN] at hc6
    clear CD lg5 tb5 bO5 hP5 F5 i0 i1
    go_wp2_with (go_at_call 109;refine (bkDones_any _ _ _ _).mono ?_;rintro e w7 ⟨rfl,rfl⟩)
    have fr7:Fr noB w6 (w6.alloc (.cells #[.slice A6 N c6] 153)):=(Fr.refl noB w6).alloc _
    have cB:(w6.alloc (.cells #[.slice A6 N c6] 153)).cell? ⟨w6.heap.size,0,none⟩ = some (.slice A6 N c6):=(Blk.new w6 153 [.slice A6 N c6]).cell 0
    have hz7:(w6.alloc (.cells #[.slice A6 N c6] 153)).heap.size = w6.heap.size + 1:=by simp
    have F7:=F6.step0 fr7
    have tb7:=cell_fr0 tb6 fr7
    have bO7:=Cod.bxd_fr0 bO6 fr7
    have hP7:=Lib.hid (hP6.fr fr7 (NoHS.nob _))
    have s7:=(Sl.own o6).fr0 fr7
    have hT7:=own_lt o6
    have hz6:=f6.size
    have hzz:=F5z
    have hda7:AllO DnO (w6.alloc (.cells #[.slice A6 N c6] 153)) dl (logX (runX [] (L.take at_)) (L.drop at_)):=by
     rw [← logX_drop [] L at_ hatl,HDL.out.1]
     exact (HDS.out.2.2.drop at_).map fun r x h=>(h.fr f6 (NoHS.nob _)).fr fr7 (NoHS.nob _)
    have hS7:=HS.out.fr0 F7
    clear F5z fr7 tb6 bO6 hP6 o6 f6 hc6 F6 HDS
    obtain ⟨Bs,hBs⟩:∃ k,k = w6.heap.size:=⟨_,rfl⟩
    rw [← hBs] at cB hz7 hT7 hz6 ⊢
    clear hBs
    generalize w6.alloc (.cells #[.slice A6 N c6] 153) = W7 at cB hz7 F7 tb7 bO7 hP7 s7 hda7 hS7 ⊢
    obtain ⟨rs,hm7,hR7⟩:=hS7.rows
    have hml:=mpT_lt (HS.out.rows.choose_spec.1)
    have hOl:=Blk.lt (Cod.bxd_blk bO7)
    have HH:=Lib.hid (And.intro hz7 (And.intro hT7 (And.intro hz6 (And.intro hzz (And.intro hml (And.intro hOl F7.size))))))
    have HR:=Lib.hid hR7
    have HDA:=Lib.hid hda7
    have HS7:=Lib.hid hS7
    have hdlN':=hdlN
    have hly:(logX (runX [] (L.take at_)) (L.drop at_)).length = N:=by rw [← hda7.1];exact hdlN
    clear hdlN hR7 hda7 hS7 hz7 hT7 hz6 hzz hml hOl
    have HLY:=Lib.hid hly
    clear hly
    refine wp_bk (dl:=dl) (N:=N) (m:=t.m) hdlN' (by have:=HDL.out.2.1;have:=HLL.out;omega) (by have:=HH.out;omega) rfl cB (by have:=HH.out;omega) s7 (fun g hg=>by have:=HH.out;have:=this.2.1 g hg;omega) rs hm7 ?_ ?_ ?_
    ·intro l z d W K hK
     simp only [bkA,List.setIfInBounds_toArray,List.set_cons_zero,List.set_cons_succ] at hK ⊢
     gi_wp2
     exact hK
    ·intro l x pre Bx W hBx hk hm' hb' K hK
     have c1:=gcell_fr tb7 hk (by have:=HH.out;have:=HTO.out;rintro (h | h) <;> omega)
     have e1:=Cod.bxd_rd hb'
     have hns:NoHS (fun k=>k = t.m ∨ W7.heap.size ≤ k) W7:=(NoHS.map hm7).or (NoHS.new fun _ h=>h)
     have hda':=HDA.out.2 x.1 (by rw [hdlN'];exact x.2) (by rw [HLY.out];exact x.2)
     have CU:=Lib.hid (gvUndo_any W b t (HS7.out.tr.fr hk (by have:=HH.out;have:=HTO.out;have:=HS7.out.wk.bm;rintro (h | h) <;> omega)) _ _ hm' (undoWs_all hdlN' HLY.out (HDA.out.map fun r x h=>h.fr hk hns) pre (HR.out.map fun r x h=>h.fr hk hns)) _ _ (hda'.fr hk hns) (logX_was _ _ (fun o ho=>HS.out.ok o (List.mem_of_mem_drop ho)) _ _))
     rw [undoWs_snoc] at hK
     generalize dl[x.1] = d at e1 CU hK ⊢
     simp only [bkA,List.setIfInBounds_toArray,List.set_cons_zero,List.set_cons_succ]
     clear hda' hns hm' hb'
     gi_wp2
     refine ⟨trivial,?_⟩
     refine (CallsIn.inRound l (callsIn_wide.2 CU.out)).mono ?_
     rintro e W' ⟨rfl,h1,h2⟩
     gi_wp2
     exact hK _ _ h1 h2
    ·intro D W8 hD hm8 hk8 hdef
     have hns:NoHS (fun k=>k = t.m ∨ W7.heap.size ≤ k) W7:=(NoHS.map hm7).or (NoHS.new fun _ h=>h)
     have hAw:∀ g,t.A.map (·.block) = some g → g ≠ t.m ∧ g < w.heap.size:=fun g hg=>⟨(HS.out.wk.ab hg).2.1,(HS.out.wk.ab hg).2.2.2⟩
     have hnA:∀ g,t.A.map (·.block) = some g → ¬ (g = t.m ∨ W7.heap.size ≤ g):=fun g hg=>by have:=HH.out;have:=hAw g hg;rintro (h | h) <;> omega
     have hnb:¬ (b = t.m ∨ W7.heap.size ≤ b):=by have:=HH.out;have:=HTO.out;have:=HS7.out.wk.bm;rintro (h | h) <;> omega
     have hR8:=undoWs_all hdlN' HLY.out (HDA.out.map fun r x h=>h.fr hk8 hns) (upF N 0) (HR.out.map fun r x h=>h.fr hk8 hns)
     rw [undo_back L at_ hatl HS.out.ok N HLY.out] at hR8
     have tr8:=HS7.out.tr.fr hk8 hnb
     obtain ⟨ds,hdn,hdo,hda⟩:=HS7.out.log
     have hdo8:=own_fr hdo hk8 (fun g hg=>hnA g (by rw [ownBlock_sl'] at hg;exact hg))
     have hda8:AllO DnO W8 ds (logX [] L):=hda.map fun r x h=>h.fr hk8 hns
     have H8:=Lib.hid (show GvW base W8 b t (runX [] (L.take at_)) (logX [] L) from ⟨tr8,HS7.out.bb,HS7.out.mm,⟨_,hm8,hR8⟩,⟨ds,hdn,hdo8,hda8⟩⟩)
     have tb8:=gcell_fr tb7 hk8 (by have:=HH.out;have:=HTO.out;rintro (h | h) <;> omega)
     have bO8:=Cod.bxd_fr bO7 hk8 (by have:=HH.out;have:=HTO.out;rintro (h | h) <;> omega)
     have hP8:=Lib.hid (hP7.out.fr hk8 hns)
     have s8:=Lib.hid (s7.fr hk8 (fun a ha=>by have:=HH.out;have:=this.2.1 a.block (by rw [ha];rfl);rintro (h | h) <;> omega))
     have hda8':=Lib.hid (HDA.out.map fun r x h=>h.fr hk8 hns)
     obtain ⟨rs8,hrs8⟩:∃ l,l = undoWs rs N dl hdlN' (upF N 0):=⟨_,rfl⟩
     rw [← hrs8] at hm8 hR8
     have F8:=(F7.any (M:=trM b t)).trans hk8 (fun q hq h=>h.elim (fun h=>.inr (.inl h)) (fun h=>absurd hq (by have:=HH.out;omega)))
     have lg8:=tr8.log
     rw [HN.out] at lg8
     have rO8:=Cod.bxd_rd bO8
     have HDS:=Lib.hid (And.intro hdn (And.intro hdo8 hda8))
     have hcap:=hcap'
     have hi0:(0:Int) ≤ (at_:Int):=by omega
     have HM8:=Lib.hid (And.intro hm8 hR8)
     clear hns hrs8 hdn hdo hdo8 hda hda8 s7 tb7 bO7 hP7 hR8 HS7 HDA HR cB hm7 hnb hcap'
     go_upto_region 14 with fail
     have hk14:∀ w' w'':World,Fr (oneB t.m) w' w'' → (w'.cell? ⟨TB,0,none⟩ = some (.pointer (some ⟨b,0,none⟩)) ∧ w'.cell? ⟨b,1,none⟩ = some (.slice t.A L.length t.c) ∧ codO.rd w' O 0 = some r5) → (w''.cell? ⟨TB,0,none⟩ = some (.pointer (some ⟨b,0,none⟩)) ∧ w''.cell? ⟨b,1,none⟩ = some (.slice t.A L.length t.c) ∧ codO.rd w'' O 0 = some r5):=fun w' w'' f h=>by
      have h1:=HH.out
      have h2:=HTO.out
      have h3:=HS.out.wk.bm
      exact ⟨gcell_fr h.1 f (by show ¬ TB = t.m;omega),gcell_fr h.2.1 f (by show ¬ b = t.m;omega),Cod.rd_fr h.2.2 f (by show ¬ O = t.m;omega)⟩
     have fd8:Fr noB W8 W8.drew:=(Fr.refl noB W8).drew
     refine wp_region_M 14 15 [⟨18889465931478580854784,4,0⟩,⟨37778931862957161709568,4,0⟩,⟨75557863725914323419136,37778931862957161709568,2⟩,⟨151115727451828646838272,75557863725914323419136,4⟩,⟨302231454903657293676544,151115727451828646838272,8⟩,⟨604462909807314587353088,32,0⟩,⟨1208925819614629174706176,906694364710971881029632,48⟩,⟨2417851639229258349412352,4,0⟩,⟨4835703278458516698824704,8,0⟩,⟨9671406556917033397649408,7253554917687775048237056,384⟩,⟨19342813113834066795298816,9671406556917033397649408,512⟩,⟨38685626227668133590597632,20551738933448695970004992,1600⟩,⟨77371252455336267181195264,18889465931478580854784,4095⟩,⟨154742504910672534362390528,77371252455336267181195264,8191⟩,⟨0,193428131138340667952988160,12287⟩] [(true,0),(true,1),(true,2),(true,3),(true,4),(true,5),(true,6),(true,7),(true,8),(false,9),(false,10),(false,11),(true,12),(true,13)] (fun w'=>w'.cell? ⟨TB,0,none⟩ = some (.pointer (some ⟨b,0,none⟩)) ∧ w'.cell? ⟨b,1,none⟩ = some (.slice t.A L.length t.c) ∧ codO.rd w' O 0 = some r5) (by kernel_rfl) rfl (by kernel_rfl) (by kernel_rfl) (by kernel_rfl) (hk14 _ _ fd8.any ⟨tb8,lg8,rO8⟩) (fun hA hF=>?_)
     iterate 9
      refine wpAnyS_take (v:=?_) hA rfl (fun _ _ _ h=>h) (Or.inl ⟨by rfl,?_⟩) hF (fun hA=>?_)
      rotate_left
      ·intro wS hSw;(try dsimp only at hSw);obtain ⟨s1,s2,s3⟩:=hSw;first | (apply Eq.trans;apply ex_ldO_at;exact rfl;exact rfl;assumption;with_reducible rfl) | (apply Eq.trans;apply ex_ldS_at;exact rfl;exact rfl;assumption;with_reducible rfl) | (go_simp;try with_reducible rfl)
      try simp only [sA1,sA2,sA3,Act.put,sA4,sA5,sA6]
     refine wpAnyS_one hA rfl (fun K' hK=>?_)
     go_simp
     go_at_call 111
     refine (gvDo_any _ b t (H8.out.tr.fr0 fd8) rs8 (runX [] (L.take at_)) (mpT_fr0 HM8.out.1 fd8) (HM8.out.2.map fun r x h=>h.fr fd8 (NoHS.nob _)) (runX_gvt GvT.nil fun o ho=>HS.out.ok o (List.mem_of_mem_take ho)) (fun x hx=>by
      have h1:=runX_heads (L.take at_) [] 0 (by simp) x hx
      have h2:=HLL.out
      rw [List.length_take] at h1
      omega) r5 o (hP8.out.fr fd8 (NoHS.nob _)) HGD.out).mono ?_
     rintro e w9 ⟨d,rfl,hd9,hr9,f9⟩
     replace hF:=hk14 _ _ f9 hF
     refine hK.out _ _ hF (fun hA=>?_)
     clear hK K'
     as_aux_lemma =>
     have fn:Fr noB w9 (w9.alloc (codD.ro [d])):=(Fr.refl noB w9).alloc _
     have sl:=Cod.sl_new (C:=codD) w9 [d]
     refine wpAnyS_one hA rfl (fun K' hK=>?_)
     refine step_runI rfl _ _ (ex_bsD_at (x:=d) rfl rfl) ?_
     replace hF:=hk14 _ _ fn.any hF
     refine hK.out _ _ hF (fun hA=>?_)
     clear hK K'
     as_aux_lemma =>
     have hbz:base ≤ w9.heap.size:=Nat.le_trans (Nat.le_trans HS.out.bb (Nat.le_of_lt HTO.out.2.2)) (Nat.le_trans F8.size (Nat.le_trans fd8.size f9.size))
     obtain ⟨w0,hw0⟩:=ex_world w base
     obtain ⟨hdn,hdo,hda⟩:=HDS.out
     have hpre:OwnC codD w0 (w9.alloc (codD.ro [d])) t.A t.c (ds.take at_):=by
      have h1:W8.ownsRow w0.heap.size 177 51 (.slice t.A ds.length t.c) ds.length (codD.row ds):=by rw [hw0,hdn];exact hdo
      have h2:=own_fr (own_new0 h1 fd8) f9 (fun g hg hm=>(H8.out.ab (by rw [ownBlock_sl'] at hg;exact hg)).2.1 hm)
      exact OwnC.pre (C:=codD) (own_new0 h2 fn) at_ (by rw [hdn,HN.out];exact hatl)
     have hpl:(ds.take at_).length = at_:=by rw [List.length_take,hdn,HN.out];omega
     refine wpAnyS_one hA rfl (fun K' hK=>?_)
     refine step_appC' etD w0 _ rfl _ _ rfl t.A at_ t.c (ds.take at_) rfl hpl hpre (some ⟨w9.heap.size,0,none⟩) 1 1 [d] rfl sl rfl (by have:=HLL.out;rw [hpl];simp;omega) (by rw [hw0];exact Nat.le_trans hbz fn.size) ?_
     intro A10 c10 w10 hc10 hm10 o10 g10 hA10
     obtain ⟨l10,hl10⟩:∃ l,l = ds.take at_ ++ [d]:=⟨_,rfl⟩
     have hll10:l10.length = at_ + 1:=by rw [hl10,List.length_append,hpl];rfl
     rw [← hl10] at o10 hc10 ⊢
     rw [hll10]
     have fg:Fr (fun q=>t.A.map (·.block) = some q) (w9.alloc (codD.ro [d])) w10:=Fr.ofGrown g10 (fun g hg=>hg)
     replace hF:=And.intro (gcell_fr hF.1 fg (fun h=>by have:=hAw _ h;have:=HTO.out;omega)) (And.intro (gcell_fr hF.2.1 fg (fun h=>(H8.out.ab h).1 rfl)) (Cod.rd_fr hF.2.2 fg (fun h=>by have:=hAw _ h;have:=HTO.out;omega)))
     refine hK.out _ _ hF (fun hA=>?_)
     clear hK K'
     as_aux_lemma =>
     iterate 2
      refine wpAnyS_take (v:=?_) hA rfl (fun _ _ _ h=>h) (Or.inl ⟨by rfl,?_⟩) hF (fun hA=>?_)
      rotate_left
      ·intro wS hSw;(try dsimp only at hSw);obtain ⟨s1,s2,s3⟩:=hSw;first | (apply Eq.trans;apply ex_ldO_at;exact rfl;exact rfl;assumption;with_reducible rfl) | (apply Eq.trans;apply ex_ldS_at;exact rfl;exact rfl;assumption;with_reducible rfl) | (go_simp;try with_reducible rfl)
      try simp only [sA1,sA2,sA3,Act.put,sA4,sA5,sA6]
     refine wpAnyS_end hA rfl ?_
     simp only [List.drop_succ_cons,List.drop_zero]
     have tr10:=(((H8.out.tr.fr0 fd8).fr f9 (by have:=H8.out.bm;exact fun e=>this e)).fr0 fn).fr fg (fun h=>(H8.out.ab h).1 rfl)
     have u10:=tr10.log
     have z10:=tr10.frozen 1
     clear hF hk14 fg
     go_upto_region 15 with fail
     obtain ⟨hG,fG⟩:=H8.out.app at_ (by rw [HN.out];exact hatl) ((fd8.any (M:=oneB t.m)).trans f9 (fun _ _ h=>h)) hr9 hd9 fn hda hdo hw0 hl10 hll10 o10 g10 hA10
     have hA11:A10.map (·.block) = t.A.map (·.block) ∨ ∀ g,A10.map (·.block) = some g → W8.heap.size ≤ g:=hA10.imp id (fun h g hg=>by
      rw [h] at hg
      injection hg with hg
      rw [← hg]
      exact Nat.le_trans (Nat.le_trans fd8.size f9.size) fn.size)
     rw [logX_take [] L at_ hatl] at hG
     have e1:doX (runX [] (L.take at_)) o = runX [] (L.take at_ ++ o :: (L.drop at_).take 0):=by rw [runX_app];rfl
     have e2:logX [] (L.take at_) ++ [doD (runX [] (L.take at_)) o] = logX [] (L.take at_ ++ o :: (L.drop at_).take 0):=by rw [logX_app];rfl
     rw [e1,e2] at hG
     clear e1 e2 u10 z10 tr10 o10 g10 hA10 hc10 hm10 hl10 hll10 hpre hpl hd9 hr9 f9 fn sl hbz lg8 rO8 bO8 hdn hdo hda HDS HM8 hm8 hP8 hcap hi0 fd8
     generalize w10.setCell ⟨b,1,none⟩ (.slice A10 (at_ + 1) c10) = W11 at hG fG ⊢
     have hns8:NoHS (trM b t) W8:=by
      obtain ⟨rs,h1,_⟩:=H8.out.rows
      obtain ⟨ds,_,h2,_⟩:=H8.out.log
      have h3:=NoHS.own h2 (by decide) (by decide)
      rw [ownBlock_sl'] at h3
      exact ((NoHS.blk H8.out.tr (by decide) (by decide)).or ((NoHS.map h1).or h3))
     have hnt:∀ q,w.heap.size ≤ q → ¬ trM b t q:=fun q hq=>by
      have h1:=HH.out
      have h2:=HTO.out
      rintro (h | h | h)
      ·omega
      ·omega
      ·have:=hAw q h;omega
     have HK:=Lib.hid (And.intro tb8 (And.intro s8.out (And.intro hda8'.out (And.intro hdef (And.intro hns8 hnt)))))
     have HF8:=Lib.hid F8
     have HBM:=Lib.hid (And.intro H8.out.bm (And.intro H8.out.ml (And.intro hk8.size hD)))
     have hNL:(L.drop at_).length = N:=by rw [List.length_drop];exact HDL.out.2.1.symm
     have HNL:=Lib.hid hNL
     have HAW:=Lib.hid hAw
     have hG0:InLoop base W8 b t (L.take at_) (L.drop at_) o N (.int .i64 ((0:Nat):Int)) W11:=⟨0,_,rfl,by rw [hNL];rfl,Nat.zero_le _,hG,rfl,hA11,fG⟩
     clear tb8 s8 hda8' hdef hns8 hnt F8 hD hk8 H8 hNL hAw hG fG hA11
     go_wp2_with fail
     go_loopg [90] N (fun gk iv wr=>InLoop base W8 b t (L.take at_) (L.drop at_) o gk iv wr)
     case atStart=>exact hG0
     case round =>
      obtain ⟨i,ti,rfl,rfl,hi,hG,htm,htA,hF⟩:=hrel
      rw [HNL.out] at hi
      clear hG0
      have HG:=Lib.hid hG
      have HTM:=Lib.hid htm
      have HTA:=Lib.hid htA
      have tbr:=gcell_fr HK.out.1 hF (HK.out.2.2.2.2.2 _ HTO.out.1)
      have lgr:=hG.tr.log
      have hFr:=hF
      clear hF
      by_cases hlt:i < N
      ·have j0:(0:Int) ≤ (i:Int):=by omega
       have j1:(i:Int) < (N:Int):=by omega
       have hdl6:=HK.out.2.1
       obtain ⟨g,off,rfl,hgg⟩:=hdl6.adC (by rw [hdlN'];omega)
       have e0:codD.rd W8 g (off + i * 51) = some (dl[i]'(by omega)):=hdl6.rd i (by omega)
       have e1:=Cod.rd_fr e0 hFr (HK.out.2.2.2.2.2 _ (by have:=HH.out;have:=this.2.1 g rfl;omega))
       have hdq:=(HK.out.2.2.1.2 i (by omega) (by rw [HLY.out];exact hlt)).fr hFr HK.out.2.2.2.2.1
       have hop:((logX (runX [] (L.take at_)) (L.drop at_))[i]'(by rw [HLY.out];exact hlt)).op = (L.drop at_)[i]'(by rw [HNL.out];exact hlt):=logX_op _ _ i (by rw [HNL.out];exact hlt)
       have hdo:=hdq.op
       rw [hop] at hdo
       generalize (dl[i]'(by omega)) = dq at e1 hdo
       clear e0 hdq hop hdl6 hG htm htA
       go_upto_region 18 with fail
       have f12:Fr noB wr (wr.alloc (codD.o dq)):=(Fr.refl noB wr).alloc _
       have n12:=(dnAt (Cod.bxd_rd (Cod.bxd_new (C:=codD) wr dq))).op
       have hz12:(wr.alloc (codD.o dq)).heap.size = wr.heap.size + 1:=by simp
       obtain ⟨D2,hD2⟩:∃ k,k = wr.heap.size:=⟨_,rfl⟩
       rw [← hD2] at n12 ⊢
       have hG12:=Lib.hid (HG.out.fr0 f12)
       have tb12:=cell_fr0 tbr f12
       have lg12:=cell_fr0 lgr f12
       have hdo12:=Lib.hid (hdo.fr f12 (NoHS.nob _))
       have HD2:=Lib.hid (And.intro hD2 (And.intro HG.out.bm (And.intro HG.out.ml (fun g h=>HG.out.ab (g:=g) h))))
       have F12:=Lib.hid (hFr.step0 f12)
       clear tbr lgr hdo e1 hFr HG hD2 hz12 f12
       generalize wr.alloc (codD.o dq) = W12 at n12 hG12 tb12 lg12 hdo12 F12 ⊢
       have hTB:¬ TB = t.m:=by have:=HH.out;have:=HTO.out;omega
       have hk18:∀ w' w'':World,Fr (oneB ti.m) w' w'' → (w'.cell? ⟨TB,0,none⟩ = some (.pointer (some ⟨b,0,none⟩)) ∧ w'.cell? ⟨b,1,none⟩ = some (.slice ti.A ti.n ti.c) ∧ codO.rd w' D2 0 = some dq.op) → (w''.cell? ⟨TB,0,none⟩ = some (.pointer (some ⟨b,0,none⟩)) ∧ w''.cell? ⟨b,1,none⟩ = some (.slice ti.A ti.n ti.c) ∧ codO.rd w'' D2 0 = some dq.op):=fun w' w'' f h=>by
        have h3:=HD2.out
        exact ⟨gcell_fr h.1 f (by rw [← HTM.out] at hTB;exact hTB),gcell_fr h.2.1 f (fun e=>h3.2.1 e),Cod.rd_fr h.2.2 f (by show ¬ D2 = ti.m;omega)⟩
       have fd12:Fr noB W12 W12.drew:=(Fr.refl noB W12).drew
       obtain ⟨rs12,hm12,hR12⟩:=hG12.out.rows
       have HM12:=Lib.hid (And.intro hm12 hR12)
       have HLT:=Lib.hid hlt
       clear hm12 hR12
       refine wp_region_M 13 14 [⟨19807040628566084398385987584,4,0⟩,⟨39614081257132168796771975168,4,0⟩,⟨79228162514264337593543950336,39614081257132168796771975168,2⟩,⟨158456325028528675187087900672,79228162514264337593543950336,4⟩,⟨316912650057057350374175801344,158456325028528675187087900672,8⟩,⟨633825300114114700748351602688,4,0⟩,⟨1267650600228229401496703205376,1024,0⟩,⟨2535301200456458802993406410752,1267650600228229401496703205376,64⟩,⟨5070602400912917605986812821504,3169126500570573503741758013440,160⟩,⟨10141204801825835211973625643008,5070602400912917605986812821504,256⟩,⟨20282409603651670423947251286016,10458117451882892562347801444352,784⟩,⟨40564819207303340847894502572032,19807040628566084398385987584,2047⟩,⟨81129638414606681695789005144064,40564819207303340847894502572032,4095⟩,⟨0,101412048018258352119736256430080,6143⟩] [(true,0),(true,1),(true,2),(true,3),(true,4),(true,5),(true,6),(true,7),(false,8),(false,9),(false,10),(true,11),(true,12)] (fun w'=>w'.cell? ⟨TB,0,none⟩ = some (.pointer (some ⟨b,0,none⟩)) ∧ w'.cell? ⟨b,1,none⟩ = some (.slice ti.A ti.n ti.c) ∧ codO.rd w' D2 0 = some dq.op) (by kernel_rfl) rfl (by kernel_rfl) (by kernel_rfl) (by kernel_rfl) (hk18 _ _ fd12.any ⟨tb12,lg12,n12⟩) (fun hA hF=>?_)
       iterate 8
        refine wpAnyS_take (v:=?_) hA rfl (fun _ _ _ h=>h) (Or.inl ⟨by rfl,?_⟩) hF (fun hA=>?_)
        rotate_left
        ·intro wS hSw;(try dsimp only at hSw);obtain ⟨s1,s2,s3⟩:=hSw;first | (apply Eq.trans;apply ex_ldO_at;exact rfl;exact rfl;assumption;with_reducible rfl) | (apply Eq.trans;apply ex_ldS_at;exact rfl;exact rfl;assumption;with_reducible rfl) | (go_simp;try with_reducible rfl)
        try simp only [sA1,sA2,sA3,Act.put,sA4,sA5,sA6]
       refine wpAnyS_one hA rfl (fun K' hK=>?_)
       go_simp
       go_at_call 111
       refine (gvDo_any _ b ti (hG12.out.tr.fr0 fd12) rs12 (runX [] (L.take at_ ++ o :: (L.drop at_).take i)) (mpT_fr0 HM12.out.1 fd12) (HM12.out.2.map fun r x h=>h.fr fd12 (NoHS.nob _)) (runX_gvt GvT.nil fun x hx=>by
        rcases List.mem_append.1 hx with h | h
        ·exact HS.out.ok x (List.mem_of_mem_take h)
        ·rcases List.mem_cons.1 h with h | h
         ·rw [h];exact HGD.out
         ·exact HS.out.ok x (List.mem_of_mem_drop (List.mem_of_mem_take h))) (fun x hx=>by
        have h1:=runX_heads (L.take at_ ++ o :: (L.drop at_).take i) [] 0 (by simp) x hx
        have h2:=HLL.out
        simp only [List.length_append,List.length_cons,List.length_take,List.length_drop] at h1
        omega) dq.op ((L.drop at_)[i]'(by rw [HNL.out];exact HLT.out)) (hdo12.out.fr fd12 (NoHS.nob _)) (HS.out.ok _ (List.mem_of_mem_drop (List.getElem_mem _)))).mono ?_
       rintro e w13 ⟨d,rfl,hd13,hr13,f13⟩
       replace hF:=hk18 _ _ f13 hF
       refine hK.out _ _ hF (fun hA=>?_)
       clear hK K'
       as_aux_lemma =>
       have fn:Fr noB w13 (w13.alloc (codD.ro [d])):=(Fr.refl noB w13).alloc _
       have sl:=Cod.sl_new (C:=codD) w13 [d]
       refine wpAnyS_one hA rfl (fun K' hK=>?_)
       refine step_runI rfl _ _ (ex_bsD_at (x:=d) rfl rfl) ?_
       replace hF:=hk18 _ _ fn.any hF
       refine hK.out _ _ hF (fun hA=>?_)
       clear hK K'
       as_aux_lemma =>
       have hbz:base ≤ w13.heap.size:=Nat.le_trans (Nat.le_trans hG12.out.bb (Nat.le_of_lt (Blk.lt hG12.out.tr))) (Nat.le_trans fd12.size f13.size)
       obtain ⟨v0,hv0⟩:=ex_world w base
       obtain ⟨es,hen,heo,hea⟩:=hG12.out.log
       have hpre:OwnC codD v0 (w13.alloc (codD.ro [d])) ti.A ti.c es:=by
        have h1:W12.ownsRow v0.heap.size 177 51 (.slice ti.A es.length ti.c) es.length (codD.row es):=by rw [hv0,hen];exact heo
        have h2:=own_fr (own_new0 h1 fd12) f13 (fun g hg hm=>(HD2.out.2.2.2 g (by rw [ownBlock_sl'] at hg;exact hg)).2.1 hm)
        exact own_new0 h2 fn
       have hel:ti.n ≤ 100001:=by
        have h2:=HLL.out
        rw [← hen,hea.1,logX_len]
        simp only [List.length_append,List.length_cons,List.length_take,List.length_drop]
        omega
       refine wpAnyS_one hA rfl (fun K' hK=>?_)
       refine step_appC' etD v0 _ rfl _ _ rfl ti.A ti.n ti.c es rfl hen hpre (some ⟨w13.heap.size,0,none⟩) 1 1 [d] rfl sl rfl (by rw [hen];simp;omega) (by rw [hv0];exact Nat.le_trans hbz fn.size) ?_
       intro A14 c14 w14 hc14 hm14 o14 g14 hA14
       obtain ⟨l14,hl14⟩:∃ l,l = es.take ti.n ++ [d]:=⟨_,rfl⟩
       have hl14':es ++ [d] = l14:=by rw [hl14,List.take_of_length_le (by omega)]
       have hll14:l14.length = ti.n + 1:=by rw [← hl14',List.length_append,hen];rfl
       rw [hl14'] at o14 hc14 ⊢
       rw [hll14]
       have fg:Fr (fun q=>ti.A.map (·.block) = some q) (w13.alloc (codD.ro [d])) w14:=Fr.ofGrown g14 (fun g hg=>hg)
       have htT:∀ q,trM b t q → ¬ q = TB:=fun q hq e=>HK.out.2.2.2.2.2 q (by have:=HTO.out;omega) hq
       have hTA:¬ ti.A.map (·.block) = some TB:=fun h=>by
        rcases HTA.out with e | e
        ·rw [e] at h
         exact htT TB (.inr (.inr h)) rfl
        ·have h1:=e TB h
         have h2:=Blk.lt (HS.out.tr)
         have h3:=HH.out
         have h4:=HBM.out
         have h5:=HTO.out
         have h6:=World.block_lt_of_cell? _ _ HK.out.1
         simp only at h6
         omega
       replace hF:=And.intro (gcell_fr hF.1 fg hTA) (And.intro (gcell_fr hF.2.1 fg (fun h=>(HD2.out.2.2.2 _ h).1 rfl)) (Cod.rd_fr hF.2.2 fg (fun h=>by have h1:=(HD2.out.2.2.2 _ h).2.2.2;have h2:=HD2.out.1;omega)))
       refine hK.out _ _ hF (fun hA=>?_)
       clear hK K'
       as_aux_lemma =>
       iterate 2
        refine wpAnyS_take (v:=?_) hA rfl (fun _ _ _ h=>h) (Or.inl ⟨by rfl,?_⟩) hF (fun hA=>?_)
        rotate_left
        ·intro wS hSw;(try dsimp only at hSw);obtain ⟨s1,s2,s3⟩:=hSw;first | (apply Eq.trans;apply ex_ldO_at;exact rfl;exact rfl;assumption;with_reducible rfl) | (apply Eq.trans;apply ex_ldS_at;exact rfl;exact rfl;assumption;with_reducible rfl) | (go_simp;try with_reducible rfl)
        try simp only [sA1,sA2,sA3,Act.put,sA4,sA5,sA6]
       refine wpAnyS_end hA rfl ?_
       simp only [List.drop_succ_cons,List.drop_zero]
       have tr14:=(((hG12.out.tr.fr0 fd12).fr f13 (fun e=>HD2.out.2.1 e)).fr0 fn).fr fg (fun h=>(HD2.out.2.2.2 _ h).1 rfl)
       have u14:=tr14.log
       have z14:=tr14.frozen 1
       clear hF hk18 fg
       go_wp2_with fail
       obtain ⟨hG15,f15⟩:=hG12.out.app ti.n (Nat.le_refl _) ((fd12.any (M:=oneB ti.m)).trans f13 (fun _ _ h=>h)) hr13 hd13 fn hea heo hv0 hl14 hll14 o14 g14 hA14
       have hLe:L.take at_ ++ o :: (L.drop at_).take (i + 1) = (L.take at_ ++ o :: (L.drop at_).take i) ++ [(L.drop at_)[i]'(by rw [HNL.out];exact HLT.out)]:=by
        rw [List.take_succ_eq_append_getElem (by rw [HNL.out];exact HLT.out)]
        simp
       have hG16:GvW base (w14.setCell ⟨b,1,none⟩ (.slice A14 (ti.n + 1) c14)) b { ti with A:=A14,n:=ti.n + 1,c:=c14 } (runX [] (L.take at_ ++ o :: (L.drop at_).take (i + 1))) (logX [] (L.take at_ ++ o :: (L.drop at_).take (i + 1))):=by
        rw [hLe,runX_app,logX_app]
        rw [show (logX [] (L.take at_ ++ o :: (L.drop at_).take i)).take ti.n = logX [] (L.take at_ ++ o :: (L.drop at_).take i) from List.take_of_length_le (by rw [← hea.1,hen];exact Nat.le_refl _)] at hG15
        exact hG15
       have hA16:A14.map (·.block) = t.A.map (·.block) ∨ ∀ g,A14.map (·.block) = some g → W8.heap.size ≤ g:=by
        rcases hA14 with h | h
        ·rw [h];exact HTA.out
        ·refine .inr fun g hg=>?_
         rw [h] at hg
         injection hg with hg
         rw [← hg]
         exact Nat.le_trans F12.out.size (Nat.le_trans (Nat.le_trans fd12.size f13.size) fn.size)
       have hF16:Fr (trM b t) W8 (w14.setCell ⟨b,1,none⟩ (.slice A14 (ti.n + 1) c14)):=F12.out.trans f15 (fun q hq h=>by
        rcases h with h | h | h
        ·exact .inl h
        ·exact .inr (.inl (by rw [← HTM.out];exact h))
        ·rcases HTA.out with e | e
         ·rw [e] at h;exact .inr (.inr h)
         ·have:=e q h
          omega)
       have HNX:=Lib.hid (And.intro hG16 (And.intro hA16 hF16))
       clear hG15 f15 hG16 hA16 hF16 hLe u14 z14 tr14 o14 g14 hA14
       have hi9:i ≤ 100000:=by have:=HLL.out;have:=HDL.out.2.1;omega
       go_roundg (N - (i + 1))
       case measure=>have h2:=HLT.out;have h3:=HDL.out.2.1;omega
       case rel=>exact ⟨i + 1,{ ti with A:=A14,n:=ti.n + 1,c:=c14 },congrArg (Value.int .i64) (IntWalk.wrap64_in _ (by omega)),by rw [HNL.out],by rw [HNL.out];exact HLT.out,HNX.out.1,HTM.out,HNX.out.2.1,HNX.out.2.2⟩
      ·have j1:¬ (i:Int) < (N:Int):=by omega
       have HI:=Lib.hid (show i = N by omega)
       have u2:=hG.tr.u
       have z2:=hG.tr.frozen 2
       clear hG htm htA
       go_wp2_with fail
       obtain ⟨hU,fU⟩:=HG.out.setU (N:Int)
       have hFU:=hFr.trans fU (fun q _ e=>show trM b t q from .inl e)
       have hDl:=(Array.getElem?_eq_some_iff.1 HK.out.2.2.2.1).1
       have hDU:=(hFU.block D hDl (HK.out.2.2.2.2.2 _ (by have:=HBM.out;have:=HH.out;omega))).trans HK.out.2.2.2.1
       have hbm:=HBM.out
       have hbh:=HH.out
       have hbt:=HTO.out
       have hDw:w.heap.size ≤ D:=by omega
       have hDn:=HK.out.2.2.2.2.2 D hDw
       have fD:Fr (oneB D) (wr.setCell ⟨b,2,none⟩ (.int .i64 (N:Int))) ((wr.setCell ⟨b,2,none⟩ (.int .i64 (N:Int))).putObj D (.deferred none)):=Fr.ofGrown (grownBy_putObj' _ D _) (fun r e=>by cases e;rfl)
       have nD:NoHS (oneB D) (wr.setCell ⟨b,2,none⟩ (.int .i64 (N:Int))):=fun q hq cs z=>by
        have e:q = D:=hq
        subst e
        rw [hDU]
        exact ⟨fun h=>(by cases h),fun h=>(by cases h)⟩
       have hLL:L.take at_ ++ o :: (L.drop at_).take i = L.take at_ ++ o :: L.drop at_:=by
        rw [show (L.drop at_).take i = L.drop at_ from List.take_of_length_le (by rw [HNL.out,HI.out];exact Nat.le_refl _)]
       rw [hLL] at hU
       have hDb:¬ b = D:=fun e=>hDn (.inl e.symm)
       have hDm:¬ ti.m = D:=fun e=>hDn (.inr (.inl (by rw [← e];exact HTM.out)))
       have hok:∀ x ∈ L.take at_ ++ o :: L.drop at_,goodOp x = true:=fun x hx=>by
        rcases List.mem_append.1 hx with h | h
        ·exact HS.out.ok x (List.mem_of_mem_take h)
        ·rcases List.mem_cons.1 h with h | h
         ·rw [h];exact HGD.out
         ·exact HS.out.ok x (List.mem_of_mem_drop h)
       have hUA:∀ g,ti.A.map (·.block) = some g → ¬ D = g:=fun g hg e=>by
        obtain ⟨ds,_,h2,_⟩:=hU.log
        obtain ⟨_,cur,z,h4⟩:=own_blk (A:=ti.A) h2 hg
        rw [← e,hDU] at h4
        cases h4
       refine leaveM1 rfl hDU (results_tmp rfl _ _ _) ?_
       refine ⟨0,{ ti with u:=(N:Int) },L.take at_ ++ o :: L.drop at_,rfl,((hU.fr fD nD hDb hDm (fun g hg h=>hUA g hg h.symm)).tree hok),HTM.out,?_,?_,.inr (.inr ⟨HGD.out,rfl,L.take at_,L.drop at_,(List.take_append_drop at_ L).symm,rfl,?_,?_,?_⟩)⟩
       ·rcases HTA.out with h | h
        ·exact .inl h
        ·exact .inr fun g hg=>by have:=h g hg;omega
       ·exact (HF8.out.trans hFU (fun q _ e=>e)).step1 fD hDw
       ·intro p hp
        obtain ⟨j,hj,rfl⟩:=List.getElem_of_mem hp
        rw [List.length_take] at hj
        have h1:=HAT.out.lo j (by omega)
        unfold pAt at h1
        rw [dif_pos (by omega),decide_eq_false_iff_not] at h1
        rw [List.getElem_take,HEA.out]
        omega
       ·intro p hp
        obtain ⟨j,hj,rfl⟩:=List.getElem_of_mem hp
        rw [List.length_drop] at hj
        rw [List.getElem_drop]
        have h1:=HAT.out.hi (at_ + j) (by omega) (by omega)
        unfold pAt at h1
        rw [dif_pos (by omega),decide_eq_true_eq] at h1
        have h2:=HNE.out (L[at_ + j]'(by omega)) (List.getElem_mem _)
        rw [HEA.out] at h2 ⊢
        rw [cmpS_flip (L[at_ + j]'(by omega)).At r.At]
        have h3:=mt cmpS_zero.1 h2
        omega
       ·show (N:Int) = ((L.drop at_).length:Int)
        rw [HNL.out]
  ·have hae:at_ = L.length:=by omega
   have i1:¬ (at_:Int) < (L.length:Int):=by omega
   have HNE:=Lib.hid (show ∀ p ∈ L,p.At ≠ o.At from fun p hp e=>by
    obtain ⟨j,hj,rfl⟩:=List.getElem_of_mem hp
    rw [HEA.out] at e
    have:=HAT.out.lo j (by omega)
    unfold pAt at this
    rw [dif_pos hj,decide_eq_false_iff_not,e,cmpS_self] at this
    omega)
   clear hae hlt
   refine wp_region_M 20 21 [⟨2097152,32,0⟩,⟨4194304,4,0⟩,⟨8388608,4194304,2⟩,⟨16777216,8388608,4⟩,⟨33554432,16777216,8⟩,⟨67108864,33554432,16⟩,⟨134217728,69206016,33⟩,⟨268435456,134217728,64⟩,⟨536870912,268435460,128⟩,⟨1073741824,805306368,384⟩,⟨2147483648,1342177280,640⟩,⟨4294967296,2415919104,1152⟩,⟨8589934592,268435488,128⟩,⟨17179869184,13153337344,6272⟩,⟨34359738368,17448304640,8320⟩,⟨68719476736,34628173824,16512⟩,⟨137438953472,68987912192,32896⟩,⟨274877906944,268435464,128⟩,⟨549755813888,275146342400,131200⟩,⟨1099511627776,687463202816,327808⟩,⟨2199023255552,1099780063232,524416⟩] [(true,0),(true,1),(true,2),(true,3),(true,4),(true,5),(true,6),(true,7),(true,8),(true,9),(true,10),(true,11),(true,12),(true,13),(true,14),(true,15),(true,16),(true,17),(true,18),(true,19)] (fun w'=>w'.cell? ⟨TB,0,none⟩ = some (.pointer (some ⟨b,0,none⟩)) ∧ w'.cell? ⟨b,1,none⟩ = some (.slice t.A L.length t.c)) (by kernel_rfl) rfl (by kernel_rfl) (by kernel_rfl) (by kernel_rfl) (hk _ _ fd2 ⟨tb,lg⟩) (fun hA hF=>?_)
   iterate 8
    refine wpAnyS_take (v:=?_) hA rfl (fun _ _ _ h=>h) (Or.inl ⟨by rfl,?_⟩) hF (fun hA=>?_)
    rotate_left
    ·intro wS hSw;(try dsimp only at hSw);obtain ⟨s1,s2⟩:=hSw;first | (apply Eq.trans;apply ex_ldO_at;exact rfl;exact rfl;assumption;with_reducible rfl) | (apply Eq.trans;apply ex_ldS_at;exact rfl;exact rfl;assumption;with_reducible rfl) | (go_simp;try with_reducible rfl)
    try simp only [sA1,sA2,sA3,Act.put,sA4,sA5,sA6]
   iterate 12
    refine wpAnyS_take (v:=undef) hA rfl (fun _ _ _ h=>h) (Or.inr ⟨by rfl,rfl⟩) hF (fun hA=>?_)
    try simp only [sA1,sA2,sA3,Act.put,sA4,sA5,sA6]
   refine wpAnyS_end hA rfl ?_
   simp only [List.drop_succ_cons,List.drop_zero]
   clear hF hk
   go_upto_region 9 with fail
   have F3:=F.step0 fd2
   have hS3:=Lib.hid (HS.out.fr0 F3)
   have tb3:=cell_fr0 tb fd2
   have bO3:=Cod.bxd_fr0 bO2 fd2
   have hO3:=HO.out.fr F3
   generalize w2.drew = W3 at F3 hS3 tb3 bO3 hO3 ⊢
   have u3:=(opAt (Cod.bxd_rd bO3)).over
   have CS:=Lib.hid (fun w' (f:Fr noB W3 w')=>clStamps_any w' r.A r.c o.Over r.n hO3.len (hO3.sl.fr0 f) (by omega))
   clear fd2 tb lg bO2 rO2 oAt F i1
   try clear i0
   go_upto_region 10 with (go_at_call 73;refine (CS.out _ (Fr.refl noB _)).mono ?_;rintro e w4 ⟨A4,c4,rfl,o4,f4,hc4⟩;have u4:=cell_fr0 u3 f4;have z4:=(Cod.bxd_blk (Cod.bxd_fr0 bO3 f4)).frozen 40)
   have bO4:=Cod.bxd_fr0 bO3 f4
   have g5:=Cod.set_fr w4 O 40 (.slice A4 o.Over.length c4)
   have bO5:=Cod.bxd_set bO4 40 (.slice A4 o.Over.length c4) _ (seO_Over _ _ _ _)
   have o5:=own_base (own_box (Cod.bxd_blk bO4) o4 (by decide) g5) (Nat.zero_le _)
   have F5:=(F3.step0 f4).step1 g5 (by have:=HTO.out;omega)
   have tb5:=gcell_fr (cell_fr0 tb3 f4) g5 (by have:=HTO.out;show ¬ TB = O;omega)
   obtain ⟨r5,hr5⟩:∃ q:OpW,q = { r with A:=A4,n:=o.Over.length,c:=c4 }:=⟨_,rfl⟩
   rw [← hr5] at bO5
   have hP5:=Lib.hid (show OpO (w4.setCell ⟨O,40,none⟩ (.slice A4 o.Over.length c4)) r5 o from by
    rw [hr5]
    exact ⟨⟨by rw [hO3.eq];rfl,rfl,Sl.own o5,hO3.bd,hO3.nm⟩,.inr o5⟩)
   clear hr5 hS3 tb3 hO3 u3 CS u4 z4 bO4 g5 o5 f4 o4 hc4 F3 bO3
   generalize w4.setCell ⟨O,40,none⟩ (.slice A4 o.Over.length c4) = W5 at bO5 F5 tb5 hP5 ⊢
   have hS5:=HS.out.fr0 F5
   have lg5:=hS5.tr.log
   rw [HN.out] at lg5
   obtain ⟨ds,hdn,hdo,hda⟩:=hS5.log
   have hdL:ds.length = L.length:=by rw [hda.1,logX_len]
   have hcap:L.length ≤ t.c:=by
    have:=HN.out
    have h1:=own_capV hdo
    omega
   obtain ⟨dl,hdl⟩:∃ l,l = ds.drop at_:=⟨_,rfl⟩
   obtain ⟨N,hN⟩:∃ N,N = L.length - at_:=⟨_,rfl⟩
   have hdlN:dl.length = N:=by rw [hdl,hN,List.length_drop,hdL]
   have CD:=Lib.hid (fun w' (f:Fr noB W5 w')=>clDones_any w' (cutA t.A t.c at_ 51) (t.c - at_) dl N hdlN (by
    rw [hdl]
    exact (dnsCut (Sl.own hdo) (by omega) (by omega)).fr0 f) (by have:=HLL.out;omega))
   have HDL:=Lib.hid (And.intro hdl (And.intro hN (And.intro hdlN hdL)))
   have HDS:=Lib.hid (And.intro hdn (And.intro hdo hda))
   have hcap':(at_:Int) ≤ (t.c:Int):=by omega
   clear hdl hN hdL hdn hdo hda hcap
   have i0:(0:Int) ≤ (at_:Int):=by omega
   have i1:(at_:Int) ≤ (L.length:Int):=by omega
   go_upto_region 11 with (go_at_call 108;rw [← HDL.out.2.1];(refine (CD.out _ (Fr.refl noB _)).mono ?_;rintro e w6 ⟨A6,c6,rfl,o6,f6,hc6⟩))
   have F6:=F5.step0 f6
   have F5z:=F5.size
   have tb6:=cell_fr0 tb5 f6
   have bO6:=Cod.bxd_fr0 bO5 f6
   have hP6:=hP5.out.fr f6 (NoHS.nob _)
   rw [hdlN] at hc6
   clear CD lg5 tb5 bO5 hP5 F5 i0 i1
   go_wp2_with (go_at_call 109;refine (bkDones_any _ _ _ _).mono ?_;rintro e w7 ⟨rfl,rfl⟩)
   have fr7:Fr noB w6 (w6.alloc (.cells #[.slice A6 N c6] 153)):=(Fr.refl noB w6).alloc _
   have cB:(w6.alloc (.cells #[.slice A6 N c6] 153)).cell? ⟨w6.heap.size,0,none⟩ = some (.slice A6 N c6):=(Blk.new w6 153 [.slice A6 N c6]).cell 0
   have hz7:(w6.alloc (.cells #[.slice A6 N c6] 153)).heap.size = w6.heap.size + 1:=by simp
   have F7:=F6.step0 fr7
   have tb7:=cell_fr0 tb6 fr7
   have bO7:=Cod.bxd_fr0 bO6 fr7
   have hP7:=Lib.hid (hP6.fr fr7 (NoHS.nob _))
   have s7:=(Sl.own o6).fr0 fr7
   have hT7:=own_lt o6
   have hz6:=f6.size
   have hzz:=F5z
   have hda7:AllO DnO (w6.alloc (.cells #[.slice A6 N c6] 153)) dl (logX (runX [] (L.take at_)) (L.drop at_)):=by
    rw [← logX_drop [] L at_ hatl,HDL.out.1]
    exact (HDS.out.2.2.drop at_).map fun r x h=>(h.fr f6 (NoHS.nob _)).fr fr7 (NoHS.nob _)
   have hS7:=HS.out.fr0 F7
   clear F5z fr7 tb6 bO6 hP6 o6 f6 hc6 F6 HDS
   obtain ⟨Bs,hBs⟩:∃ k,k = w6.heap.size:=⟨_,rfl⟩
   rw [← hBs] at cB hz7 hT7 hz6 ⊢
   clear hBs
   generalize w6.alloc (.cells #[.slice A6 N c6] 153) = W7 at cB hz7 F7 tb7 bO7 hP7 s7 hda7 hS7 ⊢
   obtain ⟨rs,hm7,hR7⟩:=hS7.rows
   have hml:=mpT_lt (HS.out.rows.choose_spec.1)
   have hOl:=Blk.lt (Cod.bxd_blk bO7)
   have HH:=Lib.hid (And.intro hz7 (And.intro hT7 (And.intro hz6 (And.intro hzz (And.intro hml (And.intro hOl F7.size))))))
   have HR:=Lib.hid hR7
   have HDA:=Lib.hid hda7
   have HS7:=Lib.hid hS7
   have hdlN':=hdlN
   have hly:(logX (runX [] (L.take at_)) (L.drop at_)).length = N:=by rw [← hda7.1];exact hdlN
   clear hdlN hR7 hda7 hS7 hz7 hT7 hz6 hzz hml hOl
   have HLY:=Lib.hid hly
   clear hly
   refine wp_bk (dl:=dl) (N:=N) (m:=t.m) hdlN' (by have:=HDL.out.2.1;have:=HLL.out;omega) (by have:=HH.out;omega) rfl cB (by have:=HH.out;omega) s7 (fun g hg=>by have:=HH.out;have:=this.2.1 g hg;omega) rs hm7 ?_ ?_ ?_
   ·intro l z d W K hK
    simp only [bkA,List.setIfInBounds_toArray,List.set_cons_zero,List.set_cons_succ] at hK ⊢
    gi_wp2
    exact hK
   ·intro l x pre Bx W hBx hk hm' hb' K hK
    have c1:=gcell_fr tb7 hk (by have:=HH.out;have:=HTO.out;rintro (h | h) <;> omega)
    have e1:=Cod.bxd_rd hb'
    have hns:NoHS (fun k=>k = t.m ∨ W7.heap.size ≤ k) W7:=(NoHS.map hm7).or (NoHS.new fun _ h=>h)
    have hda':=HDA.out.2 x.1 (by rw [hdlN'];exact x.2) (by rw [HLY.out];exact x.2)
    have CU:=Lib.hid (gvUndo_any W b t (HS7.out.tr.fr hk (by have:=HH.out;have:=HTO.out;have:=HS7.out.wk.bm;rintro (h | h) <;> omega)) _ _ hm' (undoWs_all hdlN' HLY.out (HDA.out.map fun r x h=>h.fr hk hns) pre (HR.out.map fun r x h=>h.fr hk hns)) _ _ (hda'.fr hk hns) (logX_was _ _ (fun o ho=>HS.out.ok o (List.mem_of_mem_drop ho)) _ _))
    rw [undoWs_snoc] at hK
    generalize dl[x.1] = d at e1 CU hK ⊢
    simp only [bkA,List.setIfInBounds_toArray,List.set_cons_zero,List.set_cons_succ]
    clear hda' hns hm' hb'
    gi_wp2
    refine ⟨trivial,?_⟩
    refine (CallsIn.inRound l (callsIn_wide.2 CU.out)).mono ?_
    rintro e W' ⟨rfl,h1,h2⟩
    gi_wp2
    exact hK _ _ h1 h2
   ·intro D W8 hD hm8 hk8 hdef
    have hns:NoHS (fun k=>k = t.m ∨ W7.heap.size ≤ k) W7:=(NoHS.map hm7).or (NoHS.new fun _ h=>h)
    have hAw:∀ g,t.A.map (·.block) = some g → g ≠ t.m ∧ g < w.heap.size:=fun g hg=>⟨(HS.out.wk.ab hg).2.1,(HS.out.wk.ab hg).2.2.2⟩
    have hnA:∀ g,t.A.map (·.block) = some g → ¬ (g = t.m ∨ W7.heap.size ≤ g):=fun g hg=>by have:=HH.out;have:=hAw g hg;rintro (h | h) <;> omega
    have hnb:¬ (b = t.m ∨ W7.heap.size ≤ b):=by have:=HH.out;have:=HTO.out;have:=HS7.out.wk.bm;rintro (h | h) <;> omega
    have hR8:=undoWs_all hdlN' HLY.out (HDA.out.map fun r x h=>h.fr hk8 hns) (upF N 0) (HR.out.map fun r x h=>h.fr hk8 hns)
    rw [undo_back L at_ hatl HS.out.ok N HLY.out] at hR8
    have tr8:=HS7.out.tr.fr hk8 hnb
    obtain ⟨ds,hdn,hdo,hda⟩:=HS7.out.log
    have hdo8:=own_fr hdo hk8 (fun g hg=>hnA g (by rw [ownBlock_sl'] at hg;exact hg))
    have hda8:AllO DnO W8 ds (logX [] L):=hda.map fun r x h=>h.fr hk8 hns
    have H8:=Lib.hid (show GvW base W8 b t (runX [] (L.take at_)) (logX [] L) from ⟨tr8,HS7.out.bb,HS7.out.mm,⟨_,hm8,hR8⟩,⟨ds,hdn,hdo8,hda8⟩⟩)
    have tb8:=gcell_fr tb7 hk8 (by have:=HH.out;have:=HTO.out;rintro (h | h) <;> omega)
    have bO8:=Cod.bxd_fr bO7 hk8 (by have:=HH.out;have:=HTO.out;rintro (h | h) <;> omega)
    have hP8:=Lib.hid (hP7.out.fr hk8 hns)
    have s8:=Lib.hid (s7.fr hk8 (fun a ha=>by have:=HH.out;have:=this.2.1 a.block (by rw [ha];rfl);rintro (h | h) <;> omega))
    have hda8':=Lib.hid (HDA.out.map fun r x h=>h.fr hk8 hns)
    obtain ⟨rs8,hrs8⟩:∃ l,l = undoWs rs N dl hdlN' (upF N 0):=⟨_,rfl⟩
    rw [← hrs8] at hm8 hR8
    have F8:=(F7.any (M:=trM b t)).trans hk8 (fun q hq h=>h.elim (fun h=>.inr (.inl h)) (fun h=>absurd hq (by have:=HH.out;omega)))
    have lg8:=tr8.log
    rw [HN.out] at lg8
    have rO8:=Cod.bxd_rd bO8
    have HDS:=Lib.hid (And.intro hdn (And.intro hdo8 hda8))
    have hcap:=hcap'
    have hi0:(0:Int) ≤ (at_:Int):=by omega
    have HM8:=Lib.hid (And.intro hm8 hR8)
    clear hns hrs8 hdn hdo hdo8 hda hda8 s7 tb7 bO7 hP7 hR8 HS7 HDA HR cB hm7 hnb hcap'
    go_upto_region 14 with fail
    have hk14:∀ w' w'':World,Fr (oneB t.m) w' w'' → (w'.cell? ⟨TB,0,none⟩ = some (.pointer (some ⟨b,0,none⟩)) ∧ w'.cell? ⟨b,1,none⟩ = some (.slice t.A L.length t.c) ∧ codO.rd w' O 0 = some r5) → (w''.cell? ⟨TB,0,none⟩ = some (.pointer (some ⟨b,0,none⟩)) ∧ w''.cell? ⟨b,1,none⟩ = some (.slice t.A L.length t.c) ∧ codO.rd w'' O 0 = some r5):=fun w' w'' f h=>by
     have h1:=HH.out
     have h2:=HTO.out
     have h3:=HS.out.wk.bm
     exact ⟨gcell_fr h.1 f (by show ¬ TB = t.m;omega),gcell_fr h.2.1 f (by show ¬ b = t.m;omega),Cod.rd_fr h.2.2 f (by show ¬ O = t.m;omega)⟩
    have fd8:Fr noB W8 W8.drew:=(Fr.refl noB W8).drew
    refine wp_region_M 14 15 [⟨18889465931478580854784,4,0⟩,⟨37778931862957161709568,4,0⟩,⟨75557863725914323419136,37778931862957161709568,2⟩,⟨151115727451828646838272,75557863725914323419136,4⟩,⟨302231454903657293676544,151115727451828646838272,8⟩,⟨604462909807314587353088,32,0⟩,⟨1208925819614629174706176,906694364710971881029632,48⟩,⟨2417851639229258349412352,4,0⟩,⟨4835703278458516698824704,8,0⟩,⟨9671406556917033397649408,7253554917687775048237056,384⟩,⟨19342813113834066795298816,9671406556917033397649408,512⟩,⟨38685626227668133590597632,20551738933448695970004992,1600⟩,⟨77371252455336267181195264,18889465931478580854784,4095⟩,⟨154742504910672534362390528,77371252455336267181195264,8191⟩,⟨0,193428131138340667952988160,12287⟩] [(true,0),(true,1),(true,2),(true,3),(true,4),(true,5),(true,6),(true,7),(true,8),(false,9),(false,10),(false,11),(true,12),(true,13)] (fun w'=>w'.cell? ⟨TB,0,none⟩ = some (.pointer (some ⟨b,0,none⟩)) ∧ w'.cell? ⟨b,1,none⟩ = some (.slice t.A L.length t.c) ∧ codO.rd w' O 0 = some r5) (by kernel_rfl) rfl (by kernel_rfl) (by kernel_rfl) (by kernel_rfl) (hk14 _ _ fd8.any ⟨tb8,lg8,rO8⟩) (fun hA hF=>?_)
    iterate 9
     refine wpAnyS_take (v:=?_) hA rfl (fun _ _ _ h=>h) (Or.inl ⟨by rfl,?_⟩) hF (fun hA=>?_)
     rotate_left
     ·intro wS hSw;(try dsimp only at hSw);obtain ⟨s1,s2,s3⟩:=hSw;first | (apply Eq.trans;apply ex_ldO_at;exact rfl;exact rfl;assumption;with_reducible rfl) | (apply Eq.trans;apply ex_ldS_at;exact rfl;exact rfl;assumption;with_reducible rfl) | (go_simp;try with_reducible rfl)
     try simp only [sA1,sA2,sA3,Act.put,sA4,sA5,sA6]
    refine wpAnyS_one hA rfl (fun K' hK=>?_)
    go_simp
    go_at_call 111
    refine (gvDo_any _ b t (H8.out.tr.fr0 fd8) rs8 (runX [] (L.take at_)) (mpT_fr0 HM8.out.1 fd8) (HM8.out.2.map fun r x h=>h.fr fd8 (NoHS.nob _)) (runX_gvt GvT.nil fun o ho=>HS.out.ok o (List.mem_of_mem_take ho)) (fun x hx=>by
     have h1:=runX_heads (L.take at_) [] 0 (by simp) x hx
     have h2:=HLL.out
     rw [List.length_take] at h1
     omega) r5 o (hP8.out.fr fd8 (NoHS.nob _)) HGD.out).mono ?_
    rintro e w9 ⟨d,rfl,hd9,hr9,f9⟩
    replace hF:=hk14 _ _ f9 hF
    refine hK.out _ _ hF (fun hA=>?_)
    clear hK K'
    as_aux_lemma =>
    have fn:Fr noB w9 (w9.alloc (codD.ro [d])):=(Fr.refl noB w9).alloc _
    have sl:=Cod.sl_new (C:=codD) w9 [d]
    refine wpAnyS_one hA rfl (fun K' hK=>?_)
    refine step_runI rfl _ _ (ex_bsD_at (x:=d) rfl rfl) ?_
    replace hF:=hk14 _ _ fn.any hF
    refine hK.out _ _ hF (fun hA=>?_)
    clear hK K'
    as_aux_lemma =>
    have hbz:base ≤ w9.heap.size:=Nat.le_trans (Nat.le_trans HS.out.bb (Nat.le_of_lt HTO.out.2.2)) (Nat.le_trans F8.size (Nat.le_trans fd8.size f9.size))
    obtain ⟨w0,hw0⟩:=ex_world w base
    obtain ⟨hdn,hdo,hda⟩:=HDS.out
    have hpre:OwnC codD w0 (w9.alloc (codD.ro [d])) t.A t.c (ds.take at_):=by
     have h1:W8.ownsRow w0.heap.size 177 51 (.slice t.A ds.length t.c) ds.length (codD.row ds):=by rw [hw0,hdn];exact hdo
     have h2:=own_fr (own_new0 h1 fd8) f9 (fun g hg hm=>(H8.out.ab (by rw [ownBlock_sl'] at hg;exact hg)).2.1 hm)
     exact OwnC.pre (C:=codD) (own_new0 h2 fn) at_ (by rw [hdn,HN.out];exact hatl)
    have hpl:(ds.take at_).length = at_:=by rw [List.length_take,hdn,HN.out];omega
    refine wpAnyS_one hA rfl (fun K' hK=>?_)
    refine step_appC' etD w0 _ rfl _ _ rfl t.A at_ t.c (ds.take at_) rfl hpl hpre (some ⟨w9.heap.size,0,none⟩) 1 1 [d] rfl sl rfl (by have:=HLL.out;rw [hpl];simp;omega) (by rw [hw0];exact Nat.le_trans hbz fn.size) ?_
    intro A10 c10 w10 hc10 hm10 o10 g10 hA10
    obtain ⟨l10,hl10⟩:∃ l,l = ds.take at_ ++ [d]:=⟨_,rfl⟩
    have hll10:l10.length = at_ + 1:=by rw [hl10,List.length_append,hpl];rfl
    rw [← hl10] at o10 hc10 ⊢
    rw [hll10]
    have fg:Fr (fun q=>t.A.map (·.block) = some q) (w9.alloc (codD.ro [d])) w10:=Fr.ofGrown g10 (fun g hg=>hg)
    replace hF:=And.intro (gcell_fr hF.1 fg (fun h=>by have:=hAw _ h;have:=HTO.out;omega)) (And.intro (gcell_fr hF.2.1 fg (fun h=>(H8.out.ab h).1 rfl)) (Cod.rd_fr hF.2.2 fg (fun h=>by have:=hAw _ h;have:=HTO.out;omega)))
    refine hK.out _ _ hF (fun hA=>?_)
    clear hK K'
    as_aux_lemma =>
    iterate 2
     refine wpAnyS_take (v:=?_) hA rfl (fun _ _ _ h=>h) (Or.inl ⟨by rfl,?_⟩) hF (fun hA=>?_)
     rotate_left
     ·intro wS hSw;(try dsimp only at hSw);obtain ⟨s1,s2,s3⟩:=hSw;first | (apply Eq.trans;apply ex_ldO_at;exact rfl;exact rfl;assumption;with_reducible rfl) | (apply Eq.trans;apply ex_ldS_at;exact rfl;exact rfl;assumption;with_reducible rfl) | (go_simp;try with_reducible rfl)
     try simp only [sA1,sA2,sA3,Act.put,sA4,sA5,sA6]
    refine wpAnyS_end hA rfl ?_
    simp only [List.drop_succ_cons,List.drop_zero]
    have tr10:=(((H8.out.tr.fr0 fd8).fr f9 (by have:=H8.out.bm;exact fun e=>this e)).fr0 fn).fr fg (fun h=>(H8.out.ab h).1 rfl)
    have u10:=tr10.log
    have z10:=tr10.frozen 1
    clear hF hk14 fg
    go_upto_region 15 with fail
    obtain ⟨hG,fG⟩:=H8.out.app at_ (by rw [HN.out];exact hatl) ((fd8.any (M:=oneB t.m)).trans f9 (fun _ _ h=>h)) hr9 hd9 fn hda hdo hw0 hl10 hll10 o10 g10 hA10
    have hA11:A10.map (·.block) = t.A.map (·.block) ∨ ∀ g,A10.map (·.block) = some g → W8.heap.size ≤ g:=hA10.imp id (fun h g hg=>by
     rw [h] at hg
     injection hg with hg
     rw [← hg]
     exact Nat.le_trans (Nat.le_trans fd8.size f9.size) fn.size)
    rw [logX_take [] L at_ hatl] at hG
    have e1:doX (runX [] (L.take at_)) o = runX [] (L.take at_ ++ o :: (L.drop at_).take 0):=by rw [runX_app];rfl
    have e2:logX [] (L.take at_) ++ [doD (runX [] (L.take at_)) o] = logX [] (L.take at_ ++ o :: (L.drop at_).take 0):=by rw [logX_app];rfl
    rw [e1,e2] at hG
    clear e1 e2 u10 z10 tr10 o10 g10 hA10 hc10 hm10 hl10 hll10 hpre hpl hd9 hr9 f9 fn sl hbz lg8 rO8 bO8 hdn hdo hda HDS HM8 hm8 hP8 hcap hi0 fd8
    generalize w10.setCell ⟨b,1,none⟩ (.slice A10 (at_ + 1) c10) = W11 at hG fG ⊢
    have hns8:NoHS (trM b t) W8:=by
     obtain ⟨rs,h1,_⟩:=H8.out.rows
     obtain ⟨ds,_,h2,_⟩:=H8.out.log
     have h3:=NoHS.own h2 (by decide) (by decide)
     rw [ownBlock_sl'] at h3
     exact ((NoHS.blk H8.out.tr (by decide) (by decide)).or ((NoHS.map h1).or h3))
    have hnt:∀ q,w.heap.size ≤ q → ¬ trM b t q:=fun q hq=>by
     have h1:=HH.out
     have h2:=HTO.out
     rintro (h | h | h)
     ·omega
     ·omega
     ·have:=hAw q h;omega
    have HK:=Lib.hid (And.intro tb8 (And.intro s8.out (And.intro hda8'.out (And.intro hdef (And.intro hns8 hnt)))))
    have HF8:=Lib.hid F8
    have HBM:=Lib.hid (And.intro H8.out.bm (And.intro H8.out.ml (And.intro hk8.size hD)))
    have hNL:(L.drop at_).length = N:=by rw [List.length_drop];exact HDL.out.2.1.symm
    have HNL:=Lib.hid hNL
    have HAW:=Lib.hid hAw
    have hG0:InLoop base W8 b t (L.take at_) (L.drop at_) o N (.int .i64 ((0:Nat):Int)) W11:=⟨0,_,rfl,by rw [hNL];rfl,Nat.zero_le _,hG,rfl,hA11,fG⟩
    clear tb8 s8 hda8' hdef hns8 hnt F8 hD hk8 H8 hNL hAw hG fG hA11
    go_wp2_with fail
    go_loopg [90] N (fun gk iv wr=>InLoop base W8 b t (L.take at_) (L.drop at_) o gk iv wr)
    case atStart=>exact hG0
    case round =>
     obtain ⟨i,ti,rfl,rfl,hi,hG,htm,htA,hF⟩:=hrel
     rw [HNL.out] at hi
     clear hG0
     have HG:=Lib.hid hG
     have HTM:=Lib.hid htm
     have HTA:=Lib.hid htA
     have tbr:=gcell_fr HK.out.1 hF (HK.out.2.2.2.2.2 _ HTO.out.1)
     have lgr:=hG.tr.log
     have hFr:=hF
     clear hF
     by_cases hlt:i < N
     ·have j0:(0:Int) ≤ (i:Int):=by omega
      have j1:(i:Int) < (N:Int):=by omega
      have hdl6:=HK.out.2.1
      obtain ⟨g,off,rfl,hgg⟩:=hdl6.adC (by rw [hdlN'];omega)
      have e0:codD.rd W8 g (off + i * 51) = some (dl[i]'(by omega)):=hdl6.rd i (by omega)
      have e1:=Cod.rd_fr e0 hFr (HK.out.2.2.2.2.2 _ (by have:=HH.out;have:=this.2.1 g rfl;omega))
      have hdq:=(HK.out.2.2.1.2 i (by omega) (by rw [HLY.out];exact hlt)).fr hFr HK.out.2.2.2.2.1
      have hop:((logX (runX [] (L.take at_)) (L.drop at_))[i]'(by rw [HLY.out];exact hlt)).op = (L.drop at_)[i]'(by rw [HNL.out];exact hlt):=logX_op _ _ i (by rw [HNL.out];exact hlt)
      have hdo:=hdq.op
      rw [hop] at hdo
      generalize (dl[i]'(by omega)) = dq at e1 hdo
      clear e0 hdq hop hdl6 hG htm htA
      go_upto_region 18 with fail
      have f12:Fr noB wr (wr.alloc (codD.o dq)):=(Fr.refl noB wr).alloc _
      have n12:=(dnAt (Cod.bxd_rd (Cod.bxd_new (C:=codD) wr dq))).op
      have hz12:(wr.alloc (codD.o dq)).heap.size = wr.heap.size + 1:=by simp
      obtain ⟨D2,hD2⟩:∃ k,k = wr.heap.size:=⟨_,rfl⟩
      rw [← hD2] at n12 ⊢
      have hG12:=Lib.hid (HG.out.fr0 f12)
      have tb12:=cell_fr0 tbr f12
      have lg12:=cell_fr0 lgr f12
      have hdo12:=Lib.hid (hdo.fr f12 (NoHS.nob _))
      have HD2:=Lib.hid (And.intro hD2 (And.intro HG.out.bm (And.intro HG.out.ml (fun g h=>HG.out.ab (g:=g) h))))
      have F12:=Lib.hid (hFr.step0 f12)
      clear tbr lgr hdo e1 hFr HG hD2 hz12 f12
      generalize wr.alloc (codD.o dq) = W12 at n12 hG12 tb12 lg12 hdo12 F12 ⊢
      have hTB:¬ TB = t.m:=by have:=HH.out;have:=HTO.out;omega
      have hk18:∀ w' w'':World,Fr (oneB ti.m) w' w'' → (w'.cell? ⟨TB,0,none⟩ = some (.pointer (some ⟨b,0,none⟩)) ∧ w'.cell? ⟨b,1,none⟩ = some (.slice ti.A ti.n ti.c) ∧ codO.rd w' D2 0 = some dq.op) → (w''.cell? ⟨TB,0,none⟩ = some (.pointer (some ⟨b,0,none⟩)) ∧ w''.cell? ⟨b,1,none⟩ = some (.slice ti.A ti.n ti.c) ∧ codO.rd w'' D2 0 = some dq.op):=fun w' w'' f h=>by
       have h3:=HD2.out
       exact ⟨gcell_fr h.1 f (by rw [← HTM.out] at hTB;exact hTB),gcell_fr h.2.1 f (fun e=>h3.2.1 e),Cod.rd_fr h.2.2 f (by show ¬ D2 = ti.m;omega)⟩
      have fd12:Fr noB W12 W12.drew:=(Fr.refl noB W12).drew
      obtain ⟨rs12,hm12,hR12⟩:=hG12.out.rows
      have HM12:=Lib.hid (And.intro hm12 hR12)
      have HLT:=Lib.hid hlt
      clear hm12 hR12
      refine wp_region_M 13 14 [⟨19807040628566084398385987584,4,0⟩,⟨39614081257132168796771975168,4,0⟩,⟨79228162514264337593543950336,39614081257132168796771975168,2⟩,⟨158456325028528675187087900672,79228162514264337593543950336,4⟩,⟨316912650057057350374175801344,158456325028528675187087900672,8⟩,⟨633825300114114700748351602688,4,0⟩,⟨1267650600228229401496703205376,1024,0⟩,⟨2535301200456458802993406410752,1267650600228229401496703205376,64⟩,⟨5070602400912917605986812821504,3169126500570573503741758013440,160⟩,⟨10141204801825835211973625643008,5070602400912917605986812821504,256⟩,⟨20282409603651670423947251286016,10458117451882892562347801444352,784⟩,⟨40564819207303340847894502572032,19807040628566084398385987584,2047⟩,⟨81129638414606681695789005144064,40564819207303340847894502572032,4095⟩,⟨0,101412048018258352119736256430080,6143⟩] [(true,0),(true,1),(true,2),(true,3),(true,4),(true,5),(true,6),(true,7),(false,8),(false,9),(false,10),(true,11),(true,12)] (fun w'=>w'.cell? ⟨TB,0,none⟩ = some (.pointer (some ⟨b,0,none⟩)) ∧ w'.cell? ⟨b,1,none⟩ = some (.slice ti.A ti.n ti.c) ∧ codO.rd w' D2 0 = some dq.op) (by kernel_rfl) rfl (by kernel_rfl) (by kernel_rfl) (by kernel_rfl) (hk18 _ _ fd12.any ⟨tb12,lg12,n12⟩) (fun hA hF=>?_)
      iterate 8
       refine wpAnyS_take (v:=?_) hA rfl (fun _ _ _ h=>h) (Or.inl ⟨by rfl,?_⟩) hF (fun hA=>?_)
       rotate_left
       ·intro wS hSw;(try dsimp only at hSw);obtain ⟨s1,s2,s3⟩:=hSw;first | (apply Eq.trans;apply ex_ldO_at;exact rfl;exact rfl;assumption;with_reducible rfl) | (apply Eq.trans;apply ex_ldS_at;exact rfl;exact rfl;assumption;with_reducible rfl) | (go_simp;try with_reducible rfl)
       try simp only [sA1,sA2,sA3,Act.put,sA4,sA5,sA6]
      refine wpAnyS_one hA rfl (fun K' hK=>?_)
      go_simp
      go_at_call 111
      refine (gvDo_any _ b ti (hG12.out.tr.fr0 fd12) rs12 (runX [] (L.take at_ ++ o :: (L.drop at_).take i)) (mpT_fr0 HM12.out.1 fd12) (HM12.out.2.map fun r x h=>h.fr fd12 (NoHS.nob _)) (runX_gvt GvT.nil fun x hx=>by
       rcases List.mem_append.1 hx with h | h
       ·exact HS.out.ok x (List.mem_of_mem_take h)
       ·rcases List.mem_cons.1 h with h | h
        ·rw [h];exact HGD.out
        ·exact HS.out.ok x (List.mem_of_mem_drop (List.mem_of_mem_take h))) (fun x hx=>by
       have h1:=runX_heads (L.take at_ ++ o :: (L.drop at_).take i) [] 0 (by simp) x hx
       have h2:=HLL.out
       simp only [List.length_append,List.length_cons,List.length_take,List.length_drop] at h1
       omega) dq.op ((L.drop at_)[i]'(by rw [HNL.out];exact HLT.out)) (hdo12.out.fr fd12 (NoHS.nob _)) (HS.out.ok _ (List.mem_of_mem_drop (List.getElem_mem _)))).mono ?_
      rintro e w13 ⟨d,rfl,hd13,hr13,f13⟩
      replace hF:=hk18 _ _ f13 hF
      refine hK.out _ _ hF (fun hA=>?_)
      clear hK K'
      as_aux_lemma =>
      have fn:Fr noB w13 (w13.alloc (codD.ro [d])):=(Fr.refl noB w13).alloc _
      have sl:=Cod.sl_new (C:=codD) w13 [d]
      refine wpAnyS_one hA rfl (fun K' hK=>?_)
      refine step_runI rfl _ _ (ex_bsD_at (x:=d) rfl rfl) ?_
      replace hF:=hk18 _ _ fn.any hF
      refine hK.out _ _ hF (fun hA=>?_)
      clear hK K'
      as_aux_lemma =>
      have hbz:base ≤ w13.heap.size:=Nat.le_trans (Nat.le_trans hG12.out.bb (Nat.le_of_lt (Blk.lt hG12.out.tr))) (Nat.le_trans fd12.size f13.size)
      obtain ⟨v0,hv0⟩:=ex_world w base
      obtain ⟨es,hen,heo,hea⟩:=hG12.out.log
      have hpre:OwnC codD v0 (w13.alloc (codD.ro [d])) ti.A ti.c es:=by
       have h1:W12.ownsRow v0.heap.size 177 51 (.slice ti.A es.length ti.c) es.length (codD.row es):=by rw [hv0,hen];exact heo
       have h2:=own_fr (own_new0 h1 fd12) f13 (fun g hg hm=>(HD2.out.2.2.2 g (by rw [ownBlock_sl'] at hg;exact hg)).2.1 hm)
       exact own_new0 h2 fn
      have hel:ti.n ≤ 100001:=by
       have h2:=HLL.out
       rw [← hen,hea.1,logX_len]
       simp only [List.length_append,List.length_cons,List.length_take,List.length_drop]
       omega
      refine wpAnyS_one hA rfl (fun K' hK=>?_)
      refine step_appC' etD v0 _ rfl _ _ rfl ti.A ti.n ti.c es rfl hen hpre (some ⟨w13.heap.size,0,none⟩) 1 1 [d] rfl sl rfl (by rw [hen];simp;omega) (by rw [hv0];exact Nat.le_trans hbz fn.size) ?_
      intro A14 c14 w14 hc14 hm14 o14 g14 hA14
      obtain ⟨l14,hl14⟩:∃ l,l = es.take ti.n ++ [d]:=⟨_,rfl⟩
      have hl14':es ++ [d] = l14:=by rw [hl14,List.take_of_length_le (by omega)]
      have hll14:l14.length = ti.n + 1:=by rw [← hl14',List.length_append,hen];rfl
      rw [hl14'] at o14 hc14 ⊢
      rw [hll14]
      have fg:Fr (fun q=>ti.A.map (·.block) = some q) (w13.alloc (codD.ro [d])) w14:=Fr.ofGrown g14 (fun g hg=>hg)
      have htT:∀ q,trM b t q → ¬ q = TB:=fun q hq e=>HK.out.2.2.2.2.2 q (by have:=HTO.out;omega) hq
      have hTA:¬ ti.A.map (·.block) = some TB:=fun h=>by
       rcases HTA.out with e | e
       ·rw [e] at h
        exact htT TB (.inr (.inr h)) rfl
       ·have h1:=e TB h
        have h2:=Blk.lt (HS.out.tr)
        have h3:=HH.out
        have h4:=HBM.out
        have h5:=HTO.out
        have h6:=World.block_lt_of_cell? _ _ HK.out.1
        simp only at h6
        omega
      replace hF:=And.intro (gcell_fr hF.1 fg hTA) (And.intro (gcell_fr hF.2.1 fg (fun h=>(HD2.out.2.2.2 _ h).1 rfl)) (Cod.rd_fr hF.2.2 fg (fun h=>by have h1:=(HD2.out.2.2.2 _ h).2.2.2;have h2:=HD2.out.1;omega)))
      refine hK.out _ _ hF (fun hA=>?_)
      clear hK K'
      as_aux_lemma =>
      iterate 2
       refine wpAnyS_take (v:=?_) hA rfl (fun _ _ _ h=>h) (Or.inl ⟨by rfl,?_⟩) hF (fun hA=>?_)
       rotate_left
       ·intro wS hSw;(try dsimp only at hSw);obtain ⟨s1,s2,s3⟩:=hSw;first | (apply Eq.trans;apply ex_ldO_at;exact rfl;exact rfl;assumption;with_reducible rfl) | (apply Eq.trans;apply ex_ldS_at;exact rfl;exact rfl;assumption;with_reducible rfl) | (go_simp;try with_reducible rfl)
       try simp only [sA1,sA2,sA3,Act.put,sA4,sA5,sA6]
      refine wpAnyS_end hA rfl ?_
      simp only [List.drop_succ_cons,List.drop_zero]
      have tr14:=(((hG12.out.tr.fr0 fd12).fr f13 (fun e=>HD2.out.2.1 e)).fr0 fn).fr fg (fun h=>(HD2.out.2.2.2 _ h).1 rfl)
      have u14:=tr14.log
      have z14:=tr14.frozen 1
      clear hF hk18 fg
      go_wp2_with fail
      obtain ⟨hG15,f15⟩:=hG12.out.app ti.n (Nat.le_refl _) ((fd12.any (M:=oneB ti.m)).trans f13 (fun _ _ h=>h)) hr13 hd13 fn hea heo hv0 hl14 hll14 o14 g14 hA14
      have hLe:L.take at_ ++ o :: (L.drop at_).take (i + 1) = (L.take at_ ++ o :: (L.drop at_).take i) ++ [(L.drop at_)[i]'(by rw [HNL.out];exact HLT.out)]:=by
       rw [List.take_succ_eq_append_getElem (by rw [HNL.out];exact HLT.out)]
       simp
      have hG16:GvW base (w14.setCell ⟨b,1,none⟩ (.slice A14 (ti.n + 1) c14)) b { ti with A:=A14,n:=ti.n + 1,c:=c14 } (runX [] (L.take at_ ++ o :: (L.drop at_).take (i + 1))) (logX [] (L.take at_ ++ o :: (L.drop at_).take (i + 1))):=by
       rw [hLe,runX_app,logX_app]
       rw [show (logX [] (L.take at_ ++ o :: (L.drop at_).take i)).take ti.n = logX [] (L.take at_ ++ o :: (L.drop at_).take i) from List.take_of_length_le (by rw [← hea.1,hen];exact Nat.le_refl _)] at hG15
       exact hG15
      have hA16:A14.map (·.block) = t.A.map (·.block) ∨ ∀ g,A14.map (·.block) = some g → W8.heap.size ≤ g:=by
       rcases hA14 with h | h
       ·rw [h];exact HTA.out
       ·refine .inr fun g hg=>?_
        rw [h] at hg
        injection hg with hg
        rw [← hg]
        exact Nat.le_trans F12.out.size (Nat.le_trans (Nat.le_trans fd12.size f13.size) fn.size)
      have hF16:Fr (trM b t) W8 (w14.setCell ⟨b,1,none⟩ (.slice A14 (ti.n + 1) c14)):=F12.out.trans f15 (fun q hq h=>by
       rcases h with h | h | h
       ·exact .inl h
       ·exact .inr (.inl (by rw [← HTM.out];exact h))
       ·rcases HTA.out with e | e
        ·rw [e] at h;exact .inr (.inr h)
        ·have:=e q h
         omega)
      have HNX:=Lib.hid (And.intro hG16 (And.intro hA16 hF16))
      clear hG15 f15 hG16 hA16 hF16 hLe u14 z14 tr14 o14 g14 hA14
      have hi9:i ≤ 100000:=by have:=HLL.out;have:=HDL.out.2.1;omega
      go_roundg (N - (i + 1))
      case measure=>have h2:=HLT.out;have h3:=HDL.out.2.1;omega
      case rel=>exact ⟨i + 1,{ ti with A:=A14,n:=ti.n + 1,c:=c14 },congrArg (Value.int .i64) (IntWalk.wrap64_in _ (by omega)),by rw [HNL.out],by rw [HNL.out];exact HLT.out,HNX.out.1,HTM.out,HNX.out.2.1,HNX.out.2.2⟩
     ·have j1:¬ (i:Int) < (N:Int):=by omega
      have HI:=Lib.hid (show i = N by omega)
      have u2:=hG.tr.u
      have z2:=hG.tr.frozen 2
      clear hG htm htA
      go_wp2_with fail
      obtain ⟨hU,fU⟩:=HG.out.setU (N:Int)
      have hFU:=hFr.trans fU (fun q _ e=>show trM b t q from .inl e)
      have hDl:=(Array.getElem?_eq_some_iff.1 HK.out.2.2.2.1).1
      have hDU:=(hFU.block D hDl (HK.out.2.2.2.2.2 _ (by have:=HBM.out;have:=HH.out;omega))).trans HK.out.2.2.2.1
      have hbm:=HBM.out
      have hbh:=HH.out
      have hbt:=HTO.out
      have hDw:w.heap.size ≤ D:=by omega
      have hDn:=HK.out.2.2.2.2.2 D hDw
      have fD:Fr (oneB D) (wr.setCell ⟨b,2,none⟩ (.int .i64 (N:Int))) ((wr.setCell ⟨b,2,none⟩ (.int .i64 (N:Int))).putObj D (.deferred none)):=Fr.ofGrown (grownBy_putObj' _ D _) (fun r e=>by cases e;rfl)
      have nD:NoHS (oneB D) (wr.setCell ⟨b,2,none⟩ (.int .i64 (N:Int))):=fun q hq cs z=>by
       have e:q = D:=hq
       subst e
       rw [hDU]
       exact ⟨fun h=>(by cases h),fun h=>(by cases h)⟩
      have hLL:L.take at_ ++ o :: (L.drop at_).take i = L.take at_ ++ o :: L.drop at_:=by
       rw [show (L.drop at_).take i = L.drop at_ from List.take_of_length_le (by rw [HNL.out,HI.out];exact Nat.le_refl _)]
      rw [hLL] at hU
      have hDb:¬ b = D:=fun e=>hDn (.inl e.symm)
      have hDm:¬ ti.m = D:=fun e=>hDn (.inr (.inl (by rw [← e];exact HTM.out)))
      have hok:∀ x ∈ L.take at_ ++ o :: L.drop at_,goodOp x = true:=fun x hx=>by
       rcases List.mem_append.1 hx with h | h
       ·exact HS.out.ok x (List.mem_of_mem_take h)
       ·rcases List.mem_cons.1 h with h | h
        ·rw [h];exact HGD.out
        ·exact HS.out.ok x (List.mem_of_mem_drop h)
      have hUA:∀ g,ti.A.map (·.block) = some g → ¬ D = g:=fun g hg e=>by
       obtain ⟨ds,_,h2,_⟩:=hU.log
       obtain ⟨_,cur,z,h4⟩:=own_blk (A:=ti.A) h2 hg
       rw [← e,hDU] at h4
       cases h4
      refine leaveM1 rfl hDU (results_tmp rfl _ _ _) ?_
      refine ⟨0,{ ti with u:=(N:Int) },L.take at_ ++ o :: L.drop at_,rfl,((hU.fr fD nD hDb hDm (fun g hg h=>hUA g hg h.symm)).tree hok),HTM.out,?_,?_,.inr (.inr ⟨HGD.out,rfl,L.take at_,L.drop at_,(List.take_append_drop at_ L).symm,rfl,?_,?_,?_⟩)⟩
      ·rcases HTA.out with h | h
       ·exact .inl h
       ·exact .inr fun g hg=>by have:=h g hg;omega
      ·exact (HF8.out.trans hFU (fun q _ e=>e)).step1 fD hDw
      ·intro p hp
       obtain ⟨j,hj,rfl⟩:=List.getElem_of_mem hp
       rw [List.length_take] at hj
       have h1:=HAT.out.lo j (by omega)
       unfold pAt at h1
       rw [dif_pos (by omega),decide_eq_false_iff_not] at h1
       rw [List.getElem_take,HEA.out]
       omega
      ·intro p hp
       obtain ⟨j,hj,rfl⟩:=List.getElem_of_mem hp
       rw [List.length_drop] at hj
       rw [List.getElem_drop]
       have h1:=HAT.out.hi (at_ + j) (by omega) (by omega)
       unfold pAt at h1
       rw [dif_pos (by omega),decide_eq_true_eq] at h1
       have h2:=HNE.out (L[at_ + j]'(by omega)) (List.getElem_mem _)
       rw [HEA.out] at h2 ⊢
       rw [cmpS_flip (L[at_ + j]'(by omega)).At r.At]
       have h3:=mt cmpS_zero.1 h2
       omega
      ·show (N:Int) = ((L.drop at_).length:Int)
       rw [HNL.out]
theorem gvInsert_any (base:Nat) (w:World) (b:Nat) (t:TrW) (L:List Opn) (hS:GvS base w b t L) (hsrt:SrtL L) (hL:L.length ≤ 100000) (r:OpW) (o:Opn) (ho:OpIn w r o) (hov:o.Over.length ≤ 1000000) :
  Calls Tryz.prog 82 #[.pointer (some ⟨b,0,none⟩),.agg (codO.A r)] w (InTo base w b t L o):=gvInsertX_any base w b t L hS hsrt hL r o ho
end Go.Proofs.YtjpieiccpbcabaaGreat
