/- Contract: merge's Add. (rdI, ex_ldS_at, ex_ldO_at, ex_ldC_at) Contracts: the closure of merge's fast, IndexFunc and DeleteFunc of operations with it. (ex_ldS_at, ex_ldO_at) -/
import Derived.Test.YtjpieiccpbcabaaGreatMgGKu
set_option linter.unusedVariables false
set_option linter.unusedSimpArgs false
namespace Go.Proofs.YtjpieiccpbcabaaGreat
open Go.RowKit Go.Maps Go.Sort Go.Shelf
attribute [local go_sem] Oper.semAt_some
theorem miss_any (L:Hst) (ps:List ID):(ps.any fun p=>!hasG (dgH L) p) = (List.range ps.length).any (fun i=>!hasG (dgH L) (ps.getD i zID)):=(any_rangeD ps zID (fun p=>!hasG (dgH L) p)).symm
structure AdB (w:World) (P H:Nat) (x:ID) (r:CgW):Prop where
 p:w.cell? ⟨P,0,none⟩ = some (.pointer (some ⟨H,0,none⟩))
 i:rdI w (P + 1) 0 = some x
 c:codC.bxd w (P + 2) = some r
theorem AdB.fr {M:Nat → Prop} {w w':World} {P H:Nat} {x:ID} {r:CgW} (h:AdB w P H x r) (f:Fr M w w') (h0:¬ M P) (h1:¬ M (P + 1)) (h2:¬ M (P + 2)):AdB w' P H x r :=
 ⟨gcell_fr h.p f h0,rdI_fr h.i (rdI_lt h.i) f h1,Cod.bxd_fr h.c f h2⟩
theorem AdB.fr0 {w w':World} {P H:Nat} {x:ID} {r:CgW} (h:AdB w P H x r) (f:Fr noB w w'):AdB w' P H x r:=h.fr f (by simp [noB]) (by simp [noB]) (by simp [noB])
def AdLoop (W8:World) (O:Nat) (Q2:Nat → Prop) (P:List Opn) (os:List Opn) (gk:Nat) (iv:Value) (wr:World):Prop :=
 ∃ (k:Nat) (kv:List (St × Value)),iv = .int .i64 (k:Int) ∧ gk = os.length - k ∧ k ≤ os.length ∧ mpT wr O = some kv ∧ OpsM Q2 wr kv (P ++ os.take k) ∧ Fr (oneB O) W8 wr
set_option maxRecDepth 100000 in
set_option maxHeartbeats 8000000 in
theorem mgAdd_any {w:World} {H:Nat} {S:Nat → Prop} {L:Hst} (h:Hs w H S L) (hl:L.length < 100000) (x:ID) (r:CgW) (rs:List OpW) (c:Chg) (hq:CgQ (fun g=>¬ S g) w r rs c) (hpb:c.Parents.length ≤ 1000000000) :
  Calls Tryz.prog 10 #[.pointer (some ⟨H,0,none⟩),encI x,.agg (codC.A r)] w (Add15 w H S L x c):=by
 have fa:Fr noB w (w.alloc (.cells #[.pointer (some ⟨H,0,none⟩)] 25)):=(Fr.refl noB w).alloc _
 have fb:Fr noB (w.alloc (.cells #[.pointer (some ⟨H,0,none⟩)] 25)) ((w.alloc (.cells #[.pointer (some ⟨H,0,none⟩)] 25)).alloc (ido x)):=(Fr.refl noB _).alloc _
 have fc:Fr noB ((w.alloc (.cells #[.pointer (some ⟨H,0,none⟩)] 25)).alloc (ido x)) (((w.alloc (.cells #[.pointer (some ⟨H,0,none⟩)] 25)).alloc (ido x)).alloc (.cells (codC.A r) 35)):=(Fr.refl noB _).alloc _
 have za:(w.alloc (.cells #[.pointer (some ⟨H,0,none⟩)] 25)).heap.size = w.heap.size + 1:=by simp
 have zb:((w.alloc (.cells #[.pointer (some ⟨H,0,none⟩)] 25)).alloc (ido x)).heap.size = w.heap.size + 2:=by simp
 have q0:AdB (((w.alloc (.cells #[.pointer (some ⟨H,0,none⟩)] 25)).alloc (ido x)).alloc (.cells (codC.A r) 35)) w.heap.size H x r:=by
  have h1:=(Blk.new w 25 [.pointer (some ⟨H,0,none⟩)]).cell 0
  have h2:rdI ((w.alloc (.cells #[.pointer (some ⟨H,0,none⟩)] 25)).alloc (ido x)) (w.alloc (.cells #[.pointer (some ⟨H,0,none⟩)] 25)).heap.size 0 = some x:=rdI_new _ x
  rw [za] at h2
  have h3:=Cod.bxd_box (C:=codC) ((w.alloc (.cells #[.pointer (some ⟨H,0,none⟩)] 25)).alloc (ido x)) r
  rw [zb] at h3
  exact ⟨cell_fr0 (cell_fr0 h1 fb) fc,rdI_fr h2 (rdI_lt h2) fc (by simp [noB]),h3⟩
 have f0:=(fa.step0 fb).step0 fc
 have zc:(((w.alloc (.cells #[.pointer (some ⟨H,0,none⟩)] 25)).alloc (ido x)).alloc (.cells (codC.A r) 35)).heap.size = w.heap.size + 3:=by simp
 have HH:=Lib.hid h
 have hc:=hq.inn
 have HC:=Lib.hid hc
 have HCQ:=Lib.hid hq
 have HL:=Lib.hid hl
 have HPB:=Lib.hid hpb
 obtain ⟨D,A,O,kvA,kvO,F,Q,h1,h2,h3⟩:=h
 have HA:=Lib.hid h1
 have HS2:=Lib.hid h2
 have HS3:=Lib.hid h3
 have c0':=cell_fr0 h1.c0 f0
 have CHas:=Lib.hid (fun w' (f:Fr noB w w')=>has_any w' D F (dgH L) (h1.dag.fr0 f) x)
 clear fa fb fc za zb h1 h2 h3 hc hl hpb hq
 go_enter Tryz.func10,Tryz.ntmps10
 go_upto_region 1 with fail
 generalize ((w.alloc (.cells #[.pointer (some ⟨H,0,none⟩)] 25)).alloc (ido x)).alloc (.cells (codC.A r) 35) = W0 at q0 f0 zc c0' ⊢
 obtain ⟨P,hP⟩:∃ P,P = w.heap.size:=⟨_,rfl⟩
 rw [← hP] at q0 zc ⊢
 have e2:P + 1 + 1 = P + 2:=rfl
 have HP:=Lib.hid (And.intro hP zc)
 clear hP zc
 -- known
 have hk:∀ w' w'':World,Fr noB w' w'' → (w'.cell? ⟨P,0,none⟩ = some (.pointer (some ⟨H,0,none⟩)) ∧ w'.cell? ⟨H,0,none⟩ = some (.pointer (some ⟨D,0,none⟩)) ∧ rdI w' (P + 1) 0 = some x) → (w''.cell? ⟨P,0,none⟩ = some (.pointer (some ⟨H,0,none⟩)) ∧ w''.cell? ⟨H,0,none⟩ = some (.pointer (some ⟨D,0,none⟩)) ∧ rdI w'' (P + 1) 0 = some x):=fun w' w'' f h=>⟨cell_fr0 h.1 f,cell_fr0 h.2.1 f,rdI_fr h.2.2 (rdI_lt h.2.2) f (by simp [noB])⟩
 have fd:Fr noB W0 W0.drew:=(Fr.refl noB W0).drew
 have hF0:=hk _ _ fd ⟨q0.p,c0',q0.i⟩
 refine wp_region_M 6 7 [⟨4096,8,0⟩,⟨8192,4096,1⟩,⟨16384,8192,2⟩,⟨32768,16384,4⟩,⟨65536,16,0⟩,⟨131072,98304,24⟩,⟨128,131072,63⟩] [(true,0),(true,1),(true,2),(true,3),(true,4),(false,5)] (fun w'=>w'.cell? ⟨P,0,none⟩ = some (.pointer (some ⟨H,0,none⟩)) ∧ w'.cell? ⟨H,0,none⟩ = some (.pointer (some ⟨D,0,none⟩)) ∧ rdI w' (P + 1) 0 = some x) (by kernel_rfl) rfl (by kernel_rfl) (by kernel_rfl) (by kernel_rfl) hF0 (fun hA hF=>?_)
 iterate 5
  refine wpAnyS_take (v:=?_) hA rfl (fun _ _ _ h=>h) (Or.inl ⟨by rfl,?_⟩) hF (fun hA=>?_)
  rotate_left
  ·intro wS hSw;(try dsimp only at hSw);obtain ⟨s1,s2,s3⟩:=hSw;first | (apply Eq.trans;apply ex_ld_id;exact rfl;exact rfl;assumption;with_reducible rfl) | (apply Eq.trans;apply ex_ldO_at;exact rfl;exact rfl;assumption;with_reducible rfl) | (apply Eq.trans;apply ex_ldC_at;exact rfl;exact rfl;assumption;with_reducible rfl) | (apply Eq.trans;apply ex_ldS_at;exact rfl;exact rfl;assumption;with_reducible rfl) | (go_simp;try with_reducible rfl)
  try simp only [sA1,sA2,sA3,Act.put,sA4,sA5,sA6]
 refine wpAnyS_one hA rfl (fun K' hK=>?_)
 go_simp
 go_at_call 32
 refine (CHas.out _ (f0.step0 fd)).mono ?_
 rintro e w1 ⟨rfl,f1⟩
 replace hF:=hk _ _ f1 hF
 refine hK.out _ _ hF (fun hA=>?_)
 clear hK K'
 as_aux_lemma =>
 refine wpAnyS_end hA rfl ?_
 simp only [List.drop_succ_cons,List.drop_zero]
 clear hF hk hF0 CHas
 have q1:=(q0.fr0 fd).fr0 f1
 have g1:=(f0.step0 fd).step0 f1
 clear q0 f0 fd f1 c0'
 -- missing
 have u1:=(cgAt (Cod.bxd_rd q1.c)).parents
 rw [← HC.out.pl] at u1
 have CM:=Lib.hid (ixA1_ct w1 r.PA r.pc c.Parents.length c.Parents rfl (HC.out.ps.fr0 g1) HPB.out (.pointer (some ⟨P,0,none⟩)) (fun i=>!hasG (dgH L) (c.Parents.getD i zID)) (fun w' f i hi=>by
  have h1:=mgAdd1_any ((HH.out.fr0 g1).fr0 f) P (cell_fr0 q1.p f) c.Parents[i]
  have e:c.Parents.getD i zID = c.Parents[i]:=by rw [List.getD_eq_getElem?_getD,List.getElem?_eq_getElem hi];rfl
  rw [e]
  exact h1))
 rw [← miss_any] at CM
 obtain ⟨ms,hms⟩:∃ m,m = (c.Parents.any fun p=>!hasG (dgH L) p):=⟨_,rfl⟩
 obtain ⟨kn,hkn⟩:∃ m,m = hasG (dgH L) x:=⟨_,rfl⟩
 rw [← hms] at CM
 rw [← hkn]
 have HMS:=Lib.hid hms
 have HKN:=Lib.hid hkn
 clear hms hkn
 go_upto_region 3 with (go_at_call 33;refine CM.out.mono ?_;rintro e w2 ⟨rfl,f2⟩)
 have q2:=q1.fr0 f2
 have g2:=g1.step0 f2
 clear q1 g1 u1 CM f2
 cases kn with
 | true =>
  have HKZ:=Lib.hid (show (hasG (dgH L) x || decide (x = zID)) = true by rw [← HKN.out];rfl)
  go_upto_region 4 with fail
  have u2:=(cgAt (Cod.bxd_rd q2.c)).parents
  rw [← HC.out.pl] at u2
  have c2':=cell_fr0 HA.out.c0 g2
  have hk:∀ w' w'':World,Fr noB w' w'' → (w'.cell? ⟨P,0,none⟩ = some (.pointer (some ⟨H,0,none⟩)) ∧ w'.cell? ⟨H,0,none⟩ = some (.pointer (some ⟨D,0,none⟩)) ∧ rdI w' (P + 1) 0 = some x ∧ w'.cell? ⟨P + 2,0,none⟩ = some (.slice r.PA c.Parents.length r.pc)) → (w''.cell? ⟨P,0,none⟩ = some (.pointer (some ⟨H,0,none⟩)) ∧ w''.cell? ⟨H,0,none⟩ = some (.pointer (some ⟨D,0,none⟩)) ∧ rdI w'' (P + 1) 0 = some x ∧ w''.cell? ⟨P + 2,0,none⟩ = some (.slice r.PA c.Parents.length r.pc)):=fun w' w'' f h=>⟨cell_fr0 h.1 f,cell_fr0 h.2.1 f,rdI_fr h.2.2.1 (rdI_lt h.2.2.1) f (by simp [noB]),cell_fr0 h.2.2.2 f⟩
  have fd:Fr noB w2 w2.drew:=(Fr.refl noB w2).drew
  have hF0:=hk _ _ fd ⟨q2.p,c2',q2.i,u2⟩
  have hA2:=HA.out.fr0 (g2.step0 fd)
  have CA:=Lib.hid (add_any w2.drew D F (dgH L) hA2.dag (by unfold dgH;rw [List.length_map];have:=HL.out;omega) x r.PA r.pc c.Parents.length c.Parents rfl (HC.out.ps.fr0 (g2.step0 fd)) (by have:=HPB.out;omega))
  refine wp_region_M 8 9 [⟨536870912,8,0⟩,⟨1073741824,536870912,1⟩,⟨2147483648,1073741824,2⟩,⟨4294967296,2147483648,4⟩,⟨8589934592,16,0⟩,⟨17179869184,32,0⟩,⟨34359738368,17179869184,32⟩,⟨68719476736,47244640256,88⟩,⟨64,68719476736,255⟩] [(true,0),(true,1),(true,2),(true,3),(true,4),(true,5),(true,6),(false,7)] (fun w'=>w'.cell? ⟨P,0,none⟩ = some (.pointer (some ⟨H,0,none⟩)) ∧ w'.cell? ⟨H,0,none⟩ = some (.pointer (some ⟨D,0,none⟩)) ∧ rdI w' (P + 1) 0 = some x ∧ w'.cell? ⟨P + 2,0,none⟩ = some (.slice r.PA c.Parents.length r.pc)) (by kernel_rfl) rfl (by kernel_rfl) (by kernel_rfl) (by kernel_rfl) hF0 (fun hA hF=>?_)
  iterate 7
   refine wpAnyS_take (v:=?_) hA rfl (fun _ _ _ h=>h) (Or.inl ⟨by rfl,?_⟩) hF (fun hA=>?_)
   rotate_left
   ·intro wS hSw;(try dsimp only at hSw);obtain ⟨s1,s2,s3,s4⟩:=hSw;first | (apply Eq.trans;apply ex_ld_id;exact rfl;exact rfl;assumption;with_reducible rfl) | (apply Eq.trans;apply ex_ldO_at;exact rfl;exact rfl;assumption;with_reducible rfl) | (apply Eq.trans;apply ex_ldC_at;exact rfl;exact rfl;assumption;with_reducible rfl) | (apply Eq.trans;apply ex_ldS_at;exact rfl;exact rfl;assumption;with_reducible rfl) | (go_simp;try with_reducible rfl)
   try simp only [sA1,sA2,sA3,Act.put,sA4,sA5,sA6]
  refine wpAnyS_one hA rfl (fun K' hK=>?_)
  go_simp
  go_at_call 35
  refine CA.out.mono ?_
  rintro e w3 ⟨rfl,hd3,f3⟩
  replace hF:=And.intro (gcell_fr hF0.1 f3 (fun h=>by have:=HA.out.lt _ h;have:=HP.out.1;omega)) (And.intro (gcell_fr hF0.2.1 f3 HA.out.nFH) (And.intro (rdI_fr hF0.2.2.1 (rdI_lt hF0.2.2.1) f3 (fun h=>by have:=HA.out.lt _ h;have:=HP.out.1;omega)) (gcell_fr hF0.2.2.2 f3 (fun h=>by have:=HA.out.lt _ h;have:=HP.out.1;omega))))
  refine hK.out _ _ hF (fun hA=>?_)
  clear hK K'
  as_aux_lemma =>
  refine wpAnyS_end hA rfl ?_
  simp only [List.drop_succ_cons,List.drop_zero]
  clear hF hk hF0 CA u2 c2'
  rw [addG_known HKZ.out] at hd3
  have h3:=hA2.dag0 hd3 f3
  have FF:Fr S w w3:=((g2.step0 fd).any (M:=S)).trans f3 (fun b _ hb=>HS2.out b (.inl hb))
  have hsz:w.heap.size ≤ w2.drew.heap.size:=(g2.step0 fd).size
  have HNX:=Lib.hid (show Hs w3 H (grF S w w3) L from ⟨D,A,O,kvA,kvO,grF F w2.drew w3,Q,h3,fun b hb=>by
   rcases hb with hb | hb
   ·rcases hb with hb | hb
    ·exact .inl (HS2.out b (.inl hb))
    ·exact .inr ⟨by omega,hb.2⟩
   ·exact .inl (HS2.out b (.inr hb)),fun b hb=>hb.elim (fun h=>Nat.lt_of_lt_of_le (HS3.out b h) FF.size) (fun h=>h.2)⟩)
  have HFF:=Lib.hid FF
  clear hd3 h3 FF f3 hsz hA2 fd
  go_wp2_with fail
  go_ret
  have e:addH L x c = ((((addG (dgH L) x c.Parents).1:Nat):Int),L):=by unfold addH;rw [if_pos HKZ.out]
  unfold Add15
  rw [e]
  exact ⟨rfl,HNX.out,HFF.out⟩
 | false =>
  by_cases hxz:x = zID
  ·have dz:decide (x = zID) = true:=by simp [hxz]
   have HKZ:=Lib.hid (show (hasG (dgH L) x || decide (x = zID)) = true by rw [dz,Bool.or_true])
   have i2:=q2.i
   clear hxz
   go_upto_region 4 with fail
   clear i2 dz
   have u2:=(cgAt (Cod.bxd_rd q2.c)).parents
   rw [← HC.out.pl] at u2
   have c2':=cell_fr0 HA.out.c0 g2
   have hk:∀ w' w'':World,Fr noB w' w'' → (w'.cell? ⟨P,0,none⟩ = some (.pointer (some ⟨H,0,none⟩)) ∧ w'.cell? ⟨H,0,none⟩ = some (.pointer (some ⟨D,0,none⟩)) ∧ rdI w' (P + 1) 0 = some x ∧ w'.cell? ⟨P + 2,0,none⟩ = some (.slice r.PA c.Parents.length r.pc)) → (w''.cell? ⟨P,0,none⟩ = some (.pointer (some ⟨H,0,none⟩)) ∧ w''.cell? ⟨H,0,none⟩ = some (.pointer (some ⟨D,0,none⟩)) ∧ rdI w'' (P + 1) 0 = some x ∧ w''.cell? ⟨P + 2,0,none⟩ = some (.slice r.PA c.Parents.length r.pc)):=fun w' w'' f h=>⟨cell_fr0 h.1 f,cell_fr0 h.2.1 f,rdI_fr h.2.2.1 (rdI_lt h.2.2.1) f (by simp [noB]),cell_fr0 h.2.2.2 f⟩
   have fd:Fr noB w2 w2.drew:=(Fr.refl noB w2).drew
   have hF0:=hk _ _ fd ⟨q2.p,c2',q2.i,u2⟩
   have hA2:=HA.out.fr0 (g2.step0 fd)
   have CA:=Lib.hid (add_any w2.drew D F (dgH L) hA2.dag (by unfold dgH;rw [List.length_map];have:=HL.out;omega) x r.PA r.pc c.Parents.length c.Parents rfl (HC.out.ps.fr0 (g2.step0 fd)) (by have:=HPB.out;omega))
   refine wp_region_M 8 9 [⟨536870912,8,0⟩,⟨1073741824,536870912,1⟩,⟨2147483648,1073741824,2⟩,⟨4294967296,2147483648,4⟩,⟨8589934592,16,0⟩,⟨17179869184,32,0⟩,⟨34359738368,17179869184,32⟩,⟨68719476736,47244640256,88⟩,⟨64,68719476736,255⟩] [(true,0),(true,1),(true,2),(true,3),(true,4),(true,5),(true,6),(false,7)] (fun w'=>w'.cell? ⟨P,0,none⟩ = some (.pointer (some ⟨H,0,none⟩)) ∧ w'.cell? ⟨H,0,none⟩ = some (.pointer (some ⟨D,0,none⟩)) ∧ rdI w' (P + 1) 0 = some x ∧ w'.cell? ⟨P + 2,0,none⟩ = some (.slice r.PA c.Parents.length r.pc)) (by kernel_rfl) rfl (by kernel_rfl) (by kernel_rfl) (by kernel_rfl) hF0 (fun hA hF=>?_)
   iterate 7
    refine wpAnyS_take (v:=?_) hA rfl (fun _ _ _ h=>h) (Or.inl ⟨by rfl,?_⟩) hF (fun hA=>?_)
    rotate_left
    ·intro wS hSw;(try dsimp only at hSw);obtain ⟨s1,s2,s3,s4⟩:=hSw;first | (apply Eq.trans;apply ex_ld_id;exact rfl;exact rfl;assumption;with_reducible rfl) | (apply Eq.trans;apply ex_ldO_at;exact rfl;exact rfl;assumption;with_reducible rfl) | (apply Eq.trans;apply ex_ldC_at;exact rfl;exact rfl;assumption;with_reducible rfl) | (apply Eq.trans;apply ex_ldS_at;exact rfl;exact rfl;assumption;with_reducible rfl) | (go_simp;try with_reducible rfl)
    try simp only [sA1,sA2,sA3,Act.put,sA4,sA5,sA6]
   refine wpAnyS_one hA rfl (fun K' hK=>?_)
   go_simp
   go_at_call 35
   refine CA.out.mono ?_
   rintro e w3 ⟨rfl,hd3,f3⟩
   replace hF:=And.intro (gcell_fr hF0.1 f3 (fun h=>by have:=HA.out.lt _ h;have:=HP.out.1;omega)) (And.intro (gcell_fr hF0.2.1 f3 HA.out.nFH) (And.intro (rdI_fr hF0.2.2.1 (rdI_lt hF0.2.2.1) f3 (fun h=>by have:=HA.out.lt _ h;have:=HP.out.1;omega)) (gcell_fr hF0.2.2.2 f3 (fun h=>by have:=HA.out.lt _ h;have:=HP.out.1;omega))))
   refine hK.out _ _ hF (fun hA=>?_)
   clear hK K'
   as_aux_lemma =>
   refine wpAnyS_end hA rfl ?_
   simp only [List.drop_succ_cons,List.drop_zero]
   clear hF hk hF0 CA u2 c2'
   rw [addG_known HKZ.out] at hd3
   have h3:=hA2.dag0 hd3 f3
   have FF:Fr S w w3:=((g2.step0 fd).any (M:=S)).trans f3 (fun b _ hb=>HS2.out b (.inl hb))
   have hsz:w.heap.size ≤ w2.drew.heap.size:=(g2.step0 fd).size
   have HNX:=Lib.hid (show Hs w3 H (grF S w w3) L from ⟨D,A,O,kvA,kvO,grF F w2.drew w3,Q,h3,fun b hb=>by
    rcases hb with hb | hb
    ·rcases hb with hb | hb
     ·exact .inl (HS2.out b (.inl hb))
     ·exact .inr ⟨by omega,hb.2⟩
    ·exact .inl (HS2.out b (.inr hb)),fun b hb=>hb.elim (fun h=>Nat.lt_of_lt_of_le (HS3.out b h) FF.size) (fun h=>h.2)⟩)
   have HFF:=Lib.hid FF
   clear hd3 h3 FF f3 hsz hA2 fd
   go_wp2_with fail
   go_ret
   have e:addH L x c = ((((addG (dgH L) x c.Parents).1:Nat):Int),L):=by unfold addH;rw [if_pos HKZ.out]
   unfold Add15
   rw [e]
   exact ⟨rfl,HNX.out,HFF.out⟩
  ·have dz:decide (x = zID) = false:=by simp [hxz]
   have HKZ:=Lib.hid (show (hasG (dgH L) x || decide (x = zID)) = false by rw [← HKN.out,dz];rfl)
   have i2:=q2.i
   clear hxz
   go_upto_region 5 with fail
   clear i2 dz
   have q2c:=Cod.bxd_rd q2.c
   have q2p:=q2.p
   have CR:=Lib.hid (mgRight_any (HH.out.fr0 g2) r rs c (HC.out.fr g2))
   obtain ⟨rg,hrg⟩:∃ b,b = (rightCh c && timeOk L c):=⟨_,rfl⟩
   rw [← hrg] at CR
   have HRG:=Lib.hid hrg
   clear hrg
   cases rg with
   | false =>
    go_wp2_with (go_at_call 36;refine CR.out.mono ?_;rintro e w3 ⟨rfl,f3⟩)
    go_ret
    have e:addH L x c = (1,L):=by
     unfold addH
     rw [if_neg (by rw [HKZ.out];decide),if_pos (by rw [← HRG.out];rfl)]
    unfold Add15
    rw [e]
    exact ⟨rfl,HH.out.same (g2.step0 f3),(g2.step0 f3).any⟩
   | true =>
    have HR1:=Lib.hid (show rightCh c = true ∧ timeOk L c = true by have:=HRG.out;simpa using this.symm)
    go_upto_region 7 with (go_at_call 36;refine CR.out.mono ?_;rintro e w3 ⟨rfl,f3⟩)
    have q3:=q2.fr0 f3
    have g3:=g2.step0 f3
    clear q2 g2 q2c q2p f3 CR
    cases ms with
    | true =>
     go_wp2_with fail
     go_ret
     have e:addH L x c = (110,L):=by
      unfold addH
      rw [if_neg (by rw [HKZ.out];decide),if_neg (by rw [← HRG.out];decide),if_pos HMS.out.symm]
     unfold Add15
     rw [e]
     exact ⟨rfl,HH.out.same g3,g3.any⟩
    | false =>
     go_upto_region 9 with fail
     have u3:=(cgAt (Cod.bxd_rd q3.c)).ops
     have p3:=q3.p
     obtain ⟨r1,r2,r3,r4,r5,r6,r7⟩:=rightCh_parts HR1.out.1
     have HRP:=Lib.hid (And.intro r4 (And.intro r5 r6))
     have CC:=Lib.hid (mgClash_any (HH.out.fr0 g3) r.OA r.oc r.on rs c.Ops HC.out.ol (HC.out.os.fr0 g3) ⟨HC.out.ops.len,fun i a b=>(HC.out.ops.at_ i a b).fr g3⟩ (by omega) (fun o ho=>rightS_wf (goodOp_at (r4 o ho).1).1))
     clear r1 r2 r3 r4 r5 r6 r7
     obtain ⟨cl,hcl⟩:∃ b,b = clashO (opsH L) c.Ops:=⟨_,rfl⟩
     rw [← hcl] at CC
     have HCL:=Lib.hid hcl
     clear hcl
     cases cl with
     | true =>
      go_wp2_with (go_at_call 37;refine CC.out.mono ?_;rintro e w4 ⟨rfl,f4⟩)
      go_ret
      have e:addH L x c = (5,L):=by
       unfold addH
       rw [if_neg (by rw [HKZ.out];decide),if_neg (by rw [← HRG.out];decide),if_neg (by rw [← HMS.out];decide),if_pos HCL.out.symm]
      unfold Add15
      rw [e]
      exact ⟨rfl,HH.out.same (g3.step0 f4),(g3.step0 f4).any⟩
     | false =>
      have HE:=Lib.hid (show addH L x c = (0,(x,c) :: L) by
       unfold addH
       rw [if_neg (by rw [HKZ.out];decide),if_neg (by rw [← HRG.out];decide),if_neg (by rw [← HMS.out];decide),if_neg (by rw [← HCL.out];decide)])
      have HG:=Lib.hid (show addG (dgH L) x c.Parents = (0,(x,c.Parents) :: dgH L) from addG_new HKZ.out HR1.out.1 HMS.out.symm)
      go_upto_region 11 with (go_at_call 37;refine CC.out.mono ?_;rintro e w4 ⟨rfl,f4⟩)
      have q4:=q3.fr0 f4
      have g4:=g3.step0 f4
      clear q3 g3 u3 p3 f4 CC
      have u4:=(cgAt (Cod.bxd_rd q4.c)).parents
      rw [← HC.out.pl] at u4
      have c4':=cell_fr0 HA.out.c0 g4
      have hk:∀ w' w'':World,Fr noB w' w'' → (w'.cell? ⟨P,0,none⟩ = some (.pointer (some ⟨H,0,none⟩)) ∧ w'.cell? ⟨H,0,none⟩ = some (.pointer (some ⟨D,0,none⟩)) ∧ rdI w' (P + 1) 0 = some x ∧ w'.cell? ⟨P + 2,0,none⟩ = some (.slice r.PA c.Parents.length r.pc)) → (w''.cell? ⟨P,0,none⟩ = some (.pointer (some ⟨H,0,none⟩)) ∧ w''.cell? ⟨H,0,none⟩ = some (.pointer (some ⟨D,0,none⟩)) ∧ rdI w'' (P + 1) 0 = some x ∧ w''.cell? ⟨P + 2,0,none⟩ = some (.slice r.PA c.Parents.length r.pc)):=fun w' w'' f h=>⟨cell_fr0 h.1 f,cell_fr0 h.2.1 f,rdI_fr h.2.2.1 (rdI_lt h.2.2.1) f (by simp [noB]),cell_fr0 h.2.2.2 f⟩
      have fd:Fr noB w4 w4.drew:=(Fr.refl noB w4).drew
      have hF0:=hk _ _ fd ⟨q4.p,c4',q4.i,u4⟩
      have hA4:=HA.out.fr0 (g4.step0 fd)
      have CA:=Lib.hid (add_any w4.drew D F (dgH L) hA4.dag (by unfold dgH;rw [List.length_map];have:=HL.out;omega) x r.PA r.pc c.Parents.length c.Parents rfl (HC.out.ps.fr0 (g4.step0 fd)) (by have:=HPB.out;omega))
      refine wp_region_M 8 9 [⟨562949953421312,8,0⟩,⟨1125899906842624,562949953421312,1⟩,⟨2251799813685248,1125899906842624,2⟩,⟨4503599627370496,2251799813685248,4⟩,⟨9007199254740992,16,0⟩,⟨18014398509481984,32,0⟩,⟨36028797018963968,18014398509481984,32⟩,⟨72057594037927936,49539595901075456,88⟩,⟨512,72057594037927936,255⟩] [(true,0),(true,1),(true,2),(true,3),(true,4),(true,5),(true,6),(false,7)] (fun w'=>w'.cell? ⟨P,0,none⟩ = some (.pointer (some ⟨H,0,none⟩)) ∧ w'.cell? ⟨H,0,none⟩ = some (.pointer (some ⟨D,0,none⟩)) ∧ rdI w' (P + 1) 0 = some x ∧ w'.cell? ⟨P + 2,0,none⟩ = some (.slice r.PA c.Parents.length r.pc)) (by kernel_rfl) rfl (by kernel_rfl) (by kernel_rfl) (by kernel_rfl) hF0 (fun hA hF=>?_)
      iterate 7
       refine wpAnyS_take (v:=?_) hA rfl (fun _ _ _ h=>h) (Or.inl ⟨by rfl,?_⟩) hF (fun hA=>?_)
       rotate_left
       ·intro wS hSw;(try dsimp only at hSw);obtain ⟨s1,s2,s3,s4⟩:=hSw;first | (apply Eq.trans;apply ex_ld_id;exact rfl;exact rfl;assumption;with_reducible rfl) | (apply Eq.trans;apply ex_ldO_at;exact rfl;exact rfl;assumption;with_reducible rfl) | (apply Eq.trans;apply ex_ldC_at;exact rfl;exact rfl;assumption;with_reducible rfl) | (apply Eq.trans;apply ex_ldS_at;exact rfl;exact rfl;assumption;with_reducible rfl) | (go_simp;try with_reducible rfl)
       try simp only [sA1,sA2,sA3,Act.put,sA4,sA5,sA6]
      refine wpAnyS_one hA rfl (fun K' hK=>?_)
      go_simp
      go_at_call 35
      refine CA.out.mono ?_
      rintro e w5 ⟨rfl,hd5,f5⟩
      replace hF:=And.intro (gcell_fr hF0.1 f5 (fun h=>by have:=HA.out.lt _ h;have:=HP.out.1;omega)) (And.intro (gcell_fr hF0.2.1 f5 HA.out.nFH) (And.intro (rdI_fr hF0.2.2.1 (rdI_lt hF0.2.2.1) f5 (fun h=>by have:=HA.out.lt _ h;have:=HP.out.1;omega)) (gcell_fr hF0.2.2.2 f5 (fun h=>by have:=HA.out.lt _ h;have:=HP.out.1;omega))))
      refine hK.out _ _ hF (fun hA=>?_)
      clear hK K'
      as_aux_lemma =>
      refine wpAnyS_end hA rfl ?_
      simp only [List.drop_succ_cons,List.drop_zero]
      clear hF hk hF0 CA u4 c4'
      rw [HG.out] at hd5 ⊢
      have HP4:=Lib.hid (show P + 2 < w4.drew.heap.size by have:=(g4.step0 fd).size;have h3:=HP.out.2;have:=q4.c;exact (Cod.bxd_lt (Cod.bxd_fr0 q4.c fd)))
      have q5:=(q4.fr0 fd).fr f5 (fun h=>by have:=HA.out.lt _ h;have:=HP.out.1;omega) (fun h=>by have:=HA.out.lt _ h;have:=HP.out.1;omega) (fun h=>by have:=HA.out.lt _ h;have:=HP.out.1;omega)
      have HA4:=Lib.hid hA4
      have HD5:=Lib.hid hd5
      have HF5:=Lib.hid f5
      have HG4:=Lib.hid (g4.step0 fd)
      clear hA4 hd5 f5 g4 fd q4
      generalize w4.drew = V4 at HP4 HA4 HD5 HF5 HG4
      go_upto_region 14 with fail
      have cq5:=(HCQ.out.fr HG4.out (by simp [noB])).fr HF5.out (fun g hg hF=>hg (HS2.out g (.inl hF)))
      have CL:=Lib.hid (mgClone_any w5 r rs c cq5.inn HRP.out.2.1 (by have:=HRP.out.2.2;omega) (fun o ho=>by have:=goodOp_over (HRP.out.1 o ho).1;omega) (by have:=(rightCh_parts HR1.out.1).1;omega))
      have r5:=Cod.bxd_rd q5.c
      have z5:=q5.c
      clear cq5
      go_upto_region 15 with (go_at_call 38;refine CL.out.mono ?_;rintro e w6 ⟨r6,rs6,rfl,n6,f6⟩;have hst:=okC.stR_box (Cod.bxd_fr0 z5 f6) r6;obtain ⟨p1,p2,p3⟩:=Cod.put_fr (Cod.bxd_fr0 z5 f6) r6)
      have hne:=fun b (hb:grF F V4 w5 b)=>(show b ≠ P + 2 from fun e=>by
       subst e
       rcases hb with hb | hb
       ·have:=HA.out.lt _ hb;have:=HP.out.1;omega
       ·have:=HP4.out;omega)
      have f65:Fr noB w5 w6:=f6
      have fD:=(f65.any (M:=oneB (P + 2))).trans p1 (fun _ _ h=>h)
      have HD7:=Lib.hid (HD5.out.fr fD (fun b hb e=>hne b hb e))
      have n7:=n6.put (Cod.bxd_fr0 q5.c f6) p1
      have q7p:=gcell_fr (cell_fr0 q5.p f6) p1 (by show ¬ P = P + 2;omega)
      have q7i:=rdI_fr (rdI_fr q5.i (rdI_lt q5.i) f6 (by simp [noB])) (rdI_lt (rdI_fr q5.i (rdI_lt q5.i) f6 (by simp [noB]))) p1 (by show ¬ P + 1 = P + 2;omega)
      have HN7:=Lib.hid n7
      have HFD:=Lib.hid fD
      have HR6:=Lib.hid (show c.Ops.length = r6.on ∧ rs6.length = r6.on ∧ rs6.length = c.Ops.length from ⟨by rw [← n6.inn.ops.len];exact n6.inn.ol,n6.inn.ol,n6.inn.ops.len⟩)
      clear hne n6 f6 f65 fD n7 p1 p2 z5 r5 q5 CL hst
      generalize codC.put w6 (P + 2) r6 = W7 at p3 HD7 q7p q7i HN7 HFD ⊢
      -- the map of commits
      have sl5:=HFD.out.size
      have h5s:=HF5.out.size
      have lA:=mpI_lt HA4.out.all
      have lO:=mpT_lt HA4.out.ops
      have lH:=Blk.lt HA4.out.blk
      have P2:=HP4.out
      have cA:W7.cell? ⟨H,1,none⟩ = some (.map (some A)):=gcell_fr (gcell_fr HA4.out.c1 HF5.out HA4.out.nFH) HFD.out (by show ¬ H = P + 2;have:=Blk.lt HA.out.blk;have:=HP.out.1;omega)
      have mA:mpI W7 A = some kvA:=mpI_fr (mpI_fr HA4.out.all HF5.out HA4.out.nFA) HFD.out (by show ¬ A = P + 2;have:=mpI_lt HA.out.all;have:=HP.out.1;omega)
      have r7:=Cod.bxd_rd p3
      have hk:∀ w' w'':World,Fr noB w' w'' → (w'.cell? ⟨P,0,none⟩ = some (.pointer (some ⟨H,0,none⟩)) ∧ w'.cell? ⟨H,1,none⟩ = some (.map (some A)) ∧ rdI w' (P + 1) 0 = some x ∧ codC.rd w' (P + 2) 0 = some r6) → (w''.cell? ⟨P,0,none⟩ = some (.pointer (some ⟨H,0,none⟩)) ∧ w''.cell? ⟨H,1,none⟩ = some (.map (some A)) ∧ rdI w'' (P + 1) 0 = some x ∧ codC.rd w'' (P + 2) 0 = some r6):=fun w' w'' f h=>⟨cell_fr0 h.1 f,cell_fr0 h.2.1 f,rdI_fr h.2.2.1 (rdI_lt h.2.2.1) f (by simp [noB]),Cod.rd_fr0 h.2.2.2 f⟩
      have fd:Fr noB W7 W7.drew:=(Fr.refl noB W7).drew
      have hF0:=hk _ _ fd ⟨q7p,cA,q7i,r7⟩
      have mA7:mpI W7.drew A = some kvA:=by rw [mpI_drew];exact mA
      refine wp_region_M 6 7 [⟨4611686018427387904,8,0⟩,⟨9223372036854775808,4611686018427387904,1⟩,⟨18446744073709551616,9223372036854775808,2⟩,⟨36893488147419103232,18446744073709551616,4⟩,⟨73786976294838206464,16,0⟩,⟨147573952589676412928,32,0⟩,⟨0,258254417031933722624,63⟩] [(true,0),(true,1),(true,2),(true,3),(true,4),(true,5)] (fun w'=>w'.cell? ⟨P,0,none⟩ = some (.pointer (some ⟨H,0,none⟩)) ∧ w'.cell? ⟨H,1,none⟩ = some (.map (some A)) ∧ rdI w' (P + 1) 0 = some x ∧ codC.rd w' (P + 2) 0 = some r6) (by kernel_rfl) rfl (by kernel_rfl) (by kernel_rfl) (by kernel_rfl) hF0 (fun hA hF=>?_)
      iterate 6
       refine wpAnyS_take (v:=?_) hA rfl (fun _ _ _ h=>h) (Or.inl ⟨by rfl,?_⟩) hF (fun hA=>?_)
       rotate_left
       ·intro wS hSw;(try dsimp only at hSw);obtain ⟨s1,s2,s3,s4⟩:=hSw;first | (apply Eq.trans;apply ex_ld_id;exact rfl;exact rfl;assumption;with_reducible rfl) | (apply Eq.trans;apply ex_ldO_at;exact rfl;exact rfl;assumption;with_reducible rfl) | (apply Eq.trans;apply ex_ldC_at;exact rfl;exact rfl;assumption;with_reducible rfl) | (apply Eq.trans;apply ex_ldS_at;exact rfl;exact rfl;assumption;with_reducible rfl) | (go_simp;try with_reducible rfl)
       try simp only [sA1,sA2,sA3,Act.put,sA4,sA5,sA6]
      refine wpAnyS_end hA rfl ?_
      simp only [List.drop_succ_cons,List.drop_zero]
      clear hF hk hF0
      obtain ⟨_,v2,v3,v4⟩:=mput_all Tryz.underlying86 mA7 x (.agg (codC.A r6))
      have FA:=(fd.any (M:=oneB A)).trans v3 (fun _ _ h=>h)
      have nHA:=HA.out.nHA
      have q8p:=gcell_fr q7p FA (by show ¬ P = A;have:=mpI_lt HA.out.all;have:=HP.out.1;omega)
      have q8c:=Cod.bxd_fr p3 FA (by show ¬ P + 2 = A;have:=mpI_lt HA.out.all;have:=HP.out.1;omega)
      have c8H:(mput 86 W7.drew A x (.agg (codC.A r6))).cell? ⟨H,2,none⟩ = some (.map (some O)):=gcell_fr (gcell_fr (gcell_fr HA4.out.c2 HF5.out HA4.out.nFH) HFD.out (by show ¬ H = P + 2;have:=Blk.lt HA.out.blk;have:=HP.out.1;omega)) FA nHA
      have mO:mpT (mput 86 W7.drew A x (.agg (codC.A r6))) O = some kvO:=mpT_fr (mpT_fr (mpT_fr HA4.out.ops HF5.out HA4.out.nFO) HFD.out (by show ¬ O = P + 2;have:=mpT_lt HA.out.ops;have:=HP.out.1;omega)) FA (fun e=>HA.out.nAO e.symm)
      have HFA:=Lib.hid FA
      have HMA:=Lib.hid v2
      clear v3 v4 FA fd mA7 mA cA q7p q7i r7
      go_upto_region 16 with fail
      generalize mput 86 W7.drew A x (.agg (codC.A r6)) = W8 at q8p q8c c8H mO HFA HMA ⊢
      have u8:=(cgAt (Cod.bxd_rd q8c)).ops
      rw [← HR6.out.1] at u8
      obtain ⟨AO,hAO⟩:∃ A,A = r6.OA:=⟨_,rfl⟩
      rw [← hAO] at u8
      have HAO:=Lib.hid hAO
      clear hAO
      obtain ⟨Q',hQ'⟩:∃ Q':Nat → Prop,Q' = fun g=>w5.heap.size ≤ g ∧ g < W7.heap.size:=⟨_,rfl⟩
      have hq7:CgQ Q' W7 r6 rs6 c:=HN7.out.q (fun g h1 h2=>by rw [hQ'];exact ⟨h1,h2⟩)
      have lA0:=mpI_lt HA.out.all
      have lO0:=mpT_lt HA.out.ops
      have hPP:=HP.out.1
      have nQA:∀ g,Q' g → g ≠ A ∧ g ≠ O ∧ ¬ grF F V4 w5 g ∧ ¬ Q g ∧ g < W7.heap.size:=fun g hg=>by
       rw [hQ'] at hg
       refine ⟨by omega,by omega,fun hb=>?_,fun hb=>?_,hg.2⟩
       ·rcases hb with hb | hb
        ·have:=HA.out.lt _ hb;omega
        ·omega
       ·have:=(HA.out.q _ hb).2.2.2;omega
      have HQ8:=Lib.hid (hq7.fr HFA.out (fun g hg e=>(nQA g hg).1 e))
      have HNQ:=Lib.hid nQA
      have HNL:=Lib.hid (show ∀ g,Q' g → ¬ g < w.heap.size from fun g hg hlt=>by rw [hQ'] at hg;omega)
      have hs8:OpsM (fun g=>Q g ∨ Q' g) W8 kvO (opsH L ++ c.Ops.take 0):=by
       rw [List.take_zero,List.append_nil]
       exact ((((HA.out.os.fr HG4.out (by simp [noB])).fr HF5.out (fun g hg=>(HA.out.q g hg).1)).fr HFD.out (fun g hg e=>by have:=(HA.out.q g hg).2.2.2;have e':g = P + 2:=e;omega)).fr HFA.out (fun g hg e=>(HA.out.q g hg).2.1 e)).mono fun g hg=>.inl hg
      have hi0:AdLoop W8 O (fun g=>Q g ∨ Q' g) (opsH L) c.Ops c.Ops.length (.int .i64 ((0:Nat):Int)) W8:=⟨0,kvO,rfl,rfl,Nat.zero_le _,mO,hs8,Fr.refl _ _⟩
      have HP8:=Lib.hid q8p
      have HC8:=Lib.hid c8H
      have HSO:=Lib.hid (show SameO (opsH L ++ c.Ops) by
       have h1:=(HH.out.ok.add x c).same
       rw [HE.out] at h1
       exact h1.sub fun o ho=>by
        rw [show opsH ((x,c) :: L) = c.Ops ++ opsH L from rfl]
        simpa [or_comm] using ho)
      clear hq7 nQA hs8 mO q8p c8H hQ' hPP lA0 lO0 sl5 h5s lA lO lH P2
      go_wp2_with fail
      clear u8
      go_loopg [71] c.Ops.length (fun gk iv wr=>AdLoop W8 O (fun g=>Q g ∨ Q' g) (opsH L) c.Ops gk iv wr)
      case atStart=>exact hi0
      case round =>
       clear hi0
       obtain ⟨k,kv,rfl,rfl,hk,hm,hom,hf⟩:=hrel
       by_cases hlt:k < c.Ops.length
       ·have j0:(0:Int) ≤ (k:Int):=by omega
        have j1:(k:Int) < (c.Ops.length:Int):=by omega
        have hkr:k < rs6.length:=by rw [HR6.out.2.2];exact hlt
        have hq:=HQ8.out.fr hf (fun g hg e=>(HNQ.out g hg).2.1 e)
        obtain ⟨g,off,hOA,hgg⟩:=hq.inn.os.adC (by omega)
        have e1:codO.rd wr g (off + k * 41) = some rs6[k]:=by
         have:=hq.inn.os
         rw [hOA] at this
         exact this.rd k hkr
        have hin:=hq.vq k hkr hlt
        have HTK:=Lib.hid (show c.Ops.take (k + 1) = c.Ops.take k ++ [c.Ops[k]] from List.take_succ_eq_append_getElem hlt)
        have hgd:=(HRP.out.1 _ (List.getElem_mem hlt)).1
        have HSK:=Lib.hid (show SameO ((opsH L ++ c.Ops.take k) ++ [c.Ops[k]]) from HSO.out.sub fun o ho=>by
         rw [List.append_assoc,← HTK.out] at ho
         rcases List.mem_append.1 ho with ho | ho
         ·exact List.mem_append_left _ ho
         ·exact List.mem_append_right _ (List.mem_of_mem_take ho))
        generalize rs6[k] = ro at e1 hin
        generalize c.Ops[k] = o at hin HTK hgd HSK
        have ea:ro.At = o.At:=by rw [hin.inn.eq];rfl
        have hw:=rightS_wf (goodOp_at hgd).1
        have HIN:=Lib.hid hin
        have HLT:=Lib.hid hlt
        have HOM:=Lib.hid hom
        have HF:=Lib.hid hf
        have p9:=gcell_fr HP8.out hf (by show ¬ P = O;have:=mpT_lt HA.out.ops;have:=HP.out.1;omega)
        have c9:=gcell_fr HC8.out hf HA.out.nHO
        have hAOg:=HAO.out.trans hOA
        subst hAOg
        clear hOA
        clear hk hlt hq hin hom hf hgd hkr
        go_upto_region 19 with fail
        have f12:Fr noB wr (wr.alloc (codO.o ro)):=(Fr.refl noB wr).alloc _
        have q12:=opAt (Cod.rd_new' (C:=codO) wr ro)
        obtain ⟨D2,hD2⟩:∃ x,x = wr.heap.size:=⟨_,rfl⟩
        rw [← hD2] at q12 ⊢
        have p10:=cell_fr0 p9 f12
        have c10:=cell_fr0 c9 f12
        have m10:=mpT_fr0 hm f12
        have a10:=q12.At
        have s10:=q12.self
        rw [ea] at a10
        have HF12:=Lib.hid ((HF.out.trans (f12.any (M:=oneB O)) (fun _ _ h=>h)))
        have HIN12:=Lib.hid (HIN.out.fr f12 (by simp [noB]))
        have HOM12:=Lib.hid (HOM.out.fr f12 (by simp [noB]))
        clear e1 hD2 p9 c9 hm f12 q12
        generalize wr.alloc (codO.o ro) = W12 at p10 c10 m10 a10 s10 HF12 HIN12 HOM12 ⊢
        have hk:∀ w' w'':World,Fr noB w' w'' → (w'.cell? ⟨P,0,none⟩ = some (.pointer (some ⟨H,0,none⟩)) ∧ w'.cell? ⟨H,2,none⟩ = some (.map (some O)) ∧ codS.rd w' D2 1 = some o.At ∧ codO.rd w' D2 0 = some ro) → (w''.cell? ⟨P,0,none⟩ = some (.pointer (some ⟨H,0,none⟩)) ∧ w''.cell? ⟨H,2,none⟩ = some (.map (some O)) ∧ codS.rd w'' D2 1 = some o.At ∧ codO.rd w'' D2 0 = some ro):=fun w' w'' f h=>⟨cell_fr0 h.1 f,cell_fr0 h.2.1 f,Cod.rd_fr0 h.2.2.1 f,Cod.rd_fr0 h.2.2.2 f⟩
        have fd:Fr noB W12 W12.drew:=(Fr.refl noB W12).drew
        have hF0:=hk _ _ fd ⟨p10,c10,a10,s10⟩
        have m11:mpT W12.drew O = some kv:=by rw [mpT_drew];exact m10
        clear m10
        refine wp_region_M 7 8 [⟨37778931862957161709568,8,0⟩,⟨75557863725914323419136,37778931862957161709568,1⟩,⟨151115727451828646838272,75557863725914323419136,2⟩,⟨302231454903657293676544,151115727451828646838272,4⟩,⟨604462909807314587353088,2048,0⟩,⟨1208925819614629174706176,604462909807314587353088,16⟩,⟨2417851639229258349412352,2048,0⟩,⟨0,3929008913747544817795072,127⟩] [(true,0),(true,1),(true,2),(true,3),(true,4),(true,5),(true,6)] (fun w'=>w'.cell? ⟨P,0,none⟩ = some (.pointer (some ⟨H,0,none⟩)) ∧ w'.cell? ⟨H,2,none⟩ = some (.map (some O)) ∧ codS.rd w' D2 1 = some o.At ∧ codO.rd w' D2 0 = some ro) (by kernel_rfl) rfl (by kernel_rfl) (by kernel_rfl) (by kernel_rfl) hF0 (fun hA hF=>?_)
        iterate 7
         refine wpAnyS_take (v:=?_) hA rfl (fun _ _ _ h=>h) (Or.inl ⟨by rfl,?_⟩) hF (fun hA=>?_)
         rotate_left
         ·intro wS hSw;(try dsimp only at hSw);obtain ⟨s1,s2,s3,s4⟩:=hSw;first | (apply Eq.trans;apply ex_ld_id;exact rfl;exact rfl;assumption;with_reducible rfl) | (apply Eq.trans;apply ex_ldO_at;exact rfl;exact rfl;assumption;with_reducible rfl) | (apply Eq.trans;apply ex_ldC_at;exact rfl;exact rfl;assumption;with_reducible rfl) | (apply Eq.trans;apply ex_ldS_at;exact rfl;exact rfl;assumption;with_reducible rfl) | (go_simp;try with_reducible rfl)
         try simp only [sA1,sA2,sA3,Act.put,sA4,sA5,sA6]
        refine wpAnyS_end hA rfl ?_
        simp only [List.drop_succ_cons,List.drop_zero]
        clear hF hk hF0
        obtain ⟨_,v2,v3,v4⟩:=mputT_all Tryz.underlying87 m11 hw (.agg (codO.A ro))
        have FO:=(fd.any (M:=oneB O)).trans v3 (fun _ _ h=>h)
        have HNX:=Lib.hid (show mpT (mputT 87 W12.drew O o.At (.agg (codO.A ro))) O = some (putL kv o.At (.agg (codO.A ro))) ∧ OpsM (fun g=>Q g ∨ Q' g) (mputT 87 W12.drew O o.At (.agg (codO.A ro))) (putL kv o.At (.agg (codO.A ro))) ((opsH L ++ c.Ops.take k) ++ [o]) ∧ Fr (oneB O) W8 (mputT 87 W12.drew O o.At (.agg (codO.A ro))) from ⟨v2,(HOM12.out.fr FO (fun g hg e=>by
         rcases hg with hg | hg
         ·exact (HA.out.q g hg).2.2.1 e
         ·exact (HNQ.out g hg).2.1 e)).put HSK.out ((HIN12.out.fr FO (fun g hg e=>(HNQ.out g hg).2.1 e)).mono fun g hg=>.inr hg),HF12.out.trans FO (fun _ _ h=>h)⟩)
        have hk9:k ≤ 64:=by have:=HLT.out;have:=HRP.out.2.2;omega
        clear v2 v3 v4 FO fd p10 c10 a10 s10
        go_wp2_with fail
        go_roundg (c.Ops.length - (k + 1))
        case measure=>have:=HLT.out;omega
        case rel=>exact ⟨k + 1,_,by simp,rfl,HLT.out,HNX.out.1,by rw [HTK.out,← List.append_assoc];exact HNX.out.2.1,HNX.out.2.2⟩
       ·have j1:¬ (k:Int) < (c.Ops.length:Int):=by omega
        have hke:k = c.Ops.length:=by omega
        rw [hke,List.take_length] at hom
        go_wp2_with fail
        go_ret
        unfold Add15
        rw [HE.out]
        have lA0:=mpI_lt HA.out.all
        have lO0:=mpT_lt HA.out.ops
        have lH0:=Blk.lt HA.out.blk
        have hPP:=HP.out.1
        have hP4:=HP4.out
        have s4:=HG4.out.size
        have s5:=HF5.out.size
        have s7:=HFD.out.size
        have s8:=HFA.out.size
        have sr:=hf.size
        -- the whole step, from V4 on
        have fTq:Fr (fun b=>F b ∨ b = A ∨ b = O ∨ b = P + 2) V4 wr:=(((HF5.out.mono (fun b hb=>.inl hb)).trans (HFD.out.mono (fun b hb=>.inr (.inr (.inr hb)))) (fun _ _ h=>h)).trans (HFA.out.mono (fun b hb=>.inr (.inl hb))) (fun _ _ h=>h)).trans (hf.mono (fun b hb=>.inr (.inr (.inl hb)))) (fun _ _ h=>h)
        have hgF:∀ b,grF F V4 w5 b → b ≠ A ∧ b ≠ O ∧ b ≠ H:=fun b hb=>by
         rcases hb with hb | hb
         ·exact ⟨fun e=>HA.out.nFA (e ▸ hb),fun e=>HA.out.nFO (e ▸ hb),fun e=>HA.out.nFH (e ▸ hb)⟩
         ·refine ⟨by omega,by omega,by omega⟩
        have hdE:DagAt wr D (grF F V4 w5) (dgH ((x,c) :: L)):=(HD7.out.fr HFA.out (fun b hb e=>(hgF b hb).1 e)).fr hf (fun b hb e=>(hgF b hb).2.1 e)
        have hnx:findC L x = none:=by
         have h9:=HKZ.out
         rw [Bool.or_eq_false_iff,has_dg] at h9
         cases hfc:findC L x with
         | none=>rfl
         | some d=>rw [hfc] at h9;exact absurd h9.1 (by simp)
        have hmore:=HA4.out.more fTq (fun hb=>by
         rcases hb with hb | hb | hb | hb
         ·exact HA.out.nFH hb
         ·exact HA.out.nHA hb
         ·exact HA.out.nHO hb
         ·omega) (fun g hg hb=>by
         have hq:=HA.out.q g hg
         rcases hb with hb | hb | hb | hb
         ·exact hq.1 hb
         ·exact hq.2.1 hb
         ·exact hq.2.2.1 hb
         ·omega) hdE hnx (mpI_fr HMA.out hf (fun e=>HA.out.nAO e)) hm hom (HQ8.out.fr hf (fun g hg e=>(HNQ.out g hg).2.1 e)) (by have:=HH.out.ok.add x c;rw [HE.out] at this;exact this)
         (fun hb=>(hgF H hb).2.2 rfl) (fun hb=>(hgF A hb).1 rfl) (fun hb=>(hgF O hb).2.1 rfl) (fun g hg hb=>by
          have hq:=HA.out.q g hg
          rcases hb with hb | hb
          ·exact hq.1 hb
          ·omega) (fun g hg=>by
          have:=HNQ.out g hg
          exact ⟨this.2.2.1,this.1,this.2.1,by omega⟩) (fun b hb=>by
          rcases hb with hb | hb
          ·have:=HA.out.lt b hb;omega
          ·omega)
        have FF:Fr S w wr:=(HG4.out.any (M:=S)).step (fTq) (fun b hb=>by
         rcases hb with hb | hb | hb | hb
         ·exact .inr (HS2.out b (.inl hb))
         ·exact .inr (HS2.out b (by rw [hb];simp))
         ·exact .inr (HS2.out b (by rw [hb];simp))
         ·exact .inl (by omega))
        refine ⟨rfl,⟨D,A,O,_,_,_,_,hmore,fun b hb=>?_,fun b hb=>?_⟩,FF⟩
        ·rcases hb with hb | hb | hb
         ·rcases hb with hb | hb
          ·exact .inl (HS2.out b (.inl hb))
          ·exact .inr ⟨by omega,by omega⟩
         ·rcases hb with hb | hb
          ·exact .inl (HS2.out b (.inr (.inl hb)))
          ·have h1:=HNQ.out b hb
           have h2:¬ b < w.heap.size:=fun hlt=>HNL.out b hb hlt
           exact .inr ⟨by omega,by omega⟩
         ·exact .inl (HS2.out b (.inr (.inr hb)))
        ·rcases hb with hb | hb
         ·have:=HS3.out b hb;have:=FF.size;omega
         ·exact hb.2
end Go.Proofs.YtjpieiccpbcabaaGreat
namespace Go.Proofs.YtjpieiccpbcabaaGreat
open Go.RowKit
attribute [local go_sem] Oper.semAt_some
set_option maxRecDepth 100000 in
theorem mgFast1_any (w:World) (B t:Nat) (kv:List (St × Value)) (ov:List St) (hB:w.cell? ⟨B,0,none⟩ = some (.map (some t))) (hm:mpT w t = some kv) (hk:∀ s,(look kv s).getD (.bool false) = .bool (decide (s ∈ ov))) (r:OpW) (hw:wfS r.At = true) :
  Calls Tryz.prog 90 #[.agg (codO.A r),.pointer (some ⟨B,0,none⟩)] w (Gives w (.bool (decide (r.At ∈ ov)))):=by
 have f0:Fr noB w (w.alloc (.cells (codO.A r) 83)):=(Fr.refl noB w).alloc _
 have q1:=(opAt (Cod.rd_new (C:=codO) w 83 r)).At
 have q2:=cell_fr0 hB f0
 have q3:=mpT_fr0 hm f0
 have q4:=hk r.At
 clear hB hm hk
 go_enter Tryz.func90,Tryz.ntmps90
 go_wp2_with fail
 go_ret
 exact ⟨by rw [← q4];rfl,f0⟩
set_option maxRecDepth 100000 in
set_option maxHeartbeats 1000000 in
theorem ixF1_any (w:World) (A:Option Addr) (c n:Nat) (l:List OpW) (hn:l.length = n) (hs:Sl w A (codO.row l)) (hb:l.length ≤ 140737488355328) (cp:Value) (p:Nat → Bool)
  (hf:∀ w',Fr noB w w' → ∀ i (hi:i < l.length),Calls Tryz.prog 90 #[.agg (codO.A l[i]),cp] w' (Gives w' (.bool (p i)))) :
  Calls Tryz.prog 97 #[.slice A n c,.func (.func 90) #[] #[cp]] w (FiTo w l.length p):=by
 subst hn
 go_enter Tryz.func97,Tryz.ntmps97
 go_wp2_with fail
 go_loopg [8] l.length (fun gk iv wr=>IxR w l.length p gk iv wr)
 case atStart=>exact ⟨0,rfl,by omega,by omega,fun j hj=>absurd hj (by omega),Fr.refl _ _⟩
 case round =>
  obtain ⟨k,rfl,rfl,hk,hj,hf0⟩:=hrel
  have HJ:=Lib.hid hj
  clear hj
  by_cases hlt:k < l.length
  ·have i1:(k:Int) < (l.length:Int):=by omega
   have i0:(0:Int) ≤ (k:Int):=by omega
   obtain ⟨g,off,rfl,hg⟩:=hs.adC (by omega)
   have e1:codO.rd wr g (off + k * 41) = some l[k]:=(hs.fr0 hf0).rd k hlt
   have hc:=hf wr hf0 k hlt
   generalize l[k] = x at e1 hc
   by_cases hp:p k = true
   ·rw [hp] at hc
    have HP:=Lib.hid hp
    clear hp
    go_wp2_with (go_at_call 90;refine hc.mono ?_;rintro e w1 ⟨rfl,f1⟩)
    go_ret
    exact ⟨k,rfl,.inl ⟨k,hlt,rfl,HP.out,HJ.out⟩,hf0.step0 f1⟩
   ·have hp':p k = false:=by simpa using hp
    rw [hp'] at hc
    have HP:=Lib.hid hp'
    clear hp hp'
    go_wp2_with (go_at_call 90;refine hc.mono ?_;rintro e w1 ⟨rfl,f1⟩)
    go_roundg (l.length - (k + 1))
    case measure=>omega
    case rel=>exact ⟨k + 1,by simp,rfl,by omega,fun j hj=>by
     rcases Nat.lt_or_ge j k with h | h
     ·exact HJ.out j h
     ·have:j = k:=by omega
      rw [this];exact HP.out,hf0.step0 f1⟩
  ·have hkl:k = l.length:=by omega
   subst hkl
   have i1:¬ (l.length:Int) < (l.length:Int):=by omega
   go_wp2_with fail
   go_ret
   exact ⟨-1,rfl,.inr ⟨rfl,HJ.out⟩,hf0⟩
def leftW (ov:List St) (l:List OpW):List OpW:=l.filter fun h=>!decide (h.At ∈ ov)
def DelToW (w0:World) (l:List OpW) (e:Ending) (w':World):Prop:=∃ A c,e = .returned (.slice A l.length c) ∧ OwnC codO w0 w' A c l ∧ Fr noB w0 w' ∧ l.length ≤ c
def DelRW (w0:World) (A:Option Addr) (c g:Nat) (ov:List St) (l:List OpW) (gk:Nat) (iv jv:Value) (wr:World):Prop :=
 ∃ (m j:Nat) (d:List OpW),iv = .int .i64 (m:Int) ∧ jv = .int .i64 (j:Int) ∧ gk = l.length - j ∧ m < j ∧ j ≤ l.length ∧ d.length = l.length ∧ OwnC codO w0 wr A c d ∧ d.take m = leftW ov (l.take j) ∧ d.drop j = l.drop j ∧ Fr noB w0 wr
theorem leftW_none {ov:List St} {l:List OpW} {k:Nat} (hk:k ≤ l.length) (h:∀ j (hj:j < l.length),j < k → decide ((l[j]).At ∈ ov) = false):leftW ov (l.take k) = l.take k:=by
 unfold leftW
 rw [List.filter_eq_self]
 intro x hx
 obtain ⟨j,hj,rfl⟩:=List.getElem_of_mem hx
 rw [List.getElem_take]
 have hj':j < k:=by rw [List.length_take] at hj;omega
 rw [h j (by omega) hj'];rfl
theorem leftW_succ (ov:List St) (l:List OpW) (k:Nat) (hk:k < l.length):leftW ov (l.take (k + 1)) = leftW ov (l.take k) ++ (if decide ((l[k]).At ∈ ov) = true then [] else [l[k]]):=by
 unfold leftW
 rw [List.take_succ_eq_append_getElem hk,List.filter_append]
 congr 1
 cases h:decide ((l[k]).At ∈ ov) <;> simp [h]
set_option maxRecDepth 100000 in
set_option maxHeartbeats 4000000 in
theorem delOps_any (w0 w:World) (fw:Fr noB w0 w) (A:Option Addr) (c n:Nat) (l:List OpW) (hn:l.length = n) (hown:OwnC codO w0 w A c l) (hcap:l.length ≤ c) (hb:l.length ≤ 1000000)
  (B t:Nat) (kv:List (St × Value)) (ov:List St) (hB:w0.cell? ⟨B,0,none⟩ = some (.map (some t))) (hm:mpT w0 t = some kv) (hk:∀ s,(look kv s).getD (.bool false) = .bool (decide (s ∈ ov))) (hw:∀ r ∈ l,wfS r.At = true) :
  Calls Tryz.prog 89 #[.slice A n c,.func (.func 90) #[] #[.pointer (some ⟨B,0,none⟩)]] w (DelToW w0 (leftW ov l)):=by
 subst hn
 have HW:=Lib.hid hw
 have HC:=Lib.hid (fun w' (f:Fr noB w0 w') (h:OpW) (hh:wfS h.At = true)=>mgFast1_any w' B t kv ov (cell_fr0 hB f) (mpT_fr0 hm f) hk h hh)
 have HI:=Lib.hid (ixF1_any w A c l.length l rfl (Sl.own hown) (by omega) (.pointer (some ⟨B,0,none⟩)) (fun i=>if h:i < l.length then decide ((l[i]).At ∈ ov) else false) (fun w' f i hi=>by
  have:=HC.out w' (fw.step0 f) l[i] (HW.out _ (List.getElem_mem hi))
  simpa [hi] using this))
 have hown0:=Lib.hid hown
 clear hB hm hk hw
 go_enter Tryz.func89,Tryz.ntmps89
 go_upto_region 2 with (go_at_call 97;refine HI.out.mono ?_;rintro e w1 ⟨z,rfl,hz,f1⟩)
 replace hown:=own_new0 hown f1
 replace fw:=fw.step0 f1
 clear HI hown0 f1
 rcases hz with ⟨i,hi,rfl,hp,hlo⟩ | ⟨rfl,hno⟩
 ·have hne:¬ ((i:Int) = -1):=by omega
  have hne2:((i:Int) == -1) = false:=by rw [beq_eq_false_iff_ne];omega
  have hl0:l ≠ []:=by intro h;rw [h] at hi;simp at hi
  obtain ⟨g,rfl,hg,_,_,_⟩:=RwA.own hown hl0
  have wi:IntKind.i64.wrap ((i:Int) + 1) = ((i + 1:Nat):Int):=by rw [IntKind.wrap_i64];omega
  have HS:=Lib.hid (show l.take i = leftW ov (l.take (i + 1)) by
   rw [leftW_succ ov l i hi,leftW_none (by omega) (fun j h1 h2=>by have:=hlo j h2;simpa [h1] using this)]
   have:decide ((l[i]).At ∈ ov) = true:=by simpa [hi] using hp
   rw [this];simp)
  clear hp hlo
  go_wp2_with fail
  clear wi hne hne2
  go_loopg [5,6] (l.length - (i + 1)) (fun gk iv jv wr=>DelRW w0 (some ⟨g,0,none⟩) c g ov l gk iv jv wr)
  case atStart=>exact ⟨i,i + 1,l,rfl,by simp,rfl,by omega,by omega,rfl,hown,HS.out,rfl,fw⟩
  case round =>
   clear hown fw HS
   obtain ⟨m,j,d,rfl,rfl,rfl,hmj,hjl,hdl,hod,hdt,hdd,hfr⟩:=hrel
   have HDT:=Lib.hid hdt
   have HDD:=Lib.hid hdd
   clear hdt hdd
   by_cases hlt:j < l.length
   ·have i1:(j:Int) < (l.length:Int):=by omega
    have i0:(0:Int) ≤ (j:Int):=by omega
    obtain ⟨_,e0,_,_,_,hR⟩:=RwA.own hod (by intro h;rw [h] at hdl;simp at hdl;omega)
    injection e0 with e0
    injection e0 with e0
    subst e0
    have hdj:d[j]'(by omega) = l[j]:=by
     have h1:(d.drop j)[0]? = (l.drop j)[0]?:=by rw [HDD.out]
     rw [List.getElem?_drop,List.getElem?_drop,Nat.add_zero,List.getElem?_eq_getElem (by omega),List.getElem?_eq_getElem hlt] at h1
     injection h1
    have e1:codO.rd wr g (j * 41) = some l[j]:=by
     have:=(Sl.own hod).rd j (by omega)
     rw [hdj] at this
     simpa [show codO.n = 41 from rfl] using this
    have hsc:=leftW_succ ov l j hlt
    have hc:=fun w' (f:Fr noB wr w')=>HC.out w' (hfr.step0 f) l[j] (HW.out _ (List.getElem_mem hlt))
    have hdrop:d.drop (j + 1) = l.drop (j + 1):=by
     have:=congrArg (List.drop 1) HDD.out
     rwa [List.drop_drop,List.drop_drop] at this
    have HDR:=Lib.hid hdrop
    generalize l[j] = x at e1 hsc hc hdj
    have fa:Fr noB wr (wr.alloc (codO.o x)):=(Fr.refl noB wr).alloc _
    have n1:=Cod.rd_new' (C:=codO) wr x
    have hc':=hc _ fa
    obtain ⟨b,hbb⟩:∃ b,b = decide (x.At ∈ ov):=⟨_,rfl⟩
    rw [← hbb] at hc' hsc
    have HSC:=Lib.hid hsc
    clear hsc hc hbb hdrop hdj hR
    cases b with
    | true =>
     go_wp2_with (go_at_call 90;refine hc'.mono ?_;rintro e w2 ⟨rfl,f2⟩)
     go_roundg (l.length - (j + 1))
     case measure=>omega
     case rel=>exact ⟨m,j + 1,d,rfl,by simp,rfl,by omega,by omega,hdl,own_new0 (own_new0 hod fa) f2,by rw [HDT.out,HSC.out];simp,HDR.out,(hfr.step0 fa).step0 f2⟩
    | false =>
     go_upto_region 9 with (go_at_call 90;refine hc'.mono ?_;rintro e w2 ⟨rfl,f2⟩)
     have n2:=Cod.rd_fr0 n1 f2
     have hod2:=own_new0 (own_new0 hod fa) f2
     have hfr2:=(hfr.step0 fa).step0 f2
     have hmd:m < d.length:=by omega
     obtain ⟨_,e0,_,_,_,hR⟩:=RwA.own hod2 (by intro h;rw [h] at hmd;simp at hmd)
     injection e0 with e0
     injection e0 with e0
     subst e0
     have hst:=hR.st okO m (by simpa using hmd) x
     obtain ⟨o3,f3⟩:=OwnC.set hod2 rfl m hmd x
     have j2:(0:Int) ≤ (m:Int):=by omega
     have j3:(m:Int) < (l.length:Int):=by omega
     have HO:=Lib.hid o3
     have HF:=Lib.hid f3
     clear o3 f3 hR hod e1 fa n1 hod2
     have hcn:codO.n = 41:=rfl
     rw [hcn] at hst HO HF
     have wm1:IntKind.i64.wrap ((m:Int) + 1) = ((m + 1:Nat):Int):=by rw [IntKind.wrap_i64];omega
     go_wp2_with fail
     go_roundg (l.length - (j + 1))
     case measure=>omega
     case rel =>
      refine ⟨m + 1,j + 1,d.set m x,by simp,by simp,rfl,by omega,by omega,by simp [hdl],HO.out,?_,?_,hfr2.step1 HF.out hg⟩
      ·have h1:m < (d.set m x).length:=by simpa using hmd
       rw [HSC.out,← HDT.out,List.take_succ_eq_append_getElem h1]
       simp [List.take_set_of_le]
      ·rw [List.drop_set_of_lt (by omega)]
       exact HDR.out
   ·have hjl2:j = l.length:=by omega
    subst hjl2
    have i1:¬ (l.length:Int) < (l.length:Int):=by omega
    have k1:(0:Int) ≤ (m:Int):=by omega
    have k2:(m:Int) ≤ (l.length:Int):=by omega
    have k3:(m:Int) ≤ (c:Int):=by omega
    have hHD:=Lib.hid (show d.take m = leftW ov l by rw [HDT.out,List.take_length])
    have hml:(leftW ov l).length = m:=by
     rw [← hHD.out,List.length_take];omega
    have HML:=Lib.hid hml
    clear HDT HDD hml
    have hclr:=fun cc=>OwnC.clear okO Tryz.underlying33 hod rfl m (l.length - m) cc (by omega) (by omega)
    obtain ⟨o4,f4⟩:=OwnC.sets hod rfl m (List.replicate (l.length - m) codO.z) (by simp;omega) (by intro h;rw [h] at hdl;simp at hdl;omega)
    have hcn:codO.n = 41:=rfl
    rw [hcn] at hclr o4 f4
    have HO:=Lib.hid (OwnC.pre o4 m (by simp;omega))
    have HF:=Lib.hid f4
    clear o4 f4 hod
    go_wp2_with fail
    have he:(d.take m ++ List.replicate (l.length - m) codO.z ++ d.drop (m + (List.replicate (l.length - m) codO.z).length)).take m = leftW ov l:=by
     rw [List.append_assoc,List.take_left' (by rw [List.length_take];omega)]
     exact hHD.out
    have HO2:=HO.out
    rw [he] at HO2
    go_ret
    exact ⟨some ⟨g,0,none⟩,c,by rw [HML.out];rfl,HO2,hfr.step1 HF.out hg,by rw [HML.out];omega⟩
 ·have hid:leftW ov l = l:=by
   have:=leftW_none (ov:=ov) (l:=l) (k:=l.length) (Nat.le_refl _) (fun j h1 h2=>by have:=hno j h1;simpa [h1] using this)
   rwa [List.take_length] at this
  have HID:=Lib.hid hid
  clear hid hno
  go_wp2_with fail
  go_ret
  unfold DelToW
  rw [HID.out]
  exact ⟨A,c,rfl,hown,fw,hcap⟩
end Go.Proofs.YtjpieiccpbcabaaGreat
