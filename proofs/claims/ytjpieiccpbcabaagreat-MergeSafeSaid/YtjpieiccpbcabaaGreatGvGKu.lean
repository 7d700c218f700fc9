/- Contract: grove's do. (ex_ldS_at, ex_ldR_at) -/
import Derived.Test.YtjpieiccpbcabaaGreatGvFKu
set_option linter.unusedVariables false
set_option linter.unusedSimpArgs false
namespace Go.Proofs.YtjpieiccpbcabaaGreat
open Go.RowKit
theorem seD_tn (d:DnW) (b:Bool):(codD.cs d).set 41 (.bool b) = codD.cs { d with tn:=b }:=by
 have lo:(codO.cs d.op).length = 41:=codO.len _
 show (csD d).set 41 (.bool b) = csD { d with tn:=b }
 unfold csD
 rw [List.set_append_right _ _ (by omega),lo]
 rfl
theorem stw_Node {w:World} {b:Nat} {r:RwW} (h:codR.bxd w b = some r) (x:St):codS.stR w (.pointer (some ⟨b,0,none⟩)) (.agg (codS.A x)) = .ok .skip (codR.put w b { r with Node:=x }):=okS.stR_part h x 0 _ (by decide) rfl
theorem stw_Parent {w:World} {b:Nat} {r:RwW} (h:codR.bxd w b = some r) (x:St):codS.stR w (.pointer (some ⟨b,2,none⟩)) (.agg (codS.A x)) = .ok .skip (codR.put w b { r with Parent:=x }):=okS.stR_part h x 2 _ (by decide) rfl
theorem stw_At {w:World} {b:Nat} {r:RwW} (h:codR.bxd w b = some r) (x:St):codS.stR w (.pointer (some ⟨b,4,none⟩)) (.agg (codS.A x)) = .ok .skip (codR.put w b { r with At:=x }):=okS.stR_part h x 4 _ (by decide) rfl
theorem sew_Name (r:RwW) (l:List UInt8):(codR.cs r).set 6 (.string (str l)) = codR.cs { r with Name:=l }:=rfl
theorem sew_Heads (r:RwW) (A:Option Addr) (n c:Nat):(codR.cs r).set 7 (.slice A n c) = codR.cs { r with A:=A,n:=n,c:=c }:=rfl
theorem bldHd_2 (w:World) (s:St) (x:ID):(Instr.build 149 #[(0,.agg (codS.A s)),(1,encI x)]).run Tryz.prog w = .ok (.agg (codH.A ⟨s,x⟩)) w:=by
 have h1:∀ place:Nat → Option (Nat × Nat),place 0 = some (0,2) → place 1 = some (2,32) → Instr.fill place ([] ++ [Value.int .i64 0,Value.int .i64 0] ++ bv zID.1).toArray [(0,.agg (codS.A s)),(1,encI x)] = some (codH.cs ⟨s,x⟩).toArray:=by
  intro place p0 p1
  refine (fill_one place [] [.int .i64 0,.int .i64 0] (bv zID.1) [.int .i64 s.T,.int .i64 s.R] 0 (.agg (codS.A s)) _ (by rw [A_SS];rfl) (by simpa using p0) rfl).trans ?_
  have e1:=fill_one place [.int .i64 s.T,.int .i64 s.R] (bv zID.1) [] (bv x.1) 1 (encI x) [] (cellsI x) (by simpa [x.2] using p1) (by simp [x.2,zID])
  refine Eq.trans ?_ (e1.trans ?_)
  ·simp
  ·simp [Instr.fill,codH,csH]
 have hz:(zeroValue 149).run Tryz.prog w = .ok (.agg (codH.cs codH.z).toArray) w:=okH.zero w
 have hc:(Value.agg (codH.cs codH.z).toArray).cells = ([] ++ [Value.int .i64 0,Value.int .i64 0] ++ bv zID.1).toArray:=rfl
 have hsI:∀ w,(sizeOf 24).run Tryz.prog w = .ok 32 w:=fun w=>Tryz.sizeOf24 w
 simp only [Instr.build,Sem.run_bind,hz,Result.andThen_ok,run_underlying Tryz.underlying149,hc]
 simp only [List.mapM_toArray,List.mapM_cons,List.mapM_nil,Sem.run_bind,hsI,Tryz.sizeOf80,Result.andThen_ok,Sem.run_pure,Sem.run_map,map_pure,bind_pure_comp]
 rw [h1 _ rfl rfl]
 simp [Cod.A_eq]
@[simp ↓] theorem ex_bldHd2 (ρ:Operand → Value) (x0 x1:Operand) (d:Option Nat) (t:TypeId) (p:String) (f:Array Edge) (g:Option (Nat × Bool)) (w:World) :
  (execOp ρ { dst:=d,op:=.build 149 #[(0,x0),(1,x1)],type:=t,pos:=p,after:=f,guard:=g }).run Tryz.prog w = mkB 149 w [(0,ρ x0),(1,ρ x1)]:=(exB ρ _ _ _ rfl w).trans (by simp only [List.map_toArray,List.map_cons,List.map_nil])
@[simp] theorem mkB_Hd2 (w:World) (s:St) (x:ID):mkB 149 w [(0,.agg (codS.A s)),(1,encI x)] = .ok (.value (.agg (codH.A ⟨s,x⟩))) w:=mkB_ok (bldHd_2 w s x)
theorem gv_own {w0 w w':World} {e:TypeId} {size n c:Nat} {A:Option Addr} {xs:List Value} (f:Fr noB w0 w) (h:w.ownsRow w0.heap.size e size (.slice A n c) n xs) (hg:w.grownBy w' (A.map (·.block))):Fr noB w0 w' :=
 f.step (Fr.ofGrown (M:=fun b=>A.map (·.block) = some b) hg (fun g hg=>hg)) (fun b hb=>.inl (own_lt h b hb).1)
theorem gcell_fr {M:Nat → Prop} {w w':World} {b o:Nat} {v:Value} (h:w.cell? ⟨b,o,none⟩ = some v) (f:Fr M w w') (hM:¬ M b):w'.cell? ⟨b,o,none⟩ = some v :=
 (World.cell?_of_block (a:=⟨b,o,none⟩) (f.block b (World.block_lt_of_cell? _ _ h) hM)).trans h
theorem ex_stT_at {ρ:Operand → Value} {o:Oper} {a x:Operand} {w:World} {b k:Nat} {s:ByteArray} {u:Value} (ho:o.op = .store 9 a x) (ha:ρ a = .pointer (some ⟨b,k,none⟩)) (hx:ρ x = .string s) (hc:w.cell? ⟨b,k,none⟩ = some u) (hf:w.frozen? ⟨b,k,none⟩ = false) :
  (execOp ρ o).run Tryz.prog w = .ok .skip (w.setCell ⟨b,k,none⟩ (.string s)):=by
 obtain ⟨d,op,t,p,f,g⟩:=o
 simp only at ho
 subst ho
 go_simp
theorem own_zero {base:Nat} {w:World} {A:Option Addr} {c:Nat} {l:List Hd} (h:w.ownsRow base 149 34 (.slice A l.length c) l.length (codH.row l)):w.ownsRow 0 149 34 (.slice A l.length c) l.length (codH.row l):=own_base h (Nat.zero_le _)
theorem RwO.zero (w:World):RwO w zRwW zRwP:=⟨⟨rfl,rfl,Sl.nil _ _,by decide,by decide,by decide,by decide⟩,World.ownsRow_nil _ _ _ _⟩
theorem GvT.way {xs:List RwP} (h:GvT xs) {p:St} (hp:okP p = true) (hs:(findR xs p).isSome = true ∨ p.T = 0):reach xs xs.length p = true:=by
 unfold okP at hp
 rw [Bool.or_eq_true] at hp
 rcases hp with hp | hp
 ·rcases hs with hs | hs
  ·obtain ⟨q,hq⟩:=Option.isSome_iff_exists.1 hs
   obtain ⟨k,hk⟩:=h.up q (findR_some hq).1
   rw [findR_node hq] at hk
   exact reach_len hk
  ·exact absurd hs (rightS_T hp)
 ·exact reach_fixed hp _
theorem okP_wf {s:St} (h:okP s = true):wfS s = true:=by
 unfold okP at h
 rw [Bool.or_eq_true] at h
 rcases h with h | h
 ·exact rightS_wf h
 ·exact fixedS_wf h
def DoTo (w:World) (m:Nat) (xs:List RwP) (o:Opn) (e:Ending) (w':World):Prop :=
 ∃ d:DnW,e = .returned (.agg (codD.A d)) ∧ DnO w' d (doD xs o) ∧ (∃ rs',mpT w' m = some (tab rs') ∧ AllO RwO w' rs' (doX xs o)) ∧ Fr (oneB m) w w'
set_option maxRecDepth 100000 in
set_option maxHeartbeats 8000000 in
theorem gvDo_any (w:World) (b:Nat) (t:TrW) (ht:TrB w b t) (rs:List RwW) (xs:List RwP) (hm:mpT w t.m = some (tab rs)) (hR:AllO RwO w rs xs) (hT:GvT xs) (hbd:∀ x ∈ xs,x.Heads.length ≤ 1000000) (r:OpW) (o:Opn) (ho:OpO w r o) (hg:goodOp o = true) :
  Calls Tryz.prog 111 #[.pointer (some ⟨b,0,none⟩),.agg (codO.A r)] w (DoTo w t.m xs o):=by
 have f0:Fr noB w ((w.alloc (.cells (codO.A r) 83)).alloc (codD.o zDnW)):=((Fr.refl noB w).alloc _).alloc _
 have q:=opAt (Cod.rd_fr0 (Cod.rd_new (C:=codO) w 83 r) ((Fr.refl noB _).alloc (codD.o zDnW)))
 have bD:=Cod.bxd_new (C:=codD) (w.alloc (.cells (codO.A r) 83)) zDnW
 have hz:(w.alloc (.cells (codO.A r) 83)).heap.size = w.heap.size + 1:=by simp
 rw [hz] at bD
 have eK:o.Kind = r.Kind:=by rw [ho.inn.eq];rfl
 have eA:o.At = r.At:=by rw [ho.inn.eq];rfl
 have eN:o.Node = r.Node:=by rw [ho.inn.eq];rfl
 have eP:o.Parent = r.Parent:=by rw [ho.inn.eq];rfl
 have eM:o.Name = r.Name:=by rw [ho.inn.eq];rfl
 have eD:o.Data = r.Data:=by rw [ho.inn.eq];rfl
 have HE:=Lib.hid (show o.Kind = r.Kind ∧ o.At = r.At ∧ o.Node = r.Node ∧ o.Parent = r.Parent ∧ o.Name = r.Name ∧ o.Data = r.Data from ⟨eK,eA,eN,eP,eM,eD⟩)
 have hwn:wfS r.Node = true:=by rw [← eN];exact rightS_wf (goodOp_at hg).2.1
 have HG:=Lib.hid hg
 have HO:=Lib.hid ho
 have HR:=Lib.hid hR
 have HT:=Lib.hid hT
 have HBD:=Lib.hid hbd
 have hmS:=mpT_lt hm
 -- what lies at the node
 obtain ⟨rw0,b0,x0,hl1,hl2,h0,hx0⟩:∃ (rw0:RwW) (b0:Bool) (x0:RwP),(look (tab rs) r.Node).getD (.agg (codR.A zRwW)) = .agg (codR.A rw0) ∧ (look (tab rs) r.Node).isSome = b0 ∧ RwO w rw0 x0 ∧ x0 = (findR xs r.Node).getD zRwP ∧ b0 = (findR xs r.Node).isSome:=by
  rcases RwsO_.find hR r.Node with ⟨h1,h2⟩ | ⟨q,y,h1,h2,h3⟩
  ·exact ⟨zRwW,false,zRwP,by rw [look_tab,h1];rfl,by rw [look_tab,h1];rfl,RwO.zero w,by rw [h2];rfl,by rw [h2];rfl⟩
  ·exact ⟨q,true,y,by rw [look_tab,h1];rfl,by rw [look_tab,h1];rfl,h3,by rw [h2];rfl,by rw [h2];rfl⟩
 have H0:=Lib.hid h0
 have HX0:=Lib.hid hx0
 clear hz eK eA eN eP eM eD hg ho hR hT hbd h0 hx0
 have ht0:=ht.fr0 f0
 have hm0:=mpT_fr0 hm f0
 go_enter Tryz.func111,Tryz.ntmps111
 go_upto_region 1 with fail
 generalize (w.alloc (.cells (codO.A r) 83)).alloc (codD.o zDnW) = W0 at f0 q bD ht0 hm0 ⊢
 obtain ⟨O,hO⟩:∃ x,x = w.heap.size:=⟨_,rfl⟩
 obtain ⟨D,hD⟩:∃ x,x = w.heap.size + 1:=⟨_,rfl⟩
 rw [← hO] at q ⊢
 rw [← hD] at bD
 have eOD:O + 1 = D:=by omega
 rw [eOD]
 have HOD:=Lib.hid (And.intro hO hD)
 clear hO hD eOD
 obtain ⟨q1,q2,q3,q4,q5,q6,q7,q8,q9,q10⟩:=q
 clear q2 q3
 have b1:=ht0.m
 have hk:∀ w' w'':World,Fr noB w' w'' → (w'.cell? ⟨b,0,none⟩ = some (.map (some t.m)) ∧ codS.rd w' O 3 = some r.Node ∧ mpT w' t.m = some (tab rs)) → (w''.cell? ⟨b,0,none⟩ = some (.map (some t.m)) ∧ codS.rd w'' O 3 = some r.Node ∧ mpT w'' t.m = some (tab rs)):=fun w' w'' f h=>⟨cell_fr0 h.1 f,Cod.rd_fr0 h.2.1 f,mpT_fr0 h.2.2 f⟩
 have fd:Fr noB W0 W0.drew:=(Fr.refl noB W0).drew
 have hF0:=hk _ _ fd ⟨b1,q5,hm0⟩
 refine wp_region_M 12 13 [⟨4096,1,0⟩,⟨8192,4096,1⟩,⟨16384,8192,2⟩,⟨32768,16384,4⟩,⟨65536,8,0⟩,⟨131072,65536,16⟩,⟨262144,163840,40⟩,⟨2048,262144,64⟩,⟨524288,2048,128⟩,⟨1048576,2048,128⟩,⟨32,0,0⟩,⟨0,524320,1535⟩,⟨64,1048576,4095⟩] [(true,0),(true,1),(true,2),(true,3),(true,4),(true,5),(true,6),(true,7),(true,8),(true,9),(false,10),(false,11)] (fun w'=>w'.cell? ⟨b,0,none⟩ = some (.map (some t.m)) ∧ codS.rd w' O 3 = some r.Node ∧ mpT w' t.m = some (tab rs)) (by kernel_rfl) rfl (by kernel_rfl) (by kernel_rfl) (by kernel_rfl) hF0 (fun hA hF=>?_)
 iterate 10
  refine wpAnyS_take (v:=?_) hA rfl (fun _ _ _ h=>h) (Or.inl ⟨by rfl,?_⟩) hF (fun hA=>?_)
  rotate_left
  ·intro wS hSw;(try dsimp only at hSw);obtain ⟨s1,s2,s3⟩:=hSw;first | (apply Eq.trans;apply ex_ld_id;exact rfl;exact rfl;assumption;with_reducible rfl) | (apply Eq.trans;apply ex_ldR_at;exact rfl;exact rfl;assumption;with_reducible rfl) | (apply Eq.trans;apply ex_ldS_at;exact rfl;exact rfl;assumption;with_reducible rfl) | (go_simp;try with_reducible rfl)
  try simp only [sA1,sA2,sA3,Act.put,sA4,sA5,sA6]
 refine wpAnyS_one hA rfl (fun K' hK=>?_)
 refine step_runI rfl _ _ (okR.alOp _ _ rfl _) ?_
 have fa:Fr noB W0.drew (W0.drew.alloc (codR.o zRwW)):=(Fr.refl noB _).alloc _
 replace hF:=hk _ _ fa hF
 refine hK.out _ _ hF (fun hA=>?_)
 clear hK K'
 as_aux_lemma =>
 refine wpAnyS_one hA rfl (fun K' hK=>?_)
 refine stp_skip rfl _ (ex_stV_at (C:=codR) (v:=rw0) rfl rfl rfl (st_newR W0.drew rw0 zRwW)) ?_
 have fb:Fr noB W0.drew (W0.drew.alloc (codR.o rw0)):=(Fr.refl noB _).alloc _
 replace hF:=(hk _ _ fb hF0)
 refine hK.out _ _ hF (fun hA=>?_)
 clear hK K'
 as_aux_lemma =>
 refine wpAnyS_end hA rfl ?_
 simp only [List.drop_succ_cons,List.drop_zero]
 clear hF hk hF0 fa
 have bN:codR.bxd (W0.drew.alloc (codR.o rw0)) W0.drew.heap.size = some rw0:=Cod.bxd_new (C:=codR) W0.drew rw0
 have f1:=fd.step0 fb
 have HDN:=Lib.hid (show D < W0.drew.heap.size from Cod.bxd_lt bD)
 have bD1:=Cod.bxd_fr0 bD f1
 have bO1:=Cod.rd_fr0 q10 f1
 have b11:=cell_fr0 b1 f1
 have hm1:=mpT_fr0 hm0 f1
 have g1:=f0.step0 f1
 clear q1 q4 q5 q6 q7 q8 q9 q10 bD b1 hm0 ht0 f0 fd fb f1
 generalize W0.drew.alloc (codR.o rw0) = W1 at bN bD1 bO1 b11 hm1 g1 ⊢
 generalize W0.drew.heap.size = N at bN HDN ⊢
 go_upto_region 2 with fail
 have rN:=Cod.bxd_rd bN
 have fe:Fr noB W1 (W1.alloc (codD.o ⟨r,false,rw0,b0⟩)):=(Fr.refl noB W1).alloc _
 have bE:=Cod.bxd_new (C:=codD) W1 ⟨r,false,rw0,b0⟩
 have HNE:=Lib.hid (show N < W1.heap.size from Cod.bxd_lt bN)
 have bN2:=Cod.bxd_fr0 bN fe
 have bD2:=Cod.bxd_fr0 bD1 fe
 have q:=opAt (Cod.rd_fr0 bO1 fe)
 have b12:=cell_fr0 b11 fe
 have hm2:=mpT_fr0 hm1 fe
 have g2:=g1.step0 fe
 obtain ⟨q1,q2,q3,q4,q5,q6,q7,q8,q9,q10⟩:=q
 go_upto_region 3 with fail
 clear q2 q3 rN bN bD1 b11 hm1 g1 fe bO1
 generalize W1.alloc (codD.o ⟨r,false,rw0,b0⟩) = W2 at bE bN2 bD2 q1 q4 q5 q6 q7 q8 q9 q10 b12 hm2 g2 ⊢
 generalize W1.heap.size = E at bE HNE ⊢
 have HOO:=Lib.hid (show w.heap.size ≤ O ∧ O < D ∧ D < N ∧ N < E ∧ t.m < w.heap.size ∧ b < w.heap.size from ⟨by have:=HOD.out;omega,by have:=HOD.out;omega,HDN.out,HNE.out,hmS,Blk.lt ht⟩)
 clear HOD HDN HNE hl1 hl2 hmS
 by_cases hK:r.Kind = 1
 ·have k1:(r.Kind == 1) = true:=by simp [hK]
  have hKo:o.Kind = 1:=by rw [HE.out.1];exact hK
  obtain ⟨mv1,mv2,mv3,mv4⟩:=goodOp_move HG.out hKo
  have hwp:wfS r.Parent = true:=by rw [← HE.out.2.2.2.1];exact okP_wf mv1
  obtain ⟨rp,bp,hl3,hl4,hbp⟩:∃ (rp:RwW) (bp:Bool),(look (tab rs) r.Parent).getD (.agg (codR.A zRwW)) = .agg (codR.A rp) ∧ (look (tab rs) r.Parent).isSome = bp ∧ bp = (findR xs r.Parent).isSome:=by
   rcases RwsO_.find HR.out r.Parent with ⟨h1,h2⟩ | ⟨q,y,h1,h2,h3⟩
   ·exact ⟨zRwW,false,by rw [look_tab,h1];rfl,by rw [look_tab,h1];rfl,by rw [h2];rfl⟩
   ·exact ⟨q,true,by rw [look_tab,h1];rfl,by rw [look_tab,h1];rfl,by rw [h2];rfl⟩
  have HBP:=Lib.hid hbp
  have HMV:=Lib.hid (And.intro mv1 hKo)
  clear mv1 mv2 mv3 mv4 hbp hKo hK
  go_upto_region 4 with fail
  have hk:∀ w' w'':World,Fr noB w' w'' → (w'.cell? ⟨b,0,none⟩ = some (.map (some t.m)) ∧ codS.rd w' O 5 = some r.Parent ∧ mpT w' t.m = some (tab rs)) → (w''.cell? ⟨b,0,none⟩ = some (.map (some t.m)) ∧ codS.rd w'' O 5 = some r.Parent ∧ mpT w'' t.m = some (tab rs)):=fun w' w'' f h=>⟨cell_fr0 h.1 f,Cod.rd_fr0 h.2.1 f,mpT_fr0 h.2.2 f⟩
  have fd:Fr noB W2 W2.drew:=(Fr.refl noB W2).drew
  have hF0:=hk _ _ fd ⟨b12,q6,hm2⟩
  refine wp_region_M 12 13 [⟨536870912,1,0⟩,⟨1073741824,536870912,1⟩,⟨2147483648,1073741824,2⟩,⟨4294967296,2147483648,4⟩,⟨8589934592,8,0⟩,⟨17179869184,8589934592,16⟩,⟨34359738368,21474836480,40⟩,⟨268435456,34359738368,64⟩,⟨68719476736,268435456,128⟩,⟨137438953472,268435456,128⟩,⟨256,0,0⟩,⟨0,68719476992,1535⟩,⟨512,137438953472,4095⟩] [(true,0),(true,1),(true,2),(true,3),(true,4),(true,5),(true,6),(true,7),(true,8),(true,9),(false,10),(false,11)] (fun w'=>w'.cell? ⟨b,0,none⟩ = some (.map (some t.m)) ∧ codS.rd w' O 5 = some r.Parent ∧ mpT w' t.m = some (tab rs)) (by kernel_rfl) rfl (by kernel_rfl) (by kernel_rfl) (by kernel_rfl) hF0 (fun hA hF=>?_)
  iterate 10
   refine wpAnyS_take (v:=?_) hA rfl (fun _ _ _ h=>h) (Or.inl ⟨by rfl,?_⟩) hF (fun hA=>?_)
   rotate_left
   ·intro wS hSw;(try dsimp only at hSw);obtain ⟨s1,s2,s3⟩:=hSw;first | (apply Eq.trans;apply ex_ld_id;exact rfl;exact rfl;assumption;with_reducible rfl) | (apply Eq.trans;apply ex_ldR_at;exact rfl;exact rfl;assumption;with_reducible rfl) | (apply Eq.trans;apply ex_ldS_at;exact rfl;exact rfl;assumption;with_reducible rfl) | (go_simp;try with_reducible rfl)
   try simp only [sA1,sA2,sA3,Act.put,sA4,sA5,sA6]
  refine wpAnyS_one hA rfl (fun K' hK=>?_)
  refine step_runI rfl _ _ (okR.alOp _ _ rfl _) ?_
  have fa:Fr noB W2.drew (W2.drew.alloc (codR.o zRwW)):=(Fr.refl noB _).alloc _
  replace hF:=hk _ _ fa hF
  refine hK.out _ _ hF (fun hA=>?_)
  clear hK K'
  as_aux_lemma =>
  refine wpAnyS_one hA rfl (fun K' hK=>?_)
  refine stp_skip rfl _ (ex_stV_at (C:=codR) (v:=rp) rfl rfl rfl (st_newR W2.drew rp zRwW)) ?_
  have fb:Fr noB W2.drew (W2.drew.alloc (codR.o rp)):=(Fr.refl noB _).alloc _
  replace hF:=(hk _ _ fb hF0)
  refine hK.out _ _ hF (fun hA=>?_)
  clear hK K'
  as_aux_lemma =>
  refine wpAnyS_end hA rfl ?_
  simp only [List.drop_succ_cons,List.drop_zero]
  clear hF hk hF0 fa hl3 hl4
  have f3:=fd.step0 fb
  have bE3:=Cod.bxd_fr0 bE f3
  have bN3:=Cod.bxd_fr0 bN2 f3
  have bD3:=Cod.bxd_fr0 bD2 f3
  have b13:=cell_fr0 b12 f3
  have hm3:=mpT_fr0 hm2 f3
  have g3:=g2.step0 f3
  replace q10:=Cod.rd_fr0 q10 f3
  replace q5:=Cod.rd_fr0 q5 f3
  replace q6:=Cod.rd_fr0 q6 f3
  clear bE bN2 bD2 b12 hm2 g2 f3 fd fb q1 q4 q7 q8 q9
  generalize W2.drew.alloc (codR.o rp) = W3 at bE3 bN3 bD3 b13 hm3 g3 q5 q6 q10 ⊢
  have CA:=fun (hw:(findR xs r.Parent).isSome = true ∨ r.Parent.T = 0) w' (f:Fr noB W3 w')=>gvAbove_any w' b t (ht.fr0 (g3.step0 f)) rs xs (mpT_fr0 hm (g3.step0 f)) (RwsO_.rws (HR.out.map fun r y h=>h.fr (g3.step0 f) (NoHS.nob _))) r.Node r.Parent hwp xs.length (HT.out.way (by rw [← HE.out.2.2.2.1];exact HMV.out.1) hw)
  cases bp with
  | false =>
   by_cases hT0:r.Parent.T = 0
   ·have hT0':(r.Parent.T == 0) = true:=by simp [hT0]
    have CA':=Lib.hid (CA (.inr hT0))
    obtain ⟨v,hv⟩:∃ v,v = aboveN xs xs.length r.Node r.Parent:=⟨_,rfl⟩
    rw [← hv] at CA'
    have HV:=Lib.hid hv
    have HT0:=Lib.hid hT0
    clear CA hv hT0
    cases v with
    | true =>
     have HNONE:=Lib.hid (show newR xs o = none by
      unfold newR
      rw [if_pos HMV.out.2,if_pos]
      rw [Bool.or_eq_true]
      right
      unfold aboveR
      rw [HE.out.2.2.1,HE.out.2.2.2.1,← HV.out])
     go_upto_region 6 with (first
      | (go_at_call 137;refine (gvFixed_any _ r.Parent).mono ?_;rintro e w4 ⟨rfl,f4⟩;rw [hT0'];replace q5:=Cod.rd_fr0 q5 f4;replace q6:=Cod.rd_fr0 q6 f4)
      | (go_at_call 138;refine (CA'.out _ f4).mono ?_;rintro e wz ⟨rfl,f5⟩;have fz:=f4.step0 f5))
     have bEz:=Cod.bxd_fr0 bE3 fz
     have bDz:=Cod.bxd_fr0 bD3 fz
     have rEz:=Cod.bxd_rd bEz
     have hst:=okD.stR_box bDz ⟨r,false,rw0,b0⟩
     obtain ⟨p1,p2,p3⟩:=Cod.put_fr bDz ⟨r,false,rw0,b0⟩
     have HP1:=Lib.hid (And.intro p1 p3)
     have gz:=g3.step0 fz
     clear p1 p2 p3
     go_wp2_with fail
     obtain ⟨p1,p3⟩:=HP1.out
     refine bodyPost_ret (ret_row okD rfl _ _ D _ (by rfl) p3) rfl ?_
     have ge:=gz.step1 p1 (by have:=HOO.out;omega)
     have e1:doD xs o = ⟨o,false,x0,b0⟩:=by
      unfold doD
      rw [HNONE.out,HE.out.2.2.1,← HX0.out.1,← HX0.out.2];rfl
     have e2:doX xs o = xs:=by unfold doX;rw [HNONE.out]
     unfold DoTo
     rw [e1,e2]
     exact ⟨_,rfl,⟨HO.out.fr ge (NoHS.nob _),rfl,H0.out.fr ge (NoHS.nob _),rfl⟩,⟨rs,mpT_fr0 hm ge,HR.out.map fun r y h=>h.fr ge (NoHS.nob _)⟩,(Fr.refl (oneB t.m) w).step0 ge⟩
    | false =>
     have HNO:=Lib.hid (show (((findR xs o.Parent).isNone && !decide (o.Parent.T = 0)) || aboveR xs o.Node o.Parent) = false by
      unfold aboveR
      rw [HE.out.2.2.1,HE.out.2.2.2.1,← HV.out,HT0.out];simp)
     go_upto_region 7 with (first
      | (go_at_call 137;refine (gvFixed_any _ r.Parent).mono ?_;rintro e w4 ⟨rfl,f4⟩;rw [hT0'];replace q5:=Cod.rd_fr0 q5 f4;replace q6:=Cod.rd_fr0 q6 f4)
      | (go_at_call 138;refine (CA'.out _ f4).mono ?_;rintro e wz ⟨rfl,f5⟩;have fz:=f4.step0 f5))
     -- the move is done, from world wz on (fz)
     have hoo:=HOO.out
     have gz:=g3.step0 fz
     have fdz:Fr noB wz wz.drew:=(Fr.refl noB wz).drew
     have qq:=opAt (Cod.rd_fr0 q10 fz)
     have bNw:=Cod.bxd_fr0 (Cod.bxd_fr0 bN3 fz) fdz
     have hk7:∀ w' w'':World,Fr (oneB N) w' w'' → (codS.rd w' O 3 = some r.Node ∧ codS.rd w' O 5 = some r.Parent ∧ w'.cell? ⟨O,7,none⟩ = some (.string (str r.Name)) ∧ codS.rd w' O 1 = some r.At) → (codS.rd w'' O 3 = some r.Node ∧ codS.rd w'' O 5 = some r.Parent ∧ w''.cell? ⟨O,7,none⟩ = some (.string (str r.Name)) ∧ codS.rd w'' O 1 = some r.At):=fun w' w'' f h =>
      ⟨Cod.rd_fr h.1 f (by show ¬ O = N;omega),Cod.rd_fr h.2.1 f (by show ¬ O = N;omega),gcell_fr h.2.2.1 f (by show ¬ O = N;omega),Cod.rd_fr h.2.2.2 f (by show ¬ O = N;omega)⟩
     refine wp_region_M 15 16 [⟨36028797018963968,8,0⟩,⟨72057594037927936,36028797018963968,1⟩,⟨144115188075855872,8,0⟩,⟨288230376151711744,144115188075855872,4⟩,⟨576460752303423488,8,0⟩,⟨1152921504606846976,576460752303423488,16⟩,⟨2305843009213693952,8,0⟩,⟨4611686018427387904,2305843009213693952,64⟩,⟨9223372036854775808,32,3⟩,⟨0,9295429630892703744,259⟩,⟨18446744073709551616,32,783⟩,⟨0,18734974449861263360,1807⟩,⟨36893488147419103232,32,3903⟩,⟨0,38046409652025950208,7999⟩,⟨73786976294838206464,32,16383⟩,⟨0,78398662313265594368,32767⟩] [(true,0),(true,1),(true,2),(true,3),(true,4),(true,5),(true,6),(true,7),(true,8),(false,9),(true,10),(false,11),(true,12),(false,13),(true,14)] (fun w'=>codS.rd w' O 3 = some r.Node ∧ codS.rd w' O 5 = some r.Parent ∧ w'.cell? ⟨O,7,none⟩ = some (.string (str r.Name)) ∧ codS.rd w' O 1 = some r.At) (by kernel_rfl) rfl (by kernel_rfl) (by kernel_rfl) (by kernel_rfl) ⟨Cod.rd_fr0 qq.node fdz,Cod.rd_fr0 qq.parent fdz,cell_fr0 qq.name fdz,Cod.rd_fr0 qq.At fdz⟩ (fun hA hF=>?_)
     iterate 9
      refine wpAnyS_take (v:=?_) hA rfl (fun _ _ _ h=>h) (Or.inl ⟨by rfl,?_⟩) hF (fun hA=>?_)
      rotate_left
      ·intro wS hSw;(try dsimp only at hSw);obtain ⟨s1,s2,s3,s4⟩:=hSw;first | (apply Eq.trans;apply ex_ld_id;exact rfl;exact rfl;assumption;with_reducible rfl) | (apply Eq.trans;apply ex_ldR_at;exact rfl;exact rfl;assumption;with_reducible rfl) | (apply Eq.trans;apply ex_ldS_at;exact rfl;exact rfl;assumption;with_reducible rfl) | (go_simp;try with_reducible rfl)
      try simp only [sA1,sA2,sA3,Act.put,sA4,sA5,sA6]
     refine wpAnyS_one hA rfl (fun K' hK=>?_)
     refine stp_skip rfl _ (ex_stV_at (C:=codS) rfl rfl rfl (stw_Node bNw r.Node)) ?_
     obtain ⟨p1,_,n1⟩:=Cod.put_fr bNw { rw0 with Node:=r.Node }
     replace hF:=hk7 _ _ p1 hF
     refine hK.out _ _ hF (fun hA=>?_)
     clear hK K'
     as_aux_lemma =>
     refine wpAnyS_take (v:=?_) hA rfl (fun _ _ _ h=>h) (Or.inl ⟨by rfl,?_⟩) hF (fun hA=>?_)
     rotate_left
     ·intro wS hSw;(try dsimp only at hSw);obtain ⟨s1,s2,s3,s4⟩:=hSw;first | (apply Eq.trans;apply ex_ld_id;exact rfl;exact rfl;assumption;with_reducible rfl) | (apply Eq.trans;apply ex_ldR_at;exact rfl;exact rfl;assumption;with_reducible rfl) | (apply Eq.trans;apply ex_ldS_at;exact rfl;exact rfl;assumption;with_reducible rfl) | (go_simp;try with_reducible rfl)
     try simp only [sA1,sA2,sA3,Act.put,sA4,sA5,sA6]
     refine wpAnyS_one hA rfl (fun K' hK=>?_)
     refine stp_skip rfl _ (ex_stV_at (C:=codS) rfl rfl rfl (stw_Parent n1 r.Parent)) ?_
     obtain ⟨p2,_,n2⟩:=Cod.put_fr n1 { rw0 with Node:=r.Node,Parent:=r.Parent }
     replace hF:=hk7 _ _ p2 hF
     refine hK.out _ _ hF (fun hA=>?_)
     clear hK K'
     as_aux_lemma =>
     refine wpAnyS_take (v:=?_) hA rfl (fun _ _ _ h=>h) (Or.inl ⟨by rfl,?_⟩) hF (fun hA=>?_)
     rotate_left
     ·intro wS hSw;(try dsimp only at hSw);obtain ⟨s1,s2,s3,s4⟩:=hSw;first | (apply Eq.trans;apply ex_ld_id;exact rfl;exact rfl;assumption;with_reducible rfl) | (apply Eq.trans;apply ex_ldR_at;exact rfl;exact rfl;assumption;with_reducible rfl) | (apply Eq.trans;apply ex_ldS_at;exact rfl;exact rfl;assumption;with_reducible rfl) | (go_simp;try with_reducible rfl)
     try simp only [sA1,sA2,sA3,Act.put,sA4,sA5,sA6]
     refine wpAnyS_one hA rfl (fun K' hK=>?_)
     refine stp_skip rfl _ (ex_stT_at rfl rfl rfl (rwAt (Cod.bxd_rd n2)).name ((Cod.bxd_blk n2).frozen 6)) ?_
     have p3:=Cod.set_fr (codR.put (codR.put wz.drew N { rw0 with Node:=r.Node }) N { rw0 with Node:=r.Node,Parent:=r.Parent }) N 6 (.string (str r.Name))
     have n3:=Cod.bxd_set n2 6 (.string (str r.Name)) _ (sew_Name _ _)
     replace hF:=hk7 _ _ p3 hF
     refine hK.out _ _ hF (fun hA=>?_)
     clear hK K'
     as_aux_lemma =>
     refine wpAnyS_take (v:=?_) hA rfl (fun _ _ _ h=>h) (Or.inl ⟨by rfl,?_⟩) hF (fun hA=>?_)
     rotate_left
     ·intro wS hSw;(try dsimp only at hSw);obtain ⟨s1,s2,s3,s4⟩:=hSw;first | (apply Eq.trans;apply ex_ld_id;exact rfl;exact rfl;assumption;with_reducible rfl) | (apply Eq.trans;apply ex_ldR_at;exact rfl;exact rfl;assumption;with_reducible rfl) | (apply Eq.trans;apply ex_ldS_at;exact rfl;exact rfl;assumption;with_reducible rfl) | (go_simp;try with_reducible rfl)
     try simp only [sA1,sA2,sA3,Act.put,sA4,sA5,sA6]
     refine wpAnyS_end hA rfl ?_
     simp only [List.drop_succ_cons,List.drop_zero]
     have hst4:=stw_At n3 r.At
     obtain ⟨p4,_,n4⟩:=Cod.put_fr n3 { rw0 with Node:=r.Node,Parent:=r.Parent,Name:=r.Name,At:=r.At }
     have P4:=((p1.trans p2 (fun _ _ h=>h)).trans p3 (fun _ _ h=>h)).trans p4 (fun _ _ h=>h)
     have HP4:=Lib.hid (And.intro P4 n4)
     clear hF hk7 p1 p2 p3 p4 n1 n2 bNw qq P4 n4 hoo
     go_upto_region 12 with fail
     obtain ⟨r9,hr9⟩:∃ q:RwW,q = { rw0 with Node:=r.Node,Parent:=r.Parent,Name:=r.Name,At:=r.At }:=⟨_,rfl⟩
     have hP4:=HP4.out
     clear HP4 n3 hst4
     rw [← hr9] at hP4 ⊢
     generalize codR.put _ _ r9 = Wm at hP4 ⊢
     obtain ⟨P4,bNz⟩:=hP4
     have hoo:=HOO.out
     have bEz:=Cod.bxd_fr (Cod.bxd_fr0 (Cod.bxd_fr0 bE3 fz) fdz) P4 (by show ¬ E = N;omega)
     have bDz:=Cod.bxd_fr (Cod.bxd_fr0 (Cod.bxd_fr0 bD3 fz) fdz) P4 (by show ¬ D = N;omega)
     have qz:=Cod.rd_fr (Cod.rd_fr0 (opAt (Cod.rd_fr0 q10 fz)).node fdz) P4 (by show ¬ O = N;omega)
     have gz5:=(gz.step0 fdz).step1 P4 (by omega)
     have htz:=ht.fr0 gz5
     have hmz:=mpT_fr0 hm gz5
     replace gz:=gz5
     have h9:=Lib.hid (show r9.Node = r.Node by rw [hr9])
     obtain ⟨x9,hx9⟩:∃ q:RwP,q = ⟨o.Node,o.Parent,o.At,o.Name,hdsR xs o.Node⟩:=⟨_,rfl⟩
     have HNEW:=Lib.hid (show newR xs o = some x9 by
      unfold newR
      rw [if_pos HMV.out.2,if_neg (by rw [HNO.out];decide),hx9])
     have hh0:hdsR xs o.Node = x0.Heads:=by
      unfold hdsR
      rw [HX0.out.1,HE.out.2.2.1]
      cases findR xs r.Node <;> rfl
     have R9:=Lib.hid (show RwO Wm r9 x9 by
      have h0:=H0.out
      have ho:=HO.out.inn
      have e:=HE.out
      have base:RwO w r9 x9:=by
       rw [hr9,hx9,hh0]
       exact ⟨⟨by rw [e.2.2.1,e.2.2.2.1,e.2.1,e.2.2.2.2.1];rfl,h0.inn.len,h0.inn.sl,h0.inn.bd,ho.nm,hwn,hwp⟩,h0.own⟩
      exact base.fr gz5 (NoHS.nob _))
     clear gz5 fdz bE3 bD3 bN3 b13 hm3 g3 fz hr9 hx9 hh0 hoo P4
     have u12:=(dnAt (Cod.bxd_rd bEz)).tn
     rw [Nat.zero_add] at u12
     have z12:=(Cod.bxd_blk bEz).frozen 41
     go_upto_region 13 with fail
     have hoo:=HOO.out
     have g12:=Cod.set_fr Wm E 41 (.bool true)
     have bE13:=Cod.bxd_set bEz 41 (.bool true) _ (seD_tn _ _)
     have bN13:=Cod.bxd_fr bNz g12 (by show ¬ N = E;omega)
     have bD13:=Cod.bxd_fr bDz g12 (by show ¬ D = E;omega)
     have q13:=Cod.rd_fr qz g12 (by show ¬ O = E;omega)
     have b13:=(htz.fr g12 (by show ¬ b = E;omega)).m
     have hm13:=mpT_fr hmz g12 (by show ¬ t.m = E;omega)
     have gz13:=gz.step1 g12 (by omega)
     have R13:=Lib.hid (R9.out.fr g12 (NoHS.blk (Cod.bxd_blk bEz) (by decide) (by decide)))
     clear u12 z12 bEz bNz bDz qz htz hmz gz g12 hoo R9
     generalize World.setCell _ _ _ = W13 at bE13 bN13 bD13 q13 b13 hm13 gz13 R13 ⊢
     have rN13:=Cod.bxd_rd bN13
     have hk13:∀ w' w'':World,Fr noB w' w'' → (w'.cell? ⟨b,0,none⟩ = some (.map (some t.m)) ∧ codS.rd w' O 3 = some r.Node ∧ codR.rd w' N 0 = some r9) → (w''.cell? ⟨b,0,none⟩ = some (.map (some t.m)) ∧ codS.rd w'' O 3 = some r.Node ∧ codR.rd w'' N 0 = some r9):=fun w' w'' f h=>⟨cell_fr0 h.1 f,Cod.rd_fr0 h.2.1 f,Cod.rd_fr0 h.2.2 f⟩
     have fd13:Fr noB W13 W13.drew:=(Fr.refl noB W13).drew
     have fdR:=Lib.hid fd13
     refine wp_region_M 7 8 [⟨38685626227668133590597632,1,0⟩,⟨77371252455336267181195264,38685626227668133590597632,1⟩,⟨154742504910672534362390528,77371252455336267181195264,2⟩,⟨309485009821345068724781056,154742504910672534362390528,4⟩,⟨618970019642690137449562112,8,0⟩,⟨1237940039285380274899124224,618970019642690137449562112,16⟩,⟨2475880078570760549798248448,32,0⟩,⟨0,4023305127677485893422153728,127⟩] [(true,0),(true,1),(true,2),(true,3),(true,4),(true,5),(true,6)] (fun w'=>w'.cell? ⟨b,0,none⟩ = some (.map (some t.m)) ∧ codS.rd w' O 3 = some r.Node ∧ codR.rd w' N 0 = some r9) (by kernel_rfl) rfl (by kernel_rfl) (by kernel_rfl) (by kernel_rfl) (hk13 _ _ fd13 ⟨b13,q13,rN13⟩) (fun hA hF=>?_)
     iterate 7
      refine wpAnyS_take (v:=?_) hA rfl (fun _ _ _ h=>h) (Or.inl ⟨by rfl,?_⟩) hF (fun hA=>?_)
      rotate_left
      ·intro wS hSw;(try dsimp only at hSw);obtain ⟨s1,s2,s3⟩:=hSw;first | (apply Eq.trans;apply ex_ld_id;exact rfl;exact rfl;assumption;with_reducible rfl) | (apply Eq.trans;apply ex_ldR_at;exact rfl;exact rfl;assumption;with_reducible rfl) | (apply Eq.trans;apply ex_ldS_at;exact rfl;exact rfl;assumption;with_reducible rfl) | (go_simp;try with_reducible rfl)
      try simp only [sA1,sA2,sA3,Act.put,sA4,sA5,sA6]
     refine wpAnyS_end hA rfl ?_
     simp only [List.drop_succ_cons,List.drop_zero]
     clear hF hk13 rN13
     have hm14:=mpT_fr0 hm13 fd13
     have bE14':=Cod.bxd_fr0 bE13 fd13
     have bD14':=Cod.bxd_fr0 bD13 fd13
     have gz14:=gz13.step0 fd13
     have hoo:=HOO.out
     obtain ⟨_,m1,m2,m3⟩:=mputT_all Tryz.underlying152 hm14 hwn (.agg (codR.A r9))
     have bE14:=Cod.bxd_fr bE14' m2 (by show ¬ E = t.m;omega)
     have bD14:=Cod.bxd_fr bD14' m2 (by show ¬ D = t.m;omega)
     have rE14:=Cod.bxd_rd bE14
     have hst:=okD.stR_box bD14 ⟨r,true,rw0,b0⟩
     obtain ⟨p1,p2,p3⟩:=Cod.put_fr bD14 ⟨r,true,rw0,b0⟩
     have HP1:=Lib.hid (And.intro p1 (And.intro p3 (And.intro m1 m2)))
     clear p1 p2 p3 m1 m2 m3 hoo bE14' bD14' bE13 bD13 bN13 hm13 b13 q13 fd13
     go_wp2_with fail
     obtain ⟨p1,p3,m1,m2⟩:=HP1.out
     refine bodyPost_ret (ret_row okD rfl _ _ D _ (by rfl) p3) rfl ?_
     have hoo:=HOO.out
     have ge:Fr (oneB t.m) w _:=(((Fr.refl (oneB t.m) w).step0 gz14).trans m2 (fun _ _ h=>h)).step1 p1 (by omega)
     have nm:=NoHS.map hm
     have e1:doD xs o = ⟨o,true,x0,b0⟩:=by
      unfold doD
      rw [HNEW.out,HE.out.2.2.1,← HX0.out.1,← HX0.out.2];rfl
     have e2:doX xs o = putR xs x9:=by unfold doX;rw [HNEW.out]
     unfold DoTo
     rw [e1,e2]
     have n9:=h9.out
     refine ⟨_,rfl,⟨HO.out.fr ge nm,rfl,H0.out.fr ge nm,rfl⟩,⟨putW rs r9,?_,RwsO_.put (HR.out.map fun r y h=>h.fr ge nm) (((R13.out.fr fdR.out (NoHS.nob _)).fr m2 (NoHS.map hm14)).fr p1 (NoHS.blk (Cod.bxd_blk bD14) (by decide) (by decide)))⟩,ge⟩
     refine mpT_fr ?_ p1 (by show ¬ t.m = D;omega)
     rw [m1,← n9,tab_putW]
   ·have hT0':(r.Parent.T == 0) = false:=by rw [beq_eq_false_iff_ne];exact hT0
    have HNONE:=Lib.hid (show newR xs o = none by
     unfold newR
     rw [if_pos HMV.out.2,if_pos]
     rw [Bool.or_eq_true]
     left
     rw [HE.out.2.2.2.1]
     have h1:=HBP.out
     have h2:findR xs r.Parent = none:=by simpa using h1.symm
     rw [h2]
     simp [hT0])
    clear CA hT0
    go_upto_region 6 with (go_at_call 137;refine (gvFixed_any _ r.Parent).mono ?_;rintro e wz ⟨rfl,fz⟩;rw [hT0'])
    have bEz:=Cod.bxd_fr0 bE3 fz
    have bDz:=Cod.bxd_fr0 bD3 fz
    have rEz:=Cod.bxd_rd bEz
    have hst:=okD.stR_box bDz ⟨r,false,rw0,b0⟩
    obtain ⟨p1,p2,p3⟩:=Cod.put_fr bDz ⟨r,false,rw0,b0⟩
    have HP1:=Lib.hid (And.intro p1 p3)
    have gz:=g3.step0 fz
    clear p1 p2 p3
    go_wp2_with fail
    obtain ⟨p1,p3⟩:=HP1.out
    refine bodyPost_ret (ret_row okD rfl _ _ D _ (by rfl) p3) rfl ?_
    have ge:=gz.step1 p1 (by have:=HOO.out;omega)
    have e1:doD xs o = ⟨o,false,x0,b0⟩:=by
     unfold doD
     rw [HNONE.out,HE.out.2.2.1,← HX0.out.1,← HX0.out.2];rfl
    have e2:doX xs o = xs:=by unfold doX;rw [HNONE.out]
    unfold DoTo
    rw [e1,e2]
    exact ⟨_,rfl,⟨HO.out.fr ge (NoHS.nob _),rfl,H0.out.fr ge (NoHS.nob _),rfl⟩,⟨rs,mpT_fr0 hm ge,HR.out.map fun r y h=>h.fr ge (NoHS.nob _)⟩,(Fr.refl (oneB t.m) w).step0 ge⟩
  | true =>
   have CA':=Lib.hid (CA (.inl HBP.out.symm))
   obtain ⟨v,hv⟩:∃ v,v = aboveN xs xs.length r.Node r.Parent:=⟨_,rfl⟩
   rw [← hv] at CA'
   have HV:=Lib.hid hv
   clear CA hv
   cases v with
   | true =>
    have HNONE:=Lib.hid (show newR xs o = none by
     unfold newR
     rw [if_pos HMV.out.2,if_pos]
     rw [Bool.or_eq_true]
     right
     unfold aboveR
     rw [HE.out.2.2.1,HE.out.2.2.2.1,← HV.out])
    go_upto_region 6 with (go_at_call 138;refine (CA'.out _ (Fr.refl _ _)).mono ?_;rintro e wz ⟨rfl,fz⟩)
    have bEz:=Cod.bxd_fr0 bE3 fz
    have bDz:=Cod.bxd_fr0 bD3 fz
    have rEz:=Cod.bxd_rd bEz
    have hst:=okD.stR_box bDz ⟨r,false,rw0,b0⟩
    obtain ⟨p1,p2,p3⟩:=Cod.put_fr bDz ⟨r,false,rw0,b0⟩
    have HP1:=Lib.hid (And.intro p1 p3)
    have gz:=g3.step0 fz
    clear p1 p2 p3
    go_wp2_with fail
    obtain ⟨p1,p3⟩:=HP1.out
    refine bodyPost_ret (ret_row okD rfl _ _ D _ (by rfl) p3) rfl ?_
    have ge:=gz.step1 p1 (by have:=HOO.out;omega)
    have e1:doD xs o = ⟨o,false,x0,b0⟩:=by
     unfold doD
     rw [HNONE.out,HE.out.2.2.1,← HX0.out.1,← HX0.out.2];rfl
    have e2:doX xs o = xs:=by unfold doX;rw [HNONE.out]
    unfold DoTo
    rw [e1,e2]
    exact ⟨_,rfl,⟨HO.out.fr ge (NoHS.nob _),rfl,H0.out.fr ge (NoHS.nob _),rfl⟩,⟨rs,mpT_fr0 hm ge,HR.out.map fun r y h=>h.fr ge (NoHS.nob _)⟩,(Fr.refl (oneB t.m) w).step0 ge⟩
   | false =>
    have HNO:=Lib.hid (show (((findR xs o.Parent).isNone && !decide (o.Parent.T = 0)) || aboveR xs o.Node o.Parent) = false by
     unfold aboveR
     have h1:=HBP.out
     have h2:(findR xs r.Parent).isNone = false:=by
      cases h:findR xs r.Parent with
      | none=>rw [h] at h1;cases h1
      | some q=>rfl
     rw [HE.out.2.2.1,HE.out.2.2.2.1,← HV.out,h2];simp)
    go_upto_region 7 with (go_at_call 138;refine (CA'.out _ (Fr.refl _ _)).mono ?_;rintro e wz ⟨rfl,fz⟩)
    -- the move is done, from world wz on (fz)
    have hoo:=HOO.out
    have gz:=g3.step0 fz
    have fdz:Fr noB wz wz.drew:=(Fr.refl noB wz).drew
    have qq:=opAt (Cod.rd_fr0 q10 fz)
    have bNw:=Cod.bxd_fr0 (Cod.bxd_fr0 bN3 fz) fdz
    have hk7:∀ w' w'':World,Fr (oneB N) w' w'' → (codS.rd w' O 3 = some r.Node ∧ codS.rd w' O 5 = some r.Parent ∧ w'.cell? ⟨O,7,none⟩ = some (.string (str r.Name)) ∧ codS.rd w' O 1 = some r.At) → (codS.rd w'' O 3 = some r.Node ∧ codS.rd w'' O 5 = some r.Parent ∧ w''.cell? ⟨O,7,none⟩ = some (.string (str r.Name)) ∧ codS.rd w'' O 1 = some r.At):=fun w' w'' f h =>
     ⟨Cod.rd_fr h.1 f (by show ¬ O = N;omega),Cod.rd_fr h.2.1 f (by show ¬ O = N;omega),gcell_fr h.2.2.1 f (by show ¬ O = N;omega),Cod.rd_fr h.2.2.2 f (by show ¬ O = N;omega)⟩
    refine wp_region_M 15 16 [⟨36028797018963968,8,0⟩,⟨72057594037927936,36028797018963968,1⟩,⟨144115188075855872,8,0⟩,⟨288230376151711744,144115188075855872,4⟩,⟨576460752303423488,8,0⟩,⟨1152921504606846976,576460752303423488,16⟩,⟨2305843009213693952,8,0⟩,⟨4611686018427387904,2305843009213693952,64⟩,⟨9223372036854775808,32,3⟩,⟨0,9295429630892703744,259⟩,⟨18446744073709551616,32,783⟩,⟨0,18734974449861263360,1807⟩,⟨36893488147419103232,32,3903⟩,⟨0,38046409652025950208,7999⟩,⟨73786976294838206464,32,16383⟩,⟨0,78398662313265594368,32767⟩] [(true,0),(true,1),(true,2),(true,3),(true,4),(true,5),(true,6),(true,7),(true,8),(false,9),(true,10),(false,11),(true,12),(false,13),(true,14)] (fun w'=>codS.rd w' O 3 = some r.Node ∧ codS.rd w' O 5 = some r.Parent ∧ w'.cell? ⟨O,7,none⟩ = some (.string (str r.Name)) ∧ codS.rd w' O 1 = some r.At) (by kernel_rfl) rfl (by kernel_rfl) (by kernel_rfl) (by kernel_rfl) ⟨Cod.rd_fr0 qq.node fdz,Cod.rd_fr0 qq.parent fdz,cell_fr0 qq.name fdz,Cod.rd_fr0 qq.At fdz⟩ (fun hA hF=>?_)
    iterate 9
     refine wpAnyS_take (v:=?_) hA rfl (fun _ _ _ h=>h) (Or.inl ⟨by rfl,?_⟩) hF (fun hA=>?_)
     rotate_left
     ·intro wS hSw;(try dsimp only at hSw);obtain ⟨s1,s2,s3,s4⟩:=hSw;first | (apply Eq.trans;apply ex_ld_id;exact rfl;exact rfl;assumption;with_reducible rfl) | (apply Eq.trans;apply ex_ldR_at;exact rfl;exact rfl;assumption;with_reducible rfl) | (apply Eq.trans;apply ex_ldS_at;exact rfl;exact rfl;assumption;with_reducible rfl) | (go_simp;try with_reducible rfl)
     try simp only [sA1,sA2,sA3,Act.put,sA4,sA5,sA6]
    refine wpAnyS_one hA rfl (fun K' hK=>?_)
    refine stp_skip rfl _ (ex_stV_at (C:=codS) rfl rfl rfl (stw_Node bNw r.Node)) ?_
    obtain ⟨p1,_,n1⟩:=Cod.put_fr bNw { rw0 with Node:=r.Node }
    replace hF:=hk7 _ _ p1 hF
    refine hK.out _ _ hF (fun hA=>?_)
    clear hK K'
    as_aux_lemma =>
    refine wpAnyS_take (v:=?_) hA rfl (fun _ _ _ h=>h) (Or.inl ⟨by rfl,?_⟩) hF (fun hA=>?_)
    rotate_left
    ·intro wS hSw;(try dsimp only at hSw);obtain ⟨s1,s2,s3,s4⟩:=hSw;first | (apply Eq.trans;apply ex_ld_id;exact rfl;exact rfl;assumption;with_reducible rfl) | (apply Eq.trans;apply ex_ldR_at;exact rfl;exact rfl;assumption;with_reducible rfl) | (apply Eq.trans;apply ex_ldS_at;exact rfl;exact rfl;assumption;with_reducible rfl) | (go_simp;try with_reducible rfl)
    try simp only [sA1,sA2,sA3,Act.put,sA4,sA5,sA6]
    refine wpAnyS_one hA rfl (fun K' hK=>?_)
    refine stp_skip rfl _ (ex_stV_at (C:=codS) rfl rfl rfl (stw_Parent n1 r.Parent)) ?_
    obtain ⟨p2,_,n2⟩:=Cod.put_fr n1 { rw0 with Node:=r.Node,Parent:=r.Parent }
    replace hF:=hk7 _ _ p2 hF
    refine hK.out _ _ hF (fun hA=>?_)
    clear hK K'
    as_aux_lemma =>
    refine wpAnyS_take (v:=?_) hA rfl (fun _ _ _ h=>h) (Or.inl ⟨by rfl,?_⟩) hF (fun hA=>?_)
    rotate_left
    ·intro wS hSw;(try dsimp only at hSw);obtain ⟨s1,s2,s3,s4⟩:=hSw;first | (apply Eq.trans;apply ex_ld_id;exact rfl;exact rfl;assumption;with_reducible rfl) | (apply Eq.trans;apply ex_ldR_at;exact rfl;exact rfl;assumption;with_reducible rfl) | (apply Eq.trans;apply ex_ldS_at;exact rfl;exact rfl;assumption;with_reducible rfl) | (go_simp;try with_reducible rfl)
    try simp only [sA1,sA2,sA3,Act.put,sA4,sA5,sA6]
    refine wpAnyS_one hA rfl (fun K' hK=>?_)
    refine stp_skip rfl _ (ex_stT_at rfl rfl rfl (rwAt (Cod.bxd_rd n2)).name ((Cod.bxd_blk n2).frozen 6)) ?_
    have p3:=Cod.set_fr (codR.put (codR.put wz.drew N { rw0 with Node:=r.Node }) N { rw0 with Node:=r.Node,Parent:=r.Parent }) N 6 (.string (str r.Name))
    have n3:=Cod.bxd_set n2 6 (.string (str r.Name)) _ (sew_Name _ _)
    replace hF:=hk7 _ _ p3 hF
    refine hK.out _ _ hF (fun hA=>?_)
    clear hK K'
    as_aux_lemma =>
    refine wpAnyS_take (v:=?_) hA rfl (fun _ _ _ h=>h) (Or.inl ⟨by rfl,?_⟩) hF (fun hA=>?_)
    rotate_left
    ·intro wS hSw;(try dsimp only at hSw);obtain ⟨s1,s2,s3,s4⟩:=hSw;first | (apply Eq.trans;apply ex_ld_id;exact rfl;exact rfl;assumption;with_reducible rfl) | (apply Eq.trans;apply ex_ldR_at;exact rfl;exact rfl;assumption;with_reducible rfl) | (apply Eq.trans;apply ex_ldS_at;exact rfl;exact rfl;assumption;with_reducible rfl) | (go_simp;try with_reducible rfl)
    try simp only [sA1,sA2,sA3,Act.put,sA4,sA5,sA6]
    refine wpAnyS_end hA rfl ?_
    simp only [List.drop_succ_cons,List.drop_zero]
    have hst4:=stw_At n3 r.At
    obtain ⟨p4,_,n4⟩:=Cod.put_fr n3 { rw0 with Node:=r.Node,Parent:=r.Parent,Name:=r.Name,At:=r.At }
    have P4:=((p1.trans p2 (fun _ _ h=>h)).trans p3 (fun _ _ h=>h)).trans p4 (fun _ _ h=>h)
    have HP4:=Lib.hid (And.intro P4 n4)
    clear hF hk7 p1 p2 p3 p4 n1 n2 bNw qq P4 n4 hoo
    go_upto_region 12 with fail
    obtain ⟨r9,hr9⟩:∃ q:RwW,q = { rw0 with Node:=r.Node,Parent:=r.Parent,Name:=r.Name,At:=r.At }:=⟨_,rfl⟩
    have hP4:=HP4.out
    clear HP4 n3 hst4
    rw [← hr9] at hP4 ⊢
    generalize codR.put _ _ r9 = Wm at hP4 ⊢
    obtain ⟨P4,bNz⟩:=hP4
    have hoo:=HOO.out
    have bEz:=Cod.bxd_fr (Cod.bxd_fr0 (Cod.bxd_fr0 bE3 fz) fdz) P4 (by show ¬ E = N;omega)
    have bDz:=Cod.bxd_fr (Cod.bxd_fr0 (Cod.bxd_fr0 bD3 fz) fdz) P4 (by show ¬ D = N;omega)
    have qz:=Cod.rd_fr (Cod.rd_fr0 (opAt (Cod.rd_fr0 q10 fz)).node fdz) P4 (by show ¬ O = N;omega)
    have gz5:=(gz.step0 fdz).step1 P4 (by omega)
    have htz:=ht.fr0 gz5
    have hmz:=mpT_fr0 hm gz5
    replace gz:=gz5
    have h9:=Lib.hid (show r9.Node = r.Node by rw [hr9])
    obtain ⟨x9,hx9⟩:∃ q:RwP,q = ⟨o.Node,o.Parent,o.At,o.Name,hdsR xs o.Node⟩:=⟨_,rfl⟩
    have HNEW:=Lib.hid (show newR xs o = some x9 by
     unfold newR
     rw [if_pos HMV.out.2,if_neg (by rw [HNO.out];decide),hx9])
    have hh0:hdsR xs o.Node = x0.Heads:=by
     unfold hdsR
     rw [HX0.out.1,HE.out.2.2.1]
     cases findR xs r.Node <;> rfl
    have R9:=Lib.hid (show RwO Wm r9 x9 by
     have h0:=H0.out
     have ho:=HO.out.inn
     have e:=HE.out
     have base:RwO w r9 x9:=by
      rw [hr9,hx9,hh0]
      exact ⟨⟨by rw [e.2.2.1,e.2.2.2.1,e.2.1,e.2.2.2.2.1];rfl,h0.inn.len,h0.inn.sl,h0.inn.bd,ho.nm,hwn,hwp⟩,h0.own⟩
     exact base.fr gz5 (NoHS.nob _))
    clear gz5 fdz bE3 bD3 bN3 b13 hm3 g3 fz hr9 hx9 hh0 hoo P4
    have u12:=(dnAt (Cod.bxd_rd bEz)).tn
    rw [Nat.zero_add] at u12
    have z12:=(Cod.bxd_blk bEz).frozen 41
    go_upto_region 13 with fail
    have hoo:=HOO.out
    have g12:=Cod.set_fr Wm E 41 (.bool true)
    have bE13:=Cod.bxd_set bEz 41 (.bool true) _ (seD_tn _ _)
    have bN13:=Cod.bxd_fr bNz g12 (by show ¬ N = E;omega)
    have bD13:=Cod.bxd_fr bDz g12 (by show ¬ D = E;omega)
    have q13:=Cod.rd_fr qz g12 (by show ¬ O = E;omega)
    have b13:=(htz.fr g12 (by show ¬ b = E;omega)).m
    have hm13:=mpT_fr hmz g12 (by show ¬ t.m = E;omega)
    have gz13:=gz.step1 g12 (by omega)
    have R13:=Lib.hid (R9.out.fr g12 (NoHS.blk (Cod.bxd_blk bEz) (by decide) (by decide)))
    clear u12 z12 bEz bNz bDz qz htz hmz gz g12 hoo R9
    generalize World.setCell _ _ _ = W13 at bE13 bN13 bD13 q13 b13 hm13 gz13 R13 ⊢
    have rN13:=Cod.bxd_rd bN13
    have hk13:∀ w' w'':World,Fr noB w' w'' → (w'.cell? ⟨b,0,none⟩ = some (.map (some t.m)) ∧ codS.rd w' O 3 = some r.Node ∧ codR.rd w' N 0 = some r9) → (w''.cell? ⟨b,0,none⟩ = some (.map (some t.m)) ∧ codS.rd w'' O 3 = some r.Node ∧ codR.rd w'' N 0 = some r9):=fun w' w'' f h=>⟨cell_fr0 h.1 f,Cod.rd_fr0 h.2.1 f,Cod.rd_fr0 h.2.2 f⟩
    have fd13:Fr noB W13 W13.drew:=(Fr.refl noB W13).drew
    have fdR:=Lib.hid fd13
    refine wp_region_M 7 8 [⟨38685626227668133590597632,1,0⟩,⟨77371252455336267181195264,38685626227668133590597632,1⟩,⟨154742504910672534362390528,77371252455336267181195264,2⟩,⟨309485009821345068724781056,154742504910672534362390528,4⟩,⟨618970019642690137449562112,8,0⟩,⟨1237940039285380274899124224,618970019642690137449562112,16⟩,⟨2475880078570760549798248448,32,0⟩,⟨0,4023305127677485893422153728,127⟩] [(true,0),(true,1),(true,2),(true,3),(true,4),(true,5),(true,6)] (fun w'=>w'.cell? ⟨b,0,none⟩ = some (.map (some t.m)) ∧ codS.rd w' O 3 = some r.Node ∧ codR.rd w' N 0 = some r9) (by kernel_rfl) rfl (by kernel_rfl) (by kernel_rfl) (by kernel_rfl) (hk13 _ _ fd13 ⟨b13,q13,rN13⟩) (fun hA hF=>?_)
    iterate 7
     refine wpAnyS_take (v:=?_) hA rfl (fun _ _ _ h=>h) (Or.inl ⟨by rfl,?_⟩) hF (fun hA=>?_)
     rotate_left
     ·intro wS hSw;(try dsimp only at hSw);obtain ⟨s1,s2,s3⟩:=hSw;first | (apply Eq.trans;apply ex_ld_id;exact rfl;exact rfl;assumption;with_reducible rfl) | (apply Eq.trans;apply ex_ldR_at;exact rfl;exact rfl;assumption;with_reducible rfl) | (apply Eq.trans;apply ex_ldS_at;exact rfl;exact rfl;assumption;with_reducible rfl) | (go_simp;try with_reducible rfl)
     try simp only [sA1,sA2,sA3,Act.put,sA4,sA5,sA6]
    refine wpAnyS_end hA rfl ?_
    simp only [List.drop_succ_cons,List.drop_zero]
    clear hF hk13 rN13
    have hm14:=mpT_fr0 hm13 fd13
    have bE14':=Cod.bxd_fr0 bE13 fd13
    have bD14':=Cod.bxd_fr0 bD13 fd13
    have gz14:=gz13.step0 fd13
    have hoo:=HOO.out
    obtain ⟨_,m1,m2,m3⟩:=mputT_all Tryz.underlying152 hm14 hwn (.agg (codR.A r9))
    have bE14:=Cod.bxd_fr bE14' m2 (by show ¬ E = t.m;omega)
    have bD14:=Cod.bxd_fr bD14' m2 (by show ¬ D = t.m;omega)
    have rE14:=Cod.bxd_rd bE14
    have hst:=okD.stR_box bD14 ⟨r,true,rw0,b0⟩
    obtain ⟨p1,p2,p3⟩:=Cod.put_fr bD14 ⟨r,true,rw0,b0⟩
    have HP1:=Lib.hid (And.intro p1 (And.intro p3 (And.intro m1 m2)))
    clear p1 p2 p3 m1 m2 m3 hoo bE14' bD14' bE13 bD13 bN13 hm13 b13 q13 fd13
    go_wp2_with fail
    obtain ⟨p1,p3,m1,m2⟩:=HP1.out
    refine bodyPost_ret (ret_row okD rfl _ _ D _ (by rfl) p3) rfl ?_
    have hoo:=HOO.out
    have ge:Fr (oneB t.m) w _:=(((Fr.refl (oneB t.m) w).step0 gz14).trans m2 (fun _ _ h=>h)).step1 p1 (by omega)
    have nm:=NoHS.map hm
    have e1:doD xs o = ⟨o,true,x0,b0⟩:=by
     unfold doD
     rw [HNEW.out,HE.out.2.2.1,← HX0.out.1,← HX0.out.2];rfl
    have e2:doX xs o = putR xs x9:=by unfold doX;rw [HNEW.out]
    unfold DoTo
    rw [e1,e2]
    have n9:=h9.out
    refine ⟨_,rfl,⟨HO.out.fr ge nm,rfl,H0.out.fr ge nm,rfl⟩,⟨putW rs r9,?_,RwsO_.put (HR.out.map fun r y h=>h.fr ge nm) (((R13.out.fr fdR.out (NoHS.nob _)).fr m2 (NoHS.map hm14)).fr p1 (NoHS.blk (Cod.bxd_blk bD14) (by decide) (by decide)))⟩,ge⟩
    refine mpT_fr ?_ p1 (by show ¬ t.m = D;omega)
    rw [m1,← n9,tab_putW]
 ·have k1:(r.Kind == 1) = false:=by rw [beq_eq_false_iff_ne];exact hK
  have hKo:¬ o.Kind = 1:=by rw [HE.out.1];exact hK
  have HKO:=Lib.hid hKo
  clear hKo hK
  cases b0 with
  | false =>
   have HNONE:=Lib.hid (show newR xs o = none by
    unfold newR
    rw [if_neg HKO.out,HE.out.2.2.1]
    have h1:=HX0.out.2
    have h2:findR xs r.Node = none:=by simpa using h1.symm
    rw [h2])
   have bE3:=bE
   have bD3:=bD2
   have g3:=g2
   go_upto_region 9 with fail
   have fz:Fr noB W2 W2:=Fr.refl _ _
   have bEz:=Cod.bxd_fr0 bE3 fz
   have bDz:=Cod.bxd_fr0 bD3 fz
   have rEz:=Cod.bxd_rd bEz
   have hst:=okD.stR_box bDz ⟨r,false,rw0,false⟩
   obtain ⟨p1,p2,p3⟩:=Cod.put_fr bDz ⟨r,false,rw0,false⟩
   have HP1:=Lib.hid (And.intro p1 p3)
   have gz:=g3.step0 fz
   clear p1 p2 p3
   go_wp2_with fail
   obtain ⟨p1,p3⟩:=HP1.out
   refine bodyPost_ret (ret_row okD rfl _ _ D _ (by rfl) p3) rfl ?_
   have ge:=gz.step1 p1 (by have:=HOO.out;omega)
   have e1:doD xs o = ⟨o,false,x0,false⟩:=by
    unfold doD
    rw [HNONE.out,HE.out.2.2.1,← HX0.out.1,← HX0.out.2];rfl
   have e2:doX xs o = xs:=by unfold doX;rw [HNONE.out]
   unfold DoTo
   rw [e1,e2]
   exact ⟨_,rfl,⟨HO.out.fr ge (NoHS.nob _),rfl,H0.out.fr ge (NoHS.nob _),rfl⟩,⟨rs,mpT_fr0 hm ge,HR.out.map fun r y h=>h.fr ge (NoHS.nob _)⟩,(Fr.refl (oneB t.m) w).step0 ge⟩
  | true =>
   have hf0:findR xs r.Node = some x0:=by
    have h1:=HX0.out.1
    have h2:=HX0.out.2
    cases h:findR xs r.Node with
    | none=>rw [h] at h2;cases h2
    | some q=>rw [h] at h1;rw [h1];rfl
   have HF0:=Lib.hid hf0
   have HLB:=Lib.hid (HBD.out x0 (findR_some hf0).1)
   clear hf0
   have u2:=(rwAt (Cod.bxd_rd bN2)).heads
   have h02:=H0.out.fr g2 (NoHS.nob _)
   have HO2:=Lib.hid (HO.out.fr g2 (NoHS.nob _))
   have CH:=Lib.hid (clHeads_any W2 rw0.A rw0.c x0.Heads rw0.n h02.inn.len h02.inn.sl (by have:=HLB.out;omega))
   have CD:=Lib.hid (fun w' (f:Fr noB W2 w') A c n (l:List Hd) hn hown hcap hb=>delHeads_any W2 w' f A c n l hn hown hcap hb O r.A r.n r.c o.Over q9 HO2.out.inn.len HO2.out.inn.sl HO2.out.inn.bd)
   have ro:=q10
   clear h02
   go_upto_region 11 with (first
    | (go_at_call 112;refine CH.out.mono ?_;rintro e w4 ⟨A4,c4,rfl,o4,f4⟩;have hc4:x0.Heads.length ≤ c4:=by (obtain ⟨_,_,e,hc,_⟩:=own_form o4;injection e with _ _ e;omega))
    | (go_at_call 139;refine (CD.out w4 f4 A4 c4 x0.Heads.length x0.Heads rfl o4 hc4 (by have:=HLB.out;omega)).mono ?_;rintro e w5 ⟨A5,c5,rfl,o5,f5,hc5⟩))
   obtain ⟨hs5,hhs5⟩:∃ l:List Hd,l = leftH o.Over x0.Heads:=⟨_,rfl⟩
   rw [← hhs5] at o5 hc5 ⊢
   have HHS:=Lib.hid hhs5
   have HL5:=Lib.hid (show hs5.length ≤ 1000000 by
    rw [hhs5]
    have:=List.length_filter_le (fun h:Hd=>!decide (h.At ∈ o.Over)) x0.Heads
    have:=HLB.out
    unfold leftH
    omega)
   clear hhs5 CH CD u2 f4 o4 hc4
   have q4':=Cod.rd_fr0 q4 f5
   have q8':=rdI_fr q8 (rdI_lt q8) f5 (by simp [noB])
   have bN5:=Cod.bxd_fr0 bN2 f5
   have fn:Fr noB w5 (w5.alloc (codH.ro [⟨r.At,r.Data⟩])):=(Fr.refl noB w5).alloc _
   have sl:=Cod.sl_new (C:=codH) w5 [⟨r.At,r.Data⟩]
   have o6:=own_new0 o5 fn
   have f6:=f5.step0 fn
   have bN6:=Cod.bxd_fr0 bN5 fn
   clear o5 hc5 fn q1 q4 q5 q6 q7 q8 q9
   go_upto_region 12 with (at_builtin;refine wpList_appC' etH W2 _ rfl _ _ rfl A5 hs5.length c5 hs5 rfl rfl o6 (some ⟨w5.heap.size,0,none⟩) 1 1 [⟨r.At,r.Data⟩] rfl sl rfl (by have:=HL5.out;simp;omega) f6.size ?_;intro A7 c7 w7 hc7 hm7 o7 g7 hA7;have bN7:=Cod.bxd_fr bN6 (Fr.ofGrown (M:=fun b=>A5.map (·.block) = some b) g7 (fun g hg=>hg)) (fun e=>Blk.ne_own (Cod.bxd_blk bN6) o6 (by decide) N (by rw [ownBlock_sl'];exact e) rfl);have u7:=(rwAt (Cod.bxd_rd bN7)).heads;have z7:=(Cod.bxd_blk bN7).frozen 7)
   obtain ⟨hd,hhd⟩:∃ h:Hd,h = ⟨r.At,r.Data⟩:=⟨_,rfl⟩
   rw [← hhd] at o7
   have hdl:(hs5 ++ [hd]).length = hs5.length + 1:=by simp
   have F7:=gv_own f6 o6 g7
   obtain ⟨r9,hr9⟩:∃ q:RwW,q = { rw0 with A:=A7,n:=hs5.length + 1,c:=c7 }:=⟨_,rfl⟩
   have bNz:=Cod.bxd_set bN7 7 (.slice A7 (hs5.length + 1) c7) _ (sew_Heads _ _ _ _)
   have g8:=Cod.set_fr w7 N 7 (.slice A7 (hs5.length + 1) c7)
   have hoo:=HOO.out
   have o8:=own_zero (own_box (Cod.bxd_blk bN7) o7 (by decide) g8)
   have bEz:=Cod.bxd_fr (Cod.bxd_fr0 bE F7) g8 (by show ¬ E = N;omega)
   have bDz:=Cod.bxd_fr (Cod.bxd_fr0 bD2 F7) g8 (by show ¬ D = N;omega)
   have qz:=Cod.rd_fr (opAt (Cod.rd_fr0 q10 F7)).node g8 (by show ¬ O = N;omega)
   have gz:=(g2.step0 F7).step1 g8 (by omega)
   have htz:=ht.fr0 gz
   have hmz:=mpT_fr0 hm gz
   rw [← hr9] at bNz
   obtain ⟨x9,hx9⟩:∃ q:RwP,q = ⟨x0.Node,x0.Parent,x0.At,x0.Name,hs5 ++ [hd]⟩:=⟨_,rfl⟩
   have HNEW:=Lib.hid (show newR xs o = some x9 by
    unfold newR
    rw [if_neg HKO.out,HE.out.2.2.1,HF0.out,hx9,HHS.out,hhd,HE.out.2.1,HE.out.2.2.2.2.2])
   have h9:=Lib.hid (show r9.Node = r.Node by
    rw [hr9]
    have:=H0.out.inn.node
    rw [findR_node HF0.out] at this
    exact this.symm)
   have R9:=Lib.hid (show RwO (w7.setCell ⟨N,7,none⟩ (.slice A7 (hs5.length + 1) c7)) r9 x9 by
    have h0:=H0.out.inn
    rw [hr9,hx9]
    rw [hdl] at o8
    refine ⟨⟨by rw [h0.node,h0.parent,h0.at_,h0.name];rfl,hdl,Sl.own o8,?_,h0.nm,h0.wn,h0.wp⟩,o8⟩
    show (hs5 ++ [hd]).length ≤ _
    rw [hdl]
    have:=HL5.out
    omega)
   clear hdl F7 g8 hoo o8 bN7 o7 g7 hA7 u7 z7 hc7 hm7 o6 sl bN6 bN5 f6 f5 hr9 hx9 hhd bE bN2 bD2 b12 hm2 g2 q4' q8' ro q10
   generalize w7.setCell ⟨N,7,none⟩ (.slice A7 (hs5.length + 1) c7) = Wm at bNz bEz bDz qz gz htz hmz R9 ⊢
   have u12:=(dnAt (Cod.bxd_rd bEz)).tn
   rw [Nat.zero_add] at u12
   have z12:=(Cod.bxd_blk bEz).frozen 41
   go_upto_region 13 with fail
   have hoo:=HOO.out
   have g12:=Cod.set_fr Wm E 41 (.bool true)
   have bE13:=Cod.bxd_set bEz 41 (.bool true) _ (seD_tn _ _)
   have bN13:=Cod.bxd_fr bNz g12 (by show ¬ N = E;omega)
   have bD13:=Cod.bxd_fr bDz g12 (by show ¬ D = E;omega)
   have q13:=Cod.rd_fr qz g12 (by show ¬ O = E;omega)
   have b13:=(htz.fr g12 (by show ¬ b = E;omega)).m
   have hm13:=mpT_fr hmz g12 (by show ¬ t.m = E;omega)
   have gz13:=gz.step1 g12 (by omega)
   have R13:=Lib.hid (R9.out.fr g12 (NoHS.blk (Cod.bxd_blk bEz) (by decide) (by decide)))
   clear u12 z12 bEz bNz bDz qz htz hmz gz g12 hoo R9
   generalize World.setCell _ _ _ = W13 at bE13 bN13 bD13 q13 b13 hm13 gz13 R13 ⊢
   have rN13:=Cod.bxd_rd bN13
   have hk13:∀ w' w'':World,Fr noB w' w'' → (w'.cell? ⟨b,0,none⟩ = some (.map (some t.m)) ∧ codS.rd w' O 3 = some r.Node ∧ codR.rd w' N 0 = some r9) → (w''.cell? ⟨b,0,none⟩ = some (.map (some t.m)) ∧ codS.rd w'' O 3 = some r.Node ∧ codR.rd w'' N 0 = some r9):=fun w' w'' f h=>⟨cell_fr0 h.1 f,Cod.rd_fr0 h.2.1 f,Cod.rd_fr0 h.2.2 f⟩
   have fd13:Fr noB W13 W13.drew:=(Fr.refl noB W13).drew
   have fdR:=Lib.hid fd13
   refine wp_region_M 7 8 [⟨38685626227668133590597632,1,0⟩,⟨77371252455336267181195264,38685626227668133590597632,1⟩,⟨154742504910672534362390528,77371252455336267181195264,2⟩,⟨309485009821345068724781056,154742504910672534362390528,4⟩,⟨618970019642690137449562112,8,0⟩,⟨1237940039285380274899124224,618970019642690137449562112,16⟩,⟨2475880078570760549798248448,32,0⟩,⟨0,4023305127677485893422153728,127⟩] [(true,0),(true,1),(true,2),(true,3),(true,4),(true,5),(true,6)] (fun w'=>w'.cell? ⟨b,0,none⟩ = some (.map (some t.m)) ∧ codS.rd w' O 3 = some r.Node ∧ codR.rd w' N 0 = some r9) (by kernel_rfl) rfl (by kernel_rfl) (by kernel_rfl) (by kernel_rfl) (hk13 _ _ fd13 ⟨b13,q13,rN13⟩) (fun hA hF=>?_)
   iterate 7
    refine wpAnyS_take (v:=?_) hA rfl (fun _ _ _ h=>h) (Or.inl ⟨by rfl,?_⟩) hF (fun hA=>?_)
    rotate_left
    ·intro wS hSw;(try dsimp only at hSw);obtain ⟨s1,s2,s3⟩:=hSw;first | (apply Eq.trans;apply ex_ld_id;exact rfl;exact rfl;assumption;with_reducible rfl) | (apply Eq.trans;apply ex_ldR_at;exact rfl;exact rfl;assumption;with_reducible rfl) | (apply Eq.trans;apply ex_ldS_at;exact rfl;exact rfl;assumption;with_reducible rfl) | (go_simp;try with_reducible rfl)
    try simp only [sA1,sA2,sA3,Act.put,sA4,sA5,sA6]
   refine wpAnyS_end hA rfl ?_
   simp only [List.drop_succ_cons,List.drop_zero]
   clear hF hk13 rN13
   have hm14:=mpT_fr0 hm13 fd13
   have bE14':=Cod.bxd_fr0 bE13 fd13
   have bD14':=Cod.bxd_fr0 bD13 fd13
   have gz14:=gz13.step0 fd13
   have hoo:=HOO.out
   obtain ⟨_,m1,m2,m3⟩:=mputT_all Tryz.underlying152 hm14 hwn (.agg (codR.A r9))
   have bE14:=Cod.bxd_fr bE14' m2 (by show ¬ E = t.m;omega)
   have bD14:=Cod.bxd_fr bD14' m2 (by show ¬ D = t.m;omega)
   have rE14:=Cod.bxd_rd bE14
   have hst:=okD.stR_box bD14 ⟨r,true,rw0,true⟩
   obtain ⟨p1,p2,p3⟩:=Cod.put_fr bD14 ⟨r,true,rw0,true⟩
   have HP1:=Lib.hid (And.intro p1 (And.intro p3 (And.intro m1 m2)))
   clear p1 p2 p3 m1 m2 m3 hoo bE14' bD14' bE13 bD13 bN13 hm13 b13 q13 fd13
   go_wp2_with fail
   obtain ⟨p1,p3,m1,m2⟩:=HP1.out
   refine bodyPost_ret (ret_row okD rfl _ _ D _ (by rfl) p3) rfl ?_
   have hoo:=HOO.out
   have ge:Fr (oneB t.m) w _:=(((Fr.refl (oneB t.m) w).step0 gz14).trans m2 (fun _ _ h=>h)).step1 p1 (by omega)
   have nm:=NoHS.map hm
   have e1:doD xs o = ⟨o,true,x0,true⟩:=by
    unfold doD
    rw [HNEW.out,HE.out.2.2.1,← HX0.out.1,← HX0.out.2];rfl
   have e2:doX xs o = putR xs x9:=by unfold doX;rw [HNEW.out]
   unfold DoTo
   rw [e1,e2]
   have n9:=h9.out
   refine ⟨_,rfl,⟨HO.out.fr ge nm,rfl,H0.out.fr ge nm,rfl⟩,⟨putW rs r9,?_,RwsO_.put (HR.out.map fun r y h=>h.fr ge nm) (((R13.out.fr fdR.out (NoHS.nob _)).fr m2 (NoHS.map hm14)).fr p1 (NoHS.blk (Cod.bxd_blk bD14) (by decide) (by decide)))⟩,ge⟩
   refine mpT_fr ?_ p1 (by show ¬ t.m = D;omega)
   rw [m1,← n9,tab_putW]
end Go.Proofs.YtjpieiccpbcabaaGreat
