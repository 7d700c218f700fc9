/- Contract: pollardlaw15.put. Plain: a commit that is taken; the document's example. Plain: what MergeTwo, MergeSafe say of plans. Plain: histories that numbers say (grown). Plain: the commits of grown may be. Plain: histories that are merged by commits without operations (MergeThree). -/
import Derived.Test.YtjpieiccpbcabaaGreatMgLKu
set_option linter.unusedVariables false
set_option linter.unusedSimpArgs false
namespace Go.Proofs.YtjpieiccpbcabaaGreat
open Go.RowKit Go.Maps Go.Sort
attribute [local go_sem] Oper.semAt_some
theorem bldO_p4 (w:World) (k:Int) (a s:St) (m:List UInt8):(Instr.build 83 #[(0,.int .i64 k),(1,.agg (codS.A a)),(2,.agg (codS.A s)),(4,.string (str m))]).run Tryz.prog w = .ok (.agg (codO.A { zOpW with Kind:=k,At:=a,Node:=s,Name:=m })) w:=by
 have h1:∀ place:Nat → Option (Nat × Nat),place 0 = some (0,1) → place 1 = some (1,2) → place 2 = some (3,2) → place 4 = some (7,1) → Instr.fill place ([] ++ [Value.int .i64 0] ++ ([Value.int .i64 0,Value.int .i64 0,Value.int .i64 0,Value.int .i64 0,Value.int .i64 0,Value.int .i64 0,Value.string (str [])] ++ bv zID.1 ++ [Value.slice none 0 0])).toArray [(0,.int .i64 k),(1,.agg (codS.A a)),(2,.agg (codS.A s)),(4,.string (str m))] = some (codO.cs { zOpW with Kind:=k,At:=a,Node:=s,Name:=m }).toArray:=by
  intro place p0 p1 p2 p4
  refine (fill_one place [] [.int .i64 0] ([Value.int .i64 0,Value.int .i64 0,Value.int .i64 0,Value.int .i64 0,Value.int .i64 0,Value.int .i64 0,Value.string (str [])] ++ bv zID.1 ++ [Value.slice none 0 0]) [.int .i64 k] 0 (.int .i64 k) _ rfl (by simpa using p0) rfl).trans ?_
  have e0:=fill_one place [.int .i64 k] [.int .i64 0,.int .i64 0] ([.int .i64 0,.int .i64 0,.int .i64 0,.int .i64 0,Value.string (str [])] ++ bv zID.1 ++ [Value.slice none 0 0]) [.int .i64 a.T,.int .i64 a.R] 1 (.agg (codS.A a)) [(2,.agg (codS.A s)),(4,.string (str m))] (by rw [A_SS];rfl) (by simpa using p1) rfl
  refine Eq.trans ?_ (e0.trans ?_)
  ·simp
  have e1:=fill_one place [.int .i64 k,.int .i64 a.T,.int .i64 a.R] [.int .i64 0,.int .i64 0] ([.int .i64 0,.int .i64 0,Value.string (str [])] ++ bv zID.1 ++ [Value.slice none 0 0]) [.int .i64 s.T,.int .i64 s.R] 2 (.agg (codS.A s)) [(4,.string (str m))] (by rw [A_SS];rfl) (by simpa using p2) rfl
  refine Eq.trans ?_ (e1.trans ?_)
  ·simp
  have e3:=fill_one place [.int .i64 k,.int .i64 a.T,.int .i64 a.R,.int .i64 s.T,.int .i64 s.R,.int .i64 0,.int .i64 0] [Value.string (str [])] (bv zID.1 ++ [Value.slice none 0 0]) [.string (str m)] 4 (.string (str m)) [] rfl (by simpa using p4) rfl
  refine Eq.trans ?_ (e3.trans ?_)
  ·simp
  ·simp [Instr.fill,codO,csO,zOpW,zSt]
 have hz:(zeroValue 83).run Tryz.prog w = .ok (.agg (codO.cs codO.z).toArray) w:=okO.zero w
 simp only [Instr.build,Sem.run_bind,hz,Result.andThen_ok,run_underlying Tryz.underlying83,zO_form]
 simp only [List.mapM_toArray,List.mapM_cons,List.mapM_nil,Sem.run_bind,Tryz.sizeOf3,Tryz.sizeOf24,Tryz.sizeOf81,Tryz.sizeOf9,Tryz.sizeOf80,Result.andThen_ok,Sem.run_pure,Sem.run_map,map_pure,bind_pure_comp]
 rw [h1 _ rfl rfl rfl rfl]
 simp [Cod.A_eq]
@[simp ↓] theorem ex_bldOp4 (ρ:Operand → Value) (x0 x1 x2 x4:Operand) (d:Option Nat) (t:TypeId) (p:String) (f:Array Edge) (g:Option (Nat × Bool)) (w:World) :
  (execOp ρ { dst:=d,op:=.build 83 #[(0,x0),(1,x1),(2,x2),(4,x4)],type:=t,pos:=p,after:=f,guard:=g }).run Tryz.prog w = mkB 83 w [(0,ρ x0),(1,ρ x1),(2,ρ x2),(4,ρ x4)]:=(exB ρ _ _ _ rfl w).trans (by simp only [List.map_toArray,List.map_cons,List.map_nil])
@[simp] theorem mkB_Op4 (w:World) (k:Int) (a s:St) (m:List UInt8):mkB 83 w [(0,.int .i64 k),(1,.agg (codS.A a)),(2,.agg (codS.A s)),(4,.string (str m))] = .ok (.value (.agg (codO.A { zOpW with Kind:=k,At:=a,Node:=s,Name:=m }))) w:=mkB_ok (bldO_p4 w k a s m)
@[simp] theorem mkB_Op4a (w:World) (k:Int) (a s:St):mkB 83 w [(0,.int .i64 k),(1,.agg (codS.A a)),(2,.agg (codS.A s)),(4,.string { data:=#[97] })] = .ok (.value (.agg (codO.A { zOpW with Kind:=k,At:=a,Node:=s,Name:=[97] }))) w:=mkB_Op4 w k a s [97]
theorem bldC_p5 (w:World) (A:Option Addr) (n c:Nat) (t r:Int) (x:ID) (B:Option Addr) (m d:Nat):(Instr.build 35 #[(0,.slice A n c),(1,.int .i64 t),(2,.int .i64 r),(4,encI x),(3,.slice B m d)]).run Tryz.prog w = .ok (.agg (codC.A ⟨A,n,c,t,r,B,m,d,x,[]⟩)) w:=by
 have h1:∀ place:Nat → Option (Nat × Nat),place 0 = some (0,1) → place 1 = some (1,1) → place 2 = some (2,1) → place 4 = some (4,32) → place 3 = some (3,1) → Instr.fill place ([] ++ [Value.slice none 0 0] ++ ([Value.int .i64 0,Value.int .i64 0,Value.slice none 0 0] ++ bv zID.1 ++ [Value.string (str [])])).toArray [(0,.slice A n c),(1,.int .i64 t),(2,.int .i64 r),(4,encI x),(3,.slice B m d)] = some (codC.cs ⟨A,n,c,t,r,B,m,d,x,[]⟩).toArray:=by
  intro place p0 p1 p2 p4 p3
  refine (fill_one place [] [.slice none 0 0] ([Value.int .i64 0,Value.int .i64 0,Value.slice none 0 0] ++ bv zID.1 ++ [Value.string (str [])]) [.slice A n c] 0 (.slice A n c) _ rfl (by simpa using p0) rfl).trans ?_
  have e1:=fill_one place [.slice A n c] [.int .i64 0] ([.int .i64 0,.slice none 0 0] ++ bv zID.1 ++ [.string (str [])]) [.int .i64 t] 1 (.int .i64 t) [(2,.int .i64 r),(4,encI x),(3,.slice B m d)] rfl (by simpa using p1) rfl
  refine Eq.trans ?_ (e1.trans ?_)
  ·simp
  have e2:=fill_one place [.slice A n c,.int .i64 t] [.int .i64 0] ([.slice none 0 0] ++ bv zID.1 ++ [.string (str [])]) [.int .i64 r] 2 (.int .i64 r) [(4,encI x),(3,.slice B m d)] rfl (by simpa using p2) rfl
  refine Eq.trans ?_ (e2.trans ?_)
  ·simp
  have e4:=fill_one place [.slice A n c,.int .i64 t,.int .i64 r,.slice none 0 0] (bv zID.1) [.string (str [])] (bv x.1) 4 (encI x) [(3,.slice B m d)] (cellsI x) (by simpa [x.2] using p4) (by simp [x.2,zID])
  refine Eq.trans ?_ (e4.trans ?_)
  ·simp
  have e3:=fill_one place [.slice A n c,.int .i64 t,.int .i64 r] [.slice none 0 0] (bv x.1 ++ [.string (str [])]) [.slice B m d] 3 (.slice B m d) [] rfl (by simpa using p3) rfl
  refine Eq.trans ?_ (e3.trans ?_)
  ·simp
  ·simp [Instr.fill,codC,csC]
 have hz:(zeroValue 35).run Tryz.prog w = .ok (.agg (codC.cs codC.z).toArray) w:=okC.zero w
 have hc:(Value.agg (codC.cs codC.z).toArray).cells = ([] ++ [Value.slice none 0 0] ++ ([Value.int .i64 0,Value.int .i64 0,Value.slice none 0 0] ++ bv zID.1 ++ [Value.string (str [])])).toArray:=rfl
 have hsI:∀ w,(sizeOf 24).run Tryz.prog w = .ok 32 w:=fun w=>Tryz.sizeOf24 w
 simp only [Instr.build,Sem.run_bind,hz,Result.andThen_ok,run_underlying Tryz.underlying35,hc]
 simp only [List.mapM_toArray,List.mapM_cons,List.mapM_nil,Sem.run_bind,hsI,Tryz.sizeOf9,Tryz.sizeOf32,Tryz.sizeOf33,Tryz.sizeOf2,Tryz.sizeOf3,Result.andThen_ok,Sem.run_pure,Sem.run_map,map_pure,bind_pure_comp]
 rw [h1 _ rfl rfl rfl rfl rfl]
 simp [Cod.A_eq]
@[simp ↓] theorem ex_bldCp5 (ρ:Operand → Value) (x0 x1 x2 x4 x3:Operand) (d:Option Nat) (t:TypeId) (p:String) (f:Array Edge) (g:Option (Nat × Bool)) (w:World) :
  (execOp ρ { dst:=d,op:=.build 35 #[(0,x0),(1,x1),(2,x2),(4,x4),(3,x3)],type:=t,pos:=p,after:=f,guard:=g }).run Tryz.prog w = mkB 35 w [(0,ρ x0),(1,ρ x1),(2,ρ x2),(4,ρ x4),(3,ρ x3)]:=(exB ρ _ _ _ rfl w).trans (by simp only [List.map_toArray,List.map_cons,List.map_nil])
@[simp] theorem mkB_Cp5 (w:World) (A:Option Addr) (n c:Nat) (t r:Int) (x:ID) (B:Option Addr) (m d:Nat):mkB 35 w [(0,.slice A n c),(1,.int .i64 t),(2,.int .i64 r),(4,encI x),(3,.slice B m d)] = .ok (.value (.agg (codC.A ⟨A,n,c,t,r,B,m,d,x,[]⟩))) w:=mkB_ok (bldC_p5 w A n c t r x B m d)
def ptW (t r:Int):OpW:={ zOpW with Kind:=1,At:=⟨t,r⟩,Node:=⟨t,r⟩,Name:=[97] }
def ptO (t r:Int):Opn:=⟨1,⟨t,r⟩,⟨t,r⟩,zSt,[97],zID,[]⟩
def ptC (ps:List ID) (t r:Int):Chg:=⟨ps,t,r,[ptO t r],id2 1 0,[]⟩
theorem pt_in (w:World) (t r:Int):OpIn w (ptW t r) (ptO t r):=⟨rfl,rfl,Sl.nil _ _,by simp [ptO],by simp [ptW]⟩
def PutTo15 (w:World) (A:Option Addr) (n c:Nat) (t r:Int) (e:Ending) (w':World):Prop :=
 ∃ g,e = .returned (.agg (codC.A ⟨A,n,c,t,r,some ⟨g,0,none⟩,1,1,id2 1 0,[]⟩)) ∧ w.heap.size ≤ g ∧ g < w'.heap.size ∧ Sl w' (some ⟨g,0,none⟩) (codO.row [ptW t r]) ∧ Fr noB w w'
theorem PutTo15.q {w':World} {A:Option Addr} {n c g:Nat} {t r:Int} {ps:List ID} {Q:Nat → Prop} (hs:Sl w' (some ⟨g,0,none⟩) (codO.row [ptW t r])) (hg:Q g) (hn:ps.length = n) (hp:Sl w' A (idc ps)) (hb:ps.length ≤ 1000000000) (hq:ps ≠ [] → InQ Q A) :
  CgQ Q w' ⟨A,n,c,t,r,some ⟨g,0,none⟩,1,1,id2 1 0,[]⟩ [ptW t r] (ptC ps t r) :=
 ⟨⟨rfl,rfl,rfl,rfl,hn,hp,rfl,hs,⟨rfl,fun i h h'=>by
  have:i = 0:=by simpa using h
  subst this
  exact pt_in w' t r⟩,by show ps.length ≤ _;omega,by simp,by simp⟩,hq,fun _ g' hg'=>by
  injection hg' with hg'
  subst hg'
  exact hg,fun i h h'=>by
  have:i = 0:=by simpa using h
  subst this
  exact ⟨pt_in w' t r,fun h=>absurd rfl h⟩⟩
set_option maxRecDepth 100000 in
set_option maxHeartbeats 4000000 in
theorem l15put_any (w:World) (A:Option Addr) (n c:Nat) (t r:Int):Calls Tryz.prog 31 #[.int .i64 t,.int .i64 r,.slice A n c] w (PutTo15 w A n c t r):=by
 have f0:Fr noB w (w.alloc (codC.o zCgW)):=(Fr.refl noB w).alloc _
 have b0:=Cod.bxd_new (C:=codC) w zCgW
 go_enter Tryz.func31,Tryz.ntmps31
 go_upto_region 1 with fail
 generalize w.alloc (codC.o zCgW) = W0 at f0 b0 ⊢
 obtain ⟨R,hR⟩:∃ R,R = w.heap.size:=⟨_,rfl⟩
 rw [← hR] at b0 ⊢
 have HR:=Lib.hid hR
 clear hR
 go_upto_region 2 with fail
 have f1:Fr noB W0 (W0.alloc (codS.o ⟨t,r⟩)):=(Fr.refl noB W0).alloc _
 have q1:=Cod.rd_new' (C:=codS) W0 ⟨t,r⟩
 have b1:=Cod.bxd_fr0 b0 f1
 have F1:=f0.step0 f1
 clear f0 f1 b0
 generalize W0.alloc (codS.o ⟨t,r⟩) = W1 at q1 b1 F1 ⊢
 generalize W0.heap.size = P at q1 ⊢
 have f2:Fr noB W1 (W1.alloc (codO.ro [ptW t r])):=(Fr.refl noB W1).alloc _
 have s2:Sl (W1.alloc (codO.ro [ptW t r])) (some ⟨W1.heap.size,0,none⟩) (codO.row [ptW t r]):=Cod.sl_new (C:=codO) W1 [ptW t r]
 have b2:=Cod.bxd_fr0 b1 f2
 have hst:=okC.stR_box b2 ⟨A,n,c,t,r,some ⟨W1.heap.size,0,none⟩,1,1,id2 1 0,[]⟩
 obtain ⟨p1,p2,p3⟩:=Cod.put_fr b2 ⟨A,n,c,t,r,some ⟨W1.heap.size,0,none⟩,1,1,id2 1 0,[]⟩
 have F2:=F1.step0 f2
 have hz:(W1.alloc (codO.ro [ptW t r])).heap.size = W1.heap.size + 1:=by simp
 have HS:=Lib.hid (And.intro hz (And.intro (Cod.bxd_lt b1) F1.size))
 have HPP:=Lib.hid (And.intro p1 (And.intro p2 p3))
 clear p1 p2 p3 hz b1 f2 F1
 have hmv:{ zOpW with Kind:=1,At:=⟨t,r⟩,Node:=⟨t,r⟩,Name:=[97] } = ptW t r:=rfl
 go_wp2_with fail
 obtain ⟨p1,p2,p3⟩:=HPP.out
 refine bodyPost_ret (ret_row okC rfl _ _ R _ (by rfl) p3) rfl ?_
 obtain ⟨hz,hb,hs⟩:=HS.out
 refine ⟨_,rfl,hs,by rw [p2,hz];omega,s2.fr p1 (fun a ha h=>?_),F2.step1 p1 (by rw [HR.out];exact Nat.le_refl _)⟩
 injection ha with ha
 subst ha
 have h':W1.heap.size = R:=h
 omega
end Go.Proofs.YtjpieiccpbcabaaGreat
namespace Go.Proofs.YtjpieiccpbcabaaGreat
open Go.RowKit
theorem addH_new {L:Hst} {x:ID} {c:Chg} (h1:hasG (dgH L) x = false) (h2:x ≠ zID) (h3:rightCh c = true) (h4:timeOk L c = true) (h5:∀ p ∈ c.Parents,hasG (dgH L) p = true) (h6:∀ o ∈ c.Ops,∀ p ∈ opsH L,p.At ≠ o.At):addH L x c = (0,(x,c) :: L):=by
 unfold addH
 have e2:decide (x = zID) = false:=by simpa using h2
 have e5:(c.Parents.any fun p=>!hasG (dgH L) p) = false:=by
  rw [List.any_eq_false]
  intro p hp
  simp [h5 p hp]
 have e6:clashO (opsH L) c.Ops = false:=by
  unfold clashO
  rw [List.any_eq_false]
  intro o ho
  rw [findO_none.2 (h6 o ho)]
  simp
 rw [h1,e2,h3,h4,e5,e6]
 rfl
theorem NdH.add {L:Hst} (h:NdH L) {x:ID} {c:Chg} (h3:rightCh c = true) (h6:∀ o ∈ c.Ops,∀ p ∈ opsH L,p.At ≠ o.At):NdH ((x,c) :: L):=by
 show ((c.Ops ++ opsH L).map (·.At)).Nodup
 rw [List.map_append]
 refine List.nodup_append.2 ⟨srt_nd (rightCh_parts h3).2.2.2.2.1,h,?_⟩
 intro a ha b hb e
 obtain ⟨o,ho,rfl⟩:=List.mem_map.1 ha
 obtain ⟨p,hp,rfl⟩:=List.mem_map.1 hb
 exact h6 o ho p hp e.symm
theorem NdH.nil:NdH []:=List.nodup_nil
theorem Hs.lt {w:World} {H:Nat} {S:Nat → Prop} {L:Hst} (h:Hs w H S L) {b:Nat} (hb:S b):b < w.heap.size:=by
 obtain ⟨_,_,_,_,_,_,_,_,_,h3⟩:=h
 exact h3 b hb
/-! the document's example -/
def eA:ID:=id2 1 0
def eB:ID:=id2 2 0
def eC:ID:=id2 3 0
def L15a:Hst:=[(eA,ptC [] 1 1)]
def L15b:Hst:=(eB,ptC [eA] 2 1) :: L15a
def L15c:Hst:=(eC,ptC [eA] 2 2) :: L15b
theorem ad15a:addH [] eA (ptC [] 1 1) = (0,L15a):=addH_new rfl (by decide) (by decide +kernel) rfl (by simp [ptC]) (by simp [ptC,opsH])
theorem ad15b:addH L15a eB (ptC [eA] 2 1) = (0,L15b):=addH_new (by decide +kernel) (by decide) (by decide +kernel) (by decide +kernel) (by decide +kernel) (by decide +kernel)
theorem ad15c:addH L15b eC (ptC [eA] 2 2) = (0,L15c):=addH_new (by decide +kernel) (by decide) (by decide +kernel) (by decide +kernel) (by decide +kernel) (by decide +kernel)
theorem nd15:NdH L15c:=by
 unfold NdH
 decide +kernel
theorem okg15:okG (dgH L15c):=by
 have h:=okG_add (okG_add (okG_add (show okG [] from trivial) eA []) eB [eA]) eC [eA]
 have e:(addG (addG (addG [] eA []).2 eB [eA]).2 eC [eA]).2 = dgH L15c:=by decide +kernel
 rw [e] at h
 exact h
theorem anc15_in {x z:ID} (h:ancG (dgH L15c) x z = true):z ∈ [eA,eB,eC]:=by
 have h2:=(anc_has okg15 h).2
 rw [hasG_mem] at h2
 have e:(dgH L15c).map (·.1) = [eC,eB,eA]:=rfl
 rw [e] at h2
 simp only [List.mem_cons,List.not_mem_nil,or_false] at h2 ⊢
 rcases h2 with h | h | h <;> simp [h]
theorem base15:∀ z,BaseOf (dgH L15c) eB eC z ↔ z = eA:=by
 intro z
 constructor
 ·rintro ⟨⟨h1,h2⟩,_⟩
  have hz:=anc15_in h1
  simp only [List.mem_cons,List.not_mem_nil,or_false] at hz
  rcases hz with rfl | rfl | rfl
  ·rfl
  ·exact absurd h2 (by decide +kernel)
  ·exact absurd h1 (by decide +kernel)
 ·rintro rfl
  refine ⟨⟨by decide +kernel,by decide +kernel⟩,?_⟩
  rintro ⟨d,ps,⟨h1,h2⟩,h3,h4⟩
  have hz:=anc15_in h1
  simp only [List.mem_cons,List.not_mem_nil,or_false] at hz
  rcases hz with rfl | rfl | rfl
  ·have e:parents (dgH L15c) eA = some []:=by decide +kernel
   rw [e] at h3
   injection h3 with h3
   subst h3
   cases h4
  ·exact absurd h2 (by decide +kernel)
  ·exact absurd h1 (by decide +kernel)
theorem ops15 {ids:List ID} {l m:List Opn} (h:OpsP L15c ids l) (hm:SrtL m) (h1:∀ o ∈ m,∃ x c,findC L15c x = some c ∧ (ids.any fun i=>ancG (dgH L15c) i x) = true ∧ o ∈ c.Ops)
  (h2:∀ x ∈ [eA,eB,eC],(ids.any fun i=>ancG (dgH L15c) i x) = true → ∀ o ∈ ((findC L15c x).getD zChg).Ops,o ∈ m):l = m:=by
 refine srt_ext h.srt hm fun o=>?_
 rw [h.mem]
 constructor
 ·rintro ⟨x,c,hf,⟨i,hi,ha⟩,ho⟩
  refine h2 x (anc15_in ha) (List.any_eq_true.2 ⟨i,hi,ha⟩) o ?_
  rw [hf]
  exact ho
 ·intro ho
  obtain ⟨x,c,hf,ha,hc⟩:=h1 o ho
  obtain ⟨i,hi,ha⟩:=List.any_eq_true.1 ha
  exact ⟨x,c,hf,⟨i,hi,ha⟩,hc⟩
theorem sub15 {ids:List ID} {m:List Opn} (hA:(ids.any fun i=>ancG (dgH L15c) i eA) = true → ptO 1 1 ∈ m) (hB:(ids.any fun i=>ancG (dgH L15c) i eB) = true → ptO 2 1 ∈ m) (hC:(ids.any fun i=>ancG (dgH L15c) i eC) = true → ptO 2 2 ∈ m) :
  ∀ x ∈ [eA,eB,eC],(ids.any fun i=>ancG (dgH L15c) i x) = true → ∀ o ∈ ((findC L15c x).getD zChg).Ops,o ∈ m:=by
 intro x hx ha o ho
 simp only [List.mem_cons,List.not_mem_nil,or_false] at hx
 rcases hx with rfl | rfl | rfl
 ·have e:((findC L15c eA).getD zChg).Ops = [ptO 1 1]:=rfl
  rw [e,List.mem_singleton] at ho
  rw [ho];exact hA ha
 ·have e:((findC L15c eB).getD zChg).Ops = [ptO 2 1]:=rfl
  rw [e,List.mem_singleton] at ho
  rw [ho];exact hB ha
 ·have e:((findC L15c eC).getD zChg).Ops = [ptO 2 2]:=rfl
  rw [e,List.mem_singleton] at ho
  rw [ho];exact hC ha
theorem rise_one {l:List ID} {a:ID} (h:Rise cmpI l) (hm:∀ z,z ∈ l ↔ z = a):l = [a]:=by
 cases l with
 | nil=>exact absurd ((hm a).2 rfl) (by simp)
 | cons x t =>
  have hx:x = a:=(hm x).1 (by simp)
  cases t with
  | nil=>rw [hx]
  | cons y t =>
   have hy:y = a:=(hm y).1 (by simp)
   have h1:=(List.pairwise_cons.1 h).1 y (by simp)
   rw [hx,hy,cmpD_self] at h1
   omega
theorem opsA {l:List Opn} (h:OpsP L15c [eA] l):l = [ptO 1 1]:=ops15 h (by unfold SrtL;decide +kernel) (fun o ho=>⟨eA,_,rfl,by decide +kernel,ho⟩) (sub15 (fun _=>by simp) (fun h=>absurd h (by decide +kernel)) (fun h=>absurd h (by decide +kernel)))
theorem opsB {l:List Opn} (h:OpsP L15c [eB] l):l = [ptO 1 1,ptO 2 1]:=ops15 h (by unfold SrtL;decide +kernel) (fun o ho=>by
 simp only [List.mem_cons,List.not_mem_nil,or_false] at ho
 rcases ho with rfl | rfl
 ·exact ⟨eA,_,rfl,by decide +kernel,by simp [ptC]⟩
 ·exact ⟨eB,_,rfl,by decide +kernel,by simp [ptC]⟩) (sub15 (fun _=>by simp) (fun _=>by simp) (fun h=>absurd h (by decide +kernel)))
theorem opsC {l:List Opn} (h:OpsP L15c [eC] l):l = [ptO 1 1,ptO 2 2]:=ops15 h (by unfold SrtL;decide +kernel) (fun o ho=>by
 simp only [List.mem_cons,List.not_mem_nil,or_false] at ho
 rcases ho with rfl | rfl
 ·exact ⟨eA,_,rfl,by decide +kernel,by simp [ptC]⟩
 ·exact ⟨eC,_,rfl,by decide +kernel,by simp [ptC]⟩) (sub15 (fun _=>by simp) (fun h=>absurd h (by decide +kernel)) (fun _=>by simp))
theorem opsBC {l:List Opn} (h:OpsP L15c [eB,eC] l):l = [ptO 1 1,ptO 2 1,ptO 2 2]:=ops15 h (by unfold SrtL;decide +kernel) (fun o ho=>by
 simp only [List.mem_cons,List.not_mem_nil,or_false] at ho
 rcases ho with rfl | rfl | rfl
 ·exact ⟨eA,_,rfl,by decide +kernel,by simp [ptC]⟩
 ·exact ⟨eB,_,rfl,by decide +kernel,by simp [ptC]⟩
 ·exact ⟨eC,_,rfl,by decide +kernel,by simp [ptC]⟩) (sub15 (fun _=>by simp) (fun _=>by simp) (fun _=>by simp))
theorem mg15:mgE L15c eB eC = 0:=by decide +kernel
theorem mg15':mgE L15c eB eA = 0:=by decide +kernel
theorem plan15 {fw:ID} {base:List ID} {ops:List Opn} {safe:Bool} {time:Int} (h:PlanP L15c eB eC fw base ops safe time):fw = zID ∧ base = [eA] ∧ ops = [ptO 1 1,ptO 2 1,ptO 2 2] ∧ safe = true ∧ time = 3:=by
 obtain ⟨h1,h2,h3,h4,⟨bo,h5,h6⟩,h7⟩:=h.mg (by decide +kernel) (by decide +kernel)
 have hb:base = [eA]:=rise_one h3 (fun z=>(h2 z).trans (base15 z))
 subst hb
 have e1:=opsA h5
 have e2:=opsBC h4
 subst e1 e2
 exact ⟨h1,rfl,rfl,by rw [h6];decide +kernel,h7 _ _ rfl rfl⟩
theorem plan15' {fw:ID} {base:List ID} {ops:List Opn} {safe:Bool} {time:Int} (h:PlanP L15c eB eA fw base ops safe time):fw = eB ∧ ops = [ptO 1 1,ptO 2 1]:=by
 obtain ⟨h1,h2,h3,_⟩:=h.fa (by decide +kernel)
 exact ⟨h1,opsB h3⟩
theorem runx3:(runX [] [ptO 1 1,ptO 2 1,ptO 2 2]).length = 3:=by decide +kernel
theorem runx2:(runX [] [ptO 1 1,ptO 2 1]).length = 2:=by decide +kernel
theorem runx2':(runX [] [ptO 1 1,ptO 2 2]).length = 2:=by decide +kernel
theorem RowsS.len {w:World} {A:Option Addr} {n c:Nat} {ops:List Opn} (h:RowsS w A n c ops):n = (runX [] ops).length:=by
 obtain ⟨rs,ys,rfl,_,hx,hp,_⟩:=h
 rw [hx.1,hp.length_eq]
theorem RowsS.same {w w':World} {A B:Option Addr} {n m c d:Nat} {ops:List Opn} (h:RowsS w A n c ops) (h':RowsS w' B m d ops) :
  ∃ rs ss ys,rs.length = n ∧ ss.length = m ∧ Sl w A (codR.row rs) ∧ Sl w' B (codR.row ss) ∧ RwsIn w rs ys ∧ RwsIn w' ss ys:=by
 obtain ⟨rs,ys,h1,h2,h3,h4,h5⟩:=h
 obtain ⟨ss,zs,k1,k2,k3,k4,k5⟩:=h'
 have e:ys = zs:=(h4.trans k4.symm).eq_of_pairwise (le:=fun a b:RwP=>cmpS a.Node b.Node < 0) (fun a b _ _ hab hba=>by
  have:=cmpS_flip a.Node b.Node
  omega) h5 k5
 subst e
 exact ⟨rs,ss,ys,h1,k1,h2,k2,h3,k3⟩
def idG (i:Nat):ID:=id2 (i + 1) 0
theorem idG_inj:∀ {i j:Nat},i < 20 → j < 20 → idG i = idG j → i = j:=by
 have h:∀ i,i < 20 → ∀ j,j < 20 → idG i = idG j → i = j:=by decide +kernel
 intro i j hi hj e
 exact h i hi j hj e
theorem idG_ne:∀ i,i < 20 → idG i ≠ zID:=by decide +kernel
theorem idG_rise:∀ i,i < 20 → ∀ j,j < 20 → i < j → cmpI (idG i) (idG j) < 0:=by decide +kernel
structure Gw (L:Hst) (ts:List Int):Prop where
 len:L.length = ts.length
 le:ts.length ≤ 16
 has:∀ i (h:i < ts.length),∃ c,findC L (idG i) = some c ∧ c.Time = ts[i]
 new:∀ i,ts.length ≤ i → i < 20 → findC L (idG i) = none
 tm:∀ t ∈ ts,1 ≤ t ∧ t ≤ 4 * (ts.length:Int)
 rr:∀ p ∈ opsH L,p.At.R ≤ ts.length
 nd:NdH L
 ids:∀ x c,findC L x = some c → ∃ i,i < ts.length ∧ x = idG i
 nm:∀ p ∈ opsH L,p.Name = [110]
theorem Gw.nil:Gw [] []:=⟨rfl,by simp,fun i h=>absurd h (by simp),fun i _ _=>rfl,by simp,by simp [opsH],NdH.nil,fun x c h=>by simp [findC] at h,by simp [opsH]⟩
theorem Gw.add {L:Hst} {ts:List Int} (h:Gw L ts) (hl:ts.length < 16) {c:Chg} (hr:rightCh c = true) (hR:c.R = (ts.length:Int) + 1) (ht:1 ≤ c.Time ∧ c.Time ≤ 4 * ((ts.length:Int) + 1))
  (hp:∀ p ∈ c.Parents,∃ (j:Nat) (hj:j < ts.length),p = idG j ∧ ts[j] < c.Time) (hnm:∀ o ∈ c.Ops,o.Name = [110]):addH L (idG ts.length) c = (0,(idG ts.length,c) :: L) ∧ Gw ((idG ts.length,c) :: L) (ts ++ [c.Time]):=by
 have hno:=h.new ts.length (Nat.le_refl _) (by omega)
 have h6:∀ o ∈ c.Ops,∀ p ∈ opsH L,p.At ≠ o.At:=fun o ho p hp' e=>by
  have h1:=((rightCh_parts hr).2.2.2.1 o ho).2.2
  have h2:=h.rr p hp'
  rw [e,h1,hR] at h2
  omega
 refine ⟨addH_new (by rw [has_dg,hno];rfl) (idG_ne _ (by omega)) hr ?_ ?_ h6,?_⟩
 ·unfold timeOk
  rw [List.all_eq_true]
  intro p hp'
  obtain ⟨j,hj,rfl,hlt⟩:=hp p hp'
  obtain ⟨d,hd,hdt⟩:=h.has j hj
  rw [hd]
  simp only [decide_eq_true_eq]
  rw [hdt]
  exact hlt
 ·intro p hp'
  obtain ⟨j,hj,rfl,_⟩:=hp p hp'
  obtain ⟨d,hd,_⟩:=h.has j hj
  rw [has_dg,hd]
  rfl
 ·have hf:∀ i,findC ((idG ts.length,c) :: L) (idG i) = if idG i = idG ts.length then some c else findC L (idG i):=fun i=>rfl
  refine ⟨by simp [h.len],by simp;omega,fun i hi=>?_,fun i hi hi2=>?_,fun t ht'=>?_,fun p hp'=>?_,h.nd.add hr h6,fun y d hy=>?_,fun p hp'=>?_⟩
  ·rw [hf]
   by_cases e:i = ts.length
   ·subst e
    rw [if_pos rfl]
    exact ⟨c,rfl,by simp⟩
   ·have hi':i < ts.length:=by rw [List.length_append,List.length_singleton] at hi;omega
    rw [if_neg (fun h'=>e (idG_inj (by omega) (by omega) h'))]
    obtain ⟨d,hd,hdt⟩:=h.has i hi'
    exact ⟨d,hd,by rw [hdt,List.getElem_append_left hi']⟩
  ·rw [List.length_append,List.length_singleton] at hi
   rw [hf,if_neg (fun h'=>by have:=idG_inj (by omega) (by omega) h';omega)]
   exact h.new i (by omega) hi2
  ·rw [List.length_append,List.length_singleton]
   rcases List.mem_append.1 ht' with h' | h'
   ·have:=h.tm t h'
    omega
   ·rw [List.mem_singleton] at h'
    subst h'
    omega
  ·rw [List.length_append,List.length_singleton]
   have hp2:p ∈ c.Ops ∨ p ∈ opsH L:=by simpa [opsH] using hp'
   rcases hp2 with h' | h'
   ·have h1:=((rightCh_parts hr).2.2.2.1 p h').2.2
    rw [h1,hR]
    omega
   ·have:=h.rr p h'
    omega
  ·have hf2:findC ((idG ts.length,c) :: L) y = if y = idG ts.length then some c else findC L y:=rfl
   rw [hf2] at hy
   rw [List.length_append,List.length_singleton]
   by_cases ey:y = idG ts.length
   ·exact ⟨ts.length,by omega,ey⟩
   ·rw [if_neg ey] at hy
    obtain ⟨i,hi,e⟩:=h.ids y d hy
    exact ⟨i,by omega,e⟩
  ·have hp2:p ∈ c.Ops ∨ p ∈ opsH L:=by simpa [opsH] using hp'
   exact hp2.elim (hnm p) (h.nm p)
def opG (t:Int) (k:Nat) (nd pr:St):Opn:=⟨1,⟨t,(k:Int) + 1⟩,nd,pr,[110],zID,[]⟩
def chG (ps:List ID) (t:Int) (k:Nat) (ops:List Opn):Chg:=⟨ps,t,(k:Int) + 1,ops,id2 1 0,[]⟩
def ParG (k:Nat) (ps:List ID):Prop:=ps = [] ∨ (∃ a,a < k ∧ ps = [idG a]) ∨ ∃ a b,a < b ∧ b < k ∧ ps = [idG a,idG b]
theorem chG_right {ps:List ID} {t:Int} {k:Nat} {ops:List Opn} (hk:k < 16) (ht:1 ≤ t ∧ t ≤ 100) (hp:ParG k ps)
  (ho:ops = [] ∨ (ps.length < 2 ∧ ∃ nd pr,ops = [opG t k nd pr] ∧ goodOp (opG t k nd pr) = true)):rightCh (chG ps t k ops) = true:=by
 have h1:ps.length ≤ 2 ∧ (ps.all fun p=>decide (p ≠ zID)) = true ∧ riseB cmpI ps = true:=by
  rcases hp with rfl | ⟨a,ha,rfl⟩ | ⟨a,b,hab,hb,rfl⟩
  ·exact ⟨by simp,rfl,rfl⟩
  ·exact ⟨by simp,by simp [idG_ne a (by omega)],rfl⟩
  ·refine ⟨by simp,by simp [idG_ne a (by omega),idG_ne b (by omega)],?_⟩
   have:=idG_rise a (by omega) b (by omega) hab
   unfold riseB
   simp [this,riseB]
 have h2:rightS ⟨t,(k:Int) + 1⟩ = true:=by
  unfold rightS
  simp
  omega
 unfold rightCh chG
 simp only [h1.1,h1.2.1,h1.2.2,h2,Bool.and_eq_true,decide_true,true_and,Bool.true_and]
 rcases ho with rfl | ⟨hl,nd,pr,rfl,hg⟩
 ·simp [riseB]
  decide
 ·have h3:¬ ps.length = 2:=by omega
  unfold opG at hg
  simp [h3,riseB,hg,opG]
  exact idG_ne 0 (by decide)
theorem opG_good {t:Int} {k:Nat} {nd pr:St} (hk:k < 16) (ht:1 ≤ t ∧ t ≤ 100) (hn:rightS nd = true) (hc:cmpS nd ⟨t,(k:Int) + 1⟩ ≤ 0) (hp:rightS pr = true ∨ pr = zSt):goodOp (opG t k nd pr) = true:=by
 have h2:rightS ⟨t,(k:Int) + 1⟩ = true:=by
  unfold rightS
  simp
  omega
 have h4:(rightS pr || fixedS pr) = true:=by
  rcases hp with h | h
  ·simp [h]
  ·subst h;decide
 have h5:nameOk [110] = true:=by decide
 unfold goodOp opG moveOk
 simp [h2,hn,hc,h4,h5]
def id3 (a b c:Nat):ID:=⟨UInt8.ofNat a :: UInt8.ofNat b :: UInt8.ofNat c :: List.replicate 29 0,by simp⟩
def idT (n m:Nat):ID:=id3 200 n m
theorem idT_ne:∀ n,n < 4 → ∀ m,m < 2 → idT n m ≠ zID:=by decide +kernel
theorem idT_inj0:∀ k,k < 8 → ∀ k',k' < 8 → idT (k / 2) (k % 2) = idT (k' / 2) (k' % 2) → k = k':=by decide +kernel
theorem idT_inj (n:Nat) (hn:n < 4) (m:Nat) (hm:m < 2) (n':Nat) (hn':n' < 4) (m':Nat) (hm':m' < 2) (h:idT n m = idT n' m'):n = n' ∧ m = m':=by
 have h1:=idT_inj0 (2 * n + m) (by omega) (2 * n' + m') (by omega)
 rw [show (2 * n + m) / 2 = n by omega,show (2 * n + m) % 2 = m by omega,show (2 * n' + m') / 2 = n' by omega,show (2 * n' + m') % 2 = m' by omega] at h1
 have:=h1 h
 omega
theorem idT_G:∀ n,n < 4 → ∀ m,m < 2 → ∀ i,i < 20 → idT n m ≠ idG i:=by decide +kernel
def ROps (L:Hst) (ids:List ID) (o:Opn):Prop:=∃ x c,findC L x = some c ∧ Reached (dgH L) ids x ∧ o ∈ c.Ops
theorem ROps.ex {L:Hst} {ids:List ID} {o:Opn}:ROps L ids o ↔ ∃ i ∈ ids,ROps L [i] o:=by
 constructor
 ·rintro ⟨x,c,h1,⟨i,hi,h2⟩,h3⟩
  exact ⟨i,hi,x,c,h1,⟨i,by simp,h2⟩,h3⟩
 ·rintro ⟨i,hi,x,c,h1,⟨i',hi',h2⟩,h3⟩
  rw [List.mem_singleton] at hi'
  subst hi'
  exact ⟨x,c,h1,⟨i',hi,h2⟩,h3⟩
theorem OpsP.eqR {L M:Hst} {a b:List ID} {l m:List Opn} (h1:OpsP L a l) (h2:OpsP M b m) (h:∀ o,ROps L a o ↔ ROps M b o):l = m :=
 srt_ext h1.srt h2.srt fun o=>by rw [h1.mem,h2.mem];exact h o
theorem ROps.up {L:Hst} (hk:okG (dgH L)) {a b:ID} (h:ancG (dgH L) a b = true) {o:Opn} (ho:ROps L [b] o):ROps L [a] o:=by
 obtain ⟨x,c,h1,h2,h3⟩:=ho
 exact ⟨x,c,h1,reached_one.2 (anc_trans hk h (reached_one.1 h2)),h3⟩
theorem ROps.old {L:Hst} {z:ID} {c:Chg} (hz:findC L z = none) (hc:c.Ops = []) {y:ID} {d:Chg} (hy:findC L y = some d) (o:Opn):ROps ((z,c) :: L) [y] o ↔ ROps L [y] o:=by
 have hyz:y ≠ z:=by
  rintro rfl
  rw [hz] at hy
  cases hy
 have ha:∀ x,ancG (dgH ((z,c) :: L)) y x = ancG (dgH L) y x:=fun x=>by
  show (if y = z then _ else ancG (dgH L) y x) = _
  rw [if_neg hyz]
 have hf:∀ x,findC ((z,c) :: L) x = if x = z then some c else findC L x:=fun x=>rfl
 constructor
 ·rintro ⟨x,cx,h1,h2,h3⟩
  rw [reached_one,ha] at h2
  rw [hf] at h1
  by_cases e:x = z
  ·rw [if_pos e] at h1
   injection h1 with h1
   subst h1
   rw [hc] at h3
   cases h3
  ·rw [if_neg e] at h1
   exact ⟨x,cx,h1,reached_one.2 h2,h3⟩
 ·rintro ⟨x,cx,h1,h2,h3⟩
  have e:x ≠ z:=by
   rintro rfl
   rw [hz] at h1
   cases h1
  exact ⟨x,cx,by rw [hf,if_neg e];exact h1,by rw [reached_one,ha];exact reached_one.1 h2,h3⟩
theorem ROps.new {L:Hst} {z:ID} {c:Chg} (hz:findC L z = none) (hc:c.Ops = []) (o:Opn):ROps ((z,c) :: L) [z] o ↔ ∃ p ∈ c.Parents,ROps L [p] o:=by
 have ha:∀ x,ancG (dgH ((z,c) :: L)) z x = (decide (x = z) || c.Parents.any fun p=>ancG (dgH L) p x):=fun x=>by
  show (if z = z then _ else ancG (dgH L) z x) = _
  rw [if_pos rfl]
  rfl
 have hf:∀ x,findC ((z,c) :: L) x = if x = z then some c else findC L x:=fun x=>rfl
 constructor
 ·rintro ⟨x,cx,h1,h2,h3⟩
  rw [reached_one,ha] at h2
  rw [hf] at h1
  by_cases e:x = z
  ·rw [if_pos e] at h1
   injection h1 with h1
   subst h1
   rw [hc] at h3
   cases h3
  ·rw [if_neg e] at h1
   rw [decide_eq_false e,Bool.false_or,List.any_eq_true] at h2
   obtain ⟨p,hp,h2⟩:=h2
   exact ⟨p,hp,x,cx,h1,reached_one.2 h2,h3⟩
 ·rintro ⟨p,hp,x,cx,h1,h2,h3⟩
  have e:x ≠ z:=by
   rintro rfl
   rw [hz] at h1
   cases h1
  refine ⟨x,cx,by rw [hf,if_neg e];exact h1,?_,h3⟩
  rw [reached_one,ha,decide_eq_false e,Bool.false_or,List.any_eq_true]
  exact ⟨p,hp,reached_one.1 h2⟩
def chT (ps:List ID) (t:Int):Chg:=⟨ps,t,1,[],id2 1 0,[]⟩
def par2 (x y:ID):List ID:=if cmpI x y < 0 then [x,y] else [y,x]
theorem par2_mem {x y z:ID}:z ∈ par2 x y ↔ z = x ∨ z = y:=by
 unfold par2
 split <;> simp [or_comm]
theorem chT_right {x y:ID} {t:Int} (hx:x ≠ zID) (hy:y ≠ zID) (hne:x ≠ y) (ht:1 ≤ t ∧ t ≤ 1000):rightCh (chT (par2 x y) t) = true:=by
 have h1:(par2 x y).length = 2 ∧ ((par2 x y).all fun p=>decide (p ≠ zID)) = true ∧ riseB cmpI (par2 x y) = true:=by
  unfold par2
  split
  ·rename_i h
   exact ⟨rfl,by simp [hx,hy],by simp [riseB,h]⟩
  ·rename_i h
   have h1:=cmpI_anti x y
   have h2:cmpI y x < 0:=by
    have h3:cmpI x y ≠ 0:=fun e=>hne ((cmpI_eq _ _).1 e)
    omega
   exact ⟨rfl,by simp [hx,hy],by simp [riseB,h2]⟩
 have h2:rightS ⟨t,1⟩ = true:=by
  unfold rightS
  simp
  omega
 unfold rightCh chT
 simp only [h1.1,h1.2.1,h1.2.2,h2,Bool.and_eq_true,decide_true,true_and,Bool.true_and]
 simp [riseB]
 exact idG_ne 0 (by decide)
structure M3 (L0 L:Hst) (k:Nat):Prop where
 keep:∀ x c,findC L0 x = some c → findC L x = some c
 ops:∀ x c,findC L0 x = some c → ∀ o,ROps L [x] o ↔ ROps L0 [x] o
 new:∀ n m,n < 4 → m < 2 → k ≤ 2 * n + m → findC L (idT n m) = none
 tm:∀ x c,findC L x = some c → 1 ≤ c.Time ∧ c.Time ≤ 64 + (k:Int)
 nz:∀ x c,findC L x = some c → x ≠ zID
 len:L.length ≤ 16 + k
 nd:NdH L
theorem M3.start {L:Hst} {ts:List Int} (h:Gw L ts):M3 L L 0 where
 keep:=fun _ _ h=>h
 ops:=fun _ _ _ _=>Iff.rfl
 new:=fun n m hn hm _=>by
  cases e:findC L (idT n m) with
  | none=>rfl
  | some c =>
   obtain ⟨i,hi,e2⟩:=h.ids _ _ e
   exact absurd e2 (idT_G n hn m hm i (by have:=h.le;omega))
 tm:=fun x c hx=>by
  obtain ⟨i,hi,rfl⟩:=h.ids _ _ hx
  obtain ⟨d,hd,e⟩:=h.has i hi
  rw [hx] at hd
  injection hd with hd
  subst hd
  have h1:=h.tm _ (List.getElem_mem hi)
  have h2:=h.le
  rw [e]
  omega
 nz:=fun x c hx=>by
  obtain ⟨i,hi,rfl⟩:=h.ids _ _ hx
  exact idG_ne i (by have:=h.le;omega)
 len:=by have h1:=h.len;have h2:=h.le;omega
 nd:=h.nd
theorem M3.mono {L0 L:Hst} {k k':Nat} (h:M3 L0 L k) (hk:k ≤ k'):M3 L0 L k' where
 keep:=h.keep
 ops:=h.ops
 new:=fun n m hn hm h'=>h.new n m hn hm (by omega)
 tm:=fun x c hx=>by have:=h.tm x c hx;omega
 nz:=h.nz
 len:=by have:=h.len;omega
 nd:=h.nd
theorem M3.mgE {L0 L:Hst} {k:Nat} (h:M3 L0 L k) (hk:k ≤ 100) {x y:ID} {a b:Chg} (hx:findC L x = some a) (hy:findC L y = some b):mgE L x y = 0:=by
 unfold Go.Proofs.YtjpieiccpbcabaaGreat.mgE
 rw [hx,hy]
 have h1:=h.tm _ _ hx
 have h2:=h.tm _ _ hy
 simp only
 split
 ·rfl
 ·split
  ·rfl
  ·rw [if_neg]
   rw [Int.max_def]
   split <;> omega
theorem M3.add {L0 L:Hst} {n m:Nat} (h:M3 L0 L (2 * n + m)) (hn:n < 4) (hm:m < 2) {x y:ID} {a b:Chg} (hx:findC L x = some a) (hy:findC L y = some b)
  (hne:x ≠ y):addH L (idT n m) (chT (par2 x y) (max a.Time b.Time + 1)) = (0,(idT n m,chT (par2 x y) (max a.Time b.Time + 1)) :: L) ∧ M3 L0 ((idT n m,chT (par2 x y) (max a.Time b.Time + 1)) :: L) (2 * n + m + 1) ∧
   ∀ o,ROps ((idT n m,chT (par2 x y) (max a.Time b.Time + 1)) :: L) [idT n m] o ↔ ROps L [x] o ∨ ROps L [y] o:=by
 have t1:=h.tm _ _ hx
 have t2:=h.tm _ _ hy
 have tt:1 ≤ max a.Time b.Time + 1 ∧ max a.Time b.Time + 1 ≤ 64 + ((2 * n + m:Nat):Int) + 1:=by
  rw [Int.max_def]
  split <;> omega
 have ta:a.Time < max a.Time b.Time + 1:=by
  rw [Int.max_def]
  split <;> omega
 have tb:b.Time < max a.Time b.Time + 1:=by
  rw [Int.max_def]
  split <;> omega
 generalize max a.Time b.Time + 1 = t at tt ta tb
 have hz:=h.new n m hn hm (Nat.le_refl _)
 have hr:=chT_right (h.nz _ _ hx) (h.nz _ _ hy) hne (t:=t) ⟨tt.1,by omega⟩
 have hcl:∀ o ∈ (chT (par2 x y) t).Ops,∀ p ∈ opsH L,p.At ≠ o.At:=fun o ho=>by cases ho
 have hf:∀ v,findC ((idT n m,chT (par2 x y) t) :: L) v = if v = idT n m then some (chT (par2 x y) t) else findC L v:=fun v=>rfl
 refine ⟨addH_new (by rw [has_dg,hz];rfl) (idT_ne n hn m hm) hr ?_ ?_ hcl,⟨?_,?_,?_,?_,?_,?_,h.nd.add hr hcl⟩,fun o=>?_⟩
 ·unfold timeOk
  rw [List.all_eq_true]
  intro p hp
  rcases par2_mem.1 hp with rfl | rfl
  ·rw [hx];simp only [decide_eq_true_eq];exact ta
  ·rw [hy];simp only [decide_eq_true_eq];exact tb
 ·intro p hp
  rcases par2_mem.1 hp with rfl | rfl
  ·rw [has_dg,hx];rfl
  ·rw [has_dg,hy];rfl
 ·intro v c hv
  have hv2:=h.keep v c hv
  rw [hf,if_neg]
  ·exact hv2
  ·rintro rfl
   rw [hz] at hv2
   cases hv2
 ·intro v c hv o
  rw [ROps.old hz rfl (h.keep v c hv),h.ops v c hv]
 ·intro n' m' hn' hm' hk
  rw [hf,if_neg]
  ·exact h.new n' m' hn' hm' (by omega)
  ·intro e
   obtain ⟨e1,e2⟩:=idT_inj _ hn' _ hm' _ hn _ hm e
   omega
 ·intro v c hv
  rw [hf] at hv
  split at hv
  ·injection hv with hv
   subst hv
   show 1 ≤ t ∧ t ≤ _
   omega
  ·have:=h.tm _ _ hv
   omega
 ·intro v c hv
  rw [hf] at hv
  split at hv
  ·rename_i e
   rw [e]
   exact idT_ne n hn m hm
  ·exact h.nz _ _ hv
 ·have:=h.len
  rw [List.length_cons]
  omega
 ·rw [ROps.new hz rfl]
  constructor
  ·rintro ⟨p,hp,ho⟩
   rcases par2_mem.1 hp with rfl | rfl
   ·exact .inl ho
   ·exact .inr ho
  ·rintro (ho | ho)
   ·exact ⟨x,par2_mem.2 (.inl rfl),ho⟩
   ·exact ⟨y,par2_mem.2 (.inr rfl),ho⟩
end Go.Proofs.YtjpieiccpbcabaaGreat
