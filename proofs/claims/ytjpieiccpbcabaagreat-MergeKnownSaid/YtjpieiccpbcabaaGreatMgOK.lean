/- The plan of a merge in memory. Contract: merge's Merge. (rdI, ex_ldS_at, ex_ldO_at, ex_bldFR_at, ex_bldBT_at) Contract: pollardlaw15.put. Plain: a commit that is taken; the document's example. Plain: what MergeTwo, MergeSafe say of plans. Plain: histories that numbers say (grown). Plain: the commits of grown may be. Contract: pollardlaw15.alive. (rdI) -/
import Derived.Test.YtjpieiccpbcabaaGreatMgJK
import Derived.Test.YtjpieiccpbcabaaGreatRegTK
namespace Go.Proofs.YtjpieiccpbcabaaGreat
open Go.RowKit Go.Maps Go.Sort
set_option linter.unusedVariables false
set_option linter.unusedSimpArgs false

structure PlW where
 F:ID
 BA:Option Addr
 bn:Nat
 bc:Nat
 RA:Option Addr
 rn:Nat
 rc:Nat
 Safe:Bool
 Time:Int
def csPl (x:PlW):List Value:=bv x.F.1 ++ [.slice x.BA x.bn x.bc,.slice x.RA x.rn x.rc,.bool x.Safe,.int .i64 x.Time]
def zPlW:PlW:=⟨zID,none,0,0,none,0,0,false,0⟩
def codPl:Cod PlW:=⟨59,36,csPl,zPlW,fun x=>by simp [csPl,x.F.2],by decide,fun x u hu=>by
  have:=one_bv (l:=[]) (m:=[.slice x.BA x.bn x.bc,.slice x.RA x.rn x.rc,.bool x.Safe,.int .i64 x.Time]) (x:=x.F) (by simp) (by simp;exact ⟨rfl,rfl,rfl,rfl⟩) u (by simpa [csPl] using hu)
  exact this,fun x y h=>by
 obtain ⟨d,a,b,c,a2,b2,c2,s,t⟩:=x;obtain ⟨d',a',b',c',a2',b2',c2',s',t'⟩:=y
 obtain ⟨rfl,h5⟩:=bv_app_inj h
 simp only [List.cons.injEq,Value.slice.injEq,Value.bool.injEq,Value.int.injEq,and_true,true_and] at h5
 obtain ⟨⟨rfl,rfl,rfl⟩,⟨rfl,rfl,rfl⟩,rfl,rfl⟩:=h5
 rfl⟩
theorem okPl:CodOk Tryz.prog codPl:=⟨⟨_,Tryz.underlying59,rfl⟩,by kernel_rfl,fun w=>(zero_of_info (P:=Tryz.prog) (t:=59) (v:=.agg (codPl.cs codPl.z).toArray) (n:=36) (by kernel_rfl)).1 w⟩
@[simp ↓] theorem ex_ldPl (ρ:Operand → Value) (d:Option Nat) (a:Operand) (t:TypeId) (p:String) (f:Array Edge) (g:Option (Nat × Bool)) (w:World) :
  (execOp ρ { dst:=d,op:=.load 59 a,type:=t,pos:=p,after:=f,guard:=g }).run Tryz.prog w = codPl.ldR w (ρ a) (exElse ρ { dst:=d,op:=.load 59 a,type:=t,pos:=p,after:=f,guard:=g } w):=okPl.ldOp ρ _ a rfl w
@[simp ↓] theorem ex_alPl (ρ:Operand → Value) (d:Option Nat) (t:TypeId) (p:String) (f:Array Edge) (g:Option (Nat × Bool)) (w:World) :
  (execOp ρ { dst:=d,op:=.alloc 59,type:=t,pos:=p,after:=f,guard:=g }).run Tryz.prog w = .ok (.value (.pointer (some ⟨w.heap.size,0,none⟩))) (w.alloc (codPl.o zPlW)):=okPl.alOp ρ _ rfl w
@[simp ↓] theorem ex_stPl (ρ:Operand → Value) (a x:Operand) (d:Option Nat) (t:TypeId) (p:String) (f:Array Edge) (g:Option (Nat × Bool)) (w:World) :
  (execOp ρ { dst:=d,op:=.store 59 a x,type:=t,pos:=p,after:=f,guard:=g }).run Tryz.prog w = codPl.stR w (ρ a) (ρ x):=Cod.stOp (C:=codPl) ρ _ a x rfl w
@[simp] theorem st_newPl (w:World) (x y:PlW):codPl.stR (w.alloc (codPl.o y)) (.pointer (some ⟨w.heap.size,0,none⟩)) (.agg (codPl.A x)) = .ok .skip (w.alloc (codPl.o x)):=okPl.stR_new w x y
@[simp] theorem bld0_Pl (w:World):(Instr.build 59 #[]).run Tryz.prog w = .ok (.agg (codPl.A zPlW)) w:=by
 rw [Cod.A_eq]
 kernel_rfl
@[simp ↓] theorem ex_b0Pl (ρ:Operand → Value) (d:Option Nat) (t:TypeId) (p:String) (f:Array Edge) (g:Option (Nat × Bool)) (w:World) :
  (execOp ρ { dst:=d,op:=.build 59 #[],type:=t,pos:=p,after:=f,guard:=g }).run Tryz.prog w = .ok (.value (.agg (codPl.A zPlW))) w:=by
 refine ex_buildG 59 ρ _ #[] w w _ rfl ?_
 rw [List.map_toArray,List.map_nil]
 exact bld0_Pl w
theorem bldP_BT (w:World) (A:Option Addr) (n c:Nat) (t:Int):(Instr.build 59 #[(1,.slice A n c),(4,.int .i64 t)]).run Tryz.prog w = .ok (.agg (codPl.A { zPlW with BA:=A,bn:=n,bc:=c,Time:=t })) w:=by
 rw [Cod.A_eq codPl];go_simp;rfl
theorem bldP_FR (w:World) (x:ID) (A:Option Addr) (n c:Nat):(Instr.build 59 #[(0,encI x),(2,.slice A n c)]).run Tryz.prog w = .ok (.agg (codPl.A { zPlW with F:=x,RA:=A,rn:=n,rc:=c })) w:=by
 have h1:∀ place:Nat → Option (Nat × Nat),place 0 = some (0,32) → place 2 = some (33,1) → Instr.fill place ([] ++ bv zID.1 ++ [Value.slice none 0 0,.slice none 0 0,.bool false,.int .i64 0]).toArray [(0,encI x),(2,.slice A n c)] = some (codPl.cs { zPlW with F:=x,RA:=A,rn:=n,rc:=c }).toArray:=by
  intro place p0 p2
  refine (fill_one place [] (bv zID.1) [.slice none 0 0,.slice none 0 0,.bool false,.int .i64 0] (bv x.1) 0 (encI x) _ (cellsI x) (by simp [x.2,p0]) (by simp [x.2,zID])).trans ?_
  have e2:=fill_one place (bv x.1 ++ [.slice none 0 0]) [.slice none 0 0] [.bool false,.int .i64 0] [.slice A n c] 2 (.slice A n c) [] rfl (by simpa [x.2] using p2) rfl
  refine Eq.trans ?_ (e2.trans ?_)
  ·simp
  ·simp [Instr.fill,codPl,csPl,zPlW]
 have hc:(Value.agg (codPl.cs codPl.z).toArray).cells = ([] ++ bv zID.1 ++ [Value.slice none 0 0,.slice none 0 0,.bool false,.int .i64 0]).toArray:=rfl
 have hz:(zeroValue 59).run Tryz.prog w = .ok (.agg (codPl.cs codPl.z).toArray) w:=okPl.zero w
 have hsI:∀ w,(sizeOf 24).run Tryz.prog w = .ok 32 w:=fun w=>Tryz.sizeOf24 w
 simp only [Instr.build,Sem.run_bind,hz,Result.andThen_ok,run_underlying Tryz.underlying59,hc]
 simp only [List.mapM_toArray,List.mapM_cons,List.mapM_nil,Sem.run_bind,hsI,Tryz.sizeOf32,Tryz.sizeOf55,Tryz.sizeOf4,Tryz.sizeOf2,Result.andThen_ok,Sem.run_pure,Sem.run_map,map_pure,bind_pure_comp]
 rw [h1 _ rfl rfl]
 simp [Cod.A_eq]
noncomputable def mkBT (w:World) (v u:Value) (r:Result Next):Result Next:=match v,u with
 | .slice A n c,.int .i64 t=>.ok (.value (.agg (codPl.A { zPlW with BA:=A,bn:=n,bc:=c,Time:=t }))) w
 | _,_=>r
@[simp] theorem mkBT_at (w:World) (A:Option Addr) (n c:Nat) (t:Int) (r:Result Next):mkBT w (.slice A n c) (.int .i64 t) r = .ok (.value (.agg (codPl.A { zPlW with BA:=A,bn:=n,bc:=c,Time:=t }))) w:=rfl
theorem ex_bldBT_at {ρ:Operand → Value} {o:Oper} {w:World} {x y:Operand} {A:Option Addr} {n c:Nat} {t:Int} (ho:o.op = .build 59 #[(1,x),(4,y)]) (h1:ρ x = .slice A n c) (h2:ρ y = .int .i64 t) :
  (execOp ρ o).run Tryz.prog w = .ok (.value (.agg (codPl.A { zPlW with BA:=A,bn:=n,bc:=c,Time:=t }))) w:=by
 refine ex_buildG 59 ρ _ _ w w _ ho ?_
 have:=bldP_BT w A n c t
 simpa [h1,h2] using this
theorem ex_bldFR_at {ρ:Operand → Value} {o:Oper} {w:World} {x y:Operand} {z:ID} {A:Option Addr} {n c:Nat} (ho:o.op = .build 59 #[(0,x),(2,y)]) (h1:ρ x = encI z) (h2:ρ y = .slice A n c) :
  (execOp ρ o).run Tryz.prog w = .ok (.value (.agg (codPl.A { zPlW with F:=z,RA:=A,rn:=n,rc:=c }))) w:=by
 refine ex_buildG 59 ρ _ _ w w _ ho ?_
 have:=bldP_FR w z A n c
 simpa [h1,h2] using this
structure PlAt (w:World) (b:Nat) (r:PlW):Prop where
 fw:rdI w b 0 = some r.F
 base:w.cell? ⟨b,32,none⟩ = some (.slice r.BA r.bn r.bc)
 rows:w.cell? ⟨b,33,none⟩ = some (.slice r.RA r.rn r.rc)
 safe:w.cell? ⟨b,34,none⟩ = some (.bool r.Safe)
 time:w.cell? ⟨b,35,none⟩ = some (.int .i64 r.Time)
 self:codPl.rd w b 0 = some r
theorem plAt {w:World} {b:Nat} {r:PlW} (h:codPl.rd w b 0 = some r):PlAt w b r:=by
 have e (k:Nat) {v:Value} (hv:(codPl.cs r)[k]? = some v):=by simpa using Cod.rd_cell h k hv
 exact ⟨by simpa using Cod.rdI_part h 0 (getApp r.F [] [.slice r.BA r.bn r.bc,.slice r.RA r.rn r.rc,.bool r.Safe,.int .i64 r.Time] 0 rfl),
  e 32 (getEnd r.F [] [.slice r.BA r.bn r.bc,.slice r.RA r.rn r.rc,.bool r.Safe,.int .i64 r.Time] 32 rfl 0),
  e 33 (getEnd r.F [] [.slice r.BA r.bn r.bc,.slice r.RA r.rn r.rc,.bool r.Safe,.int .i64 r.Time] 32 rfl 1),
  e 34 (getEnd r.F [] [.slice r.BA r.bn r.bc,.slice r.RA r.rn r.rc,.bool r.Safe,.int .i64 r.Time] 32 rfl 2),
  e 35 (getEnd r.F [] [.slice r.BA r.bn r.bc,.slice r.RA r.rn r.rc,.bool r.Safe,.int .i64 r.Time] 32 rfl 3),h⟩
theorem set_end {l m:List Value} {k:Nat} (h:l.length = k) (j:Nat) (v:Value):(l ++ m).set (k + j) v = l ++ m.set j v:=by
 subst h
 rw [List.set_append_right _ _ (by omega),Nat.add_sub_cancel_left]
theorem sePl_Rows (r:PlW) (A:Option Addr) (n c:Nat):(codPl.cs r).set 33 (.slice A n c) = codPl.cs { r with RA:=A,rn:=n,rc:=c } :=
 set_end (k:=32) (by simp [r.F.2]) 1 _
theorem sePl_Safe (r:PlW) (b:Bool):(codPl.cs r).set 34 (.bool b) = codPl.cs { r with Safe:=b } :=
 set_end (k:=32) (by simp [r.F.2]) 2 _
end Go.Proofs.YtjpieiccpbcabaaGreat
namespace Go.Proofs.YtjpieiccpbcabaaGreat
open Go.RowKit Go.Maps Go.Sort Go.Shelf
set_option linter.unusedVariables false
set_option linter.unusedSimpArgs false
attribute [local go_sem] Oper.semAt_some

theorem lift_T1 {X:Prop} {P:Program} {md:Region.Mode} {ops:Array Oper} {Q:Exit → Act → World → Prop} {FF:World → Prop} {n fuel:Nat} {s:Sch} {act:Nat → Option Addr → Nat → Nat → Act} {F:Nat → Option Addr → Nat → Nat → World → Prop}
  (h1:(∀ a b k c L W,F a b k c W → RegT md ops n L s → wpAnyN P md ops Q FF n fuel L (act a b k c) W) → X)
  (h2:∀ a b k c L W,F a b k c W → RegT md ops n L s → wpAnyN P md ops Q FF n fuel L (act a b k c) W):X:=h1 h2
theorem step_runP {P:Program} {w:World} {o:Oper} {a:Act} {K:Act → World → Prop} {Q:Exit → Act → World → Prop} (v:Value) (w':World)
  (hr:(execOp a.eval o).run P w = .ok (.value v) w') (h:K (a.put o.dst v) w'):Oper.wp P o a w K Q:=by
 unfold Oper.wp
 rw [hr]
 exact h
def RowsS (w:World) (A:Option Addr) (n c:Nat) (ops:List Opn):Prop :=
 ∃ (rs:List RwW) (ys:List RwP),rs.length = n ∧ Sl w A (codR.row rs) ∧ RwsIn w rs ys ∧ ys.Perm (runX [] ops) ∧ ys.Pairwise (fun a b=>cmpS a.Node b.Node < 0)
structure PlG (w:World) (L:Hst) (a b:ID) (r:PlW):Prop where
 plan:∃ base ops,PlanP L a b r.F base ops r.Safe r.Time ∧ base.length = r.bn ∧ Sl w r.BA (idc base) ∧ base.length ≤ 1000000000 ∧ ops.length ≤ 64000 ∧ RowsS w r.RA r.rn r.rc ops
def MgTo (w:World) (L:Hst) (a b:ID) (e:Ending) (w':World):Prop :=
 ∃ r:PlW,e = .returned (.tuple #[.agg (codPl.A r),.int .i64 (mgE L a b)]) ∧ Fr noB w w' ∧ (mgE L a b ≠ 0 → r = zPlW) ∧ (mgE L a b = 0 → PlG w' L a b r)
theorem HOk.times {L:Hst} (h:HOk L) {x:ID} {c:Chg} (hf:findC L x = some c):1 ≤ c.Time ∧ c.Time ≤ 1099511627776:=by
 have:=(rightCh_parts (h.right _ (findC_mem hf))).2.2.1
 unfold rightS at this
 simp at this
 omega
def RowsW (w:World) (A:Option Addr) (n c:Nat) (ops:List Opn):Prop :=
 ∃ (rs:List RwW) (ys:List RwP),rs.length = n ∧ w.ownsRow 0 codR.t codR.n (.slice A rs.length c) rs.length (codR.row rs) ∧ AllO (RwN 0) w rs ys ∧ ys.Perm (runX [] ops) ∧ ys.Pairwise (fun a b=>cmpS a.Node b.Node < 0)
theorem RowsTo.w {wa w':World} {ops:List Opn} {A:Option Addr} {n c:Nat} (h:RowsTo wa (runX [] ops) (.returned (.slice A n c)) w'):RowsW w' A n c ops:=by
 obtain ⟨A',c',rs,ys,e,o,x,_,p,q,_⟩:=h
 injection e with e
 injection e with e1 e2 e3
 subst e1 e2 e3
 exact ⟨rs,ys,rfl,own_base o (Nat.zero_le _),⟨x.1,fun i h h'=>⟨(x.2 i h h').row,own_base (x.2 i h h').own (Nat.zero_le _)⟩⟩,p,q⟩
theorem RowsW.pl {w w':World} {A:Option Addr} {n c B:Nat} {ops:List Opn} {v:PlW} (h:RowsW w A n c ops) (hB:codPl.bxd w B = some v) (f:Fr (oneB B) w w'):RowsW w' A n c ops:=by
 obtain ⟨rs,ys,e,o,x,p,q⟩:=h
 have hblk:=Cod.bxd_blk hB
 exact ⟨rs,ys,e,own_box hblk o (by decide) f,x.map fun r y hr=>hr.fr f (NoHS.blk hblk (by decide) (by decide)),p,q⟩
theorem RowsW.s {w:World} {A:Option Addr} {n c:Nat} {ops:List Opn} (h:RowsW w A n c ops):RowsS w A n c ops:=by
 obtain ⟨rs,ys,e,o,x,p,q⟩:=h
 subst e
 exact ⟨rs,ys,rfl,Sl.own o,⟨x.1,fun i h h'=>(x.2 i h h').row.inn⟩,p,q⟩
theorem RowsTo.u {wa w':World} {ops:List Opn} {e:Ending} (h:RowsTo wa (runX [] ops) e w'):∃ A n c,e = .returned (.slice A n c) ∧ RowsW w' A n c ops ∧ Fr noB wa w':=by
 obtain ⟨A,c,rs,ys,rfl,h5⟩:=id h
 exact ⟨A,_,c,rfl,h.w,h5.2.2.2.2.2⟩
theorem FastTo.u {w w':World} {base all:List Opn} {e:Ending} (h:FastTo w base all e w'):∃ A n c,e = .returned (.tuple #[.slice A n c,.bool (safeO base all)]) ∧ Fr noB w w' ∧ (safeO base all = true → RowsW w' A n c all):=by
 rcases h with ⟨h1,A,c,rs,wa,rfl,h2,h3⟩ | ⟨h1,rfl,h2⟩
 ·have h4:=h2
  obtain ⟨_,_,_,_,_,_,_,_,_,_,f⟩:=h4
  exact ⟨A,_,c,by rw [h1],h3.step0 f,fun _=>h2.w⟩
 ·exact ⟨none,0,0,by rw [h1],h2,fun h=>by rw [h1] at h;cases h⟩
theorem RwsTo.u {w w':World} {L:Hst} {ids:List ID} {e:Ending} (h:RwsTo w L ids e w'):∃ A n c l,e = .returned (.slice A n c) ∧ OpsP L ids l ∧ l.length ≤ 64000 ∧ RowsW w' A n c l ∧ Fr noB w w':=by
 obtain ⟨l,wa,h1,h2,h3,h4⟩:=h
 obtain ⟨A,c,rs,ys,rfl,h5⟩:=id h4
 exact ⟨A,_,c,l,rfl,h1,h2,h4.w,h3.step0 h5.2.2.2.2.2⟩
theorem sl_pl {w w':World} {A:Option Addr} {rs:List OpW} {B:Nat} {v:PlW} (h:Sl w A (codO.row rs)) (hB:codPl.bxd w B = some v) (f:Fr (oneB B) w w'):Sl w' A (codO.row rs):=by
 by_cases h0:rs = []
 ·rw [h0];exact Sl.nil _ _
 ·refine h.fr f (fun a ha hb=>?_)
  obtain ⟨g,off,e,_,hc⟩:=h (Cod.row_ne h0)
  rw [ha] at e
  injection e with e
  subst e
  have hb':g = B:=hb
  subst hb'
  have hl:0 < rs.length:=List.length_pos_iff.2 h0
  have hlen:(codO.row rs).length = rs.length * 41:=Cod.row_len ..
  have h40:=hc 40 _ (List.getElem?_eq_getElem (by rw [hlen];omega))
  rw [(Cod.bxd_blk hB).cell,List.getElem?_eq_none (by rw [codPl.len];show 36 ≤ off + 40;omega)] at h40
  cases h40
structure MrB (w:World) (P H D A:Nat) (a b:ID):Prop where
 c0:w.cell? ⟨H,0,none⟩ = some (.pointer (some ⟨D,0,none⟩))
 c1:w.cell? ⟨H,1,none⟩ = some (.map (some A))
 qa:rdI w P 0 = some a
 qb:rdI w (P + 1) 0 = some b
 pl:codPl.bxd w (P + 2) = some zPlW
theorem MrB.fr0 {w w':World} {P H D A:Nat} {a b:ID} (h:MrB w P H D A a b) (f:Fr noB w w'):MrB w' P H D A a b :=
 ⟨cell_fr0 h.c0 f,cell_fr0 h.c1 f,rdI_fr h.qa (rdI_lt h.qa) f (by simp [noB]),rdI_fr h.qb (rdI_lt h.qb) f (by simp [noB]),Cod.bxd_fr0 h.pl f⟩
set_option maxRecDepth 100000 in
set_option maxHeartbeats 8000000 in
theorem mgMerge_any {w:World} {H:Nat} {S:Nat → Prop} {L:Hst} (h:Hs w H S L) (hn:NdH L) (hl:L.length ≤ 1000) (a b:ID) :
  Calls Tryz.prog 22 #[.pointer (some ⟨H,0,none⟩),encI a,encI b] w (MgTo w L a b):=by
 have HH:=Lib.hid h
 have HK:=Lib.hid h.ok
 have CO:=Lib.hid (fun w' (f:Fr noB w w') P c n ids (hi:ids.length = n) (hs:Sl w' P (idc ids)) (hb:ids.length ≤ 1000000000)=>mgOps_any (HH.out.fr0 f) hn hl P c n ids hi hs hb)
 have CR:=Lib.hid (fun w' (f:Fr noB w w') P c x (hs:Sl w' P (idc [x]))=>mgRows_any (HH.out.fr0 f) hn hl P c 1 [x] rfl hs (by simp))
 obtain ⟨D,A,O,kvA,kvO,F,Q,h1,h2,h3⟩:=h
 have HA:=Lib.hid h1
 have CRe:=Lib.hid (fun w' (f:Fr noB w w') x y=>reaches_any w' D F (dgH L) (h1.dag.fr0 f) x y)
 have CB:=Lib.hid (fun w' (f:Fr noB w w')=>bases_any w' D F (dgH L) (h1.dag.fr0 f) a b)
 have fa:Fr noB w (w.alloc (ido a)):=(Fr.refl noB w).alloc _
 have fb:Fr noB (w.alloc (ido a)) ((w.alloc (ido a)).alloc (ido b)):=(Fr.refl noB _).alloc _
 have fc:Fr noB ((w.alloc (ido a)).alloc (ido b)) (((w.alloc (ido a)).alloc (ido b)).alloc (codPl.o zPlW)):=(Fr.refl noB _).alloc _
 have za:(w.alloc (ido a)).heap.size = w.heap.size + 1:=by simp
 have zb:((w.alloc (ido a)).alloc (ido b)).heap.size = w.heap.size + 2:=by simp
 have f0:=(fa.step0 fb).step0 fc
 have q0:MrB (((w.alloc (ido a)).alloc (ido b)).alloc (codPl.o zPlW)) w.heap.size H D A a b:=by
  have h4:rdI (w.alloc (ido a)) w.heap.size 0 = some a:=rdI_new w a
  have h5:rdI ((w.alloc (ido a)).alloc (ido b)) (w.alloc (ido a)).heap.size 0 = some b:=rdI_new _ b
  rw [za] at h5
  have h6:=Cod.bxd_new (C:=codPl) ((w.alloc (ido a)).alloc (ido b)) zPlW
  rw [zb] at h6
  have h7:=rdI_fr h4 (rdI_lt h4) fb (by simp [noB])
  exact ⟨cell_fr0 h1.c0 f0,cell_fr0 h1.c1 f0,rdI_fr h7 (rdI_lt h7) fc (by simp [noB]),rdI_fr h5 (rdI_lt h5) fc (by simp [noB]),h6⟩
 have m0:=mpI_fr h1.all f0 (by simp [noB])
 obtain ⟨ra,rsa,ca,ba,la1,la2,ea1,ea2,hca,_,_,_,_⟩:=h1.getC a
 obtain ⟨rb,rsb,cb,bb,lb1,lb2,eb1,eb2,hcb,_,_,_,_⟩:=h1.getC b
 have HTa:=Lib.hid hca.inn.time
 have HTb:=Lib.hid hcb.inn.time
 have HEa:=Lib.hid (And.intro ea1 ea2)
 have HEb:=Lib.hid (And.intro eb1 eb2)
 clear h1 h2 h3 hca hcb ea1 ea2 eb1 eb2 fa fb fc za hn hl
 go_enter Tryz.func22,Tryz.ntmps22
 go_upto_region 1 with fail
 generalize hW0:((w.alloc (ido a)).alloc (ido b)).alloc (codPl.o zPlW) = W0 at f0 q0 m0 ⊢
 clear hW0 zb
 obtain ⟨P,hP⟩:∃ P,P = w.heap.size:=⟨_,rfl⟩
 rw [← hP] at q0 ⊢
 have HP:=Lib.hid hP
 have e2:P + 1 + 1 = P + 2:=rfl
 clear hP
 have hk:∀ w' w'':World,Fr noB w' w'' → (w'.cell? ⟨H,1,none⟩ = some (.map (some A)) ∧ rdI w' P 0 = some a ∧ mpI w' A = some kvA) → (w''.cell? ⟨H,1,none⟩ = some (.map (some A)) ∧ rdI w'' P 0 = some a ∧ mpI w'' A = some kvA):=fun w' w'' f h=>⟨cell_fr0 h.1 f,rdI_fr h.2.1 (rdI_lt h.2.1) f (by simp [noB]),mpI_fr h.2.2 f (by simp [noB])⟩
 have fd:Fr noB W0 W0.drew:=(Fr.refl noB W0).drew
 have hF0:=hk _ _ fd ⟨q0.c1,q0.qa,m0⟩
 refine wp_region_M 11 12 [⟨32768,1,0⟩,⟨65536,32768,1⟩,⟨131072,65536,2⟩,⟨262144,131072,4⟩,⟨524288,16,0⟩,⟨1048576,786432,24⟩,⟨16384,1048576,32⟩,⟨2097152,16384,64⟩,⟨4194304,16384,64⟩,⟨256,0,0⟩,⟨0,2097408,767⟩,⟨512,4194304,2047⟩] [(true,0),(true,1),(true,2),(true,3),(true,4),(true,5),(true,6),(true,7),(true,8),(false,9),(false,10)] (fun w'=>w'.cell? ⟨H,1,none⟩ = some (.map (some A)) ∧ rdI w' P 0 = some a ∧ mpI w' A = some kvA) (by kernel_rfl) rfl (by kernel_rfl) (by kernel_rfl) (by kernel_rfl) hF0 (fun hA hF=>?_)
 iterate 9
  refine wpAnyS_take (v:=?_) hA rfl (fun _ _ _ h=>h) (Or.inl ⟨by rfl,?_⟩) hF (fun hA=>?_)
  rotate_left
  ·intro wS hSw;(try dsimp only at hSw);obtain ⟨s1,s2,s3⟩:=hSw;first | (apply Eq.trans;apply ex_ld_id;exact rfl;exact rfl;assumption;with_reducible rfl) | (apply Eq.trans;apply ex_ldO_at;exact rfl;exact rfl;assumption;with_reducible rfl) | (apply Eq.trans;apply ex_ldS_at;exact rfl;exact rfl;assumption;with_reducible rfl) | (apply Eq.trans;apply ex_bldFR_at;exact rfl;exact rfl;exact rfl;with_reducible rfl) | (apply Eq.trans;apply ex_bldBT_at;exact rfl;exact rfl;exact rfl;with_reducible rfl) | (go_simp;try with_reducible rfl)
  try simp only [List.getElem_toArray,List.getElem_cons_zero,List.getElem_cons_succ,Act.put,List.setIfInBounds_toArray,List.set_cons_zero,List.set_cons_succ]
 refine wpAnyS_one hA rfl (fun K' hK=>?_)
 refine step_runI rfl _ _ (okC.alOp _ _ rfl _) ?_
 have fa:Fr noB W0.drew (W0.drew.alloc (codC.o zCgW)):=(Fr.refl noB _).alloc _
 replace hF:=hk _ _ fa hF
 refine hK.out _ _ hF (fun hA=>?_)
 clear hK K'
 as_aux_lemma =>
 refine wpAnyS_one hA rfl (fun K' hK=>?_)
 refine stp_skip rfl _ (ex_stV_at (C:=codC) (v:=ra) rfl rfl rfl (st_newC W0.drew ra zCgW)) ?_
 have fb:Fr noB W0.drew (W0.drew.alloc (codC.o ra)):=(Fr.refl noB _).alloc _
 replace hF:=(hk _ _ fb hF0)
 refine hK.out _ _ hF (fun hA=>?_)
 clear hK K'
 as_aux_lemma =>
 refine wpAnyS_end hA rfl ?_
 simp only [List.drop_succ_cons,List.drop_zero]
 have bNa:codC.bxd (W0.drew.alloc (codC.o ra)) W0.drew.heap.size = some ra:=Cod.bxd_new (C:=codC) W0.drew ra
 clear hF hk hF0 fa la1 la2
 have q1:=q0.fr0 (fd.step0 fb)
 have m1:=mpI_fr m0 (fd.step0 fb) (by simp [noB])
 have g1:=f0.step0 (fd.step0 fb)
 clear q0 m0 f0 fd fb
 generalize W0.drew.alloc (codC.o ra) = W1 at bNa q1 m1 g1 ⊢
 generalize W0.drew.heap.size = Na at bNa ⊢
 go_upto_region 2 with fail
 have hk:∀ w' w'':World,Fr noB w' w'' → (w'.cell? ⟨H,1,none⟩ = some (.map (some A)) ∧ rdI w' (P + 1) 0 = some b ∧ mpI w' A = some kvA) → (w''.cell? ⟨H,1,none⟩ = some (.map (some A)) ∧ rdI w'' (P + 1) 0 = some b ∧ mpI w'' A = some kvA):=fun w' w'' f h=>⟨cell_fr0 h.1 f,rdI_fr h.2.1 (rdI_lt h.2.1) f (by simp [noB]),mpI_fr h.2.2 f (by simp [noB])⟩
 have fd:Fr noB W1 W1.drew:=(Fr.refl noB W1).drew
 have hF0:=hk _ _ fd ⟨q1.c1,q1.qb,m1⟩
 refine wp_region_M 11 12 [⟨16777216,1,0⟩,⟨33554432,16777216,1⟩,⟨67108864,33554432,2⟩,⟨134217728,67108864,4⟩,⟨268435456,32,0⟩,⟨536870912,402653184,24⟩,⟨8388608,536870912,32⟩,⟨1073741824,8388608,64⟩,⟨2147483648,8388608,64⟩,⟨1024,0,0⟩,⟨0,1073742848,767⟩,⟨2048,2147483648,2047⟩] [(true,0),(true,1),(true,2),(true,3),(true,4),(true,5),(true,6),(true,7),(true,8),(false,9),(false,10)] (fun w'=>w'.cell? ⟨H,1,none⟩ = some (.map (some A)) ∧ rdI w' (P + 1) 0 = some b ∧ mpI w' A = some kvA) (by kernel_rfl) rfl (by kernel_rfl) (by kernel_rfl) (by kernel_rfl) hF0 (fun hA hF=>?_)
 iterate 9
  refine wpAnyS_take (v:=?_) hA rfl (fun _ _ _ h=>h) (Or.inl ⟨by rfl,?_⟩) hF (fun hA=>?_)
  rotate_left
  ·intro wS hSw;(try dsimp only at hSw);obtain ⟨s1,s2,s3⟩:=hSw;first | (apply Eq.trans;apply ex_ld_id;exact rfl;exact rfl;assumption;with_reducible rfl) | (apply Eq.trans;apply ex_ldO_at;exact rfl;exact rfl;assumption;with_reducible rfl) | (apply Eq.trans;apply ex_ldS_at;exact rfl;exact rfl;assumption;with_reducible rfl) | (apply Eq.trans;apply ex_bldFR_at;exact rfl;exact rfl;exact rfl;with_reducible rfl) | (apply Eq.trans;apply ex_bldBT_at;exact rfl;exact rfl;exact rfl;with_reducible rfl) | (go_simp;try with_reducible rfl)
  try simp only [List.getElem_toArray,List.getElem_cons_zero,List.getElem_cons_succ,Act.put,List.setIfInBounds_toArray,List.set_cons_zero,List.set_cons_succ]
 refine wpAnyS_one hA rfl (fun K' hK=>?_)
 refine step_runI rfl _ _ (okC.alOp _ _ rfl _) ?_
 have fa:Fr noB W1.drew (W1.drew.alloc (codC.o zCgW)):=(Fr.refl noB _).alloc _
 replace hF:=hk _ _ fa hF
 refine hK.out _ _ hF (fun hA=>?_)
 clear hK K'
 as_aux_lemma =>
 refine wpAnyS_one hA rfl (fun K' hK=>?_)
 refine stp_skip rfl _ (ex_stV_at (C:=codC) (v:=rb) rfl rfl rfl (st_newC W1.drew rb zCgW)) ?_
 have fb:Fr noB W1.drew (W1.drew.alloc (codC.o rb)):=(Fr.refl noB _).alloc _
 replace hF:=(hk _ _ fb hF0)
 refine hK.out _ _ hF (fun hA=>?_)
 clear hK K'
 as_aux_lemma =>
 refine wpAnyS_end hA rfl ?_
 simp only [List.drop_succ_cons,List.drop_zero]
 have bNb:codC.bxd (W1.drew.alloc (codC.o rb)) W1.drew.heap.size = some rb:=Cod.bxd_new (C:=codC) W1.drew rb
 clear hF hk hF0 fa lb1 lb2
 have q2:=q1.fr0 (fd.step0 fb)
 have bNa2:=Cod.bxd_fr0 bNa (fd.step0 fb)
 have g2:=g1.step0 (fd.step0 fb)
 clear q1 m1 g1 fd fb bNa
 generalize W1.drew.alloc (codC.o rb) = W2 at bNb bNa2 q2 g2 ⊢
 generalize W1.drew.heap.size = Nb at bNb ⊢
 have plz:=q2.pl
 cases ba with
 | false =>
  have HM4:=Lib.hid (show mgE L a b = 4 by
   unfold mgE
   have h1:=HEa.out.2
   have h2:=HEb.out.2
   cases hfa:findC L a <;> cases hfb:findC L b <;> simp [hfa,hfb] at h1 h2 ⊢)
  have hst:=okPl.stR_box plz zPlW
  obtain ⟨p1,p2,p3⟩:=Cod.put_fr plz zPlW
  go_wp2_with fail
  refine bodyPost_ret (ret_row_tmp okPl rfl _ _ (P + 2) _ (by rfl) p3) rfl ?_
  refine ⟨zPlW,by rw [HM4.out];rfl,g2.step1 p1 (by have:=HP.out;omega),fun _=>rfl,fun h=>by rw [HM4.out] at h;cases h⟩
 | true =>
  cases bb with
  | false =>
   have HM4:=Lib.hid (show mgE L a b = 4 by
    unfold mgE
    have h1:=HEa.out.2
    have h2:=HEb.out.2
    cases hfa:findC L a <;> cases hfb:findC L b <;> simp [hfa,hfb] at h1 h2 ⊢)
   have hst:=okPl.stR_box plz zPlW
   obtain ⟨p1,p2,p3⟩:=Cod.put_fr plz zPlW
   go_wp2_with fail
   refine bodyPost_ret (ret_row_tmp okPl rfl _ _ (P + 2) _ (by rfl) p3) rfl ?_
   refine ⟨zPlW,by rw [HM4.out];rfl,g2.step1 p1 (by have:=HP.out;omega),fun _=>rfl,fun h=>by rw [HM4.out] at h;cases h⟩
  | true =>
   clear plz
   have HTS:=Lib.hid (show (ra.Time = ca.Time ∧ 1 ≤ ca.Time ∧ ca.Time ≤ 1099511627776 ∧ findC L a = some ca) ∧ (rb.Time = cb.Time ∧ 1 ≤ cb.Time ∧ cb.Time ≤ 1099511627776 ∧ findC L b = some cb) by
    have h1:=HEa.out
    have h2:=HEb.out
    cases hfa:findC L a with
    | none=>rw [hfa] at h1;exact absurd h1.2 (by simp)
    | some x =>
     cases hfb:findC L b with
     | none=>rw [hfb] at h2;exact absurd h2.2 (by simp)
     | some y =>
      rw [hfa] at h1
      rw [hfb] at h2
      obtain rfl:ca = x:=h1.1
      obtain rfl:cb = y:=h2.1
      exact ⟨⟨HTa.out.symm,(HK.out.times hfa).1,(HK.out.times hfa).2,rfl⟩,⟨HTb.out.symm,(HK.out.times hfb).1,(HK.out.times hfb).2,rfl⟩⟩)
   go_upto_region 5 with fail
   have hk:∀ w' w'':World,Fr noB w' w'' → (w'.cell? ⟨H,0,none⟩ = some (.pointer (some ⟨D,0,none⟩)) ∧ rdI w' P 0 = some a ∧ rdI w' (P + 1) 0 = some b) → (w''.cell? ⟨H,0,none⟩ = some (.pointer (some ⟨D,0,none⟩)) ∧ rdI w'' P 0 = some a ∧ rdI w'' (P + 1) 0 = some b):=fun w' w'' f h=>⟨cell_fr0 h.1 f,rdI_fr h.2.1 (rdI_lt h.2.1) f (by simp [noB]),rdI_fr h.2.2 (rdI_lt h.2.2) f (by simp [noB])⟩
   have fd:Fr noB W2 W2.drew:=(Fr.refl noB W2).drew
   have hF0:=hk _ _ fd ⟨q2.c0,q2.qa,q2.qb⟩
   refine wp_region_M 7 8 [⟨2199023255552,1,0⟩,⟨4398046511104,2199023255552,1⟩,⟨8796093022208,4398046511104,2⟩,⟨17592186044416,8796093022208,4⟩,⟨35184372088832,16,0⟩,⟨70368744177664,32,0⟩,⟨140737488355328,123145302310912,56⟩,⟨1099511627776,140737488355328,64⟩] [(true,0),(true,1),(true,2),(true,3),(true,4),(true,5),(false,6)] (fun w'=>w'.cell? ⟨H,0,none⟩ = some (.pointer (some ⟨D,0,none⟩)) ∧ rdI w' P 0 = some a ∧ rdI w' (P + 1) 0 = some b) (by kernel_rfl) rfl (by kernel_rfl) (by kernel_rfl) (by kernel_rfl) hF0 (fun hA hF=>?_)
   iterate 6
    refine wpAnyS_take (v:=?_) hA rfl (fun _ _ _ h=>h) (Or.inl ⟨by rfl,?_⟩) hF (fun hA=>?_)
    rotate_left
    ·intro wS hSw;(try dsimp only at hSw);obtain ⟨s1,s2,s3⟩:=hSw;first | (apply Eq.trans;apply ex_ld_id;exact rfl;exact rfl;assumption;with_reducible rfl) | (apply Eq.trans;apply ex_ldO_at;exact rfl;exact rfl;assumption;with_reducible rfl) | (apply Eq.trans;apply ex_ldS_at;exact rfl;exact rfl;assumption;with_reducible rfl) | (apply Eq.trans;apply ex_bldFR_at;exact rfl;exact rfl;exact rfl;with_reducible rfl) | (apply Eq.trans;apply ex_bldBT_at;exact rfl;exact rfl;exact rfl;with_reducible rfl) | (go_simp;try with_reducible rfl)
    try simp only [List.getElem_toArray,List.getElem_cons_zero,List.getElem_cons_succ,Act.put,List.setIfInBounds_toArray,List.set_cons_zero,List.set_cons_succ]
   refine wpAnyS_one hA rfl (fun K' hK=>?_)
   go_simp
   go_at_call 27
   refine (CRe.out _ (g2.step0 fd) a b).mono ?_
   rintro e w3 ⟨rfl,f3⟩
   replace hF:=hk _ _ f3 hF
   refine hK.out _ _ hF (fun hA=>?_)
   clear hK K'
   as_aux_lemma =>
   refine wpAnyS_end hA rfl ?_
   simp only [List.drop_succ_cons,List.drop_zero]
   clear hF hk hF0
   have q3:=q2.fr0 (fd.step0 f3)
   have g3:=g2.step0 (fd.step0 f3)
   have ta:=(cgAt (Cod.bxd_rd (Cod.bxd_fr0 bNa2 (fd.step0 f3)))).time
   have tb:=(cgAt (Cod.bxd_rd (Cod.bxd_fr0 bNb (fd.step0 f3)))).time
   clear q2 g2 bNa2 bNb fd f3
   cases hab:ancG (dgH L) a b with
   | true =>
    have HM0:=Lib.hid (show mgE L a b = 0 by
     unfold mgE
     rw [HTS.out.1.2.2.2,HTS.out.2.2.2.2]
     simp [hab])
    have HAB:=Lib.hid hab
    clear hab ta tb
    go_upto_region 6 with fail
    have hk:∀ w' w'':World,Fr noB w' w'' → rdI w' (P) 0 = some a → rdI w'' (P) 0 = some a:=fun w' w'' f h=>rdI_fr h (rdI_lt h) f (by simp [noB])
    have fd:Fr noB w3 w3.drew:=(Fr.refl noB w3).drew
    have hF0:=hk _ _ fd q3.qa
    refine wp_region_M 6 8 [⟨281474976710656,16,0⟩,⟨562949953421312,1,0⟩,⟨1125899906842624,16,0⟩,⟨2251799813685248,1125899906842624,4⟩,⟨4503599627370496,2814749767106560,10⟩,⟨9007199254740992,4785074604081152,17⟩,⟨0,9007199254741056,63⟩,⟨128,0,127⟩] [(true,0),(true,1),(true,2),(false,3),(false,4),(true,5)] (fun w'=>rdI w' (P) 0 = some a) (by kernel_rfl) rfl (by kernel_rfl) (by kernel_rfl) (by kernel_rfl) hF0 (fun hA hF=>?_)
    iterate 3
     refine wpAnyS_take (v:=?_) hA rfl (fun _ _ _ h=>h) (Or.inl ⟨by rfl,?_⟩) hF (fun hA=>?_)
     rotate_left
     ·intro wS hSw;(try dsimp only at hSw);obtain s1:=hSw;first | (apply Eq.trans;apply ex_ld_id;exact rfl;exact rfl;assumption;with_reducible rfl) | (apply Eq.trans;apply ex_ldO_at;exact rfl;exact rfl;assumption;with_reducible rfl) | (apply Eq.trans;apply ex_ldS_at;exact rfl;exact rfl;assumption;with_reducible rfl) | (apply Eq.trans;apply ex_bldFR_at;exact rfl;exact rfl;exact rfl;with_reducible rfl) | (apply Eq.trans;apply ex_bldBT_at;exact rfl;exact rfl;exact rfl;with_reducible rfl) | (go_simp;try with_reducible rfl)
     try simp only [List.getElem_toArray,List.getElem_cons_zero,List.getElem_cons_succ,Act.put,List.setIfInBounds_toArray,List.set_cons_zero,List.set_cons_succ]
    refine wpAnyS_one hA rfl (fun K' hK=>?_)
    refine step_runI rfl _ _ (ex_bs1_at (x:=a) rfl rfl) ?_
    have fn:Fr noB w3.drew (w3.drew.alloc (rowo [a])):=(Fr.refl noB _).alloc _
    have CRx:=Lib.hid (CR.out _ (g3.step0 (fd.step0 fn)) _ 1 a (sl_new w3.drew [a]))
    replace hF:=hk _ _ fn hF
    refine hK.out _ _ hF (fun hA=>?_)
    clear hK K'
    as_aux_lemma =>
    refine wpAnyS_one hA rfl (fun K' hK=>?_)
    go_simp
    go_at_call 20
    refine CRx.out.mono ?_
    rintro e w6 hr6
    obtain ⟨A6,n6,c6,l6,rfl,p6,b6,r6,f6⟩:=hr6.u
    replace hF:=hk _ _ f6 hF
    refine hK.out _ _ hF (fun hA=>?_)
    clear hK K'
    as_aux_lemma =>
    refine wpAnyS_take (v:=?_) hA rfl (fun _ _ _ h=>h) (Or.inl ⟨by rfl,?_⟩) hF (fun hA=>?_)
    rotate_left
    ·intro wS hSw;(try dsimp only at hSw);obtain s1:=hSw;first | (apply Eq.trans;apply ex_ld_id;exact rfl;exact rfl;assumption;with_reducible rfl) | (apply Eq.trans;apply ex_ldO_at;exact rfl;exact rfl;assumption;with_reducible rfl) | (apply Eq.trans;apply ex_ldS_at;exact rfl;exact rfl;assumption;with_reducible rfl) | (apply Eq.trans;apply ex_bldFR_at;exact rfl;exact rfl;exact rfl;with_reducible rfl) | (apply Eq.trans;apply ex_bldBT_at;exact rfl;exact rfl;exact rfl;with_reducible rfl) | (go_simp;try with_reducible rfl)
    try simp only [List.getElem_toArray,List.getElem_cons_zero,List.getElem_cons_succ,Act.put,List.setIfInBounds_toArray,List.set_cons_zero,List.set_cons_succ]
    refine wpAnyS_end hA rfl ?_
    simp only [List.drop_succ_cons,List.drop_zero]
    have ff:=(fd.step0 fn).step0 f6
    have pl6:=Cod.bxd_fr0 q3.pl ff
    have hst:=okPl.stR_box pl6 { zPlW with F:=a,RA:=A6,rn:=n6,rc:=c6 }
    obtain ⟨p1,p2,p3⟩:=Cod.put_fr pl6 { zPlW with F:=a,RA:=A6,rn:=n6,rc:=c6 }
    clear hF hk hF0 fd fn f6 hr6
    go_wp2_with fail
    refine bodyPost_ret (ret_row_tmp okPl rfl _ _ (P + 2) _ (by rfl) p3) rfl ?_
    refine ⟨_,by rw [HM0.out];rfl,(g3.step0 ff).step1 p1 (by have:=HP.out;omega),fun h=>absurd HM0.out h,fun _=>⟨[],l6,⟨fun _=>⟨rfl,rfl,p6,rfl,rfl⟩,fun h=>(by rw [HAB.out] at h;cases h),fun h=>(by rw [HAB.out] at h;cases h)⟩,rfl,Sl.nil _ _,by simp,b6,(r6.pl pl6 p1).s⟩⟩
   | false =>
    have HAB:=Lib.hid hab
    clear hab
    go_upto_region 7 with fail
    have hk:∀ w' w'':World,Fr noB w' w'' → (w'.cell? ⟨H,0,none⟩ = some (.pointer (some ⟨D,0,none⟩)) ∧ rdI w' P 0 = some a ∧ rdI w' (P + 1) 0 = some b) → (w''.cell? ⟨H,0,none⟩ = some (.pointer (some ⟨D,0,none⟩)) ∧ rdI w'' P 0 = some a ∧ rdI w'' (P + 1) 0 = some b):=fun w' w'' f h=>⟨cell_fr0 h.1 f,rdI_fr h.2.1 (rdI_lt h.2.1) f (by simp [noB]),rdI_fr h.2.2 (rdI_lt h.2.2) f (by simp [noB])⟩
    have fd:Fr noB w3 w3.drew:=(Fr.refl noB w3).drew
    have hF0:=hk _ _ fd ⟨q3.c0,q3.qa,q3.qb⟩
    refine wp_region_M 7 8 [⟨36028797018963968,1,0⟩,⟨72057594037927936,36028797018963968,1⟩,⟨144115188075855872,72057594037927936,2⟩,⟨288230376151711744,144115188075855872,4⟩,⟨576460752303423488,32,0⟩,⟨1152921504606846976,16,0⟩,⟨2305843009213693952,2017612633061982208,56⟩,⟨18014398509481984,2305843009213693952,64⟩] [(true,0),(true,1),(true,2),(true,3),(true,4),(true,5),(false,6)] (fun w'=>w'.cell? ⟨H,0,none⟩ = some (.pointer (some ⟨D,0,none⟩)) ∧ rdI w' P 0 = some a ∧ rdI w' (P + 1) 0 = some b) (by kernel_rfl) rfl (by kernel_rfl) (by kernel_rfl) (by kernel_rfl) hF0 (fun hA hF=>?_)
    iterate 6
     refine wpAnyS_take (v:=?_) hA rfl (fun _ _ _ h=>h) (Or.inl ⟨by rfl,?_⟩) hF (fun hA=>?_)
     rotate_left
     ·intro wS hSw;(try dsimp only at hSw);obtain ⟨s1,s2,s3⟩:=hSw;first | (apply Eq.trans;apply ex_ld_id;exact rfl;exact rfl;assumption;with_reducible rfl) | (apply Eq.trans;apply ex_ldO_at;exact rfl;exact rfl;assumption;with_reducible rfl) | (apply Eq.trans;apply ex_ldS_at;exact rfl;exact rfl;assumption;with_reducible rfl) | (apply Eq.trans;apply ex_bldFR_at;exact rfl;exact rfl;exact rfl;with_reducible rfl) | (apply Eq.trans;apply ex_bldBT_at;exact rfl;exact rfl;exact rfl;with_reducible rfl) | (go_simp;try with_reducible rfl)
     try simp only [List.getElem_toArray,List.getElem_cons_zero,List.getElem_cons_succ,Act.put,List.setIfInBounds_toArray,List.set_cons_zero,List.set_cons_succ]
    refine wpAnyS_one hA rfl (fun K' hK=>?_)
    go_simp
    go_at_call 27
    refine (CRe.out _ (g3.step0 fd) b a).mono ?_
    rintro e w4 ⟨rfl,f3⟩
    replace hF:=hk _ _ f3 hF
    refine hK.out _ _ hF (fun hA=>?_)
    clear hK K'
    as_aux_lemma =>
    refine wpAnyS_end hA rfl ?_
    simp only [List.drop_succ_cons,List.drop_zero]
    clear hF hk hF0
    have q4:=q3.fr0 (fd.step0 f3)
    have g4:=g3.step0 (fd.step0 f3)
    have ta4:=cell_fr0 ta (fd.step0 f3)
    have tb4:=cell_fr0 tb (fd.step0 f3)
    clear q3 g3 ta tb fd f3
    cases hba:ancG (dgH L) b a with
    | true =>
     have HM0:=Lib.hid (show mgE L a b = 0 by
      unfold mgE
      rw [HTS.out.1.2.2.2,HTS.out.2.2.2.2]
      simp [HAB.out,hba])
     have HBA:=Lib.hid hba
     clear hba ta4 tb4
     go_upto_region 8 with fail
     have hk:∀ w' w'':World,Fr noB w' w'' → rdI w' ((P + 1)) 0 = some b → rdI w'' ((P + 1)) 0 = some b:=fun w' w'' f h=>rdI_fr h (rdI_lt h) f (by simp [noB])
     have fd:Fr noB w4 w4.drew:=(Fr.refl noB w4).drew
     have hF0:=hk _ _ fd q4.qb
     refine wp_region_M 6 8 [⟨4611686018427387904,32,0⟩,⟨9223372036854775808,1,0⟩,⟨18446744073709551616,32,0⟩,⟨36893488147419103232,18446744073709551616,4⟩,⟨73786976294838206464,46116860184273879040,10⟩,⟨147573952589676412928,78398662313265594368,17⟩,⟨0,147573952589676412992,63⟩,⟨128,0,127⟩] [(true,0),(true,1),(true,2),(false,3),(false,4),(true,5)] (fun w'=>rdI w' ((P + 1)) 0 = some b) (by kernel_rfl) rfl (by kernel_rfl) (by kernel_rfl) (by kernel_rfl) hF0 (fun hA hF=>?_)
     iterate 3
      refine wpAnyS_take (v:=?_) hA rfl (fun _ _ _ h=>h) (Or.inl ⟨by rfl,?_⟩) hF (fun hA=>?_)
      rotate_left
      ·intro wS hSw;(try dsimp only at hSw);obtain s1:=hSw;first | (apply Eq.trans;apply ex_ld_id;exact rfl;exact rfl;assumption;with_reducible rfl) | (apply Eq.trans;apply ex_ldO_at;exact rfl;exact rfl;assumption;with_reducible rfl) | (apply Eq.trans;apply ex_ldS_at;exact rfl;exact rfl;assumption;with_reducible rfl) | (apply Eq.trans;apply ex_bldFR_at;exact rfl;exact rfl;exact rfl;with_reducible rfl) | (apply Eq.trans;apply ex_bldBT_at;exact rfl;exact rfl;exact rfl;with_reducible rfl) | (go_simp;try with_reducible rfl)
      try simp only [List.getElem_toArray,List.getElem_cons_zero,List.getElem_cons_succ,Act.put,List.setIfInBounds_toArray,List.set_cons_zero,List.set_cons_succ]
     refine wpAnyS_one hA rfl (fun K' hK=>?_)
     refine step_runI rfl _ _ (ex_bs1_at (x:=b) rfl rfl) ?_
     have fn:Fr noB w4.drew (w4.drew.alloc (rowo [b])):=(Fr.refl noB _).alloc _
     have CRx:=Lib.hid (CR.out _ (g4.step0 (fd.step0 fn)) _ 1 b (sl_new w4.drew [b]))
     replace hF:=hk _ _ fn hF
     refine hK.out _ _ hF (fun hA=>?_)
     clear hK K'
     as_aux_lemma =>
     refine wpAnyS_one hA rfl (fun K' hK=>?_)
     go_simp
     go_at_call 20
     refine CRx.out.mono ?_
     rintro e w6 hr6
     obtain ⟨A6,n6,c6,l6,rfl,p6,b6,r6,f6⟩:=hr6.u
     replace hF:=hk _ _ f6 hF
     refine hK.out _ _ hF (fun hA=>?_)
     clear hK K'
     as_aux_lemma =>
     refine wpAnyS_take (v:=?_) hA rfl (fun _ _ _ h=>h) (Or.inl ⟨by rfl,?_⟩) hF (fun hA=>?_)
     rotate_left
     ·intro wS hSw;(try dsimp only at hSw);obtain s1:=hSw;first | (apply Eq.trans;apply ex_ld_id;exact rfl;exact rfl;assumption;with_reducible rfl) | (apply Eq.trans;apply ex_ldO_at;exact rfl;exact rfl;assumption;with_reducible rfl) | (apply Eq.trans;apply ex_ldS_at;exact rfl;exact rfl;assumption;with_reducible rfl) | (apply Eq.trans;apply ex_bldFR_at;exact rfl;exact rfl;exact rfl;with_reducible rfl) | (apply Eq.trans;apply ex_bldBT_at;exact rfl;exact rfl;exact rfl;with_reducible rfl) | (go_simp;try with_reducible rfl)
     try simp only [List.getElem_toArray,List.getElem_cons_zero,List.getElem_cons_succ,Act.put,List.setIfInBounds_toArray,List.set_cons_zero,List.set_cons_succ]
     refine wpAnyS_end hA rfl ?_
     simp only [List.drop_succ_cons,List.drop_zero]
     have ff:=(fd.step0 fn).step0 f6
     have pl6:=Cod.bxd_fr0 q4.pl ff
     have hst:=okPl.stR_box pl6 { zPlW with F:=b,RA:=A6,rn:=n6,rc:=c6 }
     obtain ⟨p1,p2,p3⟩:=Cod.put_fr pl6 { zPlW with F:=b,RA:=A6,rn:=n6,rc:=c6 }
     clear hF hk hF0 fd fn f6 hr6
     go_wp2_with fail
     refine bodyPost_ret (ret_row_tmp okPl rfl _ _ (P + 2) _ (by rfl) p3) rfl ?_
     refine ⟨_,by rw [HM0.out];rfl,(g4.step0 ff).step1 p1 (by have:=HP.out;omega),fun h=>absurd HM0.out h,fun _=>⟨[],l6,⟨fun h=>(by rw [HAB.out] at h;cases h),fun _ _=>⟨rfl,rfl,p6,rfl,rfl⟩,fun _ h=>(by rw [HBA.out] at h;cases h)⟩,rfl,Sl.nil _ _,by simp,b6,(r6.pl pl6 p1).s⟩⟩
    | false =>
     have HBA:=Lib.hid hba
     clear hba
     have HM:=Lib.hid (show mgE L a b = if max ca.Time cb.Time + 1 > 1099511627776 then 1 else 0 by
      unfold mgE
      rw [HTS.out.1.2.2.2,HTS.out.2.2.2.2]
      simp [HAB.out,HBA.out])
     rw [HTS.out.1.1] at ta4
     rw [HTS.out.2.1] at tb4
     go_upto_region 9 with fail
     have hk:∀ w' w'':World,Fr noB w' w'' → (w'.cell? ⟨H,0,none⟩ = some (.pointer (some ⟨D,0,none⟩)) ∧ rdI w' P 0 = some a ∧ rdI w' (P + 1) 0 = some b ∧ w'.cell? ⟨Na,0 + 1,none⟩ = some (.int .i64 ca.Time) ∧ w'.cell? ⟨Nb,0 + 1,none⟩ = some (.int .i64 cb.Time)) → (w''.cell? ⟨H,0,none⟩ = some (.pointer (some ⟨D,0,none⟩)) ∧ rdI w'' P 0 = some a ∧ rdI w'' (P + 1) 0 = some b ∧ w''.cell? ⟨Na,0 + 1,none⟩ = some (.int .i64 ca.Time) ∧ w''.cell? ⟨Nb,0 + 1,none⟩ = some (.int .i64 cb.Time)):=fun w' w'' f h=>⟨cell_fr0 h.1 f,rdI_fr h.2.1 (rdI_lt h.2.1) f (by simp [noB]),rdI_fr h.2.2.1 (rdI_lt h.2.2.1) f (by simp [noB]),cell_fr0 h.2.2.2.1 f,cell_fr0 h.2.2.2.2 f⟩
     have fd:Fr noB w4 w4.drew:=(Fr.refl noB w4).drew
     have hF0:=hk _ _ fd ⟨q4.c0,q4.qa,q4.qb,ta4,tb4⟩
     obtain ⟨T,hT⟩:∃ T,T = max ca.Time cb.Time + 1:=⟨_,rfl⟩
     have wt:IntKind.i64.wrap (max ca.Time cb.Time + 1) = T:=by rw [IntKind.wrap_i64];have:=HTS.out;omega
     have HT:=Lib.hid hT
     clear hT
     refine wp_region_T 15 16 [⟨295147905179352825856,1,0⟩,⟨590295810358705651712,295147905179352825856,1⟩,⟨1180591620717411303424,590295810358705651712,2⟩,⟨2361183241434822606848,1180591620717411303424,4⟩,⟨4722366482869645213696,16,0⟩,⟨9444732965739290427392,32,0⟩,⟨18889465931478580854784,16528282690043758247936,56⟩,⟨37778931862957161709568,256,0⟩,⟨75557863725914323419136,37778931862957161709568,128⟩,⟨151115727451828646838272,1024,0⟩,⟨302231454903657293676544,151115727451828646838272,512⟩,⟨604462909807314587353088,377789318629571617095680,1280⟩,⟨1208925819614629174706176,604462909807314587353088,2048⟩,⟨2417851639229258349412352,1227815285546107755560960,4160⟩,⟨4096,0,0⟩,⟨0,2417851639229258349416448,32767⟩] (.take 0 (.take 1 (.take 2 (.take 3 (.take 4 (.take 5 (.take 7 (.take 8 (.take 9 (.take 10 (.take 11 (.take 12 (.two 6 14 (.take 13 (.one 14 .done)) (.one 6 (.take 13 .done))))))))))))))) (fun w'=>w'.cell? ⟨H,0,none⟩ = some (.pointer (some ⟨D,0,none⟩)) ∧ rdI w' P 0 = some a ∧ rdI w' (P + 1) 0 = some b ∧ w'.cell? ⟨Na,0 + 1,none⟩ = some (.int .i64 ca.Time) ∧ w'.cell? ⟨Nb,0 + 1,none⟩ = some (.int .i64 cb.Time)) (by kernel_rfl) rfl (by kernel_rfl) (by kernel_rfl) (by kernel_rfl) hF0 (fun hA hF=>?_)
     iterate 12
      refine wpAnyT_take (v:=?_) hA rfl (fun _ _ _ h=>h) (Or.inl ⟨by rfl,?_⟩) hF (fun hA=>?_)
      rotate_left
      ·intro wS hSw;(try dsimp only at hSw);obtain ⟨s1,s2,s3,s4,s5⟩:=hSw;first | (apply Eq.trans;apply ex_ld_id;exact rfl;exact rfl;assumption;with_reducible rfl) | (apply Eq.trans;apply ex_ldO_at;exact rfl;exact rfl;assumption;with_reducible rfl) | (apply Eq.trans;apply ex_ldS_at;exact rfl;exact rfl;assumption;with_reducible rfl) | (apply Eq.trans;apply ex_bldFR_at;exact rfl;exact rfl;exact rfl;with_reducible rfl) | (apply Eq.trans;apply ex_bldBT_at;exact rfl;exact rfl;exact rfl;with_reducible rfl) | (go_simp;try with_reducible rfl)
      try simp only [List.getElem_toArray,List.getElem_cons_zero,List.getElem_cons_succ,Act.put,List.setIfInBounds_toArray,List.set_cons_zero,List.set_cons_succ]
     apply lift_T1 (F:=fun q A n c u=>codPl.bxd u q = some zPlW ∧ w4.heap.size ≤ q ∧ ∃ l:List ID,l.length = n ∧ u.ownsRow 0 24 32 (.slice A n c) n (idc l) ∧ Rise cmpI l ∧ (∀ y,y ∈ l ↔ BaseOf (dgH L) a b y) ∧ l.length ≤ 1000000000 ∧ Fr noB w4 u)
     ·intro cont
      refine wpAnyT_two (i:=6) (j:=14) hA rfl rfl (fun K' hK=>?_) (fun K' hK=>?_)
      ·rw [if_pos (by rfl)]
       go_simp
       go_at_call 51
       refine (CB.out _ (g4.step0 fd)).mono ?_
       rintro e u1 ⟨l,⟨A1,c1,rfl,o1,f1⟩,hr,hm,hb⟩
       replace hF:=hk _ _ f1 hF
       refine hK.out _ _ hF (fun hA=>?_)
       clear hK K'
       try simp only [List.getElem_toArray,List.getElem_cons_zero,List.getElem_cons_succ,Act.put,List.setIfInBounds_toArray,List.set_cons_zero,List.set_cons_succ]
       refine wpAnyT_take (v:=?_) hA rfl (fun _ _ _ h=>h) (Or.inl ⟨by rfl,?_⟩) hF (fun hA=>?_)
       rotate_left
       ·intro wS hSw;(try dsimp only at hSw);obtain ⟨s1,s2,s3,s4,s5⟩:=hSw;first | (apply Eq.trans;apply ex_ld_id;exact rfl;exact rfl;assumption;with_reducible rfl) | (apply Eq.trans;apply ex_ldO_at;exact rfl;exact rfl;assumption;with_reducible rfl) | (apply Eq.trans;apply ex_ldS_at;exact rfl;exact rfl;assumption;with_reducible rfl) | (apply Eq.trans;apply ex_bldFR_at;exact rfl;exact rfl;exact rfl;with_reducible rfl) | (apply Eq.trans;apply ex_bldBT_at;exact rfl;exact rfl;exact rfl;with_reducible rfl) | (go_simp;try with_reducible rfl)
       try simp only [List.getElem_toArray,List.getElem_cons_zero,List.getElem_cons_succ,Act.put,List.setIfInBounds_toArray,List.set_cons_zero,List.set_cons_succ]
       refine wpAnyT_one hA rfl (fun K' hK=>?_)
       refine step_runI rfl _ _ (okPl.alOp _ _ rfl _) ?_
       have fx:Fr noB u1 (u1.alloc (codPl.o codPl.z)):=(Fr.refl noB _).alloc _
       replace hF:=hk _ _ fx hF
       refine hK.out _ _ hF (fun hA=>?_)
       clear hK K'
       try simp only [List.getElem_toArray,List.getElem_cons_zero,List.getElem_cons_succ,Act.put,List.setIfInBounds_toArray,List.set_cons_zero,List.set_cons_succ]
       have bx:codPl.bxd (u1.alloc (codPl.o codPl.z)) u1.heap.size = some zPlW:=Cod.bxd_new (C:=codPl) u1 zPlW
       have o2:=own_base (own_new0 o1 fx) (Nat.zero_le _)
       have ff:=(fd.step0 f1).step0 fx
       have hq:=(fd.step0 f1).size
       generalize u1.alloc (codPl.o codPl.z) = u2 at bx o2 ff hF ⊢
       generalize u1.heap.size = q at bx hq ⊢
       generalize en:l.length = n at o2 ⊢
       exact cont q A1 n c1 _ u2 ⟨bx,hq,l,en,o2,hr,hm,hb,ff⟩ hA
      ·rw [if_pos (by rfl)]
       refine step_runP _ _ (okPl.alOp _ _ rfl _) ?_
       have fx:Fr noB w4.drew (w4.drew.alloc (codPl.o codPl.z)):=(Fr.refl noB _).alloc _
       replace hF:=hk _ _ fx hF
       refine hK.out _ _ hF (fun hA=>?_)
       clear hK K'
       try simp only [List.getElem_toArray,List.getElem_cons_zero,List.getElem_cons_succ,Act.put,List.setIfInBounds_toArray,List.set_cons_zero,List.set_cons_succ]
       have bx:codPl.bxd (w4.drew.alloc (codPl.o codPl.z)) w4.drew.heap.size = some zPlW:=Cod.bxd_new (C:=codPl) w4.drew zPlW
       have hq:=fd.size
       have fe:=fd.step0 fx
       generalize w4.drew.alloc (codPl.o codPl.z) = u0 at bx fe hF ⊢
       generalize w4.drew.heap.size = q at bx hq ⊢
       refine wpAnyT_one hA rfl (fun K' hK=>?_)
       go_simp
       go_at_call 51
       refine (CB.out _ (g4.step0 fe)).mono ?_
       rintro e u1 ⟨l,⟨A1,c1,rfl,o1,f1⟩,hr,hm,hb⟩
       replace hF:=hk _ _ f1 hF
       refine hK.out _ _ hF (fun hA=>?_)
       clear hK K'
       try simp only [List.getElem_toArray,List.getElem_cons_zero,List.getElem_cons_succ,Act.put,List.setIfInBounds_toArray,List.set_cons_zero,List.set_cons_succ]
       refine wpAnyT_take (v:=?_) hA rfl (fun _ _ _ h=>h) (Or.inl ⟨by rfl,?_⟩) hF (fun hA=>?_)
       rotate_left
       ·intro wS hSw;(try dsimp only at hSw);obtain ⟨s1,s2,s3,s4,s5⟩:=hSw;first | (apply Eq.trans;apply ex_ld_id;exact rfl;exact rfl;assumption;with_reducible rfl) | (apply Eq.trans;apply ex_ldO_at;exact rfl;exact rfl;assumption;with_reducible rfl) | (apply Eq.trans;apply ex_ldS_at;exact rfl;exact rfl;assumption;with_reducible rfl) | (apply Eq.trans;apply ex_bldFR_at;exact rfl;exact rfl;exact rfl;with_reducible rfl) | (apply Eq.trans;apply ex_bldBT_at;exact rfl;exact rfl;exact rfl;with_reducible rfl) | (go_simp;try with_reducible rfl)
       try simp only [List.getElem_toArray,List.getElem_cons_zero,List.getElem_cons_succ,Act.put,List.setIfInBounds_toArray,List.set_cons_zero,List.set_cons_succ]
       have bx2:=Cod.bxd_fr0 bx f1
       have o2:=own_base o1 (Nat.zero_le _)
       have ff:=fe.step0 f1
       generalize en:l.length = n at o2 ⊢
       exact cont q A1 n c1 _ u1 ⟨bx2,hq,l,en,o2,hr,hm,hb,ff⟩ hA
     clear hA hF hF0 hk fd wt ta4 tb4
     rintro q A1 n1 c1 L1 u ⟨bx,hq,l,rfl,o1,hr,hm,hb,ff⟩ hA
     refine wpAnyT_end hA rfl ?_
     simp only [List.drop_succ_cons,List.drop_zero]
     have f9:=g4.step0 ff
     have q9:=q4.fr0 ff
     have hPq:P + 2 ≠ q:=by have:=Cod.bxd_lt q4.pl;omega
     have hwq:w.heap.size ≤ q:=Nat.le_trans g4.size hq
     have hst:=okPl.stR_box bx { zPlW with BA:=A1,bn:=l.length,bc:=c1,Time:=T }
     obtain ⟨p1,p2,p3⟩:=Cod.put_fr bx { zPlW with BA:=A1,bn:=l.length,bc:=c1,Time:=T }
     have o10:=own_box (Cod.bxd_blk bx) o1 (by decide) p1
     have F10:=f9.step1 p1 hwq
     have qa10:=rdI_fr q9.qa (rdI_lt q9.qa) p1 (by have:=rdI_lt q4.qa;show ¬ P = q;omega)
     have qb10:=rdI_fr q9.qb (rdI_lt q9.qb) p1 (by have:=rdI_lt q4.qb;show ¬ P + 1 = q;omega)
     have pl10:=Cod.bxd_fr q9.pl p1 hPq
     have u10:=(plAt (Cod.bxd_rd p3)).time
     have HBS:=Lib.hid (And.intro hr (And.intro hm hb))
     have HPQ:=Lib.hid (And.intro hPq hwq)
     clear ff f9 q9 g4 q4 o1 p1 p2 hr hm hb hq hPq hwq CB CRe CR HA
     go_upto_region 10 with fail
     clear hst bx
     generalize codPl.put u q { zPlW with BA:=A1,bn:=l.length,bc:=c1,Time:=T } = W10 at p3 o10 F10 qa10 qb10 pl10 u10 ⊢
     by_cases ht:1099511627776 < T
     ·have HM1:=Lib.hid (show mgE L a b = 1 by rw [HM.out,← HT.out,if_pos ht])
      have hst:=okPl.stR_box pl10 zPlW
      obtain ⟨p1,p2,p4⟩:=Cod.put_fr pl10 zPlW
      go_wp2_with fail
      refine bodyPost_ret (ret_row_tmp okPl rfl _ _ (P + 2) _ (by rfl) p4) rfl ?_
      refine ⟨zPlW,by rw [HM1.out];rfl,F10.step1 p1 (by have:=HP.out;omega),fun _=>rfl,fun h=>by rw [HM1.out] at h;cases h⟩
     ·have HM0:=Lib.hid (show mgE L a b = 0 by rw [HM.out,← HT.out,if_neg ht])
      go_upto_region 13 with (go_at_call 17;refine (CO.out _ (F10.step0 ((Fr.refl noB _).alloc _)) _ _ 2 [a,b] rfl (sl_new W10 [a,b]) (by simp)).mono ?_;rintro e w12 ⟨Aa,cAa,rsa2,all,rfl,pa,bla,sa,aa,f12⟩)
      have ff:=((Fr.refl noB W10).alloc (rowo [a,b])).step0 f12
      have F12:=F10.step0 ff
      have p12:=Cod.bxd_fr0 p3 ff
      have o12:=own_new0 o10 ff
      have pl12:=Cod.bxd_fr0 pl10 ff
      clear f12 F10 ff p3 o10 pl10 qa10 qb10 u10
      have u32:=(plAt (Cod.bxd_rd p12)).base
      have CO2:=Lib.hid (CO.out _ F12 A1 c1 _ l rfl (Sl.own o12) HBS.out.2.2)
      have HSA:=Lib.hid sa
      have HAA:=Lib.hid aa
      have HPA:=Lib.hid pa
      have HBL:=Lib.hid bla
      clear CO sa aa pa bla
      go_upto_region 14 with (first
       | (go_at_call 17;refine CO2.out.mono ?_;rintro e w13 ⟨Ab,cAb,rsb2,bo,rfl,pb,blb,sb,ab,f13⟩;have CF:=Lib.hid (mgFast_any w13 Ab Aa cAb cAa _ _ rsb2 rsa2 bo all rfl rfl sb (HSA.out.fr0 f13) ⟨ab.1,fun i h h'=>(ab.2 i h h').op.inn⟩ ⟨HAA.out.1,fun i h h'=>(HAA.out.2 i h h').op.inn.fr f13⟩ pb.srt HPA.out.srt (pb.sub HPA.out (fun x hx=>reached_two.2 (.inl ((base_reached HK.out.ok HBS.out.2.1 x).1 hx).1))) (HPA.out.good HK.out) HBL.out blb))
       | (go_at_call 52;refine CF.out.mono ?_;rintro e w14 hf14;obtain ⟨Af,nf,cf,rfl,f14,hrw⟩:=hf14.u;have p14:=Cod.bxd_fr0 p12 (f13.step0 f14);have u14:=(plAt (Cod.bxd_rd p14)).rows;have z14:=(Cod.bxd_blk p14).frozen 33;have p15:=Cod.bxd_set p14 33 (.slice Af nf cf) _ (sePl_Rows _ _ _ _);have u15:=(plAt (Cod.bxd_rd p15)).safe;have z15:=(Cod.bxd_blk p15).frozen 34))
      obtain ⟨sv,hsv⟩:∃ sv,sv = safeO bo all:=⟨_,rfl⟩
      rw [← hsv] at hrw ⊢
      have g15:=Cod.set_fr w14 q 33 (.slice Af nf cf)
      have p16:codPl.bxd ((w14.setCell ⟨q,33,none⟩ (.slice Af nf cf)).setCell ⟨q,34,none⟩ (.bool sv)) q = some ⟨zID,A1,l.length,c1,Af,nf,cf,sv,T⟩:=Cod.bxd_set p15 34 (.bool sv) _ (sePl_Safe _ _)
      have g16:=Cod.set_fr (w14.setCell ⟨q,33,none⟩ (.slice Af nf cf)) q 34 (.bool sv)
      have f34:=f13.step0 f14
      have F16:=((F12.step0 f34).step1 g15 HPQ.out.2).step1 g16 HPQ.out.2
      have o16:=own_box (Cod.bxd_blk p15) (own_box (Cod.bxd_blk p14) (own_new0 o12 f34) (by decide) g15) (by decide) g16
      have pl16:=Cod.bxd_fr (Cod.bxd_fr (Cod.bxd_fr0 pl12 f34) g15 HPQ.out.1) g16 HPQ.out.1
      have sa16:=sl_pl (sl_pl (HSA.out.fr0 f34) p14 g15) p15 g16
      have n14:NoHS (oneB q) w14:=NoHS.blk (Cod.bxd_blk p14) (by decide) (by decide)
      have n15:NoHS (oneB q) (w14.setCell ⟨q,33,none⟩ (.slice Af nf cf)):=NoHS.blk (Cod.bxd_blk p15) (by decide) (by decide)
      have aa16:AllO OpIn ((w14.setCell ⟨q,33,none⟩ (.slice Af nf cf)).setCell ⟨q,34,none⟩ (.bool sv)) rsa2 all:=⟨HAA.out.1,fun i h h'=>((((HAA.out.2 i h h').op.fr f34 (NoHS.nob _)).fr g15 n14).fr g16 n15).inn⟩
      have hr16:sv = true → RowsW ((w14.setCell ⟨q,33,none⟩ (.slice Af nf cf)).setCell ⟨q,34,none⟩ (.bool sv)) Af nf cf all:=fun h=>((hrw h).pl p14 g15).pl p15 g16
      have us:=(plAt (Cod.bxd_rd p16)).safe
      have HPL:=Lib.hid (show PlanP L a b zID l all sv T from ⟨fun h=>(by rw [HAB.out] at h;cases h),fun _ h=>(by rw [HBA.out] at h;cases h),fun _ _=>⟨rfl,HBS.out.2.1,HBS.out.1,HPA.out,⟨bo,pb,hsv⟩,fun x y hx hy=>by
       rw [HTS.out.1.2.2.2] at hx
       rw [HTS.out.2.2.2.2] at hy
       injection hx with hx
       injection hy with hy
       rw [← hx,← hy]
       exact HT.out⟩⟩)
      clear g15 g16 f13 f14 f34 p14 p15 u14 z14 u15 z15 n14 n15 hrw hsv pb blb sb ab CF CO2 u32 HSA HAA F12 o12 pl12 p12
      simp only at us
      generalize (w14.setCell ⟨q,33,none⟩ (.slice Af nf cf)).setCell ⟨q,34,none⟩ (.bool sv) = W16 at p16 F16 o16 pl16 sa16 aa16 hr16 us ⊢
      cases sv with
      | true =>
       have ld:=Cod.bxd_rd p16
       have hst:=okPl.stR_box pl16 ⟨zID,A1,l.length,c1,Af,nf,cf,true,T⟩
       obtain ⟨p1,p2,p3⟩:=Cod.put_fr pl16 ⟨zID,A1,l.length,c1,Af,nf,cf,true,T⟩
       go_wp2_with fail
       refine bodyPost_ret (ret_row_tmp okPl rfl _ _ (P + 2) _ (by rfl) p3) rfl ?_
       exact ⟨_,by rw [HM0.out];rfl,F16.step1 p1 (by have:=HP.out;omega),fun h=>absurd HM0.out h,fun _=>⟨l,all,HPL.out,rfl,Sl.own (own_box (Cod.bxd_blk pl16) o16 (by decide) p1),HBS.out.2.2,HBL.out,((hr16 (by trivial)).pl pl16 p1).s⟩⟩
      | false =>
       have CT:=Lib.hid (mgTree_any W16 Aa cAa _ rsa2 all rfl sa16 aa16 (HPA.out.good HK.out) HPA.out.srt (by have:=HBL.out;omega))
       clear hr16 sa16 aa16
       go_upto_region 16 with (first
        | (go_at_call 48;refine CT.out.mono ?_;rintro e w17 ⟨b2,t2,rfl,g17,f17⟩)
        | (go_at_call 49;refine (gvRows_any g17 (by have:=HBL.out;omega)).mono ?_;rintro e w18 hr18;obtain ⟨A18,n18,c18,rfl,r18,f18⟩:=hr18.u;have p18:=Cod.bxd_fr0 p16 (f17.step0 f18);have u18:=(plAt (Cod.bxd_rd p18)).rows;have z18:=(Cod.bxd_blk p18).frozen 33))
       have g19:=Cod.set_fr w18 q 33 (.slice A18 n18 c18)
       have p19:codPl.bxd (w18.setCell ⟨q,33,none⟩ (.slice A18 n18 c18)) q = some ⟨zID,A1,l.length,c1,A18,n18,c18,false,T⟩:=Cod.bxd_set p18 33 (.slice A18 n18 c18) _ (sePl_Rows _ _ _ _)
       have r19:=r18.pl p18 g19
       have f78:=f17.step0 f18
       have F19:=(F16.step0 f78).step1 g19 HPQ.out.2
       have o19:=own_box (Cod.bxd_blk p18) (own_new0 o16 f78) (by decide) g19
       have pl19:=Cod.bxd_fr (Cod.bxd_fr0 pl16 f78) g19 HPQ.out.1
       clear g19 p18 u18 z18 r18 f17 f18 f78 g17 CT p16 F16 o16 pl16 us
       generalize w18.setCell ⟨q,33,none⟩ (.slice A18 n18 c18) = W19 at p19 r19 F19 o19 pl19 ⊢
       have ld:=Cod.bxd_rd p19
       have hst:=okPl.stR_box pl19 ⟨zID,A1,l.length,c1,A18,n18,c18,false,T⟩
       obtain ⟨p1,p2,p3⟩:=Cod.put_fr pl19 ⟨zID,A1,l.length,c1,A18,n18,c18,false,T⟩
       go_wp2_with fail
       refine bodyPost_ret (ret_row_tmp okPl rfl _ _ (P + 2) _ (by rfl) p3) rfl ?_
       exact ⟨_,by rw [HM0.out];rfl,F19.step1 p1 (by have:=HP.out;omega),fun h=>absurd HM0.out h,fun _=>⟨l,all,HPL.out,rfl,Sl.own (own_box (Cod.bxd_blk pl19) o19 (by decide) p1),HBS.out.2.2,HBL.out,(r19.pl pl19 p1).s⟩⟩
end Go.Proofs.YtjpieiccpbcabaaGreat
namespace Go.Proofs.YtjpieiccpbcabaaGreat
open Go.RowKit Go.Maps Go.Sort
set_option linter.unusedVariables false
set_option linter.unusedSimpArgs false
attribute [local go_sem] Oper.semAt_some

theorem bldO_p4 (w:World) (k:Int) (a s:St) (m:List UInt8):(Instr.build 83 #[(0,.int .i64 k),(1,.agg (codS.A a)),(2,.agg (codS.A s)),(4,.string (str m))]).run Tryz.prog w = .ok (.agg (codO.A { zOpW with Kind:=k,At:=a,Node:=s,Name:=m })) w:=by
 have h1:∀ place:Nat → Option (Nat × Nat),place 0 = some (0,1) → place 1 = some (1,2) → place 2 = some (3,2) → place 4 = some (7,1) → Instr.fill place ([] ++ [Value.int .i64 0] ++ ([Value.int .i64 0,Value.int .i64 0,Value.int .i64 0,Value.int .i64 0,Value.int .i64 0,Value.int .i64 0,Value.string (str [])] ++ bv zID.1 ++ [Value.slice none 0 0])).toArray [(0,.int .i64 k),(1,.agg (codS.A a)),(2,.agg (codS.A s)),(4,.string (str m))] = some (codO.cs { zOpW with Kind:=k,At:=a,Node:=s,Name:=m }).toArray:=by
  intro place p0 p1 p2 p4
  refine (fill_one place [] [.int .i64 0] ([Value.int .i64 0,Value.int .i64 0,Value.int .i64 0,Value.int .i64 0,Value.int .i64 0,Value.int .i64 0,Value.string (str [])] ++ bv zID.1 ++ [Value.slice none 0 0]) [.int .i64 k] 0 (.int .i64 k) _ rfl (by simpa using p0) rfl).trans ?_
  have e0:=fill_one place [.int .i64 k] [.int .i64 0,.int .i64 0] ([.int .i64 0,.int .i64 0,.int .i64 0,.int .i64 0,Value.string (str [])] ++ bv zID.1 ++ [Value.slice none 0 0]) [.int .i64 a.T,.int .i64 a.R] 1 (.agg (codS.A a)) [(2,.agg (codS.A s)),(4,.string (str m))] (by rw [A_SS];rfl) (by simpa using p1) rfl
  refine Eq.trans ?_ (e0.trans ?_)
  ·simp
  have e1:=fill_one place [.int .i64 k,.int .i64 a.T,.int .i64 a.R] [.int .i64 0,.int .i64 0] ([.int .i64 0,.int .i64 0,Value.string (str [])] ++ bv zID.1 ++ [Value.slice none 0 0]) [.int .i64 s.T,.int .i64 s.R] 2 (.agg (codS.A s)) [(4,.string (str m))] (by rw [A_SS];rfl) (by simpa using p2) rfl
  refine Eq.trans ?_ (e1.trans ?_)
  ·simp
  have e3:=fill_one place [.int .i64 k,.int .i64 a.T,.int .i64 a.R,.int .i64 s.T,.int .i64 s.R,.int .i64 0,.int .i64 0] [Value.string (str [])] (bv zID.1 ++ [Value.slice none 0 0]) [.string (str m)] 4 (.string (str m)) [] rfl (by simpa using p4) rfl
  refine Eq.trans ?_ (e3.trans ?_)
  ·simp
  ·simp [Instr.fill,codO,csO,zOpW,zSt]
 have hz:(zeroValue 83).run Tryz.prog w = .ok (.agg (codO.cs codO.z).toArray) w:=okO.zero w
 simp only [Instr.build,Sem.run_bind,hz,Result.andThen_ok,run_underlying Tryz.underlying83,zO_form]
 simp only [List.mapM_toArray,List.mapM_cons,List.mapM_nil,Sem.run_bind,Tryz.sizeOf3,Tryz.sizeOf24,Tryz.sizeOf81,Tryz.sizeOf9,Tryz.sizeOf80,Result.andThen_ok,Sem.run_pure,Sem.run_map,map_pure,bind_pure_comp]
 rw [h1 _ rfl rfl rfl rfl]
 simp [Cod.A_eq]
@[simp ↓] theorem ex_bldOp4 (ρ:Operand → Value) (x0 x1 x2 x4:Operand) (d:Option Nat) (t:TypeId) (p:String) (f:Array Edge) (g:Option (Nat × Bool)) (w:World) :
  (execOp ρ { dst:=d,op:=.build 83 #[(0,x0),(1,x1),(2,x2),(4,x4)],type:=t,pos:=p,after:=f,guard:=g }).run Tryz.prog w = mkB 83 w [(0,ρ x0),(1,ρ x1),(2,ρ x2),(4,ρ x4)]:=(exB ρ _ _ _ rfl w).trans (by simp only [List.map_toArray,List.map_cons,List.map_nil])
@[simp] theorem mkB_Op4 (w:World) (k:Int) (a s:St) (m:List UInt8):mkB 83 w [(0,.int .i64 k),(1,.agg (codS.A a)),(2,.agg (codS.A s)),(4,.string (str m))] = .ok (.value (.agg (codO.A { zOpW with Kind:=k,At:=a,Node:=s,Name:=m }))) w:=mkB_ok (bldO_p4 w k a s m)
@[simp] theorem mkB_Op4a (w:World) (k:Int) (a s:St):mkB 83 w [(0,.int .i64 k),(1,.agg (codS.A a)),(2,.agg (codS.A s)),(4,.string { data:=#[97] })] = .ok (.value (.agg (codO.A { zOpW with Kind:=k,At:=a,Node:=s,Name:=[97] }))) w:=mkB_Op4 w k a s [97]
theorem bldC_p5 (w:World) (A:Option Addr) (n c:Nat) (t r:Int) (x:ID) (B:Option Addr) (m d:Nat):(Instr.build 35 #[(0,.slice A n c),(1,.int .i64 t),(2,.int .i64 r),(4,encI x),(3,.slice B m d)]).run Tryz.prog w = .ok (.agg (codC.A ⟨A,n,c,t,r,B,m,d,x,[]⟩)) w:=by
 have h1:∀ place:Nat → Option (Nat × Nat),place 0 = some (0,1) → place 1 = some (1,1) → place 2 = some (2,1) → place 4 = some (4,32) → place 3 = some (3,1) → Instr.fill place ([] ++ [Value.slice none 0 0] ++ ([Value.int .i64 0,Value.int .i64 0,Value.slice none 0 0] ++ bv zID.1 ++ [Value.string (str [])])).toArray [(0,.slice A n c),(1,.int .i64 t),(2,.int .i64 r),(4,encI x),(3,.slice B m d)] = some (codC.cs ⟨A,n,c,t,r,B,m,d,x,[]⟩).toArray:=by
  intro place p0 p1 p2 p4 p3
  refine (fill_one place [] [.slice none 0 0] ([Value.int .i64 0,Value.int .i64 0,Value.slice none 0 0] ++ bv zID.1 ++ [Value.string (str [])]) [.slice A n c] 0 (.slice A n c) _ rfl (by simpa using p0) rfl).trans ?_
  have e1:=fill_one place [.slice A n c] [.int .i64 0] ([.int .i64 0,.slice none 0 0] ++ bv zID.1 ++ [.string (str [])]) [.int .i64 t] 1 (.int .i64 t) [(2,.int .i64 r),(4,encI x),(3,.slice B m d)] rfl (by simpa using p1) rfl
  refine Eq.trans ?_ (e1.trans ?_)
  ·simp
  have e2:=fill_one place [.slice A n c,.int .i64 t] [.int .i64 0] ([.slice none 0 0] ++ bv zID.1 ++ [.string (str [])]) [.int .i64 r] 2 (.int .i64 r) [(4,encI x),(3,.slice B m d)] rfl (by simpa using p2) rfl
  refine Eq.trans ?_ (e2.trans ?_)
  ·simp
  have e4:=fill_one place [.slice A n c,.int .i64 t,.int .i64 r,.slice none 0 0] (bv zID.1) [.string (str [])] (bv x.1) 4 (encI x) [(3,.slice B m d)] (cellsI x) (by simpa [x.2] using p4) (by simp [x.2,zID])
  refine Eq.trans ?_ (e4.trans ?_)
  ·simp
  have e3:=fill_one place [.slice A n c,.int .i64 t,.int .i64 r] [.slice none 0 0] (bv x.1 ++ [.string (str [])]) [.slice B m d] 3 (.slice B m d) [] rfl (by simpa using p3) rfl
  refine Eq.trans ?_ (e3.trans ?_)
  ·simp
  ·simp [Instr.fill,codC,csC]
 have hz:(zeroValue 35).run Tryz.prog w = .ok (.agg (codC.cs codC.z).toArray) w:=okC.zero w
 have hc:(Value.agg (codC.cs codC.z).toArray).cells = ([] ++ [Value.slice none 0 0] ++ ([Value.int .i64 0,Value.int .i64 0,Value.slice none 0 0] ++ bv zID.1 ++ [Value.string (str [])])).toArray:=rfl
 have hsI:∀ w,(sizeOf 24).run Tryz.prog w = .ok 32 w:=fun w=>Tryz.sizeOf24 w
 simp only [Instr.build,Sem.run_bind,hz,Result.andThen_ok,run_underlying Tryz.underlying35,hc]
 simp only [List.mapM_toArray,List.mapM_cons,List.mapM_nil,Sem.run_bind,hsI,Tryz.sizeOf9,Tryz.sizeOf32,Tryz.sizeOf33,Tryz.sizeOf2,Tryz.sizeOf3,Result.andThen_ok,Sem.run_pure,Sem.run_map,map_pure,bind_pure_comp]
 rw [h1 _ rfl rfl rfl rfl rfl]
 simp [Cod.A_eq]
@[simp ↓] theorem ex_bldCp5 (ρ:Operand → Value) (x0 x1 x2 x4 x3:Operand) (d:Option Nat) (t:TypeId) (p:String) (f:Array Edge) (g:Option (Nat × Bool)) (w:World) :
  (execOp ρ { dst:=d,op:=.build 35 #[(0,x0),(1,x1),(2,x2),(4,x4),(3,x3)],type:=t,pos:=p,after:=f,guard:=g }).run Tryz.prog w = mkB 35 w [(0,ρ x0),(1,ρ x1),(2,ρ x2),(4,ρ x4),(3,ρ x3)]:=(exB ρ _ _ _ rfl w).trans (by simp only [List.map_toArray,List.map_cons,List.map_nil])
@[simp] theorem mkB_Cp5 (w:World) (A:Option Addr) (n c:Nat) (t r:Int) (x:ID) (B:Option Addr) (m d:Nat):mkB 35 w [(0,.slice A n c),(1,.int .i64 t),(2,.int .i64 r),(4,encI x),(3,.slice B m d)] = .ok (.value (.agg (codC.A ⟨A,n,c,t,r,B,m,d,x,[]⟩))) w:=mkB_ok (bldC_p5 w A n c t r x B m d)
def ptW (t r:Int):OpW:={ zOpW with Kind:=1,At:=⟨t,r⟩,Node:=⟨t,r⟩,Name:=[97] }
def ptO (t r:Int):Opn:=⟨1,⟨t,r⟩,⟨t,r⟩,zSt,[97],zID,[]⟩
def ptC (ps:List ID) (t r:Int):Chg:=⟨ps,t,r,[ptO t r],id2 1 0,[]⟩
theorem pt_in (w:World) (t r:Int):OpIn w (ptW t r) (ptO t r):=⟨rfl,rfl,Sl.nil _ _,by simp [ptO],by simp [ptW]⟩
def PutTo15 (w:World) (A:Option Addr) (n c:Nat) (t r:Int) (e:Ending) (w':World):Prop :=
 ∃ g,e = .returned (.agg (codC.A ⟨A,n,c,t,r,some ⟨g,0,none⟩,1,1,id2 1 0,[]⟩)) ∧ w.heap.size ≤ g ∧ g < w'.heap.size ∧ Sl w' (some ⟨g,0,none⟩) (codO.row [ptW t r]) ∧ Fr noB w w'
theorem PutTo15.q {w':World} {A:Option Addr} {n c g:Nat} {t r:Int} {ps:List ID} {Q:Nat → Prop} (hs:Sl w' (some ⟨g,0,none⟩) (codO.row [ptW t r])) (hg:Q g) (hn:ps.length = n) (hp:Sl w' A (idc ps)) (hb:ps.length ≤ 1000000000) (hq:ps ≠ [] → InQ Q A) :
  CgQ Q w' ⟨A,n,c,t,r,some ⟨g,0,none⟩,1,1,id2 1 0,[]⟩ [ptW t r] (ptC ps t r) :=
 ⟨⟨rfl,rfl,rfl,rfl,hn,hp,rfl,hs,⟨rfl,fun i h h'=>by
  have:i = 0:=by simpa using h
  subst this
  exact pt_in w' t r⟩,by show ps.length ≤ _;omega,by simp,by simp⟩,hq,fun _ g' hg'=>by
  injection hg' with hg'
  subst hg'
  exact hg,fun i h h'=>by
  have:i = 0:=by simpa using h
  subst this
  exact ⟨pt_in w' t r,fun h=>absurd rfl h⟩⟩
set_option maxRecDepth 100000 in
set_option maxHeartbeats 4000000 in
theorem l15put_any (w:World) (A:Option Addr) (n c:Nat) (t r:Int):Calls Tryz.prog 31 #[.int .i64 t,.int .i64 r,.slice A n c] w (PutTo15 w A n c t r):=by
 have f0:Fr noB w (w.alloc (codC.o zCgW)):=(Fr.refl noB w).alloc _
 have b0:=Cod.bxd_new (C:=codC) w zCgW
 go_enter Tryz.func31,Tryz.ntmps31
 go_upto_region 1 with fail
 generalize w.alloc (codC.o zCgW) = W0 at f0 b0 ⊢
 obtain ⟨R,hR⟩:∃ R,R = w.heap.size:=⟨_,rfl⟩
 rw [← hR] at b0 ⊢
 have HR:=Lib.hid hR
 clear hR
 go_upto_region 2 with fail
 have f1:Fr noB W0 (W0.alloc (codS.o ⟨t,r⟩)):=(Fr.refl noB W0).alloc _
 have q1:=Cod.rd_new' (C:=codS) W0 ⟨t,r⟩
 have b1:=Cod.bxd_fr0 b0 f1
 have F1:=f0.step0 f1
 clear f0 f1 b0
 generalize W0.alloc (codS.o ⟨t,r⟩) = W1 at q1 b1 F1 ⊢
 generalize W0.heap.size = P at q1 ⊢
 have f2:Fr noB W1 (W1.alloc (codO.ro [ptW t r])):=(Fr.refl noB W1).alloc _
 have s2:Sl (W1.alloc (codO.ro [ptW t r])) (some ⟨W1.heap.size,0,none⟩) (codO.row [ptW t r]):=Cod.sl_new (C:=codO) W1 [ptW t r]
 have b2:=Cod.bxd_fr0 b1 f2
 have hst:=okC.stR_box b2 ⟨A,n,c,t,r,some ⟨W1.heap.size,0,none⟩,1,1,id2 1 0,[]⟩
 obtain ⟨p1,p2,p3⟩:=Cod.put_fr b2 ⟨A,n,c,t,r,some ⟨W1.heap.size,0,none⟩,1,1,id2 1 0,[]⟩
 have F2:=F1.step0 f2
 have hz:(W1.alloc (codO.ro [ptW t r])).heap.size = W1.heap.size + 1:=by simp
 have HS:=Lib.hid (And.intro hz (And.intro (Cod.bxd_lt b1) F1.size))
 have HPP:=Lib.hid (And.intro p1 (And.intro p2 p3))
 clear p1 p2 p3 hz b1 f2 F1
 have hmv:{ zOpW with Kind:=1,At:=⟨t,r⟩,Node:=⟨t,r⟩,Name:=[97] } = ptW t r:=rfl
 go_wp2_with fail
 obtain ⟨p1,p2,p3⟩:=HPP.out
 refine bodyPost_ret (ret_row okC rfl _ _ R _ (by rfl) p3) rfl ?_
 obtain ⟨hz,hb,hs⟩:=HS.out
 refine ⟨_,rfl,hs,by rw [p2,hz];omega,s2.fr p1 (fun a ha h=>?_),F2.step1 p1 (by rw [HR.out];exact Nat.le_refl _)⟩
 injection ha with ha
 subst ha
 have h':W1.heap.size = R:=h
 omega
end Go.Proofs.YtjpieiccpbcabaaGreat
namespace Go.Proofs.YtjpieiccpbcabaaGreat
open Go.RowKit
set_option linter.unusedVariables false
set_option linter.unusedSimpArgs false

theorem addH_new {L:Hst} {x:ID} {c:Chg} (h1:hasG (dgH L) x = false) (h2:x ≠ zID) (h3:rightCh c = true) (h4:timeOk L c = true) (h5:∀ p ∈ c.Parents,hasG (dgH L) p = true) (h6:∀ o ∈ c.Ops,∀ p ∈ opsH L,p.At ≠ o.At):addH L x c = (0,(x,c) :: L):=by
 unfold addH
 have e2:decide (x = zID) = false:=by simpa using h2
 have e5:(c.Parents.any fun p=>!hasG (dgH L) p) = false:=by
  rw [List.any_eq_false]
  intro p hp
  simp [h5 p hp]
 have e6:clashO (opsH L) c.Ops = false:=by
  unfold clashO
  rw [List.any_eq_false]
  intro o ho
  rw [findO_none.2 (h6 o ho)]
  simp
 rw [h1,e2,h3,h4,e5,e6]
 rfl
theorem NdH.add {L:Hst} (h:NdH L) {x:ID} {c:Chg} (h3:rightCh c = true) (h6:∀ o ∈ c.Ops,∀ p ∈ opsH L,p.At ≠ o.At):NdH ((x,c) :: L):=by
 show ((c.Ops ++ opsH L).map (·.At)).Nodup
 rw [List.map_append]
 refine List.nodup_append.2 ⟨srt_nd (rightCh_parts h3).2.2.2.2.1,h,?_⟩
 intro a ha b hb e
 obtain ⟨o,ho,rfl⟩:=List.mem_map.1 ha
 obtain ⟨p,hp,rfl⟩:=List.mem_map.1 hb
 exact h6 o ho p hp e.symm
theorem NdH.nil:NdH []:=List.nodup_nil
theorem Hs.lt {w:World} {H:Nat} {S:Nat → Prop} {L:Hst} (h:Hs w H S L) {b:Nat} (hb:S b):b < w.heap.size:=by
 obtain ⟨_,_,_,_,_,_,_,_,_,h3⟩:=h
 exact h3 b hb
/-! the document's example -/
def eA:ID:=id2 1 0
def eB:ID:=id2 2 0
def eC:ID:=id2 3 0
def L15a:Hst:=[(eA,ptC [] 1 1)]
def L15b:Hst:=(eB,ptC [eA] 2 1) :: L15a
def L15c:Hst:=(eC,ptC [eA] 2 2) :: L15b
theorem ad15a:addH [] eA (ptC [] 1 1) = (0,L15a):=addH_new rfl (by decide) (by decide +kernel) rfl (by simp [ptC]) (by simp [ptC,opsH])
theorem ad15b:addH L15a eB (ptC [eA] 2 1) = (0,L15b):=addH_new (by decide +kernel) (by decide) (by decide +kernel) (by decide +kernel) (by decide +kernel) (by decide +kernel)
theorem ad15c:addH L15b eC (ptC [eA] 2 2) = (0,L15c):=addH_new (by decide +kernel) (by decide) (by decide +kernel) (by decide +kernel) (by decide +kernel) (by decide +kernel)
theorem nd15:NdH L15c:=by
 unfold NdH
 decide +kernel
theorem okg15:okG (dgH L15c):=by
 have h:=okG_add (okG_add (okG_add (show okG [] from trivial) eA []) eB [eA]) eC [eA]
 have e:(addG (addG (addG [] eA []).2 eB [eA]).2 eC [eA]).2 = dgH L15c:=by decide +kernel
 rw [e] at h
 exact h
theorem anc15_in {x z:ID} (h:ancG (dgH L15c) x z = true):z ∈ [eA,eB,eC]:=by
 have h2:=(anc_has okg15 h).2
 rw [hasG_mem] at h2
 have e:(dgH L15c).map (·.1) = [eC,eB,eA]:=rfl
 rw [e] at h2
 simp only [List.mem_cons,List.not_mem_nil,or_false] at h2 ⊢
 rcases h2 with h | h | h <;> simp [h]
theorem base15:∀ z,BaseOf (dgH L15c) eB eC z ↔ z = eA:=by
 intro z
 constructor
 ·rintro ⟨⟨h1,h2⟩,_⟩
  have hz:=anc15_in h1
  simp only [List.mem_cons,List.not_mem_nil,or_false] at hz
  rcases hz with rfl | rfl | rfl
  ·rfl
  ·exact absurd h2 (by decide +kernel)
  ·exact absurd h1 (by decide +kernel)
 ·rintro rfl
  refine ⟨⟨by decide +kernel,by decide +kernel⟩,?_⟩
  rintro ⟨d,ps,⟨h1,h2⟩,h3,h4⟩
  have hz:=anc15_in h1
  simp only [List.mem_cons,List.not_mem_nil,or_false] at hz
  rcases hz with rfl | rfl | rfl
  ·have e:parents (dgH L15c) eA = some []:=by decide +kernel
   rw [e] at h3
   injection h3 with h3
   subst h3
   cases h4
  ·exact absurd h2 (by decide +kernel)
  ·exact absurd h1 (by decide +kernel)
theorem ops15 {ids:List ID} {l m:List Opn} (h:OpsP L15c ids l) (hm:SrtL m) (h1:∀ o ∈ m,∃ x c,findC L15c x = some c ∧ (ids.any fun i=>ancG (dgH L15c) i x) = true ∧ o ∈ c.Ops)
  (h2:∀ x ∈ [eA,eB,eC],(ids.any fun i=>ancG (dgH L15c) i x) = true → ∀ o ∈ ((findC L15c x).getD zChg).Ops,o ∈ m):l = m:=by
 refine srt_ext h.srt hm fun o=>?_
 rw [h.mem]
 constructor
 ·rintro ⟨x,c,hf,⟨i,hi,ha⟩,ho⟩
  refine h2 x (anc15_in ha) (List.any_eq_true.2 ⟨i,hi,ha⟩) o ?_
  rw [hf]
  exact ho
 ·intro ho
  obtain ⟨x,c,hf,ha,hc⟩:=h1 o ho
  obtain ⟨i,hi,ha⟩:=List.any_eq_true.1 ha
  exact ⟨x,c,hf,⟨i,hi,ha⟩,hc⟩
theorem sub15 {ids:List ID} {m:List Opn} (hA:(ids.any fun i=>ancG (dgH L15c) i eA) = true → ptO 1 1 ∈ m) (hB:(ids.any fun i=>ancG (dgH L15c) i eB) = true → ptO 2 1 ∈ m) (hC:(ids.any fun i=>ancG (dgH L15c) i eC) = true → ptO 2 2 ∈ m) :
  ∀ x ∈ [eA,eB,eC],(ids.any fun i=>ancG (dgH L15c) i x) = true → ∀ o ∈ ((findC L15c x).getD zChg).Ops,o ∈ m:=by
 intro x hx ha o ho
 simp only [List.mem_cons,List.not_mem_nil,or_false] at hx
 rcases hx with rfl | rfl | rfl
 ·have e:((findC L15c eA).getD zChg).Ops = [ptO 1 1]:=rfl
  rw [e,List.mem_singleton] at ho
  rw [ho];exact hA ha
 ·have e:((findC L15c eB).getD zChg).Ops = [ptO 2 1]:=rfl
  rw [e,List.mem_singleton] at ho
  rw [ho];exact hB ha
 ·have e:((findC L15c eC).getD zChg).Ops = [ptO 2 2]:=rfl
  rw [e,List.mem_singleton] at ho
  rw [ho];exact hC ha
theorem rise_one {l:List ID} {a:ID} (h:Rise cmpI l) (hm:∀ z,z ∈ l ↔ z = a):l = [a]:=by
 cases l with
 | nil=>exact absurd ((hm a).2 rfl) (by simp)
 | cons x t =>
  have hx:x = a:=(hm x).1 (by simp)
  cases t with
  | nil=>rw [hx]
  | cons y t =>
   have hy:y = a:=(hm y).1 (by simp)
   have h1:=(List.pairwise_cons.1 h).1 y (by simp)
   rw [hx,hy,cmpD_self] at h1
   omega
theorem opsA {l:List Opn} (h:OpsP L15c [eA] l):l = [ptO 1 1]:=ops15 h (by unfold SrtL;decide +kernel) (fun o ho=>⟨eA,_,rfl,by decide +kernel,ho⟩) (sub15 (fun _=>by simp) (fun h=>absurd h (by decide +kernel)) (fun h=>absurd h (by decide +kernel)))
theorem opsB {l:List Opn} (h:OpsP L15c [eB] l):l = [ptO 1 1,ptO 2 1]:=ops15 h (by unfold SrtL;decide +kernel) (fun o ho=>by
 simp only [List.mem_cons,List.not_mem_nil,or_false] at ho
 rcases ho with rfl | rfl
 ·exact ⟨eA,_,rfl,by decide +kernel,by simp [ptC]⟩
 ·exact ⟨eB,_,rfl,by decide +kernel,by simp [ptC]⟩) (sub15 (fun _=>by simp) (fun _=>by simp) (fun h=>absurd h (by decide +kernel)))
theorem opsC {l:List Opn} (h:OpsP L15c [eC] l):l = [ptO 1 1,ptO 2 2]:=ops15 h (by unfold SrtL;decide +kernel) (fun o ho=>by
 simp only [List.mem_cons,List.not_mem_nil,or_false] at ho
 rcases ho with rfl | rfl
 ·exact ⟨eA,_,rfl,by decide +kernel,by simp [ptC]⟩
 ·exact ⟨eC,_,rfl,by decide +kernel,by simp [ptC]⟩) (sub15 (fun _=>by simp) (fun h=>absurd h (by decide +kernel)) (fun _=>by simp))
theorem opsBC {l:List Opn} (h:OpsP L15c [eB,eC] l):l = [ptO 1 1,ptO 2 1,ptO 2 2]:=ops15 h (by unfold SrtL;decide +kernel) (fun o ho=>by
 simp only [List.mem_cons,List.not_mem_nil,or_false] at ho
 rcases ho with rfl | rfl | rfl
 ·exact ⟨eA,_,rfl,by decide +kernel,by simp [ptC]⟩
 ·exact ⟨eB,_,rfl,by decide +kernel,by simp [ptC]⟩
 ·exact ⟨eC,_,rfl,by decide +kernel,by simp [ptC]⟩) (sub15 (fun _=>by simp) (fun _=>by simp) (fun _=>by simp))
theorem mg15:mgE L15c eB eC = 0:=by decide +kernel
theorem mg15':mgE L15c eB eA = 0:=by decide +kernel
theorem plan15 {fw:ID} {base:List ID} {ops:List Opn} {safe:Bool} {time:Int} (h:PlanP L15c eB eC fw base ops safe time):fw = zID ∧ base = [eA] ∧ ops = [ptO 1 1,ptO 2 1,ptO 2 2] ∧ safe = true ∧ time = 3:=by
 obtain ⟨h1,h2,h3,h4,⟨bo,h5,h6⟩,h7⟩:=h.mg (by decide +kernel) (by decide +kernel)
 have hb:base = [eA]:=rise_one h3 (fun z=>(h2 z).trans (base15 z))
 subst hb
 have e1:=opsA h5
 have e2:=opsBC h4
 subst e1 e2
 exact ⟨h1,rfl,rfl,by rw [h6];decide +kernel,h7 _ _ rfl rfl⟩
theorem plan15' {fw:ID} {base:List ID} {ops:List Opn} {safe:Bool} {time:Int} (h:PlanP L15c eB eA fw base ops safe time):fw = eB ∧ ops = [ptO 1 1,ptO 2 1]:=by
 obtain ⟨h1,h2,h3,_⟩:=h.fa (by decide +kernel)
 exact ⟨h1,opsB h3⟩
theorem runx3:(runX [] [ptO 1 1,ptO 2 1,ptO 2 2]).length = 3:=by decide +kernel
theorem runx2:(runX [] [ptO 1 1,ptO 2 1]).length = 2:=by decide +kernel
theorem runx2':(runX [] [ptO 1 1,ptO 2 2]).length = 2:=by decide +kernel
theorem RowsS.len {w:World} {A:Option Addr} {n c:Nat} {ops:List Opn} (h:RowsS w A n c ops):n = (runX [] ops).length:=by
 obtain ⟨rs,ys,rfl,_,hx,hp,_⟩:=h
 rw [hx.1,hp.length_eq]
end Go.Proofs.YtjpieiccpbcabaaGreat
namespace Go.Proofs.YtjpieiccpbcabaaGreat
open Go.RowKit
set_option linter.unusedVariables false
set_option linter.unusedSimpArgs false

end Go.Proofs.YtjpieiccpbcabaaGreat
namespace Go.Proofs.YtjpieiccpbcabaaGreat
open Go.RowKit
set_option linter.unusedVariables false
set_option linter.unusedSimpArgs false

def idG (i:Nat):ID:=id2 (i + 1) 0
theorem idG_inj:∀ {i j:Nat},i < 20 → j < 20 → idG i = idG j → i = j:=by
 have h:∀ i,i < 20 → ∀ j,j < 20 → idG i = idG j → i = j:=by decide +kernel
 intro i j hi hj e
 exact h i hi j hj e
theorem idG_ne:∀ i,i < 20 → idG i ≠ zID:=by decide +kernel
theorem idG_rise:∀ i,i < 20 → ∀ j,j < 20 → i < j → cmpI (idG i) (idG j) < 0:=by decide +kernel
structure Gw (L:Hst) (ts:List Int):Prop where
 len:L.length = ts.length
 le:ts.length ≤ 16
 has:∀ i (h:i < ts.length),∃ c,findC L (idG i) = some c ∧ c.Time = ts[i]
 new:∀ i,ts.length ≤ i → i < 20 → findC L (idG i) = none
 tm:∀ t ∈ ts,1 ≤ t ∧ t ≤ 4 * (ts.length:Int)
 rr:∀ p ∈ opsH L,p.At.R ≤ ts.length
 nd:NdH L
 ids:∀ x c,findC L x = some c → ∃ i,i < ts.length ∧ x = idG i
 nm:∀ p ∈ opsH L,p.Name = [110]
theorem Gw.nil:Gw [] []:=⟨rfl,by simp,fun i h=>absurd h (by simp),fun i _ _=>rfl,by simp,by simp [opsH],NdH.nil,fun x c h=>by simp [findC] at h,by simp [opsH]⟩
theorem Gw.add {L:Hst} {ts:List Int} (h:Gw L ts) (hl:ts.length < 16) {c:Chg} (hr:rightCh c = true) (hR:c.R = (ts.length:Int) + 1) (ht:1 ≤ c.Time ∧ c.Time ≤ 4 * ((ts.length:Int) + 1))
  (hp:∀ p ∈ c.Parents,∃ (j:Nat) (hj:j < ts.length),p = idG j ∧ ts[j] < c.Time) (hnm:∀ o ∈ c.Ops,o.Name = [110]):addH L (idG ts.length) c = (0,(idG ts.length,c) :: L) ∧ Gw ((idG ts.length,c) :: L) (ts ++ [c.Time]):=by
 have hno:=h.new ts.length (Nat.le_refl _) (by omega)
 have h6:∀ o ∈ c.Ops,∀ p ∈ opsH L,p.At ≠ o.At:=fun o ho p hp' e=>by
  have h1:=((rightCh_parts hr).2.2.2.1 o ho).2.2
  have h2:=h.rr p hp'
  rw [e,h1,hR] at h2
  omega
 refine ⟨addH_new (by rw [has_dg,hno];rfl) (idG_ne _ (by omega)) hr ?_ ?_ h6,?_⟩
 ·unfold timeOk
  rw [List.all_eq_true]
  intro p hp'
  obtain ⟨j,hj,rfl,hlt⟩:=hp p hp'
  obtain ⟨d,hd,hdt⟩:=h.has j hj
  rw [hd]
  simp only [decide_eq_true_eq]
  rw [hdt]
  exact hlt
 ·intro p hp'
  obtain ⟨j,hj,rfl,_⟩:=hp p hp'
  obtain ⟨d,hd,_⟩:=h.has j hj
  rw [has_dg,hd]
  rfl
 ·have hf:∀ i,findC ((idG ts.length,c) :: L) (idG i) = if idG i = idG ts.length then some c else findC L (idG i):=fun i=>rfl
  refine ⟨by simp [h.len],by simp;omega,fun i hi=>?_,fun i hi hi2=>?_,fun t ht'=>?_,fun p hp'=>?_,h.nd.add hr h6,fun y d hy=>?_,fun p hp'=>?_⟩
  ·rw [hf]
   by_cases e:i = ts.length
   ·subst e
    rw [if_pos rfl]
    exact ⟨c,rfl,by simp⟩
   ·have hi':i < ts.length:=by rw [List.length_append,List.length_singleton] at hi;omega
    rw [if_neg (fun h'=>e (idG_inj (by omega) (by omega) h'))]
    obtain ⟨d,hd,hdt⟩:=h.has i hi'
    exact ⟨d,hd,by rw [hdt,List.getElem_append_left hi']⟩
  ·rw [List.length_append,List.length_singleton] at hi
   rw [hf,if_neg (fun h'=>by have:=idG_inj (by omega) (by omega) h';omega)]
   exact h.new i (by omega) hi2
  ·rw [List.length_append,List.length_singleton]
   rcases List.mem_append.1 ht' with h' | h'
   ·have:=h.tm t h'
    omega
   ·rw [List.mem_singleton] at h'
    subst h'
    omega
  ·rw [List.length_append,List.length_singleton]
   have hp2:p ∈ c.Ops ∨ p ∈ opsH L:=by simpa [opsH] using hp'
   rcases hp2 with h' | h'
   ·have h1:=((rightCh_parts hr).2.2.2.1 p h').2.2
    rw [h1,hR]
    omega
   ·have:=h.rr p h'
    omega
  ·have hf2:findC ((idG ts.length,c) :: L) y = if y = idG ts.length then some c else findC L y:=rfl
   rw [hf2] at hy
   rw [List.length_append,List.length_singleton]
   by_cases ey:y = idG ts.length
   ·exact ⟨ts.length,by omega,ey⟩
   ·rw [if_neg ey] at hy
    obtain ⟨i,hi,e⟩:=h.ids y d hy
    exact ⟨i,by omega,e⟩
  ·have hp2:p ∈ c.Ops ∨ p ∈ opsH L:=by simpa [opsH] using hp'
   exact hp2.elim (hnm p) (h.nm p)
end Go.Proofs.YtjpieiccpbcabaaGreat
namespace Go.Proofs.YtjpieiccpbcabaaGreat
open Go.RowKit
set_option linter.unusedVariables false
set_option linter.unusedSimpArgs false

def opG (t:Int) (k:Nat) (nd pr:St):Opn:=⟨1,⟨t,(k:Int) + 1⟩,nd,pr,[110],zID,[]⟩
def chG (ps:List ID) (t:Int) (k:Nat) (ops:List Opn):Chg:=⟨ps,t,(k:Int) + 1,ops,id2 1 0,[]⟩
def ParG (k:Nat) (ps:List ID):Prop:=ps = [] ∨ (∃ a,a < k ∧ ps = [idG a]) ∨ ∃ a b,a < b ∧ b < k ∧ ps = [idG a,idG b]
theorem chG_right {ps:List ID} {t:Int} {k:Nat} {ops:List Opn} (hk:k < 16) (ht:1 ≤ t ∧ t ≤ 100) (hp:ParG k ps)
  (ho:ops = [] ∨ (ps.length < 2 ∧ ∃ nd pr,ops = [opG t k nd pr] ∧ goodOp (opG t k nd pr) = true)):rightCh (chG ps t k ops) = true:=by
 have h1:ps.length ≤ 2 ∧ (ps.all fun p=>decide (p ≠ zID)) = true ∧ riseB cmpI ps = true:=by
  rcases hp with rfl | ⟨a,ha,rfl⟩ | ⟨a,b,hab,hb,rfl⟩
  ·exact ⟨by simp,rfl,rfl⟩
  ·exact ⟨by simp,by simp [idG_ne a (by omega)],rfl⟩
  ·refine ⟨by simp,by simp [idG_ne a (by omega),idG_ne b (by omega)],?_⟩
   have:=idG_rise a (by omega) b (by omega) hab
   unfold riseB
   simp [this,riseB]
 have h2:rightS ⟨t,(k:Int) + 1⟩ = true:=by
  unfold rightS
  simp
  omega
 unfold rightCh chG
 simp only [h1.1,h1.2.1,h1.2.2,h2,Bool.and_eq_true,decide_true,true_and,Bool.true_and]
 rcases ho with rfl | ⟨hl,nd,pr,rfl,hg⟩
 ·simp [riseB]
  decide
 ·have h3:¬ ps.length = 2:=by omega
  unfold opG at hg
  simp [h3,riseB,hg,opG]
  exact idG_ne 0 (by decide)
theorem opG_good {t:Int} {k:Nat} {nd pr:St} (hk:k < 16) (ht:1 ≤ t ∧ t ≤ 100) (hn:rightS nd = true) (hc:cmpS nd ⟨t,(k:Int) + 1⟩ ≤ 0) (hp:rightS pr = true ∨ pr = zSt):goodOp (opG t k nd pr) = true:=by
 have h2:rightS ⟨t,(k:Int) + 1⟩ = true:=by
  unfold rightS
  simp
  omega
 have h4:(rightS pr || fixedS pr) = true:=by
  rcases hp with h | h
  ·simp [h]
  ·subst h;decide
 have h5:nameOk [110] = true:=by decide
 unfold goodOp opG moveOk
 simp [h2,hn,hc,h4,h5]
end Go.Proofs.YtjpieiccpbcabaaGreat
namespace Go.Proofs.YtjpieiccpbcabaaGreat
open Go.RowKit Go.Maps Go.Sort
set_option linter.unusedVariables false
set_option linter.unusedSimpArgs false

theorem ex_bld0_at {ρ:Operand → Value} {o:Oper} {w:World} (ho:o.op = .build 24 #[]):(execOp ρ o).run Tryz.prog w = .ok (.value (encI zID)) w:=by
 obtain ⟨d,op,t,p,f,g⟩:=o
 simp only at ho
 subst ho
 rw [ex_bld0]
structure Al (w0 w:World) (P H:Nat) (S:Nat → Prop) (L:Hst):Prop where
 hs:Hs w H S L
 ia:rdI w P 0 = some eA
 ib:rdI w (P + 1) 0 = some eB
 ic:rdI w (P + 1 + 1) 0 = some eC
 na:¬ S P
 nb:¬ S (P + 1)
 nc:¬ S (P + 1 + 1)
 lo:∀ b,S b → w0.heap.size ≤ b
 fr:Fr noB w0 w
theorem Al.fr0 {w0 w w':World} {P H:Nat} {S:Nat → Prop} {L:Hst} (h:Al w0 w P H S L) (f:Fr noB w w'):Al w0 w' P H S L :=
 ⟨h.hs.fr0 f,rdI_fr h.ia (rdI_lt h.ia) f (by simp [noB]),rdI_fr h.ib (rdI_lt h.ib) f (by simp [noB]),rdI_fr h.ic (rdI_lt h.ic) f (by simp [noB]),h.na,h.nb,h.nc,h.lo,h.fr.step0 f⟩
theorem Al.add {w0 w w':World} {P H:Nat} {S:Nat → Prop} {L L':Hst} (h:Al w0 w P H S L) (h':Hs w' H (grF S w w') L') (f:Fr S w w'):Al w0 w' P H (grF S w w') L' :=
 ⟨h',rdI_fr h.ia (rdI_lt h.ia) f h.na,rdI_fr h.ib (rdI_lt h.ib) f h.nb,rdI_fr h.ic (rdI_lt h.ic) f h.nc,
  fun e=>e.elim h.na (fun e=>by have:=rdI_lt h.ia;omega),fun e=>e.elim h.nb (fun e=>by have:=rdI_lt h.ib;omega),fun e=>e.elim h.nc (fun e=>by have:=rdI_lt h.ic;omega),
  fun b e=>e.elim (h.lo b) (fun e=>Nat.le_trans h.fr.size e.1),h.fr.step f (fun q hq=>.inl (h.lo q hq))⟩
theorem Al.new {w0 w:World} {P H:Nat} {S:Nat → Prop} {L:Hst} (h:Al w0 w P H S L) {b:Nat} (hb:w.heap.size ≤ b):¬ S b:=fun e=>by
 have:=h.hs.lt e
 omega
set_option maxRecDepth 100000 in
set_option maxHeartbeats 8000000 in
theorem l15alive_any (w:World):Calls Tryz.prog 9 #[] w (Gives w (.bool true)):=by
 go_enter Tryz.func9,Tryz.ntmps9
 go_upto_region 2 with (go_at_call 8;refine (mgNew_any _).mono ?_;rintro e w1 ⟨H,rfl,h1,f1⟩)
 have f3:Fr noB w1 (((w1.alloc (ido zID)).alloc (ido zID)).alloc (ido zID)):=(((Fr.refl noB w1).alloc _).alloc _).alloc _
 have s1:bxI (((w1.alloc (ido zID)).alloc (ido zID)).alloc (ido zID)) w1.heap.size = some zID:=by
  rw [bxI_old _ _ _ (by simp;omega),bxI_old _ _ _ (by simp),bxI_new]
 have s2':bxI (((w1.alloc (ido zID)).alloc (ido zID)).alloc (ido zID)) (w1.heap.size + 1) = some zID:=by
  rw [bxI_old _ _ _ (by simp),bxI_new' _ _ _ (by simp)]
 have s3':bxI (((w1.alloc (ido zID)).alloc (ido zID)).alloc (ido zID)) (w1.heap.size + 2) = some zID:=by
  rw [bxI_new' _ _ _ (by simp)]
 obtain ⟨a1,a2,a3⟩:=putB_fr s1 (id2 1 0)
 have s2:=bxI_fr s2' a1 (by simp [oneB])
 have s3'':=bxI_fr s3' a1 (by simp [oneB])
 obtain ⟨b1,b2,b3⟩:=putB_fr s2 (id2 2 0)
 have s3:=bxI_fr s3'' b1 (by simp [oneB])
 obtain ⟨c1,c2,c3⟩:=putB_fr s3 (id2 3 0)
 have q1:=bxI_fr (bxI_fr a3 b1 (by simp [oneB])) c1 (by simp [oneB])
 have q2:=bxI_fr b3 c1 (by simp [oneB])
 have lw:=f1.size
 have hA:Al w (putB (putB (putB (((w1.alloc (ido zID)).alloc (ido zID)).alloc (ido zID)) w1.heap.size (id2 1 0)) (w1.heap.size + 1) (id2 2 0)) (w1.heap.size + 1 + 1) (id2 3 0)) w1.heap.size H (grF (fun _=>False) w w1) []:=by
  have hno:∀ b,w1.heap.size ≤ b → ¬ grF (fun _=>False) w w1 b:=fun b hb e=>by
   rcases e with e | e
   ·exact e
   ·omega
  refine ⟨(((h1.fr0 f3).fr a1 ?_).fr b1 ?_).fr c1 ?_,bxI_rd q1,bxI_rd q2,bxI_rd c3,hno _ (by omega),hno _ (by omega),hno _ (by omega),fun b e=>e.elim False.elim (fun e=>e.1),(((f1.step0 f3).step1 a1 lw).step1 b1 (by omega)).step1 c1 (by omega)⟩
  ·intro b hb e;have:b = _:=e;exact hno b (by omega) hb
  ·intro b hb e;have:b = _:=e;exact hno b (by omega) hb
  ·intro b hb e;have:b = _:=e;exact hno b (by omega) hb
 have HAL:=Lib.hid hA
 clear hA a1 a2 a3 b1 b2 b3 c1 c2 c3 q1 q2 s2' s3' s3'' lw h1 f1 f3
 go_upto_region 3 with fail
 clear s1 s2 s3
 generalize putB (putB (putB (((w1.alloc (ido zID)).alloc (ido zID)).alloc (ido zID)) w1.heap.size (id2 1 0)) (w1.heap.size + 1) (id2 2 0)) (w1.heap.size + 1 + 1) (id2 3 0) = W at HAL ⊢
 generalize grF (fun _=>False) w w1 = S0 at HAL
 generalize w1.heap.size = P at HAL ⊢
 have hk:∀ w' w'':World,Fr noB w' w'' → (rdI w' P 0 = some eA ∧ rdI w' (P + 1) 0 = some eB ∧ rdI w' (P + 1 + 1) 0 = some eC) → (rdI w'' P 0 = some eA ∧ rdI w'' (P + 1) 0 = some eB ∧ rdI w'' (P + 1 + 1) 0 = some eC):=fun w' w'' f h=>⟨rdI_fr h.1 (rdI_lt h.1) f (by simp [noB]),rdI_fr h.2.1 (rdI_lt h.2.1) f (by simp [noB]),rdI_fr h.2.2 (rdI_lt h.2.2) f (by simp [noB])⟩
 have fd:Fr noB W W.drew:=(Fr.refl noB W).drew
 have A0:=HAL.out.fr0 fd
 refine wp_region_M 26 27 [⟨32768,2,0⟩,⟨65536,32768,1⟩,⟨131072,65536,2⟩,⟨262144,131074,4⟩,⟨524288,131076,4⟩,⟨1048576,131072,4⟩,⟨2097152,1966080,60⟩,⟨4194304,2228224,68⟩,⟨8388608,4325376,132⟩,⟨16777216,8388608,320⟩,⟨33554432,16777218,512⟩,⟨67108864,16777224,512⟩,⟨134217728,16777220,512⟩,⟨268435456,150994944,4608⟩,⟨536870912,285212672,8704⟩,⟨1073741824,654311424,19968⟩,⟨2147483648,1090519040,33280⟩,⟨4294967296,2164260864,66048⟩,⟨8589934592,4294967296,163840⟩,⟨17179869184,8589934594,262144⟩,⟨34359738368,8589934608,262144⟩,⟨68719476736,8589934596,262144⟩,⟨137438953472,77309411328,2359296⟩,⟨274877906944,146028888064,4456448⟩,⟨549755813888,335007449088,10223616⟩,⟨1099511627776,558345748480,17039360⟩,⟨2199023255552,1108101562368,33816576⟩] [(true,0),(true,1),(true,2),(true,3),(true,4),(false,5),(false,6),(true,7),(true,8),(true,9),(true,10),(true,11),(true,12),(false,13),(false,14),(false,15),(true,16),(true,17),(true,18),(true,19),(true,20),(true,21),(false,22),(false,23),(false,24),(true,25)] (fun w'=>rdI w' P 0 = some eA ∧ rdI w' (P + 1) 0 = some eB ∧ rdI w' (P + 1 + 1) 0 = some eC) (by kernel_rfl) rfl (by kernel_rfl) (by kernel_rfl) (by kernel_rfl) ⟨A0.ia,A0.ib,A0.ic⟩ (fun hA hF=>?_)
 clear HAL fd
 iterate 5
  refine wpAnyS_take (v:=?_) hA rfl (fun _ _ _ h=>h) (Or.inl ⟨by rfl,?_⟩) hF (fun hA=>?_)
  rotate_left
  ·intro wS hSw;(try dsimp only at hSw);obtain ⟨s1,s2,s3⟩:=hSw;first | (apply Eq.trans;apply ex_ld_id;exact rfl;exact rfl;assumption;with_reducible rfl) | (apply Eq.trans;apply ex_bld0_at;exact rfl;with_reducible rfl) | (go_simp;try with_reducible rfl)
  try simp only [List.getElem_toArray,List.getElem_cons_zero,List.getElem_cons_succ,Act.put,List.setIfInBounds_toArray,List.set_cons_zero,List.set_cons_succ]
 refine wpAnyS_one hA rfl (fun K' hK=>?_)
 rw [if_pos (by rfl)]
 go_simp
 go_at_call 31
 refine (l15put_any _ none 0 0 1 1).mono ?_
 rintro e u1 ⟨g1,rfl,l1,l1',t1,v1⟩
 replace hF:=hk _ _ v1 hF
 refine hK.out _ _ hF (fun hA=>?_)
 clear hK K'
 as_aux_lemma =>
 have A1:=A0.fr0 v1
 refine wpAnyS_one hA rfl (fun K' hK=>?_)
 rw [if_pos (by rfl)]
 go_simp
 go_at_call 10
 refine (mgAdd_any A1.hs (by decide) eA _ _ (ptC [] 1 1) (PutTo15.q t1 (A0.new l1) rfl (Sl.nil _ _) (by simp) (fun h=>absurd rfl h)) (by simp [ptC])).mono ?_
 rintro e u2 ⟨rfl,h2,v2⟩
 rw [ad15a] at h2 ⊢
 have A2:=A1.add h2 v2
 clear A0 A1 l1 l1' t1 v1 h2 v2
 generalize grF S0 u1 u2 = S2 at A2
 replace hF:=(And.intro A2.ia (And.intro A2.ib A2.ic))
 refine hK.out _ _ hF (fun hA=>?_)
 clear hK K'
 as_aux_lemma =>
 iterate 6
  refine wpAnyS_take (v:=?_) hA rfl (fun _ _ _ h=>h) (Or.inl ⟨by rfl,?_⟩) hF (fun hA=>?_)
  rotate_left
  ·intro wS hSw;(try dsimp only at hSw);obtain ⟨s1,s2,s3⟩:=hSw;first | (apply Eq.trans;apply ex_ld_id;exact rfl;exact rfl;assumption;with_reducible rfl) | (apply Eq.trans;apply ex_bld0_at;exact rfl;with_reducible rfl) | (go_simp;try with_reducible rfl)
  try simp only [List.getElem_toArray,List.getElem_cons_zero,List.getElem_cons_succ,Act.put,List.setIfInBounds_toArray,List.set_cons_zero,List.set_cons_succ]
 refine wpAnyS_one hA rfl (fun K' hK=>?_)
 rw [if_pos (by rfl)]
 refine step_runP _ _ (ex_bs1_at (x:=eA) rfl rfl) ?_
 have fn:Fr noB u2 (u2.alloc (rowo [eA])):=(Fr.refl noB u2).alloc _
 have sn:=sl_new u2 [eA]
 have A3:=A2.fr0 fn
 have hgn:¬ S2 u2.heap.size:=A2.new (Nat.le_refl _)
 replace hF:=hk _ _ fn hF
 refine hK.out _ _ hF (fun hA=>?_)
 clear hK K'
 as_aux_lemma =>
 refine wpAnyS_one hA rfl (fun K' hK=>?_)
 rw [if_pos (by rfl)]
 go_simp
 go_at_call 31
 refine (l15put_any _ _ 1 1 2 1).mono ?_
 rintro e u4 ⟨g1,rfl,l1,l1',t1,v1⟩
 replace hF:=hk _ _ v1 hF
 refine hK.out _ _ hF (fun hA=>?_)
 clear hK K'
 as_aux_lemma =>
 have A4:=A3.fr0 v1
 refine wpAnyS_one hA rfl (fun K' hK=>?_)
 rw [if_pos (by rfl)]
 go_simp
 go_at_call 10
 refine (mgAdd_any A4.hs (by decide) eB _ _ (ptC [eA] 2 1) (PutTo15.q t1 (A3.new l1) rfl (sn.fr0 v1) (by simp) (fun _ g hg=>by injection hg with hg;subst hg;exact hgn)) (by simp [ptC])).mono ?_
 rintro e u5 ⟨rfl,h2,v2⟩
 rw [ad15b] at h2 ⊢
 have A5:=A4.add h2 v2
 clear A2 A3 A4 l1 l1' t1 v1 h2 v2 fn sn hgn
 generalize grF S2 u4 u5 = S5 at A5
 replace hF:=(And.intro A5.ia (And.intro A5.ib A5.ic))
 refine hK.out _ _ hF (fun hA=>?_)
 clear hK K'
 as_aux_lemma =>
 iterate 6
  refine wpAnyS_take (v:=?_) hA rfl (fun _ _ _ h=>h) (Or.inl ⟨by rfl,?_⟩) hF (fun hA=>?_)
  rotate_left
  ·intro wS hSw;(try dsimp only at hSw);obtain ⟨s1,s2,s3⟩:=hSw;first | (apply Eq.trans;apply ex_ld_id;exact rfl;exact rfl;assumption;with_reducible rfl) | (apply Eq.trans;apply ex_bld0_at;exact rfl;with_reducible rfl) | (go_simp;try with_reducible rfl)
  try simp only [List.getElem_toArray,List.getElem_cons_zero,List.getElem_cons_succ,Act.put,List.setIfInBounds_toArray,List.set_cons_zero,List.set_cons_succ]
 refine wpAnyS_one hA rfl (fun K' hK=>?_)
 rw [if_pos (by rfl)]
 refine step_runP _ _ (ex_bs1_at (x:=eA) rfl rfl) ?_
 have fn:Fr noB u5 (u5.alloc (rowo [eA])):=(Fr.refl noB u5).alloc _
 have sn:=sl_new u5 [eA]
 have A3:=A5.fr0 fn
 have hgn:¬ S5 u5.heap.size:=A5.new (Nat.le_refl _)
 replace hF:=hk _ _ fn hF
 refine hK.out _ _ hF (fun hA=>?_)
 clear hK K'
 as_aux_lemma =>
 refine wpAnyS_one hA rfl (fun K' hK=>?_)
 rw [if_pos (by rfl)]
 go_simp
 go_at_call 31
 refine (l15put_any _ _ 1 1 2 2).mono ?_
 rintro e u4 ⟨g1,rfl,l1,l1',t1,v1⟩
 replace hF:=hk _ _ v1 hF
 refine hK.out _ _ hF (fun hA=>?_)
 clear hK K'
 as_aux_lemma =>
 have A4:=A3.fr0 v1
 refine wpAnyS_one hA rfl (fun K' hK=>?_)
 rw [if_pos (by rfl)]
 go_simp
 go_at_call 10
 refine (mgAdd_any A4.hs (by decide) eC _ _ (ptC [eA] 2 2) (PutTo15.q t1 (A3.new l1) rfl (sn.fr0 v1) (by simp) (fun _ g hg=>by injection hg with hg;subst hg;exact hgn)) (by simp [ptC])).mono ?_
 rintro e u6 ⟨rfl,h2,v2⟩
 rw [ad15c] at h2 ⊢
 have A6:=A4.add h2 v2
 clear A5 A3 A4 l1 l1' t1 v1 h2 v2 fn sn hgn
 generalize grF S5 u4 u6 = S6 at A6
 replace hF:=(And.intro A6.ia (And.intro A6.ib A6.ic))
 refine hK.out _ _ hF (fun hA=>?_)
 clear hK K'
 as_aux_lemma =>
 refine wpAnyS_take (v:=?_) hA rfl (fun _ _ _ h=>h) (Or.inl ⟨by rfl,?_⟩) hF (fun hA=>?_)
 rotate_left
 ·intro wS hSw;(try dsimp only at hSw);obtain ⟨s1,s2,s3⟩:=hSw;first | (apply Eq.trans;apply ex_ld_id;exact rfl;exact rfl;assumption;with_reducible rfl) | (apply Eq.trans;apply ex_bld0_at;exact rfl;with_reducible rfl) | (go_simp;try with_reducible rfl)
 try simp only [List.getElem_toArray,List.getElem_cons_zero,List.getElem_cons_succ,Act.put,List.setIfInBounds_toArray,List.set_cons_zero,List.set_cons_succ]
 refine wpAnyS_end hA rfl ?_
 simp only [List.drop_succ_cons,List.drop_zero]
 clear hF hk
 have qa6:=A6.ia
 have qb6:=A6.ib
 have qc6:=A6.ic
 have HA6:=Lib.hid A6
 clear A6
 go_upto_region 6 with (go_at_call 22;refine (mgMerge_any HA6.out.hs nd15 (by decide) eB eC).mono ?_;rintro e u7 ⟨r1,rfl,v7,_,hp⟩;have hp1:=Lib.hid (hp mg15);rw [mg15];clear hp)
 have fn:Fr noB u7 (u7.alloc (codPl.o r1)):=(Fr.refl noB u7).alloc _
 have bN1:=Cod.bxd_new (C:=codPl) u7 r1
 have A8:=(HA6.out.fr0 v7).fr0 fn
 obtain ⟨base,ops,pl1,hbn,hbs,_,_,hrs⟩:=hp1.out.plan
 obtain ⟨e1,e2,e3,e4,e5⟩:=plan15 pl1
 subst e2 e3
 have hrl:=hrs.len
 rw [runx3] at hrl
 obtain ⟨rF,rBA,rbn,rbc,rRA,rrn,rrc,rS,rT⟩:=r1
 simp only at e1 e4 e5 hbn hrl hbs
 subst e1 e4 e5 hrl
 have hbn':rbn = 1:=hbn.symm
 subst hbn'
 obtain ⟨gb,ob,rfl⟩:=Sl.adG hbs (by simp)
 have ib:=(hbs.fr0 fn).id 0 (by simp)
 simp only [Nat.zero_mul,Nat.add_zero,List.getElem_cons_zero] at ib
 have HA8:=Lib.hid A8
 have qa8:=A8.ia
 have qb8:=A8.ib
 clear A8 HA6 hp1 pl1 hrs hbs hbn v7 fn qa6 qb6 qc6
 generalize u7.alloc (codPl.o ⟨zID,some ⟨gb,ob,none⟩,1,rbc,rRA,3,rrc,true,3⟩) = u8 at bN1 ib HA8 qa8 qb8 ⊢
 generalize u7.heap.size = N1 at bN1 ⊢
 have HB1:=Lib.hid bN1
 clear bN1
 go_upto_region 7 with (go_at_call 22;refine (mgMerge_any HA8.out.hs nd15 (by decide) eB eA).mono ?_;rintro e u9 ⟨r2,rfl,v9,_,hp⟩;have hp2:=Lib.hid (hp mg15');rw [mg15'];clear hp)
 have fn:Fr noB u9 (u9.alloc (codPl.o r2)):=(Fr.refl noB u9).alloc _
 have bN2:=Cod.bxd_new (C:=codPl) u9 r2
 have f89:=v9.step0 fn
 have A10:=HA8.out.fr0 f89
 have bN1:=Cod.bxd_fr0 HB1.out f89
 have ib2:=rdI_fr ib (rdI_lt ib) f89 (by simp [noB])
 obtain ⟨base2,ops2,pl2,_,_,_,_,hrs⟩:=hp2.out.plan
 obtain ⟨e1,e3⟩:=plan15' pl2
 subst e3
 have hrl:=hrs.len
 rw [runx2] at hrl
 have HP2:=Lib.hid (And.intro e1 hrl)
 have HA10:=Lib.hid A10
 have HB1':=Lib.hid bN1
 have qb10:=A10.ib
 clear A10 HA8 HB1 hp2 pl2 hrs hrl e1 v9 fn f89 qa8 qb8 ib bN1
 generalize u9.alloc (codPl.o r2) = u10 at bN2 ib2 HA10 HB1' qb10 ⊢
 generalize u9.heap.size = N2 at bN2 ⊢
 have HB2:=Lib.hid bN2
 clear bN2
 go_upto_region 8 with (go_at_call 14;refine (mgCommit_any HA10.out.hs eB).mono ?_;rintro e u11 ⟨r3,rs3,rfl,hc3,v11⟩;rw [show (findC L15c eB).isSome = true from rfl])
 have fn:Fr noB u11 (u11.alloc (codC.o r3)):=(Fr.refl noB u11).alloc _
 have bN3:=Cod.bxd_new (C:=codC) u11 r3
 have f11:=v11.step0 fn
 have A12:=HA10.out.fr0 f11
 have bN1:=Cod.bxd_fr0 HB1'.out f11
 have bN2:=Cod.bxd_fr0 HB2.out f11
 have ib3:=rdI_fr ib2 (rdI_lt ib2) f11 (by simp [noB])
 have t3:r3.Time = 2:=hc3.inn.time.symm
 have c3:=(cgAt (Cod.bxd_rd bN3)).time
 rw [t3] at c3
 have d1:=plAt (Cod.bxd_rd bN1)
 have d2:=plAt (Cod.bxd_rd bN2)
 have d2f:=d2.fw
 have d2r:=d2.rows
 rw [HP2.out.1] at d2f
 rw [HP2.out.2] at d2r
 clear HA10 HB1' HB2 fn v11 hc3 f11 ib2 qb10 t3 bN1 bN2 bN3 d2
 have d1b:=d1.base
 have d1r:=d1.rows
 have d1s:=d1.safe
 have d1t:=d1.time
 have d1f:=d1.fw
 simp only at d1b d1r d1s d1t d1f
 clear d1
 generalize u11.alloc (codC.o r3) = u12 at A12 ib3 c3 d1b d1r d1s d1t d1f d2f d2r ⊢
 generalize u11.heap.size = N3 at c3 ⊢
 have hk:∀ w' w'':World,Fr noB w' w'' → (rdI w' P 0 = some eA ∧ rdI w' (P + 1) 0 = some eB ∧ rdI w' (P + 1 + 1) 0 = some eC ∧ w'.cell? ⟨N1,32,none⟩ = some (.slice (some ⟨gb,ob,none⟩) 1 rbc) ∧ rdI w' gb ob = some eA ∧ w'.cell? ⟨N1,33,none⟩ = some (.slice rRA 3 rrc) ∧ w'.cell? ⟨N1,34,none⟩ = some (.bool true) ∧ w'.cell? ⟨N1,35,none⟩ = some (.int .i64 3) ∧ rdI w' N1 0 = some zID ∧ rdI w' N2 0 = some eB ∧ w'.cell? ⟨N2,33,none⟩ = some (.slice r2.RA 2 r2.rc) ∧ w'.cell? ⟨N3,1,none⟩ = some (.int .i64 2)) → (rdI w'' P 0 = some eA ∧ rdI w'' (P + 1) 0 = some eB ∧ rdI w'' (P + 1 + 1) 0 = some eC ∧ w''.cell? ⟨N1,32,none⟩ = some (.slice (some ⟨gb,ob,none⟩) 1 rbc) ∧ rdI w'' gb ob = some eA ∧ w''.cell? ⟨N1,33,none⟩ = some (.slice rRA 3 rrc) ∧ w''.cell? ⟨N1,34,none⟩ = some (.bool true) ∧ w''.cell? ⟨N1,35,none⟩ = some (.int .i64 3) ∧ rdI w'' N1 0 = some zID ∧ rdI w'' N2 0 = some eB ∧ w''.cell? ⟨N2,33,none⟩ = some (.slice r2.RA 2 r2.rc) ∧ w''.cell? ⟨N3,1,none⟩ = some (.int .i64 2)):=fun w' w'' f h=>⟨rdI_fr h.1 (rdI_lt h.1) f (by simp [noB]),rdI_fr h.2.1 (rdI_lt h.2.1) f (by simp [noB]),rdI_fr h.2.2.1 (rdI_lt h.2.2.1) f (by simp [noB]),cell_fr0 h.2.2.2.1 f,rdI_fr h.2.2.2.2.1 (rdI_lt h.2.2.2.2.1) f (by simp [noB]),cell_fr0 h.2.2.2.2.2.1 f,cell_fr0 h.2.2.2.2.2.2.1 f,cell_fr0 h.2.2.2.2.2.2.2.1 f,rdI_fr h.2.2.2.2.2.2.2.2.1 (rdI_lt h.2.2.2.2.2.2.2.2.1) f (by simp [noB]),rdI_fr h.2.2.2.2.2.2.2.2.2.1 (rdI_lt h.2.2.2.2.2.2.2.2.2.1) f (by simp [noB]),cell_fr0 h.2.2.2.2.2.2.2.2.2.2.1 f,cell_fr0 h.2.2.2.2.2.2.2.2.2.2.2 f⟩
 have fd:Fr noB u12 u12.drew:=(Fr.refl noB u12).drew
 have hF0:=hk _ _ fd ⟨A12.ia,A12.ib,A12.ic,d1b,ib3,d1r,d1s,d1t,d1f,d2f,d2r,c3⟩
 have B0:=A12.fr0 fd
 have p1:(0:Int) < 1:=by decide
 clear A12 d1b ib3 d1r d1s d1t d1f d2f d2r c3 fd
 try simp only [List.append_eq,List.cons_append,List.nil_append]
 refine wp_region_M 83 84 [⟨4611686018427387904,64,0⟩,⟨9223372036854775808,4611686018427387904,1⟩,⟨18446744073709551616,9223372036854775808,2⟩,⟨36893488147419103232,18446744073709551648,4⟩,⟨73786976294838206464,55340232221128654848,12⟩,⟨147573952589676412928,92233720368547758080,20⟩,⟨295147905179352825856,166020696663385964544,36⟩,⟨590295810358705651712,313594649253062377472,68⟩,⟨1180591620717411303424,590295810358705651712,132⟩,⟨2361183241434822606848,1180591620717411303456,256⟩,⟨4722366482869645213696,3541774862152233910272,768⟩,⟨9444732965739290427392,5902958103587056517120,1280⟩,⟨18889465931478580854784,10625324586456701730816,2304⟩,⟨37778931862957161709568,1180591620717411303428,256⟩,⟨75557863725914323419136,57848989415153153867776,12544⟩,⟨151115727451828646838272,76738455346631734722560,16640⟩,⟨302231454903657293676544,151115727451828646838272,33024⟩,⟨604462909807314587353088,302231454903657293676576,65536⟩,⟨1208925819614629174706176,906694364710971881029632,196608⟩,⟨2417851639229258349412352,1511157274518286468382720,327680⟩,⟨4835703278458516698824704,2720083094132915643088896,589824⟩,⟨9671406556917033397649408,5137934733362173992501248,1114112⟩,⟨19342813113834066795298816,9671406556917033397649408,2162688⟩,⟨38685626227668133590597632,19342813113834066795298848,4194304⟩,⟨77371252455336267181195264,58028439341502200385896448,12582912⟩,⟨154742504910672534362390528,96714065569170333976494080,20971520⟩,⟨309485009821345068724781056,154742504910672534362390528,37748736⟩,⟨618970019642690137449562112,309485009821345068724781088,67108864⟩,⟨1237940039285380274899124224,928455029464035206174343168,201326592⟩,⟨2475880078570760549798248448,1547425049106725343623905280,335544320⟩,⟨4951760157141521099596496896,2785365088392105618523029504,603979776⟩,⟨9903520314283042199192993792,4951760157141521099596496896,1140850688⟩,⟨19807040628566084398385987584,9903520314283042199192993824,2147483648⟩,⟨39614081257132168796771975168,29710560942849126597578981376,6442450944⟩,⟨79228162514264337593543950336,9903520314283042199192993792,2147483648⟩,⟨158456325028528675187087900672,128745764085679548589508919296,27917287424⟩,⟨316912650057057350374175801344,168359845342811717386280894464,36507222016⟩,⟨633825300114114700748351602688,316912650057057350374175801344,70866960384⟩,⟨1267650600228229401496703205376,633825300114114700748351602944,137438953472⟩,⟨2535301200456458802993406410752,1901475900342344102245054808064,412316860416⟩,⟨5070602400912917605986812821504,3169126500570573503741758013440,687194767360⟩,⟨10141204801825835211973625643008,5070602400912917605986812821504,1236950581248⟩,⟨20282409603651670423947251286016,10141204801825835211973625643136,2199023255552⟩,⟨40564819207303340847894502572032,30423614405477505635920876929024,6597069766656⟩,⟨81129638414606681695789005144064,10141204801825835211973625643016,2199023255552⟩,⟨162259276829213363391578010288128,131835662423735857755657133359104,28587302322176⟩,⟨324518553658426726783156020576256,172400481631039198603551635931136,37383395344384⟩,⟨649037107316853453566312041152512,324518553658426726783156020576256,72567767433216⟩,⟨1298074214633706907132624082305024,649037107316853453566312041152640,140737488355328⟩,⟨2596148429267413814265248164610048,1947111321950560360698936123457536,422212465065984⟩,⟨5192296858534827628530496329220096,3245185536584267267831560205762560,703687441776640⟩,⟨10384593717069655257060992658440192,5841333965851681082096808370372608,1266637395197952⟩,⟨20769187434139310514121985316880384,11033630824386508710627304699592704,2392537302040576⟩,⟨41538374868278621028243970633760768,20769187434139310514121985316880384,4644337115725824⟩,⟨83076749736557242056487941267521536,41538374868278621028243970633761792,9007199254740992⟩,⟨166153499473114484112975882535043072,124615124604835863084731911901282304,27021597764222976⟩,⟨332306998946228968225951765070086144,166153499473114484112975882535043072,45035996273704960⟩,⟨664613997892457936451903530140172288,332306998946228968225951765070086656,72057594037927936⟩,⟨1329227995784915872903807060280344576,996920996838686904677855295210258432,216172782113783808⟩,⟨2658455991569831745807614120560689152,1661534994731144841129758825350430720,360287970189639680⟩,⟨5316911983139663491615228241121378304,2990762990516060714033565885630775296,648518346341351424⟩,⟨10633823966279326983230456482242756608,5316911983139663491615228241121378304,1224979098644774912⟩,⟨21267647932558653966460912964485513216,10633823966279326983230456482242756610,2305843009213693952⟩,⟨42535295865117307932921825928971026432,10633823966279326983230456482242756616,2305843009213693952⟩,⟨85070591730234615865843651857942052864,53169119831396634916152282411213783040,11529215046068469760⟩,⟨170141183460469231731687303715884105728,116972063629072596815535021304670322688,25364273101350633472⟩,⟨340282366920938463463374607431768211456,180775007426748558714917760198126862336,39199331156632797184⟩,⟨680564733841876926926749214863536422912,350916190887217790446605063914010968064,76092819304051900416⟩,⟨1361129467683753853853498429727072845824,691198557808156253909979671345779179520,149879795598890106880⟩,⟨2722258935367507707706996859454145691648,1361129467683753853853498429727072845824,332041393326771929088⟩,⟨5444517870735015415413993718908291383296,2722258935367507707706996859454145691650,590295810358705651712⟩,⟨10889035741470030830827987437816582766592,2722258935367507707706996859454145691664,590295810358705651712⟩,⟨21778071482940061661655974875633165533184,13611294676837538538534984297270728458240,2951479051793528258560⟩,⟨43556142965880123323311949751266331066368,29944848289042584784776965453995602608128,6493253913945762168832⟩,⟨87112285931760246646623899502532662132736,46278401901247631031018946610720476758016,10035028776097996079104⟩,⟨174224571863520493293247799005065324265472,89834544867127754354330896361986807824384,19479761741837286506496⟩,⟨348449143727040986586495598010130648530944,176946830798888001000954795864519469957120,38369227673315867361280⟩,⟨696898287454081973172991196020261297061888,348449143727040986586495598010130648530944,85002596691653613846528⟩,⟨1393796574908163946345982392040522594123776,696898287454081973172991196020261297061890,151115727451828646838272⟩,⟨2787593149816327892691964784081045188247552,2090694862362245919518973588060783891185664,453347182355485940514816⟩,⟨5575186299632655785383929568162090376495104,3484491437270409865864955980101306485309440,755578637259143234191360⟩,⟨11150372599265311570767859136324180752990208,6272084587086737758556920764182351673556992,1360041547066457821544448⟩,⟨22300745198530623141535718272648361505980416,11847270886719393543940850332344442050052096,2568967366681086996250624⟩,⟨1,22300745198530623141535718272648361505980416,9671406556917033397649407⟩] [(true,0),(true,1),(true,2),(true,3),(true,4),(true,5),(true,6),(true,7),(true,8),(true,9),(true,10),(true,11),(true,12),(true,13),(true,14),(true,15),(true,16),(true,17),(true,18),(true,19),(true,20),(true,21),(true,22),(true,23),(true,24),(true,25),(true,26),(true,27),(true,28),(true,29),(true,30),(true,31),(true,32),(true,33),(true,34),(true,35),(true,36),(true,37),(true,38),(true,39),(true,40),(true,41),(true,42),(true,43),(true,44),(true,45),(true,46),(true,47),(true,48),(true,49),(true,50),(true,51),(true,52),(true,53),(true,54),(true,55),(true,56),(true,57),(true,58),(true,59),(true,60),(true,61),(true,62),(true,63),(false,64),(false,65),(true,66),(true,67),(true,68),(true,69),(true,70),(true,71),(false,72),(false,73),(true,74),(true,75),(true,76),(true,77),(true,78),(false,79),(false,80),(true,81),(true,82)] (fun w'=>rdI w' P 0 = some eA ∧ rdI w' (P + 1) 0 = some eB ∧ rdI w' (P + 1 + 1) 0 = some eC ∧ w'.cell? ⟨N1,32,none⟩ = some (.slice (some ⟨gb,ob,none⟩) 1 rbc) ∧ rdI w' gb ob = some eA ∧ w'.cell? ⟨N1,33,none⟩ = some (.slice rRA 3 rrc) ∧ w'.cell? ⟨N1,34,none⟩ = some (.bool true) ∧ w'.cell? ⟨N1,35,none⟩ = some (.int .i64 3) ∧ rdI w' N1 0 = some zID ∧ rdI w' N2 0 = some eB ∧ w'.cell? ⟨N2,33,none⟩ = some (.slice r2.RA 2 r2.rc) ∧ w'.cell? ⟨N3,1,none⟩ = some (.int .i64 2)) (by kernel_rfl) rfl (by kernel_rfl) (by kernel_rfl) (by kernel_rfl) hF0 (fun hA hF=>?_)
 iterate 64
  refine wpAnyS_take (v:=?_) hA rfl (fun _ _ _ h=>h) (Or.inl ⟨by rfl,?_⟩) hF (fun hA=>?_)
  rotate_left
  ·intro wS hSw;(try dsimp only at hSw);obtain ⟨s1,s2,s3,s4,s5,s6,s7,s8,s9,s10,s11,s12⟩:=hSw;first | (apply Eq.trans;apply ex_ld_id;exact rfl;exact rfl;assumption;with_reducible rfl) | (apply Eq.trans;apply ex_bld0_at;exact rfl;with_reducible rfl) | (go_simp;try with_reducible rfl)
  try simp only [List.getElem_toArray,List.getElem_cons_zero,List.getElem_cons_succ,Act.put,List.setIfInBounds_toArray,List.set_cons_zero,List.set_cons_succ]
 refine wpAnyS_one hA rfl (fun K' hK=>?_)
 rw [if_pos (by rfl)]
 refine step_runP _ _ (ex_bs1_at (x:=eB) rfl rfl) ?_
 have fn:Fr noB u12.drew (u12.drew.alloc (rowo [eB])):=(Fr.refl noB _).alloc _
 have sn:=sl_new u12.drew [eB]
 have B1:=B0.fr0 fn
 replace hF:=hk _ _ fn hF
 refine hK.out _ _ hF (fun hA=>?_)
 clear hK K'
 as_aux_lemma =>
 refine wpAnyS_one hA rfl (fun K' hK=>?_)
 rw [if_pos (by rfl)]
 go_simp
 go_at_call 17
 refine (mgOps_any B1.hs nd15 (by decide) _ _ 1 [eB] rfl sn (by simp)).mono ?_
 rintro e u13 ⟨Ao,co,rso,lo,rfl,po,bo,so,ao,f13⟩
 have hl2:rso.length = 2:=by rw [ao.1,opsB po];rfl
 rw [hl2]
 replace hF:=hk _ _ f13 hF
 refine hK.out _ _ hF (fun hA=>?_)
 clear hK K'
 as_aux_lemma =>
 have B2:=B1.fr0 f13
 clear B0 B1 fn sn hl2 po bo so ao f13
 iterate 6
  refine wpAnyS_take (v:=?_) hA rfl (fun _ _ _ h=>h) (Or.inl ⟨by rfl,?_⟩) hF (fun hA=>?_)
  rotate_left
  ·intro wS hSw;(try dsimp only at hSw);obtain ⟨s1,s2,s3,s4,s5,s6,s7,s8,s9,s10,s11,s12⟩:=hSw;first | (apply Eq.trans;apply ex_ld_id;exact rfl;exact rfl;assumption;with_reducible rfl) | (apply Eq.trans;apply ex_bld0_at;exact rfl;with_reducible rfl) | (go_simp;try with_reducible rfl)
  try simp only [List.getElem_toArray,List.getElem_cons_zero,List.getElem_cons_succ,Act.put,List.setIfInBounds_toArray,List.set_cons_zero,List.set_cons_succ]
 refine wpAnyS_one hA rfl (fun K' hK=>?_)
 rw [if_pos (by rfl)]
 refine step_runP _ _ (ex_bs1_at (x:=eC) rfl rfl) ?_
 have fn:Fr noB u13 (u13.alloc (rowo [eC])):=(Fr.refl noB _).alloc _
 have sn:=sl_new u13 [eC]
 have B3:=B2.fr0 fn
 replace hF:=hk _ _ fn hF
 refine hK.out _ _ hF (fun hA=>?_)
 clear hK K'
 as_aux_lemma =>
 refine wpAnyS_one hA rfl (fun K' hK=>?_)
 rw [if_pos (by rfl)]
 go_simp
 go_at_call 20
 refine (mgRows_any B3.hs nd15 (by decide) _ _ 1 [eC] rfl sn (by simp)).mono ?_
 rintro e u14 hr14
 obtain ⟨Ar,nr,cr,lr,rfl,pr,br,rr,f14⟩:=hr14.u
 have hl2:nr = 2:=by rw [rr.s.len,opsC pr];exact runx2'
 subst hl2
 replace hF:=hk _ _ f14 hF
 refine hK.out _ _ hF (fun hA=>?_)
 clear hK K'
 as_aux_lemma =>
 have B4:=B3.fr0 f14
 clear B2 B3 fn sn pr br rr f14 hr14
 iterate 5
  refine wpAnyS_take (v:=?_) hA rfl (fun _ _ _ h=>h) (Or.inl ⟨by rfl,?_⟩) hF (fun hA=>?_)
  rotate_left
  ·intro wS hSw;(try dsimp only at hSw);obtain ⟨s1,s2,s3,s4,s5,s6,s7,s8,s9,s10,s11,s12⟩:=hSw;first | (apply Eq.trans;apply ex_ld_id;exact rfl;exact rfl;assumption;with_reducible rfl) | (apply Eq.trans;apply ex_bld0_at;exact rfl;with_reducible rfl) | (go_simp;try with_reducible rfl)
  try simp only [List.getElem_toArray,List.getElem_cons_zero,List.getElem_cons_succ,Act.put,List.setIfInBounds_toArray,List.set_cons_zero,List.set_cons_succ]
 refine wpAnyS_one hA rfl (fun K' hK=>?_)
 rw [if_pos (by rfl)]
 go_simp
 go_at_call 12
 refine (mgDag_any B4.hs).mono ?_
 rintro e u15 ⟨D,Fd,rfl,hd,f15⟩
 replace hF:=hk _ _ f15 hF
 refine hK.out _ _ hF (fun hA=>?_)
 clear hK K'
 as_aux_lemma =>
 have B5:=B4.fr0 f15
 clear B4 f15
 refine wpAnyS_one hA rfl (fun K' hK=>?_)
 rw [if_pos (by rfl)]
 go_simp
 go_at_call 13
 refine (len_any _ D Fd (dgH L15c) hd).mono ?_
 rintro e u16 ⟨rfl,f16⟩
 rw [show (dgH L15c).length = 3 from rfl]
 replace hF:=hk _ _ f16 hF
 refine hK.out _ _ hF (fun hA=>?_)
 clear hK K'
 as_aux_lemma =>
 have B6:=B5.fr0 f16
 clear B5 f16 hd
 iterate 2
  refine wpAnyS_take (v:=?_) hA rfl (fun _ _ _ h=>h) (Or.inl ⟨by rfl,?_⟩) hF (fun hA=>?_)
  rotate_left
  ·intro wS hSw;(try dsimp only at hSw);obtain ⟨s1,s2,s3,s4,s5,s6,s7,s8,s9,s10,s11,s12⟩:=hSw;first | (apply Eq.trans;apply ex_ld_id;exact rfl;exact rfl;assumption;with_reducible rfl) | (apply Eq.trans;apply ex_bld0_at;exact rfl;with_reducible rfl) | (go_simp;try with_reducible rfl)
  try simp only [List.getElem_toArray,List.getElem_cons_zero,List.getElem_cons_succ,Act.put,List.setIfInBounds_toArray,List.set_cons_zero,List.set_cons_succ]
 refine wpAnyS_end hA rfl ?_
 simp only [List.drop_succ_cons,List.drop_zero]
 have hfr:=B6.fr
 clear hF hk hF0 B6
 go_wp2_with fail
 go_ret
 exact ⟨rfl,hfr⟩
end Go.Proofs.YtjpieiccpbcabaaGreat
