/- Layer 13's first line: a tree of a node is saved and loaded. (ex_ldS_at, ex_ldR_at) Layer 13's first line: contract of alive. (ex_ldS_at, ex_ldR_at) -/
import Derived.Test.YtnkdnbjmhoegkaaGreatSvFKq
import Derived.Test.YtnkdnbjmhoegkaaGreatSvLKq
import Derived.Test.YtnkdnbjmhoegkaaGreatLdDKq
import Derived.Test.YtnkdnbjmhoegkaaGreatSmDKq
set_option linter.unusedVariables false
set_option linter.unusedSimpArgs false
namespace Go.Proofs.YtnkdnbjmhoegkaaGreat
open Go.RowKit Go.Maps Go.Sort
/-! what Load answers where no names clash -/
theorem LoTo.good {w w':World} {e:Ending} {rs:List RwP} {objs:List (List UInt8)} (T:TreeOk rs) (N:NarrowZ rs) (C:NoClash nameH objs) (hm:∀ b ∈ allZ nameH rs,b ∈ objs) (h:LoTo w (dirO nameH objs) (saveZ nameH rs) e w') :
  ∃ A c ws,e = .returned (.tuple #[.slice A ws.length c,.int .i64 0]) ∧ Sl w' A (codR.row ws) ∧ RwsIn w' ws rs ∧ ws.length ≤ 5000 ∧ Fr noB w w':=by
 obtain ⟨E,acc,A,c,ws,he,hl,hf,_,h0⟩:=h
 obtain ⟨rfl,hp⟩:=load_good T N C hm hl
 obtain ⟨xs,hx,hs,hi,hb,hr⟩:=h0 rfl
 have hpr:=hx.trans hp
 have hrp:rs.Pairwise fun a b=>cmpS a.Node b.Node < 0:=riseR_pw T.rise
 have hnd:xs.Pairwise fun a b=>a.Node ≠ b.Node:=by
  have h1:rs.Pairwise fun a b=>a.Node ≠ b.Node:=hrp.imp fun {a b} h e=>by rw [e,cmpS_self] at h;omega
  exact (hpr.pairwise_iff (fun {a b} h e=>h e.symm)).2 h1
 have:xs = rs:=rise_uniqZ hpr (sort_rise hr hnd) hrp
 subst this
 exact ⟨A,c,ws,he,hs,hi,by rw [hi.len];exact hb,hf⟩
theorem LoTo.no {w w':World} {e:Ending} {id:ID} {objs:List (List UInt8)} (hn:findO nameH objs id = none) (h:LoTo w (dirO nameH objs) id e w'):e = .returned (.tuple #[.slice none 0 0,.int .i64 4]) ∧ Fr noB w w':=by
 have hD:(dirO nameH objs id).1 = 4:=by unfold dirO;rw [hn]
 obtain ⟨E,acc,A,c,ws,he,hl,hf,h1,_⟩:=h
 have h4:E = 4:=by
  cases hl with
  | noDir _=>exact hD
  | bad h _ _=>rw [hD] at h;omega
  | under h _ _ _ _=>rw [hD] at h;omega
  | noSub h _ _ _ _=>rw [hD] at h;omega
  | subE h _ _ _ _ _=>rw [hD] at h;omega
  | trashE h _ _ _ _ _ _ _=>rw [hD] at h;omega
  | all h _ _ _ _ _ _=>rw [hD] at h;omega
 subst h4
 obtain ⟨rfl,rfl,rfl⟩:=h1 (by decide)
 exact ⟨he,hf⟩
/-! the example -/
def r1Z:RwP:=⟨⟨1,1⟩,zSt,⟨1,1⟩,[97],[]⟩
def r2Z:RwP:=⟨⟨2,1⟩,⟨1,1⟩,⟨2,1⟩,[98],[⟨⟨3,1⟩,id2 7 0⟩]⟩
def rsZ:List RwP:=[r1Z,r2Z]
theorem treeZ:TreeOk rsZ:=⟨by decide,fun r hr=>by
 rcases List.mem_cons.1 hr with rfl | hr
 ·decide
 ·rw [List.mem_singleton] at hr;subst hr;decide,by decide,fun r hr=>by
 rcases List.mem_cons.1 hr with rfl | hr
 ·exact ⟨1,by decide⟩
 ·rw [List.mem_singleton] at hr;subst hr;exact ⟨2,by decide⟩⟩
theorem kids_le (rs:List RwP) (p:St):(kidsZ rs p).length ≤ rs.length:=List.length_filter_le _ _
theorem narrowZ:NarrowZ rsZ:=fun p=>Nat.le_trans (kids_le _ _) (by decide)
noncomputable def objsZ:List (List UInt8):=putAll [] (allZ nameH rsZ)
theorem lenZ:objsZ.length = 2:=by kernel_rfl
theorem noneZ:(findO nameH objsZ (id2 1 0)).isNone = true:=by kernel_rfl
theorem hashZ:(objsZ.map fun b=>(nameH b).1.head?) = [some 142,some 2]:=by kernel_rfl
theorem clashZ:NoClash nameH objsZ:=by
 have hl:=lenZ
 have hh:=hashZ
 generalize objsZ = l at hl hh
 match l,hl with
 | [a,b],_ =>
  simp only [List.map_cons,List.map_nil,List.cons.injEq,and_true] at hh
  have hab:nameH a ≠ nameH b:=fun e=>by rw [e,hh.2] at hh;exact absurd hh.1 (by decide)
  refine ⟨fun x hx=>?_,fun x hx y hy e=>?_⟩
  ·simp only [List.mem_cons,List.not_mem_nil,or_false] at hx
   rcases hx with rfl | rfl
   ·intro e;rw [e] at hh;exact absurd hh.1 (by decide)
   ·intro e;rw [e] at hh;exact absurd hh.2 (by decide)
  ·simp only [List.mem_cons,List.not_mem_nil,or_false] at hx hy
   rcases hx with rfl | rfl <;> rcases hy with rfl | rfl
   ·rfl
   ·exact absurd e hab
   ·exact absurd e.symm hab
   ·rfl
theorem linksZ:(cpt (sortBy cmpI (lksR rsZ))).length = 1:=by
 have h1:(sortBy cmpI (lksR rsZ)).Perm (lksR rsZ):=List.mergeSort_perm _ _
 have h2:lksR rsZ = [id2 7 0]:=rfl
 rw [h2] at h1 ⊢
 rw [List.perm_singleton.1 h1]
 rfl
/-! values built of parts -/
theorem bldHd2z (w:World) (s:St) (x:ID):(Instr.build 49 #[(0,.agg (codS.A s)),(1,encI x)]).run Tryz.prog w = .ok (.agg (codH.A ⟨s,x⟩)) w:=by
 have h1:∀ place:Nat → Option (Nat × Nat),place 0 = some (0,2) → place 1 = some (2,32) → Instr.fill place ([] ++ [Value.int .i64 0,Value.int .i64 0] ++ bv zID.1).toArray [(0,.agg (codS.A s)),(1,encI x)] = some (codH.cs ⟨s,x⟩).toArray:=by
  intro place p0 p1
  refine (fill_one place [] [.int .i64 0,.int .i64 0] (bv zID.1) [.int .i64 s.T,.int .i64 s.R] 0 (.agg (codS.A s)) _ (by rw [A_SS];rfl) (by simpa using p0) rfl).trans ?_
  have e1:=fill_one place [.int .i64 s.T,.int .i64 s.R] (bv zID.1) [] (bv x.1) 1 (encI x) [] (cellsI x) (by simpa [x.2] using p1) (by simp [x.2,zID])
  refine Eq.trans ?_ (e1.trans ?_)
  ·simp
  ·simp [Instr.fill,codH,csH]
 have hz:(zeroValue 49).run Tryz.prog w = .ok (.agg (codH.cs codH.z).toArray) w:=okH.zero w
 have hc:(Value.agg (codH.cs codH.z).toArray).cells = ([] ++ [Value.int .i64 0,Value.int .i64 0] ++ bv zID.1).toArray:=rfl
 have hsI:∀ w,(sizeOf 34).run Tryz.prog w = .ok 32 w:=fun w=>Tryz.sizeOf34 w
 simp only [Instr.build,Sem.run_bind,hz,Result.andThen_ok,run_underlying Tryz.underlying49,hc]
 simp only [List.mapM_toArray,List.mapM_cons,List.mapM_nil,Sem.run_bind,hsI,Tryz.sizeOf24,Result.andThen_ok,Sem.run_pure,Sem.run_map,map_pure,bind_pure_comp]
 rw [h1 _ rfl rfl]
 simp [Cod.A_eq]
@[simp ↓] theorem ex_bldHdz (ρ:Operand → Value) (x0 x1:Operand) (d:Option Nat) (t:TypeId) (p:String) (f:Array Edge) (g:Option (Nat × Bool)) (w:World) :
  (execOp ρ { dst:=d,op:=.build 49 #[(0,x0),(1,x1)],type:=t,pos:=p,after:=f,guard:=g }).run Tryz.prog w = mkB 49 w [(0,ρ x0),(1,ρ x1)]:=(exB ρ _ _ _ rfl w).trans (by simp only [List.map_toArray,List.map_cons,List.map_nil])
@[simp] theorem mkB_Hdz (w:World) (s:St) (x:ID):mkB 49 w [(0,.agg (codS.A s)),(1,encI x)] = .ok (.value (.agg (codH.A ⟨s,x⟩))) w:=mkB_ok (bldHd2z w s x)
def rwA:RwW:=⟨⟨1,1⟩,zSt,⟨1,1⟩,[97],none,0,0⟩
theorem bldR_a (w:World):(Instr.build 28 #[(0,.agg (codS.A ⟨1,1⟩)),(2,.agg (codS.A ⟨1,1⟩)),(3,.string ⟨#[97]⟩)]).run Tryz.prog w = .ok (.agg (codR.A rwA)) w:=by
 rw [Cod.A_eq,Cod.A_eq]
 kernel_rfl
@[simp ↓] theorem ex_bldRa (ρ:Operand → Value) (x0 x2 x3:Operand) (d:Option Nat) (t:TypeId) (p:String) (f:Array Edge) (g:Option (Nat × Bool)) (w:World) :
  (execOp ρ { dst:=d,op:=.build 28 #[(0,x0),(2,x2),(3,x3)],type:=t,pos:=p,after:=f,guard:=g }).run Tryz.prog w = mkB 28 w [(0,ρ x0),(2,ρ x2),(3,ρ x3)]:=(exB ρ _ _ _ rfl w).trans (by simp only [List.map_toArray,List.map_cons,List.map_nil])
@[simp] theorem mkB_Ra (w:World):mkB 28 w [(0,.agg (codS.A ⟨1,1⟩)),(2,.agg (codS.A ⟨1,1⟩)),(3,.string ⟨#[97]⟩)] = .ok (.value (.agg (codR.A rwA))) w:=mkB_ok (bldR_a w)
def rwB (A:Option Addr):RwW:=⟨⟨2,1⟩,⟨1,1⟩,⟨2,1⟩,[98],A,1,1⟩
@[simp ↓] theorem ex_bldRb (ρ:Operand → Value) (x0 x1 x2 x3 x4:Operand) (d:Option Nat) (t:TypeId) (p:String) (f:Array Edge) (g:Option (Nat × Bool)) (w:World) :
  (execOp ρ { dst:=d,op:=.build 28 #[(0,x0),(1,x1),(2,x2),(3,x3),(4,x4)],type:=t,pos:=p,after:=f,guard:=g }).run Tryz.prog w = mkB 28 w [(0,ρ x0),(1,ρ x1),(2,ρ x2),(3,ρ x3),(4,ρ x4)]:=(exB ρ _ _ _ rfl w).trans (by simp only [List.map_toArray,List.map_cons,List.map_nil])
@[simp] theorem mkB_Rb (w:World) (A:Option Addr):mkB 28 w [(0,.agg (codS.A ⟨2,1⟩)),(1,.agg (codS.A ⟨1,1⟩)),(2,.agg (codS.A ⟨2,1⟩)),(3,.string ⟨#[98]⟩),(4,.slice A 1 1)] = .ok (.value (.agg (codR.A (rwB A)))) w:=mkB_ok (bldR_5 w ⟨2,1⟩ ⟨1,1⟩ ⟨2,1⟩ [98] A 1 1)
theorem zsR2:(Array.range (2 * 8)).map ((codR.v codR.z).cells[· % (codR.v codR.z).cells.size]!) = ([] ++ codR.cs codR.z ++ codR.cs codR.z).toArray:=by rw [codR.v_cells];kernel_rfl
theorem bsR_2 (w:World) (x y:RwW):(Instr.buildSlice 25 2 #[(0,.agg (codR.A x)),(1,.agg (codR.A y))]).run Tryz.prog w = .ok (.slice (some ⟨w.heap.size,0,none⟩) 2 2) (w.alloc (codR.ro [x,y])):=by
 have h1:Instr.fill (fun i=>some (i * 8,8)) ([] ++ codR.cs codR.z ++ codR.cs codR.z).toArray [(0,codR.v x),(1,codR.v y)] = some (codR.row [x,y]).toArray:=by
  refine (fill_one (fun i=>some (i * 8,8)) [] (codR.cs codR.z) (codR.cs codR.z) (codR.cs x) 0 (codR.v x) [(1,codR.v y)] (codR.v_cells x) (by simp [codR.len];rfl) (by simp [codR.len])).trans ?_
  have:=fill_one (fun i=>some (i * 8,8)) (codR.cs x) (codR.cs codR.z) [] (codR.cs y) 1 (codR.v y) [] (codR.v_cells y) (by simp [codR.len];rfl) (by simp [codR.len])
  rw [List.append_nil] at this
  refine this.trans (by simp [Instr.fill,Cod.row])
 have hz:∀ w,(zeroValue codR.t).run Tryz.prog w = .ok (codR.v codR.z) w:=fun w=>okR.zv w
 have hz':∀ w,(zeroValue 28).run Tryz.prog w = .ok (codR.v codR.z) w:=fun w=>okR.zv w
 have hsz:∀ w,(sizeOf 28).run Tryz.prog w = .ok 8 w:=fun w=>Tryz.sizeOf28 w
 show (Instr.buildSlice 25 2 #[(0,codR.v x),(1,codR.v y)]).run Tryz.prog w = _
 simp only [Instr.buildSlice,Sem.run_bind,run_underlying Tryz.underlying25,Result.andThen_ok,hsz,hz']
 simp only [show (2 * 8 > 2 ^ 24) = False from by simp,show (2 * 8 = 0) = False from by simp,if_false,Sem.run_bind,hz',Result.andThen_ok,Sem.run_pure,zsR2,h1]
 simp [newRow,newObj,codR.ro_eq,Sem.run,Result.andThen];rfl
@[irreducible] noncomputable def bsRt (w:World) (v u:Value):Result Next:=((Instr.buildSlice 25 2 #[(0,v),(1,u)]).run Tryz.prog w).andThen (fun v w=>.ok (.value v) w)
@[simp ↓] theorem ex_bsRt (ρ:Operand → Value) (a b:Operand) (d:Option Nat) (t:TypeId) (p:String) (f:Array Edge) (g:Option (Nat × Bool)) (w:World) :
  (execOp ρ { dst:=d,op:=.buildSlice 25 2 #[(0,a),(1,b)],type:=t,pos:=p,after:=f,guard:=g }).run Tryz.prog w = bsRt w (ρ a) (ρ b):=by
 unfold execOp bsRt
 simp only [List.map_toArray,List.map_cons,List.map_nil,Sem.run_bind,Sem.run_pure]
@[simp] theorem bsRt_at (w:World) (x y:RwW):bsRt w (.agg (codR.A x)) (.agg (codR.A y)) = .ok (.value (.slice (some ⟨w.heap.size,0,none⟩) 2 2)) (w.alloc (codR.ro [x,y])):=by
 unfold bsRt;rw [bsR_2];rfl
set_option maxRecDepth 100000 in
set_option maxHeartbeats 4000000 in
theorem alive13_any (w:World):Calls Tryz.prog 6 #[] w (Gives w (.bool true)):=by
 go_enter Tryz.func6,Tryz.ntmps6
 go_upto_region 2 with fail
 have fx:Fr noB w (w.alloc (.cells #[.slice none 0 0] 32)):=(Fr.refl noB w).alloc _
 have HX:=Lib.hid (BoxIn.new w (fun _=>False))
 have HF:=Lib.hid fx
 clear fx
 generalize hX:w.alloc (.cells #[.slice none 0 0] 32) = w1 at HX HF ⊢
 generalize hXX:w.heap.size = X at HX ⊢
 have HXX:=Lib.hid hXX
 clear hX hXX
 go_upto_region 3 with fail
 have fa:Fr noB w1 (w1.alloc (codS.o ⟨1,1⟩)):=(Fr.refl noB w1).alloc _
 have q1:=Cod.rd_new' (C:=codS) w1 ⟨1,1⟩
 have HX2:=Lib.hid (HX.out.fr0 fa)
 have HF2:=Lib.hid (HF.out.step0 fa)
 clear fa
 generalize w1.alloc (codS.o ⟨1,1⟩) = w2 at q1 HX2 HF2 ⊢
 generalize w1.heap.size = S at q1 ⊢
 go_upto_region 4 with fail
 have fh:Fr noB w2 (w2.alloc (codH.ro [⟨⟨3,1⟩,id2 7 0⟩])):=(Fr.refl noB w2).alloc _
 have sh:=Cod.sl_new (C:=codH) w2 [⟨⟨3,1⟩,id2 7 0⟩]
 have fr:Fr noB (w2.alloc (codH.ro [⟨⟨3,1⟩,id2 7 0⟩])) ((w2.alloc (codH.ro [⟨⟨3,1⟩,id2 7 0⟩])).alloc (codR.ro [rwA,rwB (some ⟨w2.heap.size,0,none⟩)])):=(Fr.refl noB _).alloc _
 have sr:=Cod.sl_new (C:=codR) (w2.alloc (codH.ro [⟨⟨3,1⟩,id2 7 0⟩])) [rwA,rwB (some ⟨w2.heap.size,0,none⟩)]
 have sh:=sh.fr0 fr
 have HX3:=Lib.hid (HX2.out.fr0 (fh.step0 fr))
 have HF3:=Lib.hid (HF2.out.step0 (fh.step0 fr))
 rw [World.size_alloc] at sr
 have hXP:X < w2.heap.size:=HX2.out.lt
 clear fh fr q1 HX2 HF2 HX HF
 generalize (w2.alloc (codH.ro [⟨⟨3,1⟩,id2 7 0⟩])).alloc (codR.ro [rwA,rwB (some ⟨w2.heap.size,0,none⟩)]) = w3 at sh sr HX3 HF3 ⊢
 generalize w2.heap.size = P at sh sr hXP ⊢
 have HI3:=Lib.hid (show RwsIn w3 [rwA,rwB (some ⟨P,0,none⟩)] rsZ from ⟨rfl,fun i h1 h2=>by
  match i,h1 with
  | 0,_=>exact (show RwIn w3 rwA r1Z from ⟨rfl,rfl,Sl.nil _ _,by decide,by decide,by decide,by decide⟩)
  | 1,_=>exact (show RwIn w3 (rwB (some ⟨P,0,none⟩)) r2Z from ⟨rfl,rfl,sh,by decide,by show 1 ≤ _;omega,by show wfS ⟨2,1⟩ = true;decide,by show wfS ⟨1,1⟩ = true;decide⟩)⟩)
 have HS3:=Lib.hid sr
 have HK3:=Lib.hid (show KdX w3 X (some ⟨P + 1,0,none⟩) [rwA,rwB (some ⟨P,0,none⟩)] rsZ from ⟨sr,HI3.out,fun _ a ha=>by injection ha with ha;subst ha;show P + 1 ≠ X;omega,fun i h1 h2 hne=>by
  match i,h1 with
  | 0,_=>exact absurd rfl hne
  | 1,_=>intro a ha;have ha:some (⟨P,0,none⟩:Addr) = some a:=ha;injection ha with ha;subst ha;show P ≠ X;omega⟩)
 have hall:(allZ nameH rsZ).length = 2:=by kernel_rfl
 have CS:=Lib.hid (svsave_any w3 X (fun _=>False) (fun g h=>h.elim) [] HX3.out (some ⟨P + 1,0,none⟩) 2 2 _ rsZ rfl HK3.out treeZ (by rw [hall];decide))
 clear sh sr hall hXP
 go_upto_region 5 with (go_at_call 7;refine CS.out.mono ?_;rintro e w4 h4;obtain ⟨_,rfl,hx4,f4⟩:=h4.resolve_right (fun h=>h.1 narrowZ);obtain ⟨sv,hsv⟩:∃ s,s = saveZ nameH rsZ:=⟨_,rfl⟩;rw [← hsv];have HSV:=Lib.hid hsv;have HX4:=Lib.hid (show BoxIn w4 X (fun _=>False) objsZ from hx4);have HF4:=Lib.hid f4;clear hsv hx4 f4 h4)
 obtain ⟨pf1,pf2,pf3⟩:=putB_fr (bxI_new w4 zID) sv
 have fs:Fr noB w4 (putB (w4.alloc (ido zID)) w4.heap.size sv):=((Fr.refl noB w4).alloc (ido zID)).step1 pf1 (Nat.le_refl _)
 have q4:=bxI_rd pf3
 have HX5:=Lib.hid (HX4.out.fr0 fs)
 have HK5:=Lib.hid ((HK3.out.fr HF4.out).fr fs.any)
 have HF5:=Lib.hid (((HF3.out.step1 HF4.out (by rw [HXX.out];exact Nat.le_refl _))).step0 fs)
 clear pf1 pf2 pf3 fs
 generalize putB (w4.alloc (ido zID)) w4.heap.size sv = w5 at q4 HX5 HK5 HF5 ⊢
 generalize w4.heap.size = D at q4 ⊢
 have hln:objsZ.length ≤ 1000000000:=by rw [lenZ];decide
 have HLN:=Lib.hid hln
 have CL:=Lib.hid (svload_any w5 X _ objsZ HX5.out hln sv)
 clear hln HK3 HX4 HX3 HI3 HS3 CS HF4 HF3
 go_upto_region 6 with (go_at_call 9;refine CL.out.mono ?_;rintro e w6 h6;rw [HSV.out] at h6;obtain ⟨A6,c6,ws6,rfl,hs6,hi6,hb6,f6⟩:=h6.good treeZ narrowZ clashZ (fun b hb=>mem_putAll.2 (.inr hb));have HS6:=Lib.hid hs6;have HI6:=Lib.hid hi6;have HB6:=Lib.hid hb6;have HF6:=Lib.hid f6;clear hs6 hi6 hb6 f6)
 have HX6:=Lib.hid (HX5.out.fr0 HF6.out)
 have HK6:=Lib.hid (HK5.out.fr HF6.out.any)
 have CM:=Lib.hid (svload_any w6 X _ objsZ HX6.out HLN.out (id2 1 0))
 clear q4
 go_upto_region 7 with (go_at_call 9;refine CM.out.mono ?_;rintro e w7 h7;obtain ⟨rfl,f7⟩:=h7.no (Option.isNone_iff_eq_none.1 noneZ);have HF7:=Lib.hid f7;clear f7 h7)
 have HX7:=Lib.hid (HX6.out.fr0 HF7.out)
 have HK7:=Lib.hid (HK6.out.fr HF7.out.any)
 have CE:=Lib.hid (r12sameY_any w7 A6 (some ⟨P + 1,0,none⟩) c6 2 ws6.length 2 ws6 _ rsZ rsZ rfl rfl (HS6.out.fr0 HF7.out) HK7.out.sl (HI6.out.fr HF7.out) HK7.out.inn (by have:=HB6.out;omega) (by show 2 ≤ _;omega))
 rw [decide_eq_true rfl] at CE
 obtain ⟨A0,c0,rs0,hk7,hr7⟩:=HX7.out
 have hl0:rs0.length = 2:=by rw [hr7.bs.len,lenZ]
 rw [hl0] at hk7
 have HK0:=Lib.hid hk7
 have hbd:∀ x ∈ rsZ,x.Heads.length ≤ 1000:=fun x hx=>by
  rcases List.mem_cons.1 hx with rfl | hx
  ·decide
  ·rw [List.mem_singleton] at hx;subst hx;decide
 have CT:=Lib.hid (fun w8 (f:Fr noB w7 w8)=>ntreeZ_yes w8 (some ⟨P + 1,0,none⟩) 2 2 _ rsZ rfl (HK7.out.sl.fr0 f) (by show 2 ≤ _;omega) (HK7.out.inn.fr f) (fun x hx=>by have:=hbd x hx;omega) treeZ)
 have CK:=Lib.hid (fun w8 (f:Fr noB w7 w8)=>svlinks_any w8 (some ⟨P + 1,0,none⟩) 2 2 _ rsZ rfl (HK7.out.sl.fr0 f) (by show 2 ≤ _;omega) (HK7.out.inn.fr f) hbd)
 have HW7:=Lib.hid ((HF5.out.step0 HF6.out).step0 HF7.out)
 clear hk7 hr7 hl0 hbd CM CL
 go_wp2_with (first
  | (go_at_call 11;refine CE.out.mono ?_;rintro e w8 ⟨rfl,f8⟩;have HF8:=Lib.hid f8;have k8:w8.cell? ⟨X,0,none⟩ = some (.slice A0 2 c0):=(by rw [(HK0.out.fr f8 (by simp [noB])).cell];rfl);clear f8)
  | (go_at_call 13;refine (CT.out _ HF8.out).mono ?_;rintro e w9 ⟨rfl,f9⟩;have HF9:=Lib.hid (HF8.out.step0 f9);clear f9)
  | (go_at_call 15;refine (CK.out _ HF9.out).mono ?_;rintro e w10 ⟨A10,c10,rfl,f10⟩;rw [linksZ];have HF10:=Lib.hid (HF9.out.step0 f10);clear f10))
 go_ret
 exact ⟨rfl,HW7.out.step0 HF10.out⟩
end Go.Proofs.YtnkdnbjmhoegkaaGreat
