/- Words for MergeTwo, MergeSafe, MergeKnown: rules at operations, rows that are the same, histories of grown. The law MergeTwo: it returns true. (rdI, ex_bld0_at) MergeTwo's walk, as the law's frame asks for it. -/
import Derived.Test.YtjpieiccpbcabaaGreatMgGwK
import Derived.Test.YtjpieiccpbcabaaGreatSmDK
namespace Go.Proofs.YtjpieiccpbcabaaGreat
open Go.RowKit Go.Maps Go.Sort
set_option linter.unusedVariables false
set_option linter.unusedSimpArgs false

theorem ex_alM_at {ρ:Operand → Value} {o:Oper} (ho:o.op = .alloc 24) (w:World):(execOp ρ o).run Tryz.prog w = .ok (.value (.pointer (some ⟨w.heap.size,0,none⟩))) (w.alloc (ido zID)):=by
 obtain ⟨d,op,t,p,f,g⟩:=o
 simp only at ho
 subst ho
 rw [ex_al]
theorem step_skipM {P:Program} {w:World} {o:Oper} {a:Act} {K:Act → World → Prop} {Q:Exit → Act → World → Prop} (w':World)
  (hr:(execOp a.eval o).run P w = .ok .skip w') (h:K (a.put o.dst undef) w'):Oper.wp P o a w K Q:=by
 unfold Oper.wp
 rw [hr]
 exact h
theorem ex_stM_at {ρ:Operand → Value} {o:Oper} {a b:Operand} {w:World} {k:Nat} {x y:ID} (ho:o.op = .store 24 a b) (ha:ρ a = .pointer (some ⟨k,0,none⟩)) (hb:ρ b = encI x) (hk:bxI w k = some y):(execOp ρ o).run Tryz.prog w = .ok .skip (putB w k x):=by
 obtain ⟨d,op,t,p,f,g⟩:=o
 simp only at ho
 subst ho
 rw [ex_st,ha,hb]
 exact stI_box hk x
theorem ex_bsM2_at {ρ:Operand → Value} {o:Oper} {a b:Operand} {w:World} {x y:ID} (ho:o.op = .buildSlice 32 2 #[(0,a),(1,b)]) (ha:ρ a = encI x) (hb:ρ b = encI y):(execOp ρ o).run Tryz.prog w = .ok (.value (.slice (some ⟨w.heap.size,0,none⟩) 2 2)) (w.alloc (rowo [x,y])):=by
 obtain ⟨d,op,t,p,f,g⟩:=o
 simp only at ho
 subst ho
 rw [ex_bs2,ha,hb,bsI2_at]
theorem zs3:(Array.range (3 * 32)).map ((encI zID).cells[· % (encI zID).cells.size]!) = ([] ++ z32 ++ (z32 ++ z32)).toArray:=by rw [cellsI];kernel_rfl
theorem bs_3 (w:World) (x y z:ID):(Instr.buildSlice 32 3 #[(0,encI x),(1,encI y),(2,encI z)]).run Tryz.prog w = .ok (.slice (some ⟨w.heap.size,0,none⟩) 3 3) (w.alloc (rowo [x,y,z])):=by
 have h1:Instr.fill (fun i=>some (i * 32,32)) ([] ++ z32 ++ (z32 ++ z32)).toArray [(0,encI x),(1,encI y),(2,encI z)] = some (idc [x,y,z]).toArray:=by
  refine (fill_one (fun i=>some (i * 32,32)) [] z32 (z32 ++ z32) (bv x.1) 0 (encI x) [(1,encI y),(2,encI z)] (cellsI x) (by simp [x.2]) (by simp [x.2,z32_len])).trans ?_
  have h2:=fill_one (fun i=>some (i * 32,32)) (bv x.1) z32 z32 (bv y.1) 1 (encI y) [(2,encI z)] (cellsI y) (by simp [x.2,y.2]) (by simp [y.2,z32_len])
  rw [List.nil_append,← List.append_assoc]
  refine h2.trans ?_
  have h3:=fill_one (fun i=>some (i * 32,32)) (bv x.1 ++ bv y.1) z32 [] (bv z.1) 2 (encI z) [] (cellsI z) (by simp [x.2,y.2,z.2]) (by simp [z.2,z32_len])
  rw [List.append_nil] at h3
  refine h3.trans (by simp [Instr.fill,idc])
 simp only [Instr.buildSlice,Sem.run_bind,run_underlying Tryz.underlying32,Result.andThen_ok,sizeID,zeroID]
 simp only [show (3 * 32 > 2 ^ 24) = False from by simp,show (3 * 32 = 0) = False from by simp,if_false,Sem.run_bind,zeroID,Result.andThen_ok,Sem.run_pure,zs3,h1]
 simp [newRow,newObj,rowo,idR_eq,Sem.run,Result.andThen]
theorem ex_bsM3_at {ρ:Operand → Value} {o:Oper} {a b c:Operand} {w:World} {x y z:ID} (ho:o.op = .buildSlice 32 3 #[(0,a),(1,b),(2,c)]) (ha:ρ a = encI x) (hb:ρ b = encI y) (hc:ρ c = encI z):(execOp ρ o).run Tryz.prog w = .ok (.value (.slice (some ⟨w.heap.size,0,none⟩) 3 3)) (w.alloc (rowo [x,y,z])):=by
 obtain ⟨d,op,t,p,f,g⟩:=o
 simp only at ho
 subst ho
 unfold execOp
 simp only [List.map_toArray,List.map_cons,List.map_nil,Sem.run_bind,Sem.run_pure]
 rw [ha,hb,hc,bs_3]
 rfl
theorem same_rows {w:World} {A B:Option Addr} {n m c d:Nat} {ops:List Opn} (h:RowsS w A n c ops) (h':RowsS w B m d ops) (hb:ops.length ≤ 64000):Calls Tryz.prog 19 #[.slice A n c,.slice B m d] w (Gives w (.bool true)):=by
 have ln:=h.len
 have lm:=h'.len
 have lr:=runX_len [] ops
 simp only [List.length_nil] at lr
 obtain ⟨rs,ss,ys,e1,e2,s1,s2,i1,i2⟩:=h.same h'
 have:=r12sameY_any w A B c d n m rs ss ys ys e1 e2 s1 s2 i1 i2 (by omega) (by omega)
 simpa using this
theorem RowsS.fr0 {w w':World} {A:Option Addr} {n c:Nat} {ops:List Opn} (h:RowsS w A n c ops) (f:Fr noB w w'):RowsS w' A n c ops:=by
 obtain ⟨rs,ys,h1,h2,h3,h4⟩:=h
 exact ⟨rs,ys,h1,h2.fr0 f,h3.fr f,h4⟩
theorem Gw.ok0 {L:Hst} {ts:List Int} (h:Gw L ts) {i j:Nat} (hi:i < ts.length) (hj:j < ts.length):mgE L (idG i) (idG j) = 0:=by
 obtain ⟨c,hc,ec⟩:=h.has i hi
 obtain ⟨d,hd,ed⟩:=h.has j hj
 have h1:=h.tm _ (List.getElem_mem hi)
 have h2:=h.tm _ (List.getElem_mem hj)
 have hl:=h.le
 rw [← ec] at h1
 rw [← ed] at h2
 unfold mgE
 rw [hc,hd]
 simp only
 split
 ·rfl
 ·split
  ·rfl
  ·rw [if_neg (by omega)]
end Go.Proofs.YtjpieiccpbcabaaGreat
namespace Go.Proofs.YtjpieiccpbcabaaGreat
open Go.RowKit Go.Maps Go.Sort
set_option linter.unusedVariables false
set_option linter.unusedSimpArgs false

theorem lift_T3 {X:Prop} {P:Program} {md:Region.Mode} {ops:Array Oper} {Q:Exit → Act → World → Prop} {FF:World → Prop} {n fuel:Nat} {s:Sch} {act:Nat → Nat → Value → Act} {F:Nat → Nat → Value → World → Prop}
  (h1:(∀ a b v L W,F a b v W → RegT md ops n L s → wpAnyN P md ops Q FF n fuel L (act a b v) W) → X)
  (h2:∀ a b v L W,F a b v W → RegT md ops n L s → wpAnyN P md ops Q FF n fuel L (act a b v) W):X:=h1 h2
theorem reached_tri {G:Dg} {x y z:ID}:Reached G [y,x,y] z ↔ Reached G [x,y] z:=by
 rw [reached_two]
 simp only [Reached,List.mem_cons,List.not_mem_nil,or_false]
 constructor
 ·rintro ⟨i,hi,h⟩
  rcases hi with rfl | rfl | rfl
  ·exact .inr h
  ·exact .inl h
  ·exact .inr h
 ·rintro (h | h)
  ·exact ⟨x,.inr (.inl rfl),h⟩
  ·exact ⟨y,.inl rfl,h⟩
structure Tw15 (w:World) (pa pb N:Nat) (x y F:ID) (A:Option Addr) (n c:Nat):Prop where
 a:rdI w pa 0 = some x
 b:rdI w pb 0 = some y
 f:rdI w N 0 = some F
 r:w.cell? ⟨N,33,none⟩ = some (.slice A n c)
theorem Tw15.fr {w w':World} {pa pb N:Nat} {x y F:ID} {A:Option Addr} {n c:Nat} (h:Tw15 w pa pb N x y F A n c) (f:Fr noB w w'):Tw15 w' pa pb N x y F A n c :=
 ⟨rdI_fr h.a (rdI_lt h.a) f (by simp [noB]),rdI_fr h.b (rdI_lt h.b) f (by simp [noB]),rdI_fr h.f (rdI_lt h.f) f (by simp [noB]),cell_fr0 h.r f⟩
set_option maxRecDepth 100000 in
set_option maxHeartbeats 8000000 in
theorem two15_any (w:World) (A0:Option Addr) (c0 n:Nat) (nums:List Tri) (a1 a2:Int) (hn:nums.length = n) (hs:Sl w A0 (codTr.row nums)) (hb:nums.length ≤ 200000000000000) :
  Calls Tryz.prog 4 #[.slice A0 n c0,.int .i64 a1,.int .i64 a2] w (Gives w (.bool true)):=by
 have HS:=Lib.hid (fun w' (f:Fr noB w w')=>l15grown_any w' A0 c0 n nums hn (hs.fr0 f) hb)
 clear hn hs hb
 go_enter Tryz.func4,Tryz.ntmps4
 go_upto_region 4 with (first
  | (go_at_call 9;refine (l15alive_any w).mono ?_;rintro e w1 ⟨rfl,f1⟩)
  | (go_at_call 26;refine (HS.out w1 f1).mono ?_;rintro e w2 ⟨H,S,L,ts,A,cA,rfl,hs2,hg,hA,hnA,hlo,f2⟩))
 have HG:=Lib.hid hg
 have HH:=Lib.hid hs2
 have HA:=Lib.hid hA
 have HF:=Lib.hid (f1.step0 f2)
 obtain ⟨m,hm⟩:∃ m,m = ts.length:=⟨_,rfl⟩
 have hm16:m ≤ 16:=by rw [hm];exact hg.le
 rw [← hm]
 have HM:=Lib.hid hm
 clear hm hg hs2 hA hnA hlo f1 f2 HS
 by_cases m0:m = 0
 ·subst m0
  go_wp2_with fail
  go_ret
  exact ⟨rfl,HF.out⟩
 ·have hmp:0 < m:=by omega
  obtain ⟨r1,er1,hr1⟩:=and_maskM a1 1023 (by omega)
  obtain ⟨r2,er2,hr2⟩:=and_maskM a2 1023 (by omega)
  have i2:r1 % m < m:=Nat.mod_lt _ hmp
  have j2:r2 % m < m:=Nat.mod_lt _ hmp
  have ht1:(bits BinOp.and IntKind.i64 a1 1023).tmod (m:Int) = ((r1 % m:Nat):Int):=by rw [show bits BinOp.and IntKind.i64 a1 1023 = (r1:Int) from er1];rfl
  have ht2:(bits BinOp.and IntKind.i64 a2 1023).tmod (m:Int) = ((r2 % m:Nat):Int):=by rw [show bits BinOp.and IntKind.i64 a2 1023 = (r2:Int) from er2];rfl
  generalize r1 % m = i at i2 ht1
  generalize r2 % m = j at j2 ht2
  clear er1 er2 hr1 hr2
  have hA:=HA.out
  rw [← HM.out] at hA
  obtain ⟨g,off,rfl⟩:=(Sl.own hA).adG (by rw [rowG_len];omega)
  have gi:=(Sl.own hA).id i (by rw [rowG_len];omega)
  have gj:=(Sl.own hA).id j (by rw [rowG_len];omega)
  rw [rowG_get] at gi gj
  have x1:(0:Int) ≤ (i:Int):=by omega
  have x2:(i:Int) < (m:Int):=by omega
  have y1:(0:Int) ≤ (j:Int):=by omega
  have y2:(j:Int) < (m:Int):=by omega
  have hm0:((m:Int) == 0) = false:=by rw [beq_eq_false_iff_ne];omega
  clear hA
  go_upto_region 8 with fail
  go_cut [9,10] from 29 to 44 (fun va vb wx=>∃ pa pb,va = .pointer (some ⟨pa,0,none⟩) ∧ vb = .pointer (some ⟨pb,0,none⟩) ∧ bxI wx pa = some (idG i) ∧ bxI wx pb = some (idG j) ∧ Fr noB w2 wx)
  case first =>
   go_wp2_with fail
   refine wp_region_N 19 (fun w'=>rdI w' g (off + i * 32) = some (idG i) ∧ rdI w' g (off + j * 32) = some (idG j)) (by kernel_rfl) (by kernel_rfl) ⟨(rdI_drew _ _ _).trans gi,(rdI_drew _ _ _).trans gj⟩ (fun hA hF=>?_)
   refine wpAnyN_take (i:=0) (v:=?_) hA rfl (by decide) (by kernel_rfl) (by kernel_rfl) (fun _ _ _ h=>h) (Or.inl ⟨by rfl,?_⟩) hF (fun hA=>?_)
   rotate_left
   ·intro wS hSw;(try dsimp only at hSw);obtain ⟨s1,s2⟩:=hSw;first | (apply Eq.trans;apply ex_ld_id;exact rfl;exact rfl;assumption;with_reducible rfl) | (apply Eq.trans;apply ex_bld0_at;exact rfl;with_reducible rfl) | (go_simp;try with_reducible rfl)
   try simp only [List.getElem_toArray,List.getElem_cons_zero,List.getElem_cons_succ,Act.put,List.setIfInBounds_toArray,List.set_cons_zero,List.set_cons_succ]
   refine wpAnyN_take (i:=1) (v:=?_) hA rfl (by decide) (by kernel_rfl) (by kernel_rfl) (fun _ _ _ h=>h) (Or.inl ⟨by rfl,?_⟩) hF (fun hA=>?_)
   rotate_left
   ·intro wS hSw;(try dsimp only at hSw);obtain ⟨s1,s2⟩:=hSw;first | (apply Eq.trans;apply ex_ld_id;exact rfl;exact rfl;assumption;with_reducible rfl) | (apply Eq.trans;apply ex_bld0_at;exact rfl;with_reducible rfl) | (go_simp;try with_reducible rfl)
   try simp only [List.getElem_toArray,List.getElem_cons_zero,List.getElem_cons_succ,Act.put,List.setIfInBounds_toArray,List.set_cons_zero,List.set_cons_succ]
   refine wpAnyN_take (i:=2) (v:=?_) hA rfl (by decide) (by kernel_rfl) (by kernel_rfl) (fun _ _ _ h=>h) (Or.inl ⟨by rfl,?_⟩) hF (fun hA=>?_)
   rotate_left
   ·intro wS hSw;(try dsimp only at hSw);obtain ⟨s1,s2⟩:=hSw;first | (apply Eq.trans;apply ex_ld_id;exact rfl;exact rfl;assumption;with_reducible rfl) | (apply Eq.trans;apply ex_bld0_at;exact rfl;with_reducible rfl) | (go_simp;try with_reducible rfl)
   try simp only [List.getElem_toArray,List.getElem_cons_zero,List.getElem_cons_succ,Act.put,List.setIfInBounds_toArray,List.set_cons_zero,List.set_cons_succ]
   refine wpAnyN_take (i:=3) (v:=?_) hA rfl (by decide) (by kernel_rfl) (by kernel_rfl) (fun _ _ _ h=>h) (Or.inl ⟨by rfl,?_⟩) hF (fun hA=>?_)
   rotate_left
   ·intro wS hSw;(try dsimp only at hSw);obtain ⟨s1,s2⟩:=hSw;first | (apply Eq.trans;apply ex_ld_id;exact rfl;exact rfl;assumption;with_reducible rfl) | (apply Eq.trans;apply ex_bld0_at;exact rfl;with_reducible rfl) | (go_simp;try with_reducible rfl)
   try simp only [List.getElem_toArray,List.getElem_cons_zero,List.getElem_cons_succ,Act.put,List.setIfInBounds_toArray,List.set_cons_zero,List.set_cons_succ]
   refine wpAnyN_take (i:=4) (v:=?_) hA rfl (by decide) (by kernel_rfl) (by kernel_rfl) (fun _ _ _ h=>h) (Or.inl ⟨by rfl,?_⟩) hF (fun hA=>?_)
   rotate_left
   ·intro wS hSw;(try dsimp only at hSw);obtain ⟨s1,s2⟩:=hSw;first | (apply Eq.trans;apply ex_ld_id;exact rfl;exact rfl;assumption;with_reducible rfl) | (apply Eq.trans;apply ex_bld0_at;exact rfl;with_reducible rfl) | (go_simp;try with_reducible rfl)
   try simp only [List.getElem_toArray,List.getElem_cons_zero,List.getElem_cons_succ,Act.put,List.setIfInBounds_toArray,List.set_cons_zero,List.set_cons_succ]
   refine wpAnyN_take (i:=5) (v:=?_) hA rfl (by decide) (by kernel_rfl) (by kernel_rfl) (fun _ _ _ h=>h) (Or.inl ⟨by rfl,?_⟩) hF (fun hA=>?_)
   rotate_left
   ·intro wS hSw;(try dsimp only at hSw);obtain ⟨s1,s2⟩:=hSw;first | (apply Eq.trans;apply ex_ld_id;exact rfl;exact rfl;assumption;with_reducible rfl) | (apply Eq.trans;apply ex_bld0_at;exact rfl;with_reducible rfl) | (go_simp;try with_reducible rfl)
   try simp only [List.getElem_toArray,List.getElem_cons_zero,List.getElem_cons_succ,Act.put,List.setIfInBounds_toArray,List.set_cons_zero,List.set_cons_succ]
   refine wpAnyN_take (i:=6) (v:=?_) hA rfl (by decide) (by kernel_rfl) (by kernel_rfl) (fun _ _ _ h=>h) (Or.inl ⟨by rfl,?_⟩) hF (fun hA=>?_)
   rotate_left
   ·intro wS hSw;(try dsimp only at hSw);obtain ⟨s1,s2⟩:=hSw;first | (apply Eq.trans;apply ex_ld_id;exact rfl;exact rfl;assumption;with_reducible rfl) | (apply Eq.trans;apply ex_bld0_at;exact rfl;with_reducible rfl) | (go_simp;try with_reducible rfl)
   try simp only [List.getElem_toArray,List.getElem_cons_zero,List.getElem_cons_succ,Act.put,List.setIfInBounds_toArray,List.set_cons_zero,List.set_cons_succ]
   refine wpAnyN_take (i:=7) (v:=?_) hA rfl (by decide) (by kernel_rfl) (by kernel_rfl) (fun _ _ _ h=>h) (Or.inl ⟨by rfl,?_⟩) hF (fun hA=>?_)
   rotate_left
   ·intro wS hSw;(try dsimp only at hSw);obtain ⟨s1,s2⟩:=hSw;first | (apply Eq.trans;apply ex_ld_id;exact rfl;exact rfl;assumption;with_reducible rfl) | (apply Eq.trans;apply ex_bld0_at;exact rfl;with_reducible rfl) | (go_simp;try with_reducible rfl)
   try simp only [List.getElem_toArray,List.getElem_cons_zero,List.getElem_cons_succ,Act.put,List.setIfInBounds_toArray,List.set_cons_zero,List.set_cons_succ]
   refine wpAnyN_take (i:=8) (v:=?_) hA rfl (by decide) (by kernel_rfl) (by kernel_rfl) (fun _ _ _ h=>h) (Or.inl ⟨by rfl,?_⟩) hF (fun hA=>?_)
   rotate_left
   ·intro wS hSw;(try dsimp only at hSw);obtain ⟨s1,s2⟩:=hSw;first | (apply Eq.trans;apply ex_ld_id;exact rfl;exact rfl;assumption;with_reducible rfl) | (apply Eq.trans;apply ex_bld0_at;exact rfl;with_reducible rfl) | (go_simp;try with_reducible rfl)
   try simp only [List.getElem_toArray,List.getElem_cons_zero,List.getElem_cons_succ,Act.put,List.setIfInBounds_toArray,List.set_cons_zero,List.set_cons_succ]
   refine wpAnyN_take (i:=9) (v:=?_) hA rfl (by decide) (by kernel_rfl) (by kernel_rfl) (fun _ _ _ h=>h) (Or.inl ⟨by rfl,?_⟩) hF (fun hA=>?_)
   rotate_left
   ·intro wS hSw;(try dsimp only at hSw);obtain ⟨s1,s2⟩:=hSw;first | (apply Eq.trans;apply ex_ld_id;exact rfl;exact rfl;assumption;with_reducible rfl) | (apply Eq.trans;apply ex_bld0_at;exact rfl;with_reducible rfl) | (go_simp;try with_reducible rfl)
   try simp only [List.getElem_toArray,List.getElem_cons_zero,List.getElem_cons_succ,Act.put,List.setIfInBounds_toArray,List.set_cons_zero,List.set_cons_succ]
   refine wpAnyN_take (i:=10) (v:=?_) hA rfl (by decide) (by kernel_rfl) (by kernel_rfl) (fun _ _ _ h=>h) (Or.inl ⟨by rfl,?_⟩) hF (fun hA=>?_)
   rotate_left
   ·intro wS hSw;(try dsimp only at hSw);obtain ⟨s1,s2⟩:=hSw;first | (apply Eq.trans;apply ex_ld_id;exact rfl;exact rfl;assumption;with_reducible rfl) | (apply Eq.trans;apply ex_bld0_at;exact rfl;with_reducible rfl) | (go_simp;try with_reducible rfl)
   try simp only [List.getElem_toArray,List.getElem_cons_zero,List.getElem_cons_succ,Act.put,List.setIfInBounds_toArray,List.set_cons_zero,List.set_cons_succ]
   refine wpAnyN_take (i:=11) (v:=?_) hA rfl (by decide) (by kernel_rfl) (by kernel_rfl) (fun _ _ _ h=>h) (Or.inl ⟨by rfl,?_⟩) hF (fun hA=>?_)
   rotate_left
   ·intro wS hSw;(try dsimp only at hSw);obtain ⟨s1,s2⟩:=hSw;first | (apply Eq.trans;apply ex_ld_id;exact rfl;exact rfl;assumption;with_reducible rfl) | (apply Eq.trans;apply ex_bld0_at;exact rfl;with_reducible rfl) | (go_simp;try with_reducible rfl)
   try simp only [List.getElem_toArray,List.getElem_cons_zero,List.getElem_cons_succ,Act.put,List.setIfInBounds_toArray,List.set_cons_zero,List.set_cons_succ]
   refine wpAnyN_take (i:=12) (v:=?_) hA rfl (by decide) (by kernel_rfl) (by kernel_rfl) (fun _ _ _ h=>h) (Or.inl ⟨by rfl,?_⟩) hF (fun hA=>?_)
   rotate_left
   ·intro wS hSw;(try dsimp only at hSw);obtain ⟨s1,s2⟩:=hSw;first | (apply Eq.trans;apply ex_ld_id;exact rfl;exact rfl;assumption;with_reducible rfl) | (apply Eq.trans;apply ex_bld0_at;exact rfl;with_reducible rfl) | (go_simp;try with_reducible rfl)
   try simp only [List.getElem_toArray,List.getElem_cons_zero,List.getElem_cons_succ,Act.put,List.setIfInBounds_toArray,List.set_cons_zero,List.set_cons_succ]
   refine wpAnyN_take (i:=13) (v:=?_) hA rfl (by decide) (by kernel_rfl) (by kernel_rfl) (fun _ _ _ h=>h) (Or.inl ⟨by rfl,?_⟩) hF (fun hA=>?_)
   rotate_left
   ·intro wS hSw;(try dsimp only at hSw);obtain ⟨s1,s2⟩:=hSw;first | (apply Eq.trans;apply ex_ld_id;exact rfl;exact rfl;assumption;with_reducible rfl) | (apply Eq.trans;apply ex_bld0_at;exact rfl;with_reducible rfl) | (go_simp;try with_reducible rfl)
   try simp only [List.getElem_toArray,List.getElem_cons_zero,List.getElem_cons_succ,Act.put,List.setIfInBounds_toArray,List.set_cons_zero,List.set_cons_succ]
   refine wpAnyN_take (i:=14) (v:=?_) hA rfl (by decide) (by kernel_rfl) (by kernel_rfl) (fun _ _ _ h=>h) (Or.inl ⟨by rfl,?_⟩) hF (fun hA=>?_)
   rotate_left
   ·intro wS hSw;(try dsimp only at hSw);obtain ⟨s1,s2⟩:=hSw;first | (apply Eq.trans;apply ex_ld_id;exact rfl;exact rfl;assumption;with_reducible rfl) | (apply Eq.trans;apply ex_bld0_at;exact rfl;with_reducible rfl) | (go_simp;try with_reducible rfl)
   try simp only [List.getElem_toArray,List.getElem_cons_zero,List.getElem_cons_succ,Act.put,List.setIfInBounds_toArray,List.set_cons_zero,List.set_cons_succ]
   refine wpAnyN_take (i:=15) (v:=?_) hA rfl (by decide) (by kernel_rfl) (by kernel_rfl) (fun _ _ _ h=>h) (Or.inl ⟨by rfl,?_⟩) hF (fun hA=>?_)
   rotate_left
   ·intro wS hSw;(try dsimp only at hSw);obtain ⟨s1,s2⟩:=hSw;first | (apply Eq.trans;apply ex_ld_id;exact rfl;exact rfl;assumption;with_reducible rfl) | (apply Eq.trans;apply ex_bld0_at;exact rfl;with_reducible rfl) | (go_simp;try with_reducible rfl)
   try simp only [List.getElem_toArray,List.getElem_cons_zero,List.getElem_cons_succ,Act.put,List.setIfInBounds_toArray,List.set_cons_zero,List.set_cons_succ]
   have fV:Fr noB w2 w2.drew:=(Fr.refl noB w2).drew
   generalize w2.drew = V at hF fV ⊢
   clear gi gj ht1 ht2 x1 x2 y1 y2 hm0
   have fa:Fr noB V (V.alloc (ido zID)):=(Fr.refl noB V).alloc _
   have fb:Fr noB V ((V.alloc (ido zID)).alloc (ido zID)):=fa.alloc _
   have keep:∀ w',Fr noB V w' → rdI w' g (off + i * 32) = some (idG i) ∧ rdI w' g (off + j * 32) = some (idG j):=fun w' f=>⟨rdI_fr hF.1 (rdI_lt hF.1) f (by simp [noB]),rdI_fr hF.2 (rdI_lt hF.2) f (by simp [noB])⟩
   have k1:bxI ((V.alloc (ido zID)).alloc (ido zID)) V.heap.size = some zID:=by rw [bxI_old _ _ _ (by simp),bxI_new]
   have k2:bxI ((V.alloc (ido zID)).alloc (ido zID)) (V.heap.size + 1) = some zID:=by rw [bxI_new' _ _ _ (by simp)]
   refine wpAnyN_two (i:=16) (j:=17) hA (by kernel_rfl) (by decide) (by decide) rfl rfl (fun K' hK=>?_) (fun K' hK=>?_)
   ·skip
    rw [if_pos (by rfl)]
    refine step_runP _ _ (ex_alM_at rfl V) ?_
    refine hK.out _ _ (keep _ fa) (fun hA=>?_)
    clear hK K'
    try simp only [List.getElem_toArray,List.getElem_cons_zero,List.getElem_cons_succ,Act.put,List.setIfInBounds_toArray,List.set_cons_zero,List.set_cons_succ]
    refine wpAnyN_one (i:=17) hA (by kernel_rfl) (by decide) rfl (fun K' hK=>?_)
    rw [if_pos (by rfl)]
    refine step_runP _ _ (ex_alM_at rfl _) ?_
    refine hK.out _ _ (keep _ fb) (fun hA=>?_)
    clear hK K'
    try simp only [List.getElem_toArray,List.getElem_cons_zero,List.getElem_cons_succ,Act.put,List.setIfInBounds_toArray,List.set_cons_zero,List.set_cons_succ,World.size_alloc]
    obtain ⟨e1,e2,e3⟩:=putB_fr k1 (idG i)
    have e4:=bxI_fr k2 e1 (fun e=>by simp only [oneB] at e;omega)
    refine wpAnyN_one (i:=18) hA (by kernel_rfl) (by decide) rfl (fun K' hK=>?_)
    rw [if_pos (by rfl)]
    refine step_skipM _ (ex_stM_at rfl rfl rfl k1) ?_
    refine hK.out _ _ (keep _ (fb.step1 e1 (by omega))) (fun hA=>?_)
    clear hK K'
    try simp only [List.getElem_toArray,List.getElem_cons_zero,List.getElem_cons_succ,Act.put,List.setIfInBounds_toArray,List.set_cons_zero,List.set_cons_succ,World.size_alloc]
    refine wpAnyN_end rfl (by kernel_rfl) ?_
    simp only [List.drop_succ_cons,List.drop_zero]
    go_wp2_with fail
    go_meet
    case rel =>
     obtain ⟨g1,g2,g3⟩:=putB_fr e4 (idG j)
     have qa:=bxI_fr e3 g1 (fun e=>by simp only [oneB] at e;omega)
     exact ⟨_,_,rfl,rfl,qa,g3,fV.step0 ((fb.step1 e1 (by omega)).step1 g1 (by omega))⟩
   ·skip
    rw [if_pos (by rfl)]
    refine step_runP _ _ (ex_alM_at rfl V) ?_
    refine hK.out _ _ (keep _ fa) (fun hA=>?_)
    clear hK K'
    try simp only [List.getElem_toArray,List.getElem_cons_zero,List.getElem_cons_succ,Act.put,List.setIfInBounds_toArray,List.set_cons_zero,List.set_cons_succ]
    refine wpAnyN_one (i:=16) hA (by kernel_rfl) (by decide) rfl (fun K' hK=>?_)
    rw [if_pos (by rfl)]
    refine step_runP _ _ (ex_alM_at rfl _) ?_
    refine hK.out _ _ (keep _ fb) (fun hA=>?_)
    clear hK K'
    try simp only [List.getElem_toArray,List.getElem_cons_zero,List.getElem_cons_succ,Act.put,List.setIfInBounds_toArray,List.set_cons_zero,List.set_cons_succ,World.size_alloc]
    obtain ⟨e1,e2,e3⟩:=putB_fr k2 (idG i)
    have e4:=bxI_fr k1 e1 (fun e=>by simp only [oneB] at e;omega)
    refine wpAnyN_one (i:=18) hA (by kernel_rfl) (by decide) rfl (fun K' hK=>?_)
    rw [if_pos (by rfl)]
    refine step_skipM _ (ex_stM_at rfl rfl rfl k2) ?_
    refine hK.out _ _ (keep _ (fb.step1 e1 (by omega))) (fun hA=>?_)
    clear hK K'
    try simp only [List.getElem_toArray,List.getElem_cons_zero,List.getElem_cons_succ,Act.put,List.setIfInBounds_toArray,List.set_cons_zero,List.set_cons_succ,World.size_alloc]
    refine wpAnyN_end rfl (by kernel_rfl) ?_
    simp only [List.drop_succ_cons,List.drop_zero]
    go_wp2_with fail
    go_meet
    case rel =>
     obtain ⟨g1,g2,g3⟩:=putB_fr e4 (idG j)
     have qa:=bxI_fr e3 g1 (fun e=>by simp only [oneB] at e;omega)
     exact ⟨_,_,rfl,rfl,qa,g3,fV.step0 ((fb.step1 e1 (by omega)).step1 g1 (by omega))⟩
  case rest =>
   obtain ⟨pa,pb,rfl,rfl,qa,qb,fw⟩:=hcut
   clear gi gj ht1 ht2 x1 x2 y1 y2 hm0
   have hLl:L.length ≤ 1000:=by rw [HG.out.len,← HM.out];omega
   have MG:=Lib.hid (fun w' (f:Fr noB w2 w') x y=>mgMerge_any (HH.out.fr0 f) HG.out.nd hLl x y)
   have MR:=Lib.hid (fun w' (f:Fr noB w2 w') P c n ids hi hs hb=>mgRows_any (HH.out.fr0 f) HG.out.nd hLl P c n ids hi hs hb)
   have MD:=Lib.hid (fun w' (f:Fr noB w2 w')=>mgDag_any (HH.out.fr0 f))
   have im:i < ts.length:=by rw [← HM.out];exact i2
   have jm:j < ts.length:=by rw [← HM.out];exact j2
   have E1:=Lib.hid (HG.out.ok0 im jm)
   have E2:=Lib.hid (HG.out.ok0 jm im)
   have E3:=Lib.hid (HG.out.ok0 im im)
   have CA:=Lib.hid (show ∃ c,findC L (idG i) = some c from ⟨_,(HG.out.has i im).choose_spec.1⟩)
   have CB:=Lib.hid (show ∃ c,findC L (idG j) = some c from ⟨_,(HG.out.has j jm).choose_spec.1⟩)
   have HOKL:=Lib.hid HH.out.ok.ok
   clear hLl im jm
   have ra:=bxI_rd qa
   have rb:=bxI_rd qb
   have FW:=Lib.hid fw
   clear qa qb fw
   generalize idG i = x at ra rb E1 E2 E3 CA ⊢
   generalize idG j = y at rb E1 E2 CB ⊢
   go_upto_region 10 with (go_at_call 22;refine (MG.out _ FW.out x y).mono ?_;rintro e u3 ⟨p1,rfl,v3,_,hp⟩;have hp1:=Lib.hid (hp E1.out);rw [E1.out];clear hp)
   have fn:Fr noB u3 (u3.alloc (codPl.o p1)):=(Fr.refl noB u3).alloc _
   have bN1:=Cod.bxd_new (C:=codPl) u3 p1
   have g3:=v3.step0 fn
   have ra3:=rdI_fr ra (rdI_lt ra) g3 (by simp [noB])
   have rb3:=rdI_fr rb (rdI_lt rb) g3 (by simp [noB])
   have FW3:=Lib.hid (FW.out.step0 g3)
   obtain ⟨base1,ops1,pl1,_,_,_,ol1,rs1⟩:=hp1.out.plan
   have PL1:=Lib.hid pl1
   have OL1:=Lib.hid ol1
   have RS1:=Lib.hid (rs1.fr0 fn)
   have HB1:=Lib.hid bN1
   clear bN1 fn g3 ra rb FW v3 hp1 pl1 ol1 rs1
   generalize u3.alloc (codPl.o p1) = u4 at ra3 rb3 FW3 RS1 HB1 ⊢
   generalize u3.heap.size = N1 at HB1 ⊢
   go_upto_region 11 with (go_at_call 22;refine (MG.out _ FW3.out y x).mono ?_;rintro e u5 ⟨p2,rfl,v5,_,hp⟩;have hp2:=Lib.hid (hp E2.out);rw [E2.out];clear hp)
   have fn:Fr noB u5 (u5.alloc (codPl.o p2)):=(Fr.refl noB u5).alloc _
   have bN2:=Cod.bxd_new (C:=codPl) u5 p2
   have g5:=v5.step0 fn
   have ra5:=rdI_fr ra3 (rdI_lt ra3) g5 (by simp [noB])
   have rb5:=rdI_fr rb3 (rdI_lt rb3) g5 (by simp [noB])
   have FW5:=Lib.hid (FW3.out.step0 g5)
   obtain ⟨base2,ops2,pl2,_,_,_,ol2,rs2⟩:=hp2.out.plan
   have PL2:=Lib.hid pl2
   have RS12:=Lib.hid (And.intro (RS1.out.fr0 g5) (rs2.fr0 fn))
   have HB2:=Lib.hid (And.intro (Cod.bxd_fr0 HB1.out g5) bN2)
   clear bN2 fn g5 ra3 rb3 FW3 v5 hp2 pl2 ol2 rs2 RS1 HB1
   generalize u5.alloc (codPl.o p2) = u6 at ra5 rb5 FW5 RS12 HB2 ⊢
   generalize u5.heap.size = N2 at HB2 ⊢
   go_upto_region 12 with (go_at_call 22;refine (MG.out _ FW5.out x x).mono ?_;rintro e u7 ⟨p3,rfl,v7,_,hp⟩;have hp3:=Lib.hid (hp E3.out);rw [E3.out];clear hp)
   have fn:Fr noB u7 (u7.alloc (codPl.o p3)):=(Fr.refl noB u7).alloc _
   have bN3:=Cod.bxd_new (C:=codPl) u7 p3
   have g7:=v7.step0 fn
   have ra7:=rdI_fr ra5 (rdI_lt ra5) g7 (by simp [noB])
   have rb7:=rdI_fr rb5 (rdI_lt rb5) g7 (by simp [noB])
   have FW7:=Lib.hid (FW5.out.step0 g7)
   obtain ⟨base3,ops3,pl3,_,_,_,_,_⟩:=hp3.out.plan
   have F3:p3.F = x:=by
    obtain ⟨c,hc⟩:=CA.out
    exact (pl3.fa (anc_refl (by rw [has_dg,hc];rfl))).1
   obtain ⟨ca,hca⟩:=CA.out
   obtain ⟨cb,hcb⟩:=CB.out
   obtain ⟨s1,s2,s3,s4⟩:=PlanP.swap HOKL.out hca hcb PL1.out PL2.out
   have d1:=plAt (Cod.bxd_rd (Cod.bxd_fr0 HB2.out.1 g7))
   have d2:=plAt (Cod.bxd_rd (Cod.bxd_fr0 HB2.out.2 g7))
   have d3:=(plAt (Cod.bxd_rd bN3)).fw
   rw [F3] at d3
   have f1:=d1.fw
   have t1:=d1.time
   have sf1:=d1.safe
   have w1r:=d1.rows
   have f2':=d2.fw
   have t2:=d2.time
   have sf2:=d2.safe
   have w2r:=d2.rows
   rw [← s1] at f2'
   rw [← s2] at sf2
   rw [← s3] at t2
   have RS7:=Lib.hid (show RowsS (u7.alloc (codPl.o p3)) p1.RA p1.rn p1.rc ops1 ∧ RowsS (u7.alloc (codPl.o p3)) p2.RA p2.rn p2.rc ops1 from ⟨RS12.out.1.fr0 g7,by rw [s4];exact RS12.out.2.fr0 g7⟩)
   have TW:=Lib.hid (show Tw15 (u7.alloc (codPl.o p3)) pa pb N1 x y p1.F p1.RA p1.rn p1.rc from ⟨ra7,rb7,f1,w1r⟩)
   clear bN3 fn g7 ra5 rb5 FW5 v7 hp3 pl3 F3 hca hcb s1 s2 s3 s4 d1 d2 RS12 HB2 PL2 CA CB E1 E2 E3 MG
   generalize u7.alloc (codPl.o p3) = u8 at ra7 rb7 FW7 f1 t1 sf1 w1r f2' t2 sf2 w2r d3 RS7 TW ⊢
   generalize u7.heap.size = N3 at d3 ⊢
   go_upto_region 14 with (go_at_call 19;refine (same_rows RS7.out.1 RS7.out.2 OL1.out).mono ?_;rintro e u9 ⟨rfl,f9⟩)
   have T9:=TW.out.fr f9
   have F9:=FW7.out.step0 f9
   have RS9:=Lib.hid (RS7.out.1.fr0 f9)
   clear ra7 rb7 f1 t1 sf1 w1r f2' t2 sf2 w2r d3 RS7 TW FW7 f9
   go_cut [143] from 111 to 142 (fun v wx=>v = .bool false ∧ Fr noB u9 wx)
   case first =>
    have fd:Fr noB u9 u9.drew:=(Fr.refl noB u9).drew
    have T0:=T9.fr fd
    have F0:=F9.step0 fd
    clear T9 F9
    by_cases hab:ancG (dgH L) x y = true
    ·have eF:=Lib.hid (show p1.F = x from (PL1.out.fa hab).1)
     have hk:∀ w' w'':World,Fr noB w' w'' → (rdI w' pa 0 = some x ∧ rdI w' pb 0 = some y ∧ rdI w' N1 0 = some x) → (rdI w'' pa 0 = some x ∧ rdI w'' pb 0 = some y ∧ rdI w'' N1 0 = some x):=fun w' w'' f h=>⟨rdI_fr h.1 (rdI_lt h.1) f (by simp [noB]),rdI_fr h.2.1 (rdI_lt h.2.1) f (by simp [noB]),rdI_fr h.2.2 (rdI_lt h.2.2) f (by simp [noB])⟩
     have hF0:rdI u9.drew pa 0 = some x ∧ rdI u9.drew pb 0 = some y ∧ rdI u9.drew N1 0 = some x:=⟨T0.a,T0.b,by rw [← eF.out];exact T0.f⟩
     clear T0
     refine wp_region_M 32 33 [⟨2596148429267413814265248164610048,128,0⟩,⟨5192296858534827628530496329220096,2596148429267413814265248164610048,1⟩,⟨10384593717069655257060992658440192,512,0⟩,⟨20769187434139310514121985316880384,1024,0⟩,⟨41538374868278621028243970633760768,36346078009743793399713474304540672,14⟩,⟨83076749736557242056487941267521536,41538374868278621028243970633760768,16⟩,⟨166153499473114484112975882535043072,83076749736557242056487941267523584,32⟩,⟨332306998946228968225951765070086144,249230249209671726169463823802564608,96⟩,⟨664613997892457936451903530140172288,83076749736557242056487941267522048,32⟩,⟨1329227995784915872903807060280344576,1079997746575244146734343236477779968,416⟩,⟨2658455991569831745807614120560689152,1412304745521473114960295001547866112,544⟩,⟨5316911983139663491615228241121378304,2658455991569831745807614120560689152,1056⟩,⟨10633823966279326983230456482242756608,5316911983139663491615228241121378432,2048⟩,⟨21267647932558653966460912964485513216,15950735949418990474845684723364134912,6144⟩,⟨42535295865117307932921825928971026432,5316911983139663491615228241121378816,2048⟩,⟨85070591730234615865843651857942052864,5316911983139663491615228241121379328,2048⟩,⟨170141183460469231731687303715884105728,154190447511050241256841618992519970816,59392⟩,⟨340282366920938463463374607431768211456,175458095443608895223302531957005484032,67584⟩,⟨680564733841876926926749214863536422912,345599278904078126954989835672889589760,198656⟩,⟨1361129467683753853853498429727072845824,680564733841876926926749214863536423040,262144⟩,⟨2722258935367507707706996859454145691648,2041694201525630780780247644590609268736,786432⟩,⟨5444517870735015415413993718908291383296,680564733841876926926749214863536423936,262144⟩,⟨10889035741470030830827987437816582766592,680564733841876926926749214863536423424,262144⟩,⟨21778071482940061661655974875633165533184,19736377281414430880875727231042556264448,7602176⟩,⟨43556142965880123323311949751266331066368,22458636216781938588582724090496701956096,8650752⟩,⟨87112285931760246646623899502532662132736,44242024611705139913730314194370988867584,17041408⟩,⟨174224571863520493293247799005065324265472,87117602843743386310115514730773783511040,41945088⟩,⟨348449143727040986586495598010130648530944,174224571863520493293247799005065324267520,67108864⟩,⟨696898287454081973172991196020261297061888,522673715590561479879743397015195972796416,201326592⟩,⟨1393796574908163946345982392040522594123776,174224571863520493293247799005065324265472,67108864⟩,⟨2787593149816327892691964784081045188247552,2264919434225766412812221387065849215451136,872415232⟩,⟨5575186299632655785383929568162090376495104,2961823038591831525648704198314351633891328,1140852736⟩,⟨11150372599265311570767859136324180752990208,5575191616544638925047421183390331497873408,2147485696⟩] [(true,0),(true,2),(true,3),(false,1),(false,4),(true,5),(true,6),(true,7),(true,8),(true,9),(true,10),(true,11),(true,12),(true,14),(true,15),(false,13),(false,16),(true,17),(true,18),(true,19),(true,20),(true,21),(true,22),(true,23),(true,24),(true,25),(true,26),(true,27),(true,28),(true,29),(true,30),(true,31)] (fun w'=>rdI w' pa 0 = some x ∧ rdI w' pb 0 = some y ∧ rdI w' N1 0 = some x) (by kernel_rfl) rfl (by kernel_rfl) (by kernel_rfl) (by kernel_rfl) hF0 (fun hA hF=>?_)
     clear hF0
     iterate 3
      refine wpAnyS_take (v:=?_) hA rfl (fun _ _ _ h=>h) (Or.inl ⟨by rfl,?_⟩) hF (fun hA=>?_)
      rotate_left
      ·intro wS hSw;(try dsimp only at hSw);obtain ⟨s1,s2,s3⟩:=hSw;first | (apply Eq.trans;apply ex_ld_id;exact rfl;exact rfl;assumption;with_reducible rfl) | (apply Eq.trans;apply ex_bld0_at;exact rfl;with_reducible rfl) | (go_simp;try with_reducible rfl)
      try simp only [List.getElem_toArray,List.getElem_cons_zero,List.getElem_cons_succ,Act.put,List.setIfInBounds_toArray,List.set_cons_zero,List.set_cons_succ]
     refine wpAnyS_one hA rfl (fun K' hK=>?_)
     go_simp
     go_at_call 12
     refine (MD.out _ F0).mono ?_
     rintro e v1 ⟨D1,Fd1,rfl,hd1,k1⟩
     replace hF:=hk _ _ k1 hF
     refine hK.out _ _ hF (fun hA=>?_)
     clear hK K'
     have G1:=F0.step0 k1
     have K1:=fd.step0 k1
     refine wpAnyS_one hA rfl (fun K' hK=>?_)
     go_simp
     go_at_call 27
     refine (reaches_any _ D1 Fd1 (dgH L) hd1 x y).mono ?_
     rintro e v2 ⟨rfl,k2⟩
     rw [hab]
     replace hF:=hk _ _ k2 hF
     refine hK.out _ _ hF (fun hA=>?_)
     clear hK K'
     have G2:=G1.step0 k2
     have K2:=K1.step0 k2
     clear F0 fd k1 k2 G1 K1 hd1
     iterate 10
      refine wpAnyS_take (v:=?_) hA rfl (fun _ _ _ h=>h) (Or.inl ⟨by rfl,?_⟩) hF (fun hA=>?_)
      rotate_left
      ·intro wS hSw;(try dsimp only at hSw);obtain ⟨s1,s2,s3⟩:=hSw;first | (apply Eq.trans;apply ex_ld_id;exact rfl;exact rfl;assumption;with_reducible rfl) | (apply Eq.trans;apply ex_bld0_at;exact rfl;with_reducible rfl) | (go_simp;try with_reducible rfl)
      try simp only [List.getElem_toArray,List.getElem_cons_zero,List.getElem_cons_succ,Act.put,List.setIfInBounds_toArray,List.set_cons_zero,List.set_cons_succ]
     refine wpAnyS_one hA rfl (fun K' hK=>?_)
     rw [if_pos (by rfl)]
     go_simp
     go_at_call 12
     refine (MD.out _ G2).mono ?_
     rintro e v3 ⟨D2,Fd2,rfl,hd2,k3⟩
     replace hF:=hk _ _ k3 hF
     refine hK.out _ _ hF (fun hA=>?_)
     clear hK K'
     have G3:=G2.step0 k3
     have K3:=K2.step0 k3
     refine wpAnyS_one hA rfl (fun K' hK=>?_)
     rw [if_pos (by rfl)]
     go_simp
     go_at_call 27
     refine (reaches_any _ D2 Fd2 (dgH L) hd2 x y).mono ?_
     rintro e v4 ⟨rfl,k4⟩
     rw [hab]
     replace hF:=hk _ _ k4 hF
     refine hK.out _ _ hF (fun hA=>?_)
     clear hK K'
     have G4:=G3.step0 k4
     have K4:=K3.step0 k4
     clear k3 k4 G3 K3 hd2 G2 K2
     iterate 2
      refine wpAnyS_take (v:=?_) hA rfl (fun _ _ _ h=>h) (Or.inl ⟨by rfl,?_⟩) hF (fun hA=>?_)
      rotate_left
      ·intro wS hSw;(try dsimp only at hSw);obtain ⟨s1,s2,s3⟩:=hSw;first | (apply Eq.trans;apply ex_ld_id;exact rfl;exact rfl;assumption;with_reducible rfl) | (apply Eq.trans;apply ex_bld0_at;exact rfl;with_reducible rfl) | (go_simp;try with_reducible rfl)
      try simp only [List.getElem_toArray,List.getElem_cons_zero,List.getElem_cons_succ,Act.put,List.setIfInBounds_toArray,List.set_cons_zero,List.set_cons_succ]
     iterate 6
      refine wpAnyS_take (v:=undef) hA rfl (fun _ _ _ h=>h) (Or.inr ⟨by rfl,rfl⟩) hF (fun hA=>?_)
      try simp only [List.getElem_toArray,List.getElem_cons_zero,List.getElem_cons_succ,Act.put,List.setIfInBounds_toArray,List.set_cons_zero,List.set_cons_succ]
     iterate 2
      refine wpAnyS_take (v:=?_) hA rfl (fun _ _ _ h=>h) (Or.inl ⟨by rfl,?_⟩) hF (fun hA=>?_)
      rotate_left
      ·intro wS hSw;(try dsimp only at hSw);obtain ⟨s1,s2,s3⟩:=hSw;first | (apply Eq.trans;apply ex_ld_id;exact rfl;exact rfl;assumption;with_reducible rfl) | (apply Eq.trans;apply ex_bld0_at;exact rfl;with_reducible rfl) | (go_simp;try with_reducible rfl)
      try simp only [List.getElem_toArray,List.getElem_cons_zero,List.getElem_cons_succ,Act.put,List.setIfInBounds_toArray,List.set_cons_zero,List.set_cons_succ]
     iterate 4
      refine wpAnyS_take (v:=undef) hA rfl (fun _ _ _ h=>h) (Or.inr ⟨by rfl,rfl⟩) hF (fun hA=>?_)
      try simp only [List.getElem_toArray,List.getElem_cons_zero,List.getElem_cons_succ,Act.put,List.setIfInBounds_toArray,List.set_cons_zero,List.set_cons_succ]
     refine wpAnyS_take (v:=?_) hA rfl (fun _ _ _ h=>h) (Or.inl ⟨by rfl,?_⟩) hF (fun hA=>?_)
     rotate_left
     ·intro wS hSw;(try dsimp only at hSw);obtain ⟨s1,s2,s3⟩:=hSw;first | (apply Eq.trans;apply ex_ld_id;exact rfl;exact rfl;assumption;with_reducible rfl) | (apply Eq.trans;apply ex_bld0_at;exact rfl;with_reducible rfl) | (go_simp;try with_reducible rfl)
     try simp only [List.getElem_toArray,List.getElem_cons_zero,List.getElem_cons_succ,Act.put,List.setIfInBounds_toArray,List.set_cons_zero,List.set_cons_succ]
     refine wpAnyS_end hA rfl ?_
     simp only [List.drop_succ_cons,List.drop_zero]
     go_wp2_with fail
     go_meet
     case rel=>exact ⟨rfl,K4⟩
    ·replace hab:ancG (dgH L) x y = false:=by simpa using hab
     by_cases hba:ancG (dgH L) y x = true
     ·obtain ⟨F,eF'⟩:∃ F,p1.F = F:=⟨_,rfl⟩
      have eF:=Lib.hid eF'
      clear eF'
      have hk:∀ w' w'':World,Fr noB w' w'' → (rdI w' pa 0 = some x ∧ rdI w' pb 0 = some y ∧ rdI w' N1 0 = some F) → (rdI w'' pa 0 = some x ∧ rdI w'' pb 0 = some y ∧ rdI w'' N1 0 = some F):=fun w' w'' f h=>⟨rdI_fr h.1 (rdI_lt h.1) f (by simp [noB]),rdI_fr h.2.1 (rdI_lt h.2.1) f (by simp [noB]),rdI_fr h.2.2 (rdI_lt h.2.2) f (by simp [noB])⟩
      have hF0:rdI u9.drew pa 0 = some x ∧ rdI u9.drew pb 0 = some y ∧ rdI u9.drew N1 0 = some F:=⟨T0.a,T0.b,by rw [← eF.out];exact T0.f⟩
      clear T0
      refine wp_region_M 32 33 [⟨2596148429267413814265248164610048,128,0⟩,⟨5192296858534827628530496329220096,2596148429267413814265248164610048,1⟩,⟨10384593717069655257060992658440192,512,0⟩,⟨20769187434139310514121985316880384,1024,0⟩,⟨41538374868278621028243970633760768,36346078009743793399713474304540672,14⟩,⟨83076749736557242056487941267521536,41538374868278621028243970633760768,16⟩,⟨166153499473114484112975882535043072,83076749736557242056487941267523584,32⟩,⟨332306998946228968225951765070086144,249230249209671726169463823802564608,96⟩,⟨664613997892457936451903530140172288,83076749736557242056487941267522048,32⟩,⟨1329227995784915872903807060280344576,1079997746575244146734343236477779968,416⟩,⟨2658455991569831745807614120560689152,1412304745521473114960295001547866112,544⟩,⟨5316911983139663491615228241121378304,2658455991569831745807614120560689152,1056⟩,⟨10633823966279326983230456482242756608,5316911983139663491615228241121378432,2048⟩,⟨21267647932558653966460912964485513216,15950735949418990474845684723364134912,6144⟩,⟨42535295865117307932921825928971026432,5316911983139663491615228241121378816,2048⟩,⟨85070591730234615865843651857942052864,5316911983139663491615228241121379328,2048⟩,⟨170141183460469231731687303715884105728,154190447511050241256841618992519970816,59392⟩,⟨340282366920938463463374607431768211456,175458095443608895223302531957005484032,67584⟩,⟨680564733841876926926749214863536422912,345599278904078126954989835672889589760,198656⟩,⟨1361129467683753853853498429727072845824,680564733841876926926749214863536423040,262144⟩,⟨2722258935367507707706996859454145691648,2041694201525630780780247644590609268736,786432⟩,⟨5444517870735015415413993718908291383296,680564733841876926926749214863536423936,262144⟩,⟨10889035741470030830827987437816582766592,680564733841876926926749214863536423424,262144⟩,⟨21778071482940061661655974875633165533184,19736377281414430880875727231042556264448,7602176⟩,⟨43556142965880123323311949751266331066368,22458636216781938588582724090496701956096,8650752⟩,⟨87112285931760246646623899502532662132736,44242024611705139913730314194370988867584,17041408⟩,⟨174224571863520493293247799005065324265472,87117602843743386310115514730773783511040,41945088⟩,⟨348449143727040986586495598010130648530944,174224571863520493293247799005065324267520,67108864⟩,⟨696898287454081973172991196020261297061888,522673715590561479879743397015195972796416,201326592⟩,⟨1393796574908163946345982392040522594123776,174224571863520493293247799005065324265472,67108864⟩,⟨2787593149816327892691964784081045188247552,2264919434225766412812221387065849215451136,872415232⟩,⟨5575186299632655785383929568162090376495104,2961823038591831525648704198314351633891328,1140852736⟩,⟨11150372599265311570767859136324180752990208,5575191616544638925047421183390331497873408,2147485696⟩] [(true,0),(true,2),(true,3),(false,1),(false,4),(true,5),(true,6),(true,7),(true,8),(true,9),(true,10),(true,11),(true,12),(true,14),(true,15),(false,13),(false,16),(true,17),(true,18),(true,19),(true,21),(true,22),(false,20),(false,23),(true,24),(true,25),(true,26),(true,27),(true,28),(true,29),(true,30),(true,31)] (fun w'=>rdI w' pa 0 = some x ∧ rdI w' pb 0 = some y ∧ rdI w' N1 0 = some F) (by kernel_rfl) rfl (by kernel_rfl) (by kernel_rfl) (by kernel_rfl) hF0 (fun hA hF=>?_)
      clear hF0
      iterate 3
       refine wpAnyS_take (v:=?_) hA rfl (fun _ _ _ h=>h) (Or.inl ⟨by rfl,?_⟩) hF (fun hA=>?_)
       rotate_left
       ·intro wS hSw;(try dsimp only at hSw);obtain ⟨s1,s2,s3⟩:=hSw;first | (apply Eq.trans;apply ex_ld_id;exact rfl;exact rfl;assumption;with_reducible rfl) | (apply Eq.trans;apply ex_bld0_at;exact rfl;with_reducible rfl) | (go_simp;try with_reducible rfl)
       try simp only [List.getElem_toArray,List.getElem_cons_zero,List.getElem_cons_succ,Act.put,List.setIfInBounds_toArray,List.set_cons_zero,List.set_cons_succ]
      refine wpAnyS_one hA rfl (fun K' hK=>?_)
      go_simp
      go_at_call 12
      refine (MD.out _ F0).mono ?_
      rintro e v1 ⟨D1,Fd1,rfl,hd1,k1⟩
      replace hF:=hk _ _ k1 hF
      refine hK.out _ _ hF (fun hA=>?_)
      clear hK K'
      have G1:=F0.step0 k1
      have K1:=fd.step0 k1
      refine wpAnyS_one hA rfl (fun K' hK=>?_)
      go_simp
      go_at_call 27
      refine (reaches_any _ D1 Fd1 (dgH L) hd1 x y).mono ?_
      rintro e v2 ⟨rfl,k2⟩
      rw [hab]
      replace hF:=hk _ _ k2 hF
      refine hK.out _ _ hF (fun hA=>?_)
      clear hK K'
      have G2:=G1.step0 k2
      have K2:=K1.step0 k2
      clear F0 fd k1 k2 G1 K1 hd1
      refine wpAnyS_take (v:=?_) hA rfl (fun _ _ _ h=>h) (Or.inl ⟨by rfl,?_⟩) hF (fun hA=>?_)
      rotate_left
      ·intro wS hSw;(try dsimp only at hSw);obtain ⟨s1,s2,s3⟩:=hSw;first | (apply Eq.trans;apply ex_ld_id;exact rfl;exact rfl;assumption;with_reducible rfl) | (apply Eq.trans;apply ex_bld0_at;exact rfl;with_reducible rfl) | (go_simp;try with_reducible rfl)
      try simp only [List.getElem_toArray,List.getElem_cons_zero,List.getElem_cons_succ,Act.put,List.setIfInBounds_toArray,List.set_cons_zero,List.set_cons_succ]
      iterate 4
       refine wpAnyS_take (v:=undef) hA rfl (fun _ _ _ h=>h) (Or.inr ⟨by rfl,rfl⟩) hF (fun hA=>?_)
       try simp only [List.getElem_toArray,List.getElem_cons_zero,List.getElem_cons_succ,Act.put,List.setIfInBounds_toArray,List.set_cons_zero,List.set_cons_succ]
      iterate 5
       refine wpAnyS_take (v:=?_) hA rfl (fun _ _ _ h=>h) (Or.inl ⟨by rfl,?_⟩) hF (fun hA=>?_)
       rotate_left
       ·intro wS hSw;(try dsimp only at hSw);obtain ⟨s1,s2,s3⟩:=hSw;first | (apply Eq.trans;apply ex_ld_id;exact rfl;exact rfl;assumption;with_reducible rfl) | (apply Eq.trans;apply ex_bld0_at;exact rfl;with_reducible rfl) | (go_simp;try with_reducible rfl)
       try simp only [List.getElem_toArray,List.getElem_cons_zero,List.getElem_cons_succ,Act.put,List.setIfInBounds_toArray,List.set_cons_zero,List.set_cons_succ]
      refine wpAnyS_one hA rfl (fun K' hK=>?_)
      rw [if_pos (by rfl)]
      go_simp
      go_at_call 12
      refine (MD.out _ G2).mono ?_
      rintro e v3 ⟨D2,Fd2,rfl,hd2,k3⟩
      replace hF:=hk _ _ k3 hF
      refine hK.out _ _ hF (fun hA=>?_)
      clear hK K'
      have G3:=G2.step0 k3
      have K3:=K2.step0 k3
      refine wpAnyS_one hA rfl (fun K' hK=>?_)
      rw [if_pos (by rfl)]
      go_simp
      go_at_call 27
      refine (reaches_any _ D2 Fd2 (dgH L) hd2 x y).mono ?_
      rintro e v4 ⟨rfl,k4⟩
      rw [hab]
      replace hF:=hk _ _ k4 hF
      refine hK.out _ _ hF (fun hA=>?_)
      clear hK K'
      have G4:=G3.step0 k4
      have K4:=K3.step0 k4
      clear k3 k4 G3 K3 hd2 G2 K2
      iterate 5
       refine wpAnyS_take (v:=?_) hA rfl (fun _ _ _ h=>h) (Or.inl ⟨by rfl,?_⟩) hF (fun hA=>?_)
       rotate_left
       ·intro wS hSw;(try dsimp only at hSw);obtain ⟨s1,s2,s3⟩:=hSw;first | (apply Eq.trans;apply ex_ld_id;exact rfl;exact rfl;assumption;with_reducible rfl) | (apply Eq.trans;apply ex_bld0_at;exact rfl;with_reducible rfl) | (go_simp;try with_reducible rfl)
       try simp only [List.getElem_toArray,List.getElem_cons_zero,List.getElem_cons_succ,Act.put,List.setIfInBounds_toArray,List.set_cons_zero,List.set_cons_succ]
      refine wpAnyS_one hA rfl (fun K' hK=>?_)
      rw [if_pos (by rfl)]
      go_simp
      go_at_call 12
      refine (MD.out _ G4).mono ?_
      rintro e v5 ⟨D3,Fd3,rfl,hd3,k5⟩
      replace hF:=hk _ _ k5 hF
      refine hK.out _ _ hF (fun hA=>?_)
      clear hK K'
      have G5:=G4.step0 k5
      have K5:=K4.step0 k5
      refine wpAnyS_one hA rfl (fun K' hK=>?_)
      rw [if_pos (by rfl)]
      go_simp
      go_at_call 27
      refine (reaches_any _ D3 Fd3 (dgH L) hd3 y x).mono ?_
      rintro e v6 ⟨rfl,k6⟩
      rw [hba]
      replace hF:=hk _ _ k6 hF
      refine hK.out _ _ hF (fun hA=>?_)
      clear hK K'
      have K6:=K5.step0 k6
      clear k5 k6 G5 K5 hd3 G4 K4
      iterate 3
       refine wpAnyS_take (v:=?_) hA rfl (fun _ _ _ h=>h) (Or.inl ⟨by rfl,?_⟩) hF (fun hA=>?_)
       rotate_left
       ·intro wS hSw;(try dsimp only at hSw);obtain ⟨s1,s2,s3⟩:=hSw;first | (apply Eq.trans;apply ex_ld_id;exact rfl;exact rfl;assumption;with_reducible rfl) | (apply Eq.trans;apply ex_bld0_at;exact rfl;with_reducible rfl) | (go_simp;try with_reducible rfl)
       try simp only [List.getElem_toArray,List.getElem_cons_zero,List.getElem_cons_succ,Act.put,List.setIfInBounds_toArray,List.set_cons_zero,List.set_cons_succ]
      iterate 4
       refine wpAnyS_take (v:=undef) hA rfl (fun _ _ _ h=>h) (Or.inr ⟨by rfl,rfl⟩) hF (fun hA=>?_)
       try simp only [List.getElem_toArray,List.getElem_cons_zero,List.getElem_cons_succ,Act.put,List.setIfInBounds_toArray,List.set_cons_zero,List.set_cons_succ]
      refine wpAnyS_take (v:=?_) hA rfl (fun _ _ _ h=>h) (Or.inl ⟨by rfl,?_⟩) hF (fun hA=>?_)
      rotate_left
      ·intro wS hSw;(try dsimp only at hSw);obtain ⟨s1,s2,s3⟩:=hSw;first | (apply Eq.trans;apply ex_ld_id;exact rfl;exact rfl;assumption;with_reducible rfl) | (apply Eq.trans;apply ex_bld0_at;exact rfl;with_reducible rfl) | (go_simp;try with_reducible rfl)
      try simp only [List.getElem_toArray,List.getElem_cons_zero,List.getElem_cons_succ,Act.put,List.setIfInBounds_toArray,List.set_cons_zero,List.set_cons_succ]
      refine wpAnyS_end hA rfl ?_
      simp only [List.drop_succ_cons,List.drop_zero]
      go_wp2_with fail
      go_meet
      case rel=>exact ⟨rfl,K6⟩
     ·replace hba:ancG (dgH L) y x = false:=by simpa using hba
      have eF:=Lib.hid (show p1.F = zID from (PL1.out.mg hab hba).1)
      have hk:∀ w' w'':World,Fr noB w' w'' → (rdI w' pa 0 = some x ∧ rdI w' pb 0 = some y ∧ rdI w' N1 0 = some zID) → (rdI w'' pa 0 = some x ∧ rdI w'' pb 0 = some y ∧ rdI w'' N1 0 = some zID):=fun w' w'' f h=>⟨rdI_fr h.1 (rdI_lt h.1) f (by simp [noB]),rdI_fr h.2.1 (rdI_lt h.2.1) f (by simp [noB]),rdI_fr h.2.2 (rdI_lt h.2.2) f (by simp [noB])⟩
      have hF0:rdI u9.drew pa 0 = some x ∧ rdI u9.drew pb 0 = some y ∧ rdI u9.drew N1 0 = some zID:=⟨T0.a,T0.b,by rw [← eF.out];exact T0.f⟩
      clear T0
      refine wp_region_M 32 33 [⟨2596148429267413814265248164610048,128,0⟩,⟨5192296858534827628530496329220096,2596148429267413814265248164610048,1⟩,⟨10384593717069655257060992658440192,512,0⟩,⟨20769187434139310514121985316880384,1024,0⟩,⟨41538374868278621028243970633760768,36346078009743793399713474304540672,14⟩,⟨83076749736557242056487941267521536,41538374868278621028243970633760768,16⟩,⟨166153499473114484112975882535043072,83076749736557242056487941267523584,32⟩,⟨332306998946228968225951765070086144,249230249209671726169463823802564608,96⟩,⟨664613997892457936451903530140172288,83076749736557242056487941267522048,32⟩,⟨1329227995784915872903807060280344576,1079997746575244146734343236477779968,416⟩,⟨2658455991569831745807614120560689152,1412304745521473114960295001547866112,544⟩,⟨5316911983139663491615228241121378304,2658455991569831745807614120560689152,1056⟩,⟨10633823966279326983230456482242756608,5316911983139663491615228241121378432,2048⟩,⟨21267647932558653966460912964485513216,15950735949418990474845684723364134912,6144⟩,⟨42535295865117307932921825928971026432,5316911983139663491615228241121378816,2048⟩,⟨85070591730234615865843651857942052864,5316911983139663491615228241121379328,2048⟩,⟨170141183460469231731687303715884105728,154190447511050241256841618992519970816,59392⟩,⟨340282366920938463463374607431768211456,175458095443608895223302531957005484032,67584⟩,⟨680564733841876926926749214863536422912,345599278904078126954989835672889589760,198656⟩,⟨1361129467683753853853498429727072845824,680564733841876926926749214863536423040,262144⟩,⟨2722258935367507707706996859454145691648,2041694201525630780780247644590609268736,786432⟩,⟨5444517870735015415413993718908291383296,680564733841876926926749214863536423936,262144⟩,⟨10889035741470030830827987437816582766592,680564733841876926926749214863536423424,262144⟩,⟨21778071482940061661655974875633165533184,19736377281414430880875727231042556264448,7602176⟩,⟨43556142965880123323311949751266331066368,22458636216781938588582724090496701956096,8650752⟩,⟨87112285931760246646623899502532662132736,44242024611705139913730314194370988867584,17041408⟩,⟨174224571863520493293247799005065324265472,87117602843743386310115514730773783511040,41945088⟩,⟨348449143727040986586495598010130648530944,174224571863520493293247799005065324267520,67108864⟩,⟨696898287454081973172991196020261297061888,522673715590561479879743397015195972796416,201326592⟩,⟨1393796574908163946345982392040522594123776,174224571863520493293247799005065324265472,67108864⟩,⟨2787593149816327892691964784081045188247552,2264919434225766412812221387065849215451136,872415232⟩,⟨5575186299632655785383929568162090376495104,2961823038591831525648704198314351633891328,1140852736⟩,⟨11150372599265311570767859136324180752990208,5575191616544638925047421183390331497873408,2147485696⟩] [(true,0),(true,2),(true,3),(false,1),(false,4),(true,5),(true,6),(true,7),(true,8),(true,9),(true,10),(true,11),(true,12),(true,14),(true,15),(false,13),(false,16),(true,17),(true,18),(true,19),(true,21),(true,22),(false,20),(false,23),(true,24),(true,25),(true,26),(true,27),(true,28),(true,29),(true,30),(true,31)] (fun w'=>rdI w' pa 0 = some x ∧ rdI w' pb 0 = some y ∧ rdI w' N1 0 = some zID) (by kernel_rfl) rfl (by kernel_rfl) (by kernel_rfl) (by kernel_rfl) hF0 (fun hA hF=>?_)
      clear hF0
      iterate 3
       refine wpAnyS_take (v:=?_) hA rfl (fun _ _ _ h=>h) (Or.inl ⟨by rfl,?_⟩) hF (fun hA=>?_)
       rotate_left
       ·intro wS hSw;(try dsimp only at hSw);obtain ⟨s1,s2,s3⟩:=hSw;first | (apply Eq.trans;apply ex_ld_id;exact rfl;exact rfl;assumption;with_reducible rfl) | (apply Eq.trans;apply ex_bld0_at;exact rfl;with_reducible rfl) | (go_simp;try with_reducible rfl)
       try simp only [List.getElem_toArray,List.getElem_cons_zero,List.getElem_cons_succ,Act.put,List.setIfInBounds_toArray,List.set_cons_zero,List.set_cons_succ]
      refine wpAnyS_one hA rfl (fun K' hK=>?_)
      go_simp
      go_at_call 12
      refine (MD.out _ F0).mono ?_
      rintro e v1 ⟨D1,Fd1,rfl,hd1,k1⟩
      replace hF:=hk _ _ k1 hF
      refine hK.out _ _ hF (fun hA=>?_)
      clear hK K'
      have G1:=F0.step0 k1
      have K1:=fd.step0 k1
      refine wpAnyS_one hA rfl (fun K' hK=>?_)
      go_simp
      go_at_call 27
      refine (reaches_any _ D1 Fd1 (dgH L) hd1 x y).mono ?_
      rintro e v2 ⟨rfl,k2⟩
      rw [hab]
      replace hF:=hk _ _ k2 hF
      refine hK.out _ _ hF (fun hA=>?_)
      clear hK K'
      have G2:=G1.step0 k2
      have K2:=K1.step0 k2
      clear F0 fd k1 k2 G1 K1 hd1
      refine wpAnyS_take (v:=?_) hA rfl (fun _ _ _ h=>h) (Or.inl ⟨by rfl,?_⟩) hF (fun hA=>?_)
      rotate_left
      ·intro wS hSw;(try dsimp only at hSw);obtain ⟨s1,s2,s3⟩:=hSw;first | (apply Eq.trans;apply ex_ld_id;exact rfl;exact rfl;assumption;with_reducible rfl) | (apply Eq.trans;apply ex_bld0_at;exact rfl;with_reducible rfl) | (go_simp;try with_reducible rfl)
      try simp only [List.getElem_toArray,List.getElem_cons_zero,List.getElem_cons_succ,Act.put,List.setIfInBounds_toArray,List.set_cons_zero,List.set_cons_succ]
      iterate 4
       refine wpAnyS_take (v:=undef) hA rfl (fun _ _ _ h=>h) (Or.inr ⟨by rfl,rfl⟩) hF (fun hA=>?_)
       try simp only [List.getElem_toArray,List.getElem_cons_zero,List.getElem_cons_succ,Act.put,List.setIfInBounds_toArray,List.set_cons_zero,List.set_cons_succ]
      iterate 5
       refine wpAnyS_take (v:=?_) hA rfl (fun _ _ _ h=>h) (Or.inl ⟨by rfl,?_⟩) hF (fun hA=>?_)
       rotate_left
       ·intro wS hSw;(try dsimp only at hSw);obtain ⟨s1,s2,s3⟩:=hSw;first | (apply Eq.trans;apply ex_ld_id;exact rfl;exact rfl;assumption;with_reducible rfl) | (apply Eq.trans;apply ex_bld0_at;exact rfl;with_reducible rfl) | (go_simp;try with_reducible rfl)
       try simp only [List.getElem_toArray,List.getElem_cons_zero,List.getElem_cons_succ,Act.put,List.setIfInBounds_toArray,List.set_cons_zero,List.set_cons_succ]
      refine wpAnyS_one hA rfl (fun K' hK=>?_)
      rw [if_pos (by rfl)]
      go_simp
      go_at_call 12
      refine (MD.out _ G2).mono ?_
      rintro e v3 ⟨D2,Fd2,rfl,hd2,k3⟩
      replace hF:=hk _ _ k3 hF
      refine hK.out _ _ hF (fun hA=>?_)
      clear hK K'
      have G3:=G2.step0 k3
      have K3:=K2.step0 k3
      refine wpAnyS_one hA rfl (fun K' hK=>?_)
      rw [if_pos (by rfl)]
      go_simp
      go_at_call 27
      refine (reaches_any _ D2 Fd2 (dgH L) hd2 x y).mono ?_
      rintro e v4 ⟨rfl,k4⟩
      rw [hab]
      replace hF:=hk _ _ k4 hF
      refine hK.out _ _ hF (fun hA=>?_)
      clear hK K'
      have G4:=G3.step0 k4
      have K4:=K3.step0 k4
      clear k3 k4 G3 K3 hd2 G2 K2
      iterate 5
       refine wpAnyS_take (v:=?_) hA rfl (fun _ _ _ h=>h) (Or.inl ⟨by rfl,?_⟩) hF (fun hA=>?_)
       rotate_left
       ·intro wS hSw;(try dsimp only at hSw);obtain ⟨s1,s2,s3⟩:=hSw;first | (apply Eq.trans;apply ex_ld_id;exact rfl;exact rfl;assumption;with_reducible rfl) | (apply Eq.trans;apply ex_bld0_at;exact rfl;with_reducible rfl) | (go_simp;try with_reducible rfl)
       try simp only [List.getElem_toArray,List.getElem_cons_zero,List.getElem_cons_succ,Act.put,List.setIfInBounds_toArray,List.set_cons_zero,List.set_cons_succ]
      refine wpAnyS_one hA rfl (fun K' hK=>?_)
      rw [if_pos (by rfl)]
      go_simp
      go_at_call 12
      refine (MD.out _ G4).mono ?_
      rintro e v5 ⟨D3,Fd3,rfl,hd3,k5⟩
      replace hF:=hk _ _ k5 hF
      refine hK.out _ _ hF (fun hA=>?_)
      clear hK K'
      have G5:=G4.step0 k5
      have K5:=K4.step0 k5
      refine wpAnyS_one hA rfl (fun K' hK=>?_)
      rw [if_pos (by rfl)]
      go_simp
      go_at_call 27
      refine (reaches_any _ D3 Fd3 (dgH L) hd3 y x).mono ?_
      rintro e v6 ⟨rfl,k6⟩
      rw [hba]
      replace hF:=hk _ _ k6 hF
      refine hK.out _ _ hF (fun hA=>?_)
      clear hK K'
      have K6:=K5.step0 k6
      clear k5 k6 G5 K5 hd3 G4 K4
      iterate 8
       refine wpAnyS_take (v:=?_) hA rfl (fun _ _ _ h=>h) (Or.inl ⟨by rfl,?_⟩) hF (fun hA=>?_)
       rotate_left
       ·intro wS hSw;(try dsimp only at hSw);obtain ⟨s1,s2,s3⟩:=hSw;first | (apply Eq.trans;apply ex_ld_id;exact rfl;exact rfl;assumption;with_reducible rfl) | (apply Eq.trans;apply ex_bld0_at;exact rfl;with_reducible rfl) | (go_simp;try with_reducible rfl)
       try simp only [List.getElem_toArray,List.getElem_cons_zero,List.getElem_cons_succ,Act.put,List.setIfInBounds_toArray,List.set_cons_zero,List.set_cons_succ]
      refine wpAnyS_end hA rfl ?_
      simp only [List.drop_succ_cons,List.drop_zero]
      go_wp2_with fail
      go_meet
      case rel=>exact ⟨rfl,K6⟩
   case rest =>
    obtain ⟨rfl,f10⟩:=hcut
    have T10:=T9.fr f10
    have F10:=F9.step0 f10
    have RS10:=Lib.hid (RS9.out.fr0 f10)
    clear T9 F9 RS9 f10
    go_upto_region 16 with fail
    have fd:Fr noB wc wc.drew:=(Fr.refl noB wc).drew
    have T0:=T10.fr fd
    have F0:=F10.step0 fd
    have HOUT:=Lib.hid (fun u (f:Fr noB wc.drew u)=>show Fr noB w u from HF.out.step0 (F0.step0 f))
    have RS0:=Lib.hid (RS10.out.fr0 fd)
    have hk:∀ w' w'':World,Fr noB w' w'' → (rdI w' pa 0 = some x ∧ rdI w' pb 0 = some y ∧ w'.cell? ⟨N1,33,none⟩ = some (.slice p1.RA p1.rn p1.rc)) → (rdI w'' pa 0 = some x ∧ rdI w'' pb 0 = some y ∧ w''.cell? ⟨N1,33,none⟩ = some (.slice p1.RA p1.rn p1.rc)):=fun w' w'' f h=>⟨rdI_fr h.1 (rdI_lt h.1) f (by simp [noB]),rdI_fr h.2.1 (rdI_lt h.2.1) f (by simp [noB]),cell_fr0 h.2.2 f⟩
    have hF0:rdI wc.drew pa 0 = some x ∧ rdI wc.drew pb 0 = some y ∧ wc.drew.cell? ⟨N1,33,none⟩ = some (.slice p1.RA p1.rn p1.rc):=⟨T0.a,T0.b,T0.r⟩
    clear T10 F10 RS10 T0 fd
    refine wp_region_T 22 23 [⟨22300745198530623141535718272648361505980416,2048,0⟩,⟨44601490397061246283071436545296723011960832,22300745198530623141535718272648361505980416,1⟩,⟨89202980794122492566142873090593446023921664,128,0⟩,⟨178405961588244985132285746181186892047843328,512,0⟩,⟨356811923176489970264571492362373784095686656,1024,0⟩,⟨713623846352979940529142984724747568191373312,535217884764734955396857238543560676143529984,24⟩,⟨1427247692705959881058285969449495136382746624,802826827147102433095285857815341014215294976,36⟩,⟨2854495385411919762116571938898990272765493248,1471849183103021127341357405994791859394707456,66⟩,⟨5708990770823839524233143877797980545530986496,2854495385411919762116571938898990272765493248,128⟩,⟨11417981541647679048466287755595961091061972992,5708990770823839524233143877797980545530986624,256⟩,⟨22835963083295358096932575511191922182123945984,5708990770823839524233143877797980545530987008,256⟩,⟨45671926166590716193865151022383844364247891968,5708990770823839524233143877797980545530987520,256⟩,⟨91343852333181432387730302044767688728495783936,74216880020709913815030870411373747091902824448,3328⟩,⟨182687704666362864775460604089535377456991567872,108470824645652950960429733678161630365088743424,4864⟩,⟨365375409332725729550921208179070754913983135744,5708990770823839524233143877797980545530986624,256⟩,⟨730750818665451459101842416358141509827966271488,5708990770823839524233143877797980545530987520,256⟩,⟨1461501637330902918203684832716283019655932542976,5708990770823839524233143877797980545530987008,256⟩,⟨2923003274661805836407369665432566039311865085952,5708990770823839524233143877797980545530987520,256⟩,⟨5846006549323611672814739330865132078623730171904,5120964721428984053237130058384788549341294886912,229632⟩,⟨11692013098647223345629478661730264157247460343808,6217090949427161241889893682922000814083244294144,286976⟩,⟨23384026197294446691258957323460528314494920687616,11880409794084410049929172409697597515249982898176,532736⟩,⟨46768052394588893382517914646921056628989841375232,23389735188065270530783190467338326295040451674112,1048832⟩,⟨64,46768052394588893382517914646921056628989841375232,4194303⟩] (.take 0 (.take 1 (.take 2 (.take 3 (.take 4 (.one 5 (.one 6 (.one 7 (.take 8 (.take 9 (.take 10 (.take 11 (.take 14 (.take 15 (.take 16 (.take 17 (.two 12 18 (.two 13 18 (.one 18 (.one 19 (.one 20 (.take 21 .done)))) (.one 13 (.one 19 (.one 20 (.take 21 .done))))) (.one 12 (.one 13 (.one 19 (.one 20 (.take 21 .done)))))))))))))))))))))) (fun w'=>rdI w' pa 0 = some x ∧ rdI w' pb 0 = some y ∧ w'.cell? ⟨N1,33,none⟩ = some (.slice p1.RA p1.rn p1.rc)) (by kernel_rfl) rfl (by kernel_rfl) (by kernel_rfl) (by kernel_rfl) hF0 (fun hA hF=>?_)
    clear hF0
    generalize wc.drew = V at F0 HOUT RS0 hF ⊢
    iterate 5
     refine wpAnyT_take (v:=?_) hA rfl (fun _ _ _ h=>h) (Or.inl ⟨by rfl,?_⟩) hF (fun hA=>?_)
     rotate_left
     ·intro wS hSw;(try dsimp only at hSw);obtain ⟨s1,s2,s3⟩:=hSw;first | (apply Eq.trans;apply ex_ld_id;exact rfl;exact rfl;assumption;with_reducible rfl) | (apply Eq.trans;apply ex_bld0_at;exact rfl;with_reducible rfl) | (go_simp;try with_reducible rfl)
     try simp only [List.getElem_toArray,List.getElem_cons_zero,List.getElem_cons_succ,Act.put,List.setIfInBounds_toArray,List.set_cons_zero,List.set_cons_succ]
    refine wpAnyT_one hA rfl (fun K' hK=>?_)
    refine step_runI rfl _ _ (ex_bsM2_at (x:=x) (y:=y) rfl rfl rfl) ?_
    have fn:Fr noB V (V.alloc (rowo [x,y])):=(Fr.refl noB _).alloc _
    have sn:=sl_new V [x,y]
    replace hF:=hk _ _ fn hF
    refine hK.out _ _ hF (fun hA=>?_)
    clear hK K'
    try simp only [List.getElem_toArray,List.getElem_cons_zero,List.getElem_cons_succ,Act.put,List.setIfInBounds_toArray,List.set_cons_zero,List.set_cons_succ,World.size_alloc]
    refine wpAnyT_one hA rfl (fun K' hK=>?_)
    go_simp
    go_at_call 20
    refine (MR.out _ (F0.step0 fn) _ _ 2 [x,y] rfl sn (by simp)).mono ?_
    rintro e u11 hr
    obtain ⟨Ar,nr,cr,lr,rfl,pr,br,rr,f11⟩:=hr.u
    have eo:=PL1.out.ops_two HOKL.out pr
    rw [← eo] at rr
    replace hF:=hk _ _ f11 hF
    refine hK.out _ _ hF (fun hA=>?_)
    clear hK K'
    try simp only [List.getElem_toArray,List.getElem_cons_zero,List.getElem_cons_succ,Act.put,List.setIfInBounds_toArray,List.set_cons_zero,List.set_cons_succ,World.size_alloc]
    refine wpAnyT_one hA rfl (fun K' hK=>?_)
    go_simp
    go_at_call 19
    refine (same_rows (RS0.out.fr0 (fn.step0 f11)) rr.s OL1.out).mono ?_
    rintro e u12 ⟨rfl,f12⟩
    replace hF:=hk _ _ f12 hF
    refine hK.out _ _ hF (fun hA=>?_)
    clear hK K'
    try simp only [List.getElem_toArray,List.getElem_cons_zero,List.getElem_cons_succ,Act.put,List.setIfInBounds_toArray,List.set_cons_zero,List.set_cons_succ,World.size_alloc]
    have G0:=(fn.step0 f11).step0 f12
    have F1:=F0.step0 G0
    clear fn sn hr pr br rr f11 f12 eo
    iterate 8
     refine wpAnyT_take (v:=?_) hA rfl (fun _ _ _ h=>h) (Or.inl ⟨by rfl,?_⟩) hF (fun hA=>?_)
     rotate_left
     ·intro wS hSw;(try dsimp only at hSw);obtain ⟨s1,s2,s3⟩:=hSw;first | (apply Eq.trans;apply ex_ld_id;exact rfl;exact rfl;assumption;with_reducible rfl) | (apply Eq.trans;apply ex_bld0_at;exact rfl;with_reducible rfl) | (go_simp;try with_reducible rfl)
     try simp only [List.getElem_toArray,List.getElem_cons_zero,List.getElem_cons_succ,Act.put,List.setIfInBounds_toArray,List.set_cons_zero,List.set_cons_succ]
    apply lift_T3 (F:=fun q1 q2 v u=>∃ A7 n7 c7,v = .slice A7 n7 c7 ∧ RowsS u A7 n7 c7 ops1 ∧ Sl u (some ⟨q2,0,none⟩) (idc [y,x,y]) ∧ (rdI u pa 0 = some x ∧ rdI u pb 0 = some y ∧ u.cell? ⟨N1,33,none⟩ = some (.slice p1.RA p1.rn p1.rc)) ∧ Fr noB V u)
    ·intro cont
     refine wpAnyT_two (i:=12) (j:=18) hA rfl rfl (fun K' hK=>?_) (fun K' hK=>?_)
     ·rw [if_pos (by rfl)]
      refine step_runP _ _ (ex_bsM2_at (x:=x) (y:=y) rfl rfl rfl) ?_
      have fA:Fr noB u12 (World.alloc u12 (rowo [x,y])):=(Fr.refl noB _).alloc _
      have sA:=sl_new u12 [x,y]
      replace hF:=hk _ _ fA hF
      refine hK.out _ _ hF (fun hA=>?_)
      clear hK K'
      try simp only [List.getElem_toArray,List.getElem_cons_zero,List.getElem_cons_succ,Act.put,List.setIfInBounds_toArray,List.set_cons_zero,List.set_cons_succ,World.size_alloc]
      have F2:=F1.step0 fA
      refine wpAnyT_two (i:=13) (j:=18) hA rfl rfl (fun K' hK=>?_) (fun K' hK=>?_)
      ·rw [if_pos (by rfl)]
       go_simp
       go_at_call 20
       refine (MR.out _ F2 _ _ 2 [x,y] rfl sA (by simp)).mono ?_
       rintro e u7 hr7
       obtain ⟨A7,n7,c7,l7,rfl,p7,b7,r7,f7⟩:=hr7.u
       have e7:=PL1.out.ops_two HOKL.out p7
       rw [← e7] at r7
       replace hF:=hk _ _ f7 hF
       refine hK.out _ _ hF (fun hA=>?_)
       clear hK K'
       try simp only [List.getElem_toArray,List.getElem_cons_zero,List.getElem_cons_succ,Act.put,List.setIfInBounds_toArray,List.set_cons_zero,List.set_cons_succ,World.size_alloc]
       refine wpAnyT_one hA rfl (fun K' hK=>?_)
       rw [if_pos (by rfl)]
       refine step_runP _ _ (ex_bsM3_at (x:=y) (y:=x) (z:=y) rfl rfl rfl rfl) ?_
       have fB:Fr noB u7 (World.alloc u7 (rowo [y,x,y])):=(Fr.refl noB _).alloc _
       have sB:=sl_new u7 [y,x,y]
       replace hF:=hk _ _ fB hF
       refine hK.out _ _ hF (fun hA=>?_)
       clear hK K'
       try simp only [List.getElem_toArray,List.getElem_cons_zero,List.getElem_cons_succ,Act.put,List.setIfInBounds_toArray,List.set_cons_zero,List.set_cons_succ,World.size_alloc]
       have r8:=r7.s.fr0 fB
       have f8:=((G0.step0 fA).step0 f7).step0 fB
       generalize u7.alloc (rowo [y,x,y]) = u8 at sB hF r8 f8 ⊢
       generalize u7.heap.size = q2 at sB ⊢
       generalize u12.heap.size = q1
       generalize ev:Value.slice A7 n7 c7 = v
       exact cont q1 q2 v _ u8 ⟨A7,n7,c7,ev.symm,r8,sB,hF,f8⟩ hA
      ·rw [if_pos (by rfl)]
       refine step_runP _ _ (ex_bsM3_at (x:=y) (y:=x) (z:=y) rfl rfl rfl rfl) ?_
       have fB:Fr noB (u12.alloc (rowo [x,y])) (World.alloc (u12.alloc (rowo [x,y])) (rowo [y,x,y])):=(Fr.refl noB _).alloc _
       have sB:=sl_new (u12.alloc (rowo [x,y])) [y,x,y]
       replace hF:=hk _ _ fB hF
       refine hK.out _ _ hF (fun hA=>?_)
       clear hK K'
       try simp only [List.getElem_toArray,List.getElem_cons_zero,List.getElem_cons_succ,Act.put,List.setIfInBounds_toArray,List.set_cons_zero,List.set_cons_succ,World.size_alloc]
       have F3:=F2.step0 fB
       refine wpAnyT_one hA rfl (fun K' hK=>?_)
       rw [if_pos (by rfl)]
       go_simp
       go_at_call 20
       refine (MR.out _ F3 _ _ 2 [x,y] rfl (sA.fr0 fB) (by simp)).mono ?_
       rintro e u7 hr7
       obtain ⟨A7,n7,c7,l7,rfl,p7,b7,r7,f7⟩:=hr7.u
       have e7:=PL1.out.ops_two HOKL.out p7
       rw [← e7] at r7
       replace hF:=hk _ _ f7 hF
       refine hK.out _ _ hF (fun hA=>?_)
       clear hK K'
       try simp only [List.getElem_toArray,List.getElem_cons_zero,List.getElem_cons_succ,Act.put,List.setIfInBounds_toArray,List.set_cons_zero,List.set_cons_succ,World.size_alloc]
       have s8:=sB.fr0 f7
       have f8:=((G0.step0 fA).step0 fB).step0 f7
       try rw [World.size_alloc] at s8
       try simp only [World.size_alloc]
       generalize u12.heap.size + 1 = q2 at s8 ⊢
       generalize u12.heap.size = q1
       generalize ev:Value.slice A7 n7 c7 = v
       exact cont q1 q2 v _ u7 ⟨A7,n7,c7,ev.symm,r7.s,s8,hF,f8⟩ hA
     ·rw [if_pos (by rfl)]
      refine step_runP _ _ (ex_bsM3_at (x:=y) (y:=x) (z:=y) rfl rfl rfl rfl) ?_
      have fB:Fr noB u12 (World.alloc u12 (rowo [y,x,y])):=(Fr.refl noB _).alloc _
      have sB:=sl_new u12 [y,x,y]
      replace hF:=hk _ _ fB hF
      refine hK.out _ _ hF (fun hA=>?_)
      clear hK K'
      try simp only [List.getElem_toArray,List.getElem_cons_zero,List.getElem_cons_succ,Act.put,List.setIfInBounds_toArray,List.set_cons_zero,List.set_cons_succ,World.size_alloc]
      have F2:=F1.step0 fB
      refine wpAnyT_one hA rfl (fun K' hK=>?_)
      rw [if_pos (by rfl)]
      refine step_runP _ _ (ex_bsM2_at (x:=x) (y:=y) rfl rfl rfl) ?_
      have fA:Fr noB (u12.alloc (rowo [y,x,y])) (World.alloc (u12.alloc (rowo [y,x,y])) (rowo [x,y])):=(Fr.refl noB _).alloc _
      have sA:=sl_new (u12.alloc (rowo [y,x,y])) [x,y]
      replace hF:=hk _ _ fA hF
      refine hK.out _ _ hF (fun hA=>?_)
      clear hK K'
      try simp only [List.getElem_toArray,List.getElem_cons_zero,List.getElem_cons_succ,Act.put,List.setIfInBounds_toArray,List.set_cons_zero,List.set_cons_succ,World.size_alloc]
      rw [World.size_alloc] at sA
      have F3:=F2.step0 fA
      refine wpAnyT_one hA rfl (fun K' hK=>?_)
      rw [if_pos (by rfl)]
      go_simp
      go_at_call 20
      refine (MR.out _ F3 _ _ 2 [x,y] rfl sA (by simp)).mono ?_
      rintro e u7 hr7
      obtain ⟨A7,n7,c7,l7,rfl,p7,b7,r7,f7⟩:=hr7.u
      have e7:=PL1.out.ops_two HOKL.out p7
      rw [← e7] at r7
      replace hF:=hk _ _ f7 hF
      refine hK.out _ _ hF (fun hA=>?_)
      clear hK K'
      try simp only [List.getElem_toArray,List.getElem_cons_zero,List.getElem_cons_succ,Act.put,List.setIfInBounds_toArray,List.set_cons_zero,List.set_cons_succ,World.size_alloc]
      have s8:=(sB.fr0 fA).fr0 f7
      have f8:=((G0.step0 fB).step0 fA).step0 f7
      try simp only [World.size_alloc]
      generalize u12.heap.size + 1 = q1
      generalize u12.heap.size = q2 at s8 ⊢
      generalize ev:Value.slice A7 n7 c7 = v
      exact cont q1 q2 v _ u7 ⟨A7,n7,c7,ev.symm,r7.s,s8,hF,f8⟩ hA
    clear hA hF F1 G0
    rintro q1 q2 v L2 u ⟨A7,n7,c7,rfl,r7,sB,hF,fu⟩ hA
    refine wpAnyT_one hA rfl (fun K' hK=>?_)
    rw [if_pos (by rfl)]
    go_simp
    go_at_call 20
    refine (MR.out _ (F0.step0 fu) _ _ 3 [y,x,y] rfl sB (by simp)).mono ?_
    rintro e u14 hr
    obtain ⟨Ar,nr,cr,lr,rfl,pr,br,rr,f14⟩:=hr.u
    have eo:lr = ops1:=by
     have h2:OpsP L [x,y] lr:=⟨pr.srt,fun o=>by
      rw [pr.mem]
      constructor
      ·rintro ⟨z,c,e1,e2,e3⟩
       exact ⟨z,c,e1,reached_tri.1 e2,e3⟩
      ·rintro ⟨z,c,e1,e2,e3⟩
       exact ⟨z,c,e1,reached_tri.2 e2,e3⟩⟩
     exact (PL1.out.ops_two HOKL.out h2).symm
    rw [eo] at rr
    replace hF:=hk _ _ f14 hF
    refine hK.out _ _ hF (fun hA=>?_)
    clear hK K'
    try simp only [List.getElem_toArray,List.getElem_cons_zero,List.getElem_cons_succ,Act.put,List.setIfInBounds_toArray,List.set_cons_zero,List.set_cons_succ,World.size_alloc]
    refine wpAnyT_one hA rfl (fun K' hK=>?_)
    rw [if_pos (by rfl)]
    go_simp
    go_at_call 19
    refine (same_rows (r7.fr0 f14) rr.s OL1.out).mono ?_
    rintro e u15 ⟨rfl,f15⟩
    replace hF:=hk _ _ f15 hF
    refine hK.out _ _ hF (fun hA=>?_)
    clear hK K'
    try simp only [List.getElem_toArray,List.getElem_cons_zero,List.getElem_cons_succ,Act.put,List.setIfInBounds_toArray,List.set_cons_zero,List.set_cons_succ,World.size_alloc]
    have f16:=HOUT.out _ ((fu.step0 f14).step0 f15)
    refine wpAnyT_take (v:=?_) hA rfl (fun _ _ _ h=>h) (Or.inl ⟨by rfl,?_⟩) hF (fun hA=>?_)
    rotate_left
    ·intro wS hSw;(try dsimp only at hSw);obtain ⟨s1,s2,s3⟩:=hSw;first | (apply Eq.trans;apply ex_ld_id;exact rfl;exact rfl;assumption;with_reducible rfl) | (apply Eq.trans;apply ex_bld0_at;exact rfl;with_reducible rfl) | (go_simp;try with_reducible rfl)
    try simp only [List.getElem_toArray,List.getElem_cons_zero,List.getElem_cons_succ,Act.put,List.setIfInBounds_toArray,List.set_cons_zero,List.set_cons_succ]
    refine wpAnyT_end hA rfl ?_
    simp only [List.drop_succ_cons,List.drop_zero]
    clear hA hF hk
    go_wp2_with fail
    go_ret
    exact ⟨rfl,f16⟩
end Go.Proofs.YtjpieiccpbcabaaGreat
namespace Go.Proofs.YtjpieiccpbcabaaGreat
open Go.RowKit
theorem lawTwo15 (W:World) (A0:Option Addr) (c0:Nat) (rs0:List Tri) (hs0:Sl W A0 (codTr.row rs0)) (hb0:rs0.length ≤ 140737488355328) (a1 a2:Int) :
  Calls Tryz.prog 4 #[.slice A0 rs0.length c0,.int .i64 a1,.int .i64 a2] W (Gives W (.bool true)):=two15_any W A0 c0 _ rs0 a1 a2 rfl hs0 (by omega)
end Go.Proofs.YtjpieiccpbcabaaGreat
