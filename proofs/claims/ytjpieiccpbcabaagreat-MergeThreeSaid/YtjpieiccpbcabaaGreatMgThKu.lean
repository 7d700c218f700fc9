/- Words for MergeThree: rows that stay where a history grows; api.ID of three bytes. -/
import Derived.Test.YtjpieiccpbcabaaGreatMgThPKu
import Derived.Test.YtjpieiccpbcabaaGreatFrameT3Ku
set_option linter.unusedVariables false
set_option linter.unusedSimpArgs false
namespace Go.Proofs.YtjpieiccpbcabaaGreat
open Go.RowKit Go.Maps Go.Sort
theorem RowsTo.far {wa w' w'':World} {ops:List Opn} {A:Option Addr} {n c:Nat} {M:Nat → Prop} (h:RowsTo wa (runX [] ops) (.returned (.slice A n c)) w') (f:Fr M w' w'') (hM:∀ b,M b → b < wa.heap.size):RowsS w'' A n c ops:=by
 obtain ⟨A',c',rs,ys,e,o,x,_,p,q,_⟩:=h
 injection e with e
 injection e with e1 e2 e3
 subst e1 e2 e3
 refine ⟨rs,ys,rfl,Sl.own (own_fr o f (fun g hg hm=>?_)),⟨x.1,fun i h h'=>?_⟩,p,q⟩
 ·rw [ownBlock_sl'] at hg
  have h1:=(own_lt o g hg).1
  have h2:=hM g hm
  omega
 ·have hq:=x.2 i h h'
  have hi:=hq.row.inn
  refine ⟨hi.eq,hi.len,Sl.own (own_fr hq.own f (fun g hg hm=>?_)),hi.bd,hi.nm,hi.wn,hi.wp⟩
  rw [ownBlock_sl'] at hg
  have h1:=(own_lt hq.own g hg).1
  have h2:=hM g hm
  omega
def RowsF (S:Nat → Prop) (w:World) (A:Option Addr) (n c:Nat) (ops:List Opn):Prop:=∀ w'',Fr S w w'' → RowsS w'' A n c ops
theorem RowsF.fr {S:Nat → Prop} {w w':World} {A:Option Addr} {n c:Nat} {ops:List Opn} (h:RowsF S w A n c ops) (f:Fr S w w'):RowsF S w' A n c ops:=fun w'' g=>h w'' (f.step g (fun b hb=>.inr hb))
theorem RwsTo.f {w w':World} {L:Hst} {ids:List ID} {e:Ending} (h:RwsTo w L ids e w') {S:Nat → Prop} (hS:∀ b,S b → b < w.heap.size):∃ A n c l,e = .returned (.slice A n c) ∧ OpsP L ids l ∧ l.length ≤ 64000 ∧ RowsF S w' A n c l ∧ RowsS w' A n c l ∧ Fr noB w w':=by
 obtain ⟨l,wa,h1,h2,h3,h4⟩:=h
 obtain ⟨A,c,rs,ys,rfl,h5⟩:=id h4
 exact ⟨A,_,c,l,rfl,h1,h2,fun w'' f=>h4.far f fun b hb=>Nat.lt_of_lt_of_le (hS b hb) h3.size,h4.w.s,h3.step0 h5.2.2.2.2.2⟩
theorem bld_3 (w:World) (a b c:Nat) (h:a < 256) (hb:b < 256) (hc:c < 256):(Instr.build 24 #[(0,.int .u8 (a:Int)),(1,.int .u8 (b:Int)),(2,.int .u8 (c:Int))]).run Tryz.prog w = .ok (encI (id3 a b c)) w:=by
 have h1:Instr.fill (fun i=>some (i * 1,1)) ([] ++ [u8v 0] ++ (u8v 0 :: bv (List.replicate 30 0))).toArray [(0,.int .u8 (a:Int)),(1,.int .u8 (b:Int)),(2,.int .u8 (c:Int))] = some (idA (id3 a b c)):=by
  refine (fill_one (fun i=>some (i * 1,1)) [] [u8v 0] _ [.int .u8 (a:Int)] 0 (.int .u8 (a:Int)) [(1,.int .u8 (b:Int)),(2,.int .u8 (c:Int))] rfl rfl rfl).trans ?_
  refine (fill_one (fun i=>some (i * 1,1)) [.int .u8 (a:Int)] [u8v 0] (bv (List.replicate 30 0)) [.int .u8 (b:Int)] 1 (.int .u8 (b:Int)) [(2,.int .u8 (c:Int))] rfl rfl rfl).trans ?_
  refine (fill_one (fun i=>some (i * 1,1)) [.int .u8 (a:Int),.int .u8 (b:Int)] [u8v 0] (bv (List.replicate 29 0)) [.int .u8 (c:Int)] 2 (.int .u8 (c:Int)) [] rfl rfl rfl).trans ?_
  rw [idA_eq,u8_of a h,u8_of b hb,u8_of c hc]
  rfl
 simp only [Instr.build,Sem.run_bind,zeroID,Result.andThen_ok,run_underlying Tryz.underlying24,Tryz.sizeOf5,z_split1,h1,Sem.run_pure]
/-! [3]api.ID -/
structure T3 where
 x:ID
 y:ID
 z:ID
def csT3 (t:T3):List Value:=bv t.x.1 ++ (bv t.y.1 ++ bv t.z.1)
def zT3:T3:=⟨zID,zID,zID⟩
theorem lenT3 (t:T3):(csT3 t).length = 96:=by
 unfold csT3
 simp [t.x.2,t.y.2,t.z.2]
def codT3:Cod T3:=⟨74,96,csT3,zT3,lenT3,by decide,fun t u hu=>by
  unfold csT3 at hu
  rw [List.mem_append,List.mem_append] at hu
  rcases hu with h | h | h
  ·exact idc_one [t.x] u (by simpa [idc] using h)
  ·exact idc_one [t.y] u (by simpa [idc] using h)
  ·exact idc_one [t.z] u (by simpa [idc] using h),fun s t h=>by
  unfold csT3 at h
  have e1:=List.append_inj h (by simp [s.x.2,t.x.2])
  have e2:=List.append_inj e1.2 (by simp [s.y.2,t.y.2])
  obtain ⟨sx,sy,sz⟩:=s
  obtain ⟨tx,ty,tz⟩:=t
  have inj:∀ {a b:ID},bv a.1 = bv b.1 → a = b:=fun {a b} e=>Subtype.ext (bv_inj e)
  rw [show sx = tx from inj e1.1,show sy = ty from inj e2.1,show sz = tz from inj e2.2]⟩
theorem okT3:CodOk Tryz.prog codT3:=⟨⟨_,Tryz.underlying74,rfl⟩,by kernel_rfl,fun w=>(zero_of_info (P:=Tryz.prog) (t:=74) (v:=.agg (codT3.cs codT3.z).toArray) (n:=96) (by kernel_rfl)).1 w⟩
@[simp ↓] theorem ex_ldT3 (ρ:Operand → Value) (d:Option Nat) (a:Operand) (t:TypeId) (p:String) (f:Array Edge) (g:Option (Nat × Bool)) (w:World) :
  (execOp ρ { dst:=d,op:=.load 74 a,type:=t,pos:=p,after:=f,guard:=g }).run Tryz.prog w = codT3.ldR w (ρ a) (exElse ρ { dst:=d,op:=.load 74 a,type:=t,pos:=p,after:=f,guard:=g } w):=okT3.ldOp ρ _ a rfl w
@[simp ↓] theorem ex_alT3 (ρ:Operand → Value) (d:Option Nat) (t:TypeId) (p:String) (f:Array Edge) (g:Option (Nat × Bool)) (w:World) :
  (execOp ρ { dst:=d,op:=.alloc 74,type:=t,pos:=p,after:=f,guard:=g }).run Tryz.prog w = .ok (.value (.pointer (some ⟨w.heap.size,0,none⟩))) (w.alloc (codT3.o zT3)):=okT3.alOp ρ _ rfl w
@[simp ↓] theorem ex_stT3 (ρ:Operand → Value) (a x:Operand) (d:Option Nat) (t:TypeId) (p:String) (f:Array Edge) (g:Option (Nat × Bool)) (w:World) :
  (execOp ρ { dst:=d,op:=.store 74 a x,type:=t,pos:=p,after:=f,guard:=g }).run Tryz.prog w = codT3.stR w (ρ a) (ρ x):=Cod.stOp (C:=codT3) ρ _ a x rfl w
@[simp] theorem st_newT3 (w:World) (x y:T3):codT3.stR (w.alloc (codT3.o y)) (.pointer (some ⟨w.heap.size,0,none⟩)) (.agg (codT3.A x)) = .ok .skip (w.alloc (codT3.o x)):=okT3.stR_new w x y
theorem bld3_T3 (w:World) (x y z:ID):(Instr.build 74 #[(0,encI x),(1,encI y),(2,encI z)]).run Tryz.prog w = .ok (.agg (codT3.A ⟨x,y,z⟩)) w:=by
 have hz:(Value.agg (codT3.A zT3)).cells = ([] ++ z32 ++ (z32 ++ z32)).toArray:=by rw [Cod.A_eq];rfl
 have hz0:(zeroValue 74).run Tryz.prog w = .ok (.agg (codT3.A zT3)) w:=okT3.zv w
 have h1:Instr.fill (fun i=>some (i * 32,32)) ([] ++ z32 ++ (z32 ++ z32)).toArray [(0,encI x),(1,encI y),(2,encI z)] = some (codT3.A ⟨x,y,z⟩):=by
  refine (fill_one (fun i=>some (i * 32,32)) [] z32 (z32 ++ z32) (bv x.1) 0 (encI x) [(1,encI y),(2,encI z)] (cellsI x) (by simp [x.2]) (by simp [x.2,z32_len])).trans ?_
  have e1:=fill_one (fun i=>some (i * 32,32)) (bv x.1) z32 z32 (bv y.1) 1 (encI y) [(2,encI z)] (cellsI y) (by simp [x.2,y.2]) (by simp [y.2,z32_len])
  refine Eq.trans ?_ (e1.trans ?_)
  ·simp
  have e2:=fill_one (fun i=>some (i * 32,32)) (bv x.1 ++ bv y.1) z32 [] (bv z.1) 2 (encI z) [] (cellsI z) (by simp [x.2,y.2,z.2]) (by simp [z.2,z32_len])
  refine Eq.trans ?_ (e2.trans ?_)
  ·simp
  rw [Cod.A_eq]
  simp [Instr.fill,codT3,csT3]
 simp only [Instr.build,Sem.run_bind,hz0,Result.andThen_ok,run_underlying Tryz.underlying74,Tryz.sizeOf24,hz,h1,Sem.run_pure]
@[irreducible] noncomputable def bT3 (w:World) (a b c:Value):Result Next:=((Instr.build 74 #[(0,a),(1,b),(2,c)]).run Tryz.prog w).andThen (fun v w=>.ok (.value v) w)
@[simp ↓] theorem ex_bT3 (ρ:Operand → Value) (a b c:Operand) (d:Option Nat) (t:TypeId) (p:String) (f:Array Edge) (g:Option (Nat × Bool)) (w:World) :
  (execOp ρ { dst:=d,op:=.build 74 #[(0,a),(1,b),(2,c)],type:=t,pos:=p,after:=f,guard:=g }).run Tryz.prog w = bT3 w (ρ a) (ρ b) (ρ c):=by
 unfold execOp bT3
 simp only [List.map_toArray,List.map_cons,List.map_nil,Sem.run_bind,Sem.run_pure]
@[simp] theorem bT3_at (w:World) (x y z:ID):bT3 w (encI x) (encI y) (encI z) = .ok (.value (.agg (codT3.A ⟨x,y,z⟩))) w:=by
 unfold bT3;rw [bld3_T3];rfl
theorem bs4_T3 (w:World) (a b c d:T3):(Instr.buildSlice 75 4 #[(0,.agg (codT3.A a)),(1,.agg (codT3.A b)),(2,.agg (codT3.A c)),(3,.agg (codT3.A d))]).run Tryz.prog w = .ok (.slice (some ⟨w.heap.size,0,none⟩) 4 4) (w.alloc (codT3.ro [a,b,c,d])):=by
 have hz0:∀ w,(zeroValue 74).run Tryz.prog w = .ok (.agg (codT3.A zT3)) w:=fun w=>okT3.zv w
 have e (t:T3):(Value.agg (codT3.A t)).cells = (csT3 t).toArray:=by rw [Cod.A_eq];rfl
 have hz:(Array.range (4 * 96)).map ((Value.agg (codT3.A zT3)).cells[· % (Value.agg (codT3.A zT3)).cells.size]!) = ([] ++ csT3 zT3 ++ (csT3 zT3 ++ (csT3 zT3 ++ csT3 zT3))).toArray:=by rw [e];kernel_rfl
 have h1:Instr.fill (fun i=>some (i * 96,96)) ([] ++ csT3 zT3 ++ (csT3 zT3 ++ (csT3 zT3 ++ csT3 zT3))).toArray [(0,.agg (codT3.A a)),(1,.agg (codT3.A b)),(2,.agg (codT3.A c)),(3,.agg (codT3.A d))] = some (codT3.row [a,b,c,d]).toArray:=by
  refine (fill_one (fun i=>some (i * 96,96)) [] (csT3 zT3) _ (csT3 a) 0 _ _ (e a) (by simp [lenT3]) (by simp [lenT3])).trans ?_
  have e1:=fill_one (fun i=>some (i * 96,96)) (csT3 a) (csT3 zT3) (csT3 zT3 ++ csT3 zT3) (csT3 b) 1 (.agg (codT3.A b)) [(2,.agg (codT3.A c)),(3,.agg (codT3.A d))] (e b) (by simp [lenT3]) (by simp [lenT3])
  refine Eq.trans ?_ (e1.trans ?_)
  ·simp
  have e2:=fill_one (fun i=>some (i * 96,96)) (csT3 a ++ csT3 b) (csT3 zT3) (csT3 zT3) (csT3 c) 2 (.agg (codT3.A c)) [(3,.agg (codT3.A d))] (e c) (by simp [lenT3]) (by simp [lenT3])
  refine Eq.trans ?_ (e2.trans ?_)
  ·simp
  have e3:=fill_one (fun i=>some (i * 96,96)) (csT3 a ++ csT3 b ++ csT3 c) (csT3 zT3) [] (csT3 d) 3 (.agg (codT3.A d)) [] (e d) (by simp [lenT3]) (by simp [lenT3])
  refine Eq.trans ?_ (e3.trans ?_)
  ·simp
  simp [Instr.fill,Cod.row,codT3]
 simp only [Instr.buildSlice,Sem.run_bind,run_underlying Tryz.underlying75,Result.andThen_ok,Tryz.sizeOf74,hz0]
 simp only [show (4 * 96 > 2 ^ 24) = False from by simp,show (4 * 96 = 0) = False from by simp,if_false,Sem.run_bind,hz0,Result.andThen_ok,Sem.run_pure,hz,h1]
 have er:codT3.ro [a,b,c,d] = .cells (codT3.row [a,b,c,d]).toArray codT3.t:=by unfold Cod.ro;rfl
 rw [er]
 rfl
@[irreducible] noncomputable def bsT3 (w:World) (a b c d:Value):Result Next:=((Instr.buildSlice 75 4 #[(0,a),(1,b),(2,c),(3,d)]).run Tryz.prog w).andThen (fun v w=>.ok (.value v) w)
@[simp ↓] theorem ex_bsT3 (ρ:Operand → Value) (a b c e:Operand) (d:Option Nat) (t:TypeId) (p:String) (f:Array Edge) (g:Option (Nat × Bool)) (w:World) :
  (execOp ρ { dst:=d,op:=.buildSlice 75 4 #[(0,a),(1,b),(2,c),(3,e)],type:=t,pos:=p,after:=f,guard:=g }).run Tryz.prog w = bsT3 w (ρ a) (ρ b) (ρ c) (ρ e):=by
 unfold execOp bsT3
 simp only [List.map_toArray,List.map_cons,List.map_nil,Sem.run_bind,Sem.run_pure]
@[simp] theorem bsT3_at (w:World) (a b c d:T3):bsT3 w (.agg (codT3.A a)) (.agg (codT3.A b)) (.agg (codT3.A c)) (.agg (codT3.A d)) = .ok (.value (.slice (some ⟨w.heap.size,0,none⟩) 4 4)) (w.alloc (codT3.ro [a,b,c,d])):=by
 unfold bsT3;rw [bs4_T3];rfl
theorem t3At {w:World} {b:Nat} {t:T3} (h:codT3.bxd w b = some t):rdI w b 0 = some t.x ∧ Sl w (some ⟨b,32,none⟩) (idc [t.y,t.z]):=by
 have h0:=Cod.bxd_rd h
 have h1:∀ j v,(bv t.x.1)[j]? = some v → (codT3.cs t)[0 + j]? = some v:=fun j v hv=>by
  show (csT3 t)[0 + j]? = some v
  unfold csT3
  rw [Nat.zero_add,List.getElem?_append_left (List.getElem?_eq_some_iff.1 hv).1]
  exact hv
 have h2:∀ j v,(idc [t.y,t.z])[j]? = some v → (codT3.cs t)[32 + j]? = some v:=fun j v hv=>by
  show (csT3 t)[32 + j]? = some v
  unfold csT3
  rw [List.getElem?_append_right (by simp [t.x.2])]
  have e:32 + j - (bv t.x.1).length = j:=by simp [t.x.2]
  rw [e]
  simpa [idc] using hv
 have h3:=Cod.rdI_part (y:=t.x) h0 0 h1
 refine ⟨by simpa using h3,fun _=>⟨b,32,rfl,Cod.bxd_lt h,fun j v hv=>?_⟩⟩
 have h4:=Cod.rd_cell h0 (32 + j) (h2 j v hv)
 simpa using h4
/-! api.ID{200, byte(n), byte(m)} at the operation -/
@[irreducible] noncomputable def mkI3 (w:World) (a b c:Value):Result Next:=((Instr.build 24 #[(0,a),(1,b),(2,c)]).run Tryz.prog w).andThen (fun v w=>.ok (.value v) w)
@[simp ↓] theorem ex_bldI3 (ρ:Operand → Value) (a b c:Operand) (d:Option Nat) (t:TypeId) (p:String) (f:Array Edge) (g:Option (Nat × Bool)) (w:World) :
  (execOp ρ { dst:=d,op:=.build 24 #[(0,a),(1,b),(2,c)],type:=t,pos:=p,after:=f,guard:=g }).run Tryz.prog w = mkI3 w (ρ a) (ρ b) (ρ c):=by
 unfold execOp mkI3
 simp only [List.map_toArray,List.map_cons,List.map_nil,Sem.run_bind,Sem.run_pure]
@[simp] theorem mkI3_at (w:World) (n m:Nat):mkI3 w (.int .u8 200) (.int .u8 (n:Int)) (.int .u8 (m:Int)) = if n < 256 ∧ m < 256 then .ok (.value (encI (idT n m))) w else elseR (mkI3 w (.int .u8 200) (.int .u8 (n:Int)) (.int .u8 (m:Int))):=by
 split
 ·rename_i h
  unfold mkI3
  rw [show (Value.int .u8 200) = .int .u8 ((200:Nat):Int) from rfl,bld_3 w 200 n m (by decide) h.1 h.2]
  rfl
 ·exact elseR_eq _
/-! a Change of four parts -/
theorem bldC_p4 (w:World) (A:Option Addr) (n c:Nat) (t r:Int) (x:ID):(Instr.build 35 #[(0,.slice A n c),(1,.int .i64 t),(2,.int .i64 r),(4,encI x)]).run Tryz.prog w = .ok (.agg (codC.A ⟨A,n,c,t,r,none,0,0,x,[]⟩)) w:=by
 have h1:∀ place:Nat → Option (Nat × Nat),place 0 = some (0,1) → place 1 = some (1,1) → place 2 = some (2,1) → place 4 = some (4,32) → Instr.fill place ([] ++ [Value.slice none 0 0] ++ ([Value.int .i64 0,Value.int .i64 0,Value.slice none 0 0] ++ bv zID.1 ++ [Value.string (str [])])).toArray [(0,.slice A n c),(1,.int .i64 t),(2,.int .i64 r),(4,encI x)] = some (codC.cs ⟨A,n,c,t,r,none,0,0,x,[]⟩).toArray:=by
  intro place p0 p1 p2 p4
  refine (fill_one place [] [.slice none 0 0] ([Value.int .i64 0,Value.int .i64 0,Value.slice none 0 0] ++ bv zID.1 ++ [Value.string (str [])]) [.slice A n c] 0 (.slice A n c) _ rfl (by simpa using p0) rfl).trans ?_
  have e1:=fill_one place [.slice A n c] [.int .i64 0] ([.int .i64 0,.slice none 0 0] ++ bv zID.1 ++ [.string (str [])]) [.int .i64 t] 1 (.int .i64 t) [(2,.int .i64 r),(4,encI x)] rfl (by simpa using p1) rfl
  refine Eq.trans ?_ (e1.trans ?_)
  ·simp
  have e2:=fill_one place [.slice A n c,.int .i64 t] [.int .i64 0] ([.slice none 0 0] ++ bv zID.1 ++ [.string (str [])]) [.int .i64 r] 2 (.int .i64 r) [(4,encI x)] rfl (by simpa using p2) rfl
  refine Eq.trans ?_ (e2.trans ?_)
  ·simp
  have e4:=fill_one place [.slice A n c,.int .i64 t,.int .i64 r,.slice none 0 0] (bv zID.1) [.string (str [])] (bv x.1) 4 (encI x) [] (cellsI x) (by simpa [x.2] using p4) (by simp [x.2,zID])
  refine Eq.trans ?_ (e4.trans ?_)
  ·simp
  ·simp [Instr.fill,codC,csC]
 have hz:(zeroValue 35).run Tryz.prog w = .ok (.agg (codC.cs codC.z).toArray) w:=okC.zero w
 have hc:(Value.agg (codC.cs codC.z).toArray).cells = ([] ++ [Value.slice none 0 0] ++ ([Value.int .i64 0,Value.int .i64 0,Value.slice none 0 0] ++ bv zID.1 ++ [Value.string (str [])])).toArray:=rfl
 have hsI:∀ w,(sizeOf 24).run Tryz.prog w = .ok 32 w:=fun w=>Tryz.sizeOf24 w
 simp only [Instr.build,Sem.run_bind,hz,Result.andThen_ok,run_underlying Tryz.underlying35,hc]
 simp only [List.mapM_toArray,List.mapM_cons,List.mapM_nil,Sem.run_bind,hsI,Tryz.sizeOf9,Tryz.sizeOf32,Tryz.sizeOf33,Tryz.sizeOf2,Tryz.sizeOf3,Result.andThen_ok,Sem.run_pure,Sem.run_map,map_pure,bind_pure_comp]
 rw [h1 _ rfl rfl rfl rfl]
 simp [Cod.A_eq]
@[simp ↓] theorem ex_bldCp4 (ρ:Operand → Value) (x0 x1 x2 x4:Operand) (d:Option Nat) (t:TypeId) (p:String) (f:Array Edge) (g:Option (Nat × Bool)) (w:World) :
  (execOp ρ { dst:=d,op:=.build 35 #[(0,x0),(1,x1),(2,x2),(4,x4)],type:=t,pos:=p,after:=f,guard:=g }).run Tryz.prog w = mkB 35 w [(0,ρ x0),(1,ρ x1),(2,ρ x2),(4,ρ x4)]:=(exB ρ _ _ _ rfl w).trans (by simp only [List.map_toArray,List.map_cons,List.map_nil])
@[simp] theorem mkB_Cp4 (w:World) (A:Option Addr) (n c:Nat) (t r:Int) (x:ID):mkB 35 w [(0,.slice A n c),(1,.int .i64 t),(2,.int .i64 r),(4,encI x)] = .ok (.value (.agg (codC.A ⟨A,n,c,t,r,none,0,0,x,[]⟩))) w:=mkB_ok (bldC_p4 w A n c t r x)
/-! three that may come in any order -/
section
variable {P:Program} {Q:Exit → Act → World → Prop} {F:World → Prop} {md:Region.Mode} {ops:Array Oper} {n:Nat}
theorem wpAnyN_three {i j k:Nat} {o o' o'':Oper} {fuel:Nat} {listed:Array Bool} {a:Act} {w:World} (hA:RegAt md ops n listed) (hr:Region.ready md ops listed = [i,j,k]) (hin:i < n) (hjn:j < n) (hkn:k < n) (hi:ops[i]? = some o) (hj:ops[j]? = some o') (hk:ops[k]? = some o'')
  (h:∀ K:Act → World → Prop,Hid (∀ a' w',F w' → (RegAt md ops n (listed.setIfInBounds i true) → wpAnyN P md ops Q F n fuel (listed.setIfInBounds i true) a' w') → K a' w') →
   if Region.wanted o (yielded ops a.tmps) = true then Oper.wp P o a w K Q else K (a.put o.dst undef) w)
  (h':∀ K:Act → World → Prop,Hid (∀ a' w',F w' → (RegAt md ops n (listed.setIfInBounds j true) → wpAnyN P md ops Q F n fuel (listed.setIfInBounds j true) a' w') → K a' w') →
   if Region.wanted o' (yielded ops a.tmps) = true then Oper.wp P o' a w K Q else K (a.put o'.dst undef) w)
  (h'':∀ K:Act → World → Prop,Hid (∀ a' w',F w' → (RegAt md ops n (listed.setIfInBounds k true) → wpAnyN P md ops Q F n fuel (listed.setIfInBounds k true) a' w') → K a' w') →
   if Region.wanted o'' (yielded ops a.tmps) = true then Oper.wp P o'' a w K Q else K (a.put o''.dst undef) w):wpAnyN P md ops Q F n (fuel + 1) listed a w:=by
 refine ⟨fun h0=>(by rw [hr] at h0;cases h0),fun q hq=>?_⟩
 have step:∀ (q:Nat) (o:Oper),q < n → ops[q]? = some o → q ∈ Region.ready md ops listed →
   (∀ K:Act → World → Prop,Hid (∀ a' w',F w' → (RegAt md ops n (listed.setIfInBounds q true) → wpAnyN P md ops Q F n fuel (listed.setIfInBounds q true) a' w') → K a' w') →
   if Region.wanted o (yielded ops a.tmps) = true then Oper.wp P o a w K Q else K (a.put o.dst undef) w) →
   wpOp P ops Q q (fun a' w'=>(q < n → F w') ∧ wpAnyN P md ops Q F n fuel (listed.setIfInBounds q true) a' w') a w:=by
  intro q o hqn ho hq hh
  have hA':RegAt md ops n (listed.setIfInBounds q true):=⟨hA.inv.set hq hqn,hA.b⟩
  have:=hh (fun a' w'=>(q < n → F w') ∧ wpAnyN P md ops Q F n fuel (listed.setIfInBounds q true) a' w') (fun a' w' hF hW=>⟨fun _=>hF,hW hA'⟩)
  unfold wpOp
  simp only [ho]
  split
  ·rename_i hw;rw [if_pos hw] at this;exact .inl this
  ·rename_i hw;rw [if_neg hw] at this;exact this
 have hq':=hq
 rw [hr] at hq'
 simp only [List.mem_cons,List.not_mem_nil,or_false] at hq'
 rcases hq' with rfl | rfl | rfl
 ·exact step q o hin hi hq h
 ·exact step q o' hjn hj hq h'
 ·exact step q o'' hkn hk hq h''
end
end Go.Proofs.YtjpieiccpbcabaaGreat
