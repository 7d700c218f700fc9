/- Plain: what turns one tree into another one: moves, what goes to the trash, edits; numbered from a stamp on. Plain: paths as the program and as the document make them. Contracts: differ.trash, snap.last, snap.fixed; tables: of, depth, place; sameData. (ex_ldS_at) Values built of parts: an item of a row, operations of moves and edits. Contracts: slices.Clone of heads, snap.item, snap.right; slices.EqualFunc of heads, differ.sameData. (ex_ldS_at ex_bldT5_at) Contracts: snap.right; slices.EqualFunc of heads, differ.sameData. (ex_ldS_at) What has been done to a tree of operations (grove), as a value; the tree's variable; rules for the walk. Contracts: slices.Clone, Index, Contains, Equal of stamps; Clone of what has been done; sort.Search; rows owned that are stored into. (ex_ldS_at) -/
import Derived.Test.YtjpieiccpbcabaaGreatStWKu
import Derived.Test.YtjpieiccpbcabaaGreatGvMKu
import Derived.Test.YtjpieiccpbcabaaGreatFrameOKu
import Derived.Deep.LoopGhost
import Derived.Test.YtjpieiccpbcabaaGreatPutDKu
import Derived.Test.YtjpieiccpbcabaaGreatQFrKu
import Derived.Test.YtjpieiccpbcabaaGreatEqsKu
import Derived.Test.YtjpieiccpbcabaaGreatStabCKu
set_option linter.unusedVariables false
set_option linter.unusedSimpArgs false
namespace Go.Proofs.YtjpieiccpbcabaaGreat
end Go.Proofs.YtjpieiccpbcabaaGreat
namespace Go.Proofs.YtjpieiccpbcabaaGreat
open Go.RowKit
theorem Cod.bxd_box {α:Type} {C:Cod α} (w:World) (x:α):C.bxd (w.alloc (.cells (C.A x) C.t)) w.heap.size = some x:=by
 have h:=Cod.bxd_new (C:=C) w x
 rwa [show C.o x = .cells (C.A x) C.t from by unfold Cod.o;rfl] at h
theorem bxS_box (w:World) (x:St):codS.bxd (w.alloc (.cells (codS.A x) 80)) w.heap.size = some x:=Cod.bxd_box w x
@[simp] theorem fldR_1 (w:World) (r:RwW):(Instr.field 110 (.agg (codR.A r)) 1).run Tryz.prog w = .ok (.agg (codS.A r.Parent)) w:=by
 rw [Cod.A_eq,Cod.A_eq]
 kernel_rfl
theorem stCell {w:World} {b:Nat} {s:St} (h:codS.rd w b 0 = some s):w.cell? ⟨b,0,none⟩ = some (.int .i64 s.T) ∧ w.cell? ⟨b,1,none⟩ = some (.int .i64 s.R) :=
 ⟨by simpa using Cod.rd_cell h 0 (v:=.int .i64 s.T) rfl,by simpa using Cod.rd_cell h 1 (v:=.int .i64 s.R) rfl⟩
/-! tables -/
@[irreducible] noncomputable def mkB (t:TypeId) (w:World) (fs:List (Nat × Value)):Result Next:=((Instr.build t fs.toArray).run Tryz.prog w).andThen (fun v w=>.ok (.value v) w)
theorem mkB_ok {t:TypeId} {w:World} {fs:List (Nat × Value)} {v:Value} (h:(Instr.build t fs.toArray).run Tryz.prog w = .ok v w):mkB t w fs = .ok (.value v) w:=by
 unfold mkB
 rw [h]
 rfl
theorem exB (ρ:Operand → Value) (o:Oper) (t:TypeId) (fs:Array (Nat × Operand)) (ho:o.op = .build t fs) (w:World):(execOp ρ o).run Tryz.prog w = mkB t w (fs.map fun (i,x)=>(i,ρ x)).toList:=by
 unfold execOp mkB
 simp only [ho,Sem.run_bind,Sem.run_pure,Array.toArray_toList]
theorem zO_form:(Value.agg (codO.cs codO.z).toArray).cells = ([] ++ [Value.int .i64 0] ++ ([Value.int .i64 0,Value.int .i64 0,Value.int .i64 0,Value.int .i64 0,Value.int .i64 0,Value.int .i64 0,Value.string (str [])] ++ bv zID.1 ++ [Value.slice none 0 0])).toArray:=rfl
/-! the rules of the walk -/
@[go_sem] theorem hs_eq_nil (w:World) (a:Option Addr) (n c:Nat):(binOp .eql 108 (.slice a n c) (.slice none 0 0)).run Tryz.prog w = .ok (.bool a.isNone) w :=
 Lib.run_eql_slice_nil w _ _ a n c 0 0 Tryz.underlying108
def NewHs (w:World) (l:List Hd) (e:Ending) (w':World):Prop:=∃ A c,e = .returned (.slice A l.length c) ∧ OwnC codH w w' A c l ∧ Fr noB w w'
set_option maxRecDepth 100000 in
theorem clHeads_any (w:World) (A:Option Addr) (c:Nat) (l:List Hd) (n:Nat) (hn:l.length = n) (hs:Sl w A (codH.row l)) (hb:l.length ≤ 2932031007402) :
  Calls Tryz.prog 112 #[.slice A n c] w (NewHs w l):=by
 subst hn
 rcases A with _ | ad
 ·have hl:l = []:=by
   cases l with
   | nil=>rfl
   | cons b t=>obtain ⟨g,off,h,_⟩:=hs (Cod.row_ne (by simp));cases h
  subst hl
  go_enter Tryz.func112,Tryz.ntmps112
  go_wp2
  go_ret
  exact ⟨none,0,rfl,World.ownsRow_nil _ _ _ _,Fr.refl _ _⟩
 ·have hown:=World.ownsRow_lit (base:=w.heap.size) (e:=149) (size:=34) w #[] 0 (Nat.le_refl _) (by simp [maxLen]) rfl
  have hs1:Sl (w.alloc (.cells #[] 149)) (some ad) (codH.row l):=hs.fr0 ((Fr.refl noB w).alloc _)
  go_enter Tryz.func112,Tryz.ntmps112
  go_wp2_with (at_builtin;refine wpList_app _ etH rfl _ _ rfl w.heap.size _ _ _ rfl hown (some ad) l.length c (codH.row l) rfl hs1 (Cod.row_len l) (Cod.row_one l) (by omega) (by simp) ?_;intro v' w1 h1 h2 h3)
  go_ret
  obtain ⟨A',c',rfl,_,_⟩:=own_form h1
  simp only [Nat.zero_add,List.nil_append] at h1
  exact ⟨A',c',by simp,h1,((Fr.refl noB w).alloc _).stepG (r:=some w.heap.size) h2 (by intro g hg;injection hg with hg;omega)⟩
/-! sameData -/
structure DnW where
 op:OpW
 tn:Bool
 was:RwW
 was0:Bool
def csD (d:DnW):List Value:=codO.cs d.op ++ ([.bool d.tn] ++ (codR.cs d.was ++ [.bool d.was0]))
def zDnW:DnW:=⟨zOpW,false,zRwW,false⟩
theorem csD_len (d:DnW):(csD d).length = 51:=by
 have h1:(codO.cs d.op).length = 41:=codO.len _
 have h2:(codR.cs d.was).length = 8:=codR.len _
 simp [csD,h1,h2]
def codD:Cod DnW:=⟨177,51,csD,zDnW,csD_len,by decide,fun x u hu=>by
  simp only [csD,List.mem_append,List.mem_singleton] at hu
  rcases hu with h | rfl | h | rfl
  ·exact codO.one _ _ h
  ·rfl
  ·exact codR.one _ _ h
  ·rfl,fun x y h=>by
 obtain ⟨o,t,r,b⟩:=x;obtain ⟨o',t',r',b'⟩:=y
 simp only [csD] at h
 obtain ⟨h1,h⟩:=List.append_inj h (by rw [codO.len,codO.len])
 obtain ⟨h2,h⟩:=List.append_inj h rfl
 obtain ⟨h3,h4⟩:=List.append_inj h (by rw [codR.len,codR.len])
 have:=codO.inj _ _ h1
 have:=codR.inj _ _ h3
 simp only [List.cons.injEq,Value.bool.injEq,and_true] at h2 h4
 subst_vars
 rfl⟩
theorem okD:CodOk Tryz.prog codD:=⟨⟨_,Tryz.underlying177,rfl⟩,by kernel_rfl,fun w=>(zero_of_info (P:=Tryz.prog) (t:=177) (v:=.agg (codD.cs codD.z).toArray) (n:=51) (by kernel_rfl)).1 w⟩
@[simp ↓] theorem ex_ldD (ρ:Operand → Value) (d:Option Nat) (a:Operand) (t:TypeId) (p:String) (f:Array Edge) (g:Option (Nat × Bool)) (w:World) :
  (execOp ρ { dst:=d,op:=.load 177 a,type:=t,pos:=p,after:=f,guard:=g }).run Tryz.prog w = codD.ldR w (ρ a) (exElse ρ { dst:=d,op:=.load 177 a,type:=t,pos:=p,after:=f,guard:=g } w):=okD.ldOp ρ _ a rfl w
@[simp ↓] theorem ex_alD (ρ:Operand → Value) (d:Option Nat) (t:TypeId) (p:String) (f:Array Edge) (g:Option (Nat × Bool)) (w:World) :
  (execOp ρ { dst:=d,op:=.alloc 177,type:=t,pos:=p,after:=f,guard:=g }).run Tryz.prog w = .ok (.value (.pointer (some ⟨w.heap.size,0,none⟩))) (w.alloc (codD.o zDnW)):=okD.alOp ρ _ rfl w
@[simp ↓] theorem ex_stD (ρ:Operand → Value) (a x:Operand) (d:Option Nat) (t:TypeId) (p:String) (f:Array Edge) (g:Option (Nat × Bool)) (w:World) :
  (execOp ρ { dst:=d,op:=.store 177 a x,type:=t,pos:=p,after:=f,guard:=g }).run Tryz.prog w = codD.stR w (ρ a) (ρ x):=Cod.stOp (C:=codD) ρ _ a x rfl w
@[simp] theorem st_newD (w:World) (x y:DnW):codD.stR (w.alloc (codD.o y)) (.pointer (some ⟨w.heap.size,0,none⟩)) (.agg (codD.A x)) = .ok .skip (w.alloc (codD.o x)):=okD.stR_new w x y
theorem etD:ET Tryz.prog 153 codD.t codD.n 232:=ET.mk' (z:=.agg (codD.cs codD.z).toArray) Tryz.underlying153 (by kernel_rfl) (by simp only [Value.cells];kernel_rfl) (by decide) (by decide)
theorem bs_D (w:World) (x:DnW):(Instr.buildSlice 153 1 #[(0,.agg (codD.A x))]).run Tryz.prog w = .ok (.slice (some ⟨w.heap.size,0,none⟩) 1 1) (w.alloc (codD.ro [x])):=okD.bs1 153 Tryz.underlying153 Tryz.sizeOf177 (by decide) w x
@[simp] theorem bsR_D (w:World) (x:DnW):bsR 153 w (.agg (codD.A x)) = .ok (.value (.slice (some ⟨w.heap.size,0,none⟩) 1 1)) (w.alloc (codD.ro [x])):=by
 unfold bsR;rw [bs_D];rfl
theorem ex_bsD_at {ρ:Operand → Value} {o:Oper} {a:Operand} {w:World} {x:DnW} (ho:o.op = .buildSlice 153 1 #[(0,a)]) (ha:ρ a = .agg (codD.A x)) :
  (execOp ρ o).run Tryz.prog w = .ok (.value (.slice (some ⟨w.heap.size,0,none⟩) 1 1)) (w.alloc (codD.ro [x])):=by
 rw [bsOp 153 ρ o a ho w,ha,bsR_D]
structure DnAt (w:World) (b o:Nat) (d:DnW):Prop where
 op:codO.rd w b o = some d.op
 At:codS.rd w b (o + 1) = some d.op.At
 node:codS.rd w b (o + 3) = some d.op.Node
 tn:w.cell? ⟨b,o + 41,none⟩ = some (.bool d.tn)
 was:codR.rd w b (o + 42) = some d.was
 was0:w.cell? ⟨b,o + 50,none⟩ = some (.bool d.was0)
 self:codD.rd w b o = some d
theorem dnAt {w:World} {b o:Nat} {d:DnW} (h:codD.rd w b o = some d):DnAt w b o d:=by
 have lo:(codO.cs d.op).length = 41:=codO.len _
 have lr:(codR.cs d.was).length = 8:=codR.len _
 have e (k:Nat) {v:Value} (hv:(codD.cs d)[k]? = some v):=Cod.rd_cell h k hv
 have h0:codO.rd w b o = some d.op:=Cod.rd_part (C':=codO) h 0 (fun j v hv=>by
  show (csD d)[0 + j]? = some v
  unfold csD
  rw [Nat.zero_add,List.getElem?_append_left (List.getElem?_eq_some_iff.1 hv).1]
  exact hv)
 refine ⟨h0,Cod.rd_part (C':=codS) h0 1 (get2 _ _ 1 rfl rfl),Cod.rd_part (C':=codS) h0 3 (get2 _ _ 3 rfl rfl),e 41 ?_,Cod.rd_part (C':=codR) h 42 (fun j v hv=>?_),e 50 ?_,h⟩
 ·show (csD d)[41]? = _
  unfold csD
  rw [List.getElem?_append_right (by omega),lo];rfl
 ·show (csD d)[42 + j]? = some v
  unfold csD
  rw [List.getElem?_append_right (by omega),lo,List.getElem?_append_right (by simp;omega),List.getElem?_append_left (by simp;have:=(List.getElem?_eq_some_iff.1 hv).1;omega)]
  simpa [show 42 + j - 41 - 1 = j by omega] using hv
 ·show (csD d)[50]? = _
  unfold csD
  rw [List.getElem?_append_right (by omega),lo,List.getElem?_append_right (by simp),List.getElem?_append_right (by simp [lr]),lr];rfl
theorem bldD_3 (w:World) (o:OpW) (r:RwW) (b:Bool):(Instr.build 177 #[(0,.agg (codO.A o)),(2,.agg (codR.A r)),(3,.bool b)]).run Tryz.prog w = .ok (.agg (codD.A ⟨o,false,r,b⟩)) w:=by
 have lo (o:OpW):(codO.cs o).length = 41:=codO.len _
 have lr (r:RwW):(codR.cs r).length = 8:=codR.len _
 have h1:∀ place:Nat → Option (Nat × Nat),place 0 = some (0,41) → place 2 = some (42,8) → place 3 = some (50,1) → Instr.fill place ([] ++ codO.cs zOpW ++ ([Value.bool false] ++ codR.cs zRwW ++ [Value.bool false])).toArray [(0,.agg (codO.A o)),(2,.agg (codR.A r)),(3,.bool b)] = some (codD.cs ⟨o,false,r,b⟩).toArray:=by
  intro place p0 p2 p3
  refine (fill_one place [] (codO.cs zOpW) ([Value.bool false] ++ codR.cs zRwW ++ [Value.bool false]) (codO.cs o) 0 (.agg (codO.A o)) _ (by simp [Value.cells,Cod.A_eq]) (by rw [lo];simpa using p0) (by rw [lo,lo])).trans ?_
  have e1:=fill_one place (codO.cs o ++ [Value.bool false]) (codR.cs zRwW) [Value.bool false] (codR.cs r) 2 (.agg (codR.A r)) [(3,.bool b)] (by simp [Value.cells,Cod.A_eq]) (by rw [lr,List.length_append,lo];simpa using p2) (by rw [lr,lr])
  refine Eq.trans ?_ (e1.trans ?_)
  ·simp
  have e2:=fill_one place (codO.cs o ++ [Value.bool false] ++ codR.cs r) [Value.bool false] [] [Value.bool b] 3 (.bool b) [] rfl (by rw [List.length_append,List.length_append,lo,lr];simpa using p3) rfl
  refine Eq.trans ?_ (e2.trans ?_)
  ·simp
  ·simp [Instr.fill,codD,csD]
 have hz:(zeroValue 177).run Tryz.prog w = .ok (.agg (codD.cs codD.z).toArray) w:=okD.zero w
 have hc:(Value.agg (codD.cs codD.z).toArray).cells = ([] ++ codO.cs zOpW ++ ([Value.bool false] ++ codR.cs zRwW ++ [Value.bool false])).toArray:=rfl
 simp only [Instr.build,Sem.run_bind,hz,Result.andThen_ok,run_underlying Tryz.underlying177,hc]
 simp only [List.mapM_toArray,List.mapM_cons,List.mapM_nil,Sem.run_bind,Tryz.sizeOf83,Tryz.sizeOf110,Tryz.sizeOf4,Result.andThen_ok,Sem.run_pure,Sem.run_map,map_pure,bind_pure_comp]
 rw [h1 _ rfl rfl rfl]
 simp [Cod.A_eq]
@[simp ↓] theorem ex_bldD3 (ρ:Operand → Value) (x0 x2 x3:Operand) (d:Option Nat) (t:TypeId) (p:String) (f:Array Edge) (g:Option (Nat × Bool)) (w:World) :
  (execOp ρ { dst:=d,op:=.build 177 #[(0,x0),(2,x2),(3,x3)],type:=t,pos:=p,after:=f,guard:=g }).run Tryz.prog w = mkB 177 w [(0,ρ x0),(2,ρ x2),(3,ρ x3)]:=(exB ρ _ _ _ rfl w).trans (by simp only [List.map_toArray,List.map_cons,List.map_nil])
@[simp] theorem mkB_D3 (w:World) (o:OpW) (r:RwW) (b:Bool):mkB 177 w [(0,.agg (codO.A o)),(2,.agg (codR.A r)),(3,.bool b)] = .ok (.value (.agg (codD.A ⟨o,false,r,b⟩))) w:=mkB_ok (bldD_3 w o r b)
structure TrW where
 m:Nat
 A:Option Addr
 n:Nat
 c:Nat
 u:Int
def trL (t:TrW):List Value:=[.map (some t.m),.slice t.A t.n t.c,.int .i64 t.u]
abbrev tro (t:TrW):Obj:=.cells (trL t).toArray 155
def TrB (w:World) (b:Nat) (t:TrW):Prop:=Blk w b 155 (trL t)
theorem TrB.m {w:World} {b:Nat} {t:TrW} (h:TrB w b t):w.cell? ⟨b,0,none⟩ = some (.map (some t.m)):=Blk.cell h 0
theorem TrB.log {w:World} {b:Nat} {t:TrW} (h:TrB w b t):w.cell? ⟨b,1,none⟩ = some (.slice t.A t.n t.c):=Blk.cell h 1
theorem TrB.u {w:World} {b:Nat} {t:TrW} (h:TrB w b t):w.cell? ⟨b,2,none⟩ = some (.int .i64 t.u):=Blk.cell h 2
theorem TrB.fr {M:Nat → Prop} {w w':World} {b:Nat} {t:TrW} (h:TrB w b t) (f:Fr M w w') (hM:¬ M b):TrB w' b t:=Blk.fr h f hM
theorem TrB.fr0 {w w':World} {b:Nat} {t:TrW} (h:TrB w b t) (f:Fr noB w w'):TrB w' b t:=h.fr f (by simp [noB])
theorem TrB.new (w:World) (t:TrW):TrB (w.alloc (tro t)) w.heap.size t:=Blk.new w 155 (trL t)
@[go_sem] theorem Sts_eq_nil (w:World) (a:Option Addr) (n c:Nat):(binOp .eql 81 (.slice a n c) (.slice none 0 0)).run Tryz.prog w = .ok (.bool a.isNone) w :=
 Lib.run_eql_slice_nil w _ _ a n c 0 0 Tryz.underlying81
def NewSts (w:World) (l:List St) (e:Ending) (w':World):Prop:=∃ A c,e = .returned (.slice A l.length c) ∧ OwnC codS w w' A c l ∧ Fr noB w w' ∧ l.length ≤ c
set_option maxRecDepth 100000 in
theorem clStamps_any (w:World) (A:Option Addr) (c:Nat) (l:List St) (n:Nat) (hn:l.length = n) (hs:Sl w A (codS.row l)) (hb:l.length * 16 ≤ 140737488355328) :
  Calls Tryz.prog 73 #[.slice A n c] w (NewSts w l):=by
 subst hn
 rcases A with _ | ad
 ·have hl:l = []:=by
   cases l with
   | nil=>rfl
   | cons b t=>obtain ⟨g,off,h,_⟩:=hs (Cod.row_ne (by simp));cases h
  subst hl
  go_enter Tryz.func73,Tryz.ntmps73
  go_wp2
  go_ret
  exact ⟨none,0,rfl,World.ownsRow_nil _ _ _ _,Fr.refl _ _,Nat.le_refl _⟩
 ·have hown:=World.ownsRow_lit (base:=w.heap.size) (e:=80) (size:=2) w #[] 0 (Nat.le_refl _) (by simp [maxLen]) rfl
  have hs1:Sl (w.alloc (.cells #[] 80)) (some ad) (codS.row l):=hs.fr0 ((Fr.refl noB w).alloc _)
  go_enter Tryz.func73,Tryz.ntmps73
  go_wp2_with (at_builtin;refine wpList_app _ etS rfl _ _ rfl w.heap.size _ _ _ rfl hown (some ad) l.length c (codS.row l) rfl hs1 (Cod.row_len l) (Cod.row_one l) (by simpa using hb) (by simp) ?_;intro v' w1 h1 h2 h3)
  go_ret
  obtain ⟨A',c',rfl,hcc,_⟩:=own_form h1
  simp only [Nat.zero_add,List.nil_append] at h1
  exact ⟨A',c',by simp,h1,((Fr.refl noB w).alloc _).stepG (r:=some w.heap.size) h2 (by intro g hg;injection hg with hg;omega),by simpa using hcc⟩
@[go_sem] theorem Dns_eq_nil (w:World) (a:Option Addr) (n c:Nat):(binOp .eql 153 (.slice a n c) (.slice none 0 0)).run Tryz.prog w = .ok (.bool a.isNone) w :=
 Lib.run_eql_slice_nil w _ _ a n c 0 0 Tryz.underlying153
def NewDns (w:World) (l:List DnW) (e:Ending) (w':World):Prop:=∃ A c,e = .returned (.slice A l.length c) ∧ OwnC codD w w' A c l ∧ Fr noB w w' ∧ l.length ≤ c
set_option maxRecDepth 100000 in
theorem clDones_any (w:World) (A:Option Addr) (c:Nat) (l:List DnW) (n:Nat) (hn:l.length = n) (hs:Sl w A (codD.row l)) (hb:l.length * 232 ≤ 140737488355328) :
  Calls Tryz.prog 108 #[.slice A n c] w (NewDns w l):=by
 subst hn
 rcases A with _ | ad
 ·have hl:l = []:=by
   cases l with
   | nil=>rfl
   | cons b t=>obtain ⟨g,off,h,_⟩:=hs (Cod.row_ne (by simp));cases h
  subst hl
  go_enter Tryz.func108,Tryz.ntmps108
  go_wp2
  go_ret
  exact ⟨none,0,rfl,World.ownsRow_nil _ _ _ _,Fr.refl _ _,Nat.le_refl _⟩
 ·have hown:=World.ownsRow_lit (base:=w.heap.size) (e:=177) (size:=51) w #[] 0 (Nat.le_refl _) (by simp [maxLen]) rfl
  have hs1:Sl (w.alloc (.cells #[] 177)) (some ad) (codD.row l):=hs.fr0 ((Fr.refl noB w).alloc _)
  go_enter Tryz.func108,Tryz.ntmps108
  go_wp2_with (at_builtin;refine wpList_app _ etD rfl _ _ rfl w.heap.size _ _ _ rfl hown (some ad) l.length c (codD.row l) rfl hs1 (Cod.row_len l) (Cod.row_one l) (by simpa using hb) (by simp) ?_;intro v' w1 h1 h2 h3)
  go_ret
  obtain ⟨A',c',rfl,hcc,_⟩:=own_form h1
  simp only [Nat.zero_add,List.nil_append] at h1
  exact ⟨A',c',by simp,h1,((Fr.refl noB w).alloc _).stepG (r:=some w.heap.size) h2 (by intro g hg;injection hg with hg;omega),by simpa using hcc⟩
/-! stamps among stamps -/
def IxS (w:World) (l:List St) (s:St) (e:Ending) (w':World):Prop:=∃ z:Int,e = .returned (.int .i64 z) ∧ decide (0 ≤ z) = decide (s ∈ l) ∧ Fr noB w w'
set_option maxRecDepth 100000 in
set_option maxHeartbeats 1000000 in
theorem ixStamps_any (w:World) (A:Option Addr) (c n:Nat) (l:List St) (hn:l.length = n) (hs:Sl w A (codS.row l)) (hb:l.length ≤ 140737488355328) (s:St) :
  Calls Tryz.prog 166 #[.slice A n c,.agg (codS.A s)] w (IxS w l s):=by
 subst hn
 have f0:Fr noB w (w.alloc (.cells (codS.A s) 80)):=(Fr.refl noB w).alloc _
 have q0:=Cod.rd_new (C:=codS) w 80 s
 have hP:w.heap.size < (w.alloc (.cells (codS.A s) 80)).heap.size:=by simp
 go_enter Tryz.func166,Tryz.ntmps166
 go_upto_region 1 with fail
 replace hs:=hs.fr0 f0
 generalize w.alloc (.cells (codS.A s) 80) = W0 at f0 q0 hP hs ⊢
 generalize w.heap.size = P at q0 hP ⊢
 go_wp2_with fail
 go_loopg [8] l.length (fun gk iv wr=>∃ k:Nat,iv = .int .i64 (k:Int) ∧ gk = l.length - k ∧ k ≤ l.length ∧ Fr noB W0 wr ∧ (∀ j (h:j < l.length),j < k → l[j] ≠ s))
 case atStart=>exact ⟨0,rfl,rfl,by omega,Fr.refl _ _,fun j _ h=>absurd h (by omega)⟩
 case round =>
  obtain ⟨k,rfl,rfl,hk,hf,hno⟩:=hrel
  have HNO:=Lib.hid hno
  clear hno
  by_cases hlt:k < l.length
  ·have i1:(k:Int) < (l.length:Int):=by omega
   have i0:(0:Int) ≤ (k:Int):=by omega
   obtain ⟨g,off,rfl,hg⟩:=hs.adC (by omega)
   have e1:codS.rd wr g (off + k * 2) = some l[k]:=(hs.fr0 hf).rd k hlt
   have q1:=(hf.same.st _ 0 hP).trans q0
   generalize hnd:l[k] = nd at e1
   have HND:=Lib.hid hnd
   clear hnd
   go_upto_region 4 with fail
   refine wp_region_H (fun w'=>codS.rd w' g (off + k * 2) = some nd ∧ codS.rd w' P 0 = some s) (by kernel_rfl) ⟨Cod.rd_fr0 e1 (Fr.refl noB _).drew,Cod.rd_fr0 q1 (Fr.refl noB _).drew⟩ (fun hF=>?_)
   refine wpAnyH_take (i:=0) (v:=?_) rfl (by kernel_rfl) (by kernel_rfl) (by kernel_rfl) (fun _ _ _ h=>h) (Or.inl ⟨by rfl,?_⟩) hF ?_
   rotate_left
   ·intro wS hSw;(try dsimp only at hSw);obtain ⟨s1,s2⟩:=hSw;first | (apply Eq.trans;apply ex_ldS_at;exact rfl;exact rfl;assumption;with_reducible rfl) | (go_simp;try with_reducible rfl)
   try simp only [sA1,sA2,sA3,Act.put,sA4,sA5,sA6]
   refine wpAnyH_take (i:=1) (v:=?_) rfl (by kernel_rfl) (by kernel_rfl) (by kernel_rfl) (fun _ _ _ h=>h) (Or.inl ⟨by rfl,?_⟩) hF ?_
   rotate_left
   ·intro wS hSw;(try dsimp only at hSw);obtain ⟨s1,s2⟩:=hSw;first | (apply Eq.trans;apply ex_ldS_at;exact rfl;exact rfl;assumption;with_reducible rfl) | (go_simp;try with_reducible rfl)
   try simp only [sA1,sA2,sA3,Act.put,sA4,sA5,sA6]
   refine wpAnyH_take (i:=2) (v:=?_) rfl (by kernel_rfl) (by kernel_rfl) (by kernel_rfl) (fun _ _ _ h=>h) (Or.inl ⟨by rfl,?_⟩) hF ?_
   rotate_left
   ·intro wS hSw;(try dsimp only at hSw);obtain ⟨s1,s2⟩:=hSw;first | (apply Eq.trans;apply ex_ldS_at;exact rfl;exact rfl;assumption;with_reducible rfl) | (go_simp;try with_reducible rfl)
   try simp only [sA1,sA2,sA3,Act.put,sA4,sA5,sA6]
   refine wpAnyH_take (i:=3) (v:=?_) rfl (by kernel_rfl) (by kernel_rfl) (by kernel_rfl) (fun _ _ _ h=>h) (Or.inl ⟨by rfl,?_⟩) hF ?_
   rotate_left
   ·intro wS hSw;(try dsimp only at hSw);obtain ⟨s1,s2⟩:=hSw;first | (apply Eq.trans;apply ex_ldS_at;exact rfl;exact rfl;assumption;with_reducible rfl) | (go_simp;try with_reducible rfl)
   try simp only [sA1,sA2,sA3,Act.put,sA4,sA5,sA6]
   refine wpAnyH_take (i:=4) (v:=?_) rfl (by kernel_rfl) (by kernel_rfl) (by kernel_rfl) (fun _ _ _ h=>h) (Or.inl ⟨by rfl,?_⟩) hF ?_
   rotate_left
   ·intro wS hSw;(try dsimp only at hSw);obtain ⟨s1,s2⟩:=hSw;first | (apply Eq.trans;apply ex_ldS_at;exact rfl;exact rfl;assumption;with_reducible rfl) | (go_simp;try with_reducible rfl)
   try simp only [sA1,sA2,sA3,Act.put,sA4,sA5,sA6]
   by_cases he:s = nd
   ·subst he
    refine wpAnyH_take (i:=5) (v:=?_) rfl (by kernel_rfl) (by kernel_rfl) (by kernel_rfl) (fun _ _ _ h=>h) (Or.inl ⟨by rfl,?_⟩) hF ?_
    rotate_left
    ·intro wS hSw;(try dsimp only at hSw);obtain ⟨s1,s2⟩:=hSw;first | (apply Eq.trans;apply ex_ldS_at;exact rfl;exact rfl;assumption;with_reducible rfl) | (go_simp;try with_reducible rfl)
    try simp only [sA1,sA2,sA3,Act.put,sA4,sA5,sA6]
    refine wpAnyH_done (by kernel_rfl) ?_ _
    clear hF
    go_wp2_with fail
    go_ret
    exact ⟨(k:Int),rfl,by rw [← HND.out];simp,f0.step0 hf.drew⟩
   ·skip
    refine wpAnyH_take (i:=5) (v:=?_) rfl (by kernel_rfl) (by kernel_rfl) (by kernel_rfl) (fun _ _ _ h=>h) (Or.inl ⟨by rfl,?_⟩) hF ?_
    rotate_left
    ·intro wS hSw;(try dsimp only at hSw);obtain ⟨s1,s2⟩:=hSw;first | (apply Eq.trans;apply ex_ldS_at;exact rfl;exact rfl;assumption;with_reducible rfl) | (go_simp;try with_reducible rfl)
    try simp only [sA1,sA2,sA3,Act.put,sA4,sA5,sA6]
    refine wpAnyH_done (by kernel_rfl) ?_ _
    clear hF
    go_wp2_with fail
    go_roundg (l.length - (k + 1))
    case measure=>omega
    case rel=>exact ⟨k + 1,by simp,rfl,by omega,hf.drew,fun j h1 h2=>by
     rcases Nat.lt_succ_iff_lt_or_eq.1 h2 with h3 | rfl
     ·exact HNO.out j h1 h3
     ·rw [HND.out];exact fun h=>he h.symm⟩
  ·have hkn:k = l.length:=by omega
   subst hkn
   have i1:¬ (l.length:Int) < (l.length:Int):=by omega
   go_wp2_with fail
   go_ret
   refine ⟨-1,rfl,?_,f0.step0 hf⟩
   have hn:s ∉ l:=fun hm=>by
    obtain ⟨j,hj,h⟩:=List.getElem_of_mem hm
    exact HNO.out j hj hj h
   simp [hn]
set_option maxRecDepth 100000 in
theorem ctStamps_any (w:World) (A:Option Addr) (c n:Nat) (l:List St) (hn:l.length = n) (hs:Sl w A (codS.row l)) (hb:l.length ≤ 140737488355328) (s:St) :
  Calls Tryz.prog 141 #[.slice A n c,.agg (codS.A s)] w (Gives w (.bool (decide (s ∈ l)))):=by
 have f0:Fr noB w (w.alloc (.cells (codS.A s) 80)):=(Fr.refl noB w).alloc _
 have q0:=Cod.rd_new (C:=codS) w 80 s
 have h:=Lib.hid (ixStamps_any _ A c n l hn (hs.fr0 f0) hb s)
 obtain ⟨b,hbb⟩:∃ b,b = decide (s ∈ l):=⟨_,rfl⟩
 unfold IxS at h
 rw [← hbb] at h ⊢
 clear hbb hs
 go_enter Tryz.func141,Tryz.ntmps141
 go_wp2_with (go_at_call 166;refine h.out.mono ?_;rintro e w1 ⟨z,rfl,hz,f1⟩)
 go_ret
 exact ⟨by rw [← hz];rfl,f0.step0 f1⟩
set_option maxRecDepth 100000 in
set_option maxHeartbeats 1000000 in
theorem eqStamps_any (w:World) (A B:Option Addr) (c d n m:Nat) (xs ys:List St) (hn:xs.length = n) (hm:ys.length = m) (hA:Sl w A (codS.row xs)) (hB:Sl w B (codS.row ys)) (hb:xs.length ≤ 140737488355328) (hb2:ys.length ≤ 140737488355328) :
  Calls Tryz.prog 98 #[.slice A n c,.slice B m d] w (Gives w (.bool (decide (xs = ys)))):=by
 subst hn hm
 by_cases hl:xs.length = ys.length
 ·have HL:=Lib.hid hl
  have e1:((xs.length:Int) != (xs.length:Int)) = false:=by simp
  rw [← hl]
  clear hl
  go_enter Tryz.func98,Tryz.ntmps98
  go_wp2_with fail
  go_loopg [13] xs.length (fun gk iv wr=>∃ k:Nat,iv = .int .i64 (k:Int) ∧ gk = xs.length - k ∧ k ≤ xs.length ∧ (∀ j (h1:j < xs.length) (h2:j < ys.length),j < k → xs[j] = ys[j]) ∧ Fr noB w wr)
  case atStart=>exact ⟨0,rfl,by omega,by omega,fun j h1 h2 h3=>by omega,Fr.refl _ _⟩
  case round =>
   obtain ⟨k,rfl,rfl,hk,hj,hf⟩:=hrel
   have HJ:=Lib.hid hj
   clear hj
   by_cases hlt:k < xs.length
   ·have hlt2:k < ys.length:=by rw [← HL.out];exact hlt
    have i1:(k:Int) < (xs.length:Int):=by omega
    have i0:(0:Int) ≤ (k:Int):=by omega
    obtain ⟨g,off,rfl,hg⟩:=hA.adC (by omega)
    obtain ⟨g2,off2,rfl,hg2⟩:=hB.adC (by omega)
    have d1:codS.rd wr g (off + k * 2) = some xs[k]:=(hA.fr0 hf).rd k hlt
    have d2:codS.rd wr g2 (off2 + k * 2) = some ys[k]:=(hB.fr0 hf).rd k hlt2
    have HNE:=Lib.hid (fun h:xs[k] ≠ ys[k]=>show xs ≠ ys from fun e=>h (by simp only [e]))
    have HEQ:=Lib.hid (fun (h:xs[k] = ys[k])=>(fun j (h1:j < xs.length) (h2:j < ys.length) (h3:j < k + 1)=>by
     by_cases e:j = k
     ·subst e;exact h
     ·exact HJ.out j h1 h2 (by omega):∀ j (h1:j < xs.length) (h2:j < ys.length),j < k + 1 → xs[j] = ys[j]))
    generalize xs[k] = x at d1 HNE HEQ
    generalize ys[k] = y at d2 HNE HEQ
    go_upto_region 6 with fail
    refine wp_region_H (fun w'=>codS.rd w' g (off + k * 2) = some x ∧ codS.rd w' g2 (off2 + k * 2) = some y) (by kernel_rfl) ⟨Cod.rd_fr0 d1 (Fr.refl noB _).drew,Cod.rd_fr0 d2 (Fr.refl noB _).drew⟩ (fun hF=>?_)
    refine wpAnyH_take (i:=0) (v:=?_) rfl (by kernel_rfl) (by kernel_rfl) (by kernel_rfl) (fun _ _ _ h=>h) (Or.inl ⟨by rfl,?_⟩) hF ?_
    rotate_left
    ·intro wS hSw;(try dsimp only at hSw);obtain ⟨s1,s2⟩:=hSw;first | (apply Eq.trans;apply ex_ldS_at;exact rfl;exact rfl;assumption;with_reducible rfl) | (go_simp;try with_reducible rfl)
    try simp only [sA1,sA2,sA3,Act.put,sA4,sA5,sA6]
    refine wpAnyH_take (i:=1) (v:=?_) rfl (by kernel_rfl) (by kernel_rfl) (by kernel_rfl) (fun _ _ _ h=>h) (Or.inl ⟨by rfl,?_⟩) hF ?_
    rotate_left
    ·intro wS hSw;(try dsimp only at hSw);obtain ⟨s1,s2⟩:=hSw;first | (apply Eq.trans;apply ex_ldS_at;exact rfl;exact rfl;assumption;with_reducible rfl) | (go_simp;try with_reducible rfl)
    try simp only [sA1,sA2,sA3,Act.put,sA4,sA5,sA6]
    refine wpAnyH_take (i:=2) (v:=?_) rfl (by kernel_rfl) (by kernel_rfl) (by kernel_rfl) (fun _ _ _ h=>h) (Or.inl ⟨by rfl,?_⟩) hF ?_
    rotate_left
    ·intro wS hSw;(try dsimp only at hSw);obtain ⟨s1,s2⟩:=hSw;first | (apply Eq.trans;apply ex_ldS_at;exact rfl;exact rfl;assumption;with_reducible rfl) | (go_simp;try with_reducible rfl)
    try simp only [sA1,sA2,sA3,Act.put,sA4,sA5,sA6]
    refine wpAnyH_take (i:=3) (v:=?_) rfl (by kernel_rfl) (by kernel_rfl) (by kernel_rfl) (fun _ _ _ h=>h) (Or.inl ⟨by rfl,?_⟩) hF ?_
    rotate_left
    ·intro wS hSw;(try dsimp only at hSw);obtain ⟨s1,s2⟩:=hSw;first | (apply Eq.trans;apply ex_ldS_at;exact rfl;exact rfl;assumption;with_reducible rfl) | (go_simp;try with_reducible rfl)
    try simp only [sA1,sA2,sA3,Act.put,sA4,sA5,sA6]
    refine wpAnyH_take (i:=4) (v:=?_) rfl (by kernel_rfl) (by kernel_rfl) (by kernel_rfl) (fun _ _ _ h=>h) (Or.inl ⟨by rfl,?_⟩) hF ?_
    rotate_left
    ·intro wS hSw;(try dsimp only at hSw);obtain ⟨s1,s2⟩:=hSw;first | (apply Eq.trans;apply ex_ldS_at;exact rfl;exact rfl;assumption;with_reducible rfl) | (go_simp;try with_reducible rfl)
    try simp only [sA1,sA2,sA3,Act.put,sA4,sA5,sA6]
    refine wpAnyH_take (i:=5) (v:=?_) rfl (by kernel_rfl) (by kernel_rfl) (by kernel_rfl) (fun _ _ _ h=>h) (Or.inl ⟨by rfl,?_⟩) hF ?_
    rotate_left
    ·intro wS hSw;(try dsimp only at hSw);obtain ⟨s1,s2⟩:=hSw;first | (apply Eq.trans;apply ex_ldS_at;exact rfl;exact rfl;assumption;with_reducible rfl) | (go_simp;try with_reducible rfl)
    try simp only [sA1,sA2,sA3,Act.put,sA4,sA5,sA6]
    refine wpAnyH_take (i:=6) (v:=?_) rfl (by kernel_rfl) (by kernel_rfl) (by kernel_rfl) (fun _ _ _ h=>h) (Or.inl ⟨by rfl,?_⟩) hF ?_
    rotate_left
    ·intro wS hSw;(try dsimp only at hSw);obtain ⟨s1,s2⟩:=hSw;first | (apply Eq.trans;apply ex_ldS_at;exact rfl;exact rfl;assumption;with_reducible rfl) | (go_simp;try with_reducible rfl)
    try simp only [sA1,sA2,sA3,Act.put,sA4,sA5,sA6]
    refine wpAnyH_take (i:=7) (v:=?_) rfl (by kernel_rfl) (by kernel_rfl) (by kernel_rfl) (fun _ _ _ h=>h) (Or.inl ⟨by rfl,?_⟩) hF ?_
    rotate_left
    ·intro wS hSw;(try dsimp only at hSw);obtain ⟨s1,s2⟩:=hSw;first | (apply Eq.trans;apply ex_ldS_at;exact rfl;exact rfl;assumption;with_reducible rfl) | (go_simp;try with_reducible rfl)
    try simp only [sA1,sA2,sA3,Act.put,sA4,sA5,sA6]
    by_cases hxy:x = y
    ·subst hxy
     have HE:=Lib.hid (HEQ.out rfl)
     clear HNE HEQ
     refine wpAnyH_take (i:=8) (v:=?_) rfl (by kernel_rfl) (by kernel_rfl) (by kernel_rfl) (fun _ _ _ h=>h) (Or.inl ⟨by rfl,?_⟩) hF ?_
     rotate_left
     ·intro wS hSw;(try dsimp only at hSw);obtain ⟨s1,s2⟩:=hSw;first | (apply Eq.trans;apply ex_ldS_at;exact rfl;exact rfl;assumption;with_reducible rfl) | (go_simp;try with_reducible rfl)
     try simp only [sA1,sA2,sA3,Act.put,sA4,sA5,sA6]
     refine wpAnyH_done (by kernel_rfl) ?_ _
     clear hF
     go_wp2_with fail
     go_roundg (xs.length - (k + 1))
     case measure=>omega
     case rel=>exact ⟨k + 1,by simp,rfl,by omega,HE.out,hf.drew⟩
    ·have HE:=Lib.hid (HNE.out hxy)
     clear HNE HEQ
     refine wpAnyH_take (i:=8) (v:=?_) rfl (by kernel_rfl) (by kernel_rfl) (by kernel_rfl) (fun _ _ _ h=>h) (Or.inl ⟨by rfl,?_⟩) hF ?_
     rotate_left
     ·intro wS hSw;(try dsimp only at hSw);obtain ⟨s1,s2⟩:=hSw;first | (apply Eq.trans;apply ex_ldS_at;exact rfl;exact rfl;assumption;with_reducible rfl) | (go_simp;try with_reducible rfl)
     try simp only [sA1,sA2,sA3,Act.put,sA4,sA5,sA6]
     refine wpAnyH_done (by kernel_rfl) ?_ _
     clear hF
     go_wp2_with fail
     go_ret
     exact ⟨by rw [decide_eq_false HE.out];rfl,hf.drew⟩
   ·have hkn:k = xs.length:=by omega
    subst hkn
    have i1:¬ (xs.length:Int) < (xs.length:Int):=by omega
    have HE:=Lib.hid (show xs = ys from List.ext_getElem HL.out (fun j h1 h2=>HJ.out j h1 h2 h1))
    go_wp2_with fail
    go_ret
    exact ⟨by rw [decide_eq_true HE.out];rfl,hf⟩
 ·have HE:=Lib.hid (show xs ≠ ys from fun e=>hl (by rw [e]))
  have hl':((xs.length:Int) != (ys.length:Int)) = true:=by rw [bne_iff_ne];omega
  go_enter Tryz.func98,Tryz.ntmps98
  go_wp2_with fail
  go_ret
  exact ⟨by rw [decide_eq_false HE.out];rfl,Fr.refl _ _⟩
/-! sort.Search -/
structure FstP (n:Nat) (p:Nat → Bool) (r:Nat):Prop where
 le:r ≤ n
 lo:∀ j,j < r → p j = false
 hi:∀ j,r ≤ j → j < n → p j = true
def SrTo (w:World) (n:Nat) (p:Nat → Bool) (e:Ending) (w':World):Prop:=∃ r:Nat,e = .returned (.int .i64 (r:Int)) ∧ FstP n p r ∧ Fr noB w w'
def SrR (w:World) (n:Nat) (p:Nat → Bool) (gk:Nat) (iv jv:Value) (wr:World):Prop :=
 ∃ (i j:Nat),iv = .int .i64 (i:Int) ∧ jv = .int .i64 (j:Int) ∧ gk = j - i ∧ i ≤ j ∧ j ≤ n ∧ (∀ q,q < i → p q = false) ∧ (∀ q,j ≤ q → q < n → p q = true) ∧ Fr noB w wr
set_option maxRecDepth 100000 in
set_option maxHeartbeats 1000000 in
theorem srchIns_any (w:World) (n:Nat) (hb:n ≤ 140737488355328) (cp cq:Value) (p:Nat → Bool) (hm:∀ i j,i ≤ j → p i = true → p j = true)
  (hf:∀ w',Fr noB w w' → ∀ i:Nat,i < n → Calls Tryz.prog 107 #[.int .i64 (i:Int),cp,cq] w' (Gives w' (.bool (p i)))) :
  Calls Tryz.prog 106 #[.int .i64 (n:Int),.func (.func 107) #[] #[cp,cq]] w (SrTo w n p):=by
 go_enter Tryz.func106,Tryz.ntmps106
 go_wp2_with fail
 go_loopg [5,6] n (fun gk iv jv wr=>SrR w n p gk iv jv wr)
 case atStart=>exact ⟨0,n,rfl,rfl,by omega,by omega,by omega,fun q h=>by omega,fun q h1 h2=>by omega,Fr.refl _ _⟩
 case round =>
  obtain ⟨i,j,rfl,rfl,rfl,hij,hjn,hlo,hhi,hfr⟩:=hrel
  have HLO:=Lib.hid hlo
  have HHI:=Lib.hid hhi
  clear hlo hhi
  by_cases hlt:i < j
  ·have i1:(i:Int) < (j:Int):=by omega
   obtain ⟨h,hh⟩:∃ x:Nat,x = (i + j) / 2:=⟨_,rfl⟩
   have wh:((i:Int) + (j:Int)) / 2 = (h:Int):=by omega
   have hhn:h < n:=by omega
   have hhb:=Lib.hid (show i ≤ h ∧ h < j by omega)
   have hc:=hf wr hfr h hhn
   clear hh
   by_cases hp:p h = true
   ·rw [hp] at hc
    have HP:=Lib.hid (fun q (h1:h ≤ q) (h2:q < n)=>hm h q h1 hp)
    clear hp
    go_wp2_with (go_at_call 107;refine hc.mono ?_;rintro e w1 ⟨rfl,f1⟩)
    go_roundg (h - i)
    case measure=>have:=hhb.out;omega
    case rel=>exact ⟨i,h,rfl,rfl,rfl,hhb.out.1,by omega,HLO.out,HP.out,hfr.step0 f1⟩
   ·have hp':p h = false:=by simpa using hp
    rw [hp'] at hc
    have HP:=Lib.hid (show ∀ q,q < h + 1 → p q = false from fun q h1=>by
     cases hq:p q with
     | false=>rfl
     | true=>exact absurd (hm q h (by omega) hq) hp)
    clear hp hp'
    have wh1:IntKind.i64.wrap ((h:Int) + 1) = ((h + 1:Nat):Int):=by rw [IntKind.wrap_i64];omega
    go_wp2_with (go_at_call 107;refine hc.mono ?_;rintro e w1 ⟨rfl,f1⟩)
    go_roundg (j - (h + 1))
    case measure=>have:=hhb.out;omega
    case rel=>exact ⟨h + 1,j,by simp,rfl,rfl,by have:=hhb.out;omega,hjn,HP.out,HHI.out,hfr.step0 f1⟩
  ·have hij2:i = j:=by omega
   subst hij2
   have i1:¬ (i:Int) < (i:Int):=by omega
   go_wp2_with fail
   go_ret
   exact ⟨i,rfl,⟨hjn,HLO.out,HHI.out⟩,hfr⟩
end Go.Proofs.YtjpieiccpbcabaaGreat
