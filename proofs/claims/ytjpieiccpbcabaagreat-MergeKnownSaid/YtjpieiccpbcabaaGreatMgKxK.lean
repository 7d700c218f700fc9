/- Values [3]int in memory. The frame of a law's proof over arguments [][3]int: opened. What the rounds of grown have made so far: boxes of a round (a triple, an ID, a commit), rows of int64. Contract: pollardlaw15.grown. (rdI) Plain: what Add answers where a commit is there (MergeKnown). A commit that is told, and stored into (MergeKnown): what stays. The law MergeKnown: it returns true. (rdI) MergeKnown's walk, as the law's frame asks for it. -/
import Derived.Test.YtjpieiccpbcabaaGreatMgOK
import Derived.Test.YtjpieiccpbcabaaGreatFrameOK
import Derived.Deep.LoopGhost
import Derived.Deep.CutRange
import Derived.Test.YtjpieiccpbcabaaGreatShpPK
namespace Go.Proofs.YtjpieiccpbcabaaGreat
open Go.RowKit Go.Maps Go.Sort
set_option linter.unusedVariables false
set_option linter.unusedSimpArgs false

structure Tri where
 a:Int
 b:Int
 c:Int
def csTr (x:Tri):List Value:=[.int .i64 x.a,.int .i64 x.b,.int .i64 x.c]
def zTri:Tri:=⟨0,0,0⟩
def codTr:Cod Tri:=⟨123,3,csTr,zTri,fun x=>rfl,by decide,fun x u hu=>by
  simp only [csTr,List.mem_cons,List.not_mem_nil,or_false] at hu
  rcases hu with rfl | rfl | rfl <;> rfl,fun x y h=>by
 obtain ⟨a,b,c⟩:=x;obtain ⟨a',b',c'⟩:=y
 simp only [csTr,List.cons.injEq,Value.int.injEq,and_true,true_and] at h
 obtain ⟨rfl,rfl,rfl⟩:=h
 rfl⟩
theorem okTr:CodOk Tryz.prog codTr:=⟨⟨_,Tryz.underlying123,rfl⟩,by kernel_rfl,fun w=>(zero_of_info (P:=Tryz.prog) (t:=123) (v:=.agg (codTr.cs codTr.z).toArray) (n:=3) (by kernel_rfl)).1 w⟩
@[simp ↓] theorem ex_ldTr (ρ:Operand → Value) (d:Option Nat) (a:Operand) (t:TypeId) (p:String) (f:Array Edge) (g:Option (Nat × Bool)) (w:World) :
  (execOp ρ { dst:=d,op:=.load 123 a,type:=t,pos:=p,after:=f,guard:=g }).run Tryz.prog w = codTr.ldR w (ρ a) (exElse ρ { dst:=d,op:=.load 123 a,type:=t,pos:=p,after:=f,guard:=g } w):=okTr.ldOp ρ _ a rfl w
@[simp ↓] theorem ex_alTr (ρ:Operand → Value) (d:Option Nat) (t:TypeId) (p:String) (f:Array Edge) (g:Option (Nat × Bool)) (w:World) :
  (execOp ρ { dst:=d,op:=.alloc 123,type:=t,pos:=p,after:=f,guard:=g }).run Tryz.prog w = .ok (.value (.pointer (some ⟨w.heap.size,0,none⟩))) (w.alloc (codTr.o zTri)):=okTr.alOp ρ _ rfl w
@[simp ↓] theorem ex_stTr (ρ:Operand → Value) (a x:Operand) (d:Option Nat) (t:TypeId) (p:String) (f:Array Edge) (g:Option (Nat × Bool)) (w:World) :
  (execOp ρ { dst:=d,op:=.store 123 a x,type:=t,pos:=p,after:=f,guard:=g }).run Tryz.prog w = codTr.stR w (ρ a) (ρ x):=Cod.stOp (C:=codTr) ρ _ a x rfl w
@[simp] theorem st_newTr (w:World) (x y:Tri):codTr.stR (w.alloc (codTr.o y)) (.pointer (some ⟨w.heap.size,0,none⟩)) (.agg (codTr.A x)) = .ok .skip (w.alloc (codTr.o x)):=okTr.stR_new w x y
structure TrAt (w:World) (g o:Nat) (r:Tri):Prop where
 a:w.cell? ⟨g,o,none⟩ = some (.int .i64 r.a)
 b:w.cell? ⟨g,o + 1,none⟩ = some (.int .i64 r.b)
 c:w.cell? ⟨g,o + 2,none⟩ = some (.int .i64 r.c)
theorem trAt {w:World} {b o:Nat} {r:Tri} (h:codTr.rd w b o = some r):TrAt w b o r :=
 ⟨by simpa using Cod.rd_cell h 0 (v:=.int .i64 r.a) rfl,Cod.rd_cell h 1 (v:=.int .i64 r.b) rfl,Cod.rd_cell h 2 (v:=.int .i64 r.c) rfl⟩
end Go.Proofs.YtjpieiccpbcabaaGreat
namespace Go.Proofs.YtjpieiccpbcabaaGreat
open Go.ChangeShapes Go.WideShapes Go.ChangeAt Go.RowKit Go.Deep
set_option linter.unusedVariables false
section
variable {H:Type} {enc:TypeId × Value → H} {W:World}
set_option maxRecDepth 100000 in
theorem td_trip {fuel:Nat} {cs:List Value} {x:DataW H × List MemPlace} (h:Td enc W fuel 123 cs x):∃ y:Tri,cs = csTr y:=by
 obtain ⟨xs,k,_,_,hcl,hxl,he⟩:=DataW.trod_array Tryz.underlying123 h.1
 have c3:Tryz.prog.cellsOf 123 = 3:=by kernel_rfl
 have c1:Tryz.prog.cellsOf 3 = 1:=by kernel_rfl
 rw [c3] at hcl
 rw [c1] at he
 have hp:∀ i (hi:i < 3),∃ a:Int,cs[i]'(by omega) = .int .i64 a:=by
  intro i hi
  have e:=he i hi
  rw [List.getElem?_eq_getElem (by omega)] at e
  have hd:(cs.drop (i * 1)).take 1 = [cs[i]'(by omega)]:=by
   rw [Nat.mul_one,List.drop_eq_getElem_cons (by omega)];rfl
  rw [hd] at e
  obtain ⟨a,ea,_,hw⟩:=DataW.trod_int Tryz.underlying3 e
  simp only [List.cons.injEq,and_true] at ea
  exact ⟨a,ea⟩
 obtain ⟨a,ha⟩:=hp 0 (by omega)
 obtain ⟨b,hb⟩:=hp 1 (by omega)
 obtain ⟨c,hc⟩:=hp 2 (by omega)
 refine ⟨⟨a,b,c⟩,?_⟩
 have e:cs = [cs[0]'(by omega),cs[1]'(by omega),cs[2]'(by omega)]:=by
  match cs,hcl with
  | [u,v,w],_=>rfl
 rw [e,ha,hb,hc]
 rfl
set_option maxRecDepth 100000 in
theorem open_trips {base:Nat} {v:Value} {d:DataW H} {p:List MemPlace}
  (hv:Value.okWide Tryz.prog W .any base 69 v) (h:DataW.Trod enc Tryz.prog W 0 (fun _=>true) true 69 v d p) (hw:∀ n ∈ d.weights Tryz.prog 69,n ≤ reachBytes) :
  ∃ (A:Option Addr) (rs:List Tri) (c:Nat),v = .slice A rs.length c ∧ Sl W A (codTr.row rs) ∧ rs.length ≤ 140737488355328 ∧ rs.length ≤ c:=by
 obtain ⟨a0,len,cap,rfl⟩:=okWide_slice Tryz.underlying69 hv
 obtain ⟨fuel,hf⟩:=h
 obtain ⟨A,rs,c,e,h1,h2,h3,_⟩:=td_sl codTr (R:=fun _=>True) Tryz.underlying69 (by kernel_rfl) (of_decide_eq_true (by kernel_rfl)) (fun n cs x h=>by obtain ⟨y,hy⟩:=td_trip h;exact ⟨y,hy,trivial⟩) (x:=(d,p)) ⟨hf,hw⟩
 refine ⟨A,rs,c,?_,h1,h2,h3⟩
 simpa [Value.cells] using e
end
end Go.Proofs.YtjpieiccpbcabaaGreat
namespace Go.Proofs.YtjpieiccpbcabaaGreat
open Go.RowKit Go.Maps Go.Sort
set_option linter.unusedVariables false
set_option linter.unusedSimpArgs false

def cod64:Cod Int:=⟨2,1,fun b=>[.int .i64 b],0,fun _=>rfl,by decide,fun x u hu=>by
 rw [List.mem_singleton] at hu
 subst hu;rfl,fun x y h=>by
 have h2:Value.int .i64 x = Value.int .i64 y:=by injection h
 injection h2⟩
theorem et64:ET Tryz.prog 122 cod64.t cod64.n 8:=ET.mk' (z:=.int .i64 0) Tryz.underlying122 (by kernel_rfl) rfl (by decide) (by decide)
theorem Sl.cell1 {α:Type} {C:Cod α} (hn:C.n = 1) {w:World} {g off:Nat} {l:List α} (h:Sl w (some ⟨g,off,none⟩) (C.row l)) (i:Nat) (hi:i < l.length) {v:Value} (hv:C.cs l[i] = [v]):w.cell? ⟨g,off + i,none⟩ = some v:=by
 have h2:=Cod.row_get l i 0 hi v (by rw [hv];rfl)
 rw [hn,Nat.mul_one,Nat.add_zero] at h2
 have hne:C.row l ≠ []:=by
  intro e
  rw [e] at h2
  simp at h2
 obtain ⟨g',off',e,_,hc⟩:=h hne
 injection e with e
 injection e with e1 e2
 subst e1 e2
 exact hc i v h2
theorem bldC_p3 (w:World) (t r:Int) (x:ID):(Instr.build 35 #[(1,.int .i64 t),(2,.int .i64 r),(4,encI x)]).run Tryz.prog w = .ok (.agg (codC.A { zCgW with Time:=t,R:=r,Tree:=x })) w:=by
 have h1:∀ place:Nat → Option (Nat × Nat),place 1 = some (1,1) → place 2 = some (2,1) → place 4 = some (4,32) → Instr.fill place ([Value.slice none 0 0] ++ [Value.int .i64 0] ++ ([Value.int .i64 0,Value.slice none 0 0] ++ bv zID.1 ++ [Value.string (str [])])).toArray [(1,.int .i64 t),(2,.int .i64 r),(4,encI x)] = some (codC.cs { zCgW with Time:=t,R:=r,Tree:=x }).toArray:=by
  intro place p1 p2 p4
  refine (fill_one place [.slice none 0 0] [.int .i64 0] ([.int .i64 0,.slice none 0 0] ++ bv zID.1 ++ [.string (str [])]) [.int .i64 t] 1 (.int .i64 t) _ rfl (by simpa using p1) rfl).trans ?_
  have e2:=fill_one place [.slice none 0 0,.int .i64 t] [.int .i64 0] ([.slice none 0 0] ++ bv zID.1 ++ [.string (str [])]) [.int .i64 r] 2 (.int .i64 r) [(4,encI x)] rfl (by simpa using p2) rfl
  refine Eq.trans ?_ (e2.trans ?_)
  ·simp
  have e4:=fill_one place [.slice none 0 0,.int .i64 t,.int .i64 r,.slice none 0 0] (bv zID.1) [.string (str [])] (bv x.1) 4 (encI x) [] (cellsI x) (by simpa [x.2] using p4) (by simp [x.2,zID])
  refine Eq.trans ?_ (e4.trans ?_)
  ·simp
  ·simp [Instr.fill,codC,csC,zCgW]
 have hz:(zeroValue 35).run Tryz.prog w = .ok (.agg (codC.cs codC.z).toArray) w:=okC.zero w
 have hc:(Value.agg (codC.cs codC.z).toArray).cells = ([Value.slice none 0 0] ++ [Value.int .i64 0] ++ ([Value.int .i64 0,Value.slice none 0 0] ++ bv zID.1 ++ [Value.string (str [])])).toArray:=rfl
 have hsI:∀ w,(sizeOf 24).run Tryz.prog w = .ok 32 w:=fun w=>Tryz.sizeOf24 w
 simp only [Instr.build,Sem.run_bind,hz,Result.andThen_ok,run_underlying Tryz.underlying35,hc]
 simp only [List.mapM_toArray,List.mapM_cons,List.mapM_nil,Sem.run_bind,hsI,Tryz.sizeOf9,Tryz.sizeOf32,Tryz.sizeOf33,Tryz.sizeOf2,Tryz.sizeOf3,Result.andThen_ok,Sem.run_pure,Sem.run_map,map_pure,bind_pure_comp]
 rw [h1 _ rfl rfl rfl]
 simp [Cod.A_eq]
@[simp ↓] theorem ex_bldCp3 (ρ:Operand → Value) (x1 x2 x4:Operand) (d:Option Nat) (t:TypeId) (p:String) (f:Array Edge) (g:Option (Nat × Bool)) (w:World) :
  (execOp ρ { dst:=d,op:=.build 35 #[(1,x1),(2,x2),(4,x4)],type:=t,pos:=p,after:=f,guard:=g }).run Tryz.prog w = mkB 35 w [(1,ρ x1),(2,ρ x2),(4,ρ x4)]:=(exB ρ _ _ _ rfl w).trans (by simp only [List.map_toArray,List.map_cons,List.map_nil])
@[simp] theorem mkB_Cp3 (w:World) (t r:Int) (x:ID):mkB 35 w [(1,.int .i64 t),(2,.int .i64 r),(4,encI x)] = .ok (.value (.agg (codC.A { zCgW with Time:=t,R:=r,Tree:=x }))) w:=mkB_ok (bldC_p3 w t r x)
@[simp] theorem mkB_Op4n (w:World) (k:Int) (a s:St):mkB 83 w [(0,.int .i64 k),(1,.agg (codS.A a)),(2,.agg (codS.A s)),(4,.string { data:=#[110] })] = .ok (.value (.agg (codO.A { zOpW with Kind:=k,At:=a,Node:=s,Name:=[110] }))) w:=mkB_Op4 w k a s [110]

structure GB (wr W w:World) (P:Nat) (x:Tri) (k:Nat) (cw:CgW):Prop where
 n:codTr.rd w P 0 = some x
 i:rdI w (P + 1) 0 = some (idG k)
 c:codC.bxd w (P + 2) = some cw
 fr:Fr noB wr w
 ge:W.heap.size ≤ w.heap.size
 hP:P = wr.heap.size
 hW:W.heap.size = P + 3
theorem GB.new {wr W w w':World} {P k:Nat} {x:Tri} {cw:CgW} (h:GB wr W w P x k cw) (f:Fr noB w w'):GB wr W w' P x k cw :=
 ⟨Cod.rd_fr0 h.n f,rdI_fr h.i (rdI_lt h.i) f (by simp [noB]),Cod.bxd_fr0 h.c f,h.fr.step0 f,Nat.le_trans h.ge f.size,h.hP,h.hW⟩
theorem GB.lt {wr W w:World} {P k:Nat} {x:Tri} {cw:CgW} (h:GB wr W w P x k cw):P + 3 ≤ w.heap.size:=by rw [← h.hW];exact h.ge
theorem GB.far {wr W w w':World} {P k:Nat} {x:Tri} {cw:CgW} {M:Nat → Prop} (h:GB wr W w P x k cw) (f:Fr M w w') (hM:∀ b,M b → P + 2 < b):GB wr W w' P x k cw :=
 ⟨Cod.rd_fr h.n f (fun e=>by have:=hM _ e;omega),rdI_fr h.i (rdI_lt h.i) f (fun e=>by have:=hM _ e;omega),Cod.bxd_fr h.c f (fun e=>by have:=hM _ e;omega),
  h.fr.step f (fun q hq=>.inl (by have:=hM _ hq;have:=h.hP;omega)),Nat.le_trans h.ge f.size,h.hP,h.hW⟩
theorem GB.grow {wr W w w':World} {P k c:Nat} {x:Tri} {cw:CgW} {A:Option Addr} {ps:List ID} (h:GB wr W w P x k cw) (ho:OwnC codI W w A c ps) (hg:w.grownBy w' (A.map (·.block))):GB wr W w' P x k cw :=
 h.far (M:=fun b=>A.map (·.block) = some b) (Fr.ofGrown hg (fun g hg=>hg)) (fun b hb=>by have:=(own_lt ho b hb).1;have:=h.hW;omega)
theorem own0 (W w:World):OwnC codI W w none 0 []:=World.ownsRow_nil _ _ _ _
theorem GB.grow0 {wr W w w':World} {P k:Nat} {x:Tri} {cw:CgW} (h:GB wr W w P x k cw) (hg:w.grownBy w' ((none:Option Addr).map (·.block))):GB wr W w' P x k cw :=
 h.grow (own0 W w) hg
theorem GB.set {wr W w:World} {P k:Nat} {x:Tri} {cw:CgW} (h:GB wr W w P x k cw) (o:Nat) (v:Value) (cw':CgW) (hs:(codC.cs cw).set o v = codC.cs cw'):GB wr W (w.setCell ⟨P + 2,o,none⟩ v) P x k cw':=by
 have f:=Cod.set_fr w (P + 2) o v
 refine ⟨Cod.rd_fr h.n f (fun e=>by have:P = P + 2:=e;omega),rdI_fr h.i (rdI_lt h.i) f (fun e=>by have:P + 1 = P + 2:=e;omega),Cod.bxd_set h.c o v _ hs,h.fr.step f (fun q hq=>.inl (by have:q = P + 2:=hq;have:=h.hP;omega)),Nat.le_trans h.ge f.size,h.hP,h.hW⟩
theorem GB.own {wr W w:World} {P k c:Nat} {x:Tri} {cw:CgW} {A:Option Addr} {ps:List ID} (h:GB wr W w P x k cw) (ho:OwnC codI W w A c ps) (o:Nat) (v:Value):OwnC codI W (w.setCell ⟨P + 2,o,none⟩ v) A c ps :=
 own_fr ho (Cod.set_fr w (P + 2) o v) (fun g hg e=>by
  rw [ownBlock_sl'] at hg
  have h1:=(own_lt ho g hg).1
  have h2:g = P + 2:=e
  have:=h.hW
  omega)
theorem GB.tri {wr W w:World} {P k:Nat} {x:Tri} {cw:CgW} (h:GB wr W w P x k cw):w.cell? ⟨P,0,none⟩ = some (.int .i64 x.a) ∧ w.cell? ⟨P,1,none⟩ = some (.int .i64 x.b) ∧ w.cell? ⟨P,2,none⟩ = some (.int .i64 x.c):=by
 have t:=trAt h.n
 refine ⟨t.a,?_,?_⟩
 ·simpa using t.b
 ·simpa using t.c
def rowG (n:Nat):List ID:=(List.range n).map idG
theorem rowG_len (n:Nat):(rowG n).length = n:=by simp [rowG]
theorem rowG_get (n i:Nat) (h:i < (rowG n).length):(rowG n)[i] = idG i:=by simp [rowG]
theorem rowG_succ (n:Nat):rowG (n + 1) = rowG n ++ [idG n]:=by simp [rowG,List.range_succ]
structure GR (w0 w:World) (H:Nat) (S:Nat → Prop) (L:Hst) (ts:List Int) (A:Option Addr) (cA:Nat) (B:Option Addr) (cB:Nat):Prop where
 hs:Hs w H S L
 g:Gw L ts
 ia:OwnC codI w0 w A cA (rowG ts.length)
 tm:OwnC cod64 w0 w B cB ts
 na:∀ g,A.map (·.block) = some g → ¬ S g
 nb:∀ g,B.map (·.block) = some g → ¬ S g
 lo:∀ b,S b → w0.heap.size ≤ b
 fr:Fr noB w0 w
theorem GR.next {w0 wr v1 w6 w7:World} {H:Nat} {S:Nat → Prop} {L L':Hst} {ts:List Int} {A A6 B B7:Option Addr} {cA cB c6 c7:Nat} {t:Int} (h:GR w0 wr H S L ts A cA B cB)
  (g':Gw L' (ts ++ [t])) {u:World} (fu:Fr noB wr u) (hs1:Hs v1 H (grF S u v1) L') (f1:Fr S u v1) {x1:World} (fx:Fr noB v1 x1)
  (o6:OwnC codI w0 w6 A6 c6 (rowG ts.length ++ [idG ts.length])) (g6:x1.grownBy w6 (A.map (·.block))) (a6:A6.map (·.block) = A.map (·.block) ∨ A6.map (·.block) = some x1.heap.size) {x6:World} (fx6:Fr noB w6 x6)
  (o7:OwnC cod64 w0 w7 B7 c7 (ts ++ [t])) (g7:x6.grownBy w7 (B.map (·.block))) (a7:B7.map (·.block) = B.map (·.block) ∨ B7.map (·.block) = some x6.heap.size) :
  GR w0 w7 H (grF S u v1) L' (ts ++ [t]) A6 c6 B7 c7:=by
 have lu:=fu.size
 have l1:=f1.size
 have lx:=fx.size
 have f6:Fr (fun b=>A.map (·.block) = some b) x1 w6:=Fr.ofGrown g6 (fun g hg=>hg)
 have f7:Fr (fun b=>B.map (·.block) = some b) x6 w7:=Fr.ofGrown g7 (fun g hg=>hg)
 have l6:=f6.size
 have lx6:=fx6.size
 have l7:=f7.size
 have bA:∀ g,A.map (·.block) = some g → w0.heap.size ≤ g ∧ g < wr.heap.size:=fun g hg=>own_lt h.ia g hg
 have bB:∀ g,B.map (·.block) = some g → w0.heap.size ≤ g ∧ g < wr.heap.size:=fun g hg=>own_lt h.tm g hg
 have nA:∀ b,grF S u v1 b → ¬ A.map (·.block) = some b:=fun b hb e=>hb.elim (h.na b e) (fun h'=>by have:=(bA b e).2;omega)
 have nB:∀ b,grF S u v1 b → ¬ B.map (·.block) = some b:=fun b hb e=>hb.elim (h.nb b e) (fun h'=>by have:=(bB b e).2;omega)
 have nAB:∀ g,A6.map (·.block) = some g → ¬ B.map (·.block) = some g:=fun g hg e=>by
  rcases a6 with h' | h'
  ·rw [h'] at hg
   obtain ⟨_,cA1,z1,hA1⟩:=own_blk h.ia hg
   obtain ⟨_,cB1,z2,hB1⟩:=own_blk h.tm e
   rw [hA1] at hB1
   injection hB1 with hB1
   injection hB1 with _ h2
   exact absurd h2 (by decide)
  ·rw [h'] at hg
   injection hg with hg
   have:=(bB g e).2
   omega
 refine ⟨((((hs1.fr0 fx).fr f6 nA).fr0 fx6).fr f7 nB),g',?_,o7,?_,?_,fun b hb=>hb.elim (h.lo b) (fun h'=>by have:=h.fr.size;omega),?_⟩
 ·have e:(ts ++ [t]).length = ts.length + 1:=by simp
  rw [e,rowG_succ]
  refine own_fr (own_new0 o6 fx6) f7 (fun g hg=>?_)
  rw [ownBlock_sl'] at hg
  exact nAB g hg
 ·intro g hg hS
  rcases a6 with h' | h'
  ·rw [h'] at hg
   exact nA g hS hg
  ·rw [h'] at hg
   injection hg with hg
   have:=hs1.lt hS
   omega
 ·intro g hg hS
  rcases a7 with h' | h'
  ·rw [h'] at hg
   exact nB g hS hg
  ·rw [h'] at hg
   injection hg with hg
   have:=hs1.lt hS
   omega
 ·have F1:=(h.fr.step0 fu).step f1 (fun q hq=>.inl (h.lo q hq))
  have F2:=(F1.step0 fx).step f6 (fun q hq=>.inl (bA q hq).1)
  exact (F2.step0 fx6).step f7 (fun q hq=>.inl (bB q hq).1)
theorem and_maskM (x:Int) (m:Nat) (hm:m ≤ 1023):∃ r:Nat,bits BinOp.and IntKind.i64 x (m:Int) = (r:Int) ∧ r ≤ m:=by
 refine ⟨(BitVec.ofInt 64 x &&& BitVec.ofInt 64 (m:Int)).toNat,?_,?_⟩
 ·have hle:(BitVec.ofInt 64 x &&& BitVec.ofInt 64 (m:Int)).toNat ≤ 1023:=by
   rw [BitVec.toNat_and]
   refine Nat.le_trans Nat.and_le_right ?_
   rw [BitVec.toNat_ofInt]
   omega
  show IntKind.i64.wrap (((BitVec.ofInt 64 x &&& BitVec.ofInt 64 (m:Int)).toNat:Nat):Int) = _
  rw [IntKind.wrap_i64]
  omega
 ·rw [BitVec.toNat_and]
  refine Nat.le_trans Nat.and_le_right ?_
  rw [BitVec.toNat_ofInt]
  omega
def cwG (A:Option Addr) (n c:Nat) (t:Int) (k:Nat) (B:Option Addr) (m d:Nat):CgW:=⟨A,n,c,t,1 + (k:Int),B,m,d,id2 1 0,[]⟩
structure PsG (ts:List Int) (t:Int) (ps:List ID) (m:Int):Prop where
 par:ParG ts.length ps
 at_:∀ p ∈ ps,∃ (j:Nat) (hj:j < ts.length),p = idG j ∧ ts[j] < t
 lo:1 ≤ t
 hi:t ≤ 4 * (ts.length:Int) + m
def opWG (t:Int) (k:Nat) (nd pr:St):OpW:=⟨1,⟨t,1 + (k:Int)⟩,nd,pr,[110],zID,none,0,0⟩
theorem opWG_in (w:World) (t:Int) (k:Nat) (nd pr:St):OpIn w (opWG t k nd pr) (opG t k nd pr):=⟨by unfold opG opWG opOf;rw [Int.add_comm],rfl,Sl.nil _ _,by simp [opG],by simp [opWG]⟩
theorem cwG_q {Q:Nat → Prop} {w:World} {PA OA:Option Addr} {pc oc k:Nat} {t:Int} {ps:List ID} {rs:List OpW} {ops:List Opn} (hp:Sl w PA (idc ps)) (hpq:ps ≠ [] → InQ Q PA) (ho:Sl w OA (codO.row rs)) (hoq:rs ≠ [] → InQ Q OA)
  (hb:ps.length ≤ 1000) (h:(rs = [] ∧ ops = []) ∨ ∃ nd pr,rs = [opWG t k nd pr] ∧ ops = [opG t k nd pr]):CgQ Q w (cwG PA ps.length pc t k OA rs.length oc) rs (chG ps t k ops):=by
 refine ⟨⟨rfl,Int.add_comm _ _,rfl,rfl,rfl,hp,rfl,ho,?_,by show ps.length ≤ _;omega,?_,by simp [cwG]⟩,hpq,hoq,?_⟩
 ·rcases h with ⟨rfl,rfl⟩ | ⟨nd,pr,rfl,rfl⟩
  ·exact ⟨rfl,fun i h=>absurd h (by simp)⟩
  ·refine ⟨rfl,fun i h h'=>?_⟩
   have:i = 0:=by simpa using h
   subst this
   exact opWG_in w t k nd pr
 ·rcases h with ⟨rfl,_⟩ | ⟨nd,pr,rfl,_⟩ <;> simp
 ·rcases h with ⟨rfl,rfl⟩ | ⟨nd,pr,rfl,rfl⟩
  ·exact fun i h=>absurd h (by simp)
  ·intro i h h'
   have:i = 0:=by simpa using h
   subst this
   exact ⟨opWG_in w t k nd pr,fun h=>absurd rfl h⟩
theorem rightS_G {t:Int} {j:Nat} (h:1 ≤ t ∧ t ≤ 100) (hj:j < 20):rightS ⟨t,1 + (j:Int)⟩ = true:=by
 unfold rightS
 simp
 omega
theorem PsG.len {ts:List Int} {t m:Int} {ps:List ID} (h:PsG ts t ps m):ps.length ≤ 2:=by
 rcases h.par with rfl | ⟨a,_,rfl⟩ | ⟨a,b,_,_,rfl⟩ <;> simp
end Go.Proofs.YtjpieiccpbcabaaGreat
namespace Go.Proofs.YtjpieiccpbcabaaGreat
open Go.RowKit Go.Maps Go.Sort
set_option linter.unusedVariables false
set_option linter.unusedSimpArgs false

def Grown15 (w:World) (e:Ending) (w':World):Prop:=∃ H S L ts A cA,e = .returned (.tuple #[.pointer (some ⟨H,0,none⟩),.slice A ts.length cA]) ∧ Hs w' H S L ∧ Gw L ts ∧ OwnC codI w w' A cA (rowG ts.length) ∧ (∀ g,A.map (·.block) = some g → ¬ S g) ∧ (∀ b,S b → w.heap.size ≤ b) ∧ Fr noB w w'
def GroR15 (w0:World) (H:Nat) (nums:List Tri) (gk:Nat) (iv tv kv:Value) (wr:World):Prop :=
 ∃ ts S A cA B cB L,kv = .int .i64 ((ts.length:Nat):Int) ∧ gk = nums.length - ts.length ∧ ts.length ≤ nums.length ∧ iv = .slice A ts.length cA ∧ tv = .slice B ts.length cB ∧ GR w0 wr H S L ts A cA B cB
set_option maxRecDepth 100000 in
set_option maxHeartbeats 8000000 in
theorem l15grown_any (w:World) (A0:Option Addr) (c0 n:Nat) (nums:List Tri) (hn:nums.length = n) (hs:Sl w A0 (codTr.row nums)) (hb:nums.length ≤ 200000000000000) :
  Calls Tryz.prog 26 #[.slice A0 n c0] w (Grown15 w):=by
 go_enter Tryz.func26,Tryz.ntmps26
 go_upto_region 2 with (go_at_call 8;refine (mgNew_any _).mono ?_;rintro e w1 ⟨H,rfl,h1,f1⟩)
 subst hn
 have HS0:=Lib.hid h1
 have F0:=Lib.hid f1
 clear h1 f1
 go_upto_region 4 with fail
 go_wp2_with fail
 go_loopg [5,6,23] nums.length (fun gk iv tv kv wr=>GroR15 w H nums gk iv tv kv wr)
 case atStart =>
  have e0:GR w w1 H (grF (fun _=>False) w w1) [] [] none 0 none 0:=⟨HS0.out,Gw.nil,World.ownsRow_nil _ _ _ _,World.ownsRow_nil _ _ _ _,(fun g hg=>by cases hg),(fun g hg=>by cases hg),fun b e=>e.elim False.elim (fun e=>e.1),F0.out⟩
  have fa:Fr noB w1 (w1.alloc (.cells #[] 24)):=(Fr.refl noB w1).alloc _
  have fb:Fr noB (w1.alloc (.cells #[] 24)) ((w1.alloc (.cells #[] 24)).alloc (.cells #[] 2)):=(Fr.refl noB _).alloc _
  have la:=F0.out.size
  have no:∀ b,w1.heap.size ≤ b → ¬ grF (fun _=>False) w w1 b:=fun b hb e=>e.elim False.elim (fun e=>by omega)
  refine ⟨[],_,_,0,_,0,[],rfl,rfl,Nat.zero_le _,rfl,rfl,e0.hs.fr0 (fa.step0 fb),Gw.nil,?_,?_,?_,?_,e0.lo,e0.fr.step0 (fa.step0 fb)⟩
  ·have:=World.ownsRow_lit (base:=w1.heap.size) (e:=24) (size:=32) w1 #[] 0 (Nat.le_refl _) (by simp [maxLen]) rfl
   exact own_base (own_new0 this fb) la
  ·have:=World.ownsRow_lit (base:=(w1.alloc (.cells #[] 24)).heap.size) (e:=2) (size:=1) (w1.alloc (.cells #[] 24)) #[] 0 (Nat.le_refl _) (by simp [maxLen]) rfl
   simp only [World.size_alloc] at this
   exact own_base this (by omega)
  ·intro g hg
   simp only [Option.map_some,Option.some.injEq] at hg
   exact no g (by omega)
  ·intro g hg
   simp only [Option.map_some,Option.some.injEq] at hg
   exact no g (by omega)
 case round =>
  clear HS0 F0
  obtain ⟨ts,S,A,cA,B,cB,L,rfl,rfl,hkn,rfl,rfl,hR⟩:=hrel
  obtain ⟨k,hk⟩:∃ k,k = ts.length:=⟨_,rfl⟩
  rw [← hk] at hkn ⊢
  have HK:=Lib.hid hk
  have HR:=Lib.hid hR
  clear hk hR
  by_cases hlt:k < nums.length
  ·by_cases h16:k < 16
   ·have i1:(k:Int) < (nums.length:Int):=by omega
    have i2:(k:Int) < 16:=by omega
    obtain ⟨gN,oN,rfl,hgN⟩:=Sl.addr hs (by omega)
    have rx:codTr.rd wr gN (oN + k * 3) = some nums[k]:=Sl.rd (hs.fr0 HR.out.fr) k hlt
    have HNX:=Lib.hid rx
    generalize nums[k] = x at rx
    have hi:(0:Int) ≤ (k:Int):=by omega
    have v1:wrap64 ((k:Int) + 1) = k + 1:=by unfold wrap64;omega
    have v2:wrap64 (1 + (k:Int)) = k + 1:=by unfold wrap64;omega
    have v3:IntKind.u8.wrap ((k:Int) + 1) = k + 1:=by rw [IntKind.wrap_u8];omega
    have t1:((k:Int) + 1).toNat = k + 1:=by omega
    have u1:(0:Int) ≤ k + 1:=by omega
    have u2:(k + 1:Int) < 256:=by omega
    go_upto_region 8 with fail
    clear HNX rx hgN
    have fa:Fr noB wr (wr.alloc (codTr.o x)):=(Fr.refl noB wr).alloc _
    have qa:=Cod.rd_new' (C:=codTr) wr x
    have za:(wr.alloc (codTr.o x)).heap.size = wr.heap.size + 1:=by simp
    obtain ⟨P,hP⟩:∃ P,P = wr.heap.size:=⟨_,rfl⟩
    rw [← hP] at qa za ⊢
    generalize wr.alloc (codTr.o x) = Wa at fa qa za ⊢
    have HZ:=Lib.hid (And.intro hP za)
    clear hP za
    go_upto_region 9 with fail
    obtain ⟨a1,a2,a3⟩:=putB_fr (bxI_new Wa zID) (id2 (k + 1) 0)
    have fb:Fr noB Wa (putB (Wa.alloc (ido zID)) Wa.heap.size (id2 (k + 1) 0)):=((Fr.refl noB Wa).alloc _).step1 a1 (Nat.le_refl _)
    have zb:(putB (Wa.alloc (ido zID)) Wa.heap.size (id2 (k + 1) 0)).heap.size = P + 2:=by rw [a2,World.size_alloc,HZ.out.2]
    have qb:=Cod.rd_fr0 qa fb
    have Fb:=fa.step0 fb
    clear qa a1 a2 fa fb
    rw [HZ.out.2] at a3 zb Fb qb ⊢
    generalize putB (Wa.alloc (ido zID)) (P + 1) (id2 (k + 1) 0) = Wb at a3 zb Fb qb ⊢
    have HZb:=Lib.hid zb
    clear zb
    go_upto_region 10 with fail
    have fc:Fr noB Wb (Wb.alloc (codC.o ⟨zCgW.PA,zCgW.pn,zCgW.pc,1,1 + (k:Int),zCgW.OA,zCgW.on,zCgW.oc,id2 1 0,zCgW.Msg⟩)):=(Fr.refl noB Wb).alloc _
    have b1:=Cod.bxd_new (C:=codC) Wb ⟨zCgW.PA,zCgW.pn,zCgW.pc,1,1 + (k:Int),zCgW.OA,zCgW.on,zCgW.oc,id2 1 0,zCgW.Msg⟩
    have zc:(Wb.alloc (codC.o ⟨zCgW.PA,zCgW.pn,zCgW.pc,1,1 + (k:Int),zCgW.OA,zCgW.on,zCgW.oc,id2 1 0,zCgW.Msg⟩)).heap.size = P + 3:=by rw [World.size_alloc,HZb.out]
    have qi:=rdI_fr (bxI_rd a3) (rdI_lt (bxI_rd a3)) fc (by simp [noB])
    rw [HZb.out] at b1 ⊢
    obtain ⟨W,hW⟩:∃ W,W = Wb.alloc (codC.o ⟨zCgW.PA,zCgW.pn,zCgW.pc,1,1 + (k:Int),zCgW.OA,zCgW.on,zCgW.oc,id2 1 0,zCgW.Msg⟩):=⟨_,rfl⟩
    rw [← hW] at fc b1 zc qi ⊢
    have hB:GB wr W W P x k (cwG none 0 0 1 k none 0 0):=⟨Cod.rd_fr0 qb fc,qi,b1,Fb.step0 fc,Nat.le_refl _,HZ.out.1,zc⟩
    clear hW fc b1 zc qi qb Fb a3 HZ HZb v1 v2 v3 t1 u1 u2
    obtain ⟨d1,d2,d3⟩:=hB.tri
    have HB:=Lib.hid hB
    clear hB
    go_cut [44] from 24 to 165 (fun v wx=>∃ b:Bool,v = .bool b ∧ (b = true → 0 < k) ∧ W = wx)
    case first =>
     by_cases hk0:0 < k
     ·have e0:decide (0 < (k:Int)) = true:=by simpa using hk0
      by_cases ha:0 ≤ x.a
      ·have e1:decide (0 ≤ x.a) = true:=by simpa using ha
       go_wp2_with fail
       go_meet
       case rel=>exact ⟨true,rfl,fun _=>hk0,rfl⟩
      ·have e1:decide (0 ≤ x.a) = false:=by simpa using ha
       go_wp2_with fail
       go_meet
       case rel=>exact ⟨false,rfl,fun h=>absurd h (by decide),rfl⟩
     ·have e0:decide (0 < (k:Int)) = false:=by simpa using hk0
      go_wp2_with fail
      go_meet
      case rel=>exact ⟨false,rfl,fun h=>absurd h (by decide),rfl⟩
    case rest =>
     obtain ⟨b0,rfl,hb0,rfl⟩:=hcut
     have HB0:=Lib.hid hb0
     clear hb0
     go_upto_if 44 with fail
     go_cut [11,12] from 24 to 165 (fun va vb wx=>∃ ps t PA pc,GB wr W wx P x k (cwG PA ps.length pc t k none 0 0) ∧ OwnC codI W wx PA pc ps ∧ PsG ts t ps 1)
     case first =>
      cases b0
      case true =>
       have hk0:=HB0.out rfl
       obtain ⟨ra,era,hra⟩:=and_maskM x.a 1023 (by omega)
       obtain ⟨rb,erb,hrb⟩:=and_maskM x.b 1023 (by omega)
       have la:ra % k < k:=Nat.mod_lt _ hk0
       have lb:rb % k < k:=Nat.mod_lt _ hk0
       have hkz:¬ (k = 0):=by omega
       have ha:(bits BinOp.and IntKind.i64 x.a 1023).tmod (k:Int) = ((ra % k:Nat):Int):=by rw [show bits BinOp.and IntKind.i64 x.a 1023 = (ra:Int) from era];rfl
       have hb':(bits BinOp.and IntKind.i64 x.b 1023).tmod (k:Int) = ((rb % k:Nat):Int):=by rw [show bits BinOp.and IntKind.i64 x.b 1023 = (rb:Int) from erb];rfl
       generalize ra % k = a at la ha
       generalize rb % k = b at lb hb'
       clear era erb hra hrb HB0
       go_upto_region 11 with fail
       refine wp_region_H (fun w'=>w'.cell? ⟨P,0,none⟩ = some (.int .i64 x.a) ∧ w'.cell? ⟨P,1,none⟩ = some (.int .i64 x.b)) (by kernel_rfl) ⟨d1,d2⟩ (fun hF=>?_)
       refine wpAnyH_take (i:=0) (v:=?_) rfl (by kernel_rfl) (by kernel_rfl) (by kernel_rfl) (fun _ _ _ h=>h) (Or.inl ⟨by rfl,?_⟩) hF ?_
       rotate_left
       ·intro wS hSw;(try dsimp only at hSw);obtain ⟨s1,s2⟩:=hSw;first | (apply Eq.trans;apply ex_ld_id;exact rfl;exact rfl;assumption;with_reducible rfl) | (go_simp;try with_reducible rfl)
       try simp only [List.getElem_toArray,List.getElem_cons_zero,List.getElem_cons_succ,Act.put,List.setIfInBounds_toArray,List.set_cons_zero,List.set_cons_succ]
       refine wpAnyH_take (i:=1) (v:=?_) rfl (by kernel_rfl) (by kernel_rfl) (by kernel_rfl) (fun _ _ _ h=>h) (Or.inl ⟨by rfl,?_⟩) hF ?_
       rotate_left
       ·intro wS hSw;(try dsimp only at hSw);obtain ⟨s1,s2⟩:=hSw;first | (apply Eq.trans;apply ex_ld_id;exact rfl;exact rfl;assumption;with_reducible rfl) | (go_simp;try with_reducible rfl)
       try simp only [List.getElem_toArray,List.getElem_cons_zero,List.getElem_cons_succ,Act.put,List.setIfInBounds_toArray,List.set_cons_zero,List.set_cons_succ]
       refine wpAnyH_take (i:=2) (v:=?_) rfl (by kernel_rfl) (by kernel_rfl) (by kernel_rfl) (fun _ _ _ h=>h) (Or.inl ⟨by rfl,?_⟩) hF ?_
       rotate_left
       ·intro wS hSw;(try dsimp only at hSw);obtain ⟨s1,s2⟩:=hSw;first | (apply Eq.trans;apply ex_ld_id;exact rfl;exact rfl;assumption;with_reducible rfl) | (go_simp;try with_reducible rfl)
       try simp only [List.getElem_toArray,List.getElem_cons_zero,List.getElem_cons_succ,Act.put,List.setIfInBounds_toArray,List.set_cons_zero,List.set_cons_succ]
       refine wpAnyH_take (i:=3) (v:=?_) rfl (by kernel_rfl) (by kernel_rfl) (by kernel_rfl) (fun _ _ _ h=>h) (Or.inl ⟨by rfl,?_⟩) hF ?_
       rotate_left
       ·intro wS hSw;(try dsimp only at hSw);obtain ⟨s1,s2⟩:=hSw;first | (apply Eq.trans;apply ex_ld_id;exact rfl;exact rfl;assumption;with_reducible rfl) | (go_simp;try with_reducible rfl)
       try simp only [List.getElem_toArray,List.getElem_cons_zero,List.getElem_cons_succ,Act.put,List.setIfInBounds_toArray,List.set_cons_zero,List.set_cons_succ]
       refine wpAnyH_take (i:=4) (v:=?_) rfl (by kernel_rfl) (by kernel_rfl) (by kernel_rfl) (fun _ _ _ h=>h) (Or.inl ⟨by rfl,?_⟩) hF ?_
       rotate_left
       ·intro wS hSw;(try dsimp only at hSw);obtain ⟨s1,s2⟩:=hSw;first | (apply Eq.trans;apply ex_ld_id;exact rfl;exact rfl;assumption;with_reducible rfl) | (go_simp;try with_reducible rfl)
       try simp only [List.getElem_toArray,List.getElem_cons_zero,List.getElem_cons_succ,Act.put,List.setIfInBounds_toArray,List.set_cons_zero,List.set_cons_succ]
       refine wpAnyH_take (i:=5) (v:=?_) rfl (by kernel_rfl) (by kernel_rfl) (by kernel_rfl) (fun _ _ _ h=>h) (Or.inl ⟨by rfl,?_⟩) hF ?_
       rotate_left
       ·intro wS hSw;(try dsimp only at hSw);obtain ⟨s1,s2⟩:=hSw;first | (apply Eq.trans;apply ex_ld_id;exact rfl;exact rfl;assumption;with_reducible rfl) | (go_simp;try with_reducible rfl)
       try simp only [List.getElem_toArray,List.getElem_cons_zero,List.getElem_cons_succ,Act.put,List.setIfInBounds_toArray,List.set_cons_zero,List.set_cons_succ]
       refine wpAnyH_take (i:=6) (v:=?_) rfl (by kernel_rfl) (by kernel_rfl) (by kernel_rfl) (fun _ _ _ h=>h) (Or.inl ⟨by rfl,?_⟩) hF ?_
       rotate_left
       ·intro wS hSw;(try dsimp only at hSw);obtain ⟨s1,s2⟩:=hSw;first | (apply Eq.trans;apply ex_ld_id;exact rfl;exact rfl;assumption;with_reducible rfl) | (go_simp;try with_reducible rfl)
       try simp only [List.getElem_toArray,List.getElem_cons_zero,List.getElem_cons_succ,Act.put,List.setIfInBounds_toArray,List.set_cons_zero,List.set_cons_succ]
       refine wpAnyH_take (i:=7) (v:=?_) rfl (by kernel_rfl) (by kernel_rfl) (by kernel_rfl) (fun _ _ _ h=>h) (Or.inl ⟨by rfl,?_⟩) hF ?_
       rotate_left
       ·intro wS hSw;(try dsimp only at hSw);obtain ⟨s1,s2⟩:=hSw;first | (apply Eq.trans;apply ex_ld_id;exact rfl;exact rfl;assumption;with_reducible rfl) | (go_simp;try with_reducible rfl)
       try simp only [List.getElem_toArray,List.getElem_cons_zero,List.getElem_cons_succ,Act.put,List.setIfInBounds_toArray,List.set_cons_zero,List.set_cons_succ]
       refine wpAnyH_take (i:=8) (v:=?_) rfl (by kernel_rfl) (by kernel_rfl) (by kernel_rfl) (fun _ _ _ h=>h) (Or.inl ⟨by rfl,?_⟩) hF ?_
       rotate_left
       ·intro wS hSw;(try dsimp only at hSw);obtain ⟨s1,s2⟩:=hSw;first | (apply Eq.trans;apply ex_ld_id;exact rfl;exact rfl;assumption;with_reducible rfl) | (go_simp;try with_reducible rfl)
       try simp only [List.getElem_toArray,List.getElem_cons_zero,List.getElem_cons_succ,Act.put,List.setIfInBounds_toArray,List.set_cons_zero,List.set_cons_succ]
       refine wpAnyH_take (i:=9) (v:=?_) rfl (by kernel_rfl) (by kernel_rfl) (by kernel_rfl) (fun _ _ _ h=>h) (Or.inl ⟨by rfl,?_⟩) hF ?_
       rotate_left
       ·intro wS hSw;(try dsimp only at hSw);obtain ⟨s1,s2⟩:=hSw;first | (apply Eq.trans;apply ex_ld_id;exact rfl;exact rfl;assumption;with_reducible rfl) | (go_simp;try with_reducible rfl)
       try simp only [List.getElem_toArray,List.getElem_cons_zero,List.getElem_cons_succ,Act.put,List.setIfInBounds_toArray,List.set_cons_zero,List.set_cons_succ]
       refine wpAnyH_take (i:=10) (v:=?_) rfl (by kernel_rfl) (by kernel_rfl) (by kernel_rfl) (fun _ _ _ h=>h) (Or.inl ⟨by rfl,?_⟩) hF ?_
       rotate_left
       ·intro wS hSw;(try dsimp only at hSw);obtain ⟨s1,s2⟩:=hSw;first | (apply Eq.trans;apply ex_ld_id;exact rfl;exact rfl;assumption;with_reducible rfl) | (go_simp;try with_reducible rfl)
       try simp only [List.getElem_toArray,List.getElem_cons_zero,List.getElem_cons_succ,Act.put,List.setIfInBounds_toArray,List.set_cons_zero,List.set_cons_succ]
       refine wpAnyH_take (i:=11) (v:=?_) rfl (by kernel_rfl) (by kernel_rfl) (by kernel_rfl) (fun _ _ _ h=>h) (Or.inl ⟨by rfl,?_⟩) hF ?_
       rotate_left
       ·intro wS hSw;(try dsimp only at hSw);obtain ⟨s1,s2⟩:=hSw;first | (apply Eq.trans;apply ex_ld_id;exact rfl;exact rfl;assumption;with_reducible rfl) | (go_simp;try with_reducible rfl)
       try simp only [List.getElem_toArray,List.getElem_cons_zero,List.getElem_cons_succ,Act.put,List.setIfInBounds_toArray,List.set_cons_zero,List.set_cons_succ]
       refine wpAnyH_done (by kernel_rfl) ?_ _
       clear hF ha hb' d1 d2 d3
       have hB1:=HB.out.new (Fr.refl noB W).drew
       generalize W.drew = V at hB1 ⊢
       have hkt:=HK.out
       have oA:=HR.out.ia
       rw [← hkt] at oA
       obtain ⟨gA,oA',rfl⟩:=(Sl.own oA).adG (by rw [rowG_len];omega)
       have gm:=(Sl.own oA).id (min a b) (by rw [rowG_len];omega)
       have gx:=(Sl.own oA).id (max a b) (by rw [rowG_len];omega)
       rw [rowG_get] at gm gx
       obtain ⟨gT,oT,rfl⟩:∃ g o,B = some ⟨g,o,none⟩:=by
        obtain ⟨g,o,e,_⟩:=Sl.addr (Sl.own HR.out.tm) (by omega)
        exact ⟨g,o,e⟩
       have ca:=Sl.cell1 rfl (Sl.own HR.out.tm) a (by omega) rfl
       have cb:=Sl.cell1 rfl (Sl.own HR.out.tm) b (by omega) rfl
       have hta:=HR.out.g.tm _ (List.getElem_mem (show a < ts.length by omega))
       have htb:=HR.out.g.tm _ (List.getElem_mem (show b < ts.length by omega))
       have la2:a < ts.length:=by omega
       have lb2:b < ts.length:=by omega
       obtain ⟨ta,eta⟩:∃ ta,ta = ts[a]'la2:=⟨_,rfl⟩
       obtain ⟨tb,etb⟩:∃ tb,tb = ts[b]'lb2:=⟨_,rfl⟩
       rw [← eta] at ca hta
       rw [← etb] at cb htb
       rw [← hkt] at hta htb
       have HT:=Lib.hid (And.intro eta etb)
       have m3:min (a:Int) (b:Int) = ((min a b:Nat):Int):=by omega
       have m4:max (a:Int) (b:Int) = ((max a b:Nat):Int):=by omega
       have z1:(0:Int) ≤ ((min a b:Nat):Int):=by omega
       have z2:((min a b:Nat):Int) < (k:Int):=by omega
       have z3:(0:Int) ≤ ((max a b:Nat):Int):=by omega
       have z4:((max a b:Nat):Int) < (k:Int):=by omega
       have HM:=Lib.hid (And.intro gm gx)
       have HC:=Lib.hid (And.intro ca cb)
       have HW0:=Lib.hid (And.intro hta htb)
       clear eta etb hkt oA gm gx ca cb hta htb
       go_upto_region 12 with fail
       have hB2:=hB1.new (Fr.refl noB V).drew
       have rd:∀ (w':World) (cw:CgW),GB wr W w' P x k cw → rdI w' gA (oA' + min a b * 32) = some (idG (min a b)) ∧ rdI w' gA (oA' + max a b * 32) = some (idG (max a b)):=fun w' cw h=>⟨rdI_fr HM.out.1 (rdI_lt HM.out.1) h.fr (by simp [noB]),rdI_fr HM.out.2 (rdI_lt HM.out.2) h.fr (by simp [noB])⟩
       have RD:=Lib.hid rd
       clear rd hB1
       have hF0:V.drew.cell? ⟨P + 2,0,none⟩ = some (.slice none 0 0) ∧ rdI V.drew gA (oA' + min a b * 32) = some (idG (min a b)):=⟨(cgAt (Cod.bxd_rd hB2.c)).parents,(RD.out _ _ hB2).1⟩
       refine wp_region_M 11 12 [⟨36028797018963968,1024,0⟩,⟨72057594037927936,36028797018963968,1⟩,⟨144115188075855872,32,0⟩,⟨288230376151711744,2048,0⟩,⟨576460752303423488,4096,0⟩,⟨1152921504606846976,864691128455135232,24⟩,⟨2305843009213693952,1297036692682702848,36⟩,⟨4611686018427387904,2305843009213693952,64⟩,⟨9223372036854775808,4611686018427387904,128⟩,⟨18446744073709551616,9295429630892703744,258⟩,⟨36893488147419103232,1024,1023⟩,⟨0,55340232221128654848,2047⟩] [(true,0),(true,1),(true,2),(true,3),(true,4),(true,5),(true,6),(true,7),(false,8),(false,9),(true,10)] (fun w'=>w'.cell? ⟨P + 2,0,none⟩ = some (.slice none 0 0) ∧ rdI w' gA (oA' + min a b * 32) = some (idG (min a b))) (by kernel_rfl) rfl (by kernel_rfl) (by kernel_rfl) (by kernel_rfl) hF0 (fun hA hF=>?_)
       clear hF0
       iterate 8
        refine wpAnyS_take (v:=?_) hA rfl (fun _ _ _ h=>h) (Or.inl ⟨by rfl,?_⟩) hF (fun hA=>?_)
        rotate_left
        ·intro wS hSw;(try dsimp only at hSw);obtain ⟨s1,s2⟩:=hSw;first | (apply Eq.trans;apply ex_ld_id;exact rfl;exact rfl;assumption;with_reducible rfl) | (go_simp;try with_reducible rfl)
        try simp only [List.getElem_toArray,List.getElem_cons_zero,List.getElem_cons_succ,Act.put,List.setIfInBounds_toArray,List.set_cons_zero,List.set_cons_succ]
       refine wpAnyS_one hA rfl (fun K' hK=>?_)
       refine step_runI rfl _ _ (ex_bsI_at (x:=idG (min a b)) rfl rfl) ?_
       have fn:Fr noB V.drew (V.drew.alloc (rowo [idG (min a b)])):=(Fr.refl noB _).alloc _
       have sl:Sl (V.drew.alloc (rowo [idG (min a b)])) (some ⟨V.drew.heap.size,0,none⟩) (codI.row [idG (min a b)]):=sl_new V.drew [idG (min a b)]
       have hB3:=hB2.new fn
       replace hF:=(And.intro (cgAt (Cod.bxd_rd hB3.c)).parents (RD.out _ _ hB3).1)
       refine hK.out _ _ hF (fun hA=>?_)
       clear hK K'
       refine wpAnyS_one hA rfl (fun K' hK=>?_)
       refine step_appC' etI W _ rfl _ _ rfl none 0 0 [] rfl rfl (own0 W _) (some ⟨V.drew.heap.size,0,none⟩) 1 1 [idG (min a b)] rfl sl rfl (by simp) hB3.ge ?_
       intro A5 c5 w5 hc5 hm5 ho5 hg5 hA5
       have hB4:=hB3.grow0 hg5
       simp only [List.nil_append] at ho5
       clear hB2 hB3 hg5 hA5 fn sl
       replace hF:=(And.intro (cgAt (Cod.bxd_rd hB4.c)).parents (RD.out _ _ hB4).1)
       refine hK.out _ _ hF (fun hA=>?_)
       clear hK K'
       refine wpAnyS_take (v:=?_) hA rfl (fun _ _ _ h=>h) (Or.inl ⟨by rfl,?_⟩) hF (fun hA=>?_)
       rotate_left
       ·intro wS hSw;(try dsimp only at hSw);obtain ⟨s1,s2⟩:=hSw;first | (apply Eq.trans;apply ex_ld_id;exact rfl;exact rfl;assumption;with_reducible rfl) | (go_simp;try with_reducible rfl)
       try simp only [List.getElem_toArray,List.getElem_cons_zero,List.getElem_cons_succ,Act.put,List.setIfInBounds_toArray,List.set_cons_zero,List.set_cons_succ]
       refine wpAnyS_end hA rfl ?_
       simp only [List.drop_succ_cons,List.drop_zero]
       have k4:=(Cod.bxd_blk hB4.c).frozen 0
       go_upto_region 13 with fail
       have hB5:=hB4.set 0 (.slice A5 1 c5) (cwG A5 1 c5 1 k none 0 0) (seC_Parents _ A5 _ c5)
       have ho6:=hB4.own ho5 0 (.slice A5 1 c5)
       clear hB4 ho5 k4 hF
       generalize World.setCell _ _ _ = w6 at hB5 ho6 ⊢
       have fd:=(Fr.refl noB w6).drew
       have hB6:=hB5.new fd
       have ho7:=own_new0 ho6 fd
       have hw1:wrap64 (max ta tb + 1) = max ta tb + 1:=by
        have:=HW0.out
        unfold wrap64
        omega
       have hF0:w6.drew.cell? ⟨gT,oT + a,none⟩ = some (.int .i64 ta) ∧ w6.drew.cell? ⟨gT,oT + b,none⟩ = some (.int .i64 tb):=⟨cell_fr0 HC.out.1 hB6.fr,cell_fr0 HC.out.2 hB6.fr⟩
       clear hB5 ho6 fd
       have y1:(0:Int) ≤ (a:Int):=by omega
       have y2:(a:Int) < (k:Int):=by omega
       have y3:(0:Int) ≤ (b:Int):=by omega
       have y4:(b:Int) < (k:Int):=by omega
       refine wp_region_M 11 12 [⟨73786976294838206464,64,0⟩,⟨147573952589676412928,2048,0⟩,⟨295147905179352825856,221360928884514619392,3⟩,⟨590295810358705651712,295147905179352825856,4⟩,⟨1180591620717411303424,64,0⟩,⟨2361183241434822606848,4096,0⟩,⟨4722366482869645213696,3541774862152233910272,48⟩,⟨9444732965739290427392,4722366482869645213696,64⟩,⟨18889465931478580854784,10035028776097996079104,136⟩,⟨37778931862957161709568,18889465931478580854784,256⟩,⟨75557863725914323419136,1024,1023⟩,⟨0,113336795588871485128704,2047⟩] [(true,0),(true,1),(true,2),(true,3),(true,4),(true,5),(true,6),(true,7),(true,8),(true,9),(true,10)] (fun w'=>w'.cell? ⟨gT,oT + a,none⟩ = some (.int .i64 ta) ∧ w'.cell? ⟨gT,oT + b,none⟩ = some (.int .i64 tb)) (by kernel_rfl) rfl (by kernel_rfl) (by kernel_rfl) (by kernel_rfl) hF0 (fun hA hF=>?_)
       clear hF0
       obtain ⟨w7,hw7⟩:∃ w7,w7 = w6.drew:=⟨_,rfl⟩
       rw [← hw7] at hB6 ho7 hF ⊢
       clear hw7
       iterate 11
        refine wpAnyS_take (v:=?_) hA rfl (fun _ _ _ h=>h) (Or.inl ⟨by rfl,?_⟩) hF (fun hA=>?_)
        rotate_left
        ·intro wS hSw;(try dsimp only at hSw);obtain ⟨s1,s2⟩:=hSw;first | (apply Eq.trans;apply ex_ld_id;exact rfl;exact rfl;assumption;with_reducible rfl) | (go_simp;try with_reducible rfl)
        try simp only [List.getElem_toArray,List.getElem_cons_zero,List.getElem_cons_succ,Act.put,List.setIfInBounds_toArray,List.set_cons_zero,List.set_cons_succ]
       refine wpAnyS_end hA rfl ?_
       simp only [List.drop_succ_cons,List.drop_zero]
       have k4:=(Cod.bxd_blk hB6.c).frozen 1
       have k5:=(cgAt (Cod.bxd_rd hB6.c)).time
       go_upto_region 14 with fail
       clear hF
       have hB7:=hB6.set 1 (.int .i64 (wrap64 (max ta tb + 1))) (cwG A5 1 c5 (wrap64 (max ta tb + 1)) k none 0 0) (seC_Time _ _)
       have ho8:=hB6.own ho7 1 (.int .i64 (wrap64 (max ta tb + 1)))
       clear hB6 ho7 k4 k5
       generalize World.setCell _ _ _ = w8 at hB7 ho8 ⊢
       rw [hw1] at hB7
       clear hw1
       have par1:∀ j:Nat,(j = a ∨ j = b) → ∃ (i:Nat) (hi:i < ts.length),idG j = idG i ∧ ts[i] < max ta tb + 1:=fun j hj=>by
        rcases hj with rfl | rfl
        ·exact ⟨j,la2,rfl,by rw [← HT.out.1];omega⟩
        ·exact ⟨j,lb2,rfl,by rw [← HT.out.2];omega⟩
       have PAR:=Lib.hid par1
       have TM:=Lib.hid (show 1 ≤ max ta tb + 1 ∧ max ta tb + 1 ≤ 4 * (ts.length:Int) + 1 by have:=HW0.out;have:=HK.out;omega)
       have HB7:=Lib.hid hB7
       have HO8:=Lib.hid ho8
       clear par1 hB7 ho8
       by_cases hab:a = b
       ·have e2:((a:Int) == (b:Int)) = true:=by simp [hab]
        have e3:((a:Int) != (b:Int)) = false:=by simp [hab]
        have HAB:=Lib.hid hab
        clear hab
        go_wp2_with fail
        go_meet
        case rel =>
         have hm:min a b = a:=by have:=HAB.out;omega
         exact ⟨[idG (min a b)],max ta tb + 1,A5,c5,HB7.out,HO8.out,.inr (.inl ⟨min a b,by omega,rfl⟩),fun p hp=>by rw [List.mem_singleton] at hp;subst hp;exact PAR.out _ (by omega),TM.out.1,TM.out.2⟩
       ·have e2:((a:Int) == (b:Int)) = false:=by rw [beq_eq_false_iff_ne];omega
        have e3:((a:Int) != (b:Int)) = true:=by simp [bne,e2]
        have HAB:=Lib.hid hab
        clear hab
        go_upto_region 15 with fail
        have fd:=(Fr.refl noB w8).drew
        have hB2:=HB7.out.new fd
        have ho2:=own_new0 HO8.out fd
        have hF0:w8.drew.cell? ⟨P + 2,0,none⟩ = some (.slice A5 1 c5) ∧ rdI w8.drew gA (oA' + max a b * 32) = some (idG (max a b)):=⟨(cgAt (Cod.bxd_rd hB2.c)).parents,(RD.out _ _ hB2).2⟩
        refine wp_region_M 11 12 [⟨1208925819614629174706176,1024,0⟩,⟨2417851639229258349412352,1208925819614629174706176,1⟩,⟨4835703278458516698824704,32,0⟩,⟨9671406556917033397649408,2048,0⟩,⟨19342813113834066795298816,4096,0⟩,⟨38685626227668133590597632,29014219670751100192948224,24⟩,⟨77371252455336267181195264,43521329506126650289422336,36⟩,⟨154742504910672534362390528,77371252455336267181195264,64⟩,⟨309485009821345068724781056,154742504910672534362390528,128⟩,⟨618970019642690137449562112,311902861460574327074193408,258⟩,⟨1237940039285380274899124224,1024,1023⟩,⟨0,1856910058928070412348686336,2047⟩] [(true,0),(true,1),(true,2),(true,3),(true,4),(true,5),(true,6),(true,7),(false,8),(false,9),(true,10)] (fun w'=>w'.cell? ⟨P + 2,0,none⟩ = some (.slice A5 1 c5) ∧ rdI w' gA (oA' + max a b * 32) = some (idG (max a b))) (by kernel_rfl) rfl (by kernel_rfl) (by kernel_rfl) (by kernel_rfl) hF0 (fun hA hF=>?_)
        clear hF0 fd
        iterate 8
         refine wpAnyS_take (v:=?_) hA rfl (fun _ _ _ h=>h) (Or.inl ⟨by rfl,?_⟩) hF (fun hA=>?_)
         rotate_left
         ·intro wS hSw;(try dsimp only at hSw);obtain ⟨s1,s2⟩:=hSw;first | (apply Eq.trans;apply ex_ld_id;exact rfl;exact rfl;assumption;with_reducible rfl) | (go_simp;try with_reducible rfl)
         try simp only [List.getElem_toArray,List.getElem_cons_zero,List.getElem_cons_succ,Act.put,List.setIfInBounds_toArray,List.set_cons_zero,List.set_cons_succ]
        refine wpAnyS_one hA rfl (fun K' hK=>?_)
        refine step_runI rfl _ _ (ex_bsI_at (x:=idG (max a b)) rfl rfl) ?_
        have fn:Fr noB w8.drew (w8.drew.alloc (rowo [idG (max a b)])):=(Fr.refl noB _).alloc _
        have sl:Sl (w8.drew.alloc (rowo [idG (max a b)])) (some ⟨w8.drew.heap.size,0,none⟩) (codI.row [idG (max a b)]):=sl_new w8.drew [idG (max a b)]
        have hB3:=hB2.new fn
        have ho3:=own_new0 ho2 fn
        replace hF:=(And.intro (cgAt (Cod.bxd_rd hB3.c)).parents (RD.out _ _ hB3).2)
        refine hK.out _ _ hF (fun hA=>?_)
        clear hK K'
        refine wpAnyS_one hA rfl (fun K' hK=>?_)
        refine step_appC' etI W _ rfl _ _ rfl A5 1 c5 [idG (min a b)] rfl rfl ho3 (some ⟨w8.drew.heap.size,0,none⟩) 1 1 [idG (max a b)] rfl sl rfl (by simp) hB3.ge ?_
        intro A9 c9 w9 hc9 hm9 ho9 hg9 hA9
        have hB4:=hB3.grow ho3 hg9
        simp only [List.cons_append,List.nil_append] at ho9
        clear hB2 hB3 hg9 hA9 fn sl ho2 ho3
        replace hF:=(And.intro (cgAt (Cod.bxd_rd hB4.c)).parents (RD.out _ _ hB4).2)
        refine hK.out _ _ hF (fun hA=>?_)
        clear hK K'
        refine wpAnyS_take (v:=?_) hA rfl (fun _ _ _ h=>h) (Or.inl ⟨by rfl,?_⟩) hF (fun hA=>?_)
        rotate_left
        ·intro wS hSw;(try dsimp only at hSw);obtain ⟨s1,s2⟩:=hSw;first | (apply Eq.trans;apply ex_ld_id;exact rfl;exact rfl;assumption;with_reducible rfl) | (go_simp;try with_reducible rfl)
        try simp only [List.getElem_toArray,List.getElem_cons_zero,List.getElem_cons_succ,Act.put,List.setIfInBounds_toArray,List.set_cons_zero,List.set_cons_succ]
        refine wpAnyS_end hA rfl ?_
        simp only [List.drop_succ_cons,List.drop_zero]
        have k4:=(Cod.bxd_blk hB4.c).frozen 0
        go_wp2_with fail
        go_meet
        case rel =>
         have hB9:=hB4.set 0 (.slice A9 2 c9) (cwG A9 2 c9 (max ta tb + 1) k none 0 0) (seC_Parents _ A9 _ c9)
         have ho10:=hB4.own ho9 0 (.slice A9 2 c9)
         have hm:=HAB.out
         refine ⟨[idG (min a b),idG (max a b)],max ta tb + 1,A9,c9,hB9,ho10,.inr (.inr ⟨min a b,max a b,by omega,by omega,rfl⟩),fun p hp=>?_,TM.out.1,TM.out.2⟩
         simp only [List.mem_cons,List.not_mem_nil,or_false] at hp
         rcases hp with rfl | rfl
         ·exact PAR.out _ (by omega)
         ·exact PAR.out _ (by omega)
      case false =>
       go_wp2_with fail
       go_meet
       case rel=>exact ⟨[],1,none,0,HB.out,World.ownsRow_nil _ _ _ _,.inl rfl,by simp,by omega,by omega⟩
     case rest =>
      obtain ⟨ps,t,PA,pc,hB,ho,hp⟩:=hcut
      clear HB HB0 d1 d2 d3
      have hPs:=Lib.hid hp
      have tb:=And.intro hp.lo hp.hi
      have hkt:=HK.out
      have htb:1 ≤ t ∧ t ≤ 4 * (k:Int) + 1:=by rw [hkt];exact tb
      clear tb hp
      obtain ⟨r3,er3,hr3⟩:=and_maskM x.c 3 (by omega)
      have e3:bits BinOp.and IntKind.i64 x.c 3 = (r3:Int):=er3
      have hw1:wrap64 (t + (r3:Int)) = t + r3:=by
       unfold wrap64
       omega
      have htb2:1 ≤ t + (r3:Int) ∧ t + (r3:Int) ≤ 4 * ((k:Int) + 1):=by omega
      have d3:=hB.tri.2.2
      have k3:wc.cell? ⟨P + 2,1,none⟩ = some (.int .i64 t):=(cgAt (Cod.bxd_rd hB.c)).time
      have k4:=(Cod.bxd_blk hB.c).frozen 1
      clear er3 hkt htb
      have HTB:=Lib.hid htb2
      clear htb2 hr3
      go_upto_region 17 with fail
      have hB1:=hB.set 1 (.int .i64 (t + (r3:Int))) (cwG PA ps.length pc (t + (r3:Int)) k none 0 0) (seC_Time _ _)
      have ho1:=hB.own ho 1 (.int .i64 (t + (r3:Int)))
      clear d3 k3 k4 hB ho e3 hw1
      generalize World.setCell _ _ _ = w16 at hB1 ho1 ⊢
      have hPs2:=Lib.hid (show PsG ts (t + (r3:Int)) ps 4 from ⟨hPs.out.par,fun p hp=>by
       obtain ⟨j,hj,e,h⟩:=hPs.out.at_ p hp
       exact ⟨j,hj,e,by omega⟩,HTB.out.1,by have:=HTB.out.2;have:=HK.out;omega⟩)
      clear hPs
      generalize t + (r3:Int) = t' at hB1 ho1 HTB hPs2 ⊢
      have k3:w16.cell? ⟨P + 2,0,none⟩ = some (.slice PA ps.length pc):=(cgAt (Cod.bxd_rd hB1.c)).parents
      go_upto_if 101 with fail
      go_cut [13,14,15,16,17] from 24 to 165 (fun va vb vc vd ve wx=>∃ cw rs ops,GB wr W wx P x k cw ∧ cw.Time = t' ∧ rightCh (chG ps t' k ops) = true ∧ CgQ (fun g=>¬ S g) wx cw rs (chG ps t' k ops) ∧ (∀ o ∈ ops,o.Name = [110]))
      case first =>
       have hPA:ps ≠ [] → InQ (fun g=>¬ S g) PA:=fun _ g hg hS=>by
        have h1:=(own_lt ho1 g hg).1
        have h2:=HR.out.hs.lt hS
        have h3:=hB1.hW
        have h4:=hB1.hP
        omega
       have HPA:=Lib.hid hPA
       have hHB:=Lib.hid hB1
       have hHO:=Lib.hid ho1
       by_cases hp2:(ps.length:Int) < 2
       ·clear hPA
        have k1:w16.cell? ⟨P + 2,1,none⟩ = some (.int .i64 t'):=(cgAt (Cod.bxd_rd hB1.c)).time
        have k2:w16.cell? ⟨P + 2,2,none⟩ = some (.int .i64 (1 + (k:Int))):=(cgAt (Cod.bxd_rd hB1.c)).R
        go_upto_region 19 with fail
        have fs:Fr noB w16 (w16.alloc (codS.o ⟨t',1 + (k:Int)⟩)):=(Fr.refl noB w16).alloc _
        have qs:=Cod.rd_new' (C:=codS) w16 ⟨t',1 + (k:Int)⟩
        have hB2:=hB1.new fs
        have ho2:=own_new0 ho1 fs
        have q13:P + 3 ≤ w16.heap.size:=hB1.lt
        clear k1 k2 k3 hB1 ho1
        generalize w16.alloc (codS.o ⟨t',1 + (k:Int)⟩) = w18 at fs qs hB2 ho2 ⊢
        generalize w16.heap.size = q at q13 qs ⊢
        have hmv:(⟨1,⟨t',1 + (k:Int)⟩,⟨t',1 + (k:Int)⟩,zOpW.Parent,[110],zOpW.Data,zOpW.A,zOpW.n,zOpW.c⟩:OpW) = opWG t' k ⟨t',1 + (k:Int)⟩ zSt:=rfl
        go_upto_if 111 with fail
        have fo:Fr noB w18 (w18.alloc (codO.o (opWG t' k ⟨t',1 + (k:Int)⟩ zSt))):=(Fr.refl noB w18).alloc _
        have bO:=Cod.bxd_new (C:=codO) w18 (opWG t' k ⟨t',1 + (k:Int)⟩ zSt)
        have hB3:=hB2.new fo
        have ho3:=own_new0 ho2 fo
        have qs3:=Cod.rd_fr0 qs fo
        have q14:P + 3 ≤ w18.heap.size:=hB2.lt
        clear hmv fs qs hB2 ho2 fo
        generalize w18.alloc (codO.o (opWG t' k ⟨t',1 + (k:Int)⟩ zSt)) = w19 at bO hB3 ho3 qs3 ⊢
        generalize w18.heap.size = r at bO q14 ⊢
        have AT:rightS ⟨t',1 + (k:Int)⟩ = true:=rightS_G ⟨HTB.out.1,by have:=HTB.out.2;omega⟩ (by omega)
        have HAT:=Lib.hid AT
        clear AT
        go_cut [15,16,17] from 24 to 165 (fun va vb vc wx=>∃ nd pr,GB wr W wx P x k (cwG PA ps.length pc t' k none 0 0) ∧ OwnC codI W wx PA pc ps ∧ codO.bxd wx r = some (opWG t' k nd pr) ∧ goodOp (opG t' k nd pr) = true)
        case first =>
         have GOOD:=Lib.hid (show ∀ nd pr,rightS nd = true → cmpS nd ⟨t',1 + (k:Int)⟩ ≤ 0 → (rightS pr = true ∨ pr = zSt) → goodOp (opG t' k nd pr) = true from fun nd pr h1 h2 h3=>opG_good (by omega) ⟨HTB.out.1,by have:=HTB.out.2;omega⟩ h1 (by rw [Int.add_comm];exact h2) h3)
         have HB3:=Lib.hid hB3
         have HO3:=Lib.hid ho3
         have HBO:=Lib.hid bO
         by_cases hk0:(0:Int) < (k:Int)
         ·obtain ⟨ra,era,hra⟩:=and_maskM x.c 1023 (by omega)
          obtain ⟨rb,erb,hrb⟩:=and_maskM x.b 1023 (by omega)
          have hk0':0 < k:=by omega
          have la:ra % k < k:=Nat.mod_lt _ hk0'
          have lb:rb % k < k:=Nat.mod_lt _ hk0'
          have hkz:¬ (k = 0):=by omega
          have ha:(bits BinOp.and IntKind.i64 x.c 1023).tmod (k:Int) = ((ra % k:Nat):Int):=by rw [show bits BinOp.and IntKind.i64 x.c 1023 = (ra:Int) from era];rfl
          have hb':(bits BinOp.and IntKind.i64 x.b 1023).tmod (k:Int) = ((rb % k:Nat):Int):=by rw [show bits BinOp.and IntKind.i64 x.b 1023 = (rb:Int) from erb];rfl
          generalize ra % k = a at la ha
          generalize rb % k = b at lb hb'
          clear era erb hra hrb bO ho3
          obtain ⟨gT,oT,rfl⟩:∃ g o,B = some ⟨g,o,none⟩:=by
           obtain ⟨g,o,e,_⟩:=Sl.addr (Sl.own HR.out.tm) (by have:=HK.out;omega)
           exact ⟨g,o,e⟩
          have la2:a < ts.length:=by have:=HK.out;omega
          have lb2:b < ts.length:=by have:=HK.out;omega
          have ca:=cell_fr0 (Sl.cell1 rfl (Sl.own HR.out.tm) a la2 rfl) hB3.fr
          have cb:=cell_fr0 (Sl.cell1 rfl (Sl.own HR.out.tm) b lb2 rfl) hB3.fr
          have hta:=HR.out.g.tm _ (List.getElem_mem la2)
          have htb:=HR.out.g.tm _ (List.getElem_mem lb2)
          rw [← HK.out] at hta htb
          generalize ts[a] = ta at ca hta
          obtain ⟨tb,etb⟩:∃ tb,tb = ts[b]:=⟨_,rfl⟩
          rw [← etb] at cb htb
          have HTS:=Lib.hid etb.symm
          clear etb
          have HTA:=Lib.hid (show rightS ⟨ta,1 + (a:Int)⟩ = true from rightS_G ⟨hta.1,by omega⟩ (by omega))
          have HTB':=Lib.hid (show rightS ⟨tb,1 + (b:Int)⟩ = true from rightS_G ⟨htb.1,by omega⟩ (by omega))
          have y1:(0:Int) ≤ (a:Int):=by omega
          have y2:(a:Int) < (k:Int):=by omega
          have y3:(0:Int) ≤ (b:Int):=by omega
          have y4:(b:Int) < (k:Int):=by omega
          obtain ⟨_,d2,d3⟩:=hB3.tri
          clear hB3 hta htb
          have HCB:=Lib.hid cb
          clear cb
          go_upto_region 23 with fail
          have fs:Fr noB w19 (w19.alloc (codS.o ⟨ta,1 + (a:Int)⟩)):=(Fr.refl noB w19).alloc _
          have qx:=Cod.rd_new' (C:=codS) w19 ⟨ta,1 + (a:Int)⟩
          have q16:P + 3 ≤ w19.heap.size:=HB3.out.lt
          have d3':=cell_fr0 d3 fs
          have qs4:=Cod.rd_fr0 qs3 fs
          clear ca d2 d3 ha qs3
          generalize w19.alloc (codS.o ⟨ta,1 + (a:Int)⟩) = w22 at fs qx d3' qs4 ⊢
          generalize w19.heap.size = q2 at qx q16 ⊢
          go_cut [133] from 24 to 165 (fun v wx=>∃ bb:Bool,v = .bool bb ∧ (bb = true → cmpS ⟨ta,1 + (a:Int)⟩ ⟨t',1 + (k:Int)⟩ = -1) ∧ Fr noB w22 wx)
          case first =>
           by_cases hc:cmpS ⟨ta,1 + (a:Int)⟩ ⟨t',1 + (k:Int)⟩ = -1
           ·have C1:∀ w,Calls Tryz.prog 29 #[.agg (codS.A ⟨ta,1 + (a:Int)⟩),.agg (codS.A ⟨t',1 + (k:Int)⟩)] w (Gives w (.int .i64 (-1))):=fun w=>Gives.val (r3cmp_any w _ _) (by rw [hc])
            have HC1:=Lib.hid C1
            have HCC:=Lib.hid hc
            clear C1 hc
            by_cases h8:bits BinOp.and IntKind.i64 x.c 8 = 8
            ·have e8:(bits BinOp.and IntKind.i64 x.c 8 == 8) = true:=by simp [h8]
             go_wp2_with (go_at_call 29;refine (HC1.out _).mono ?_;rintro e wq ⟨rfl,fq⟩;have d3q:=cell_fr0 d3' fq;have FQ:=Lib.hid fq;clear fq)
             go_meet
             case rel=>exact ⟨true,rfl,fun _=>HCC.out,FQ.out⟩
            ·have e8:(bits BinOp.and IntKind.i64 x.c 8 == 8) = false:=by simp [h8]
             go_wp2_with (go_at_call 29;refine (HC1.out _).mono ?_;rintro e wq ⟨rfl,fq⟩;have d3q:=cell_fr0 d3' fq;have FQ:=Lib.hid fq;clear fq)
             go_meet
             case rel=>exact ⟨false,rfl,fun h=>absurd h (by decide),FQ.out⟩
           ·have e8:(cmpS ⟨ta,1 + (a:Int)⟩ ⟨t',1 + (k:Int)⟩ == -1) = false:=by simp [hc]
            go_wp2_with (go_at_call 29;refine (r3cmp_any _ _ _).mono ?_;rintro e wq ⟨rfl,fq⟩;have FQ:=Lib.hid fq;clear fq)
            go_meet
            case rel=>exact ⟨false,rfl,fun h=>absurd h (by decide),FQ.out⟩
          case rest =>
           obtain ⟨bb,rfl,hbb,fq⟩:=hcut
           have hB4:=(HB3.out.new fs).new fq
           have ho4:=own_new0 (own_new0 HO3.out fs) fq
           have bO4:=Cod.bxd_fr0 (Cod.bxd_fr0 HBO.out fs) fq
           have qx4:=Cod.rd_fr0 qx fq
           have HBB:=Lib.hid hbb
           clear hbb fs fq qx d3' qs4
           go_upto_if 133 with fail
           go_cut [] from 24 to 165 (fun wx=>∃ nd,GB wr W wx P x k (cwG PA ps.length pc t' k none 0 0) ∧ OwnC codI W wx PA pc ps ∧ codO.bxd wx r = some (opWG t' k nd zSt) ∧ rightS nd = true ∧ cmpS nd ⟨t',1 + (k:Int)⟩ ≤ 0)
           case first =>
            cases bb
            case true =>
             have HBC:=Lib.hid (show cmpS ⟨ta,1 + (a:Int)⟩ ⟨t',1 + (k:Int)⟩ ≤ 0 by rw [HBB.out rfl];decide)
             have hst:=stO_Node bO4 ⟨ta,1 + (a:Int)⟩
             obtain ⟨p1,p2,p3⟩:=Cod.put_fr bO4 (opWG t' k ⟨ta,1 + (a:Int)⟩ zSt)
             have HPP:=Lib.hid (And.intro p1 (And.intro p2 p3))
             have HB4:=Lib.hid hB4
             have HO4:=Lib.hid ho4
             have HBK:=Lib.hid (Cod.bxd_blk bO4)
             clear p1 p2 p3 hB4 ho4 bO4
             go_wp2_with fail
             go_meet
             case rel =>
              obtain ⟨p1,p2,p3⟩:=HPP.out
              exact ⟨⟨ta,1 + (a:Int)⟩,HB4.out.far p1 (fun b' hb'=>by have:b' = r:=hb';omega),own_box HBK.out HO4.out (by decide) p1,p3,HTA.out,HBC.out⟩
            case false =>
             clear qx4
             go_wp2_with fail
             go_meet
             case rel=>exact ⟨⟨t',1 + (k:Int)⟩,hB4,ho4,bO4,HAT.out,by rw [cmpS_self];decide⟩
           case rest =>
            obtain ⟨nd,hB5,ho5,bO5,hnd,hcn⟩:=hcut
            clear hB4 ho4 bO4 qx4 HBB
            have HND:=Lib.hid (And.intro hnd hcn)
            clear hnd hcn
            have d2:=hB5.tri.2.1
            have cb:=cell_fr0 (Sl.cell1 rfl (Sl.own HR.out.tm) b (by have:=HK.out;omega) rfl) hB5.fr
            have cb':wc.cell? ⟨gT,oT + b,none⟩ = some (.int .i64 tb):=by rw [cb];exact congrArg _ (congrArg _ HTS.out)
            have hst:=stO_Parent bO5 ⟨tb,1 + (b:Int)⟩
            obtain ⟨p1,p2,p3⟩:=Cod.put_fr bO5 (opWG t' k nd ⟨tb,1 + (b:Int)⟩)
            have HPP:=Lib.hid (And.intro p1 (And.intro p2 p3))
            have HB5:=Lib.hid hB5
            have HO5:=Lib.hid ho5
            have HBK:=Lib.hid (Cod.bxd_blk bO5)
            clear p1 p2 p3 hB5 ho5 bO5 cb
            go_wp2_with fail
            go_meet
            case rel =>
             obtain ⟨p1,p2,p3⟩:=HPP.out
             exact ⟨nd,⟨tb,1 + (b:Int)⟩,HB5.out.far p1 (fun b' hb'=>by have:b' = r:=hb';omega),own_box HBK.out HO5.out (by decide) p1,p3,GOOD.out _ _ HND.out.1 HND.out.2 (.inl HTB'.out)⟩
         ·have HK0:=Lib.hid hk0
          have ek0:decide ((0:Int) < (k:Int)) = false:=by simpa using hk0
          clear hB3 ho3 bO
          go_wp2_with fail
          go_meet
          case rel=>exact ⟨⟨t',1 + (k:Int)⟩,zSt,HB3.out,HO3.out,HBO.out,GOOD.out _ _ HAT.out (by rw [cmpS_self];decide) (.inr rfl)⟩
        case rest =>
         obtain ⟨nd,pr,hB6,ho6,bO6,hgood⟩:=hcut
         have rO:=Cod.bxd_rd bO6
         have fa:Fr noB wc (wc.alloc (codO.ro [opWG t' k nd pr])):=(Fr.refl noB wc).alloc _
         have sO:=Cod.sl_new (C:=codO) wc [opWG t' k nd pr]
         have hB7:=hB6.new fa
         have ho7:=own_new0 ho6 fa
         have k3:(wc.alloc (codO.ro [opWG t' k nd pr])).cell? ⟨P + 2,3,none⟩ = some (.slice none 0 0):=(cgAt (Cod.bxd_rd hB7.c)).ops
         have k4:=(Cod.bxd_blk hB7.c).frozen 3
         have lz:P + 3 ≤ wc.heap.size:=hB6.lt
         have HB7:=Lib.hid hB7
         have HO7:=Lib.hid ho7
         have HSO:=Lib.hid sO
         have HGO:=Lib.hid hgood
         clear hB6 ho6 bO6 fa sO hB7 ho7 hgood hB3 ho3 bO qs3
         go_wp2_with fail
         go_meet
         case rel =>
          have hB8:=HB7.out.set 3 (.slice (some ⟨wc.heap.size,0,none⟩) 1 1) (cwG PA ps.length pc t' k (some ⟨wc.heap.size,0,none⟩) 1 1) (seC_Ops _ _ _ _)
          have ho8:=HB7.out.own HO7.out 3 (.slice (some ⟨wc.heap.size,0,none⟩) 1 1)
          refine ⟨_,[opWG t' k nd pr],[opG t' k nd pr],hB8,rfl,?_,cwG_q (Sl.own ho8) HPA.out ?_ (fun _ g hg hS=>?_) (by have:=hPs2.out.len;omega) (.inr ⟨nd,pr,rfl,rfl⟩),fun o ho=>by rw [List.mem_singleton] at ho;rw [ho];rfl⟩
          ·exact chG_right (by omega) ⟨HTB.out.1,by have:=HTB.out.2;omega⟩ (by rw [HK.out];exact hPs2.out.par) (.inr ⟨by omega,nd,pr,rfl,HGO.out⟩)
          ·refine HSO.out.fr (Cod.set_fr _ (P + 2) 3 _) (fun a' ha' e=>?_)
           injection ha' with ha'
           subst ha'
           have e':wc.heap.size = P + 2:=e
           omega
          ·injection hg with hg
           have h2:=HR.out.hs.lt hS
           have h4:=hHB.out.hP
           have h5:wc.heap.size = g:=hg
           omega
       ·have HP2:=Lib.hid hp2
        have e2:decide ((ps.length:Int) < 2) = false:=by simpa using hp2
        clear hp2 hB1 ho1 hPA
        go_wp2_with fail
        go_meet
        case rel =>
         refine ⟨_,[],[],hHB.out,rfl,?_,cwG_q (Sl.own hHO.out) HPA.out (Sl.nil _ _) (fun h=>absurd rfl h) (by have:=hPs2.out.len;omega) (.inl ⟨rfl,rfl⟩),fun o ho=>absurd ho (by simp)⟩
         exact chG_right (by omega) ⟨HTB.out.1,by have:=HTB.out.2;omega⟩ (by rw [HK.out];exact hPs2.out.par) (.inl rfl)
      case rest =>
       obtain ⟨cw,rs,ops,hB,hct,hrc,hq,hnm⟩:=hcut
       clear hB1 ho1 k3
       have hgk:wc.heap.size = wc.heap.size:=rfl
       have hsW:=HR.out.hs.fr0 hB.fr
       have rI:=hB.i
       have rC:=Cod.bxd_rd hB.c
       have HQ:=Lib.hid hq
       have HHS:=Lib.hid hsW
       have HCT:=Lib.hid hct
       have HGA:=Lib.hid (HR.out.g.add (by have:=HK.out;omega) hrc (by show (k:Int) + 1 = _;rw [HK.out]) ⟨HTB.out.1,by have:=HTB.out.2;have:=HK.out;show t' ≤ _;omega⟩ (fun p hp=>by
        obtain ⟨j,hj,e,h⟩:=hPs2.out.at_ p hp
        exact ⟨j,hj,e,h⟩) (fun o ho=>hnm o ho))
       have hLl:L.length < 100000:=by have:=HR.out.g.len;have:=HK.out;omega
       have HLL:=Lib.hid hLl
       have HPL:=Lib.hid (show (chG ps t' k ops).Parents.length ≤ 1000000000 by have:=hPs2.out.len;show ps.length ≤ _;omega)
       have HBF:=Lib.hid hB
       have lz:=hB.lt
       clear hq hsW hct hLl hgk hB hrc hnm
       go_upto_region 30 with (go_at_call 10;refine (mgAdd_any HHS.out HLL.out (idG k) _ _ _ HQ.out HPL.out).mono ?_;rintro e v1 ⟨rfl,hs1,f1⟩;have hga:=HGA.out.1;rw [← HK.out] at hga;rw [hga] at hs1 ⊢;clear hga)
       have nS:∀ b,P ≤ b → ¬ S b:=fun b hb hS=>by have:=HR.out.hs.lt hS;have:=HBF.out.hP;omega
       have rI1:rdI v1 (P + 1) 0 = some (idG k):=rdI_fr HBF.out.i (rdI_lt HBF.out.i) f1 (nS _ (by omega))
       have rC1:=Cod.bxd_fr HBF.out.c f1 (nS _ (by omega))
       have oA1:OwnC codI w v1 A cA (rowG k):=by
        have h:=HR.out.ia
        rw [← HK.out] at h
        exact own_fr (own_new0 h HBF.out.fr) f1 (fun g hg=>by rw [ownBlock_sl'] at hg;exact HR.out.na g hg)
       have oB1:OwnC cod64 w v1 B cB ts:=own_fr (own_new0 HR.out.tm HBF.out.fr) f1 (fun g hg=>by rw [ownBlock_sl'] at hg;exact HR.out.nb g hg)
       have fx:Fr noB v1 (v1.alloc (rowo [idG k])):=(Fr.refl noB v1).alloc _
       have sx:Sl (v1.alloc (rowo [idG k])) (some ⟨v1.heap.size,0,none⟩) (codI.row [idG k]):=sl_new v1 [idG k]
       have oA2:=own_new0 oA1 fx
       have gl:=rowG_len k
       have HGL:=Lib.hid gl
       have hz1:w.heap.size ≤ (v1.alloc (rowo [idG k])).heap.size:=by
        have h1:=HR.out.fr.size
        have h2:=HBF.out.fr.size
        have h3:=f1.size
        have h4:=fx.size
        omega
       have HZ1:=Lib.hid hz1
       have hbA:((rowG k).length + [idG k].length) * 32 ≤ 140737488355328:=by rw [gl];simp;omega
       have HBA:=Lib.hid hbA
       have HF1:=Lib.hid f1
       have HSS1:=Lib.hid hs1
       clear f1 hs1 nS oA1 gl hz1 hbA rI rC
       go_upto_region 31 with (at_builtin;refine wpList_appC' etI w _ rfl _ _ rfl A k cA (rowG k) rfl HGL.out oA2 (some ⟨v1.heap.size,0,none⟩) 1 1 [idG k] rfl sx rfl HBA.out HZ1.out ?_;intro A6 c6 w6 hc6 hm6 ho6 hg6 hA6)
       have nA:∀ g,A.map (·.block) = some g → g < P:=fun g hg=>by have:=(own_lt HR.out.ia g hg).2;have:=HBF.out.hP;omega
       have f6:Fr (fun b=>A.map (·.block) = some b) (v1.alloc (rowo [idG k])) w6:=Fr.ofGrown hg6 (fun g hg=>hg)
       have bC6:=Cod.bxd_fr (Cod.bxd_fr0 rC1 fx) f6 (fun e=>by have:=nA _ e;omega)
       have k1:w6.cell? ⟨P + 2,1,none⟩ = some (.int .i64 t'):=by
        have h:=(cgAt (Cod.bxd_rd bC6)).time
        rw [HCT.out] at h
        exact h
       have oB6:OwnC cod64 w w6 B cB ts:=own_fr (own_new0 oB1 fx) f6 (fun g hg e=>by
        rw [ownBlock_sl'] at hg
        obtain ⟨_,cA1,z1,hA1⟩:=own_blk HR.out.ia e
        obtain ⟨_,cB1,z2,hB1⟩:=own_blk HR.out.tm hg
        rw [hA1] at hB1
        injection hB1 with hB1
        injection hB1 with _ h2
        exact absurd h2 (by decide))
       have fy:Fr noB w6 (w6.alloc (.cells #[.int .i64 t'] 2)):=(Fr.refl noB w6).alloc _
       have sy:Sl (w6.alloc (.cells #[.int .i64 t'] 2)) (some ⟨w6.heap.size,0,none⟩) (cod64.row [t']):=Sl.new w6 2 [.int .i64 t']
       have oB7:=own_new0 oB6 fy
       have HZ7:=Lib.hid (show w.heap.size ≤ (w6.alloc (.cells #[.int .i64 t'] 2)).heap.size from Nat.le_trans (Nat.le_trans HZ1.out f6.size) fy.size)
       have HBY:=Lib.hid (show (ts.length + [t'].length) * 8 ≤ 140737488355328 from by have:=HK.out;simp;omega)
       have HO6:=Lib.hid ho6
       have HG6:=Lib.hid hg6
       have HA6:=Lib.hid hA6
       have HFX:=Lib.hid fx
       clear nA f6 bC6 rC1 oB6 oB1 fx sx oA2 ho6 hg6 hA6 hc6 hm6 rI1
       go_wp2_with (at_builtin;refine wpList_appC' et64 w _ rfl _ _ rfl B k cB ts rfl HK.out.symm oB7 (some ⟨w6.heap.size,0,none⟩) 1 1 [t'] rfl sy rfl HBY.out HZ7.out ?_;intro A7 c7 w7 hc7 hm7 ho7 hg7 hA7)
       go_roundg (nums.length - (k + 1))
       case measure=>have:=HK.out;omega
       case rel =>
        have hg2:=HGA.out.2
        rw [← HK.out] at hg2
        have o6:=HO6.out
        have hs1:=HSS1.out
        have hgl:=HGL.out
        have hkk:=HK.out
        have el:(ts ++ [t']).length = k + 1:=by rw [List.length_append,← hkk];rfl
        rw [hkk] at o6
        refine ⟨ts ++ [t'],grF S wc v1,A6,c6,A7,c7,_,by rw [el];simp,by rw [el],by rw [el];omega,by rw [el,hgl],by rw [el,hkk],GR.next HR.out hg2 HBF.out.fr hs1 HF1.out HFX.out o6 HG6.out HA6.out fy ho7 hg7 hA7⟩
   ·have ek:k = 16:=by have:=HR.out.g.le;have:=HK.out;omega
    subst ek
    have i1:(16:Int) < (nums.length:Int):=by omega
    have HLT:=Lib.hid hlt
    clear hlt h16 hkn
    obtain ⟨gN,oN,rfl,hgN⟩:=Sl.addr hs (by have:=HLT.out;omega)
    have rx:codTr.rd wr gN (oN + 16 * 3) = some (nums[16]'HLT.out):=Sl.rd (hs.fr0 HR.out.fr) 16 HLT.out
    generalize nums[16]'HLT.out = x at rx
    go_wp2_with fail
    go_ret2
    have fz:Fr noB wr (wr.alloc (codTr.o x)):=(Fr.refl noB wr).alloc _
    exact ⟨H,S,L,ts,A,cA,by rw [← HK.out];rfl,HR.out.hs.fr0 fz,HR.out.g,own_new0 HR.out.ia fz,HR.out.na,HR.out.lo,HR.out.fr.step0 fz⟩
  ·have ek:k = nums.length:=by omega
   have i1:¬ ((k:Int) < (nums.length:Int)):=by omega
   have HEK:=Lib.hid ek
   clear ek hlt hkn
   go_wp2_with fail
   go_ret2
   exact ⟨H,S,L,ts,A,cA,by rw [← HK.out];rfl,HR.out.hs,HR.out.g,HR.out.ia,HR.out.na,HR.out.lo,HR.out.fr⟩
end Go.Proofs.YtjpieiccpbcabaaGreat
namespace Go.Proofs.YtjpieiccpbcabaaGreat
open Go.RowKit
set_option linter.unusedVariables false
set_option linter.unusedSimpArgs false

theorem okG_row:∀ {g:Dg} {x:ID} {ps:List ID},okG g → parents g x = some ps → rightL x ps = true
 | [],x,ps,_,h=>by simp [parents] at h
 | (y,qs) :: g,x,ps,hk,h=>by
  simp only [parents] at h
  split at h
  ·rename_i e
   injection h with h
   subst e h
   exact hk.1
  ·exact okG_row hk.2.2.2 h
theorem addH_same {L:Hst} (hk:HOk L) {x:ID} {c:Chg} (h:findC L x = some c):addH L x c = (0,L):=by
 have hp:parents (dgH L) x = some c.Parents:=by rw [par_dg,h];rfl
 unfold addH
 rw [if_pos (by rw [has_dg,h];rfl)]
 unfold addG
 rw [if_pos (okG_row hk.ok hp),hp]
 simp
theorem addH_other {L:Hst} {x:ID} {c d:Chg} (h:findC L x = some c) (hne:c.Parents ≠ d.Parents):(addH L x d).1 ≠ 0 ∧ (addH L x d).2 = L:=by
 have hp:parents (dgH L) x = some c.Parents:=by rw [par_dg,h];rfl
 have e:addH L x d = ((((addG (dgH L) x d.Parents).1:Nat):Int),L):=by
  unfold addH
  rw [if_pos (by rw [has_dg,h];rfl)]
 rw [e]
 refine ⟨?_,rfl⟩
 unfold addG
 split
 ·rw [hp]
  simp only
  rw [if_neg hne]
  exact (show ((5:Nat):Int) ≠ 0 by decide)
 ·exact (show ((1:Nat):Int) ≠ 0 by decide)
theorem addH_zero (L:Hst) (d:Chg):addH L zID d = (1,L):=by
 unfold addH
 rw [if_pos (by simp)]
 have h:rightL zID d.Parents = false:=by simp [rightL]
 unfold addG
 rw [if_neg (by simp [h])]
 rfl
theorem Gw.no254 {L:Hst} {ts:List Int} (h:Gw L ts):findC L (id2 254 0) = none:=by
 cases e:findC L (id2 254 0) with
 | none=>rfl
 | some c =>
  obtain ⟨i,hi,e2⟩:=h.ids _ _ e
  have hl:=h.le
  have:∀ i,i < 20 → id2 254 0 ≠ idG i:=by decide +kernel
  exact absurd e2 (this i (by omega))
theorem Gw.name {L:Hst} {ts:List Int} (h:Gw L ts) {x:ID} {c:Chg} (hf:findC L x = some c):∀ o ∈ c.Ops,o.Name = [110]:=fun o ho=>h.nm o (by
 have:=findC_mem hf
 simp only [opsH,List.mem_flatMap]
 exact ⟨_,this,ho⟩)
end Go.Proofs.YtjpieiccpbcabaaGreat
namespace Go.Proofs.YtjpieiccpbcabaaGreat
open Go.RowKit Go.Maps Go.Sort
set_option linter.unusedVariables false
set_option linter.unusedSimpArgs false

structure Kn (W U:World) (H:Nat) (S:Nat → Prop) (L:Hst) (pc pb:Nat) (y:ID) (r:CgW) (n m:Nat) (wr:World):Prop where
 fr:Fr noB W wr
 lU:W.heap.size ≤ U.heap.size
 hs:Hs wr H S L
 bx:codC.bxd wr pc = some r
 ge:U.heap.size ≤ pc
 bI:rdI wr pb 0 = some y
 bl:pb < U.heap.size
 ops:0 < n → ∃ g,r.OA = some ⟨g,0,none⟩ ∧ U.heap.size ≤ g ∧ ¬ S g ∧ Shp codO wr g n (fun _ _=>True)
 par:0 < m → ∃ g,r.PA = some ⟨g,0,none⟩ ∧ U.heap.size ≤ g ∧ ¬ S g ∧ Shp codI wr g m (fun _ _=>True)
theorem Kn.turn {W U:World} {H:Nat} {S:Nat → Prop} {L:Hst} {pc pb:Nat} {y:ID} {r:CgW} {n m:Nat} {wr w':World} {g:Nat} (h:Kn W U H S L pc pb y r n m wr) (f:Fr (oneB g) wr w') (hg:U.heap.size ≤ g) (hS:¬ S g) (hp:g ≠ pc)
  (ho:0 < n → ∃ g,r.OA = some ⟨g,0,none⟩ ∧ U.heap.size ≤ g ∧ ¬ S g ∧ Shp codO w' g n (fun _ _=>True)) (hq:0 < m → ∃ g,r.PA = some ⟨g,0,none⟩ ∧ U.heap.size ≤ g ∧ ¬ S g ∧ Shp codI w' g m (fun _ _=>True)):Kn W U H S L pc pb y r n m w' :=
 ⟨h.fr.step f (fun q hq=>.inl (by have:q = g:=hq;have:=h.lU;omega)),h.lU,h.hs.fr f (fun b hb e=>hS (by have:b = g:=e;rw [← this];exact hb)),Cod.bxd_fr h.bx f (fun e=>hp (by have:pc = g:=e;omega)),h.ge,
  rdI_fr h.bI (rdI_lt h.bI) f (fun e=>by have:pb = g:=e;have:=h.bl;omega),h.bl,ho,hq⟩
theorem Shp.box {α β:Type} {C:Cod α} {D:Cod β} {w:World} {g n pc:Nat} {P:Nat → α → Prop} {r:β} (h:Shp C w g n P) (hb:D.bxd w pc = some r) (hne:C.t ≠ D.t):g ≠ pc:=by
 rintro rfl
 obtain ⟨cur,h1,_⟩:=h
 have h2:=Cod.bxd_at hb
 rw [h1] at h2
 rw [Cod.o_eq] at h2
 injection h2 with h2
 injection h2 with _ h2
 exact hne h2
theorem Kn.op {W U:World} {H:Nat} {S:Nat → Prop} {L:Hst} {pc pb:Nat} {y:ID} {r:CgW} {n m:Nat} {wr:World} {g k:Nat} (h:Kn W U H S L pc pb y r n m wr) (e:r.OA = some ⟨g,0,none⟩) (hk:k < n) (l:List UInt8) :
  Kn W U H S L pc pb y r n m (wr.setCell ⟨g,k * 41 + 7,none⟩ (.string (str l))) ∧ (∃ s,wr.cell? ⟨g,k * 41 + 7,none⟩ = some (.string s)) ∧ wr.frozen? ⟨g,k * 41 + 7,none⟩ = false:=by
 obtain ⟨g',e',h1,h2,h3⟩:=h.ops (by omega)
 rw [e] at e'
 injection e' with e'
 injection e' with e' _ _
 subst e'
 have hset:=h3.set hk [.string (str l)] 7 (show 7 + 1 ≤ 41 by decide) (fun x _=>⟨{ x with Name:=l },trivial,by
  have hl:7 < (codO.cs x).length:=by rw [codO.len];exact (show 7 < 41 by decide)
  have h7:=seO_Name x l
  rw [List.set_eq_take_append_cons_drop,if_pos hl] at h7
  rw [← h7]
  simp⟩)
 obtain ⟨x,_,hr,hf⟩:=h3.rd hk
 refine ⟨h.turn hset.2 h1 h2 (h3.box h.bx (by decide)) (fun _=>⟨g,e,h1,h2,hset.1⟩) (fun hm=>?_),⟨_,(Cod.rd_cell hr 7 (v:=.string (str x.Name)) rfl:wr.cell? ⟨g,k * 41 + 7,none⟩ = _)⟩,hf 7 (show 7 < 41 by decide)⟩
 obtain ⟨gp,ep,p1,p2,p3⟩:=h.par hm
 exact ⟨gp,ep,p1,p2,p3.fr hset.2 (fun e=>(h3.ne p3 (by decide)) (by have:gp = g:=e;exact this.symm))⟩
theorem Kn.pa {W U:World} {H:Nat} {S:Nat → Prop} {L:Hst} {pc pb:Nat} {y:ID} {r:CgW} {n m:Nat} {wr:World} {g k:Nat} (h:Kn W U H S L pc pb y r n m wr) (e:r.PA = some ⟨g,0,none⟩) (hk:k < m) (x:ID) :
  Kn W U H S L pc pb y r n m (wr.setCells g (k * 32) (bv x.1)) ∧ stI wr (.pointer (some ⟨g,k * 32,none⟩)) (encI x) = .ok .skip (wr.setCells g (k * 32) (bv x.1)):=by
 obtain ⟨g',e',h1,h2,h3⟩:=h.par (by omega)
 rw [e] at e'
 injection e' with e'
 injection e' with e' _ _
 subst e'
 have hset:=h3.set hk (bv x.1) 0 (by rw [bv_length,x.2];decide) (fun z _=>⟨x,trivial,by
  have hl:(codI.cs z).length = 32:=codI.len z
  rw [List.take_zero,List.nil_append,List.drop_eq_nil_of_le (by rw [bv_length,x.2];omega),List.append_nil]
  rfl⟩)
 rw [Nat.add_zero] at hset
 refine ⟨h.turn hset.2 h1 h2 (h3.box h.bx (by decide)) (fun hn=>?_) (fun _=>⟨g,e,h1,h2,hset.1⟩),h3.stI hk x 0 (k * 32) (by rfl) (by decide)⟩
 obtain ⟨go,eo,p1,p2,p3⟩:=h.ops hn
 exact ⟨go,eo,p1,p2,p3.fr hset.2 (fun e=>(h3.ne p3 (by decide)) (by have:go = g:=e;exact this.symm))⟩
theorem Kn.new {W U:World} {H:Nat} {S:Nat → Prop} {L:Hst} {pc pb:Nat} {y:ID} {r:CgW} {n m:Nat} {wr w':World} (h:Kn W U H S L pc pb y r n m wr) (f:Fr noB wr w'):Kn W U H S L pc pb y r n m w' :=
 ⟨h.fr.step0 f,h.lU,h.hs.fr0 f,Cod.bxd_fr0 h.bx f,h.ge,rdI_fr h.bI (rdI_lt h.bI) f (by simp [noB]),h.bl,fun hn=>by
  obtain ⟨g,e,p1,p2,p3⟩:=h.ops hn
  exact ⟨g,e,p1,p2,p3.fr0 f⟩,fun hm=>by
  obtain ⟨g,e,p1,p2,p3⟩:=h.par hm
  exact ⟨g,e,p1,p2,p3.fr0 f⟩⟩
theorem Shp.rwa {α:Type} {C:Cod α} {w:World} {g:Nat} {d:Array α} (h:RwA C w g d):Shp C w g d.size (fun _ _=>True):=by
 obtain ⟨cur,h1,ht⟩:=h
 refine ⟨cur,h1,fun k hk=>?_⟩
 have hk':k < d.toList.length:=by simpa using hk
 refine ⟨d.toList[k]'hk',trivial,?_⟩
 have hkk:k * C.n + C.n ≤ d.size * C.n:=by rw [← Nat.succ_mul];exact Nat.mul_le_mul_right _ hk
 apply List.ext_getElem?
 intro i
 rw [seg_get]
 by_cases hi:i < C.n
 ·have e:(C.cs d.toList[k])[i]? = some ((C.cs d.toList[k])[i]'(by rw [C.len];exact hi)):=List.getElem?_eq_getElem _
  rw [if_pos hi,e,← Cod.row_get d.toList k i hk' _ e,← ht,List.getElem?_take_of_lt (by omega)]
 ·rw [if_neg hi,List.getElem?_eq_none (by rw [C.len];omega)]
theorem Kn.of {W U u1 wr:World} {H:Nat} {S M:Nat → Prop} {L:Hst} {pc pb:Nat} {y:ID} {r:CgW} {rs:List OpW} {c:Chg} (h:CgNew U.heap.size u1 r rs c) (f:Fr M u1 wr) (hM:∀ b,M b → b < U.heap.size) (hs:Hs wr H S L) (hS:∀ g,U.heap.size ≤ g → g < u1.heap.size → ¬ S g)
  (hf:Fr noB W wr) (hWU:W.heap.size ≤ U.heap.size) (hb:codC.bxd wr pc = some r) (hge:U.heap.size ≤ pc) (hI:rdI wr pb 0 = some y) (hl:pb < U.heap.size):Kn W U H S L pc pb y r r.on r.pn wr:=by
 refine ⟨hf,hWU,hs,hb,hge,hI,hl,fun hn=>?_,fun hm=>?_⟩
 ·have hol:=h.inn.ol
  obtain ⟨g,e,hg,hr⟩:=h.oo (fun e=>by rw [e] at hol;simp at hol;omega)
  have hs1:=Shp.rwa hr
  have:rs.toArray.size = r.on:=by rw [List.size_toArray,hol]
  rw [this] at hs1
  exact ⟨g,e,hg,hS g hg hs1.lt,hs1.fr f (fun hm=>by have:=hM g hm;omega)⟩
 ·have hpl:=h.inn.pl
  have ho:OwnC codI U u1 r.PA r.pc c.Parents:=by
   have:=h.po
   rw [← hpl] at this
   exact this
  obtain ⟨g,e,hg,hs1⟩:=Shp.of ho (by omega)
  rw [hpl] at hs1
  exact ⟨g,e,hg,hS g hg hs1.lt,(hs1.mono (fun _ _ _ _=>trivial)).fr f (fun hm=>by have:=hM g hm;omega)⟩
structure OpsT (base:Nat) (w:World) (OA:Option Addr) (rs:List OpW) (os:List Opn):Prop where
 oo:rs ≠ [] → ∃ g,OA = some ⟨g,0,none⟩ ∧ base ≤ g ∧ RwA codO w g rs.toArray
 vo:AllO (OpN base) w rs os
theorem OpsT.fr0 {base:Nat} {w w':World} {OA:Option Addr} {rs:List OpW} {os:List Opn} (h:OpsT base w OA rs os) (f:Fr noB w w'):OpsT base w' OA rs os :=
 ⟨fun hne=>by
  obtain ⟨g,e,hg,hr⟩:=h.oo hne
  exact ⟨g,e,hg,hr.fr0 f⟩,h.vo.map fun q x hq=>hq.fr0 f⟩
theorem OpsT.blk {base B:Nat} {w w':World} {OA:Option Addr} {rs:List OpW} {os:List Opn} {t:TypeId} {cs:List Value} (h:OpsT base w OA rs os) (hb:Blk w B t cs) (h1:t ≠ 83) (h2:t ≠ 149) (h3:t ≠ 80) (f:Fr (oneB B) w w'):OpsT base w' OA rs os :=
 ⟨fun hne=>by
  obtain ⟨g,e,hge,cur,h4,h5⟩:=h.oo hne
  have hgB:g ≠ B:=fun e=>by
   rw [e,hb] at h4
   injection h4 with h4
   injection h4 with _ h4
   exact h1 h4
  exact ⟨g,e,hge,cur,(f.block g (Array.getElem?_eq_some_iff.1 h4).1 hgB).trans h4,h5⟩,h.vo.map fun q x hq=>⟨hq.op.fr f (NoHS.blk hb h2 h3),own_box hb hq.own h3.symm f⟩⟩
theorem own_Blk {W w:World} {A:Option Addr} {c:Nat} {l:List ID} (h:OwnC codI W w A c l) {g:Nat} (hg:A.map (·.block) = some g):∃ cs,Blk w g 24 cs:=by
 rcases h.2 with ⟨hv,hn⟩ | ⟨g',cap,cur,hv,hb,hg',hnc,hm,hs,ht⟩
 ·injection hv with h1 h2 h3
  rw [h1] at hg
  cases hg
 ·injection hv with h1 h2 h3
  rw [h1] at hg
  injection hg with hg
  have:g' = g:=hg
  subst this
  exact ⟨cur.toList,by unfold Blk;rw [Array.toArray_toList];exact hg'⟩
theorem OpsT.grow {base:Nat} {W w w':World} {OA:Option Addr} {rs:List OpW} {os:List Opn} {A:Option Addr} {c:Nat} {l:List ID} (h:OpsT base w OA rs os) (ho:OwnC codI W w A c l) (hg:w.grownBy w' (A.map (·.block))):OpsT base w' OA rs os:=by
 cases A with
 | none=>exact h.fr0 (Fr.ofGrown hg (fun g hg=>by cases hg))
 | some a =>
  obtain ⟨cs,hb⟩:=own_Blk ho (g:=a.block) rfl
  exact h.blk hb (by decide) (by decide) (by decide) (Fr.ofGrown hg (fun g hg=>by injection hg with hg;exact hg.symm))
theorem OpsT.q {base:Nat} {W w0 w:World} {PA OA A5:Option Addr} {pn pc on oc c5:Nat} {T R:Int} {Tr:ID} {M:List UInt8} {rs:List OpW} {c:Chg} {ps:List ID} {Q:Nat → Prop} (h:OpsT base w OA rs c.Ops) (hn:CgNew base w0 ⟨PA,pn,pc,T,R,OA,on,oc,Tr,M⟩ rs c)
  (ho:OwnC codI W w A5 c5 ps) (hW:base ≤ W.heap.size) (hQ:∀ g,base ≤ g → g < w.heap.size → Q g) (hb:ps.length ≤ 1000):CgQ Q w ⟨A5,ps.length,c5,T,R,OA,on,oc,Tr,M⟩ rs { c with Parents:=ps }:=by
 obtain ⟨a1,a2,a3,a4,a5,a6,a7,a8,a9,a10,a11,a12⟩:=hn.inn
 have hsl:Sl w OA (codO.row rs):=by
  by_cases h0:rs = []
  ·rw [h0];exact Sl.nil _ _
  ·obtain ⟨g,e,_,hr⟩:=h.oo h0
   rw [e]
   exact hr.sl
 refine ⟨⟨a1,a2,a3,a4,rfl,Sl.own ho,a7,hsl,⟨h.vo.1,fun i h1 h2=>(h.vo.2 i h1 h2).op.inn⟩,by show ps.length ≤ _;omega,a11,a12⟩,fun _ g hg=>?_,fun hne g hg=>?_,fun i h1 h2=>(h.vo.2 i h1 h2).q hQ⟩
 ·have:=own_lt ho g hg
  exact hQ g (by omega) this.2
 ·obtain ⟨g',e,hge,hr⟩:=h.oo hne
  have hg':OA.map (·.block) = some g:=hg
  rw [e] at hg'
  injection hg' with hg'
  have:g' = g:=hg'
  subst this
  exact hQ _ hge hr.lt
end Go.Proofs.YtjpieiccpbcabaaGreat
namespace Go.Proofs.YtjpieiccpbcabaaGreat
open Go.RowKit Go.Maps Go.Sort
set_option linter.unusedVariables false
set_option linter.unusedSimpArgs false

def KnL (W U:World) (H:Nat) (S:Nat → Prop) (L:Hst) (pc pb:Nat) (y:ID) (r:CgW) (n m q gk:Nat) (kv:Value) (wr:World):Prop:=∃ k:Nat,kv = .int .i64 (k:Int) ∧ gk = q - k ∧ k ≤ q ∧ Kn W U H S L pc pb y r n m wr
set_option maxRecDepth 100000 in
set_option maxHeartbeats 8000000 in
theorem known15_any (w:World) (A0:Option Addr) (c0 n:Nat) (nums:List Tri) (a1:Int) (hn:nums.length = n) (hs:Sl w A0 (codTr.row nums)) (hb:nums.length ≤ 200000000000000) :
  Calls Tryz.prog 7 #[.slice A0 n c0,.int .i64 a1] w (Gives w (.bool true)):=by
 have HS:=Lib.hid (fun w' (f:Fr noB w w')=>l15grown_any w' A0 c0 n nums hn (hs.fr0 f) hb)
 clear hn hs hb
 go_enter Tryz.func7,Tryz.ntmps7
 go_upto_region 4 with (first
  | (go_at_call 9;refine (l15alive_any w).mono ?_;rintro e w1 ⟨rfl,f1⟩)
  | (go_at_call 26;refine (HS.out w1 f1).mono ?_;rintro e w2 ⟨H,S,L,ts,A,cA,rfl,hs2,hg,hA,hnA,hlo,f2⟩))
 have HG:=Lib.hid hg
 have HH:=Lib.hid hs2
 have HA:=Lib.hid hA
 have HF:=Lib.hid (f1.step0 f2)
 obtain ⟨m,hm⟩:∃ m,m = ts.length:=⟨_,rfl⟩
 have hm16:m ≤ 16:=by rw [hm];exact hg.le
 rw [← hm]
 have HM:=Lib.hid hm
 have HLO:=Lib.hid (show ∀ b,S b → w.heap.size ≤ b from fun b hb=>Nat.le_trans f1.size (hlo b hb))
 clear hm hg hs2 hA hnA hlo f1 f2 HS
 by_cases m0:m = 0
 ·subst m0
  go_wp2_with fail
  go_ret
  exact ⟨rfl,HF.out⟩
 ·have hmp:0 < m:=by omega
  obtain ⟨r1,er1,hr1⟩:=and_maskM a1 1023 (by omega)
  have i2:r1 % m < m:=Nat.mod_lt _ hmp
  have ht1:(bits BinOp.and IntKind.i64 a1 1023).tmod (m:Int) = ((r1 % m:Nat):Int):=by rw [show bits BinOp.and IntKind.i64 a1 1023 = (r1:Int) from er1];rfl
  generalize r1 % m = i at i2 ht1
  clear er1 hr1
  have hA:=HA.out
  rw [← HM.out] at hA
  obtain ⟨g,off,rfl⟩:=(Sl.own hA).adG (by rw [rowG_len];omega)
  have gi:=(Sl.own hA).id i (by rw [rowG_len];omega)
  rw [rowG_get] at gi
  have x1:(0:Int) ≤ (i:Int):=by omega
  have x2:(i:Int) < (m:Int):=by omega
  have hm0:((m:Int) == 0) = false:=by rw [beq_eq_false_iff_ne];omega
  have im:i < ts.length:=by rw [← HM.out];exact i2
  have CA:=Lib.hid (show ∃ c,findC L (idG i) = some c from ⟨_,(HG.out.has i im).choose_spec.1⟩)
  clear hA im
  go_upto_region 9 with fail
  obtain ⟨p1,p2,p3⟩:=putB_fr (bxI_new w2 zID) (idG i)
  have fn:Fr noB w2 (putB (w2.alloc (ido zID)) w2.heap.size (idG i)):=((Fr.refl noB w2).alloc _).step1 p1 (Nat.le_refl _)
  have rb:=bxI_rd p3
  have hb0:w2.heap.size < (putB (w2.alloc (ido zID)) w2.heap.size (idG i)).heap.size:=by rw [p2];simp
  clear p1 p2 p3
  obtain ⟨c,hc⟩:=CA.out
  have HC:=Lib.hid hc
  clear gi ht1 x1 x2 hm0 hc CA
  generalize putB (w2.alloc (ido zID)) w2.heap.size (idG i) = u0 at fn rb hb0 ⊢
  have hnp:¬ S w2.heap.size:=fun hS=>by have:=HH.out.lt hS;omega
  generalize w2.heap.size = pb at rb hb0 hnp ⊢
  have HNP:=Lib.hid hnp
  clear hnp
  have HS0:=Lib.hid (HH.out.fr0 fn)
  have F0:=Lib.hid (HF.out.step0 fn)
  clear fn
  have sC:(findC L (idG i)).isSome = true:=by rw [HC.out];rfl
  have HSC:=Lib.hid sC
  clear sC
  generalize idG i = x at rb HC HSC ⊢
  have HB0:=Lib.hid hb0
  clear hb0
  go_upto_region 10 with (go_at_call 14;refine (mgCommit_any HS0.out x).mono ?_;rintro e u1 ⟨r,rs,rfl,hcn,v1⟩;rw [HSC.out])
  have ec:(findC L x).getD zChg = c:=by rw [HC.out];rfl
  rw [ec] at hcn
  have fn:Fr noB u1 (u1.alloc (codC.o r)):=(Fr.refl noB u1).alloc _
  have bC:=Cod.bxd_new (C:=codC) u1 r
  have HCN:=Lib.hid hcn
  have HV1:=Lib.hid v1
  have g1:=v1.step0 fn
  have rb2:=rdI_fr rb (rdI_lt rb) g1 (by simp [noB])
  have HP:=Lib.hid (show u0.heap.size ≤ u1.heap.size from v1.size)
  have G1:=Lib.hid g1
  have FA:=Lib.hid fn
  clear rb ec hcn v1 fn g1
  generalize u1.alloc (codC.o r) = u2 at bC rb2 G1 FA ⊢
  generalize hpc:u1.heap.size = pc at bC ⊢
  have HPC:=Lib.hid hpc
  clear hpc
  have HBC:=Lib.hid bC
  clear bC
  go_upto_region 11 with (first
   | (go_at_call 12;refine (mgDag_any (HS0.out.fr0 G1.out)).mono ?_;rintro e u3 ⟨D,Fd,rfl,hd,f3⟩)
   | (go_at_call 13;refine (len_any _ D Fd (dgH L) hd).mono ?_;rintro e u4 ⟨rfl,f4⟩))
  have g4:=f3.step0 f4
  have rb4:=rdI_fr rb2 (rdI_lt rb2) g4 (by simp [noB])
  have bC4:=Cod.bxd_fr0 HBC.out g4
  have rC4:=Cod.bxd_rd bC4
  have HS4:=Lib.hid (HS0.out.fr0 (G1.out.step0 g4))
  have FB:=Lib.hid (FA.out.step0 g4)
  have FB2:=Lib.hid g4
  have HQ4:=Lib.hid (show CgQ (fun g=>¬ S g) u4 r rs c from (HCN.out.q (Q:=fun g=>¬ S g) (fun g hg _ hS=>by have:=HS0.out.lt hS;omega)).fr FB.out (fun _ _=>by simp [noB]))
  have HLL:=Lib.hid (show L.length < 100000 by have:=HG.out.len;have:=HG.out.le;omega)
  have HPL:=Lib.hid (show c.Parents.length ≤ 1000000000 from by
   have h1:=HS0.out.ok.right _ (findC_mem HC.out)
   have h2:c.Parents.length ≤ 2:=(rightCh_parts h1).1
   omega)
  have HAS:=Lib.hid (addH_same HS0.out.ok HC.out)
  have HBC4:=Lib.hid bC4
  clear bC4 rb2 HBC f3 f4 g4 hd
  go_upto_region 13 with (first
   | (go_at_call 10;refine (mgAdd_any HS4.out HLL.out x r rs c HQ4.out HPL.out).mono ?_;rintro e u5 ⟨rfl,hs5,f5⟩;rw [HAS.out] at hs5 ⊢;have HS5:=Lib.hid hs5;have F5:=Lib.hid f5;clear hs5 f5)
   | (go_at_call 12;refine (mgDag_any HS5.out).mono ?_;rintro e u6 ⟨D2,Fd2,rfl,hd2,f6⟩)
   | (go_at_call 13;refine (len_any _ D2 Fd2 (dgH L) hd2).mono ?_;rintro e u7 ⟨rfl,f7⟩))
  have HON:=Lib.hid (show r.on ≤ 64 ∧ r.pn ≤ 2 from by
   have h2:=rightCh_parts (HS0.out.ok.right _ (findC_mem HC.out))
   have h3:c.Ops.length ≤ 64:=h2.2.2.2.2.2.1
   have h4:c.Parents.length ≤ 2:=h2.1
   have h5:=HCN.out.inn.ops.len
   have h6:=HCN.out.inn.ol
   have h7:=HCN.out.inn.pl
   omega)
  have g7:=f6.step0 f7
  obtain ⟨S7,hS7⟩:∃ S7,S7 = grF S u4 u5:=⟨_,rfl⟩
  have hs7:Hs u7 H S7 L:=by rw [hS7];exact HS5.out.fr0 g7
  have lS:∀ b,S b → b < u0.heap.size:=fun b hb=>HS0.out.lt hb
  have l12:u1.heap.size ≤ u4.heap.size:=FB.out.size
  have hKn:Kn w u0 H S7 L pc pb x r r.on r.pn u7:=by
   have fM:Fr S u1 u7:=FB.out.any.trans (F5.out.trans (g7.any:Fr S u5 u7) (fun b _ h=>h)) (fun b _ h=>h)
   have fW:Fr noB w u7:=(((F0.out.step0 G1.out).step0 FB2.out).step F5.out (fun q hq=>.inl (HLO.out q hq))).step0 g7
   have hpc:=HPC.out
   have lp:=HP.out
   refine Kn.of HCN.out fM lS hs7 (fun g hg hg1 hS=>?_) fW F0.out.size (Cod.bxd_fr0 (Cod.bxd_fr HBC4.out F5.out (fun hS=>?_)) g7) (by omega) (rdI_fr (rdI_fr rb4 (rdI_lt rb4) F5.out (fun hS=>?_)) (by have:=F5.out.size;have:=rdI_lt rb4;omega) g7 (by simp [noB])) HB0.out
   ·rw [hS7] at hS
    rcases hS with h | h
    ·have:=lS _ h;omega
    ·omega
   ·have:=lS _ hS
    omega
   ·exact HNP.out hS
  have HKn:=Lib.hid hKn
  have HLO7:=Lib.hid (show ∀ b,S7 b → w.heap.size ≤ b from fun b hb=>by
   rw [hS7] at hb
   rcases hb with h | h
   ·exact HLO.out b h
   ·have:=((F0.out.step0 G1.out).step0 FB2.out).size
    omega)
  clear hKn
  have c3:u7.cell? ⟨pc,3,none⟩ = some (.slice r.OA r.on r.oc):=(cgAt (Cod.bxd_rd HKn.out.bx)).ops
  clear rb4 rC4 lS l12 hs7 g7 f6 f7 hd2
  go_wp2_with fail
  go_loopg [67] r.on (fun gk kv wr=>KnL w u0 H S7 L pc pb x r r.on r.pn r.on gk kv wr)
  case atStart=>exact ⟨0,rfl,by omega,by omega,HKn.out⟩
  case round =>
   clear c3
   obtain ⟨k,rfl,rfl,hk,hK⟩:=hrel
   by_cases hlt:k < r.on
   ·have i1:(k:Int) < (r.on:Int):=by omega
    have i0:(0:Int) ≤ (k:Int):=by omega
    obtain ⟨go,eo,_,_,_⟩:=hK.ops (by omega)
    obtain ⟨hK2,⟨s,e4⟩,z4⟩:=hK.op eo hlt [116,117,114,110,101,100]
    have c3:wr.cell? ⟨pc,3,none⟩ = some (.slice (some ⟨go,0,none⟩) r.on r.oc):=by rw [← eo];exact (cgAt (Cod.bxd_rd hK.bx)).ops
    have HK2:=Lib.hid hK2
    have HEO:=Lib.hid eo
    clear hK2 hK eo
    go_wp2_with fail
    go_roundg (r.on - (k + 1))
    case measure=>omega
    case rel=>exact ⟨k + 1,by rw [show wrap64 ((k:Int) + 1) = (k:Int) + 1 from by unfold wrap64;have:=HON.out.1;omega];simp,rfl,by omega,HK2.out⟩
   ·have hkn:k = r.on:=by omega
    have i1:¬ ((k:Int) < (r.on:Int)):=by omega
    have HKN:=Lib.hid hkn
    have HK:=Lib.hid hK
    have c0':wr.cell? ⟨pc,0,none⟩ = some (.slice r.PA r.pn r.pc):=(cgAt (Cod.bxd_rd hK.bx)).parents
    clear hkn hK hlt hk
    go_wp2_with fail
    go_loopg [79] r.pn (fun gk kv wq=>KnL w u0 H S7 L pc pb x r r.on r.pn r.pn gk kv wq)
    case atStart=>exact ⟨0,rfl,by omega,by omega,HK.out⟩
    case round =>
     clear c0'
     obtain ⟨j,rfl,rfl,hj,hJ⟩:=hrel
     by_cases hjl:j < r.pn
     ·have j1:(j:Int) < (r.pn:Int):=by omega
      have j0:(0:Int) ≤ (j:Int):=by omega
      obtain ⟨gp,ep,_,_,_⟩:=hJ.par (by omega)
      obtain ⟨hJ2,hst⟩:=hJ.pa ep hjl (id2 99 0)
      have hN9:id2 (Int.toNat 99) 0 = id2 99 0:=rfl
      have c0':wr.cell? ⟨pc,0,none⟩ = some (.slice (some ⟨gp,0,none⟩) r.pn r.pc):=by rw [← ep];exact (cgAt (Cod.bxd_rd hJ.bx)).parents
      have HJ2:=Lib.hid hJ2
      have HEP:=Lib.hid ep
      clear hJ2 hJ ep
      go_wp2_with fail
      go_roundg (r.pn - (j + 1))
      case measure=>omega
      case rel=>exact ⟨j + 1,by rw [show wrap64 ((j:Int) + 1) = (j:Int) + 1 from by unfold wrap64;have:=HON.out.2;omega];simp,rfl,by omega,HJ2.out⟩
     ·have hjn:j = r.pn:=by omega
      have j1:¬ ((j:Int) < (r.pn:Int)):=by omega
      have HJN:=Lib.hid hjn
      have HJ:=Lib.hid hJ
      have rbj:=hJ.bI
      clear hjn hJ hjl hj
      obtain ⟨wl,ewl⟩:∃ wl,wl = wr:=⟨_,rfl⟩
      subst ewl
      go_upto_region 24 with (go_at_call 14;refine (mgCommit_any HJ.out.hs x).mono ?_;rintro e v1 ⟨r',rs',rfl,hcn',v1f⟩;rw [HSC.out])
      have ec:(findC L x).getD zChg = c:=by rw [HC.out];rfl
      rw [ec] at hcn'
      have fn:Fr noB v1 (v1.alloc (codC.o r')):=(Fr.refl noB v1).alloc _
      have bC:=Cod.bxd_new (C:=codC) v1 r'
      have HCN2:=Lib.hid hcn'
      have HVF:=Lib.hid v1f
      have FN2:=Lib.hid fn
      have KB:=Lib.hid (HJ.out.new (v1f.step0 fn))
      have hz:v1.heap.size < (v1.alloc (codC.o r')).heap.size:=by simp
      have HZ:=Lib.hid hz
      clear hcn' v1f fn ec rbj hz
      generalize v1.alloc (codC.o r') = v2 at bC FN2 KB HZ ⊢
      generalize hp3:v1.heap.size = p3 at bC HZ ⊢
      have HP3:=Lib.hid hp3
      clear hp3
      have c3:v2.cell? ⟨p3,3,none⟩ = some (.slice r'.OA r'.on r'.oc):=(cgAt (Cod.bxd_rd bC)).ops
      have HBC2:=Lib.hid bC
      have HON2:=Lib.hid (show r'.on ≤ 64 ∧ r'.pn ≤ 2 from by
       have h2:=rightCh_parts (HS0.out.ok.right _ (findC_mem HC.out))
       have h3:c.Ops.length ≤ 64:=h2.2.2.2.2.2.1
       have h4:c.Parents.length ≤ 2:=h2.1
       have h5:=HCN2.out.inn.ops.len
       have h6:=HCN2.out.inn.ol
       have h7:=HCN2.out.inn.pl
       omega)
      have hops:∀ q,q < r'.on → ∃ g o,r'.OA = some ⟨g,0,none⟩ ∧ codO.rd v2 g (q * 41) = some o ∧ o.Name = [110]:=fun q hq=>by
       have hol:=HCN2.out.inn.ol
       obtain ⟨g,e,hg,hr⟩:=HCN2.out.oo (fun e=>by rw [e] at hol;simp at hol;omega)
       have hql:q < rs'.length:=by omega
       have hlc:rs'.length = c.Ops.length:=HCN2.out.inn.ops.len
       have hrd:=(hr.fr0 FN2.out).rd q (by simpa using hql)
       have hin:=HCN2.out.inn.ops.at_ q hql (by omega)
       have hnm:=HG.out.name HC.out _ (List.getElem_mem (show q < c.Ops.length by omega))
       rw [hin.eq] at hnm
       refine ⟨g,rs'[q],e,?_,hnm⟩
       have e1:rs'.toArray[q]! = rs'[q]:=by simp [hql]
       rw [e1] at hrd
       exact hrd
      have HOPS:=Lib.hid hops
      clear bC hops
      obtain ⟨PA2,pn2,pc2,T2,R2,OA2,on2,oc2,Tr2,M2⟩:=r'
      dsimp only at c3 HON2 HOPS
      go_wp2_with fail
      go_loopg [97] on2 (fun gk kv wq=>∃ k:Nat,kv = .int .i64 (k:Int) ∧ gk = on2 - k ∧ k ≤ on2 ∧ Fr noB v2 wq)
      case atStart=>exact ⟨0,rfl,by omega,by omega,Fr.refl _ _⟩
      case round =>
       clear c3
       obtain ⟨q,rfl,rfl,hq,hQ⟩:=hrel
       by_cases hql:q < on2
       ·have q1:(q:Int) < (on2:Int):=by omega
        have q0:(0:Int) ≤ (q:Int):=by omega
        obtain ⟨g9,o,rfl,ro,hon⟩:=HOPS.out q hql
        have ro2:=Cod.rd_fr0 ro hQ
        have f9:Fr noB wr (wr.alloc (codO.o o)):=(Fr.refl noB wr).alloc _
        have hnm:(wr.alloc (codO.o o)).cell? ⟨wr.heap.size,7,none⟩ = some (.string (str [110])):=by
         have h:=(opAt (Cod.rd_new' (C:=codO) wr o)).name
         rw [hon] at h
         exact h
        have HQ:=Lib.hid (hQ.step0 f9)
        clear ro hQ f9 hon
        have hsb:((str [110]).toList == [116,117,114,110,101,100]) = false:=by rw [str_toList];rfl
        go_wp2_with fail
        go_roundg (on2 - (q + 1))
        case measure=>omega
        case rel=>exact ⟨q + 1,by rw [show wrap64 ((q:Int) + 1) = (q:Int) + 1 from by unfold wrap64;have:=HON2.out.1;omega];simp,rfl,by omega,HQ.out⟩
       ·have hqn:q = on2:=by omega
        have q1:¬ ((q:Int) < (on2:Int)):=by omega
        have HQN:=Lib.hid hqn
        clear hqn hql hq
        have KQ:=Lib.hid (KB.out.new hQ)
        have bC3:=Cod.bxd_fr0 HBC2.out hQ
        have HQF:=Lib.hid hQ
        clear hQ
        have c0':wr.cell? ⟨p3,0,none⟩ = some (.slice PA2 pn2 pc2):=(cgAt (Cod.bxd_rd bC3)).parents
        have hpl:c.Parents.length = pn2:=HCN2.out.inn.pl
        have oP1:OwnC codI wl v1 PA2 pc2 c.Parents:=by
         have h:=HCN2.out.po
         simp only at h
         rw [← hpl] at h
         exact h
        have oP:=own_new0 (own_new0 (own_new0 oP1 FN2.out) HQF.out) ((Fr.refl noB wr).alloc (rowo [id2 255 255]))
        have HOP:=Lib.hid oP
        have oT:OpsT wl.heap.size (wr.alloc (rowo [id2 255 255])) OA2 rs' c.Ops:=(((OpsT.mk HCN2.out.oo HCN2.out.vo:OpsT wl.heap.size v1 OA2 rs' c.Ops).fr0 FN2.out).fr0 HQF.out).fr0 ((Fr.refl noB wr).alloc _)
        have HOT:=Lib.hid oT
        have HPLE:=Lib.hid hpl
        have bC5:=Cod.bxd_fr0 bC3 ((Fr.refl noB wr).alloc (rowo [id2 255 255]))
        have HB5:=Lib.hid bC5
        have sl5:Sl (wr.alloc (rowo [id2 255 255])) (some ⟨wr.heap.size,0,none⟩) (codI.row [id2 255 255]):=sl_new wr [id2 255 255]
        have K5:=Lib.hid (KQ.out.new ((Fr.refl noB wr).alloc (rowo [id2 255 255])))
        have HBD:=Lib.hid (show (c.Parents.length + [id2 255 255].length) * 32 ≤ 140737488355328 from by have:=HON2.out.2;rw [hpl];simp;omega)
        have HSZ:=Lib.hid (show wl.heap.size ≤ (wr.alloc (rowo [id2 255 255])).heap.size from Nat.le_trans (Nat.le_trans HVF.out.size FN2.out.size) (Nat.le_trans HQF.out.size ((Fr.refl noB wr).alloc (rowo [id2 255 255])).size))
        have HK3:=Lib.hid (show ∀ w5,(wr.alloc (rowo [id2 255 255])).grownBy w5 (PA2.map (·.block)) → codC.bxd w5 p3 = some ⟨PA2,pn2,pc2,T2,R2,OA2,on2,oc2,Tr2,M2⟩ from fun w5 hg=>by
         refine Cod.bxd_fr HB5.out (Fr.ofGrown (M:=fun b=>PA2.map (·.block) = some b) hg (fun g hg=>hg)) (fun e=>?_)
         obtain ⟨cs,hb⟩:=own_Blk HOP.out e
         have h2:=Cod.bxd_blk HB5.out
         unfold Blk at hb h2
         rw [hb] at h2
         injection h2 with h2
         injection h2 with _ h2
         exact absurd h2 (by decide))
        clear oP oP1 oT bC5 hpl bC3
        have hN5:id2 (Int.toNat 255) (Int.toNat 255) = id2 255 255:=rfl
        go_upto_region 31 with (at_builtin;refine wpList_appC' etI wl _ rfl _ _ rfl PA2 pn2 pc2 c.Parents rfl HPLE.out HOP.out (some ⟨wr.heap.size,0,none⟩) 1 1 [id2 255 255] rfl sl5 rfl HBD.out HSZ.out ?_;intro A5 c5 w5 hc5 hm5 ho5 hg5 hA5;have b5:=HK3.out w5 hg5;have k4:=(Cod.bxd_blk b5).frozen 0;have k3:=(cgAt (Cod.bxd_rd b5)).parents)
        have lwl:u0.heap.size ≤ wl.heap.size:=by have:=HJ.out.ge;have:=Cod.bxd_lt HJ.out.bx;omega
        have lp3:wl.heap.size ≤ p3:=by rw [← HP3.out];exact HVF.out.size
        have nS:∀ g,wl.heap.size ≤ g → ¬ S7 g:=fun g hg hS=>by have:=HJ.out.hs.lt hS;omega
        have g5:Fr (fun b=>PA2.map (·.block) = some b) (wr.alloc (rowo [id2 255 255])) w5:=Fr.ofGrown hg5 (fun g hg=>hg)
        have lPA:∀ g,PA2.map (·.block) = some g → wl.heap.size ≤ g:=fun g hg=>(own_lt HOP.out g hg).1
        have b6:=Cod.bxd_set b5 0 (.slice A5 (c.Parents.length + 1) c5) _ (seC_Parents _ A5 (c.Parents.length + 1) c5)
        have f6:=Cod.set_fr w5 p3 0 (.slice A5 (c.Parents.length + 1) c5)
        have hs6:=(K5.out.hs.fr g5 (fun b hb e=>nS b (lPA b e) hb)).fr f6 (fun b hb e=>nS p3 lp3 (by have:b = p3:=e;rw [← this];exact hb))
        have rb6:=rdI_fr (rdI_fr K5.out.bI (rdI_lt K5.out.bI) g5 (fun e=>by have:=lPA _ e;have:=K5.out.bl;omega)) (by have:=rdI_lt K5.out.bI;have:=g5.size;omega) f6 (fun e=>by have:pb = p3:=e;have:=K5.out.bl;omega)
        have o6:OwnC codI wl (w5.setCell ⟨p3,0,none⟩ (.slice A5 (c.Parents.length + 1) c5)) A5 c5 (c.Parents ++ [id2 255 255]):=own_fr ho5 f6 (fun g hg e=>by
         rw [ownBlock_sl'] at hg
         obtain ⟨cs,hb⟩:=own_Blk ho5 hg
         have h2:=Cod.bxd_blk b5
         have e':g = p3:=e
         rw [e'] at hb
         unfold Blk at hb h2
         rw [hb] at h2
         injection h2 with h2
         injection h2 with _ h2
         exact absurd h2 (by decide))
        have oT6:=(HOT.out.grow HOP.out hg5).blk (Cod.bxd_blk b5) (by decide) (by decide) (by decide) f6
        have el:(c.Parents ++ [id2 255 255]).length = c.Parents.length + 1:=by simp
        have hq6:=oT6.q HCN2.out o6 (Nat.le_refl _) (Q:=fun g=>¬ S7 g ∧ g < (w5.setCell ⟨p3,0,none⟩ (.slice A5 (c.Parents.length + 1) c5)).heap.size) (fun g hg hl=>⟨nS g hg,hl⟩) (by rw [el];have:=HON2.out.2;have:=HPLE.out;omega)
        rw [el] at hq6
        have fW6:=(K5.out.fr.step g5 (fun q hq=>.inl (by have:=lPA q hq;have:=HJ.out.lU;omega))).step f6 (fun q hq=>.inl (by have:q = p3:=hq;have:=HJ.out.lU;omega))
        obtain ⟨d,hd⟩:∃ d,d = ({ c with Parents:=c.Parents ++ [id2 255 255] }:Chg):=⟨_,rfl⟩
        rw [← hd] at hq6
        have HNE:=Lib.hid (show ∃ a:Int,(addH L x d).1 = a ∧ ¬ a = 0 ∧ (addH L x d).2 = L from by
         have h:=addH_other (d:=d) HC.out (by rw [hd];intro e;have:=congrArg List.length e;simp at this)
         exact ⟨_,rfl,h.1,h.2⟩)
        have HPL2:=Lib.hid (show d.Parents.length ≤ 1000000000 from by rw [hd];show (c.Parents ++ [id2 255 255]).length ≤ _;rw [el];have:=HON2.out.2;have:=HPLE.out;omega)
        have HNO:=Lib.hid HG.out.no254
        have HSN:=Lib.hid (show (findC L (id2 254 0)).isSome = false from by rw [HNO.out];rfl)
        have HS6:=Lib.hid hs6
        have HQ6:=Lib.hid hq6
        have FW6:=Lib.hid fW6
        have HB6:=Lib.hid b6
        have NS:=Lib.hid nS
        clear hs6 hq6 fW6 b6 oT6 o6 el hd f6 g5 lPA nS ho5 hg5 hA5 hc5 hm5 b5 k3 k4 sl5 c0'
        generalize w5.setCell ⟨p3,0,none⟩ (.slice A5 (c.Parents.length + 1) c5) = w6 at rb6 HS6 HQ6 FW6 HB6 ⊢
        have LW:=Lib.hid (And.intro lwl lp3)
        clear lwl lp3 hN5
        have hN4:id2 (Int.toNat 254) 0 = id2 254 0:=rfl
        go_upto_region 32 with (go_at_call 14;refine (mgCommit_any HS6.out (id2 254 0)).mono ?_;rintro e u9 ⟨r0,rs0,rfl,hc0,f9⟩;rw [HSN.out])
        have ht0:r0.Time = 0:=by
         have h:=hc0.inn.time
         rw [HNO.out] at h
         exact h.symm
        have fn:Fr noB u9 (u9.alloc (codC.o r0)):=(Fr.refl noB u9).alloc _
        have bY:=Cod.bxd_new (C:=codC) u9 r0
        have lY:w6.heap.size ≤ u9.heap.size:=f9.size
        have g10:=f9.step0 fn
        have rb10:=rdI_fr rb6 (rdI_lt rb6) g10 (by simp [noB])
        have b10:=Cod.bxd_fr0 HB6.out g10
        have rC10:=Cod.bxd_rd b10
        have HS10:=Lib.hid (HS6.out.fr0 g10)
        have HQ10:=Lib.hid (HQ6.out.fr g10 (fun _ _=>by simp [noB]))
        have FW10:=Lib.hid (FW6.out.step0 g10)
        have HB10:=Lib.hid b10
        have HT0:=Lib.hid ht0
        have HSZ10:=Lib.hid (show w6.heap.size ≤ (u9.alloc (codC.o r0)).heap.size from g10.size)
        have HSZ6:=Lib.hid (show wl.heap.size ≤ w6.heap.size from by have:=HS6.out;have h2:=Cod.bxd_lt HB6.out;have:=LW.out.2;omega)
        clear hc0 f9 fn g10 b10 ht0 rb6 hN4
        generalize u9.alloc (codC.o r0) = u10 at bY rb10 rC10 HS10 HQ10 FW10 HB10 HSZ10 ⊢
        have hpY:¬ S7 u9.heap.size:=NS.out _ (by have:=HSZ6.out;omega)
        generalize u9.heap.size = p7 at bY hpY ⊢
        have HBY:=Lib.hid bY
        have HPY:=Lib.hid hpY
        clear bY hpY lY
        have HQA:=Lib.hid (show CgQ (fun g=>¬ S7 g) u10 ⟨A5,c.Parents.length + 1,c5,T2,R2,OA2,on2,oc2,Tr2,M2⟩ rs' d from HQ10.out.mono (fun g hg=>hg.1))
        have HQ13:=Lib.hid (show ∀ u11 u13,Fr S7 u10 u11 → Fr noB u11 u13 → CgQ (fun g=>¬ grF S7 u10 u11 g) u13 ⟨A5,c.Parents.length + 1,c5,T2,R2,OA2,on2,oc2,Tr2,M2⟩ rs' d from fun u11 u13 a b=>((HQ10.out.fr a (fun g hg=>hg.1)).fr b (fun _ _=>by simp [noB])).mono (fun g hg hS=>by
         rcases hS with h | h
         ·exact hg.1 h
         ·have h1:=HSZ10.out
          have h2:=hg.2
          omega))
        go_wp2_with fail
        go_at_call 10
        refine (mgAdd_any HS10.out HLL.out x _ rs' d HQA.out HPL2.out).mono ?_
        rintro e u11 ⟨rfl,hs11,f11⟩
        obtain ⟨a,ea,hne,e2⟩:=HNE.out
        rw [e2] at hs11
        rw [ea]
        have hnb:(a != 0) = true:=by simp [hne]
        have hnc:(a == 0) = false:=by simp [hne]
        have HS11:=Lib.hid hs11
        have F11:=Lib.hid f11
        clear hs11 f11 ea e2
        go_wp2_with (first
         | (go_at_call 12;refine (mgDag_any HS11.out).mono ?_;rintro e u12 ⟨D3,Fd3,rfl,hd3,f12⟩;have F12:=Lib.hid f12;clear f12)
         | (go_at_call 13;refine (len_any _ D3 Fd3 (dgH L) hd3).mono ?_;rintro e u13 ⟨rfl,f13⟩;have F13:=Lib.hid (F12.out.step0 f13);clear f13 hd3;have bY13:=Cod.bxd_fr0 (Cod.bxd_fr HBY.out F11.out HPY.out) F13.out;have cY:=(cgAt (Cod.bxd_rd bY13)).time;rw [HT0.out] at cY;have b13:=Cod.bxd_fr0 (Cod.bxd_fr HB10.out F11.out (NS.out p3 LW.out.2)) F13.out;have rC13:=Cod.bxd_rd b13;clear b13 bY13))
        go_at_call 10
        refine (mgAdd_any (HS11.out.fr0 F13.out) HLL.out zID _ rs' d (HQ13.out _ _ F11.out F13.out) HPL2.out).mono ?_
        rintro e u14 ⟨rfl,hs14,f14⟩
        have e0:(addH L zID d).1 = 1:=by rw [addH_zero]
        rw [e0]
        have F14:=Lib.hid f14
        clear hs14 f14 e0
        go_wp2_with fail
        go_ret
        refine ⟨rfl,((FW10.out.step F11.out (fun q hq=>.inl (HLO7.out q hq))).step0 F13.out).step F14.out (fun q hq=>.inl (hq.elim (HLO7.out q) (fun h=>?_)))⟩
        have:=FW10.out.size
        omega
end Go.Proofs.YtjpieiccpbcabaaGreat
namespace Go.Proofs.YtjpieiccpbcabaaGreat
open Go.RowKit
theorem lawKnown15 (W:World) (A0:Option Addr) (c0:Nat) (rs0:List Tri) (hs0:Sl W A0 (codTr.row rs0)) (hb0:rs0.length ≤ 140737488355328) (a1:Int) :
  Calls Tryz.prog 7 #[.slice A0 rs0.length c0,.int .i64 a1] W (Gives W (.bool true)):=known15_any W A0 c0 _ rs0 a1 rfl hs0 (by omega)
end Go.Proofs.YtjpieiccpbcabaaGreat
