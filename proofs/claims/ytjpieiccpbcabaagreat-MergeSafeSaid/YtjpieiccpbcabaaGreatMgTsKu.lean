/- What the rounds of grown have made so far: boxes of a round (a triple, an ID, a commit), rows of int64. -/
import Derived.Test.YtjpieiccpbcabaaGreatFrameT3Ku
import Derived.Test.YtjpieiccpbcabaaGreatMgThPKu
set_option linter.unusedVariables false
set_option linter.unusedSimpArgs false
namespace Go.Proofs.YtjpieiccpbcabaaGreat
open Go.RowKit Go.Maps Go.Sort
def cod64:Cod Int:=⟨2,1,fun b=>[.int .i64 b],0,fun _=>rfl,by decide,fun x u hu=>by
 rw [List.mem_singleton] at hu
 subst hu;rfl,fun x y h=>by
 have h2:Value.int .i64 x = Value.int .i64 y:=by injection h
 injection h2⟩
theorem et64:ET Tryz.prog 122 cod64.t cod64.n 8:=ET.mk' (z:=.int .i64 0) Tryz.underlying122 (by kernel_rfl) rfl (by decide) (by decide)
theorem Sl.cell1 {α:Type} {C:Cod α} (hn:C.n = 1) {w:World} {g off:Nat} {l:List α} (h:Sl w (some ⟨g,off,none⟩) (C.row l)) (i:Nat) (hi:i < l.length) {v:Value} (hv:C.cs l[i] = [v]):w.cell? ⟨g,off + i,none⟩ = some v:=by
 have h2:=Cod.row_get l i 0 hi v (by rw [hv];rfl)
 rw [hn,Nat.mul_one,Nat.add_zero] at h2
 have hne:C.row l ≠ []:=by
  intro e
  rw [e] at h2
  simp at h2
 obtain ⟨g',off',e,_,hc⟩:=h hne
 injection e with e
 injection e with e1 e2
 subst e1 e2
 exact hc i v h2
theorem bldC_p3 (w:World) (t r:Int) (x:ID):(Instr.build 35 #[(1,.int .i64 t),(2,.int .i64 r),(4,encI x)]).run Tryz.prog w = .ok (.agg (codC.A { zCgW with Time:=t,R:=r,Tree:=x })) w:=by
 have h1:∀ place:Nat → Option (Nat × Nat),place 1 = some (1,1) → place 2 = some (2,1) → place 4 = some (4,32) → Instr.fill place ([Value.slice none 0 0] ++ [Value.int .i64 0] ++ ([Value.int .i64 0,Value.slice none 0 0] ++ bv zID.1 ++ [Value.string (str [])])).toArray [(1,.int .i64 t),(2,.int .i64 r),(4,encI x)] = some (codC.cs { zCgW with Time:=t,R:=r,Tree:=x }).toArray:=by
  intro place p1 p2 p4
  refine (fill_one place [.slice none 0 0] [.int .i64 0] ([.int .i64 0,.slice none 0 0] ++ bv zID.1 ++ [.string (str [])]) [.int .i64 t] 1 (.int .i64 t) _ rfl (by simpa using p1) rfl).trans ?_
  have e2:=fill_one place [.slice none 0 0,.int .i64 t] [.int .i64 0] ([.slice none 0 0] ++ bv zID.1 ++ [.string (str [])]) [.int .i64 r] 2 (.int .i64 r) [(4,encI x)] rfl (by simpa using p2) rfl
  refine Eq.trans ?_ (e2.trans ?_)
  ·simp
  have e4:=fill_one place [.slice none 0 0,.int .i64 t,.int .i64 r,.slice none 0 0] (bv zID.1) [.string (str [])] (bv x.1) 4 (encI x) [] (cellsI x) (by simpa [x.2] using p4) (by simp [x.2,zID])
  refine Eq.trans ?_ (e4.trans ?_)
  ·simp
  ·simp [Instr.fill,codC,csC,zCgW]
 have hz:(zeroValue 35).run Tryz.prog w = .ok (.agg (codC.cs codC.z).toArray) w:=okC.zero w
 have hc:(Value.agg (codC.cs codC.z).toArray).cells = ([Value.slice none 0 0] ++ [Value.int .i64 0] ++ ([Value.int .i64 0,Value.slice none 0 0] ++ bv zID.1 ++ [Value.string (str [])])).toArray:=rfl
 have hsI:∀ w,(sizeOf 24).run Tryz.prog w = .ok 32 w:=fun w=>Tryz.sizeOf24 w
 simp only [Instr.build,Sem.run_bind,hz,Result.andThen_ok,run_underlying Tryz.underlying35,hc]
 simp only [List.mapM_toArray,List.mapM_cons,List.mapM_nil,Sem.run_bind,hsI,Tryz.sizeOf9,Tryz.sizeOf32,Tryz.sizeOf33,Tryz.sizeOf2,Tryz.sizeOf3,Result.andThen_ok,Sem.run_pure,Sem.run_map,map_pure,bind_pure_comp]
 rw [h1 _ rfl rfl rfl]
 simp [Cod.A_eq]
@[simp ↓] theorem ex_bldCp3 (ρ:Operand → Value) (x1 x2 x4:Operand) (d:Option Nat) (t:TypeId) (p:String) (f:Array Edge) (g:Option (Nat × Bool)) (w:World) :
  (execOp ρ { dst:=d,op:=.build 35 #[(1,x1),(2,x2),(4,x4)],type:=t,pos:=p,after:=f,guard:=g }).run Tryz.prog w = mkB 35 w [(1,ρ x1),(2,ρ x2),(4,ρ x4)]:=(exB ρ _ _ _ rfl w).trans (by simp only [List.map_toArray,List.map_cons,List.map_nil])
@[simp] theorem mkB_Cp3 (w:World) (t r:Int) (x:ID):mkB 35 w [(1,.int .i64 t),(2,.int .i64 r),(4,encI x)] = .ok (.value (.agg (codC.A { zCgW with Time:=t,R:=r,Tree:=x }))) w:=mkB_ok (bldC_p3 w t r x)
@[simp] theorem mkB_Op4n (w:World) (k:Int) (a s:St):mkB 83 w [(0,.int .i64 k),(1,.agg (codS.A a)),(2,.agg (codS.A s)),(4,.string { data:=#[110] })] = .ok (.value (.agg (codO.A { zOpW with Kind:=k,At:=a,Node:=s,Name:=[110] }))) w:=mkB_Op4 w k a s [110]
structure GB (wr W w:World) (P:Nat) (x:Tri) (k:Nat) (cw:CgW):Prop where
 n:codTr.rd w P 0 = some x
 i:rdI w (P + 1) 0 = some (idG k)
 c:codC.bxd w (P + 2) = some cw
 fr:Fr noB wr w
 ge:W.heap.size ≤ w.heap.size
 hP:P = wr.heap.size
 hW:W.heap.size = P + 3
theorem GB.new {wr W w w':World} {P k:Nat} {x:Tri} {cw:CgW} (h:GB wr W w P x k cw) (f:Fr noB w w'):GB wr W w' P x k cw :=
 ⟨Cod.rd_fr0 h.n f,rdI_fr h.i (rdI_lt h.i) f (by simp [noB]),Cod.bxd_fr0 h.c f,h.fr.step0 f,Nat.le_trans h.ge f.size,h.hP,h.hW⟩
theorem GB.lt {wr W w:World} {P k:Nat} {x:Tri} {cw:CgW} (h:GB wr W w P x k cw):P + 3 ≤ w.heap.size:=by rw [← h.hW];exact h.ge
theorem GB.far {wr W w w':World} {P k:Nat} {x:Tri} {cw:CgW} {M:Nat → Prop} (h:GB wr W w P x k cw) (f:Fr M w w') (hM:∀ b,M b → P + 2 < b):GB wr W w' P x k cw :=
 ⟨Cod.rd_fr h.n f (fun e=>by have:=hM _ e;omega),rdI_fr h.i (rdI_lt h.i) f (fun e=>by have:=hM _ e;omega),Cod.bxd_fr h.c f (fun e=>by have:=hM _ e;omega),
  h.fr.step f (fun q hq=>.inl (by have:=hM _ hq;have:=h.hP;omega)),Nat.le_trans h.ge f.size,h.hP,h.hW⟩
theorem GB.grow {wr W w w':World} {P k c:Nat} {x:Tri} {cw:CgW} {A:Option Addr} {ps:List ID} (h:GB wr W w P x k cw) (ho:OwnC codI W w A c ps) (hg:w.grownBy w' (A.map (·.block))):GB wr W w' P x k cw :=
 h.far (M:=fun b=>A.map (·.block) = some b) (Fr.ofGrown hg (fun g hg=>hg)) (fun b hb=>by have:=(own_lt ho b hb).1;have:=h.hW;omega)
theorem own0 (W w:World):OwnC codI W w none 0 []:=World.ownsRow_nil _ _ _ _
theorem GB.grow0 {wr W w w':World} {P k:Nat} {x:Tri} {cw:CgW} (h:GB wr W w P x k cw) (hg:w.grownBy w' ((none:Option Addr).map (·.block))):GB wr W w' P x k cw :=
 h.grow (own0 W w) hg
theorem GB.set {wr W w:World} {P k:Nat} {x:Tri} {cw:CgW} (h:GB wr W w P x k cw) (o:Nat) (v:Value) (cw':CgW) (hs:(codC.cs cw).set o v = codC.cs cw'):GB wr W (w.setCell ⟨P + 2,o,none⟩ v) P x k cw':=by
 have f:=Cod.set_fr w (P + 2) o v
 refine ⟨Cod.rd_fr h.n f (fun e=>by have:P = P + 2:=e;omega),rdI_fr h.i (rdI_lt h.i) f (fun e=>by have:P + 1 = P + 2:=e;omega),Cod.bxd_set h.c o v _ hs,h.fr.step f (fun q hq=>.inl (by have:q = P + 2:=hq;have:=h.hP;omega)),Nat.le_trans h.ge f.size,h.hP,h.hW⟩
theorem GB.own {wr W w:World} {P k c:Nat} {x:Tri} {cw:CgW} {A:Option Addr} {ps:List ID} (h:GB wr W w P x k cw) (ho:OwnC codI W w A c ps) (o:Nat) (v:Value):OwnC codI W (w.setCell ⟨P + 2,o,none⟩ v) A c ps :=
 own_fr ho (Cod.set_fr w (P + 2) o v) (fun g hg e=>by
  rw [ownBlock_sl'] at hg
  have h1:=(own_lt ho g hg).1
  have h2:g = P + 2:=e
  have:=h.hW
  omega)
theorem GB.tri {wr W w:World} {P k:Nat} {x:Tri} {cw:CgW} (h:GB wr W w P x k cw):w.cell? ⟨P,0,none⟩ = some (.int .i64 x.a) ∧ w.cell? ⟨P,1,none⟩ = some (.int .i64 x.b) ∧ w.cell? ⟨P,2,none⟩ = some (.int .i64 x.c):=by
 have t:=trAt h.n
 refine ⟨t.a,?_,?_⟩
 ·simpa using t.b
 ·simpa using t.c
def rowG (n:Nat):List ID:=(List.range n).map idG
theorem rowG_len (n:Nat):(rowG n).length = n:=by simp [rowG]
theorem rowG_get (n i:Nat) (h:i < (rowG n).length):(rowG n)[i] = idG i:=by simp [rowG]
theorem rowG_succ (n:Nat):rowG (n + 1) = rowG n ++ [idG n]:=by simp [rowG,List.range_succ]
structure GR (w0 w:World) (H:Nat) (S:Nat → Prop) (L:Hst) (ts:List Int) (A:Option Addr) (cA:Nat) (B:Option Addr) (cB:Nat):Prop where
 hs:Hs w H S L
 g:Gw L ts
 ia:OwnC codI w0 w A cA (rowG ts.length)
 tm:OwnC cod64 w0 w B cB ts
 na:∀ g,A.map (·.block) = some g → ¬ S g
 nb:∀ g,B.map (·.block) = some g → ¬ S g
 lo:∀ b,S b → w0.heap.size ≤ b
 fr:Fr noB w0 w
theorem GR.next {w0 wr v1 w6 w7:World} {H:Nat} {S:Nat → Prop} {L L':Hst} {ts:List Int} {A A6 B B7:Option Addr} {cA cB c6 c7:Nat} {t:Int} (h:GR w0 wr H S L ts A cA B cB)
  (g':Gw L' (ts ++ [t])) {u:World} (fu:Fr noB wr u) (hs1:Hs v1 H (grF S u v1) L') (f1:Fr S u v1) {x1:World} (fx:Fr noB v1 x1)
  (o6:OwnC codI w0 w6 A6 c6 (rowG ts.length ++ [idG ts.length])) (g6:x1.grownBy w6 (A.map (·.block))) (a6:A6.map (·.block) = A.map (·.block) ∨ A6.map (·.block) = some x1.heap.size) {x6:World} (fx6:Fr noB w6 x6)
  (o7:OwnC cod64 w0 w7 B7 c7 (ts ++ [t])) (g7:x6.grownBy w7 (B.map (·.block))) (a7:B7.map (·.block) = B.map (·.block) ∨ B7.map (·.block) = some x6.heap.size) :
  GR w0 w7 H (grF S u v1) L' (ts ++ [t]) A6 c6 B7 c7:=by
 have lu:=fu.size
 have l1:=f1.size
 have lx:=fx.size
 have f6:Fr (fun b=>A.map (·.block) = some b) x1 w6:=Fr.ofGrown g6 (fun g hg=>hg)
 have f7:Fr (fun b=>B.map (·.block) = some b) x6 w7:=Fr.ofGrown g7 (fun g hg=>hg)
 have l6:=f6.size
 have lx6:=fx6.size
 have l7:=f7.size
 have bA:∀ g,A.map (·.block) = some g → w0.heap.size ≤ g ∧ g < wr.heap.size:=fun g hg=>own_lt h.ia g hg
 have bB:∀ g,B.map (·.block) = some g → w0.heap.size ≤ g ∧ g < wr.heap.size:=fun g hg=>own_lt h.tm g hg
 have nA:∀ b,grF S u v1 b → ¬ A.map (·.block) = some b:=fun b hb e=>hb.elim (h.na b e) (fun h'=>by have:=(bA b e).2;omega)
 have nB:∀ b,grF S u v1 b → ¬ B.map (·.block) = some b:=fun b hb e=>hb.elim (h.nb b e) (fun h'=>by have:=(bB b e).2;omega)
 have nAB:∀ g,A6.map (·.block) = some g → ¬ B.map (·.block) = some g:=fun g hg e=>by
  rcases a6 with h' | h'
  ·rw [h'] at hg
   obtain ⟨_,cA1,z1,hA1⟩:=own_blk h.ia hg
   obtain ⟨_,cB1,z2,hB1⟩:=own_blk h.tm e
   rw [hA1] at hB1
   injection hB1 with hB1
   injection hB1 with _ h2
   exact absurd h2 (by decide)
  ·rw [h'] at hg
   injection hg with hg
   have:=(bB g e).2
   omega
 refine ⟨((((hs1.fr0 fx).fr f6 nA).fr0 fx6).fr f7 nB),g',?_,o7,?_,?_,fun b hb=>hb.elim (h.lo b) (fun h'=>by have:=h.fr.size;omega),?_⟩
 ·have e:(ts ++ [t]).length = ts.length + 1:=by simp
  rw [e,rowG_succ]
  refine own_fr (own_new0 o6 fx6) f7 (fun g hg=>?_)
  rw [ownBlock_sl'] at hg
  exact nAB g hg
 ·intro g hg hS
  rcases a6 with h' | h'
  ·rw [h'] at hg
   exact nA g hS hg
  ·rw [h'] at hg
   injection hg with hg
   have:=hs1.lt hS
   omega
 ·intro g hg hS
  rcases a7 with h' | h'
  ·rw [h'] at hg
   exact nB g hS hg
  ·rw [h'] at hg
   injection hg with hg
   have:=hs1.lt hS
   omega
 ·have F1:=(h.fr.step0 fu).step f1 (fun q hq=>.inl (h.lo q hq))
  have F2:=(F1.step0 fx).step f6 (fun q hq=>.inl (bA q hq).1)
  exact (F2.step0 fx6).step f7 (fun q hq=>.inl (bB q hq).1)
theorem and_maskM (x:Int) (m:Nat) (hm:m ≤ 1023):∃ r:Nat,bits BinOp.and IntKind.i64 x (m:Int) = (r:Int) ∧ r ≤ m:=by
 refine ⟨(BitVec.ofInt 64 x &&& BitVec.ofInt 64 (m:Int)).toNat,?_,?_⟩
 ·have hle:(BitVec.ofInt 64 x &&& BitVec.ofInt 64 (m:Int)).toNat ≤ 1023:=by
   rw [BitVec.toNat_and]
   refine Nat.le_trans Nat.and_le_right ?_
   rw [BitVec.toNat_ofInt]
   omega
  show IntKind.i64.wrap (((BitVec.ofInt 64 x &&& BitVec.ofInt 64 (m:Int)).toNat:Nat):Int) = _
  rw [IntKind.wrap_i64]
  omega
 ·rw [BitVec.toNat_and]
  refine Nat.le_trans Nat.and_le_right ?_
  rw [BitVec.toNat_ofInt]
  omega
def cwG (A:Option Addr) (n c:Nat) (t:Int) (k:Nat) (B:Option Addr) (m d:Nat):CgW:=⟨A,n,c,t,1 + (k:Int),B,m,d,id2 1 0,[]⟩
structure PsG (ts:List Int) (t:Int) (ps:List ID) (m:Int):Prop where
 par:ParG ts.length ps
 at_:∀ p ∈ ps,∃ (j:Nat) (hj:j < ts.length),p = idG j ∧ ts[j] < t
 lo:1 ≤ t
 hi:t ≤ 4 * (ts.length:Int) + m
def opWG (t:Int) (k:Nat) (nd pr:St):OpW:=⟨1,⟨t,1 + (k:Int)⟩,nd,pr,[110],zID,none,0,0⟩
theorem opWG_in (w:World) (t:Int) (k:Nat) (nd pr:St):OpIn w (opWG t k nd pr) (opG t k nd pr):=⟨by unfold opG opWG opOf;rw [Int.add_comm],rfl,Sl.nil _ _,by simp [opG],by simp [opWG]⟩
theorem cwG_q {Q:Nat → Prop} {w:World} {PA OA:Option Addr} {pc oc k:Nat} {t:Int} {ps:List ID} {rs:List OpW} {ops:List Opn} (hp:Sl w PA (idc ps)) (hpq:ps ≠ [] → InQ Q PA) (ho:Sl w OA (codO.row rs)) (hoq:rs ≠ [] → InQ Q OA)
  (hb:ps.length ≤ 1000) (h:(rs = [] ∧ ops = []) ∨ ∃ nd pr,rs = [opWG t k nd pr] ∧ ops = [opG t k nd pr]):CgQ Q w (cwG PA ps.length pc t k OA rs.length oc) rs (chG ps t k ops):=by
 refine ⟨⟨rfl,Int.add_comm _ _,rfl,rfl,rfl,hp,rfl,ho,?_,by show ps.length ≤ _;omega,?_,by simp [cwG]⟩,hpq,hoq,?_⟩
 ·rcases h with ⟨rfl,rfl⟩ | ⟨nd,pr,rfl,rfl⟩
  ·exact ⟨rfl,fun i h=>absurd h (by simp)⟩
  ·refine ⟨rfl,fun i h h'=>?_⟩
   have:i = 0:=by simpa using h
   subst this
   exact opWG_in w t k nd pr
 ·rcases h with ⟨rfl,_⟩ | ⟨nd,pr,rfl,_⟩ <;> simp
 ·rcases h with ⟨rfl,rfl⟩ | ⟨nd,pr,rfl,rfl⟩
  ·exact fun i h=>absurd h (by simp)
  ·intro i h h'
   have:i = 0:=by simpa using h
   subst this
   exact ⟨opWG_in w t k nd pr,fun h=>absurd rfl h⟩
theorem rightS_G {t:Int} {j:Nat} (h:1 ≤ t ∧ t ≤ 100) (hj:j < 20):rightS ⟨t,1 + (j:Int)⟩ = true:=by
 unfold rightS
 simp
 omega
theorem PsG.len {ts:List Int} {t m:Int} {ps:List ID} (h:PsG ts t ps m):ps.length ≤ 2:=by
 rcases h.par with rfl | ⟨a,_,rfl⟩ | ⟨a,b,_,_,rfl⟩ <;> simp
end Go.Proofs.YtjpieiccpbcabaaGreat
