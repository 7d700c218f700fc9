/- Rows of a tree as they lie in memory: cells, parts, rows of rows; rules for the walk. Maps with stamps as keys, read by a function: facts on it are rewrite rules of the walk. Tables of rows: what lies at a node; depths. Plain: what snap.Right's loops have found up to now. Entries of a map taken away. -/
import Derived.Test.YtjpieiccpbcabaaGreatStWKu
import Derived.Test.YtjpieiccpbcabaaGreatQFrKu
import Derived.Test.YtjpieiccpbcabaaGreatRightCKu
import Derived.Test.YtjpieiccpbcabaaGreatNumWKu
import Derived.Test.YtjpieiccpbcabaaGreatBoxOKu
import Derived.DeepKeys4
import Derived.WideLaws
set_option linter.unusedVariables false
set_option linter.unusedSimpArgs false
namespace Go.Proofs.YtjpieiccpbcabaaGreat
open Go.RowKit
structure RwW where
 Node:St
 Parent:St
 At:St
 Name:List UInt8
 A:Option Addr
 n:Nat
 c:Nat
def csR (r:RwW):List Value:=[.int .i64 r.Node.T,.int .i64 r.Node.R,.int .i64 r.Parent.T,.int .i64 r.Parent.R,.int .i64 r.At.T,.int .i64 r.At.R,.string (str r.Name),.slice r.A r.n r.c]
def zRwW:RwW:=⟨zSt,zSt,zSt,[],none,0,0⟩
def codR:Cod RwW:=⟨110,8,csR,zRwW,fun x=>by simp [csR],by decide,fun x u hu=>by
  simp only [csR,List.mem_cons,List.not_mem_nil,or_false] at hu
  rcases hu with rfl | rfl | rfl | rfl | rfl | rfl | rfl | rfl <;> rfl,fun x y h=>by
 obtain ⟨⟨a,b⟩,⟨a2,b2⟩,⟨a3,b3⟩,nm,A,n,c⟩:=x;obtain ⟨⟨a',b'⟩,⟨a2',b2'⟩,⟨a3',b3'⟩,nm',A',n',c'⟩:=y
 simp only [csR] at h;simp only [List.cons.injEq,Value.int.injEq,Value.string.injEq,Value.slice.injEq,true_and,and_true] at h
 obtain ⟨rfl,rfl,rfl,rfl,rfl,rfl,hn,h1,h2,h3⟩:=h
 have hn:=str_inj hn
 subst hn h1 h2 h3
 rfl⟩
theorem okR:CodOk Tryz.prog codR:=⟨⟨_,Tryz.underlying110,rfl⟩,by kernel_rfl,fun w=>(zero_of_info (P:=Tryz.prog) (t:=110) (v:=.agg (codR.cs codR.z).toArray) (n:=8) (by kernel_rfl)).1 w⟩
@[simp ↓] theorem ex_ldR (ρ:Operand → Value) (d:Option Nat) (a:Operand) (t:TypeId) (p:String) (f:Array Edge) (g:Option (Nat × Bool)) (w:World) :
  (execOp ρ { dst:=d,op:=.load 110 a,type:=t,pos:=p,after:=f,guard:=g }).run Tryz.prog w = codR.ldR w (ρ a) (exElse ρ { dst:=d,op:=.load 110 a,type:=t,pos:=p,after:=f,guard:=g } w):=okR.ldOp ρ _ a rfl w
@[simp ↓] theorem ex_alR (ρ:Operand → Value) (d:Option Nat) (t:TypeId) (p:String) (f:Array Edge) (g:Option (Nat × Bool)) (w:World) :
  (execOp ρ { dst:=d,op:=.alloc 110,type:=t,pos:=p,after:=f,guard:=g }).run Tryz.prog w = .ok (.value (.pointer (some ⟨w.heap.size,0,none⟩))) (w.alloc (codR.o zRwW)):=okR.alOp ρ _ rfl w
@[simp ↓] theorem ex_stR (ρ:Operand → Value) (a x:Operand) (d:Option Nat) (t:TypeId) (p:String) (f:Array Edge) (g:Option (Nat × Bool)) (w:World) :
  (execOp ρ { dst:=d,op:=.store 110 a x,type:=t,pos:=p,after:=f,guard:=g }).run Tryz.prog w = codR.stR w (ρ a) (ρ x):=Cod.stOp (C:=codR) ρ _ a x rfl w
@[simp] theorem st_newR (w:World) (x y:RwW):codR.stR (w.alloc (codR.o y)) (.pointer (some ⟨w.heap.size,0,none⟩)) (.agg (codR.A x)) = .ok .skip (w.alloc (codR.o x)):=okR.stR_new w x y
theorem ex_ldR_at {ρ:Operand → Value} {o:Oper} {a:Operand} {w:World} {b off:Nat} {x:RwW} (ho:o.op = .load 110 a) (ha:ρ a = .pointer (some ⟨b,off,none⟩)) (hr:codR.rd w b off = some x) :
  (execOp ρ o).run Tryz.prog w = .ok (.value (.agg (codR.A x))) w:=okR.ex_ld ho ha hr
theorem etR:ET Tryz.prog 55 codR.t codR.n 88:=ET.mk' (z:=.agg (codR.cs codR.z).toArray) Tryz.underlying55 (by kernel_rfl) (by simp only [Value.cells];kernel_rfl) (by decide) (by decide)
theorem bs_R (w:World) (x:RwW):(Instr.buildSlice 55 1 #[(0,.agg (codR.A x))]).run Tryz.prog w = .ok (.slice (some ⟨w.heap.size,0,none⟩) 1 1) (w.alloc (codR.ro [x])):=okR.bs1 55 Tryz.underlying55 Tryz.sizeOf110 (by decide) w x
@[simp ↓] theorem ex_bsR (ρ:Operand → Value) (a:Operand) (d:Option Nat) (t:TypeId) (p:String) (f:Array Edge) (g:Option (Nat × Bool)) (w:World) :
  (execOp ρ { dst:=d,op:=.buildSlice 55 1 #[(0,a)],type:=t,pos:=p,after:=f,guard:=g }).run Tryz.prog w = bsR 55 w (ρ a):=bsOp 55 ρ _ a rfl w
@[simp] theorem bsR_R (w:World) (x:RwW):bsR 55 w (.agg (codR.A x)) = .ok (.value (.slice (some ⟨w.heap.size,0,none⟩) 1 1)) (w.alloc (codR.ro [x])):=by
 unfold bsR;rw [bs_R];rfl
structure RwAt (w:World) (b:Nat) (r:RwW):Prop where
 node:codS.rd w b 0 = some r.Node
 parent:codS.rd w b 2 = some r.Parent
 At:codS.rd w b 4 = some r.At
 name:w.cell? ⟨b,6,none⟩ = some (.string (str r.Name))
 heads:w.cell? ⟨b,7,none⟩ = some (.slice r.A r.n r.c)
 self:codR.rd w b 0 = some r
theorem rwAt {w:World} {b:Nat} {r:RwW} (h:codR.rd w b 0 = some r):RwAt w b r:=by
 have e (k:Nat) {v:Value} (hv:(codR.cs r)[k]? = some v):=by simpa using Cod.rd_cell h k hv
 have s (k:Nat) {x:St} (hv:∀ j v,(codS.cs x)[j]? = some v → (codR.cs r)[k + j]? = some v):=by simpa using Cod.rd_part (C':=codS) h k hv
 exact ⟨s 0 (get2 _ _ 0 rfl rfl),s 2 (get2 _ _ 2 rfl rfl),s 4 (get2 _ _ 4 rfl rfl),e 6 rfl,e 7 rfl,h⟩
structure RwAtO (w:World) (b o:Nat) (r:RwW):Prop where
 node:codS.rd w b o = some r.Node
 parent:codS.rd w b (o + 2) = some r.Parent
 At:codS.rd w b (o + 4) = some r.At
 name:w.cell? ⟨b,o + 6,none⟩ = some (.string (str r.Name))
 heads:w.cell? ⟨b,o + 7,none⟩ = some (.slice r.A r.n r.c)
 self:codR.rd w b o = some r
theorem rwAtO {w:World} {b o:Nat} {r:RwW} (h:codR.rd w b o = some r):RwAtO w b o r:=by
 have e (k:Nat) {v:Value} (hv:(codR.cs r)[k]? = some v):=Cod.rd_cell h k hv
 have s (k:Nat) {x:St} (hv:∀ j v,(codS.cs x)[j]? = some v → (codR.cs r)[k + j]? = some v):=Cod.rd_part (C':=codS) h k hv
 exact ⟨s 0 (get2 _ _ 0 rfl rfl),s 2 (get2 _ _ 2 rfl rfl),s 4 (get2 _ _ 4 rfl rfl),e 6 rfl,e 7 rfl,h⟩
def wfS (s:St):Bool:=decide (-9223372036854775808 ≤ s.T) && decide (s.T ≤ 9223372036854775807) && decide (-9223372036854775808 ≤ s.R) && decide (s.R ≤ 9223372036854775807)
theorem rightS_wf {s:St} (h:rightS s = true):wfS s = true:=by
 unfold rightS at h
 unfold wfS
 simp only [Bool.and_eq_true,decide_eq_true_eq] at h ⊢
 omega
theorem fixedS_wf {s:St} (h:fixedS s = true):wfS s = true:=by
 unfold fixedS at h
 unfold wfS
 simp only [Bool.and_eq_true,Bool.or_eq_true,decide_eq_true_eq] at h ⊢
 omega
def rwOf (r:RwW) (hs:List Hd):RwP:=⟨r.Node,r.Parent,r.At,r.Name,hs⟩
structure RwIn (w:World) (r:RwW) (x:RwP):Prop where
 eq:x = rwOf r x.Heads
 len:x.Heads.length = r.n
 sl:Sl w r.A (codH.row x.Heads)
 bd:x.Heads.length ≤ 140737488355328
 nm:r.Name.length ≤ 140737488355328
 wn:wfS r.Node = true
 wp:wfS r.Parent = true
theorem RwIn.node {w:World} {r:RwW} {x:RwP} (h:RwIn w r x):x.Node = r.Node:=by rw [h.eq];rfl
theorem RwIn.parent {w:World} {r:RwW} {x:RwP} (h:RwIn w r x):x.Parent = r.Parent:=by rw [h.eq];rfl
theorem RwIn.name {w:World} {r:RwW} {x:RwP} (h:RwIn w r x):x.Name = r.Name:=by rw [h.eq];rfl
theorem RwIn.at_ {w:World} {r:RwW} {x:RwP} (h:RwIn w r x):x.At = r.At:=by rw [h.eq];rfl
structure RwsIn (w:World) (rs:List RwW) (xs:List RwP):Prop where
 len:rs.length = xs.length
 at_:∀ i (h:i < rs.length) (h':i < xs.length),RwIn w rs[i] xs[i]
end Go.Proofs.YtjpieiccpbcabaaGreat
namespace Go.Proofs.YtjpieiccpbcabaaGreat
open Go.RowKit Go.Maps Go.Sort
theorem laidOutP:laidOutB Tryz.prog = true:=by kernel_rfl
abbrev KS:={ s:St // wfS s = true }
abbrev encK (k:KS):Value:=.agg (codS.A k.1)
theorem wf_lit {k:Int} (h1 : -9223372036854775808 ≤ k) (h2:k ≤ 9223372036854775807):(Lit.int .i64 k).wf = true:=by
 simp only [Lit.wf]
 have e1:IntKind.i64.min = -9223372036854775808:=rfl
 have e2:IntKind.i64.max = 9223372036854775807:=rfl
 rw [e1,e2]
 simp [h1,h2]
theorem keyK_good (x:KS):∃ l,keyOf Tryz.prog 80 (encK x) = some l:=by
 have h1:Tryz.prog.keyType 80 = true:=by kernel_rfl
 have h2:Tryz.prog.cellsOf 80 = 2:=by kernel_rfl
 have h3:Tryz.prog.cellsOf 2 = 1:=by kernel_rfl
 have h3':Tryz.prog.cellsOf 3 = 1:=by kernel_rfl
 have hw:=x.2
 unfold wfS at hw
 simp only [Bool.and_eq_true,decide_eq_true_eq] at hw
 have w1:=wf_lit hw.1.1.1 hw.1.1.2
 have w2:=wf_lit hw.1.2 hw.2
 have h4:(encK x).formed Tryz.prog 80 = true:=by
  simp [Value.formed,Tryz.underlying80,h2,Cod.A_eq,codS,csS]
 have hs:∃ d,Tryz.prog.types.size = d + 1:=⟨Tryz.prog.types.size - 1,by
  have:0 < Tryz.prog.types.size:=of_decide_eq_true (by kernel_rfl)
  omega⟩
 obtain ⟨d,hd⟩:=hs
 have k1:Tryz.prog.keyLits (d + 1) 2 [.int .i64 x.1.T] = some [.int .i64 x.1.T]:=by
  simp [Program.keyLits,Tryz.underlying2,w1]
 have k2:Tryz.prog.keyLits (d + 1) 3 [.int .i64 x.1.R] = some [.int .i64 x.1.R]:=by
  simp [Program.keyLits,Tryz.underlying3,w2]
 have hk:∃ ls,Tryz.prog.keyLits (Tryz.prog.types.size + 1) 80 (encK x).cells.toList = some ls:=by
  have hc:(encK x).cells.toList = [.int .i64 x.1.T,.int .i64 x.1.R]:=by simp [Value.cells,Cod.A_eq,codS,csS]
  rw [hc,hd]
  unfold Program.keyLits
  rw [Tryz.underlying80]
  simp [h2,h3,h3',k1,k2]
 obtain ⟨ls,hls⟩:=hk
 unfold keyOf
 rw [Tryz.underlying80]
 simp only [h1,h4,Bool.and_self,if_true]
 rw [hls]
 exact ⟨_,rfl⟩
theorem keyK:KeyE Tryz.prog 80 encK where
 K:=Keyed.of_law (deep_law_laid laidOutP (m:=8) (by decide) (of_decide_eq_true (by kernel_rfl)) (by kernel_rfl) (by kernel_rfl))
 good:=keyK_good
 inj:=fun a b h=>Subtype.ext (Cod.v_inj (C:=codS) h)
def upK (kv:List (KS × Value)):List (St × Value):=kv.map fun p=>(p.1.1,p.2)
theorem look_upK (kv:List (KS × Value)) (k:KS):look (upK kv) k.1 = look kv k:=by
 induction kv with
 | nil=>rfl
 | cons p kv ih =>
  unfold look upK at ih ⊢
  rw [List.map_cons,List.find?_cons,List.find?_cons]
  by_cases h:p.1 = k
  ·simp [h]
  ·have h':p.1.1 ≠ k.1:=fun e=>h (Subtype.ext e)
   simp only [h,h',decide_false]
   exact ih
theorem putL_upK (kv:List (KS × Value)) (k:KS) (v:Value):putL (upK kv) k.1 v = upK (putL kv k v):=by
 unfold putL
 rw [look_upK]
 split
 ·unfold upK
  rw [List.map_map,List.map_map]
  refine List.map_congr_left fun p _=>?_
  simp only [Function.comp_apply]
  by_cases h:p.1 = k
  ·simp [h]
  ·have h':p.1.1 ≠ k.1:=fun e=>h (Subtype.ext e)
   simp [h,h']
 ·simp [upK]
theorem MapL.uniqK {w:World} {r:Nat} {a b:List (KS × Value)} (ha:MapL encK w r a) (hb:MapL encK w r b):a = b:=by
 obtain ⟨es,c,h1,e1⟩:=ha
 obtain ⟨es',c',h2,e2⟩:=hb
 rw [h1] at h2
 injection h2 with h2
 injection h2 with h2 _
 subst h2
 have h:=e1.is.symm.trans e2.is
 have inj:∀ (p q:KS × Value),(encK p.1,p.2) = (encK q.1,q.2) → p = q:=by
  intro p q e
  simp only [Prod.mk.injEq] at e
  exact Prod.ext (keyK.inj _ _ e.1) e.2
 clear e1 e2 h1
 induction a generalizing b with
 | nil=>cases b with
  | nil=>rfl
  | cons q b=>simp at h
 | cons p a ih=>cases b with
  | nil=>simp at h
  | cons q b =>
   simp only [List.map_cons,List.cons.injEq] at h
   rw [inj p q h.1,ih h.2]
open Classical in
noncomputable def mpT (w:World) (r:Nat):Option (List (St × Value)):=if h:∃ kv,MapL encK w r kv then some (upK h.choose) else none
theorem MapL.mpT {w:World} {r:Nat} {kv:List (KS × Value)} (h:MapL encK w r kv):mpT w r = some (upK kv):=by
 unfold Go.Proofs.YtjpieiccpbcabaaGreat.mpT
 have hx:∃ x,MapL encK w r x:=⟨kv,h⟩
 rw [dif_pos hx]
 exact congrArg (fun x=>some (upK x)) (hx.choose_spec.uniqK h)
theorem mpT_mp {w:World} {r:Nat} {kv:List (St × Value)} (h:mpT w r = some kv):∃ kv',kv = upK kv' ∧ MapL encK w r kv':=by
 unfold mpT at h
 split at h
 ·rename_i hx
  injection h with h
  exact ⟨_,h.symm,hx.choose_spec⟩
 ·cases h
theorem mpT_lt {w:World} {r:Nat} {kv:List (St × Value)} (h:mpT w r = some kv):r < w.heap.size:=by
 obtain ⟨_,_,h⟩:=mpT_mp h
 exact h.lt
theorem mpT_keep {w w':World} {r:Nat} (hb:w'.heap[r]? = w.heap[r]?):mpT w' r = mpT w r:=by
 cases hx:mpT w r with
 | some x =>
  obtain ⟨kv,rfl,es,c,h1,h2⟩:=mpT_mp hx
  exact MapL.mpT ⟨es,c,hb.trans h1,h2⟩
 | none =>
  cases hy:mpT w' r with
  | none=>rfl
  | some y =>
   obtain ⟨kv,rfl,es,c,h1,h2⟩:=mpT_mp hy
   rw [MapL.mpT ⟨es,c,hb.symm.trans h1,h2⟩] at hx;cases hx
theorem mpT_fr {M:Nat → Prop} {w w':World} {r:Nat} {kv:List (St × Value)} (h:mpT w r = some kv) (f:Fr M w w') (hM:¬ M r):mpT w' r = some kv:=(mpT_keep (f.block r (mpT_lt h) hM)).trans h
theorem mpT_fr0 {w w':World} {r:Nat} {kv:List (St × Value)} (h:mpT w r = some kv) (f:Fr noB w w'):mpT w' r = some kv:=mpT_fr h f (by simp [noB])
@[simp] theorem mpT_drew (w:World) (r:Nat):mpT w.drew r = mpT w r:=mpT_keep rfl
@[simp] theorem mpT_new (w:World):mpT (w.alloc (.map #[] 0)) w.heap.size = some []:=(MapL.new encK w).mpT
theorem mpT_blk {w:World} {r:Nat} {kv:List (St × Value)} (h:mpT w r = some kv):∃ es c,w.heap[r]? = some (.map es c):=by
 obtain ⟨kv,rfl,es,c,h1,_⟩:=mpT_mp h
 exact ⟨es,c,h1⟩
theorem mpT_cell {w:World} {r:Nat} {kv:List (St × Value)} (h:mpT w r = some kv) (o:Nat) (f:Option Nat):w.cell? ⟨r,o,f⟩ = none:=by
 obtain ⟨es,c,h1⟩:=mpT_blk h
 cases f <;> simp [World.cell?,h1]
theorem mpT_ne {w:World} {r:Nat} {kv:List (St × Value)} (h:mpT w r = some kv) {g:Nat} {t:TypeId} {cs:Array Value} {z:Nat × Nat} (hb:w.heap[g]? = some (.cells cs t z)):g ≠ r:=by
 rintro rfl
 obtain ⟨es,c,h1⟩:=mpT_blk h
 rw [h1] at hb;cases hb
open Classical in
noncomputable def mputT (t:TypeId) (w:World) (r:Nat) (x:St) (v:Value):World :=
 if h:∃ w2,(Instr.mapUpdate t (.map (some r)) (.agg (codS.A x)) v).run Tryz.prog w = .ok () w2 then h.choose else w
theorem mputT_all {t E:TypeId} (ht:Tryz.prog.underlying t = some (.map 80 E)) {w:World} {r:Nat} {kv:List (St × Value)} (h:mpT w r = some kv) {x:St} (hx:wfS x = true) (v:Value) :
  (Instr.mapUpdate t (.map (some r)) (.agg (codS.A x)) v).run Tryz.prog w = .ok () (mputT t w r x v) ∧ mpT (mputT t w r x v) r = some (putL kv x v) ∧ Fr (oneB r) w (mputT t w r x v) ∧ (mputT t w r x v).heap.size = w.heap.size:=by
 obtain ⟨kv,rfl,hm⟩:=mpT_mp h
 obtain ⟨w2,h1,h2,h3,h4⟩:=hm.put keyK ht ⟨x,hx⟩ v
 have e:mputT t w r x v = w2:=by
  unfold mputT
  have hx:∃ w2,(Instr.mapUpdate t (.map (some r)) (.agg (codS.A x)) v).run Tryz.prog w = .ok () w2:=⟨w2,h1⟩
  refine (dif_pos hx).trans ?_
  exact ((Result.ok.inj (h1.symm.trans hx.choose_spec)).2).symm
 rw [e]
 exact ⟨h1,by rw [putL_upK kv ⟨x,hx⟩ v];exact h2.mpT,h3,h4⟩
noncomputable def rngOT (w:World) (r:Nat):Obj:=match w.heap[r]? with | some (.map es clock)=>.mapIter (some r) clock #[] clock | _=>.map #[] 0
def RngT (w:World) (it r:Nat) (kv left:List (St × Value)):Prop:=∃ kv' left',RngL encK w it r kv' left' ∧ kv = upK kv' ∧ left = upK left'
theorem rngT_all {t E:TypeId} (ht:Tryz.prog.underlying t = some (.map 80 E)) {w:World} {r:Nat} {kv:List (St × Value)} (h:mpT w r = some kv) :
  (Instr.range t (.map (some r))).run Tryz.prog w = .ok (.pointer (some ⟨w.heap.size,0,none⟩)) (w.alloc (rngOT w r)) ∧ RngT (w.alloc (rngOT w r)) w.heap.size r kv kv:=by
 obtain ⟨kv,rfl,hm⟩:=mpT_mp h
 have hl:=hm.lt
 obtain ⟨es,clock,hb,he⟩:=hm
 have e:rngOT w r = .mapIter (some r) clock #[] clock:=by unfold rngOT;rw [hb]
 rw [e]
 refine ⟨run_range_map w t 80 E r es clock ht hb,kv,kv,⟨es,clock,#[],heap_alloc_new w _,by rw [heap_alloc_old w _ hl];exact hb,he,?_⟩,rfl,rfl⟩
 have:leftOf es #[] = es:=by unfold leftOf;simp
 rw [this];exact he.is
theorem RngT.map {w:World} {it r:Nat} {kv left:List (St × Value)} (h:RngT w it r kv left):mpT w r = some kv:=by
 obtain ⟨kv',left',h,rfl,rfl⟩:=h
 exact h.map.mpT
theorem RngT.fr {M:Nat → Prop} {w w':World} {it r:Nat} {kv left:List (St × Value)} (h:RngT w it r kv left) (hf:Fr M w w') (h1:¬ M it) (h2:¬ M r):RngT w' it r kv left:=by
 obtain ⟨kv',left',h,rfl,rfl⟩:=h
 exact ⟨_,_,h.fr hf h1 h2,rfl,rfl⟩
theorem RngT.next {w:World} {it r:Nat} {kv left:List (St × Value)} (h:RngT w it r kv left) (hne:it ≠ r) (ty:TypeId) :
  (left = [] ∧ (Instr.next (.pointer (some ⟨it,0,none⟩)) false ty).run Tryz.prog w = .ok (.tuple #[.bool false]) w) ∨
  ∃ l1 p l2 w',left = l1 ++ p :: l2 ∧ p ∈ kv ∧ wfS p.1 = true ∧ (Instr.next (.pointer (some ⟨it,0,none⟩)) false ty).run Tryz.prog w = .ok (.tuple #[.bool true,.agg (codS.A p.1),p.2]) w' ∧ RngT w' it r kv (l1 ++ l2) ∧ Fr (oneB it) w w' ∧
   ∀ (M:Nat → Prop) w'',Fr M w' w'' → ¬ M it → ¬ M r → (Instr.entry (.pointer (some ⟨it,0,none⟩))).run Tryz.prog w'' = .ok (.tuple #[.agg (codS.A p.1),p.2]) w'':=by
 obtain ⟨kv',left',h,rfl,rfl⟩:=h
 rcases h.next keyK hne ty with ⟨rfl,h1⟩ | ⟨l1,p,l2,w',rfl,h2,h3,h4,h5,h6⟩
 ·exact .inl ⟨rfl,h1⟩
 ·exact .inr ⟨upK l1,(p.1.1,p.2),upK l2,w',by simp [upK],List.mem_map.2 ⟨p,h2,rfl⟩,p.1.2,h3,⟨_,_,h4,rfl,by simp [upK]⟩,h5,h6⟩
@[simp] theorem mk_mapT (t:TypeId) (w:World):(Instr.makeMap t none).run Tryz.prog w = .ok (.map (some w.heap.size)) (w.alloc (.map #[] 0)):=rfl
theorem zeroRw (w:World):(zeroValue 110).run Tryz.prog w = .ok (.agg (codR.A zRwW)) w:=okR.zv w
theorem zeroBl (w:World):(zeroValue 4).run Tryz.prog w = .ok (.bool false) w:=Tryz.zeroValue4 w
@[simp] theorem lkStB (w:World) (r:Nat) (x:St):(Instr.lookup 78 (.map (some r)) (.agg (codS.A x)) false).run Tryz.prog w = match mpT w r with | some kv=>if wfS x = true then .ok ((look kv x).getD (.bool false)) w else elseR ((Instr.lookup 78 (.map (some r)) (.agg (codS.A x)) false).run Tryz.prog w) | none=>elseR ((Instr.lookup 78 (.map (some r)) (.agg (codS.A x)) false).run Tryz.prog w):=by
 cases h:mpT w r with
 | none=>exact elseR_eq _
 | some kv =>
  simp only
  split
  ·rename_i hx
   obtain ⟨kv,rfl,hm⟩:=mpT_mp h
   rw [look_upK kv ⟨x,hx⟩]
   exact hm.look keyK Tryz.underlying78 (zeroBl w) ⟨x,hx⟩
  ·exact elseR_eq _
@[simp] theorem upStB (w:World) (r:Nat) (x:St) (v:Value):(Instr.mapUpdate 78 (.map (some r)) (.agg (codS.A x)) v).run Tryz.prog w = match mpT w r with | some kv=>if wfS x = true then .ok () (mputT 78 w r x v) else elseR ((Instr.mapUpdate 78 (.map (some r)) (.agg (codS.A x)) v).run Tryz.prog w) | none=>elseR ((Instr.mapUpdate 78 (.map (some r)) (.agg (codS.A x)) v).run Tryz.prog w):=by
 cases h:mpT w r with
 | none=>exact elseR_eq _
 | some kv =>
  simp only
  split
  ·rename_i hx
   exact (mputT_all Tryz.underlying78 h hx v).1
  ·exact elseR_eq _
@[simp] theorem lkStRow (w:World) (r:Nat) (x:St):(Instr.lookup 152 (.map (some r)) (.agg (codS.A x)) false).run Tryz.prog w = match mpT w r with | some kv=>if wfS x = true then .ok ((look kv x).getD (.agg (codR.A zRwW))) w else elseR ((Instr.lookup 152 (.map (some r)) (.agg (codS.A x)) false).run Tryz.prog w) | none=>elseR ((Instr.lookup 152 (.map (some r)) (.agg (codS.A x)) false).run Tryz.prog w):=by
 cases h:mpT w r with
 | none=>exact elseR_eq _
 | some kv =>
  simp only
  split
  ·rename_i hx
   obtain ⟨kv,rfl,hm⟩:=mpT_mp h
   rw [look_upK kv ⟨x,hx⟩]
   exact hm.look keyK Tryz.underlying152 (zeroRw w) ⟨x,hx⟩
  ·exact elseR_eq _
@[simp] theorem lkStRow_ok (w:World) (r:Nat) (x:St):(Instr.lookup 152 (.map (some r)) (.agg (codS.A x)) true).run Tryz.prog w = match mpT w r with | some kv=>if wfS x = true then .ok (.tuple #[(look kv x).getD (.agg (codR.A zRwW)),.bool (look kv x).isSome]) w else elseR ((Instr.lookup 152 (.map (some r)) (.agg (codS.A x)) true).run Tryz.prog w) | none=>elseR ((Instr.lookup 152 (.map (some r)) (.agg (codS.A x)) true).run Tryz.prog w):=by
 cases h:mpT w r with
 | none=>exact elseR_eq _
 | some kv =>
  simp only
  split
  ·rename_i hx
   obtain ⟨kv,rfl,hm⟩:=mpT_mp h
   rw [look_upK kv ⟨x,hx⟩]
   exact hm.lookOk keyK Tryz.underlying152 (zeroRw w) ⟨x,hx⟩
  ·exact elseR_eq _
def findW (rs:List RwW) (s:St):Option RwW:=rs.find? fun r=>decide (r.Node = s)
theorem RwsIn.tail {w:World} {r:RwW} {rs:List RwW} {x:RwP} {xs:List RwP} (h:RwsIn w (r :: rs) (x :: xs)):RwIn w r x ∧ RwsIn w rs xs :=
 ⟨h.at_ 0 (by simp) (by simp),by have:=h.len;simpa using this,fun i h1 h2=>h.at_ (i + 1) (by simpa using h1) (by simpa using h2)⟩
theorem RwsIn.find {w:World} {rs:List RwW} {xs:List RwP} (h:RwsIn w rs xs) (s:St):(findW rs s = none ∧ findR xs s = none) ∨ ∃ r x,findW rs s = some r ∧ findR xs s = some x ∧ RwIn w r x:=by
 induction rs generalizing xs with
 | nil =>
  have:=h.len
  obtain rfl:xs = []:=List.length_eq_zero_iff.1 (by simpa using this.symm)
  exact .inl ⟨rfl,rfl⟩
 | cons r rs ih =>
  match xs,h with
  | [],h=>have:=h.len;simp at this
  | x :: xs,h =>
   obtain ⟨h1,h2⟩:=h.tail
   unfold findW findR at ih ⊢
   rw [List.find?_cons,List.find?_cons]
   by_cases e:r.Node = s
   ·have e':x.Node = s:=by rw [h1.node];exact e
    simp only [e,e',decide_true]
    exact .inr ⟨r,x,rfl,rfl,h1⟩
   ·have e':¬ x.Node = s:=by rw [h1.node];exact e
    simp only [e,e',decide_false]
    exact ih h2
def tab (rs:List RwW):List (St × Value):=rs.map fun r=>(r.Node,.agg (codR.A r))
theorem look_tab (rs:List RwW) (s:St):look (tab rs) s = (findW rs s).map fun r=>.agg (codR.A r):=by
 induction rs with
 | nil=>rfl
 | cons r rs ih =>
  unfold look tab findW at ih ⊢
  rw [List.map_cons,List.find?_cons,List.find?_cons]
  by_cases e:r.Node = s
  ·simp [e]
  ·simp only [e,decide_false]
   exact ih
def PwT (xs:List RwP) (k:Nat):Prop:=∀ i j (h1:i < j) (h2:j < xs.length),j < k → cmpS (xs[i]'(by omega)).Node xs[j].Node < 0
theorem PwT.step {xs:List RwP} {k:Nat} (h:PwT xs k) (hk:k < xs.length) (hc:k = 0 ∨ ∃ (q:Nat) (hq:q + 1 = k),cmpS (xs[q]'(by omega)).Node xs[k].Node < 0):PwT xs (k + 1):=by
 intro i j h1 h2 h3
 by_cases hj:j < k
 ·exact h i j h1 h2 hj
 ·obtain rfl:j = k:=by omega
  rcases hc with rfl | ⟨q,hq,hc⟩
  ·omega
  ·subst hq
   by_cases hi:i = q
   ·subst hi;exact hc
   ·exact cmpS_trans (h i q (by omega) (by omega) (by omega)) hc
theorem PwT.all {xs:List RwP}:PwT xs xs.length ↔ riseR xs = true:=by
 unfold riseR
 rw [riseB_pw (fun a b:RwP=>cmpS a.Node b.Node) (fun _ _ _=>cmpS_trans) xs,List.pairwise_iff_getElem]
 constructor
 ·intro h i j hi hj hij
  exact h i j hij hj hj
 ·intro h i j h1 h2 _
  exact h i j (by omega) h2 h1
structure WayT (xs:List RwP) (s t:St) (way:List St):Prop where
 down:∀ m,reach xs m s = true → ∃ j,m = way.length + j ∧ reach xs j t = true
 up:∀ m,reach xs m t = true → ∃ j,reach xs j s = true
 all:∀ x ∈ way,∀ m,reach xs m t = true → ∃ j,reach xs j x = true
theorem WayT.step {xs:List RwP} {s t:St} {way:List St} (h:WayT xs s t way) (hf:fixedS t = false) {r:RwP} (hr:findR xs t = some r):WayT xs s r.Parent (way ++ [t]):=by
 have e:∀ m,reach xs (m + 1) t = reach xs m r.Parent:=fun m=>by
  show (fixedS t || match findR xs t with | none=>false | some r=>reach xs m r.Parent) = _
  rw [hf,hr,Bool.false_or]
 refine ⟨fun m hm=>?_,fun m hm=>?_,fun x hx m hm=>?_⟩
 ·obtain ⟨j,rfl,hj⟩:=h.down m hm
  cases j with
  | zero =>
   unfold reach at hj
   rw [hf] at hj;cases hj
  | succ j =>
   rw [e] at hj
   exact ⟨j,by simp only [List.length_append,List.length_singleton];omega,hj⟩
 ·exact h.up (m + 1) (by rw [e];exact hm)
 ·rcases List.mem_append.1 hx with hx | hx
  ·exact h.all x hx (m + 1) (by rw [e];exact hm)
  ·rw [List.mem_singleton] at hx
   subst hx
   exact ⟨m + 1,by rw [e];exact hm⟩
end Go.Proofs.YtjpieiccpbcabaaGreat
namespace Go.Proofs.YtjpieiccpbcabaaGreat
open Go.RowKit Go.Maps Go.Sort
theorem map_erase {α β:Type} (f:α → β):∀ (l:List α) (j:Nat),(l.eraseIdx j).map f = (l.map f).eraseIdx j
 | [],_=>rfl
 | x :: l,0=>rfl
 | x :: l,j + 1=>by simp [map_erase f l j]
section
variable {κ:Type} {enc:κ → Value} {P:Program} {kt t E:TypeId} {w w':World} {r:Nat} {kv:List (κ × Value)} [DecidableEq κ]
def delL (kv:List (κ × Value)) (k:κ):List (κ × Value):=kv.filter fun p=>!decide (p.1 = k)
theorem delL_none {k:κ} (h:look kv k = none):delL kv k = kv:=by
 unfold delL
 rw [List.filter_eq_self]
 intro p hp
 have:=look_none.1 h
 have hne:p.1 ≠ k:=fun e=>this (by rw [← e];exact List.mem_map.2 ⟨p,hp,rfl⟩)
 simp [hne]
theorem delL_idx:∀ {kv:List (κ × Value)} (hn:(kv.map (·.1)).Nodup) {j:Nat} {p:κ × Value} (h:kv[j]? = some p),delL kv p.1 = kv.eraseIdx j
 | [],_,j,p,h=>by simp at h
 | q :: kv,hn,0,p,h=>by
  simp only [List.getElem?_cons_zero,Option.some.injEq] at h
  subst h
  simp only [List.map_cons,List.nodup_cons] at hn
  unfold delL
  rw [List.filter_cons]
  simp only [decide_true,Bool.not_true,Bool.false_eq_true,if_false,List.eraseIdx_cons_zero]
  rw [List.filter_eq_self]
  intro x hx
  have hne:x.1 ≠ q.1:=fun e=>hn.1 (by rw [← e];exact List.mem_map.2 ⟨x,hx,rfl⟩)
  simp [hne]
 | q :: kv,hn,j + 1,p,h=>by
  simp only [List.getElem?_cons_succ] at h
  simp only [List.map_cons,List.nodup_cons] at hn
  have ih:=delL_idx hn.2 h
  have hne:q.1 ≠ p.1:=fun e=>hn.1 (by rw [e];exact List.mem_map.2 ⟨p,List.mem_of_getElem? h,rfl⟩)
  unfold delL at ih ⊢
  rw [List.filter_cons]
  simp only [hne,decide_false,Bool.not_false,if_true,List.eraseIdx_cons_succ]
  rw [ih]
theorem MapL.del (H:KeyE P kt enc) (h:MapL enc w r kv) (ht:P.underlying t = some (.map kt E)) (k:κ) (ty:TypeId) :
  ∃ w2,(Builtin.delete_ #[t,kt] ty #[.map (some r),enc k]).run P w = .ok (.tuple #[]) w2 ∧ MapL enc w2 r (delL kv k) ∧ Fr (oneB r) w w2 ∧ w2.heap.size = w.heap.size:=by
 obtain ⟨l,hl⟩:=H.good k
 have hlt:=h.lt
 obtain ⟨es,clock,hb,he⟩:=h
 rcases he.find H w k with ⟨f1,f2⟩ | ⟨j,e,f1,f2,f3,f4⟩
 ·obtain ⟨g1,g2,g3⟩:=frameMap hlt (.map es clock)
  refine ⟨_,?_,⟨_,_,g3,?_⟩,g1,g2⟩
  ·simp [Builtin.delete_,run_underlying ht,MapKept.run_getObj_map hb,H.K.check w _ hl,f1,MapKept.run_setObj_map _ hb,Result.andThen,ChangeMaps.setBlock]
  ·rw [delL_none f2];exact he
 ·obtain ⟨g1,g2,g3⟩:=frameMap hlt (.map (es.eraseIdxIfInBounds j) clock)
  refine ⟨_,?_,⟨_,_,g3,?_⟩,g1,g2⟩
  ·simp [Builtin.delete_,run_underlying ht,MapKept.run_getObj_map hb,H.K.check w _ hl,f1,MapKept.run_setObj_map _ hb,Result.andThen,ChangeMaps.setBlock]
  ·have hj:j < es.size:=by
    have:=(List.getElem?_eq_some_iff.1 f2).1
    simpa using this
   have hl2:(es.eraseIdxIfInBounds j).toList = es.toList.eraseIdx j:=by
    unfold Array.eraseIdxIfInBounds
    rw [dif_pos hj]
    simp
   have hkv:∃ p,kv[j]? = some p ∧ p.1 = k:=by
    have hi:=congrArg (fun l=>l[j]?) he.is
    simp only [List.getElem?_map,f2,Option.map_some] at hi
    cases hk:kv[j]? with
    | none=>rw [hk] at hi;cases hi
    | some p =>
     rw [hk] at hi
     simp only [Option.map_some,Option.some.injEq,Prod.mk.injEq] at hi
     exact ⟨p,rfl,H.inj _ _ (hi.1.symm.trans f3)⟩
   obtain ⟨p,hp,rfl⟩:=hkv
   have hd:=delL_idx he.nd hp
   rw [hd]
   refine ⟨?_,?_,?_,?_⟩
   ·rw [hl2,map_erase,he.is,map_erase]
   ·rw [map_erase];exact he.nd.sublist (List.eraseIdx_sublist _ _)
   ·rw [hl2,map_erase];exact he.bn.sublist (List.eraseIdx_sublist _ _)
   ·intro x hx
    rw [hl2] at hx
    exact he.bl x ((List.eraseIdx_sublist _ _).subset hx)
end
theorem delL_upK (kv:List (KS × Value)) (k:KS):delL (upK kv) k.1 = upK (delL kv k):=by
 unfold delL upK
 rw [List.filter_map]
 congr 1
 refine List.filter_congr fun p _=>?_
 simp only [Function.comp_apply]
 by_cases h:p.1 = k
 ·simp [h]
 ·have h':p.1.1 ≠ k.1:=fun e=>h (Subtype.ext e)
  simp [h,h']
open Classical in
noncomputable def mdelT (t:TypeId) (w:World) (r:Nat) (x:St):World :=
 if h:∃ w2,(Builtin.delete_ #[t,80] 0 #[.map (some r),.agg (codS.A x)]).run Tryz.prog w = .ok (.tuple #[]) w2 then h.choose else w
theorem mdelT_all {t E:TypeId} (ht:Tryz.prog.underlying t = some (.map 80 E)) {w:World} {r:Nat} {kv:List (St × Value)} (h:mpT w r = some kv) {x:St} (hx:wfS x = true) (ty:TypeId) :
  (Builtin.delete_ #[t,80] ty #[.map (some r),.agg (codS.A x)]).run Tryz.prog w = .ok (.tuple #[]) (mdelT t w r x) ∧ mpT (mdelT t w r x) r = some (delL kv x) ∧ Fr (oneB r) w (mdelT t w r x) ∧ (mdelT t w r x).heap.size = w.heap.size:=by
 obtain ⟨kv,rfl,hm⟩:=mpT_mp h
 obtain ⟨w2,h1,h2,h3,h4⟩:=hm.del keyK ht ⟨x,hx⟩ 0
 have e:mdelT t w r x = w2:=by
  unfold mdelT
  have hx:∃ w2,(Builtin.delete_ #[t,80] 0 #[.map (some r),.agg (codS.A x)]).run Tryz.prog w = .ok (.tuple #[]) w2:=⟨w2,h1⟩
  refine (dif_pos hx).trans ?_
  exact ((Result.ok.inj (h1.symm.trans hx.choose_spec)).2).symm
 rw [e]
 exact ⟨h1,by rw [delL_upK kv ⟨x,hx⟩];exact h2.mpT,h3,h4⟩
end Go.Proofs.YtjpieiccpbcabaaGreat
