/- Rows of a tree as they lie in memory: cells, parts, rows of rows; rules for the walk. -/
import Derived.Test.YtnkdnbjmhoegkaaGreatTreePKq
import Derived.Test.YtnkdnbjmhoegkaaGreatQFrKq
import Derived.Test.YtnkdnbjmhoegkaaGreatRightCKq
set_option linter.unusedVariables false
set_option linter.unusedSimpArgs false
namespace Go.Proofs.YtnkdnbjmhoegkaaGreat
open Go.RowKit
structure RwW where
 Node:St
 Parent:St
 At:St
 Name:List UInt8
 A:Option Addr
 n:Nat
 c:Nat
def csR (r:RwW):List Value:=[.int .i64 r.Node.T,.int .i64 r.Node.R,.int .i64 r.Parent.T,.int .i64 r.Parent.R,.int .i64 r.At.T,.int .i64 r.At.R,.string (str r.Name),.slice r.A r.n r.c]
def zRwW:RwW:=⟨zSt,zSt,zSt,[],none,0,0⟩
def codR:Cod RwW:=⟨28,8,csR,zRwW,fun x=>by simp [csR],by decide,fun x u hu=>by
  simp only [csR,List.mem_cons,List.not_mem_nil,or_false] at hu
  rcases hu with rfl | rfl | rfl | rfl | rfl | rfl | rfl | rfl <;> rfl,fun x y h=>by
 obtain ⟨⟨a,b⟩,⟨a2,b2⟩,⟨a3,b3⟩,nm,A,n,c⟩:=x;obtain ⟨⟨a',b'⟩,⟨a2',b2'⟩,⟨a3',b3'⟩,nm',A',n',c'⟩:=y
 simp only [csR] at h;simp only [List.cons.injEq,Value.int.injEq,Value.string.injEq,Value.slice.injEq,true_and,and_true] at h
 obtain ⟨rfl,rfl,rfl,rfl,rfl,rfl,hn,h1,h2,h3⟩:=h
 have hn:=str_inj hn
 subst hn h1 h2 h3
 rfl⟩
theorem okR:CodOk Tryz.prog codR:=⟨⟨_,Tryz.underlying28,rfl⟩,by kernel_rfl,fun w=>(zero_of_info (P:=Tryz.prog) (t:=28) (v:=.agg (codR.cs codR.z).toArray) (n:=8) (by kernel_rfl)).1 w⟩
@[simp ↓] theorem ex_ldR (ρ:Operand → Value) (d:Option Nat) (a:Operand) (t:TypeId) (p:String) (f:Array Edge) (g:Option (Nat × Bool)) (w:World) :
  (execOp ρ { dst:=d,op:=.load 28 a,type:=t,pos:=p,after:=f,guard:=g }).run Tryz.prog w = codR.ldR w (ρ a) (exElse ρ { dst:=d,op:=.load 28 a,type:=t,pos:=p,after:=f,guard:=g } w):=okR.ldOp ρ _ a rfl w
@[simp ↓] theorem ex_alR (ρ:Operand → Value) (d:Option Nat) (t:TypeId) (p:String) (f:Array Edge) (g:Option (Nat × Bool)) (w:World) :
  (execOp ρ { dst:=d,op:=.alloc 28,type:=t,pos:=p,after:=f,guard:=g }).run Tryz.prog w = .ok (.value (.pointer (some ⟨w.heap.size,0,none⟩))) (w.alloc (codR.o zRwW)):=okR.alOp ρ _ rfl w
@[simp ↓] theorem ex_stR (ρ:Operand → Value) (a x:Operand) (d:Option Nat) (t:TypeId) (p:String) (f:Array Edge) (g:Option (Nat × Bool)) (w:World) :
  (execOp ρ { dst:=d,op:=.store 28 a x,type:=t,pos:=p,after:=f,guard:=g }).run Tryz.prog w = codR.stR w (ρ a) (ρ x):=Cod.stOp (C:=codR) ρ _ a x rfl w
@[simp] theorem st_newR (w:World) (x y:RwW):codR.stR (w.alloc (codR.o y)) (.pointer (some ⟨w.heap.size,0,none⟩)) (.agg (codR.A x)) = .ok .skip (w.alloc (codR.o x)):=okR.stR_new w x y
theorem ex_ldR_at {ρ:Operand → Value} {o:Oper} {a:Operand} {w:World} {b off:Nat} {x:RwW} (ho:o.op = .load 28 a) (ha:ρ a = .pointer (some ⟨b,off,none⟩)) (hr:codR.rd w b off = some x) :
  (execOp ρ o).run Tryz.prog w = .ok (.value (.agg (codR.A x))) w:=okR.ex_ld ho ha hr
theorem etR:ET Tryz.prog 25 codR.t codR.n 88:=ET.mk' (z:=.agg (codR.cs codR.z).toArray) Tryz.underlying25 (by kernel_rfl) (by simp only [Value.cells];kernel_rfl) (by decide) (by decide)
theorem bs_R (w:World) (x:RwW):(Instr.buildSlice 25 1 #[(0,.agg (codR.A x))]).run Tryz.prog w = .ok (.slice (some ⟨w.heap.size,0,none⟩) 1 1) (w.alloc (codR.ro [x])):=okR.bs1 25 Tryz.underlying25 Tryz.sizeOf28 (by decide) w x
@[simp ↓] theorem ex_bsR (ρ:Operand → Value) (a:Operand) (d:Option Nat) (t:TypeId) (p:String) (f:Array Edge) (g:Option (Nat × Bool)) (w:World) :
  (execOp ρ { dst:=d,op:=.buildSlice 25 1 #[(0,a)],type:=t,pos:=p,after:=f,guard:=g }).run Tryz.prog w = bsR 25 w (ρ a):=bsOp 25 ρ _ a rfl w
@[simp] theorem bsR_R (w:World) (x:RwW):bsR 25 w (.agg (codR.A x)) = .ok (.value (.slice (some ⟨w.heap.size,0,none⟩) 1 1)) (w.alloc (codR.ro [x])):=by
 unfold bsR;rw [bs_R];rfl
theorem ex_bsR_at {ρ:Operand → Value} {o:Oper} {a:Operand} {w:World} {x:RwW} (ho:o.op = .buildSlice 25 1 #[(0,a)]) (ha:ρ a = .agg (codR.A x)) :
  (execOp ρ o).run Tryz.prog w = .ok (.value (.slice (some ⟨w.heap.size,0,none⟩) 1 1)) (w.alloc (codR.ro [x])):=by
 rw [bsOp 25 ρ o a ho w,ha,bsR_R]
structure RwAt (w:World) (b:Nat) (r:RwW):Prop where
 node:codS.rd w b 0 = some r.Node
 parent:codS.rd w b 2 = some r.Parent
 At:codS.rd w b 4 = some r.At
 name:w.cell? ⟨b,6,none⟩ = some (.string (str r.Name))
 heads:w.cell? ⟨b,7,none⟩ = some (.slice r.A r.n r.c)
 self:codR.rd w b 0 = some r
theorem rwAt {w:World} {b:Nat} {r:RwW} (h:codR.rd w b 0 = some r):RwAt w b r:=by
 have e (k:Nat) {v:Value} (hv:(codR.cs r)[k]? = some v):=by simpa using Cod.rd_cell h k hv
 have s (k:Nat) {x:St} (hv:∀ j v,(codS.cs x)[j]? = some v → (codR.cs r)[k + j]? = some v):=by simpa using Cod.rd_part (C':=codS) h k hv
 exact ⟨s 0 (get2 _ _ 0 rfl rfl),s 2 (get2 _ _ 2 rfl rfl),s 4 (get2 _ _ 4 rfl rfl),e 6 rfl,e 7 rfl,h⟩
structure RwAtO (w:World) (b o:Nat) (r:RwW):Prop where
 node:codS.rd w b o = some r.Node
 parent:codS.rd w b (o + 2) = some r.Parent
 At:codS.rd w b (o + 4) = some r.At
 name:w.cell? ⟨b,o + 6,none⟩ = some (.string (str r.Name))
 heads:w.cell? ⟨b,o + 7,none⟩ = some (.slice r.A r.n r.c)
 self:codR.rd w b o = some r
theorem rwAtO {w:World} {b o:Nat} {r:RwW} (h:codR.rd w b o = some r):RwAtO w b o r:=by
 have e (k:Nat) {v:Value} (hv:(codR.cs r)[k]? = some v):=Cod.rd_cell h k hv
 have s (k:Nat) {x:St} (hv:∀ j v,(codS.cs x)[j]? = some v → (codR.cs r)[k + j]? = some v):=Cod.rd_part (C':=codS) h k hv
 exact ⟨s 0 (get2 _ _ 0 rfl rfl),s 2 (get2 _ _ 2 rfl rfl),s 4 (get2 _ _ 4 rfl rfl),e 6 rfl,e 7 rfl,h⟩
def wfS (s:St):Bool:=decide (-9223372036854775808 ≤ s.T) && decide (s.T ≤ 9223372036854775807) && decide (-9223372036854775808 ≤ s.R) && decide (s.R ≤ 9223372036854775807)
theorem rightS_wf {s:St} (h:rightS s = true):wfS s = true:=by
 unfold rightS at h
 unfold wfS
 simp only [Bool.and_eq_true,decide_eq_true_eq] at h ⊢
 omega
theorem wf_zSt:wfS zSt = true:=by decide
theorem wf_trS:wfS trS = true:=by decide
def rwOf (r:RwW) (hs:List Hd):RwP:=⟨r.Node,r.Parent,r.At,r.Name,hs⟩
structure RwIn (w:World) (r:RwW) (x:RwP):Prop where
 eq:x = rwOf r x.Heads
 len:x.Heads.length = r.n
 sl:Sl w r.A (codH.row x.Heads)
 bd:x.Heads.length ≤ 140737488355328
 nm:r.Name.length ≤ 140737488355328
 wn:wfS r.Node = true
 wp:wfS r.Parent = true
theorem RwIn.fr {w w':World} {r:RwW} {o:RwP} (h:RwIn w r o) (f:Fr noB w w'):RwIn w' r o:=⟨h.eq,h.len,h.sl.fr0 f,h.bd,h.nm,h.wn,h.wp⟩
theorem RwIn.node {w:World} {r:RwW} {x:RwP} (h:RwIn w r x):x.Node = r.Node:=by rw [h.eq];rfl
theorem RwIn.parent {w:World} {r:RwW} {x:RwP} (h:RwIn w r x):x.Parent = r.Parent:=by rw [h.eq];rfl
theorem RwIn.name {w:World} {r:RwW} {x:RwP} (h:RwIn w r x):x.Name = r.Name:=by rw [h.eq];rfl
theorem RwIn.at_ {w:World} {r:RwW} {x:RwP} (h:RwIn w r x):x.At = r.At:=by rw [h.eq];rfl
structure RwsIn (w:World) (rs:List RwW) (xs:List RwP):Prop where
 len:rs.length = xs.length
 at_:∀ i (h:i < rs.length) (h':i < xs.length),RwIn w rs[i] xs[i]
theorem RwsIn.fr {w w':World} {rs:List RwW} {xs:List RwP} (h:RwsIn w rs xs) (f:Fr noB w w'):RwsIn w' rs xs:=⟨h.len,fun i h1 h2=>(h.at_ i h1 h2).fr f⟩
end Go.Proofs.YtnkdnbjmhoegkaaGreat
