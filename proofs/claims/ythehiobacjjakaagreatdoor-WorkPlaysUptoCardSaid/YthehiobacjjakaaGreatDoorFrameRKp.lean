/- Rows of a tree as they lie in memory: cells, parts, rows of rows; rules for the walk. The frame of a law's proof over rows of a tree: arguments of types api.Stamp and []api.Row opened. -/
import Derived.Test.YthehiobacjjakaaGreatDoorPathPKp
import Derived.Test.YthehiobacjjakaaGreatDoorQFrKp
import Derived.Test.YthehiobacjjakaaGreatDoorRightCKp
import Derived.Test.YthehiobacjjakaaGreatDoorFrameOKp
set_option linter.unusedVariables false
set_option linter.unusedSimpArgs false
namespace Go.Proofs.YthehiobacjjakaaGreatDoor
open Go.RowKit
structure RwW where
 Node:St
 Parent:St
 At:St
 Name:List UInt8
 A:Option Addr
 n:Nat
 c:Nat
def csR (r:RwW):List Value:=[.int .i64 r.Node.T,.int .i64 r.Node.R,.int .i64 r.Parent.T,.int .i64 r.Parent.R,.int .i64 r.At.T,.int .i64 r.At.R,.string (str r.Name),.slice r.A r.n r.c]
def zRwW:RwW:=⟨zSt,zSt,zSt,[],none,0,0⟩
def codR:Cod RwW:=⟨60,8,csR,zRwW,fun x=>by simp [csR],by decide,fun x u hu=>by
  simp only [csR,List.mem_cons,List.not_mem_nil,or_false] at hu
  rcases hu with rfl | rfl | rfl | rfl | rfl | rfl | rfl | rfl <;> rfl,fun x y h=>by
 obtain ⟨⟨a,b⟩,⟨a2,b2⟩,⟨a3,b3⟩,nm,A,n,c⟩:=x;obtain ⟨⟨a',b'⟩,⟨a2',b2'⟩,⟨a3',b3'⟩,nm',A',n',c'⟩:=y
 simp only [csR] at h;simp only [List.cons.injEq,Value.int.injEq,Value.string.injEq,Value.slice.injEq,true_and,and_true] at h
 obtain ⟨rfl,rfl,rfl,rfl,rfl,rfl,hn,h1,h2,h3⟩:=h
 have hn:=str_inj hn
 subst hn h1 h2 h3
 rfl⟩
theorem okR:CodOk Tryz.prog codR:=⟨⟨_,Tryz.underlying60,rfl⟩,by kernel_rfl,fun w=>(zero_of_info (P:=Tryz.prog) (t:=60) (v:=.agg (codR.cs codR.z).toArray) (n:=8) (by kernel_rfl)).1 w⟩
@[simp ↓] theorem ex_ldR (ρ:Operand → Value) (d:Option Nat) (a:Operand) (t:TypeId) (p:String) (f:Array Edge) (g:Option (Nat × Bool)) (w:World) :
  (execOp ρ { dst:=d,op:=.load 60 a,type:=t,pos:=p,after:=f,guard:=g }).run Tryz.prog w = codR.ldR w (ρ a) (exElse ρ { dst:=d,op:=.load 60 a,type:=t,pos:=p,after:=f,guard:=g } w):=okR.ldOp ρ _ a rfl w
@[simp ↓] theorem ex_alR (ρ:Operand → Value) (d:Option Nat) (t:TypeId) (p:String) (f:Array Edge) (g:Option (Nat × Bool)) (w:World) :
  (execOp ρ { dst:=d,op:=.alloc 60,type:=t,pos:=p,after:=f,guard:=g }).run Tryz.prog w = .ok (.value (.pointer (some ⟨w.heap.size,0,none⟩))) (w.alloc (codR.o zRwW)):=okR.alOp ρ _ rfl w
@[simp ↓] theorem ex_stR (ρ:Operand → Value) (a x:Operand) (d:Option Nat) (t:TypeId) (p:String) (f:Array Edge) (g:Option (Nat × Bool)) (w:World) :
  (execOp ρ { dst:=d,op:=.store 60 a x,type:=t,pos:=p,after:=f,guard:=g }).run Tryz.prog w = codR.stR w (ρ a) (ρ x):=Cod.stOp (C:=codR) ρ _ a x rfl w
@[simp] theorem st_newR (w:World) (x y:RwW):codR.stR (w.alloc (codR.o y)) (.pointer (some ⟨w.heap.size,0,none⟩)) (.agg (codR.A x)) = .ok .skip (w.alloc (codR.o x)):=okR.stR_new w x y
theorem ex_ldR_at {ρ:Operand → Value} {o:Oper} {a:Operand} {w:World} {b off:Nat} {x:RwW} (ho:o.op = .load 60 a) (ha:ρ a = .pointer (some ⟨b,off,none⟩)) (hr:codR.rd w b off = some x) :
  (execOp ρ o).run Tryz.prog w = .ok (.value (.agg (codR.A x))) w:=okR.ex_ld ho ha hr
@[simp] theorem bld0_R (w:World):(Instr.build 60 #[]).run Tryz.prog w = .ok (.agg (codR.A zRwW)) w:=by
 rw [Cod.A_eq]
 kernel_rfl
@[simp ↓] theorem ex_b0R (ρ:Operand → Value) (d:Option Nat) (t:TypeId) (p:String) (f:Array Edge) (g:Option (Nat × Bool)) (w:World) :
  (execOp ρ { dst:=d,op:=.build 60 #[],type:=t,pos:=p,after:=f,guard:=g }).run Tryz.prog w = .ok (.value (.agg (codR.A zRwW))) w:=by
 refine ex_buildG 60 ρ _ #[] w w _ rfl ?_
 rw [List.map_toArray,List.map_nil]
 exact bld0_R w
theorem etR:ET Tryz.prog 22 codR.t codR.n 88:=ET.mk' (z:=.agg (codR.cs codR.z).toArray) Tryz.underlying22 (by kernel_rfl) (by simp only [Value.cells];kernel_rfl) (by decide) (by decide)
theorem bs_R (w:World) (x:RwW):(Instr.buildSlice 22 1 #[(0,.agg (codR.A x))]).run Tryz.prog w = .ok (.slice (some ⟨w.heap.size,0,none⟩) 1 1) (w.alloc (codR.ro [x])):=okR.bs1 22 Tryz.underlying22 Tryz.sizeOf60 (by decide) w x
@[simp ↓] theorem ex_bsR (ρ:Operand → Value) (a:Operand) (d:Option Nat) (t:TypeId) (p:String) (f:Array Edge) (g:Option (Nat × Bool)) (w:World) :
  (execOp ρ { dst:=d,op:=.buildSlice 22 1 #[(0,a)],type:=t,pos:=p,after:=f,guard:=g }).run Tryz.prog w = bsR 22 w (ρ a):=bsOp 22 ρ _ a rfl w
@[simp] theorem bsR_R (w:World) (x:RwW):bsR 22 w (.agg (codR.A x)) = .ok (.value (.slice (some ⟨w.heap.size,0,none⟩) 1 1)) (w.alloc (codR.ro [x])):=by
 unfold bsR;rw [bs_R];rfl
theorem ex_bsR_at {ρ:Operand → Value} {o:Oper} {a:Operand} {w:World} {x:RwW} (ho:o.op = .buildSlice 22 1 #[(0,a)]) (ha:ρ a = .agg (codR.A x)) :
  (execOp ρ o).run Tryz.prog w = .ok (.value (.slice (some ⟨w.heap.size,0,none⟩) 1 1)) (w.alloc (codR.ro [x])):=by
 rw [bsOp 22 ρ o a ho w,ha,bsR_R]
structure RwAt (w:World) (b:Nat) (r:RwW):Prop where
 node:codS.rd w b 0 = some r.Node
 parent:codS.rd w b 2 = some r.Parent
 At:codS.rd w b 4 = some r.At
 name:w.cell? ⟨b,6,none⟩ = some (.string (str r.Name))
 heads:w.cell? ⟨b,7,none⟩ = some (.slice r.A r.n r.c)
 self:codR.rd w b 0 = some r
theorem rwAt {w:World} {b:Nat} {r:RwW} (h:codR.rd w b 0 = some r):RwAt w b r:=by
 have e (k:Nat) {v:Value} (hv:(codR.cs r)[k]? = some v):=by simpa using Cod.rd_cell h k hv
 have s (k:Nat) {x:St} (hv:∀ j v,(codS.cs x)[j]? = some v → (codR.cs r)[k + j]? = some v):=by simpa using Cod.rd_part (C':=codS) h k hv
 exact ⟨s 0 (get2 _ _ 0 rfl rfl),s 2 (get2 _ _ 2 rfl rfl),s 4 (get2 _ _ 4 rfl rfl),e 6 rfl,e 7 rfl,h⟩
structure RwAtO (w:World) (b o:Nat) (r:RwW):Prop where
 node:codS.rd w b o = some r.Node
 parent:codS.rd w b (o + 2) = some r.Parent
 At:codS.rd w b (o + 4) = some r.At
 name:w.cell? ⟨b,o + 6,none⟩ = some (.string (str r.Name))
 heads:w.cell? ⟨b,o + 7,none⟩ = some (.slice r.A r.n r.c)
 self:codR.rd w b o = some r
theorem rwAtO {w:World} {b o:Nat} {r:RwW} (h:codR.rd w b o = some r):RwAtO w b o r:=by
 have e (k:Nat) {v:Value} (hv:(codR.cs r)[k]? = some v):=Cod.rd_cell h k hv
 have s (k:Nat) {x:St} (hv:∀ j v,(codS.cs x)[j]? = some v → (codR.cs r)[k + j]? = some v):=Cod.rd_part (C':=codS) h k hv
 exact ⟨s 0 (get2 _ _ 0 rfl rfl),s 2 (get2 _ _ 2 rfl rfl),s 4 (get2 _ _ 4 rfl rfl),e 6 rfl,e 7 rfl,h⟩
def wfS (s:St):Bool:=decide (-9223372036854775808 ≤ s.T) && decide (s.T ≤ 9223372036854775807) && decide (-9223372036854775808 ≤ s.R) && decide (s.R ≤ 9223372036854775807)
theorem rightS_wf {s:St} (h:rightS s = true):wfS s = true:=by
 unfold rightS at h
 unfold wfS
 simp only [Bool.and_eq_true,decide_eq_true_eq] at h ⊢
 omega
theorem wf_zSt:wfS zSt = true:=by decide
theorem wf_trS:wfS trS = true:=by decide
def rwOf (r:RwW) (hs:List Hd):RwP:=⟨r.Node,r.Parent,r.At,r.Name,hs⟩
structure RwIn (w:World) (r:RwW) (x:RwP):Prop where
 eq:x = rwOf r x.Heads
 len:x.Heads.length = r.n
 sl:Sl w r.A (codH.row x.Heads)
 bd:x.Heads.length ≤ 140737488355328
 nm:r.Name.length ≤ 140737488355328
 wn:wfS r.Node = true
 wp:wfS r.Parent = true
theorem RwIn.fr {w w':World} {r:RwW} {o:RwP} (h:RwIn w r o) (f:Fr noB w w'):RwIn w' r o:=⟨h.eq,h.len,h.sl.fr0 f,h.bd,h.nm,h.wn,h.wp⟩
theorem RwIn.node {w:World} {r:RwW} {x:RwP} (h:RwIn w r x):x.Node = r.Node:=by rw [h.eq];rfl
theorem RwIn.parent {w:World} {r:RwW} {x:RwP} (h:RwIn w r x):x.Parent = r.Parent:=by rw [h.eq];rfl
theorem RwIn.name {w:World} {r:RwW} {x:RwP} (h:RwIn w r x):x.Name = r.Name:=by rw [h.eq];rfl
theorem RwIn.at_ {w:World} {r:RwW} {x:RwP} (h:RwIn w r x):x.At = r.At:=by rw [h.eq];rfl
structure RwsIn (w:World) (rs:List RwW) (xs:List RwP):Prop where
 len:rs.length = xs.length
 at_:∀ i (h:i < rs.length) (h':i < xs.length),RwIn w rs[i] xs[i]
theorem RwsIn.fr {w w':World} {rs:List RwW} {xs:List RwP} (h:RwsIn w rs xs) (f:Fr noB w w'):RwsIn w' rs xs:=⟨h.len,fun i h1 h2=>(h.at_ i h1 h2).fr f⟩
end Go.Proofs.YthehiobacjjakaaGreatDoor
namespace Go.Proofs.YthehiobacjjakaaGreatDoor
open Go.ChangeShapes Go.WideShapes Go.ChangeAt Go.RowKit Go.Deep
section
variable {H:Type} {enc:TypeId × Value → H} {W:World}
theorem i64_wf {a:Int} (h:(Lit.int .i64 a).wf = true) : -9223372036854775808 ≤ a ∧ a ≤ 9223372036854775807:=by
 simp [Lit.wf] at h
 have e1:IntKind.i64.min = -9223372036854775808:=rfl
 have e2:IntKind.i64.max = 9223372036854775807:=rfl
 first | omega | (rw [e1,e2] at h;omega)
theorem td_intw {t:TypeId} {fuel:Nat} {cs:List Value} {x:DataW H × List MemPlace} (ht:Tryz.prog.underlying t = some (.int .i64)) (h:Td enc W fuel t cs x):∃ a,cs = [.int .i64 a] ∧ -9223372036854775808 ≤ a ∧ a ≤ 9223372036854775807:=by
 obtain ⟨a,ea,_,hw⟩:=DataW.trod_int ht h.1
 exact ⟨a,ea,i64_wf hw⟩
set_option maxRecDepth 100000 in
theorem td_stw {fuel:Nat} {cs:List Value} {x:DataW H × List MemPlace} (h:Td enc W fuel 24 cs x):∃ y:St,cs = csS y ∧ wfS y = true:=by
 obtain ⟨n,hl,⟨_,y0⟩,⟨_,y1⟩⟩:=td_f2 Tryz.underlying24 h
 have cl:Tryz.prog.cellsOf 24 = 2:=by kernel_rfl
 have c1:Tryz.prog.cellsOf 2 = 1:=by kernel_rfl
 have c2:Tryz.prog.cellsOf 3 = 1:=by kernel_rfl
 rw [cl] at hl
 obtain ⟨a0,e0,b0⟩:=td_intw Tryz.underlying2 y0
 obtain ⟨a1,e1,b1⟩:=td_intw Tryz.underlying3 y1
 simp only [c1,c2] at e0 e1
 refine ⟨⟨a0,a1⟩,?_,by simp [wfS,b0,b1]⟩
 have:=cut_one e0 rfl
 rw [List.drop_zero] at this
 rw [this,cut_one e1 rfl,cut_end hl];rfl
set_option maxRecDepth 100000 in
theorem td_row {fuel:Nat} {cs:List Value} {x:DataW H × List MemPlace} (h:Td enc W fuel 60 cs x):∃ r:RwW,cs = codR.cs r ∧ ∃ o,RwIn W r o ∧ o.Heads.length ≤ 2932031007402:=by
 obtain ⟨n,hl,⟨_,y0⟩,⟨_,y1⟩,⟨_,y2⟩,⟨_,y3⟩,⟨_,y4⟩⟩:=td_f5 Tryz.underlying60 h
 have cl:Tryz.prog.cellsOf 60 = 8:=by kernel_rfl
 rw [cl] at hl
 have c0:Tryz.prog.cellsOf 24 = 2:=by kernel_rfl
 obtain ⟨a0,e0,w0⟩:=td_stw y0
 simp only [c0] at e0
 obtain ⟨a1,e1,w1⟩:=td_stw y1
 simp only [c0] at e1
 obtain ⟨a2,e2⟩:=td_st y2
 simp only [c0] at e2
 have c3:Tryz.prog.cellsOf 9 = 1:=by kernel_rfl
 obtain ⟨a3,e3,b3⟩:=td_str Tryz.underlying9 y3
 simp only [c3] at e3
 have c4:Tryz.prog.cellsOf 55 = 1:=by kernel_rfl
 obtain ⟨A4,l4,k4,e4,s4,b4,m4,r4⟩:=td_slk codH (R:=fun _=>True) Tryz.underlying55 (by kernel_rfl) (k:=48) (by decide) (of_decide_eq_true (by kernel_rfl)) (fun n cs x h=>by obtain ⟨y,hy⟩:=td_hd h;exact ⟨y,hy,trivial⟩) y4
 simp only [c4] at e4
 have e:=cut_one e0 rfl
 rw [List.drop_zero] at e
 rw [cut_one e1 rfl,cut_one e2 rfl,cut_one e3 rfl,cut_one e4 rfl,cut_end hl] at e
 refine ⟨⟨a0,a1,a2,a3,A4,l4.length,k4⟩,by rw [e];show _ = csR _;simp [csR,csS],⟨a0,a1,a2,a3,l4⟩,⟨rfl,rfl,s4,by show l4.length ≤ _;omega,b3,w0,w1⟩,by show l4.length ≤ _;omega⟩
theorem td_rows {fuel:Nat} {cs:List Value} {x:DataW H × List MemPlace} (h:Td enc W fuel 22 cs x):∃ (B:Option Addr) (rs:List RwW) (c:Nat),cs = [.slice B rs.length c] ∧ Sl W B (codR.row rs) ∧ rs.length ≤ 140737488355328 ∧ rs.length ≤ c ∧ ∃ xs,RwsIn W rs xs ∧ ∀ x ∈ xs,x.Heads.length ≤ 2932031007402:=by
 obtain ⟨A,rs,c,e,h1,h2,h3,h4⟩:=td_sl codR (R:=fun r=>∃ o,RwIn W r o ∧ o.Heads.length ≤ 2932031007402) Tryz.underlying22 (by kernel_rfl) (of_decide_eq_true (by kernel_rfl)) (fun n cs x h=>td_row h) h
 obtain ⟨xs,h5,h6⟩:=list_R (R:=fun r o=>RwIn W r o ∧ o.Heads.length ≤ 2932031007402) h4
 exact ⟨A,rs,c,e,h1,h2,h3,xs,⟨h5,fun i h7 h8=>(h6 i h7 h8).1⟩,fun x hx=>by
  obtain ⟨i,hi,rfl⟩:=List.getElem_of_mem hx
  exact (h6 i (by rw [h5];exact hi) hi).2⟩
set_option maxRecDepth 100000 in
theorem open_rows {base:Nat} {v:Value} {d:DataW H} {p:List MemPlace}
  (hv:Value.okWide Tryz.prog W .any base 22 v) (h:DataW.Trod enc Tryz.prog W 0 (fun _=>true) true 22 v d p) (hw:∀ n ∈ d.weights Tryz.prog 22,n ≤ reachBytes) :
  ∃ (A:Option Addr) (rs:List RwW) (c:Nat),v = .slice A rs.length c ∧ Sl W A (codR.row rs) ∧ rs.length ≤ 140737488355328 ∧ rs.length ≤ c ∧ ∃ xs,RwsIn W rs xs ∧ ∀ x ∈ xs,x.Heads.length ≤ 2932031007402:=by
 obtain ⟨a0,len,cap,rfl⟩:=okWide_slice Tryz.underlying22 hv
 obtain ⟨fuel,hf⟩:=h
 obtain ⟨A,rs,c,e,hr⟩:=td_rows (x:=(d,p)) ⟨hf,hw⟩
 refine ⟨A,rs,c,?_,hr⟩
 simpa [Value.cells] using e
set_option maxRecDepth 100000 in
theorem open_stamp {base:Nat} {v:Value} {d:DataW H} {p:List MemPlace}
  (hv:Value.okWide Tryz.prog W .any base 24 v) (h:DataW.Trod enc Tryz.prog W 0 (fun _=>true) true 24 v d p) (hw:∀ n ∈ d.weights Tryz.prog 24,n ≤ reachBytes) :
  ∃ s:St,v = .agg (codS.A s) ∧ wfS s = true:=td_val codS Tryz.underlying24 (R:=fun s=>wfS s = true) (fun n cs x h=>td_stw h) hv h hw
end
end Go.Proofs.YthehiobacjjakaaGreatDoor
