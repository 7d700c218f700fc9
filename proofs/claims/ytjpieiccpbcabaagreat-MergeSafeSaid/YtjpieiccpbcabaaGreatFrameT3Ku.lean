/- Values [3]int in memory. The frame of a law's proof over arguments [][3]int: opened. -/
import Derived.Test.YtjpieiccpbcabaaGreatMgThPKu
import Derived.Test.YtjpieiccpbcabaaGreatFrameOKu
set_option linter.unusedVariables false
set_option linter.unusedSimpArgs false
namespace Go.Proofs.YtjpieiccpbcabaaGreat
open Go.RowKit Go.Maps Go.Sort
structure Tri where
 a:Int
 b:Int
 c:Int
def csTr (x:Tri):List Value:=[.int .i64 x.a,.int .i64 x.b,.int .i64 x.c]
def zTri:Tri:=⟨0,0,0⟩
def codTr:Cod Tri:=⟨123,3,csTr,zTri,fun x=>rfl,by decide,fun x u hu=>by
  simp only [csTr,List.mem_cons,List.not_mem_nil,or_false] at hu
  rcases hu with rfl | rfl | rfl <;> rfl,fun x y h=>by
 obtain ⟨a,b,c⟩:=x;obtain ⟨a',b',c'⟩:=y
 simp only [csTr,List.cons.injEq,Value.int.injEq,and_true,true_and] at h
 obtain ⟨rfl,rfl,rfl⟩:=h
 rfl⟩
theorem okTr:CodOk Tryz.prog codTr:=⟨⟨_,Tryz.underlying123,rfl⟩,by kernel_rfl,fun w=>(zero_of_info (P:=Tryz.prog) (t:=123) (v:=.agg (codTr.cs codTr.z).toArray) (n:=3) (by kernel_rfl)).1 w⟩
@[simp ↓] theorem ex_ldTr (ρ:Operand → Value) (d:Option Nat) (a:Operand) (t:TypeId) (p:String) (f:Array Edge) (g:Option (Nat × Bool)) (w:World) :
  (execOp ρ { dst:=d,op:=.load 123 a,type:=t,pos:=p,after:=f,guard:=g }).run Tryz.prog w = codTr.ldR w (ρ a) (exElse ρ { dst:=d,op:=.load 123 a,type:=t,pos:=p,after:=f,guard:=g } w):=okTr.ldOp ρ _ a rfl w
@[simp ↓] theorem ex_alTr (ρ:Operand → Value) (d:Option Nat) (t:TypeId) (p:String) (f:Array Edge) (g:Option (Nat × Bool)) (w:World) :
  (execOp ρ { dst:=d,op:=.alloc 123,type:=t,pos:=p,after:=f,guard:=g }).run Tryz.prog w = .ok (.value (.pointer (some ⟨w.heap.size,0,none⟩))) (w.alloc (codTr.o zTri)):=okTr.alOp ρ _ rfl w
@[simp ↓] theorem ex_stTr (ρ:Operand → Value) (a x:Operand) (d:Option Nat) (t:TypeId) (p:String) (f:Array Edge) (g:Option (Nat × Bool)) (w:World) :
  (execOp ρ { dst:=d,op:=.store 123 a x,type:=t,pos:=p,after:=f,guard:=g }).run Tryz.prog w = codTr.stR w (ρ a) (ρ x):=Cod.stOp (C:=codTr) ρ _ a x rfl w
@[simp] theorem st_newTr (w:World) (x y:Tri):codTr.stR (w.alloc (codTr.o y)) (.pointer (some ⟨w.heap.size,0,none⟩)) (.agg (codTr.A x)) = .ok .skip (w.alloc (codTr.o x)):=okTr.stR_new w x y
structure TrAt (w:World) (g o:Nat) (r:Tri):Prop where
 a:w.cell? ⟨g,o,none⟩ = some (.int .i64 r.a)
 b:w.cell? ⟨g,o + 1,none⟩ = some (.int .i64 r.b)
 c:w.cell? ⟨g,o + 2,none⟩ = some (.int .i64 r.c)
theorem trAt {w:World} {b o:Nat} {r:Tri} (h:codTr.rd w b o = some r):TrAt w b o r :=
 ⟨by simpa using Cod.rd_cell h 0 (v:=.int .i64 r.a) rfl,Cod.rd_cell h 1 (v:=.int .i64 r.b) rfl,Cod.rd_cell h 2 (v:=.int .i64 r.c) rfl⟩
end Go.Proofs.YtjpieiccpbcabaaGreat
namespace Go.Proofs.YtjpieiccpbcabaaGreat
open Go.ChangeShapes Go.WideShapes Go.ChangeAt Go.RowKit Go.Deep
section
variable {H:Type} {enc:TypeId × Value → H} {W:World}
set_option maxRecDepth 100000 in
theorem td_trip {fuel:Nat} {cs:List Value} {x:DataW H × List MemPlace} (h:Td enc W fuel 123 cs x):∃ y:Tri,cs = csTr y:=by
 obtain ⟨xs,k,_,_,hcl,hxl,he⟩:=DataW.trod_array Tryz.underlying123 h.1
 have c3:Tryz.prog.cellsOf 123 = 3:=by kernel_rfl
 have c1:Tryz.prog.cellsOf 3 = 1:=by kernel_rfl
 rw [c3] at hcl
 rw [c1] at he
 have hp:∀ i (hi:i < 3),∃ a:Int,cs[i]'(by omega) = .int .i64 a:=by
  intro i hi
  have e:=he i hi
  rw [List.getElem?_eq_getElem (by omega)] at e
  have hd:(cs.drop (i * 1)).take 1 = [cs[i]'(by omega)]:=by
   rw [Nat.mul_one,List.drop_eq_getElem_cons (by omega)];rfl
  rw [hd] at e
  obtain ⟨a,ea,_,hw⟩:=DataW.trod_int Tryz.underlying3 e
  simp only [List.cons.injEq,and_true] at ea
  exact ⟨a,ea⟩
 obtain ⟨a,ha⟩:=hp 0 (by omega)
 obtain ⟨b,hb⟩:=hp 1 (by omega)
 obtain ⟨c,hc⟩:=hp 2 (by omega)
 refine ⟨⟨a,b,c⟩,?_⟩
 have e:cs = [cs[0]'(by omega),cs[1]'(by omega),cs[2]'(by omega)]:=by
  match cs,hcl with
  | [u,v,w],_=>rfl
 rw [e,ha,hb,hc]
 rfl
set_option maxRecDepth 100000 in
theorem open_trips {base:Nat} {v:Value} {d:DataW H} {p:List MemPlace}
  (hv:Value.okWide Tryz.prog W .any base 69 v) (h:DataW.Trod enc Tryz.prog W 0 (fun _=>true) true 69 v d p) (hw:∀ n ∈ d.weights Tryz.prog 69,n ≤ reachBytes) :
  ∃ (A:Option Addr) (rs:List Tri) (c:Nat),v = .slice A rs.length c ∧ Sl W A (codTr.row rs) ∧ rs.length ≤ 140737488355328 ∧ rs.length ≤ c:=by
 obtain ⟨a0,len,cap,rfl⟩:=okWide_slice Tryz.underlying69 hv
 obtain ⟨fuel,hf⟩:=h
 obtain ⟨A,rs,c,e,h1,h2,h3,_⟩:=td_sl codTr (R:=fun _=>True) Tryz.underlying69 (by kernel_rfl) (of_decide_eq_true (by kernel_rfl)) (fun n cs x h=>by obtain ⟨y,hy⟩:=td_trip h;exact ⟨y,hy,trivial⟩) (x:=(d,p)) ⟨hf,hw⟩
 refine ⟨A,rs,c,?_,h1,h2,h3⟩
 simpa [Value.cells] using e
end
end Go.Proofs.YtjpieiccpbcabaaGreat
