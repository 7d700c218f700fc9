/- The frame of a law's proof over arguments [][3]int: opened. -/
import Derived.Test.YtjpieiccpbcabaaGreatFrameOKu
import Derived.Test.YtjpieiccpbcabaaGreatMgTsKu
set_option linter.unusedVariables false
set_option linter.unusedSimpArgs false
namespace Go.Proofs.YtjpieiccpbcabaaGreat
open Go.ChangeShapes Go.WideShapes Go.ChangeAt Go.RowKit Go.Deep
section
variable {H:Type} {enc:TypeId × Value → H} {W:World}
set_option maxRecDepth 100000 in
theorem td_trip {fuel:Nat} {cs:List Value} {x:DataW H × List MemPlace} (h:Td enc W fuel 123 cs x):∃ y:Tri,cs = csTr y:=by
 obtain ⟨xs,k,_,_,hcl,hxl,he⟩:=DataW.trod_array Tryz.underlying123 h.1
 have c3:Tryz.prog.cellsOf 123 = 3:=by kernel_rfl
 have c1:Tryz.prog.cellsOf 3 = 1:=by kernel_rfl
 rw [c3] at hcl
 rw [c1] at he
 have hp:∀ i (hi:i < 3),∃ a:Int,cs[i]'(by omega) = .int .i64 a:=by
  intro i hi
  have e:=he i hi
  rw [List.getElem?_eq_getElem (by omega)] at e
  have hd:(cs.drop (i * 1)).take 1 = [cs[i]'(by omega)]:=by
   rw [Nat.mul_one,List.drop_eq_getElem_cons (by omega)];rfl
  rw [hd] at e
  obtain ⟨a,ea,_,hw⟩:=DataW.trod_int Tryz.underlying3 e
  simp only [List.cons.injEq,and_true] at ea
  exact ⟨a,ea⟩
 obtain ⟨a,ha⟩:=hp 0 (by omega)
 obtain ⟨b,hb⟩:=hp 1 (by omega)
 obtain ⟨c,hc⟩:=hp 2 (by omega)
 refine ⟨⟨a,b,c⟩,?_⟩
 have e:cs = [cs[0]'(by omega),cs[1]'(by omega),cs[2]'(by omega)]:=by
  match cs,hcl with
  | [u,v,w],_=>rfl
 rw [e,ha,hb,hc]
 rfl
set_option maxRecDepth 100000 in
theorem open_trips {base:Nat} {v:Value} {d:DataW H} {p:List MemPlace}
  (hv:Value.okWide Tryz.prog W .any base 69 v) (h:DataW.Trod enc Tryz.prog W 0 (fun _=>true) true 69 v d p) (hw:∀ n ∈ d.weights Tryz.prog 69,n ≤ reachBytes) :
  ∃ (A:Option Addr) (rs:List Tri) (c:Nat),v = .slice A rs.length c ∧ Sl W A (codTr.row rs) ∧ rs.length ≤ 140737488355328 ∧ rs.length ≤ c:=by
 obtain ⟨a0,len,cap,rfl⟩:=okWide_slice Tryz.underlying69 hv
 obtain ⟨fuel,hf⟩:=h
 obtain ⟨A,rs,c,e,h1,h2,h3,_⟩:=td_sl codTr (R:=fun _=>True) Tryz.underlying69 (by kernel_rfl) (of_decide_eq_true (by kernel_rfl)) (fun n cs x h=>by obtain ⟨y,hy⟩:=td_trip h;exact ⟨y,hy,trivial⟩) (x:=(d,p)) ⟨hf,hw⟩
 refine ⟨A,rs,c,?_,h1,h2,h3⟩
 simpa [Value.cells] using e
end
end Go.Proofs.YtjpieiccpbcabaaGreat
