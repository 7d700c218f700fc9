/- The frame of a law's proof over rows of a tree: arguments of types api.Stamp and []api.Row opened. -/
import Derived.Test.YtnkdnbjmhoegkaaGreatFrameOKq
import Derived.Test.YtnkdnbjmhoegkaaGreatRowCKq
set_option linter.unusedVariables false
set_option linter.unusedSimpArgs false
namespace Go.Proofs.YtnkdnbjmhoegkaaGreat
open Go.ChangeShapes Go.WideShapes Go.ChangeAt Go.RowKit Go.Deep
section
variable {H:Type} {enc:TypeId × Value → H} {W:World}
theorem i64_wf {a:Int} (h:(Lit.int .i64 a).wf = true) : -9223372036854775808 ≤ a ∧ a ≤ 9223372036854775807:=by
 simp [Lit.wf] at h
 have e1:IntKind.i64.min = -9223372036854775808:=rfl
 have e2:IntKind.i64.max = 9223372036854775807:=rfl
 first | omega | (rw [e1,e2] at h;omega)
theorem td_intw {t:TypeId} {fuel:Nat} {cs:List Value} {x:DataW H × List MemPlace} (ht:Tryz.prog.underlying t = some (.int .i64)) (h:Td enc W fuel t cs x):∃ a,cs = [.int .i64 a] ∧ -9223372036854775808 ≤ a ∧ a ≤ 9223372036854775807:=by
 obtain ⟨a,ea,_,hw⟩:=DataW.trod_int ht h.1
 exact ⟨a,ea,i64_wf hw⟩
set_option maxRecDepth 100000 in
theorem td_stw {fuel:Nat} {cs:List Value} {x:DataW H × List MemPlace} (h:Td enc W fuel 24 cs x):∃ y:St,cs = csS y ∧ wfS y = true:=by
 obtain ⟨n,hl,⟨_,y0⟩,⟨_,y1⟩⟩:=td_f2 Tryz.underlying24 h
 have cl:Tryz.prog.cellsOf 24 = 2:=by kernel_rfl
 have c1:Tryz.prog.cellsOf 2 = 1:=by kernel_rfl
 have c2:Tryz.prog.cellsOf 3 = 1:=by kernel_rfl
 rw [cl] at hl
 obtain ⟨a0,e0,b0⟩:=td_intw Tryz.underlying2 y0
 obtain ⟨a1,e1,b1⟩:=td_intw Tryz.underlying3 y1
 simp only [c1,c2] at e0 e1
 refine ⟨⟨a0,a1⟩,?_,by simp [wfS,b0,b1]⟩
 have:=cut_one e0 rfl
 rw [List.drop_zero] at this
 rw [this,cut_one e1 rfl,cut_end hl];rfl
set_option maxRecDepth 100000 in
theorem td_row {fuel:Nat} {cs:List Value} {x:DataW H × List MemPlace} (h:Td enc W fuel 28 cs x):∃ r:RwW,cs = codR.cs r ∧ ∃ o,RwIn W r o ∧ o.Heads.length ≤ 2932031007402:=by
 obtain ⟨n,hl,⟨_,y0⟩,⟨_,y1⟩,⟨_,y2⟩,⟨_,y3⟩,⟨_,y4⟩⟩:=td_f5 Tryz.underlying28 h
 have cl:Tryz.prog.cellsOf 28 = 8:=by kernel_rfl
 rw [cl] at hl
 have c0:Tryz.prog.cellsOf 24 = 2:=by kernel_rfl
 obtain ⟨a0,e0,w0⟩:=td_stw y0
 simp only [c0] at e0
 obtain ⟨a1,e1,w1⟩:=td_stw y1
 simp only [c0] at e1
 obtain ⟨a2,e2⟩:=td_st y2
 simp only [c0] at e2
 have c3:Tryz.prog.cellsOf 9 = 1:=by kernel_rfl
 obtain ⟨a3,e3,b3⟩:=td_str Tryz.underlying9 y3
 simp only [c3] at e3
 have c4:Tryz.prog.cellsOf 26 = 1:=by kernel_rfl
 obtain ⟨A4,l4,k4,e4,s4,b4,m4,r4⟩:=td_slk codH (R:=fun _=>True) Tryz.underlying26 (by kernel_rfl) (k:=48) (by decide) (of_decide_eq_true (by kernel_rfl)) (fun n cs x h=>by obtain ⟨y,hy⟩:=td_hd h;exact ⟨y,hy,trivial⟩) y4
 simp only [c4] at e4
 have e:=cut_one e0 rfl
 rw [List.drop_zero] at e
 rw [cut_one e1 rfl,cut_one e2 rfl,cut_one e3 rfl,cut_one e4 rfl,cut_end hl] at e
 refine ⟨⟨a0,a1,a2,a3,A4,l4.length,k4⟩,by rw [e];show _ = csR _;simp [csR,csS],⟨a0,a1,a2,a3,l4⟩,⟨rfl,rfl,s4,by show l4.length ≤ _;omega,b3,w0,w1⟩,by show l4.length ≤ _;omega⟩
theorem td_rows {fuel:Nat} {cs:List Value} {x:DataW H × List MemPlace} (h:Td enc W fuel 25 cs x):∃ (B:Option Addr) (rs:List RwW) (c:Nat),cs = [.slice B rs.length c] ∧ Sl W B (codR.row rs) ∧ rs.length ≤ 140737488355328 ∧ rs.length ≤ c ∧ ∃ xs,RwsIn W rs xs ∧ ∀ x ∈ xs,x.Heads.length ≤ 2932031007402:=by
 obtain ⟨A,rs,c,e,h1,h2,h3,h4⟩:=td_sl codR (R:=fun r=>∃ o,RwIn W r o ∧ o.Heads.length ≤ 2932031007402) Tryz.underlying25 (by kernel_rfl) (of_decide_eq_true (by kernel_rfl)) (fun n cs x h=>td_row h) h
 obtain ⟨xs,h5,h6⟩:=list_R (R:=fun r o=>RwIn W r o ∧ o.Heads.length ≤ 2932031007402) h4
 exact ⟨A,rs,c,e,h1,h2,h3,xs,⟨h5,fun i h7 h8=>(h6 i h7 h8).1⟩,fun x hx=>by
  obtain ⟨i,hi,rfl⟩:=List.getElem_of_mem hx
  exact (h6 i (by rw [h5];exact hi) hi).2⟩
set_option maxRecDepth 100000 in
theorem open_rows {base:Nat} {v:Value} {d:DataW H} {p:List MemPlace}
  (hv:Value.okWide Tryz.prog W .any base 25 v) (h:DataW.Trod enc Tryz.prog W 0 (fun _=>true) true 25 v d p) (hw:∀ n ∈ d.weights Tryz.prog 25,n ≤ reachBytes) :
  ∃ (A:Option Addr) (rs:List RwW) (c:Nat),v = .slice A rs.length c ∧ Sl W A (codR.row rs) ∧ rs.length ≤ 140737488355328 ∧ rs.length ≤ c ∧ ∃ xs,RwsIn W rs xs ∧ ∀ x ∈ xs,x.Heads.length ≤ 2932031007402:=by
 obtain ⟨a0,len,cap,rfl⟩:=okWide_slice Tryz.underlying25 hv
 obtain ⟨fuel,hf⟩:=h
 obtain ⟨A,rs,c,e,hr⟩:=td_rows (x:=(d,p)) ⟨hf,hw⟩
 refine ⟨A,rs,c,?_,hr⟩
 simpa [Value.cells] using e
end
end Go.Proofs.YtnkdnbjmhoegkaaGreat
