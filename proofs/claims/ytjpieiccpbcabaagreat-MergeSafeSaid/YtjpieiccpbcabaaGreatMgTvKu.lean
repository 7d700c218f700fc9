/- Words for MergeTwo, MergeSafe, MergeKnown: rules at operations, rows that are the same, histories of grown. -/
import Derived.Test.YtjpieiccpbcabaaGreatMgThPKu
import Derived.Test.YtjpieiccpbcabaaGreatMgTsKu
import Derived.Test.YtjpieiccpbcabaaGreatMgOKu
import Derived.Test.YtjpieiccpbcabaaGreatSmDKu
set_option linter.unusedVariables false
set_option linter.unusedSimpArgs false
namespace Go.Proofs.YtjpieiccpbcabaaGreat
open Go.RowKit Go.Maps Go.Sort
theorem ex_alM_at {ρ:Operand → Value} {o:Oper} (ho:o.op = .alloc 24) (w:World):(execOp ρ o).run Tryz.prog w = .ok (.value (.pointer (some ⟨w.heap.size,0,none⟩))) (w.alloc (ido zID)):=by
 obtain ⟨d,op,t,p,f,g⟩:=o
 simp only at ho
 subst ho
 rw [ex_al]
theorem step_skipM {P:Program} {w:World} {o:Oper} {a:Act} {K:Act → World → Prop} {Q:Exit → Act → World → Prop} (w':World)
  (hr:(execOp a.eval o).run P w = .ok .skip w') (h:K (a.put o.dst undef) w'):Oper.wp P o a w K Q:=by
 unfold Oper.wp
 rw [hr]
 exact h
theorem ex_stM_at {ρ:Operand → Value} {o:Oper} {a b:Operand} {w:World} {k:Nat} {x y:ID} (ho:o.op = .store 24 a b) (ha:ρ a = .pointer (some ⟨k,0,none⟩)) (hb:ρ b = encI x) (hk:bxI w k = some y):(execOp ρ o).run Tryz.prog w = .ok .skip (putB w k x):=by
 obtain ⟨d,op,t,p,f,g⟩:=o
 simp only at ho
 subst ho
 rw [ex_st,ha,hb]
 exact stI_box hk x
theorem ex_bsM2_at {ρ:Operand → Value} {o:Oper} {a b:Operand} {w:World} {x y:ID} (ho:o.op = .buildSlice 32 2 #[(0,a),(1,b)]) (ha:ρ a = encI x) (hb:ρ b = encI y):(execOp ρ o).run Tryz.prog w = .ok (.value (.slice (some ⟨w.heap.size,0,none⟩) 2 2)) (w.alloc (rowo [x,y])):=by
 obtain ⟨d,op,t,p,f,g⟩:=o
 simp only at ho
 subst ho
 rw [ex_bs2,ha,hb,bsI2_at]
theorem zs3:(Array.range (3 * 32)).map ((encI zID).cells[· % (encI zID).cells.size]!) = ([] ++ z32 ++ (z32 ++ z32)).toArray:=by rw [cellsI];kernel_rfl
theorem bs_3 (w:World) (x y z:ID):(Instr.buildSlice 32 3 #[(0,encI x),(1,encI y),(2,encI z)]).run Tryz.prog w = .ok (.slice (some ⟨w.heap.size,0,none⟩) 3 3) (w.alloc (rowo [x,y,z])):=by
 have h1:Instr.fill (fun i=>some (i * 32,32)) ([] ++ z32 ++ (z32 ++ z32)).toArray [(0,encI x),(1,encI y),(2,encI z)] = some (idc [x,y,z]).toArray:=by
  refine (fill_one (fun i=>some (i * 32,32)) [] z32 (z32 ++ z32) (bv x.1) 0 (encI x) [(1,encI y),(2,encI z)] (cellsI x) (by simp [x.2]) (by simp [x.2,z32_len])).trans ?_
  have h2:=fill_one (fun i=>some (i * 32,32)) (bv x.1) z32 z32 (bv y.1) 1 (encI y) [(2,encI z)] (cellsI y) (by simp [x.2,y.2]) (by simp [y.2,z32_len])
  rw [List.nil_append,← List.append_assoc]
  refine h2.trans ?_
  have h3:=fill_one (fun i=>some (i * 32,32)) (bv x.1 ++ bv y.1) z32 [] (bv z.1) 2 (encI z) [] (cellsI z) (by simp [x.2,y.2,z.2]) (by simp [z.2,z32_len])
  rw [List.append_nil] at h3
  refine h3.trans (by simp [Instr.fill,idc])
 simp only [Instr.buildSlice,Sem.run_bind,run_underlying Tryz.underlying32,Result.andThen_ok,sizeID,zeroID]
 simp only [show (3 * 32 > 2 ^ 24) = False from by simp,show (3 * 32 = 0) = False from by simp,if_false,Sem.run_bind,zeroID,Result.andThen_ok,Sem.run_pure,zs3,h1]
 simp [newRow,newObj,rowo,idR_eq,Sem.run,Result.andThen]
theorem same_rows {w:World} {A B:Option Addr} {n m c d:Nat} {ops:List Opn} (h:RowsS w A n c ops) (h':RowsS w B m d ops) (hb:ops.length ≤ 64000):Calls Tryz.prog 19 #[.slice A n c,.slice B m d] w (Gives w (.bool true)):=by
 have ln:=h.len
 have lm:=h'.len
 have lr:=runX_len [] ops
 simp only [List.length_nil] at lr
 obtain ⟨rs,ss,ys,e1,e2,s1,s2,i1,i2⟩:=h.same h'
 have:=r12sameY_any w A B c d n m rs ss ys ys e1 e2 s1 s2 i1 i2 (by omega) (by omega)
 simpa using this
theorem Gw.ok0 {L:Hst} {ts:List Int} (h:Gw L ts) {i j:Nat} (hi:i < ts.length) (hj:j < ts.length):mgE L (idG i) (idG j) = 0:=by
 obtain ⟨c,hc,ec⟩:=h.has i hi
 obtain ⟨d,hd,ed⟩:=h.has j hj
 have h1:=h.tm _ (List.getElem_mem hi)
 have h2:=h.tm _ (List.getElem_mem hj)
 have hl:=h.le
 rw [← ec] at h1
 rw [← ed] at h2
 unfold mgE
 rw [hc,hd]
 simp only
 split
 ·rfl
 ·split
  ·rfl
  ·rw [if_neg (by omega)]
end Go.Proofs.YtjpieiccpbcabaaGreat
