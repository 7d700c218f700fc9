/- Rows of IDs that are laid at once ('[]api.ID{a, b}'), the zero ID, IDs of one or two bytes. -/
import Derived.Test.YtahllkifmmjbdaaDagQKp
set_option linter.unusedVariables false
set_option linter.unusedSimpArgs false
namespace Go.Proofs.Ytahllkifmmjbdaa
open Go.RowKit
def setFrom (off:Nat) (cs:Array Value) (p:Value × Nat):Array Value:=cs.setIfInBounds (off + p.2) p.1
theorem setFrom_get (off:Nat):∀ (l:List Value) (k:Nat) (cs:Array Value) (i:Nat),i < cs.size →
  ((l.zipIdx k).foldl (setFrom off) cs)[i]? = if off + k ≤ i ∧ i < off + k + l.length then l[i - (off + k)]? else cs[i]?
 | [],k,cs,i,hi=>by
  have:¬ (off + k ≤ i ∧ i < off + k + ([]:List Value).length):=by simp
  rw [if_neg this];rfl
 | v :: l,k,cs,i,hi=>by
  rw [List.zipIdx_cons,List.foldl_cons,setFrom_get off l (k + 1) (setFrom off cs (v,k)) i (by simpa [setFrom] using hi)]
  simp only [List.length_cons]
  by_cases h:i = off + k
  ·rw [if_neg (by omega),if_pos (by omega)]
   subst h
   simp [setFrom,hi]
  ·by_cases h2:off + k ≤ i ∧ i < off + k + (l.length + 1)
   ·rw [if_pos (by omega),if_pos h2]
    have:i - (off + k) = (i - (off + (k + 1))) + 1:=by omega
    rw [this,List.getElem?_cons_succ]
   ·rw [if_neg (by omega),if_neg h2]
    simp only [setFrom,Array.getElem?_setIfInBounds]
    rw [if_neg (by omega)]
theorem setFrom_size (off:Nat):∀ (l:List (Value × Nat)) (cs:Array Value),(l.foldl (setFrom off) cs).size = cs.size
 | [],cs=>rfl
 | v :: l,cs=>by rw [List.foldl_cons,setFrom_size off l];simp [setFrom]
theorem fill_one (place:Nat → Option (Nat × Nat)) (a m b:List Value) (l:List Value) (i:Nat) (v:Value) (rest:List (Nat × Value)) (hv:v.cells = l.toArray) (hp:place i = some (a.length,l.length)) (hm:m.length = l.length) :
  Instr.fill place (a ++ m ++ b).toArray ((i,v) :: rest) = Instr.fill place (a ++ l ++ b).toArray rest:=by
 have e:(v.cells.zipIdx.foldl (fun cs (c,j)=>cs.setIfInBounds (a.length + j) c) (a ++ m ++ b).toArray) = (a ++ l ++ b).toArray:=by
  rw [hv]
  show (l.toArray.zipIdx.foldl (setFrom a.length) (a ++ m ++ b).toArray) = _
  rw [← Array.foldl_toList,Array.toList_zipIdx]
  apply Array.ext_getElem?
  intro j
  by_cases hj:j < (a ++ m ++ b).length
  ·rw [setFrom_get a.length l 0 _ j (by simpa using hj)]
   simp only [Nat.add_zero,List.getElem?_toArray]
   split
   ·rename_i h
    rw [List.append_assoc,List.getElem?_append_right h.1,List.getElem?_append_left (by omega)]
   ·rename_i h
    rcases Nat.lt_or_ge j a.length with h1 | h1
    ·rw [List.append_assoc,List.append_assoc,List.getElem?_append_left h1,List.getElem?_append_left h1]
    ·rw [List.getElem?_append_right (by simp;omega),List.getElem?_append_right (by simp;omega)]
     simp [hm]
  ·rw [Array.getElem?_eq_none (by rw [setFrom_size];simpa using hj),Array.getElem?_eq_none (by simp at hj ⊢;omega)]
 rw [Instr.fill,hp]
 simp only
 rw [e,if_neg]
 rw [hv]
 simp [hm]
@[irreducible] def idR (l:List ID):Array Value:=(idc l).toArray
theorem idR_eq (l:List ID):idR l = (idc l).toArray:=by unfold idR;rfl
abbrev rowo (l:List ID):Obj:=.cells (idR l) 37
theorem cellsI (x:ID):(encI x).cells = (bv x.1).toArray:=by simp [Value.cells,idA_eq]
def z32:List Value:=bv zID.1
theorem z32_len:z32.length = 32:=by simp [z32,zID]
theorem sizeID (w:World):(sizeOf 37).run Try.prog w = .ok 32 w:=Try.sizeOf37 w
theorem sl_new (w:World) (l:List ID):Sl (w.alloc (rowo l)) (some ⟨w.heap.size,0,none⟩) (idc l):=by
 simp only [rowo,idR_eq];exact Sl.new w 37 (idc l)
theorem zs1:(Array.range (1 * 32)).map ((encI zID).cells[· % (encI zID).cells.size]!) = ([] ++ z32 ++ []).toArray:=by rw [cellsI];kernel_rfl
@[simp] theorem bs_1 (w:World) (x:ID):(Instr.buildSlice 40 1 #[(0,encI x)]).run Try.prog w = .ok (.slice (some ⟨w.heap.size,0,none⟩) 1 1) (w.alloc (rowo [x])):=by
 have h1:Instr.fill (fun i=>some (i * 32,32)) ([] ++ z32 ++ []).toArray [(0,encI x)] = some (idc [x]).toArray :=
  (fill_one (fun i=>some (i * 32,32)) [] z32 [] (bv x.1) 0 (encI x) [] (cellsI x) (by simp [x.2]) (by simp [x.2,z32_len])).trans (by simp [Instr.fill,idc])
 simp only [Instr.buildSlice,Sem.run_bind,run_underlying Try.underlying40,Result.andThen_ok,sizeID,zeroID]
 simp only [show (1 * 32 > 2 ^ 24) = False from by simp,show (1 * 32 = 0) = False from by simp,if_false,Sem.run_bind,zeroID,Result.andThen_ok,Sem.run_pure,zs1,h1]
 simp [newRow,newObj,rowo,idR_eq,Sem.run,Result.andThen]
@[irreducible] noncomputable def bsI1 (w:World) (v:Value):Result Next:=((Instr.buildSlice 40 1 #[(0,v)]).run Try.prog w).andThen (fun v w=>.ok (.value v) w)
@[simp ↓] theorem ex_bs1 (ρ:Operand → Value) (a:Operand) (d:Option Nat) (t:TypeId) (p:String) (f:Array Edge) (g:Option (Nat × Bool)) (w:World) :
  (execOp ρ { dst:=d,op:=.buildSlice 40 1 #[(0,a)],type:=t,pos:=p,after:=f,guard:=g }).run Try.prog w = bsI1 w (ρ a):=by
 unfold execOp bsI1
 simp only [List.map_toArray,List.map_cons,List.map_nil,Sem.run_bind,Sem.run_pure]
@[simp] theorem bsI1_at (w:World) (x:ID):bsI1 w (encI x) = .ok (.value (.slice (some ⟨w.heap.size,0,none⟩) 1 1)) (w.alloc (rowo [x])):=by
 unfold bsI1;rw [bs_1];rfl
@[irreducible] noncomputable def bsI2 (w:World) (v u:Value):Result Next:=((Instr.buildSlice 40 2 #[(0,v),(1,u)]).run Try.prog w).andThen (fun v w=>.ok (.value v) w)
def id2 (a b:Nat):ID:=⟨UInt8.ofNat a :: UInt8.ofNat b :: List.replicate 30 0,by simp⟩
@[simp] theorem bld_0 (w:World):(Instr.build 37 #[]).run Try.prog w = .ok (encI zID) w:=by
 simp only [Instr.build,Sem.run_bind,zeroID,Result.andThen_ok,run_underlying Try.underlying37,Try.sizeOf5,Instr.fill,Sem.run_pure]
 simp [Value.cells]
theorem ex_build (ρ:Operand → Value) (o:Oper) (ps:Array (Nat × Operand)) (w w':World) (v:Value) (ho:o.op = .build 37 ps) (h:(Instr.build 37 (ps.map fun (i,x)=>(i,ρ x))).run Try.prog w = .ok v w'):(execOp ρ o).run Try.prog w = .ok (.value v) w':=by
 unfold execOp
 simp only [ho,Sem.run_bind,h,Result.andThen_ok,Sem.run_pure]
@[simp ↓] theorem ex_bld0 (ρ:Operand → Value) (d:Option Nat) (t:TypeId) (p:String) (f:Array Edge) (g:Option (Nat × Bool)) (w:World) :
  (execOp ρ { dst:=d,op:=.build 37 #[],type:=t,pos:=p,after:=f,guard:=g }).run Try.prog w = .ok (.value (encI zID)) w:=by
 refine ex_build ρ _ #[] w w _ rfl ?_
 rw [List.map_toArray,List.map_nil]
 exact bld_0 w
noncomputable def mkI1 (w:World) (v:Value) (r:Result Next):Result Next:=match v with
 | .int .u8 n=>if 0 ≤ n ∧ n < 256 then .ok (.value (encI (id2 n.toNat 0))) w else r
 | _=>r
@[simp] theorem mkI1_at (w:World) (n:Int) (r:Result Next):mkI1 w (.int .u8 n) r = if 0 ≤ n ∧ n < 256 then .ok (.value (encI (id2 n.toNat 0))) w else r:=rfl
noncomputable def mkI2 (w:World) (v u:Value) (r:Result Next):Result Next:=match v,u with
 | .int .u8 n,.int .u8 m=>if (0 ≤ n ∧ n < 256) ∧ 0 ≤ m ∧ m < 256 then .ok (.value (encI (id2 n.toNat m.toNat))) w else r
 | _,_=>r
@[simp] theorem mkI2_at (w:World) (n m:Int) (r:Result Next):mkI2 w (.int .u8 n) (.int .u8 m) r = if (0 ≤ n ∧ n < 256) ∧ 0 ≤ m ∧ m < 256 then .ok (.value (encI (id2 n.toNat m.toNat))) w else r:=rfl
end Go.Proofs.Ytahllkifmmjbdaa
