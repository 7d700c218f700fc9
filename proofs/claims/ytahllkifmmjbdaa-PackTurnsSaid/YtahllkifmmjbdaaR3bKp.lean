/- Contract: the reference's Cmp. (ex_ld_arr: loads of arrays are met by that rule.) Arrays of 32 bytes by value and in variables (as the reference's functions have IDs). Contracts: the reference's order of stamps, Right, Name, zero. Contract: the reference's Good. -/
import Derived.Test.YtahllkifmmjbdaaDifDKp
import Derived.Test.YtahllkifmmjbdaaRegMKp
set_option linter.unusedVariables false
set_option linter.unusedSimpArgs false
namespace Go.Proofs.Ytahllkifmmjbdaa
open Go.RowKit Go.Maps Go.Sort Go.Shelf
abbrev aro (x:ID):Obj:=.cells (idA x) 36
@[simp] theorem bx_arr (w:World) (x:ID):(Instr.box 36 (encI x)).run Try.prog w = .ok (.pointer (some ⟨w.heap.size,0,none⟩)) (w.alloc (aro x)):=by
 simp [Instr.box,newVar,newRow,newObj,Value.cells,Sem.run,Result.andThen]
theorem ex_ld_arr {ρ:Operand → Value} {o:Oper} {a:Operand} {w:World} {b off:Nat} {x:ID} (ho:o.op = .load 36 a) (ha:ρ a = .pointer (some ⟨b,off,none⟩)) (hr:rdI w b off = some x) :
  (execOp ρ o).run Try.prog w = .ok (.value (encI x)) w:=by
 have h:=ld_arr w b off
 rw [hr] at h
 unfold execOp
 simp only [ho,ha,Sem.run_bind,h,Result.andThen_ok,Sem.run_pure]
end Go.Proofs.Ytahllkifmmjbdaa
namespace Go.Proofs.Ytahllkifmmjbdaa
open Go.RowKit Go.Maps Go.Sort Go.Shelf
theorem sizeArr (w:World):(sizeOf 36).run Try.prog w = .ok 32 w:=Try.sizeOf36 w
theorem zeroArr (w:World):(zeroValue 36).run Try.prog w = .ok (encI zID) w:=by
 simp only [encI,idA_eq]
 exact (zero_of_info (P:=Try.prog) (t:=36) (v:=.agg (bv zID.1).toArray) (n:=32) (by kernel_rfl)).1 w
@[simp] theorem eq_arr (w:World) (x y:ID):(binOp .eql 36 (encI x) (encI y)).run Try.prog w = .ok (.bool (decide (x = y))) w:=by
 simp only [encI,idA_eq]
 have:=run_eql_bytes (P:=Try.prog) (w:=w) 36 5 32 Try.underlying36 Try.underlying5 (by intro w;kernel_rfl) x.1 y.1 x.2 y.2
 have e:(x.1 == y.1) = decide (x = y):=by
  rw [Bool.eq_iff_iff]
  simp only [beq_iff_eq,decide_eq_true_eq]
  exact ⟨fun h=>Subtype.ext h,fun h=>congrArg Subtype.val h⟩
 rw [e] at this
 exact this
@[simp] theorem al_ar (w:World):(Instr.alloc 36 true (.tuple #[])).run Try.prog w = .ok (.pointer (some ⟨w.heap.size,0,none⟩)) (w.alloc (aro zID)):=by
 have:=bx_arr w zID
 simp only [Instr.alloc,Sem.run_bind,zeroArr,Result.andThen_ok]
 exact this
@[simp ↓] theorem ex_alA (ρ:Operand → Value) (d:Option Nat) (t:TypeId) (p:String) (f:Array Edge) (g:Option (Nat × Bool)) (w:World) :
  (execOp ρ { dst:=d,op:=.alloc 36,type:=t,pos:=p,after:=f,guard:=g }).run Try.prog w = .ok (.value (.pointer (some ⟨w.heap.size,0,none⟩))) (w.alloc (aro zID)):=by
 unfold execOp
 simp only [Sem.run_bind,al_ar,Result.andThen_ok,Sem.run_pure]
@[irreducible] noncomputable def stC (w:World) (v u:Value):Result Next:=((Instr.storeAt 36 v u).run Try.prog w).andThen (fun _ w=>.ok .skip w)
@[simp ↓] theorem ex_stA (ρ:Operand → Value) (a x:Operand) (d:Option Nat) (t:TypeId) (p:String) (f:Array Edge) (g:Option (Nat × Bool)) (w:World) :
  (execOp ρ { dst:=d,op:=.store 36 a x,type:=t,pos:=p,after:=f,guard:=g }).run Try.prog w = stC w (ρ a) (ρ x):=by
 unfold execOp stC
 simp only [Sem.run_bind,Sem.run_pure]
open Classical in
noncomputable def bxA (w:World) (b:Nat):Option ID:=if h:∃ x,w.heap[b]? = some (aro x) then some h.choose else none
theorem bxA_of {w:World} {b:Nat} {x:ID} (h:w.heap[b]? = some (aro x)):bxA w b = some x:=by
 unfold bxA
 have hx:∃ x,w.heap[b]? = some (aro x):=⟨x,h⟩
 rw [dif_pos hx]
 have:=h.symm.trans hx.choose_spec
 injection this with this
 injection this with this
 exact congrArg some (idA_inj this).symm
theorem bxA_at {w:World} {b:Nat} {x:ID} (h:bxA w b = some x):w.heap[b]? = some (aro x):=by
 unfold bxA at h
 split at h
 ·rename_i hx
  injection h with h
  rw [← h];exact hx.choose_spec
 ·cases h
theorem bxA_lt {w:World} {b:Nat} {x:ID} (h:bxA w b = some x):b < w.heap.size:=(Array.getElem?_eq_some_iff.1 (bxA_at h)).1
theorem bxA_rd {w:World} {b:Nat} {x:ID} (h:bxA w b = some x):rdI w b 0 = some x:=by
 refine Rd.rdI fun j v hv=>?_
 have hh:=bxA_at h
 simp only [aro,idA_eq] at hh
 rw [Nat.zero_add,cell_of_row _ _ j (bv x.1).toArray 36 (0,0) hh]
 simpa using hv
theorem bxA_keep {w w':World} {b:Nat} (hb:w'.heap[b]? = w.heap[b]?):bxA w' b = bxA w b:=by
 cases hx:bxA w b with
 | some x=>exact bxA_of (hb.trans (bxA_at hx))
 | none =>
  cases hy:bxA w' b with
  | none=>rfl
  | some y=>rw [bxA_of (hb.symm.trans (bxA_at hy))] at hx;cases hx
theorem bxA_fr {M:Nat → Prop} {w w':World} {b:Nat} {x:ID} (h:bxA w b = some x) (f:Fr M w w') (hM:¬ M b):bxA w' b = some x:=(bxA_keep (f.block b (bxA_lt h) hM)).trans h
@[simp] theorem bxA_new (w:World) (x:ID):bxA (w.alloc (aro x)) w.heap.size = some x:=bxA_of (heap_alloc_new w _)
abbrev putC (w:World) (b:Nat) (x:ID):World:=ChangeMaps.setBlock w b (aro x)
theorem putC_fr {w:World} {b:Nat} {y:ID} (h:bxA w b = some y) (x:ID):Fr (oneB b) w (putC w b x) ∧ (putC w b x).heap.size = w.heap.size ∧ bxA (putC w b x) b = some x:=by
 obtain ⟨g1,g2,g3⟩:=frameMap (bxA_lt h) (aro x)
 exact ⟨g1,g2,bxA_of g3⟩
theorem stC_box {w:World} {b:Nat} {y:ID} (h:bxA w b = some y) (x:ID):stC w (.pointer (some ⟨b,0,none⟩)) (encI x) = .ok .skip (putC w b x):=by
 have hh:=bxA_at h
 unfold stC
 simp only [encI,aro,idA_eq] at hh ⊢
 have hl:(bv x.1).toArray.size = 32:=by simp [x.2]
 have hly:(bv y.1).length = 32:=by simp [y.2]
 rw [run_storeAt_mid (P:=Try.prog) w b 0 36 (bv x.1).toArray (fun j hj=>?_) (by rw [hl];exact infoArr) (all_oneCell_toArray (bv_one _))]
 ·simp only [Result.andThen_ok,List.toList_toArray]
  congr 1
  have hw:∀ (w:World) (c:List Value) (vs:List Value) (o:Nat),w.heap[b]? = some (.cells c.toArray 36 (0,0)) → o + vs.length ≤ c.length → (w.setCells b o vs).heap = w.heap.setIfInBounds b (.cells (c.take o ++ vs ++ c.drop (o + vs.length)).toArray 36 (0,0)) ∧ (w.setCells b o vs) = { w with heap:=(w.setCells b o vs).heap }:=by
   intro w c vs
   induction vs generalizing w c with
   | nil =>
    intro o hc ho
    refine ⟨?_,rfl⟩
    simp only [World.setCells,List.append_nil,List.length_nil,Nat.add_zero,List.take_append_drop]
    apply Array.ext_getElem?
    intro k
    rw [Array.getElem?_setIfInBounds]
    split
    ·rename_i e;subst e;rw [if_pos (Array.getElem?_eq_some_iff.1 hc).1];exact hc
    ·rfl
   | cons v vs ih =>
    intro o hc ho
    simp only [List.length_cons] at ho
    have h1:(w.setCell ⟨b,o,none⟩ v).heap[b]? = some (.cells (c.set o v).toArray 36 (0,0)):=Blk.set (cs:=c) hc o v
    obtain ⟨e1,e2⟩:=ih (w.setCell ⟨b,o,none⟩ v) (c.set o v) (o + 1) h1 (by simp;omega)
    rw [World.setCells]
    refine ⟨?_,?_⟩
    ·rw [e1]
     have e3:(c.set o v).take (o + 1) ++ vs ++ (c.set o v).drop (o + 1 + vs.length) = c.take o ++ (v :: vs) ++ c.drop (o + (v :: vs).length):=by
      rw [List.take_add_one,List.take_set_of_le (Nat.le_refl _),List.getElem?_set_self (by omega),List.drop_set_of_lt (by omega)]
      simp [Nat.add_comm,Nat.add_left_comm]
     rw [e3]
     apply Array.ext_getElem?
     intro k
     rw [Array.getElem?_setIfInBounds,Array.getElem?_setIfInBounds]
     have es:(w.setCell ⟨b,o,none⟩ v).heap.size = w.heap.size:=by simp [World.setCell]
     rw [es]
     split
     ·rfl
     ·rename_i hne
      exact Below.heap_setCell w ⟨b,o,none⟩ v k (fun e=>hne e.symm)
    ·rw [e2];rfl
  obtain ⟨e1,e2⟩:=hw w (bv y.1) (bv x.1) 0 hh (by simp [x.2,y.2])
  have hdr:(bv y.1).drop 32 = []:=List.drop_eq_nil_of_le (by simp [y.2])
  rw [e2,e1]
  simp [putC,ChangeMaps.setBlock,aro,idA_eq,x.2,hdr]
 ·rw [hl] at hj
  rw [Nat.zero_add]
  refine ⟨?_,by simp [World.frozen?,hh]⟩
  rw [cell_of_row w b j (bv y.1).toArray 36 (0,0) hh]
  simp [y.2,hj]
@[simp] theorem stC_bx (w:World) (b:Nat) (x:ID):stC w (.pointer (some ⟨b,0,none⟩)) (encI x) = match bxA w b with | some _=>.ok .skip (putC w b x) | none=>elseR (stC w (.pointer (some ⟨b,0,none⟩)) (encI x)):=by
 cases h:bxA w b with
 | none=>exact elseR_eq _
 | some y=>exact stC_box h x
@[simp] theorem bldA_0 (w:World):(Instr.build 36 #[]).run Try.prog w = .ok (encI zID) w:=by
 simp only [Instr.build,Sem.run_bind,zeroArr,Result.andThen_ok,run_underlying Try.underlying36,Try.sizeOf5,Instr.fill,Sem.run_pure]
 simp [Value.cells]
@[simp ↓] theorem ex_bldA0 (ρ:Operand → Value) (d:Option Nat) (t:TypeId) (p:String) (f:Array Edge) (g:Option (Nat × Bool)) (w:World) :
  (execOp ρ { dst:=d,op:=.build 36 #[],type:=t,pos:=p,after:=f,guard:=g }).run Try.prog w = .ok (.value (encI zID)) w:=by
 unfold execOp
 simp only [List.map_toArray,List.map_nil,Sem.run_bind,bldA_0,Result.andThen_ok,Sem.run_pure]
theorem ex_ldA_op (ρ:Operand → Value) (o:Oper) (a:Operand) (ho:o.op = .load 36 a) (w:World):(execOp ρ o).run Try.prog w = ldI w (ρ a) (exElse ρ o w):=by
 have he:exElse ρ o w = (execOp ρ o).run Try.prog w:=by unfold exElse;rfl
 rw [he]
 unfold ldI
 split
 ·rename_i b off hv
  cases h:rdI w b off with
  | none=>rfl
  | some x=>exact ex_ld_arr ho hv h
 ·rfl
@[simp ↓] theorem ex_ldA (ρ:Operand → Value) (d:Option Nat) (a:Operand) (t:TypeId) (p:String) (f:Array Edge) (g:Option (Nat × Bool)) (w:World) :
  (execOp ρ { dst:=d,op:=.load 36 a,type:=t,pos:=p,after:=f,guard:=g }).run Try.prog w = ldI w (ρ a) (exElse ρ { dst:=d,op:=.load 36 a,type:=t,pos:=p,after:=f,guard:=g } w):=ex_ldA_op ρ _ a rfl w
end Go.Proofs.Ytahllkifmmjbdaa
namespace Go.Proofs.Ytahllkifmmjbdaa
open Go.RowKit
end Go.Proofs.Ytahllkifmmjbdaa
namespace Go.Proofs.Ytahllkifmmjbdaa
open Go.RowKit
end Go.Proofs.Ytahllkifmmjbdaa
