/- Contract: the reference's Cmp. (ex_ld_arr: loads of arrays are met by that rule.) Arrays of 32 bytes by value and in variables (as the reference's functions have IDs). Contracts: the reference's order of stamps, Right, Name, zero. Contract: the reference's Good. -/
import Derived.Test.YtjpieiccpbcabaaGreatGvFKu
import Derived.Test.YtjpieiccpbcabaaGreatFrameOKu
import Derived.Test.YtjpieiccpbcabaaGreatRegTKu
set_option linter.unusedVariables false
set_option linter.unusedSimpArgs false
namespace Go.Proofs.YtjpieiccpbcabaaGreat
open Go.RowKit Go.Maps Go.Sort Go.Shelf
abbrev aro (x:ID):Obj:=.cells (idA x) 23
theorem ex_ld_arr {ρ:Operand → Value} {o:Oper} {a:Operand} {w:World} {b off:Nat} {x:ID} (ho:o.op = .load 23 a) (ha:ρ a = .pointer (some ⟨b,off,none⟩)) (hr:rdI w b off = some x) :
  (execOp ρ o).run Tryz.prog w = .ok (.value (encI x)) w:=by
 have h:=ld_arr w b off
 rw [hr] at h
 unfold execOp
 simp only [ho,ha,Sem.run_bind,h,Result.andThen_ok,Sem.run_pure]
theorem blk_arr (w:World) (x:ID):Blk (w.alloc (aro x)) w.heap.size 23 (bv x.1):=by
 have:=Blk.new w 23 (bv x.1)
 rw [← idA_eq] at this
 exact this
theorem bv_at (x:ID) (k:Nat) (hk:k < 32):(bv x.1)[k]? = some (.int .u8 ((x.1[k]'(by rw [x.2];exact hk)).toNat:Int)):=bv_get _ _ _
theorem cb_take:∀ (k:Nat) (a b:List UInt8),a.take k = b.take k → Lib.compareBytes a b = Lib.compareBytes (a.drop k) (b.drop k)
 | 0,a,b,_=>by simp
 | k + 1,[],[],_=>by simp
 | k + 1,[],y :: b,h=>by simp at h
 | k + 1,x :: a,[],h=>by simp at h
 | k + 1,x :: a,y :: b,h=>by
  simp only [List.take_succ_cons,List.cons.injEq] at h
  obtain ⟨rfl,h⟩:=h
  simp only [Lib.compareBytes,List.drop_succ_cons]
  rw [if_neg (by simp),if_neg (by simp)]
  exact cb_take k a b h
theorem cmpI_at (x y:ID) (k:Nat) (hk:k < 32) (h:x.1.take k = y.1.take k):cmpI x y = (if (x.1[k]'(by rw [x.2];exact hk)).toNat < (y.1[k]'(by rw [y.2];exact hk)).toNat then -1 else if (y.1[k]'(by rw [y.2];exact hk)).toNat < (x.1[k]'(by rw [x.2];exact hk)).toNat then 1 else Lib.compareBytes (x.1.drop (k + 1)) (y.1.drop (k + 1))):=by
 have hx:k < x.1.length:=by rw [x.2];exact hk
 have hy:k < y.1.length:=by rw [y.2];exact hk
 unfold cmpI
 rw [cb_take k _ _ h,List.drop_eq_getElem_cons hx,List.drop_eq_getElem_cons hy]
 simp only [Lib.compareBytes,UInt8.lt_iff_toNat_lt]
def RcR (x y:ID) (W:World) (gk:Nat) (iv:Value) (wr:World):Prop:=∃ k:Nat,iv = .int .i64 (k:Int) ∧ gk = 32 - k ∧ k ≤ 32 ∧ x.1.take k = y.1.take k ∧ Fr noB W wr
set_option maxRecDepth 100000 in
set_option maxHeartbeats 1000000 in
theorem rcmp_any (w:World) (x y:ID):Calls Tryz.prog 59 #[encI x,encI y] w (Gives w (.int .i64 (cmpI x y))):=by
 have b1:=(blk_arr w x).fr ((Fr.refl noB _).alloc (aro y)) (by simp [noB])
 have b2:=blk_arr (w.alloc (aro x)) y
 have f0:Fr noB w ((w.alloc (aro x)).alloc (aro y)):=((Fr.refl noB w).alloc _).alloc _
 rw [World.size_alloc] at b2
 go_enter Tryz.func59,Tryz.ntmps59
 go_wp2_with fail
 generalize hW:(w.alloc (aro x)).alloc (aro y) = W at b1 b2 f0 ⊢
 clear hW
 go_loopg [5] 32 (fun gk iv wr=>RcR x y W gk iv wr)
 case atStart=>exact ⟨0,rfl,rfl,by omega,by simp,Fr.refl _ _⟩
 case round =>
  obtain ⟨k,rfl,rfl,hk,htk,hf⟩:=hrel
  by_cases hlt:k < 32
  ·have i0:(0:Int) ≤ (k:Int):=by omega
   have i1:(k:Int) < 32:=by omega
   have hc:=cmpI_at x y k hlt htk
   have hx:k < x.1.length:=by rw [x.2];exact hlt
   have hy:k < y.1.length:=by rw [y.2];exact hlt
   have c1:=((b1.fr hf.drew (by simp [noB])).cell k).trans (bv_at x k hlt)
   have c2:=((b2.fr hf.drew (by simp [noB])).cell k).trans (bv_at y k hlt)
   have d1:=((b1.fr hf.drew.drew (by simp [noB])).cell k).trans (bv_at x k hlt)
   have d2:=((b2.fr hf.drew.drew (by simp [noB])).cell k).trans (bv_at y k hlt)
   have hts:x.1[k] = y.1[k] → x.1.take (k + 1) = y.1.take (k + 1):=fun e=>by
    rw [List.take_succ_eq_append_getElem hx,List.take_succ_eq_append_getElem hy,htk,e]
   have hin:∀ a b:UInt8,a.toNat = b.toNat → a = b:=fun a b=>UInt8.toNat_inj.1
   generalize x.1[k] = p at hc c1 c2 d1 d2 hts
   generalize y.1[k] = q at hc c1 c2 d1 d2 hts
   have HC:=Lib.hid hc
   have HT:=Lib.hid hts
   have HI:=Lib.hid hin
   clear hc hts htk hin
   go_wp2_with fail
   refine wp_region_H (fun w'=>w'.cell? ⟨w.heap.size,k,none⟩ = some (.int .u8 (p.toNat:Int)) ∧ w'.cell? ⟨w.heap.size + 1,k,none⟩ = some (.int .u8 (q.toNat:Int))) (by kernel_rfl) ⟨c1,c2⟩ (fun hF=>?_)
   refine wpAnyH_take (i:=0) (v:=?_) rfl (by kernel_rfl) (by kernel_rfl) (by kernel_rfl) (fun _ _ _ h=>h) (Or.inl ⟨by rfl,?_⟩) hF ?_
   rotate_left
   ·intro wS hSw;(try dsimp only at hSw);obtain ⟨s1,s2⟩:=hSw;first | (apply Eq.trans;apply ex_ld_id;exact rfl;exact rfl;assumption;with_reducible rfl) | (apply Eq.trans;apply ex_ld_arr;exact rfl;exact rfl;assumption;with_reducible rfl) | (go_simp;try with_reducible rfl)
   try simp only [sA1,sA2,sA3,Act.put,sA4,sA5,sA6]
   refine wpAnyH_take (i:=1) (v:=?_) rfl (by kernel_rfl) (by kernel_rfl) (by kernel_rfl) (fun _ _ _ h=>h) (Or.inl ⟨by rfl,?_⟩) hF ?_
   rotate_left
   ·intro wS hSw;(try dsimp only at hSw);obtain ⟨s1,s2⟩:=hSw;first | (apply Eq.trans;apply ex_ld_id;exact rfl;exact rfl;assumption;with_reducible rfl) | (apply Eq.trans;apply ex_ld_arr;exact rfl;exact rfl;assumption;with_reducible rfl) | (go_simp;try with_reducible rfl)
   try simp only [sA1,sA2,sA3,Act.put,sA4,sA5,sA6]
   refine wpAnyH_take (i:=2) (v:=?_) rfl (by kernel_rfl) (by kernel_rfl) (by kernel_rfl) (fun _ _ _ h=>h) (Or.inl ⟨by rfl,?_⟩) hF ?_
   rotate_left
   ·intro wS hSw;(try dsimp only at hSw);obtain ⟨s1,s2⟩:=hSw;first | (apply Eq.trans;apply ex_ld_id;exact rfl;exact rfl;assumption;with_reducible rfl) | (apply Eq.trans;apply ex_ld_arr;exact rfl;exact rfl;assumption;with_reducible rfl) | (go_simp;try with_reducible rfl)
   try simp only [sA1,sA2,sA3,Act.put,sA4,sA5,sA6]
   refine wpAnyH_take (i:=3) (v:=?_) rfl (by kernel_rfl) (by kernel_rfl) (by kernel_rfl) (fun _ _ _ h=>h) (Or.inl ⟨by rfl,?_⟩) hF ?_
   rotate_left
   ·intro wS hSw;(try dsimp only at hSw);obtain ⟨s1,s2⟩:=hSw;first | (apply Eq.trans;apply ex_ld_id;exact rfl;exact rfl;assumption;with_reducible rfl) | (apply Eq.trans;apply ex_ld_arr;exact rfl;exact rfl;assumption;with_reducible rfl) | (go_simp;try with_reducible rfl)
   try simp only [sA1,sA2,sA3,Act.put,sA4,sA5,sA6]
   refine wpAnyH_take (i:=4) (v:=?_) rfl (by kernel_rfl) (by kernel_rfl) (by kernel_rfl) (fun _ _ _ h=>h) (Or.inl ⟨by rfl,?_⟩) hF ?_
   rotate_left
   ·intro wS hSw;(try dsimp only at hSw);obtain ⟨s1,s2⟩:=hSw;first | (apply Eq.trans;apply ex_ld_id;exact rfl;exact rfl;assumption;with_reducible rfl) | (apply Eq.trans;apply ex_ld_arr;exact rfl;exact rfl;assumption;with_reducible rfl) | (go_simp;try with_reducible rfl)
   try simp only [sA1,sA2,sA3,Act.put,sA4,sA5,sA6]
   refine wpAnyH_take (i:=5) (v:=?_) rfl (by kernel_rfl) (by kernel_rfl) (by kernel_rfl) (fun _ _ _ h=>h) (Or.inl ⟨by rfl,?_⟩) hF ?_
   rotate_left
   ·intro wS hSw;(try dsimp only at hSw);obtain ⟨s1,s2⟩:=hSw;first | (apply Eq.trans;apply ex_ld_id;exact rfl;exact rfl;assumption;with_reducible rfl) | (apply Eq.trans;apply ex_ld_arr;exact rfl;exact rfl;assumption;with_reducible rfl) | (go_simp;try with_reducible rfl)
   try simp only [sA1,sA2,sA3,Act.put,sA4,sA5,sA6]
   refine wpAnyH_take (i:=6) (v:=?_) rfl (by kernel_rfl) (by kernel_rfl) (by kernel_rfl) (fun _ _ _ h=>h) (Or.inl ⟨by rfl,?_⟩) hF ?_
   rotate_left
   ·intro wS hSw;(try dsimp only at hSw);obtain ⟨s1,s2⟩:=hSw;first | (apply Eq.trans;apply ex_ld_id;exact rfl;exact rfl;assumption;with_reducible rfl) | (apply Eq.trans;apply ex_ld_arr;exact rfl;exact rfl;assumption;with_reducible rfl) | (go_simp;try with_reducible rfl)
   try simp only [sA1,sA2,sA3,Act.put,sA4,sA5,sA6]
   refine wpAnyH_done (by kernel_rfl) ?_ _
   clear hF
   by_cases h1:p.toNat < q.toNat
   ·have h1':decide ((p.toNat:Int) < (q.toNat:Int)) = true:=by simpa using h1
    go_wp2_with fail
    go_ret
    refine ⟨?_,(f0.step0 hf).drew⟩
    rw [HC.out,if_pos h1];rfl
   ·have h1':decide ((p.toNat:Int) < (q.toNat:Int)) = false:=by simpa using h1
    go_wp2_with fail
    refine wp_region_H (fun w'=>w'.cell? ⟨w.heap.size,k,none⟩ = some (.int .u8 (p.toNat:Int)) ∧ w'.cell? ⟨w.heap.size + 1,k,none⟩ = some (.int .u8 (q.toNat:Int))) (by kernel_rfl) ⟨d1,d2⟩ (fun hF=>?_)
    refine wpAnyH_take (i:=0) (v:=?_) rfl (by kernel_rfl) (by kernel_rfl) (by kernel_rfl) (fun _ _ _ h=>h) (Or.inl ⟨by rfl,?_⟩) hF ?_
    rotate_left
    ·intro wS hSw;(try dsimp only at hSw);obtain ⟨s1,s2⟩:=hSw;first | (apply Eq.trans;apply ex_ld_id;exact rfl;exact rfl;assumption;with_reducible rfl) | (apply Eq.trans;apply ex_ld_arr;exact rfl;exact rfl;assumption;with_reducible rfl) | (go_simp;try with_reducible rfl)
    try simp only [sA1,sA2,sA3,Act.put,sA4,sA5,sA6]
    refine wpAnyH_take (i:=1) (v:=?_) rfl (by kernel_rfl) (by kernel_rfl) (by kernel_rfl) (fun _ _ _ h=>h) (Or.inl ⟨by rfl,?_⟩) hF ?_
    rotate_left
    ·intro wS hSw;(try dsimp only at hSw);obtain ⟨s1,s2⟩:=hSw;first | (apply Eq.trans;apply ex_ld_id;exact rfl;exact rfl;assumption;with_reducible rfl) | (apply Eq.trans;apply ex_ld_arr;exact rfl;exact rfl;assumption;with_reducible rfl) | (go_simp;try with_reducible rfl)
    try simp only [sA1,sA2,sA3,Act.put,sA4,sA5,sA6]
    refine wpAnyH_take (i:=2) (v:=?_) rfl (by kernel_rfl) (by kernel_rfl) (by kernel_rfl) (fun _ _ _ h=>h) (Or.inl ⟨by rfl,?_⟩) hF ?_
    rotate_left
    ·intro wS hSw;(try dsimp only at hSw);obtain ⟨s1,s2⟩:=hSw;first | (apply Eq.trans;apply ex_ld_id;exact rfl;exact rfl;assumption;with_reducible rfl) | (apply Eq.trans;apply ex_ld_arr;exact rfl;exact rfl;assumption;with_reducible rfl) | (go_simp;try with_reducible rfl)
    try simp only [sA1,sA2,sA3,Act.put,sA4,sA5,sA6]
    refine wpAnyH_take (i:=3) (v:=?_) rfl (by kernel_rfl) (by kernel_rfl) (by kernel_rfl) (fun _ _ _ h=>h) (Or.inl ⟨by rfl,?_⟩) hF ?_
    rotate_left
    ·intro wS hSw;(try dsimp only at hSw);obtain ⟨s1,s2⟩:=hSw;first | (apply Eq.trans;apply ex_ld_id;exact rfl;exact rfl;assumption;with_reducible rfl) | (apply Eq.trans;apply ex_ld_arr;exact rfl;exact rfl;assumption;with_reducible rfl) | (go_simp;try with_reducible rfl)
    try simp only [sA1,sA2,sA3,Act.put,sA4,sA5,sA6]
    refine wpAnyH_take (i:=4) (v:=?_) rfl (by kernel_rfl) (by kernel_rfl) (by kernel_rfl) (fun _ _ _ h=>h) (Or.inl ⟨by rfl,?_⟩) hF ?_
    rotate_left
    ·intro wS hSw;(try dsimp only at hSw);obtain ⟨s1,s2⟩:=hSw;first | (apply Eq.trans;apply ex_ld_id;exact rfl;exact rfl;assumption;with_reducible rfl) | (apply Eq.trans;apply ex_ld_arr;exact rfl;exact rfl;assumption;with_reducible rfl) | (go_simp;try with_reducible rfl)
    try simp only [sA1,sA2,sA3,Act.put,sA4,sA5,sA6]
    refine wpAnyH_take (i:=5) (v:=?_) rfl (by kernel_rfl) (by kernel_rfl) (by kernel_rfl) (fun _ _ _ h=>h) (Or.inl ⟨by rfl,?_⟩) hF ?_
    rotate_left
    ·intro wS hSw;(try dsimp only at hSw);obtain ⟨s1,s2⟩:=hSw;first | (apply Eq.trans;apply ex_ld_id;exact rfl;exact rfl;assumption;with_reducible rfl) | (apply Eq.trans;apply ex_ld_arr;exact rfl;exact rfl;assumption;with_reducible rfl) | (go_simp;try with_reducible rfl)
    try simp only [sA1,sA2,sA3,Act.put,sA4,sA5,sA6]
    refine wpAnyH_take (i:=6) (v:=?_) rfl (by kernel_rfl) (by kernel_rfl) (by kernel_rfl) (fun _ _ _ h=>h) (Or.inl ⟨by rfl,?_⟩) hF ?_
    rotate_left
    ·intro wS hSw;(try dsimp only at hSw);obtain ⟨s1,s2⟩:=hSw;first | (apply Eq.trans;apply ex_ld_id;exact rfl;exact rfl;assumption;with_reducible rfl) | (apply Eq.trans;apply ex_ld_arr;exact rfl;exact rfl;assumption;with_reducible rfl) | (go_simp;try with_reducible rfl)
    try simp only [sA1,sA2,sA3,Act.put,sA4,sA5,sA6]
    refine wpAnyH_done (by kernel_rfl) ?_ _
    clear hF
    by_cases h2:q.toNat < p.toNat
    ·have h2':decide ((q.toNat:Int) < (p.toNat:Int)) = true:=by simpa using h2
     go_wp2_with fail
     go_ret
     refine ⟨?_,(f0.step0 hf).drew.drew⟩
     rw [HC.out,if_neg h1,if_pos h2];rfl
    ·have h2':decide ((q.toNat:Int) < (p.toNat:Int)) = false:=by simpa using h2
     go_wp2_with fail
     go_roundg (32 - (k + 1))
     case measure=>omega
     case rel=>exact ⟨k + 1,by simp,rfl,by omega,HT.out (HI.out _ _ (by omega)),hf.drew.drew⟩
  ·have ek:k = 32:=by omega
   subst ek
   have e:x = y:=by
    have h1:x.1.take 32 = x.1:=List.take_of_length_le (by rw [x.2];omega)
    have h2:y.1.take 32 = y.1:=List.take_of_length_le (by rw [y.2];omega)
    exact Subtype.ext (by rw [← h1,htk,h2])
   subst e
   clear htk
   go_wp2_with fail
   go_ret
   exact ⟨by rw [cmpI_self];rfl,f0.step0 hf⟩
end Go.Proofs.YtjpieiccpbcabaaGreat
namespace Go.Proofs.YtjpieiccpbcabaaGreat
open Go.RowKit Go.Maps Go.Sort Go.Shelf
theorem sizeArr (w:World):(sizeOf 23).run Tryz.prog w = .ok 32 w:=Tryz.sizeOf23 w
theorem zeroArr (w:World):(zeroValue 23).run Tryz.prog w = .ok (encI zID) w:=by
 simp only [encI,idA_eq]
 exact (zero_of_info (P:=Tryz.prog) (t:=23) (v:=.agg (bv zID.1).toArray) (n:=32) (by kernel_rfl)).1 w
@[simp] theorem eq_arr (w:World) (x y:ID):(binOp .eql 23 (encI x) (encI y)).run Tryz.prog w = .ok (.bool (decide (x = y))) w:=by
 simp only [encI,idA_eq]
 have:=run_eql_bytes (P:=Tryz.prog) (w:=w) 23 5 32 Tryz.underlying23 Tryz.underlying5 (by intro w;kernel_rfl) x.1 y.1 x.2 y.2
 have e:(x.1 == y.1) = decide (x = y):=by
  rw [Bool.eq_iff_iff]
  simp only [beq_iff_eq,decide_eq_true_eq]
  exact ⟨fun h=>Subtype.ext h,fun h=>congrArg Subtype.val h⟩
 rw [e] at this
 exact this
@[irreducible] noncomputable def stC (w:World) (v u:Value):Result Next:=((Instr.storeAt 23 v u).run Tryz.prog w).andThen (fun _ w=>.ok .skip w)
open Classical in
noncomputable def bxA (w:World) (b:Nat):Option ID:=if h:∃ x,w.heap[b]? = some (aro x) then some h.choose else none
theorem bxA_of {w:World} {b:Nat} {x:ID} (h:w.heap[b]? = some (aro x)):bxA w b = some x:=by
 unfold bxA
 have hx:∃ x,w.heap[b]? = some (aro x):=⟨x,h⟩
 rw [dif_pos hx]
 have:=h.symm.trans hx.choose_spec
 injection this with this
 injection this with this
 exact congrArg some (idA_inj this).symm
theorem bxA_at {w:World} {b:Nat} {x:ID} (h:bxA w b = some x):w.heap[b]? = some (aro x):=by
 unfold bxA at h
 split at h
 ·rename_i hx
  injection h with h
  rw [← h];exact hx.choose_spec
 ·cases h
theorem bxA_rd {w:World} {b:Nat} {x:ID} (h:bxA w b = some x):rdI w b 0 = some x:=by
 refine Rd.rdI fun j v hv=>?_
 have hh:=bxA_at h
 simp only [aro,idA_eq] at hh
 rw [Nat.zero_add,cell_of_row _ _ j (bv x.1).toArray 23 (0,0) hh]
 simpa using hv
@[simp] theorem bxA_new (w:World) (x:ID):bxA (w.alloc (aro x)) w.heap.size = some x:=bxA_of (heap_alloc_new w _)
@[simp] theorem bldA_0 (w:World):(Instr.build 23 #[]).run Tryz.prog w = .ok (encI zID) w:=by
 simp only [Instr.build,Sem.run_bind,zeroArr,Result.andThen_ok,run_underlying Tryz.underlying23,Tryz.sizeOf5,Instr.fill,Sem.run_pure]
 simp [Value.cells]
@[simp ↓] theorem ex_bldA0 (ρ:Operand → Value) (d:Option Nat) (t:TypeId) (p:String) (f:Array Edge) (g:Option (Nat × Bool)) (w:World) :
  (execOp ρ { dst:=d,op:=.build 23 #[],type:=t,pos:=p,after:=f,guard:=g }).run Tryz.prog w = .ok (.value (encI zID)) w:=by
 unfold execOp
 simp only [List.map_toArray,List.map_nil,Sem.run_bind,bldA_0,Result.andThen_ok,Sem.run_pure]
theorem ex_ldA_op (ρ:Operand → Value) (o:Oper) (a:Operand) (ho:o.op = .load 23 a) (w:World):(execOp ρ o).run Tryz.prog w = ldI w (ρ a) (exElse ρ o w):=by
 have he:exElse ρ o w = (execOp ρ o).run Tryz.prog w:=by unfold exElse;rfl
 rw [he]
 unfold ldI
 split
 ·rename_i b off hv
  cases h:rdI w b off with
  | none=>rfl
  | some x=>exact ex_ld_arr ho hv h
 ·rfl
@[simp ↓] theorem ex_ldA (ρ:Operand → Value) (d:Option Nat) (a:Operand) (t:TypeId) (p:String) (f:Array Edge) (g:Option (Nat × Bool)) (w:World) :
  (execOp ρ { dst:=d,op:=.load 23 a,type:=t,pos:=p,after:=f,guard:=g }).run Tryz.prog w = ldI w (ρ a) (exElse ρ { dst:=d,op:=.load 23 a,type:=t,pos:=p,after:=f,guard:=g } w):=ex_ldA_op ρ _ a rfl w
end Go.Proofs.YtjpieiccpbcabaaGreat
namespace Go.Proofs.YtjpieiccpbcabaaGreat
open Go.RowKit
set_option maxRecDepth 100000 in
theorem r3cmp_any (w:World) (x y:St):Calls Tryz.prog 29 #[.agg (codS.A x),.agg (codS.A y)] w (Gives w (.int .i64 (cmpS x y))):=by
 have f0:Fr noB w ((w.alloc (.cells (codS.A x) 80)).alloc (.cells (codS.A y) 80)):=((Fr.refl noB w).alloc _).alloc _
 have q1:=Cod.rd_fr0 (Cod.rd_new (C:=codS) w 80 x) ((Fr.refl noB _).alloc (.cells (codS.A y) 80))
 have q2:=Cod.rd_new (C:=codS) (w.alloc (.cells (codS.A x) 80)) 80 y
 have hz:(w.alloc (.cells (codS.A x) 80)).heap.size = w.heap.size + 1:=by simp
 rw [hz] at q2
 have a1:=Cod.rd_cell q1 0 (v:=.int .i64 x.T) rfl
 have a2:=Cod.rd_cell q1 1 (v:=.int .i64 x.R) rfl
 have b1:=Cod.rd_cell q2 0 (v:=.int .i64 y.T) rfl
 have b2:=Cod.rd_cell q2 1 (v:=.int .i64 y.R) rfl
 simp only [Nat.zero_add] at a1 a2 b1 b2
 clear hz q1 q2
 go_enter Tryz.func29,Tryz.ntmps29
 go_upto_region 1 with fail
 generalize (w.alloc (.cells (codS.A x) 80)).alloc (.cells (codS.A y) 80) = W0 at f0 a1 a2 b1 b2 ⊢
 generalize w.heap.size = P at a1 a2 b1 b2 ⊢
 by_cases h1:x.T < y.T
 ·have E:=Lib.hid (show cmpS x y = -1 by simp [cmpS,h1])
  go_wp2_with fail
  go_ret
  exact ⟨by rw [E.out];rfl,f0⟩
 ·by_cases h2:x.T = y.T
  ·have h2b:(x.T == y.T) = true:=by simp [h2]
   by_cases h3:x.R < y.R
   ·have E:=Lib.hid (show cmpS x y = -1 by simp [cmpS,h2,h3])
    clear h2
    go_wp2_with fail
    go_ret
    exact ⟨by rw [E.out];rfl,f0⟩
   ·by_cases h4:x.R = y.R
    ·have h4b:(x.R == y.R) = true:=by simp [h4]
     have E:=Lib.hid (show cmpS x y = 0 by simp [cmpS,h2,h4])
     clear h2 h4
     go_wp2_with fail
     go_ret
     exact ⟨by rw [E.out];rfl,f0⟩
    ·have h4b:(x.R == y.R) = false:=by rw [beq_eq_false_iff_ne];exact h4
     have h5:y.R < x.R:=by omega
     have E:=Lib.hid (show cmpS x y = 1 by simp [cmpS,h2,h3,h5])
     clear h2 h4 h5
     go_wp2_with fail
     go_ret
     exact ⟨by rw [E.out];rfl,f0⟩
  ·have h2b:(x.T == y.T) = false:=by rw [beq_eq_false_iff_ne];exact h2
   have h5:y.T < x.T:=by omega
   have E:=Lib.hid (show cmpS x y = 1 by simp [cmpS,h1,h5])
   clear h2 h5
   go_wp2_with fail
   go_ret
   exact ⟨by rw [E.out];rfl,f0⟩
set_option maxRecDepth 100000 in
theorem r4zero_any (w:World) (x:ID):Calls Tryz.prog 58 #[encI x] w (Gives w (.bool (decide (x = zID)))):=by
 have f0:Fr noB w (w.alloc (aro x)):=(Fr.refl noB w).alloc _
 have q1:rdI (w.alloc (aro x)) w.heap.size 0 = some x:=bxA_rd (bxA_new w x)
 go_enter Tryz.func58,Tryz.ntmps58
 go_wp2_with fail
 go_ret
 exact ⟨rfl,f0⟩
end Go.Proofs.YtjpieiccpbcabaaGreat
namespace Go.Proofs.YtjpieiccpbcabaaGreat
open Go.RowKit
end Go.Proofs.YtjpieiccpbcabaaGreat
