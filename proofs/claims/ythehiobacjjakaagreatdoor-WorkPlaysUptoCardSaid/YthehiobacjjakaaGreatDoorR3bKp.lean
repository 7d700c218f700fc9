/- Contract: obj.Kind. Contract: slices.Compact of IDs, in place. Contract: the reference's Cmp. (ex_ld_arr: loads of arrays are met by that rule.) Arrays of 32 bytes by value and in variables (as the reference's functions have IDs). Contracts: the reference's order of stamps, Right, Name, zero. Contract: the reference's Good. -/
import Derived.Test.YthehiobacjjakaaGreatDoorFrameOKp
import Derived.Test.YthehiobacjjakaaGreatDoorPathPKp
import Derived.Lib.SliceRun
import Derived.Test.YthehiobacjjakaaGreatDoorDifDKp
import Derived.Test.YthehiobacjjakaaGreatDoorRegTKp
set_option linter.unusedVariables false
set_option linter.unusedSimpArgs false
namespace Go.Proofs.YthehiobacjjakaaGreatDoor
open Go.RowKit
end Go.Proofs.YthehiobacjjakaaGreatDoor
namespace Go.Proofs.YthehiobacjjakaaGreatDoor
open Go.RowKit
def RwI (w:World) (g:Nat) (l:List ID):Prop:=∃ cur:List Value,w.heap[g]? = some (.cells cur.toArray 33 (0,0)) ∧ cur.take (l.length * 32) = idc l
theorem RwI.own {w0 w:World} {A:Option Addr} {c:Nat} {l:List ID} (h:OwnC codI w0 w A c l) (h0:l ≠ []):∃ g,A = some ⟨g,0,none⟩ ∧ RwI w g l:=by
 rcases h.2 with ⟨hv,hn⟩ | ⟨g,cap,cur,hv,hb,hg,hnc,hm,hs,ht⟩
 ·exact absurd (List.length_eq_zero_iff.1 hn) h0
 ·injection hv with h1 h2 h3
  exact ⟨g,h1,cur.toList,(by rw [Array.toArray_toList];exact hg),ht⟩
theorem RwI.lt {w:World} {g:Nat} {l:List ID} (h:RwI w g l):g < w.heap.size:=by
 obtain ⟨cur,hg,_⟩:=h
 exact (Array.getElem?_eq_some_iff.1 hg).1
theorem RwI.cell {w:World} {g:Nat} {l:List ID} (h:RwI w g l) (j:Nat) (hj:j < l.length * 32):w.cell? ⟨g,j,none⟩ = (idc l)[j]? ∧ w.frozen? ⟨g,j,none⟩ = false:=by
 obtain ⟨cur,hg,ht⟩:=h
 have hb:Blk w g 33 cur:=hg
 refine ⟨?_,hb.frozen j⟩
 rw [hb.cell,← ht,List.getElem?_take_of_lt hj]
theorem RwI.sl {w:World} {g:Nat} {l:List ID} (h:RwI w g l):Sl w (some ⟨g,0,none⟩) (idc l):=by
 intro hne
 refine ⟨g,0,rfl,h.lt,fun j v hv=>?_⟩
 have hj:j < l.length * 32:=by have:=(List.getElem?_eq_some_iff.1 hv).1;rw [idc_length] at this;exact this
 rw [Nat.zero_add,(h.cell j hj).1]
 exact hv
end Go.Proofs.YthehiobacjjakaaGreatDoor
namespace Go.Proofs.YthehiobacjjakaaGreatDoor
open Go.RowKit Go.Maps
end Go.Proofs.YthehiobacjjakaaGreatDoor
namespace Go.Proofs.YthehiobacjjakaaGreatDoor
open Go.RowKit Go.Maps Go.Sort Go.Shelf
abbrev aro (x:ID):Obj:=.cells (idA x) 32
theorem ex_ld_arr {ρ:Operand → Value} {o:Oper} {a:Operand} {w:World} {b off:Nat} {x:ID} (ho:o.op = .load 32 a) (ha:ρ a = .pointer (some ⟨b,off,none⟩)) (hr:rdI w b off = some x) :
  (execOp ρ o).run Tryz.prog w = .ok (.value (encI x)) w:=by
 have h:=ld_arr w b off
 rw [hr] at h
 unfold execOp
 simp only [ho,ha,Sem.run_bind,h,Result.andThen_ok,Sem.run_pure]
end Go.Proofs.YthehiobacjjakaaGreatDoor
namespace Go.Proofs.YthehiobacjjakaaGreatDoor
open Go.RowKit Go.Maps Go.Sort Go.Shelf
theorem zeroArr (w:World):(zeroValue 32).run Tryz.prog w = .ok (encI zID) w:=by
 simp only [encI,idA_eq]
 exact (zero_of_info (P:=Tryz.prog) (t:=32) (v:=.agg (bv zID.1).toArray) (n:=32) (by kernel_rfl)).1 w
@[simp] theorem eq_arr (w:World) (x y:ID):(binOp .eql 32 (encI x) (encI y)).run Tryz.prog w = .ok (.bool (decide (x = y))) w:=by
 simp only [encI,idA_eq]
 have:=run_eql_bytes (P:=Tryz.prog) (w:=w) 32 5 32 Tryz.underlying32 Tryz.underlying5 (by intro w;kernel_rfl) x.1 y.1 x.2 y.2
 have e:(x.1 == y.1) = decide (x = y):=by
  rw [Bool.eq_iff_iff]
  simp only [beq_iff_eq,decide_eq_true_eq]
  exact ⟨fun h=>Subtype.ext h,fun h=>congrArg Subtype.val h⟩
 rw [e] at this
 exact this
@[irreducible] noncomputable def stC (w:World) (v u:Value):Result Next:=((Instr.storeAt 32 v u).run Tryz.prog w).andThen (fun _ w=>.ok .skip w)
open Classical in
noncomputable def bxA (w:World) (b:Nat):Option ID:=if h:∃ x,w.heap[b]? = some (aro x) then some h.choose else none
theorem bxA_of {w:World} {b:Nat} {x:ID} (h:w.heap[b]? = some (aro x)):bxA w b = some x:=by
 unfold bxA
 have hx:∃ x,w.heap[b]? = some (aro x):=⟨x,h⟩
 rw [dif_pos hx]
 have:=h.symm.trans hx.choose_spec
 injection this with this
 injection this with this
 exact congrArg some (idA_inj this).symm
theorem bxA_at {w:World} {b:Nat} {x:ID} (h:bxA w b = some x):w.heap[b]? = some (aro x):=by
 unfold bxA at h
 split at h
 ·rename_i hx
  injection h with h
  rw [← h];exact hx.choose_spec
 ·cases h
theorem bxA_rd {w:World} {b:Nat} {x:ID} (h:bxA w b = some x):rdI w b 0 = some x:=by
 refine Rd.rdI fun j v hv=>?_
 have hh:=bxA_at h
 simp only [aro,idA_eq] at hh
 rw [Nat.zero_add,cell_of_row _ _ j (bv x.1).toArray 32 (0,0) hh]
 simpa using hv
@[simp] theorem bxA_new (w:World) (x:ID):bxA (w.alloc (aro x)) w.heap.size = some x:=bxA_of (heap_alloc_new w _)
@[simp] theorem bldA_0 (w:World):(Instr.build 32 #[]).run Tryz.prog w = .ok (encI zID) w:=by
 simp only [Instr.build,Sem.run_bind,zeroArr,Result.andThen_ok,run_underlying Tryz.underlying32,Tryz.sizeOf5,Instr.fill,Sem.run_pure]
 simp [Value.cells]
@[simp ↓] theorem ex_bldA0 (ρ:Operand → Value) (d:Option Nat) (t:TypeId) (p:String) (f:Array Edge) (g:Option (Nat × Bool)) (w:World) :
  (execOp ρ { dst:=d,op:=.build 32 #[],type:=t,pos:=p,after:=f,guard:=g }).run Tryz.prog w = .ok (.value (encI zID)) w:=by
 unfold execOp
 simp only [List.map_toArray,List.map_nil,Sem.run_bind,bldA_0,Result.andThen_ok,Sem.run_pure]
theorem ex_bldA0_at {ρ:Operand → Value} {o:Oper} {w:World} (ho:o.op = .build 32 #[]):(execOp ρ o).run Tryz.prog w = .ok (.value (encI zID)) w:=by
 obtain ⟨d,op,t,p,f,g⟩:=o
 simp only at ho
 subst ho
 rw [ex_bldA0]
theorem ex_ldA_op (ρ:Operand → Value) (o:Oper) (a:Operand) (ho:o.op = .load 32 a) (w:World):(execOp ρ o).run Tryz.prog w = ldI w (ρ a) (exElse ρ o w):=by
 have he:exElse ρ o w = (execOp ρ o).run Tryz.prog w:=by unfold exElse;rfl
 rw [he]
 unfold ldI
 split
 ·rename_i b off hv
  cases h:rdI w b off with
  | none=>rfl
  | some x=>exact ex_ld_arr ho hv h
 ·rfl
@[simp ↓] theorem ex_ldA (ρ:Operand → Value) (d:Option Nat) (a:Operand) (t:TypeId) (p:String) (f:Array Edge) (g:Option (Nat × Bool)) (w:World) :
  (execOp ρ { dst:=d,op:=.load 32 a,type:=t,pos:=p,after:=f,guard:=g }).run Tryz.prog w = ldI w (ρ a) (exElse ρ { dst:=d,op:=.load 32 a,type:=t,pos:=p,after:=f,guard:=g } w):=ex_ldA_op ρ _ a rfl w
end Go.Proofs.YthehiobacjjakaaGreatDoor
namespace Go.Proofs.YthehiobacjjakaaGreatDoor
open Go.RowKit
set_option maxRecDepth 100000 in
theorem r3cmp_any (w:World) (x y:St):Calls Tryz.prog 50 #[.agg (codS.A x),.agg (codS.A y)] w (Gives w (.int .i64 (cmpS x y))):=by
 have f0:Fr noB w ((w.alloc (.cells (codS.A x) 24)).alloc (.cells (codS.A y) 24)):=((Fr.refl noB w).alloc _).alloc _
 have q1:=Cod.rd_fr0 (Cod.rd_new (C:=codS) w 24 x) ((Fr.refl noB _).alloc (.cells (codS.A y) 24))
 have q2:=Cod.rd_new (C:=codS) (w.alloc (.cells (codS.A x) 24)) 24 y
 have hz:(w.alloc (.cells (codS.A x) 24)).heap.size = w.heap.size + 1:=by simp
 rw [hz] at q2
 have a1:=Cod.rd_cell q1 0 (v:=.int .i64 x.T) rfl
 have a2:=Cod.rd_cell q1 1 (v:=.int .i64 x.R) rfl
 have b1:=Cod.rd_cell q2 0 (v:=.int .i64 y.T) rfl
 have b2:=Cod.rd_cell q2 1 (v:=.int .i64 y.R) rfl
 simp only [Nat.zero_add] at a1 a2 b1 b2
 clear hz q1 q2
 go_enter Tryz.func50,Tryz.ntmps50
 go_upto_region 1 with fail
 generalize (w.alloc (.cells (codS.A x) 24)).alloc (.cells (codS.A y) 24) = W0 at f0 a1 a2 b1 b2 ⊢
 generalize w.heap.size = P at a1 a2 b1 b2 ⊢
 by_cases h1:x.T < y.T
 ·have E:=Lib.hid (show cmpS x y = -1 by simp [cmpS,h1])
  go_wp2_with fail
  go_ret
  exact ⟨by rw [E.out];rfl,f0⟩
 ·by_cases h2:x.T = y.T
  ·have h2b:(x.T == y.T) = true:=by simp [h2]
   by_cases h3:x.R < y.R
   ·have E:=Lib.hid (show cmpS x y = -1 by simp [cmpS,h2,h3])
    clear h2
    go_wp2_with fail
    go_ret
    exact ⟨by rw [E.out];rfl,f0⟩
   ·by_cases h4:x.R = y.R
    ·have h4b:(x.R == y.R) = true:=by simp [h4]
     have E:=Lib.hid (show cmpS x y = 0 by simp [cmpS,h2,h4])
     clear h2 h4
     go_wp2_with fail
     go_ret
     exact ⟨by rw [E.out];rfl,f0⟩
    ·have h4b:(x.R == y.R) = false:=by rw [beq_eq_false_iff_ne];exact h4
     have h5:y.R < x.R:=by omega
     have E:=Lib.hid (show cmpS x y = 1 by simp [cmpS,h2,h3,h5])
     clear h2 h4 h5
     go_wp2_with fail
     go_ret
     exact ⟨by rw [E.out];rfl,f0⟩
  ·have h2b:(x.T == y.T) = false:=by rw [beq_eq_false_iff_ne];exact h2
   have h5:y.T < x.T:=by omega
   have E:=Lib.hid (show cmpS x y = 1 by simp [cmpS,h1,h5])
   clear h2 h5
   go_wp2_with fail
   go_ret
   exact ⟨by rw [E.out];rfl,f0⟩
set_option maxRecDepth 100000 in
theorem r3right_any (w:World) (s:St):Calls Tryz.prog 65 #[.agg (codS.A s)] w (Gives w (.bool (rightS s))):=by
 have f0:Fr noB w (w.alloc (.cells (codS.A s) 24)):=(Fr.refl noB w).alloc _
 have q1:=Cod.rd_new (C:=codS) w 24 s
 have a1:=Cod.rd_cell q1 0 (v:=.int .i64 s.T) rfl
 have a2:=Cod.rd_cell q1 1 (v:=.int .i64 s.R) rfl
 simp only [Nat.zero_add] at a1 a2
 clear q1
 have E:=Lib.hid (show rightS s = (decide (0 < s.T) && decide (s.T ≤ 1099511627776) && decide (0 < s.R) && decide (s.R ≤ 65536)) from rfl)
 go_enter Tryz.func65,Tryz.ntmps65
 go_upto_region 1 with fail
 generalize w.alloc (.cells (codS.A s) 24) = W0 at f0 a1 a2 ⊢
 generalize w.heap.size = P at a1 a2 ⊢
 go_wp2_with fail
 all_goals
  go_ret
  refine ⟨?_,f0⟩
  rw [E.out]
  first
  | (simp [*];done)
  | (simp_all;done)
  | (simp_all;omega)
set_option maxRecDepth 100000 in
theorem r4zero_any (w:World) (x:ID):Calls Tryz.prog 110 #[encI x] w (Gives w (.bool (decide (x = zID)))):=by
 have f0:Fr noB w (w.alloc (aro x)):=(Fr.refl noB w).alloc _
 have q1:rdI (w.alloc (aro x)) w.heap.size 0 = some x:=bxA_rd (bxA_new w x)
 go_enter Tryz.func110,Tryz.ntmps110
 go_wp2_with fail
 go_ret
 exact ⟨rfl,f0⟩
def NaR (W:World) (l:List UInt8) (gk:Nat) (iv:Value) (wr:World):Prop :=
 ∃ k:Nat,iv = .int .i64 (k:Int) ∧ gk = l.length - k ∧ k ≤ l.length ∧ wr = W ∧ (l.take k).all (fun b=>decide (b ≠ 0) && decide (b ≠ 47) && decide (b ≠ 10)) = true
theorem str_get (l:List UInt8) (k:Nat) (h:k < (str l).size) (h':k < l.length):(str l)[k]'h = l[k]:=rfl
def okB (b:UInt8):Bool:=decide (b ≠ 0) && decide (b ≠ 47) && decide (b ≠ 10)
theorem okB_sp (x:UInt8):(okB x = true ∧ ((x.toNat:Int) == 0) = false ∧ ((x.toNat:Int) == 47) = false ∧ ((x.toNat:Int) == 10) = false) ∨
  (okB x = false ∧ (((x.toNat:Int) == 0) = true ∨ (((x.toNat:Int) == 0) = false ∧ ((x.toNat:Int) == 47) = true) ∨ (((x.toNat:Int) == 0) = false ∧ ((x.toNat:Int) == 47) = false ∧ ((x.toNat:Int) == 10) = true))):=by
 have h:∀ n,n < 256 → (okB (UInt8.ofNat n) = true ∧ ((n:Int) == 0) = false ∧ ((n:Int) == 47) = false ∧ ((n:Int) == 10) = false) ∨
  (okB (UInt8.ofNat n) = false ∧ (((n:Int) == 0) = true ∨ (((n:Int) == 0) = false ∧ ((n:Int) == 47) = true) ∨ (((n:Int) == 0) = false ∧ ((n:Int) == 47) = false ∧ ((n:Int) == 10) = true))):=by decide +kernel
 have:=h x.toNat x.toNat_lt
 rwa [UInt8.ofNat_toNat] at this
theorem u8_beq (x:UInt8) (n:Nat) (hn:n < 256):((x.toNat:Int) == (n:Int)) = decide (x = UInt8.ofNat n):=by
 rw [Bool.eq_iff_iff,beq_iff_eq,decide_eq_true_eq]
 constructor
 ·intro h
  have:x.toNat = n:=by omega
  rw [← this];simp
 ·rintro rfl
  rw [UInt8.toNat_ofNat'];omega
theorem beq_str (l m:List UInt8):((str l).toList == m) = decide (l = m):=by rw [str_toList,Bool.eq_iff_iff];simp
set_option maxRecDepth 100000 in
theorem r3name_any (w:World) (l:List UInt8) (hb:l.length ≤ 140737488355328):Calls Tryz.prog 64 #[.string (str l)] w (Gives w (.bool (nameOk l))):=by
 have hz:=str_size l
 have hT:(str l).toList = l:=str_toList l
 have HT:=Lib.hid hT
 have HB:=Lib.hid (show nameOk l = (decide (1 ≤ l.length) && decide (l.length ≤ 60) && decide (l ≠ [46]) && decide (l ≠ [46,46]) && l.all okB) from rfl)
 clear hT
 go_enter Tryz.func64,Tryz.ntmps64
 go_wp2_with fail
 go_loopg [3] l.length (fun gk iv wr=>NaR w l gk iv wr)
 case atStart=>exact ⟨0,rfl,by omega,by omega,rfl,rfl⟩
 case round =>
  obtain ⟨k,rfl,rfl,hk,rfl,ha⟩:=hrel
  have HA:=Lib.hid ha
  clear ha
  by_cases hlt:k < l.length
  ·have i1:(k:Int) < (l.length:Int):=by omega
   have i0:(0:Int) ≤ (k:Int):=by omega
   have ht:(l.take (k + 1)).all okB = ((l.take k).all okB && okB l[k]):=by rw [List.take_succ_eq_append_getElem hlt,List.all_append];simp
   have hbad:okB l[k] = false → l.all okB = false:=fun h=>by
    rw [List.all_eq_false]
    exact ⟨l[k],List.getElem_mem hlt,by rw [h];simp⟩
   have hks:k < (str l).size:=by rw [hz];exact hlt
   have hsp:=okB_sp ((str l)[k]'hks)
   have HT2:=Lib.hid ht
   have HBAD:=Lib.hid hbad
   clear ht hbad
   rcases hsp with ⟨hx,d1,d2,d3⟩ | ⟨hx,hd⟩
   ·have HX:=Lib.hid hx
    clear hx
    go_wp2_with fail
    go_roundg (l.length - (k + 1))
    case measure=>omega
    case rel=>exact ⟨k + 1,by simp,rfl,by omega,rfl,by
     have:=HT2.out
     rw [show okB l[k] = true from HX.out,Bool.and_true] at this
     exact this.trans HA.out⟩
   ·have HF:=Lib.hid (HBAD.out hx)
    have HFIN:=Lib.hid (show nameOk l = false by rw [HB.out,HF.out];simp)
    clear hx
    rcases hd with d1 | ⟨d1,d2⟩ | ⟨d1,d2,d3⟩
    all_goals
     go_wp2_with fail
     go_ret
     exact ⟨by rw [HFIN.out];rfl,Fr.refl _ _⟩
  ·have hkl:k = l.length:=by omega
   subst hkl
   have i1:¬ (l.length:Int) < (l.length:Int):=by omega
   have hal:=HA.out
   rw [List.take_length] at hal
   have hM:nameOk l = (decide (1 ≤ l.length) && decide (l.length ≤ 60) && decide (l ≠ [46]) && decide (l ≠ [46,46])):=by rw [HB.out,show l.all okB = true from hal,Bool.and_true]
   have HM:=Lib.hid hM
   clear hal hM hlt hk
   have e0:=beq_str l []
   have e1:=beq_str l [46]
   have e2:=beq_str l [46,46]
   by_cases h0:l = []
   ·have E:=Lib.hid (show nameOk l = false by rw [HM.out,h0];rfl)
    rw [show decide (l = []) = true by simp [h0]] at e0
    clear h0 e1 e2
    clear HM
    go_wp2_with fail
    go_ret
    exact ⟨by rw [E.out];rfl,Fr.refl _ _⟩
   ·rw [show decide (l = []) = false by simp [h0]] at e0
    have hp:1 ≤ l.length:=List.length_pos_iff.2 h0
    by_cases h2:l.length ≤ 60
    ·have i2:(l.length:Int) ≤ 60:=by omega
     by_cases h3:l = [46]
     ·have E:=Lib.hid (show nameOk l = false by rw [HM.out,h3];rfl)
      rw [show decide (l = [46]) = true by simp [h3]] at e1
      clear h0 h3 e2 hp
      clear HM
      go_wp2_with fail
      go_ret
      exact ⟨by rw [E.out];rfl,Fr.refl _ _⟩
     ·rw [show decide (l = [46]) = false by simp [h3]] at e1
      by_cases h4:l = [46,46]
      ·have E:=Lib.hid (show nameOk l = false by rw [HM.out,h4];rfl)
       rw [show decide (l = [46,46]) = true by simp [h4]] at e2
       clear h0 h3 h4 hp
       clear HM
       go_wp2_with fail
       go_ret
       exact ⟨by rw [E.out];rfl,Fr.refl _ _⟩
      ·have E:=Lib.hid (show nameOk l = true by rw [HM.out];simp [hp,h2,h3,h4])
       rw [show decide (l = [46,46]) = false by simp [h4]] at e2
       clear h0 h3 h4 hp
       clear HM
       go_wp2_with fail
       go_ret
       exact ⟨by rw [E.out];rfl,Fr.refl _ _⟩
    ·have i2:¬ (l.length:Int) ≤ 60:=by omega
     have E:=Lib.hid (show nameOk l = false by rw [HM.out];simp [h2])
     clear h0 e1 e2 hp
     clear HM
     go_wp2_with fail
     go_ret
     exact ⟨by rw [E.out];rfl,Fr.refl _ _⟩
end Go.Proofs.YthehiobacjjakaaGreatDoor
namespace Go.Proofs.YthehiobacjjakaaGreatDoor
open Go.RowKit
theorem cmpS_cases (a b:St):cmpS a b = -1 ∨ cmpS a b = 0 ∨ cmpS a b = 1:=by
 unfold cmpS
 split
 ·exact .inl rfl
 ·split
  ·exact .inr (.inr rfl)
  ·split
   ·exact .inl rfl
   ·split
    ·exact .inr (.inr rfl)
    ·exact .inr (.inl rfl)
theorem cmpS_neg {a b:St} (h:cmpS a b < 0):cmpS a b = -1:=by
 rcases cmpS_cases a b with h1 | h1 | h1 <;> omega
theorem ne_m1 {z:Int} (h:¬ z < 0):(z == -1) = false ∧ (z != -1) = true:=by
 constructor
 ·rw [beq_eq_false_iff_ne];omega
 ·rw [bne_iff_ne];omega
end Go.Proofs.YthehiobacjjakaaGreatDoor
