/- IDs: 32 bytes by value. The walk never looks into one: rules on loads, stores, boxes, sameness. Contracts: the order of IDs (sha.Cmp, bytes.Compare). Plain: SHA-256, on numbers. Contracts: pollardref01 right, blocked. -/
import Derived.Test.YtnkdnbjmhoegkaaGreatProg
import Derived.Test.YtnkdnbjmhoegkaaGreatMapRKp
import Derived.Deep.MidRow
import Derived.Deep.WholeRow
import Derived.Stop.BytesEq
import Derived.WalkSpells
import Derived.Outline
import Derived.Lib.Bytealg
import Derived.Lib.BytesEntry
import Derived.Sort.Grow
import Derived.Deep.QuietTactic
import Derived.BigQuiet
import Derived.Laws.Bits64b
import Derived.Shelf.Spec.TrailingZeros
set_option linter.unusedVariables false
set_option linter.unusedSimpArgs false
namespace Go.Proofs.YtnkdnbjmhoegkaaGreat
open Go.RowKit
def ID:Type:={ l:List UInt8 // l.length = 32 }
instance:DecidableEq ID:=inferInstanceAs (DecidableEq { l:List UInt8 // l.length = 32 })
@[irreducible] def idA (x:ID):Array Value:=(bv x.1).toArray
theorem idA_eq (x:ID):idA x = (bv x.1).toArray:=by unfold idA;rfl
abbrev encI (x:ID):Value:=.agg (idA x)
abbrev ido (x:ID):Obj:=.cells (idA x) 34
def zID:ID:=⟨List.replicate 32 0,rfl⟩
instance:Inhabited ID:=⟨zID⟩
theorem u8v_inj {a b:UInt8} (h:u8v a = u8v b):a = b:=by
 unfold u8v at h
 injection h with _ h
 exact UInt8.toNat_inj.1 (by omega)
theorem bv_inj {l m:List UInt8} (h:bv l = bv m):l = m:=by
 induction l generalizing m with
 | nil=>cases m with
  | nil=>rfl
  | cons b m=>simp [bv] at h
 | cons a l ih=>cases m with
  | nil=>simp [bv] at h
  | cons b m =>
   rw [bv_cons,bv_cons] at h
   injection h with h1 h2
   rw [u8v_inj h1,ih h2]
theorem encI_inj {x y:ID} (h:encI x = encI y):x = y:=by
 injection h with h
 rw [idA_eq,idA_eq] at h
 exact Subtype.ext (bv_inj (by simpa using congrArg Array.toList h))
def Rd (w:World) (b o:Nat) (x:ID):Prop:=w.rangeAt b o (bv x.1)
theorem Rd.uniq {w:World} {b o:Nat} {x y:ID} (hx:Rd w b o x) (hy:Rd w b o y):x = y:=by
 refine Subtype.ext (bv_inj (List.ext_getElem? fun j=>?_))
 by_cases hj:j < 32
 ·have ex:(bv x.1)[j]? = some ((bv x.1)[j]'(by simp [x.2];exact hj)):=List.getElem?_eq_getElem _
  have ey:(bv y.1)[j]? = some ((bv y.1)[j]'(by simp [y.2];exact hj)):=List.getElem?_eq_getElem _
  have:=(hx j _ ex).symm.trans (hy j _ ey)
  rw [ex,ey,this]
 ·rw [List.getElem?_eq_none (by simp [x.2];omega),List.getElem?_eq_none (by simp [y.2];omega)]
open Classical in
noncomputable def rdI (w:World) (b o:Nat):Option ID:=if h:∃ x,Rd w b o x then some h.choose else none
theorem Rd.rdI {w:World} {b o:Nat} {x:ID} (h:Rd w b o x):rdI w b o = some x:=by
 unfold Go.Proofs.YtnkdnbjmhoegkaaGreat.rdI
 have hx:∃ x,Rd w b o x:=⟨x,h⟩
 rw [dif_pos hx]
 exact congrArg some (hx.choose_spec.uniq h)
theorem rdI_rd {w:World} {b o:Nat} {x:ID} (h:rdI w b o = some x):Rd w b o x:=by
 unfold rdI at h
 split at h
 ·rename_i hx
  injection h with h
  rw [← h];exact hx.choose_spec
 ·cases h
theorem rdI_congr {w w':World} {b o o':Nat} (h:∀ x,Rd w b o x ↔ Rd w' b o' x):rdI w b o = rdI w' b o':=by
 cases hx:rdI w b o with
 | some x=>exact ((h x).1 (rdI_rd hx)).rdI.symm
 | none =>
  cases hy:rdI w' b o' with
  | none=>rfl
  | some y=>rw [((h y).2 (rdI_rd hy)).rdI] at hx;cases hx
theorem Rd.keep {w w':World} {b o:Nat} {x:ID} (h:Rd w b o x) (hb:w'.heap[b]? = w.heap[b]?):Rd w' b o x:=fun j v hv=>(World.cell?_of_block (a:=⟨b,o + j,none⟩) hb).trans (h j v hv)
theorem rdI_keep {w w':World} {b o:Nat} (hb:w'.heap[b]? = w.heap[b]?):rdI w' b o = rdI w b o:=rdI_congr fun x=>⟨fun h=>h.keep hb.symm,fun h=>h.keep hb⟩
theorem rdI_fr {M:Nat → Prop} {w w':World} {b o:Nat} {x:ID} (h:rdI w b o = some x) (hl:b < w.heap.size) (f:Fr M w w') (hM:¬ M b):rdI w' b o = some x:=(rdI_keep (f.block b hl hM)).trans h
theorem Rd.lt {w:World} {b o:Nat} {x:ID} (h:Rd w b o x):b < w.heap.size:=by
 have hl:0 < (bv x.1).length:=by simp [x.2]
 exact World.block_lt_of_cell? _ _ (h 0 _ (List.getElem?_eq_getElem hl))
theorem rdI_lt {w:World} {b o:Nat} {x:ID} (h:rdI w b o = some x):b < w.heap.size:=(rdI_rd h).lt
@[simp] theorem rdI_drew (w:World) (b o:Nat):rdI w.drew b o = rdI w b o:=rdI_keep rfl
@[simp] theorem rdI_drewN (w:World) (n b o:Nat):rdI (w.drewN n) b o = rdI w b o:=rdI_keep rfl
@[simp] theorem rdI_new (w:World) (x:ID):rdI (w.alloc (ido x)) w.heap.size 0 = some x:=by
 refine Rd.rdI fun j v hv=>?_
 have hh:(w.alloc (ido x)).heap[w.heap.size]? = some (ido x):=heap_alloc_new w _
 simp only [ido,idA_eq] at hh ⊢
 rw [Nat.zero_add,cell_of_row _ _ j (bv x.1).toArray 34 (0,0) hh]
 simpa using hv
@[simp] theorem rdI_old (w:World) (ob:Obj) (b o:Nat) (h:b < w.heap.size):rdI (w.alloc ob) b o = rdI w b o:=rdI_keep (heap_alloc_old w ob h)
theorem infoID:(Tryz.prog.info? 34).map (·.size) = some 32:=by kernel_rfl
theorem infoArr:(Tryz.prog.info? 33).map (·.size) = some 32:=by kernel_rfl
noncomputable def ldElse (t:TypeId) (w:World) (b o:Nat):Result Value:=(Instr.loadAt t (.pointer (some ⟨b,o,none⟩))).run Tryz.prog w
@[simp] theorem ld_id (w:World) (b o:Nat):(Instr.loadAt 34 (.pointer (some ⟨b,o,none⟩))).run Tryz.prog w = match rdI w b o with | some x=>.ok (encI x) w | none=>ldElse 34 w b o:=by
 cases h:rdI w b o with
 | none=>rfl
 | some x =>
  simp only [encI,idA_eq]
  exact run_loadAt_mid w b o 34 (bv x.1) _ (rdI_rd h) Tryz.underlying34 rfl (by rw [bv_length,x.2];exact infoID)
@[simp] theorem ld_arr (w:World) (b o:Nat):(Instr.loadAt 33 (.pointer (some ⟨b,o,none⟩))).run Tryz.prog w = match rdI w b o with | some x=>.ok (encI x) w | none=>ldElse 33 w b o:=by
 cases h:rdI w b o with
 | none=>rfl
 | some x =>
  simp only [encI,idA_eq]
  exact run_loadAt_mid w b o 33 (bv x.1) _ (rdI_rd h) Tryz.underlying33 rfl (by rw [bv_length,x.2];exact infoArr)
theorem ex_ld_id {ρ:Operand → Value} {o:Oper} {a:Operand} {w:World} {b off:Nat} {x:ID} (ho:o.op = .load 34 a) (ha:ρ a = .pointer (some ⟨b,off,none⟩)) (hr:rdI w b off = some x) :
  (execOp ρ o).run Tryz.prog w = .ok (.value (encI x)) w:=by
 have h:=ld_id w b off
 rw [hr] at h
 unfold execOp
 simp only [ho,ha,Sem.run_bind,h,Result.andThen_ok,Sem.run_pure]
@[irreducible] noncomputable def exElse (ρ:Operand → Value) (o:Oper) (w:World):Result Next:=(execOp ρ o).run Tryz.prog w
noncomputable def ldI (w:World) (v:Value) (r:Result Next):Result Next:=match v with
 | .pointer (some ⟨b,off,none⟩)=>(match rdI w b off with | some x=>.ok (.value (encI x)) w | none=>r)
 | _=>r
@[simp] theorem ldI_at (w:World) (b off:Nat) (r:Result Next):ldI w (.pointer (some ⟨b,off,none⟩)) r = match rdI w b off with | some x=>.ok (.value (encI x)) w | none=>r:=rfl
theorem ex_ld_op (ρ:Operand → Value) (o:Oper) (a:Operand) (ho:o.op = .load 34 a) (w:World):(execOp ρ o).run Tryz.prog w = ldI w (ρ a) (exElse ρ o w):=by
 have he:exElse ρ o w = (execOp ρ o).run Tryz.prog w:=by unfold exElse;rfl
 rw [he]
 unfold ldI
 split
 ·rename_i b off hv
  cases h:rdI w b off with
  | none=>rfl
  | some x=>exact ex_ld_id ho hv h
 ·rfl
@[simp ↓] theorem ex_ld (ρ:Operand → Value) (d:Option Nat) (a:Operand) (t:TypeId) (p:String) (f:Array Edge) (g:Option (Nat × Bool)) (w:World) :
  (execOp ρ { dst:=d,op:=.load 34 a,type:=t,pos:=p,after:=f,guard:=g }).run Tryz.prog w = ldI w (ρ a) (exElse ρ { dst:=d,op:=.load 34 a,type:=t,pos:=p,after:=f,guard:=g } w):=ex_ld_op ρ _ a rfl w
@[simp] theorem bx_id (w:World) (x:ID):(Instr.box 34 (encI x)).run Tryz.prog w = .ok (.pointer (some ⟨w.heap.size,0,none⟩)) (w.alloc (ido x)):=by
 simp [Instr.box,newVar,newRow,newObj,Value.cells,Sem.run,Result.andThen]
theorem zeroID (w:World):(zeroValue 34).run Tryz.prog w = .ok (encI zID) w:=by
 simp only [encI,idA_eq]
 exact (zero_of_info (P:=Tryz.prog) (t:=34) (v:=.agg (bv zID.1).toArray) (n:=32) (by kernel_rfl)).1 w
@[simp] theorem al_id (w:World):(Instr.alloc 34 true (.tuple #[])).run Tryz.prog w = .ok (.pointer (some ⟨w.heap.size,0,none⟩)) (w.alloc (ido zID)):=by
 have:=bx_id w zID
 simp only [Instr.alloc,Sem.run_bind,zeroID,Result.andThen_ok]
 exact this
@[simp] theorem st_new (w:World) (x y:ID):(Instr.storeAt 34 (.pointer (some ⟨w.heap.size,0,none⟩)) (encI x)).run Tryz.prog (w.alloc (ido y)) = .ok () (w.alloc (ido x)):=by
 simp only [encI,ido,idA_eq]
 exact run_storeAt_new w 34 _ _ (by rw [List.size_toArray,bv_length,x.2];exact infoID) (by simp [x.2,y.2]) (all_oneCell_toArray (bv_one _))
@[simp] theorem eq_id (w:World) (x y:ID):(binOp .eql 34 (encI x) (encI y)).run Tryz.prog w = .ok (.bool (decide (x = y))) w:=by
 simp only [encI,idA_eq]
 have:=run_eql_bytes (P:=Tryz.prog) (w:=w) 34 5 32 Tryz.underlying34 Tryz.underlying5 (by intro w;kernel_rfl) x.1 y.1 x.2 y.2
 have e:(x.1 == y.1) = decide (x = y):=by
  rw [Bool.eq_iff_iff]
  simp only [beq_iff_eq,decide_eq_true_eq]
  exact ⟨fun h=>Subtype.ext h,fun h=>congrArg Subtype.val h⟩
 rw [e] at this
 exact this
set_option maxRecDepth 100000 in
@[simp] theorem neq_id (w:World) (x y:ID):(binOp .neq 34 (encI x) (encI y)).run Tryz.prog w = .ok (.bool (!decide (x = y))) w:=by
 have h:=eq_id w x y
 rw [run_eql_struct] at h
 rw [run_neq_struct]
 cases hr:(Op.equalIn 10000 34 (encI x) (encI y)).run Tryz.prog w with
 | ok b w' =>
  rw [hr] at h
  simp only [Result.andThen_ok] at h ⊢
  injection h with h1 h2
  injection h1 with h1
  rw [h1,h2]
 | _=>rw [hr] at h;cases h
/-! at the operations: rules that are met ahead of the kit's -/
@[simp ↓] theorem ex_al (ρ:Operand → Value) (d:Option Nat) (t:TypeId) (p:String) (f:Array Edge) (g:Option (Nat × Bool)) (w:World) :
  (execOp ρ { dst:=d,op:=.alloc 34,type:=t,pos:=p,after:=f,guard:=g }).run Tryz.prog w = .ok (.value (.pointer (some ⟨w.heap.size,0,none⟩))) (w.alloc (ido zID)):=by
 unfold execOp
 simp only [Sem.run_bind,al_id,Result.andThen_ok,Sem.run_pure]
@[irreducible] noncomputable def stI (w:World) (v u:Value):Result Next:=((Instr.storeAt 34 v u).run Tryz.prog w).andThen (fun _ w=>.ok .skip w)
@[simp ↓] theorem ex_st (ρ:Operand → Value) (a x:Operand) (d:Option Nat) (t:TypeId) (p:String) (f:Array Edge) (g:Option (Nat × Bool)) (w:World) :
  (execOp ρ { dst:=d,op:=.store 34 a x,type:=t,pos:=p,after:=f,guard:=g }).run Tryz.prog w = stI w (ρ a) (ρ x):=by
 unfold execOp stI
 simp only [Sem.run_bind,Sem.run_pure]
def idc (l:List ID):List Value:=l.flatMap fun x=>bv x.1
theorem idc_length (l:List ID):(idc l).length = l.length * 32:=by
 induction l with
 | nil=>rfl
 | cons x l ih=>simp only [idc,List.flatMap_cons,List.length_append,bv_length,x.2,List.length_cons] at ih ⊢;omega
theorem idc_one (l:List ID):∀ u ∈ idc l,u.oneCell' = true:=by
 intro u hu
 simp only [idc,List.mem_flatMap] at hu
 obtain ⟨x,_,hu⟩:=hu
 exact bv_one _ u hu
theorem idc_get (l:List ID) (i j:Nat) (hi:i < l.length) (v:Value) (hv:(bv (l[i]).1)[j]? = some v):(idc l)[i * 32 + j]? = some v:=by
 induction l generalizing i with
 | nil=>simp at hi
 | cons x l ih =>
  have hj:j < 32:=by
   have:=(List.getElem?_eq_some_iff.1 hv).1
   rw [bv_length] at this
   have h2:=((x :: l)[i]).2
   omega
  simp only [idc,List.flatMap_cons]
  cases i with
  | zero =>
   rw [List.getElem?_append_left (by simp [x.2];omega)]
   simpa using hv
  | succ i =>
   rw [List.getElem?_append_right (by simp [x.2];omega),bv_length,x.2]
   have:=ih i (by simpa using hi) (by simpa using hv)
   rw [show (i + 1) * 32 + j - 32 = i * 32 + j by omega]
   exact this
theorem Sl.id {w:World} {g off:Nat} {l:List ID} (h:Sl w (some ⟨g,off,none⟩) (idc l)) (i:Nat) (hi:i < l.length):rdI w g (off + i * 32) = some l[i]:=by
 refine Rd.rdI fun j v hv=>?_
 have hne:idc l ≠ []:=by intro h0;have:=idc_length l;rw [h0] at this;simp at this;omega
 obtain ⟨g',off',e,_,hc⟩:=h hne
 injection e with e
 injection e with e1 e2
 subst e1;subst e2
 have:=hc _ v (idc_get l i j hi v hv)
 rwa [← Nat.add_assoc] at this
end Go.Proofs.YtnkdnbjmhoegkaaGreat
namespace Go.Proofs.YtnkdnbjmhoegkaaGreat
open Go.RowKit Go.Sort
theorem load_id (w:World) (a:Nat) (x:ID) (hx:rdI w a 0 = some x):(Extern.Bytes.loadBytes ⟨a,0,none⟩ 32 .empty).run Tryz.prog w = .ok ⟨x.1.toArray⟩ w:=by
 have h:=Lib.run_loadBytesX (P:=Tryz.prog) w (x.1.map fun b=>(b.toNat:Int)) ⟨a,0,none⟩ .empty (fun j u hu=>by
  rw [Addr.add_mid]
  refine rdI_rd hx j _ ?_
  rw [List.getElem?_map] at hu
  simp only [bv,List.getElem?_map]
  cases hj:x.1[j]? with
  | none=>rw [hj] at hu;cases hu
  | some b=>rw [hj] at hu;simp only [Option.map_some,Option.some.injEq] at hu ⊢;rw [← hu];rfl)
 rw [List.length_map,x.2] at h
 rw [h]
 congr 1
 apply ByteArray.ext
 simp only [Lib.bytesOf,List.map_map]
 have e:(x.1.map ((fun n:Int=>n.toNat.toUInt8) ∘ fun b:UInt8=>(b.toNat:Int))) = x.1:=by
  conv=>rhs;rw [← List.map_id x.1]
  exact List.map_congr_left (fun b _=>by simp)
 simpa using e
theorem bg_compare (w:World) (a b:Nat) (x y:ID) (hx:rdI w a 0 = some x) (hy:rdI w b 0 = some y) :
  (callFunc 81 #[.slice (some ⟨a,0,none⟩) 32 32,.slice (some ⟨b,0,none⟩) 32 32]).run Tryz.prog w = .ok (.value (.int .i64 (Lib.compareBytes x.1 y.1))) w:=by
 rw [run_callFunc_extern Tryz.func81 (by kernel_rfl) (by kernel_rfl) (by kernel_rfl) (e:=Extern.BytealgCompare.compare) (by kernel_rfl)]
 show (((do pure (goInt (Extern.BytealgCompare.cmp (← Extern.Bytes.bytesOf (.slice (some ⟨a,0,none⟩) 32 32)) (← Extern.Bytes.bytesOf (.slice (some ⟨b,0,none⟩) 32 32)))):Sem Value)).run Tryz.prog w).andThen _ = _
 simp only [Extern.Bytes.bytesOf,Sem.run_bind,load_id w a x hx,load_id w b y hy,Result.andThen_ok,Sem.run_pure,Lib.cmp_eq]
 rfl
theorem bcompare_any (w:World) (a b:Nat) (x y:ID) (hx:rdI w a 0 = some x) (hy:rdI w b 0 = some y) :
  Calls Tryz.prog 47 #[.slice (some ⟨a,0,none⟩) 32 32,.slice (some ⟨b,0,none⟩) 32 32] w fun e w'=>e = .returned (.int .i64 (Lib.compareBytes x.1 y.1)) ∧ w = w':=by
 have hc:=bg_compare w a b x y hx hy
 go_enter Tryz.func47,Tryz.ntmps47
 go_wp2
 go_ret
 exact ⟨rfl,rfl⟩
def cmpI (x y:ID):Int:=Lib.compareBytes x.1 y.1
def CmpTo (w:World) (v:Int) (e:Ending) (w':World):Prop:=e = .returned (.int .i64 v) ∧ ∃ q os,w' = grow (w.drewN q) os
theorem cmp_any (w:World) (x y:ID):Calls Tryz.prog 34 #[encI x,encI y] w (CmpTo w (cmpI x y)):=by
 go_enter Tryz.func34,Tryz.ntmps34
 go_wp2
 have r1:rdI ((w.alloc (ido x)).alloc (ido y)) w.heap.size 0 = some x:=by rw [rdI_old _ _ _ _ (by simp),rdI_new]
 have r2:rdI ((w.alloc (ido x)).alloc (ido y)) (w.heap.size + 1) 0 = some y:=by
  have:=rdI_new (w.alloc (ido x)) y
  rwa [World.size_alloc] at this
 go_quiet ((go_at_call 47;exact Calls.quiet_of_same ((bcompare_any _ _ _ x y (by rw [rdI_drewN];exact r1) (by rw [rdI_drewN];exact r2)).mono (fun _ _ h=>⟨h.1,h.2.symm⟩))))
 go_wp2
 go_ret
 refine ⟨rfl,nq,#[ido x,ido y],?_⟩
 rw [alloc_eq_grow,alloc_eq_grow,grow_grow]
 rfl
/-! rows of IDs -/
theorem ET.mkI' {P:Program} {t e:TypeId} {z:Value} {size bytes:Nat} (ht:P.underlying t = some (.slice e))
  (h:(P.info? e).map (fun i=>(i.zero,i.size,i.bytes)) = some (some z,size,bytes)) (hz:z.cells.size = size) (hs:0 < size) (hb:0 < bytes):ET P t e size bytes:=by
 obtain ⟨i,h1,h2,h3,h4⟩:=info_parts h
 exact ⟨ht,⟨i,z,h1,h2,h3,h4,hz⟩,hs,hb⟩
theorem etIDs:ET Tryz.prog 50 34 32 32:=ET.mkI' (z:=.agg (bv zID.1).toArray) Tryz.underlying50 (by kernel_rfl) (by simp [Value.cells,zID]) (by decide) (by decide)
abbrev OwnD (w0 w:World) (A:Option Addr) (c:Nat) (l:List ID):Prop:=w.ownsRow w0.heap.size 34 32 (.slice A l.length c) l.length (idc l)
end Go.Proofs.YtnkdnbjmhoegkaaGreat
namespace Go.Proofs.YtnkdnbjmhoegkaaGreat
def a32H (a b:Nat):Nat:=(a + b) % 4294967296
def rtH (n x:Nat):Nat:=x / 2 ^ n ||| x * 2 ^ (32 - n) % 4294967296
def g0H (x:Nat):Nat:=rtH 7 x ^^^ rtH 18 x ^^^ x / 8
def g1H (x:Nat):Nat:=rtH 17 x ^^^ rtH 19 x ^^^ x / 1024
def nxH (w:List Nat) (i:Nat):Nat:=a32H (a32H (a32H (g1H (w.getD (i - 2) 0)) (w.getD (i - 7) 0)) (g0H (w.getD (i - 15) 0))) (w.getD (i - 16) 0)
def exH:Nat → Nat → List Nat → List Nat
 | 0,_,w=>w
 | k + 1,i,w=>exH k (i + 1) (w ++ [nxH w i])
structure S8H where
 a:Nat
 b:Nat
 c:Nat
 d:Nat
 e:Nat
 f:Nat
 g:Nat
 x:Nat
def t1H (s:S8H) (k w:Nat):Nat:=a32H (a32H (a32H (a32H s.x (rtH 6 s.e ^^^ rtH 11 s.e ^^^ rtH 25 s.e)) (s.e &&& s.f ^^^ (4294967295 ^^^ s.e) &&& s.g)) k) w
def t2H (s:S8H):Nat:=a32H (rtH 2 s.a ^^^ rtH 13 s.a ^^^ rtH 22 s.a) (s.a &&& s.b ^^^ s.a &&& s.c ^^^ s.b &&& s.c)
def rdH (s:S8H) (k w:Nat):S8H:=⟨a32H (t1H s k w) (t2H s),s.a,s.b,s.c,a32H s.d (t1H s k w),s.e,s.f,s.g⟩
def rsH:Nat → Nat → List Nat → List Nat → S8H → S8H
 | 0,_,_,_,s=>s
 | n + 1,i,ks,ws,s=>rsH n (i + 1) ks ws (rdH s (ks.getD i 0) (ws.getD i 0))
def wdH (l:List UInt8) (p:Nat):Nat:=a32H (a32H (a32H ((l.getD p 0).toNat * 16777216) ((l.getD (p + 1) 0).toNat * 65536)) ((l.getD (p + 2) 0).toNat * 256)) (l.getD (p + 3) 0).toNat
def w16H (l:List UInt8) (at_:Nat):Nat → List Nat
 | 0=>[]
 | n + 1=>w16H l at_ n ++ [wdH l (at_ + 4 * n)]
def s8H (h:List Nat):S8H:=⟨h.getD 0 0,h.getD 1 0,h.getD 2 0,h.getD 3 0,h.getD 4 0,h.getD 5 0,h.getD 6 0,h.getD 7 0⟩
def adH (h:List Nat) (s:S8H):List Nat:=[a32H (h.getD 0 0) s.a,a32H (h.getD 1 0) s.b,a32H (h.getD 2 0) s.c,a32H (h.getD 3 0) s.d,a32H (h.getD 4 0) s.e,a32H (h.getD 5 0) s.f,a32H (h.getD 6 0) s.g,a32H (h.getD 7 0) s.x]
def bkH (ks:List Nat) (l:List UInt8) (at_:Nat) (h:List Nat):List Nat:=adH h (rsH 64 0 ks (exH 48 16 (w16H l at_ 16)) (s8H h))
def bksH (ks:List Nat) (l:List UInt8):Nat → Nat → List Nat → List Nat
 | 0,_,h=>h
 | n + 1,at_,h=>bksH ks l n (at_ + 64) (bkH ks l at_ h)
def be8H (n:Nat):Nat → List UInt8
 | 0=>[]
 | k + 1=>be8H n k ++ [UInt8.ofNat (n / 2 ^ (56 - 8 * k))]
def padH (b:List UInt8):List UInt8:=b ++ 128 :: List.replicate ((119 - b.length % 64) % 64) 0 ++ be8H (b.length * 8) 8
def btH (h:List Nat) (i:Nat):UInt8:=UInt8.ofNat (h.getD (i / 4) 0 / 2 ^ (24 - 8 * (i % 4)))
def outH (h:List Nat):Nat → List UInt8
 | 0=>[]
 | k + 1=>outH h k ++ [btH h k]
def fstH:List Nat:=[0x6a09e667,0xbb67ae85,0x3c6ef372,0xa54ff53a,0x510e527f,0x9b05688c,0x1f83d9ab,0x5be0cd19]
def rdsH:List Nat:=[
 0x428a2f98,0x71374491,0xb5c0fbcf,0xe9b5dba5,0x3956c25b,0x59f111f1,0x923f82a4,0xab1c5ed5,0xd807aa98,0x12835b01,0x243185be,0x550c7dc3,0x72be5d74,0x80deb1fe,0x9bdc06a7,0xc19bf174,
 0xe49b69c1,0xefbe4786,0x0fc19dc6,0x240ca1cc,0x2de92c6f,0x4a7484aa,0x5cb0a9dc,0x76f988da,0x983e5152,0xa831c66d,0xb00327c8,0xbf597fc7,0xc6e00bf3,0xd5a79147,0x06ca6351,0x14292967,
 0x27b70a85,0x2e1b2138,0x4d2c6dfc,0x53380d13,0x650a7354,0x766a0abb,0x81c2c92e,0x92722c85,0xa2bfe8a1,0xa81a664b,0xc24b8b70,0xc76c51a3,0xd192e819,0xd6990624,0xf40e3585,0x106aa070,
 0x19a4c116,0x1e376c08,0x2748774c,0x34b0bcb5,0x391c0cb3,0x4ed8aa4a,0x5b9cca4f,0x682e6ff3,0x748f82ee,0x78a5636f,0x84c87814,0x8cc70208,0x90befffa,0xa4506ceb,0xbef9a3f7,0xc67178f2]
theorem outH_len (h:List Nat):∀ k,(outH h k).length = k
 | 0=>rfl
 | k + 1=>by rw [outH,List.length_append,outH_len h k];rfl
theorem be8H_len (n:Nat):∀ k,(be8H n k).length = k
 | 0=>rfl
 | k + 1=>by rw [be8H,List.length_append,be8H_len n k];rfl
theorem w16H_len (l:List UInt8) (p:Nat):∀ k,(w16H l p k).length = k
 | 0=>rfl
 | k + 1=>by rw [w16H,List.length_append,w16H_len l p k];rfl
def sumH (b:List UInt8):List Nat:=bksH rdsH (padH b) ((padH b).length / 64) 0 fstH
def nameH (b:List UInt8):ID:=⟨outH (sumH b) 32,outH_len _ 32⟩
theorem padH_len (b:List UInt8):(padH b).length % 64 = 0:=by
 unfold padH
 rw [List.length_append,List.length_append,be8H_len,List.length_cons,List.length_replicate]
 omega
end Go.Proofs.YtnkdnbjmhoegkaaGreat
namespace Go.Proofs.YtnkdnbjmhoegkaaGreat
open Go.RowKit Go.Maps Go.Sort
set_option maxRecDepth 100000
theorem rtH_lt (n x:Nat) (hx:x < 4294967296):rtH n x < 4294967296:=by
 unfold rtH
 have h1:x / 2 ^ n < 2 ^ 32:=Nat.lt_of_le_of_lt (Nat.div_le_self _ _) hx
 have h2:x * 2 ^ (32 - n) % 4294967296 < 2 ^ 32:=Nat.mod_lt _ (by decide)
 exact Nat.or_lt_two_pow h1 h2
theorem bits_or_u32 (a b:Nat) (ha:a < 4294967296) (hb:b < 4294967296):bits .or .u32 (a:Int) (b:Int) = ((a ||| b:Nat):Int):=by
 have hx:a ||| b < 2 ^ 32:=Nat.or_lt_two_pow (by omega) (by omega)
 have h1:(BitVec.ofInt 32 (a:Int)).toNat = a:=by
  rw [BitVec.ofInt_natCast,BitVec.toNat_ofNat];exact Nat.mod_eq_of_lt (by omega)
 have h2:(BitVec.ofInt 32 (b:Int)).toNat = b:=by
  rw [BitVec.ofInt_natCast,BitVec.toNat_ofNat];exact Nat.mod_eq_of_lt (by omega)
 show IntKind.u32.wrap ((BitVec.ofInt 32 (a:Int) ||| BitVec.ofInt 32 (b:Int)).toNat:Int) = _
 rw [BitVec.toNat_or,h1,h2,show ∀ n:Int,IntKind.u32.wrap n = n % 4294967296 from fun n=>by simp [IntKind.wrap,IntKind.bits,IntKind.signed]]
 omega
theorem bits_xor_u32 (a b:Nat) (ha:a < 4294967296) (hb:b < 4294967296):bits .xor .u32 (a:Int) (b:Int) = ((a ^^^ b:Nat):Int):=by
 have hx:a ^^^ b < 2 ^ 32:=Nat.xor_lt_two_pow (by omega) (by omega)
 have h1:(BitVec.ofInt 32 (a:Int)).toNat = a:=by
  rw [BitVec.ofInt_natCast,BitVec.toNat_ofNat];exact Nat.mod_eq_of_lt (by omega)
 have h2:(BitVec.ofInt 32 (b:Int)).toNat = b:=by
  rw [BitVec.ofInt_natCast,BitVec.toNat_ofNat];exact Nat.mod_eq_of_lt (by omega)
 show IntKind.u32.wrap ((BitVec.ofInt 32 (a:Int) ^^^ BitVec.ofInt 32 (b:Int)).toNat:Int) = _
 rw [BitVec.toNat_xor,h1,h2,show ∀ n:Int,IntKind.u32.wrap n = n % 4294967296 from fun n=>by simp [IntKind.wrap,IntKind.bits,IntKind.signed]]
 omega
def RtTo (w:World) (n x:Nat) (e:Ending) (w':World):Prop:=e = .returned (.int .u32 ((rtH n x:Nat):Int)) ∧ w' = w
theorem right_2 (w:World) (x:Nat) (hx:x < 4294967296):Calls Tryz.prog 55 #[.int .u32 (x:Int),.int .u64 2] w (RtTo w 2 x):=by
 have e1:(x:Int) / 4 = ((x / 4:Nat):Int):=by omega
 have e2:(x:Int) * 1073741824 % 4294967296 = ((x * 1073741824 % 4294967296:Nat):Int):=by omega
 have e3:=bits_or_u32 (x / 4) (x * 1073741824 % 4294967296) (by omega) (by omega)
 have HE:=Lib.hid (show bits .or .u32 ((x:Int) / 4) ((x:Int) * 1073741824 % 4294967296) = ((rtH 2 x:Nat):Int) by rw [e1,e2,e3];simp [rtH])
 clear e1 e2 e3 hx
 go_enter Tryz.func55,Tryz.ntmps55
 go_wp2_with fail
 go_ret
 exact ⟨by rw [← HE.out];rfl,rfl⟩
theorem right_6 (w:World) (x:Nat) (hx:x < 4294967296):Calls Tryz.prog 55 #[.int .u32 (x:Int),.int .u64 6] w (RtTo w 6 x):=by
 have e1:(x:Int) / 64 = ((x / 64:Nat):Int):=by omega
 have e2:(x:Int) * 67108864 % 4294967296 = ((x * 67108864 % 4294967296:Nat):Int):=by omega
 have e3:=bits_or_u32 (x / 64) (x * 67108864 % 4294967296) (by omega) (by omega)
 have HE:=Lib.hid (show bits .or .u32 ((x:Int) / 64) ((x:Int) * 67108864 % 4294967296) = ((rtH 6 x:Nat):Int) by rw [e1,e2,e3];simp [rtH])
 clear e1 e2 e3 hx
 go_enter Tryz.func55,Tryz.ntmps55
 go_wp2_with fail
 go_ret
 exact ⟨by rw [← HE.out];rfl,rfl⟩
theorem right_7 (w:World) (x:Nat) (hx:x < 4294967296):Calls Tryz.prog 55 #[.int .u32 (x:Int),.int .u64 7] w (RtTo w 7 x):=by
 have e1:(x:Int) / 128 = ((x / 128:Nat):Int):=by omega
 have e2:(x:Int) * 33554432 % 4294967296 = ((x * 33554432 % 4294967296:Nat):Int):=by omega
 have e3:=bits_or_u32 (x / 128) (x * 33554432 % 4294967296) (by omega) (by omega)
 have HE:=Lib.hid (show bits .or .u32 ((x:Int) / 128) ((x:Int) * 33554432 % 4294967296) = ((rtH 7 x:Nat):Int) by rw [e1,e2,e3];simp [rtH])
 clear e1 e2 e3 hx
 go_enter Tryz.func55,Tryz.ntmps55
 go_wp2_with fail
 go_ret
 exact ⟨by rw [← HE.out];rfl,rfl⟩
theorem right_11 (w:World) (x:Nat) (hx:x < 4294967296):Calls Tryz.prog 55 #[.int .u32 (x:Int),.int .u64 11] w (RtTo w 11 x):=by
 have e1:(x:Int) / 2048 = ((x / 2048:Nat):Int):=by omega
 have e2:(x:Int) * 2097152 % 4294967296 = ((x * 2097152 % 4294967296:Nat):Int):=by omega
 have e3:=bits_or_u32 (x / 2048) (x * 2097152 % 4294967296) (by omega) (by omega)
 have HE:=Lib.hid (show bits .or .u32 ((x:Int) / 2048) ((x:Int) * 2097152 % 4294967296) = ((rtH 11 x:Nat):Int) by rw [e1,e2,e3];simp [rtH])
 clear e1 e2 e3 hx
 go_enter Tryz.func55,Tryz.ntmps55
 go_wp2_with fail
 go_ret
 exact ⟨by rw [← HE.out];rfl,rfl⟩
theorem right_13 (w:World) (x:Nat) (hx:x < 4294967296):Calls Tryz.prog 55 #[.int .u32 (x:Int),.int .u64 13] w (RtTo w 13 x):=by
 have e1:(x:Int) / 8192 = ((x / 8192:Nat):Int):=by omega
 have e2:(x:Int) * 524288 % 4294967296 = ((x * 524288 % 4294967296:Nat):Int):=by omega
 have e3:=bits_or_u32 (x / 8192) (x * 524288 % 4294967296) (by omega) (by omega)
 have HE:=Lib.hid (show bits .or .u32 ((x:Int) / 8192) ((x:Int) * 524288 % 4294967296) = ((rtH 13 x:Nat):Int) by rw [e1,e2,e3];simp [rtH])
 clear e1 e2 e3 hx
 go_enter Tryz.func55,Tryz.ntmps55
 go_wp2_with fail
 go_ret
 exact ⟨by rw [← HE.out];rfl,rfl⟩
theorem right_17 (w:World) (x:Nat) (hx:x < 4294967296):Calls Tryz.prog 55 #[.int .u32 (x:Int),.int .u64 17] w (RtTo w 17 x):=by
 have e1:(x:Int) / 131072 = ((x / 131072:Nat):Int):=by omega
 have e2:(x:Int) * 32768 % 4294967296 = ((x * 32768 % 4294967296:Nat):Int):=by omega
 have e3:=bits_or_u32 (x / 131072) (x * 32768 % 4294967296) (by omega) (by omega)
 have HE:=Lib.hid (show bits .or .u32 ((x:Int) / 131072) ((x:Int) * 32768 % 4294967296) = ((rtH 17 x:Nat):Int) by rw [e1,e2,e3];simp [rtH])
 clear e1 e2 e3 hx
 go_enter Tryz.func55,Tryz.ntmps55
 go_wp2_with fail
 go_ret
 exact ⟨by rw [← HE.out];rfl,rfl⟩
theorem right_18 (w:World) (x:Nat) (hx:x < 4294967296):Calls Tryz.prog 55 #[.int .u32 (x:Int),.int .u64 18] w (RtTo w 18 x):=by
 have e1:(x:Int) / 262144 = ((x / 262144:Nat):Int):=by omega
 have e2:(x:Int) * 16384 % 4294967296 = ((x * 16384 % 4294967296:Nat):Int):=by omega
 have e3:=bits_or_u32 (x / 262144) (x * 16384 % 4294967296) (by omega) (by omega)
 have HE:=Lib.hid (show bits .or .u32 ((x:Int) / 262144) ((x:Int) * 16384 % 4294967296) = ((rtH 18 x:Nat):Int) by rw [e1,e2,e3];simp [rtH])
 clear e1 e2 e3 hx
 go_enter Tryz.func55,Tryz.ntmps55
 go_wp2_with fail
 go_ret
 exact ⟨by rw [← HE.out];rfl,rfl⟩
theorem right_19 (w:World) (x:Nat) (hx:x < 4294967296):Calls Tryz.prog 55 #[.int .u32 (x:Int),.int .u64 19] w (RtTo w 19 x):=by
 have e1:(x:Int) / 524288 = ((x / 524288:Nat):Int):=by omega
 have e2:(x:Int) * 8192 % 4294967296 = ((x * 8192 % 4294967296:Nat):Int):=by omega
 have e3:=bits_or_u32 (x / 524288) (x * 8192 % 4294967296) (by omega) (by omega)
 have HE:=Lib.hid (show bits .or .u32 ((x:Int) / 524288) ((x:Int) * 8192 % 4294967296) = ((rtH 19 x:Nat):Int) by rw [e1,e2,e3];simp [rtH])
 clear e1 e2 e3 hx
 go_enter Tryz.func55,Tryz.ntmps55
 go_wp2_with fail
 go_ret
 exact ⟨by rw [← HE.out];rfl,rfl⟩
theorem right_22 (w:World) (x:Nat) (hx:x < 4294967296):Calls Tryz.prog 55 #[.int .u32 (x:Int),.int .u64 22] w (RtTo w 22 x):=by
 have e1:(x:Int) / 4194304 = ((x / 4194304:Nat):Int):=by omega
 have e2:(x:Int) * 1024 % 4294967296 = ((x * 1024 % 4294967296:Nat):Int):=by omega
 have e3:=bits_or_u32 (x / 4194304) (x * 1024 % 4294967296) (by omega) (by omega)
 have HE:=Lib.hid (show bits .or .u32 ((x:Int) / 4194304) ((x:Int) * 1024 % 4294967296) = ((rtH 22 x:Nat):Int) by rw [e1,e2,e3];simp [rtH])
 clear e1 e2 e3 hx
 go_enter Tryz.func55,Tryz.ntmps55
 go_wp2_with fail
 go_ret
 exact ⟨by rw [← HE.out];rfl,rfl⟩
theorem right_25 (w:World) (x:Nat) (hx:x < 4294967296):Calls Tryz.prog 55 #[.int .u32 (x:Int),.int .u64 25] w (RtTo w 25 x):=by
 have e1:(x:Int) / 33554432 = ((x / 33554432:Nat):Int):=by omega
 have e2:(x:Int) * 128 % 4294967296 = ((x * 128 % 4294967296:Nat):Int):=by omega
 have e3:=bits_or_u32 (x / 33554432) (x * 128 % 4294967296) (by omega) (by omega)
 have HE:=Lib.hid (show bits .or .u32 ((x:Int) / 33554432) ((x:Int) * 128 % 4294967296) = ((rtH 25 x:Nat):Int) by rw [e1,e2,e3];simp [rtH])
 clear e1 e2 e3 hx
 go_enter Tryz.func55,Tryz.ntmps55
 go_wp2_with fail
 go_ret
 exact ⟨by rw [← HE.out];rfl,rfl⟩
end Go.Proofs.YtnkdnbjmhoegkaaGreat
