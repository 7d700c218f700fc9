/- IDs: 32 bytes by value. The walk never looks into one: rules on loads, stores, boxes, sameness. Contracts: the order of IDs (sha.Cmp, bytes.Compare). Plain: commits and their parents. Plain: ancestors. Plain: what is a base of two. -/
import Derived.Test.YtjpieiccpbcabaaGreatProg
import Derived.Test.YtjpieiccpbcabaaGreatNumWKu
import Derived.Deep.MidRow
import Derived.Deep.WholeRow
import Derived.Stop.BytesEq
import Derived.WalkSpells
import Derived.Outline
import Derived.Lib.Bytealg
import Derived.Lib.BytesEntry
import Derived.Sort.Grow
import Derived.Deep.QuietTactic
import Derived.BigQuiet
set_option linter.unusedVariables false
set_option linter.unusedSimpArgs false
namespace Go.Proofs.YtjpieiccpbcabaaGreat
open Go.RowKit
def ID:Type:={ l:List UInt8 // l.length = 32 }
instance:DecidableEq ID:=inferInstanceAs (DecidableEq { l:List UInt8 // l.length = 32 })
@[irreducible] def idA (x:ID):Array Value:=(bv x.1).toArray
theorem idA_eq (x:ID):idA x = (bv x.1).toArray:=by unfold idA;rfl
abbrev encI (x:ID):Value:=.agg (idA x)
abbrev ido (x:ID):Obj:=.cells (idA x) 24
def zID:ID:=⟨List.replicate 32 0,rfl⟩
instance:Inhabited ID:=⟨zID⟩
theorem u8v_inj {a b:UInt8} (h:u8v a = u8v b):a = b:=by
 unfold u8v at h
 injection h with _ h
 exact UInt8.toNat_inj.1 (by omega)
theorem bv_inj {l m:List UInt8} (h:bv l = bv m):l = m:=by
 induction l generalizing m with
 | nil=>cases m with
  | nil=>rfl
  | cons b m=>simp [bv] at h
 | cons a l ih=>cases m with
  | nil=>simp [bv] at h
  | cons b m =>
   rw [bv_cons,bv_cons] at h
   injection h with h1 h2
   rw [u8v_inj h1,ih h2]
theorem encI_inj {x y:ID} (h:encI x = encI y):x = y:=by
 injection h with h
 rw [idA_eq,idA_eq] at h
 exact Subtype.ext (bv_inj (by simpa using congrArg Array.toList h))
def Rd (w:World) (b o:Nat) (x:ID):Prop:=w.rangeAt b o (bv x.1)
theorem Rd.uniq {w:World} {b o:Nat} {x y:ID} (hx:Rd w b o x) (hy:Rd w b o y):x = y:=by
 refine Subtype.ext (bv_inj (List.ext_getElem? fun j=>?_))
 by_cases hj:j < 32
 ·have ex:(bv x.1)[j]? = some ((bv x.1)[j]'(by simp [x.2];exact hj)):=List.getElem?_eq_getElem _
  have ey:(bv y.1)[j]? = some ((bv y.1)[j]'(by simp [y.2];exact hj)):=List.getElem?_eq_getElem _
  have:=(hx j _ ex).symm.trans (hy j _ ey)
  rw [ex,ey,this]
 ·rw [List.getElem?_eq_none (by simp [x.2];omega),List.getElem?_eq_none (by simp [y.2];omega)]
open Classical in
noncomputable def rdI (w:World) (b o:Nat):Option ID:=if h:∃ x,Rd w b o x then some h.choose else none
theorem Rd.rdI {w:World} {b o:Nat} {x:ID} (h:Rd w b o x):rdI w b o = some x:=by
 unfold Go.Proofs.YtjpieiccpbcabaaGreat.rdI
 have hx:∃ x,Rd w b o x:=⟨x,h⟩
 rw [dif_pos hx]
 exact congrArg some (hx.choose_spec.uniq h)
theorem rdI_rd {w:World} {b o:Nat} {x:ID} (h:rdI w b o = some x):Rd w b o x:=by
 unfold rdI at h
 split at h
 ·rename_i hx
  injection h with h
  rw [← h];exact hx.choose_spec
 ·cases h
theorem rdI_congr {w w':World} {b o o':Nat} (h:∀ x,Rd w b o x ↔ Rd w' b o' x):rdI w b o = rdI w' b o':=by
 cases hx:rdI w b o with
 | some x=>exact ((h x).1 (rdI_rd hx)).rdI.symm
 | none =>
  cases hy:rdI w' b o' with
  | none=>rfl
  | some y=>rw [((h y).2 (rdI_rd hy)).rdI] at hx;cases hx
theorem Rd.keep {w w':World} {b o:Nat} {x:ID} (h:Rd w b o x) (hb:w'.heap[b]? = w.heap[b]?):Rd w' b o x:=fun j v hv=>(World.cell?_of_block (a:=⟨b,o + j,none⟩) hb).trans (h j v hv)
theorem rdI_keep {w w':World} {b o:Nat} (hb:w'.heap[b]? = w.heap[b]?):rdI w' b o = rdI w b o:=rdI_congr fun x=>⟨fun h=>h.keep hb.symm,fun h=>h.keep hb⟩
theorem rdI_fr {M:Nat → Prop} {w w':World} {b o:Nat} {x:ID} (h:rdI w b o = some x) (hl:b < w.heap.size) (f:Fr M w w') (hM:¬ M b):rdI w' b o = some x:=(rdI_keep (f.block b hl hM)).trans h
theorem Rd.lt {w:World} {b o:Nat} {x:ID} (h:Rd w b o x):b < w.heap.size:=by
 have hl:0 < (bv x.1).length:=by simp [x.2]
 exact World.block_lt_of_cell? _ _ (h 0 _ (List.getElem?_eq_getElem hl))
theorem rdI_lt {w:World} {b o:Nat} {x:ID} (h:rdI w b o = some x):b < w.heap.size:=(rdI_rd h).lt
@[simp] theorem rdI_drew (w:World) (b o:Nat):rdI w.drew b o = rdI w b o:=rdI_keep rfl
@[simp] theorem rdI_drewN (w:World) (n b o:Nat):rdI (w.drewN n) b o = rdI w b o:=rdI_keep rfl
@[simp] theorem rdI_new (w:World) (x:ID):rdI (w.alloc (ido x)) w.heap.size 0 = some x:=by
 refine Rd.rdI fun j v hv=>?_
 have hh:(w.alloc (ido x)).heap[w.heap.size]? = some (ido x):=heap_alloc_new w _
 simp only [ido,idA_eq] at hh ⊢
 rw [Nat.zero_add,cell_of_row _ _ j (bv x.1).toArray 24 (0,0) hh]
 simpa using hv
@[simp] theorem rdI_old (w:World) (ob:Obj) (b o:Nat) (h:b < w.heap.size):rdI (w.alloc ob) b o = rdI w b o:=rdI_keep (heap_alloc_old w ob h)
theorem infoID:(Tryz.prog.info? 24).map (·.size) = some 32:=by kernel_rfl
theorem infoArr:(Tryz.prog.info? 23).map (·.size) = some 32:=by kernel_rfl
noncomputable def ldElse (t:TypeId) (w:World) (b o:Nat):Result Value:=(Instr.loadAt t (.pointer (some ⟨b,o,none⟩))).run Tryz.prog w
@[simp] theorem ld_id (w:World) (b o:Nat):(Instr.loadAt 24 (.pointer (some ⟨b,o,none⟩))).run Tryz.prog w = match rdI w b o with | some x=>.ok (encI x) w | none=>ldElse 24 w b o:=by
 cases h:rdI w b o with
 | none=>rfl
 | some x =>
  simp only [encI,idA_eq]
  exact run_loadAt_mid w b o 24 (bv x.1) _ (rdI_rd h) Tryz.underlying24 rfl (by rw [bv_length,x.2];exact infoID)
@[simp] theorem ld_arr (w:World) (b o:Nat):(Instr.loadAt 23 (.pointer (some ⟨b,o,none⟩))).run Tryz.prog w = match rdI w b o with | some x=>.ok (encI x) w | none=>ldElse 23 w b o:=by
 cases h:rdI w b o with
 | none=>rfl
 | some x =>
  simp only [encI,idA_eq]
  exact run_loadAt_mid w b o 23 (bv x.1) _ (rdI_rd h) Tryz.underlying23 rfl (by rw [bv_length,x.2];exact infoArr)
theorem ex_ld_id {ρ:Operand → Value} {o:Oper} {a:Operand} {w:World} {b off:Nat} {x:ID} (ho:o.op = .load 24 a) (ha:ρ a = .pointer (some ⟨b,off,none⟩)) (hr:rdI w b off = some x) :
  (execOp ρ o).run Tryz.prog w = .ok (.value (encI x)) w:=by
 have h:=ld_id w b off
 rw [hr] at h
 unfold execOp
 simp only [ho,ha,Sem.run_bind,h,Result.andThen_ok,Sem.run_pure]
@[irreducible] noncomputable def exElse (ρ:Operand → Value) (o:Oper) (w:World):Result Next:=(execOp ρ o).run Tryz.prog w
noncomputable def ldI (w:World) (v:Value) (r:Result Next):Result Next:=match v with
 | .pointer (some ⟨b,off,none⟩)=>(match rdI w b off with | some x=>.ok (.value (encI x)) w | none=>r)
 | _=>r
@[simp] theorem ldI_at (w:World) (b off:Nat) (r:Result Next):ldI w (.pointer (some ⟨b,off,none⟩)) r = match rdI w b off with | some x=>.ok (.value (encI x)) w | none=>r:=rfl
theorem ex_ld_op (ρ:Operand → Value) (o:Oper) (a:Operand) (ho:o.op = .load 24 a) (w:World):(execOp ρ o).run Tryz.prog w = ldI w (ρ a) (exElse ρ o w):=by
 have he:exElse ρ o w = (execOp ρ o).run Tryz.prog w:=by unfold exElse;rfl
 rw [he]
 unfold ldI
 split
 ·rename_i b off hv
  cases h:rdI w b off with
  | none=>rfl
  | some x=>exact ex_ld_id ho hv h
 ·rfl
@[simp ↓] theorem ex_ld (ρ:Operand → Value) (d:Option Nat) (a:Operand) (t:TypeId) (p:String) (f:Array Edge) (g:Option (Nat × Bool)) (w:World) :
  (execOp ρ { dst:=d,op:=.load 24 a,type:=t,pos:=p,after:=f,guard:=g }).run Tryz.prog w = ldI w (ρ a) (exElse ρ { dst:=d,op:=.load 24 a,type:=t,pos:=p,after:=f,guard:=g } w):=ex_ld_op ρ _ a rfl w
@[simp] theorem bx_id (w:World) (x:ID):(Instr.box 24 (encI x)).run Tryz.prog w = .ok (.pointer (some ⟨w.heap.size,0,none⟩)) (w.alloc (ido x)):=by
 simp [Instr.box,newVar,newRow,newObj,Value.cells,Sem.run,Result.andThen]
theorem zeroID (w:World):(zeroValue 24).run Tryz.prog w = .ok (encI zID) w:=by
 simp only [encI,idA_eq]
 exact (zero_of_info (P:=Tryz.prog) (t:=24) (v:=.agg (bv zID.1).toArray) (n:=32) (by kernel_rfl)).1 w
@[simp] theorem al_id (w:World):(Instr.alloc 24 true (.tuple #[])).run Tryz.prog w = .ok (.pointer (some ⟨w.heap.size,0,none⟩)) (w.alloc (ido zID)):=by
 have:=bx_id w zID
 simp only [Instr.alloc,Sem.run_bind,zeroID,Result.andThen_ok]
 exact this
@[simp] theorem st_new (w:World) (x y:ID):(Instr.storeAt 24 (.pointer (some ⟨w.heap.size,0,none⟩)) (encI x)).run Tryz.prog (w.alloc (ido y)) = .ok () (w.alloc (ido x)):=by
 simp only [encI,ido,idA_eq]
 exact run_storeAt_new w 24 _ _ (by rw [List.size_toArray,bv_length,x.2];exact infoID) (by simp [x.2,y.2]) (all_oneCell_toArray (bv_one _))
@[simp] theorem eq_id (w:World) (x y:ID):(binOp .eql 24 (encI x) (encI y)).run Tryz.prog w = .ok (.bool (decide (x = y))) w:=by
 simp only [encI,idA_eq]
 have:=run_eql_bytes (P:=Tryz.prog) (w:=w) 24 5 32 Tryz.underlying24 Tryz.underlying5 (by intro w;kernel_rfl) x.1 y.1 x.2 y.2
 have e:(x.1 == y.1) = decide (x = y):=by
  rw [Bool.eq_iff_iff]
  simp only [beq_iff_eq,decide_eq_true_eq]
  exact ⟨fun h=>Subtype.ext h,fun h=>congrArg Subtype.val h⟩
 rw [e] at this
 exact this
set_option maxRecDepth 100000 in
@[simp] theorem neq_id (w:World) (x y:ID):(binOp .neq 24 (encI x) (encI y)).run Tryz.prog w = .ok (.bool (!decide (x = y))) w:=by
 have h:=eq_id w x y
 rw [run_eql_struct] at h
 rw [run_neq_struct]
 cases hr:(Op.equalIn 10000 24 (encI x) (encI y)).run Tryz.prog w with
 | ok b w' =>
  rw [hr] at h
  simp only [Result.andThen_ok] at h ⊢
  injection h with h1 h2
  injection h1 with h1
  rw [h1,h2]
 | _=>rw [hr] at h;cases h
/-! at the operations: rules that are met ahead of the kit's -/
@[simp ↓] theorem ex_al (ρ:Operand → Value) (d:Option Nat) (t:TypeId) (p:String) (f:Array Edge) (g:Option (Nat × Bool)) (w:World) :
  (execOp ρ { dst:=d,op:=.alloc 24,type:=t,pos:=p,after:=f,guard:=g }).run Tryz.prog w = .ok (.value (.pointer (some ⟨w.heap.size,0,none⟩))) (w.alloc (ido zID)):=by
 unfold execOp
 simp only [Sem.run_bind,al_id,Result.andThen_ok,Sem.run_pure]
@[irreducible] noncomputable def stI (w:World) (v u:Value):Result Next:=((Instr.storeAt 24 v u).run Tryz.prog w).andThen (fun _ w=>.ok .skip w)
@[simp ↓] theorem ex_st (ρ:Operand → Value) (a x:Operand) (d:Option Nat) (t:TypeId) (p:String) (f:Array Edge) (g:Option (Nat × Bool)) (w:World) :
  (execOp ρ { dst:=d,op:=.store 24 a x,type:=t,pos:=p,after:=f,guard:=g }).run Tryz.prog w = stI w (ρ a) (ρ x):=by
 unfold execOp stI
 simp only [Sem.run_bind,Sem.run_pure]
@[simp] theorem stI_new (w:World) (x y:ID):stI (w.alloc (ido y)) (.pointer (some ⟨w.heap.size,0,none⟩)) (encI x) = .ok .skip (w.alloc (ido x)):=by
 unfold stI
 rw [st_new]
 rfl
def idc (l:List ID):List Value:=l.flatMap fun x=>bv x.1
theorem idc_length (l:List ID):(idc l).length = l.length * 32:=by
 induction l with
 | nil=>rfl
 | cons x l ih=>simp only [idc,List.flatMap_cons,List.length_append,bv_length,x.2,List.length_cons] at ih ⊢;omega
theorem idc_append (l m:List ID):idc (l ++ m) = idc l ++ idc m:=by simp [idc]
theorem idc_one (l:List ID):∀ u ∈ idc l,u.oneCell' = true:=by
 intro u hu
 simp only [idc,List.mem_flatMap] at hu
 obtain ⟨x,_,hu⟩:=hu
 exact bv_one _ u hu
theorem idc_get (l:List ID) (i j:Nat) (hi:i < l.length) (v:Value) (hv:(bv (l[i]).1)[j]? = some v):(idc l)[i * 32 + j]? = some v:=by
 induction l generalizing i with
 | nil=>simp at hi
 | cons x l ih =>
  have hj:j < 32:=by
   have:=(List.getElem?_eq_some_iff.1 hv).1
   rw [bv_length] at this
   have h2:=((x :: l)[i]).2
   omega
  simp only [idc,List.flatMap_cons]
  cases i with
  | zero =>
   rw [List.getElem?_append_left (by simp [x.2];omega)]
   simpa using hv
  | succ i =>
   rw [List.getElem?_append_right (by simp [x.2];omega),bv_length,x.2]
   have:=ih i (by simpa using hi) (by simpa using hv)
   rw [show (i + 1) * 32 + j - 32 = i * 32 + j by omega]
   exact this
theorem Sl.id {w:World} {g off:Nat} {l:List ID} (h:Sl w (some ⟨g,off,none⟩) (idc l)) (i:Nat) (hi:i < l.length):rdI w g (off + i * 32) = some l[i]:=by
 refine Rd.rdI fun j v hv=>?_
 have hne:idc l ≠ []:=by intro h0;have:=idc_length l;rw [h0] at this;simp at this;omega
 obtain ⟨g',off',e,_,hc⟩:=h hne
 injection e with e
 injection e with e1 e2
 subst e1;subst e2
 have:=hc _ v (idc_get l i j hi v hv)
 rwa [← Nat.add_assoc] at this
end Go.Proofs.YtjpieiccpbcabaaGreat
namespace Go.Proofs.YtjpieiccpbcabaaGreat
open Go.RowKit Go.Sort
theorem load_id (w:World) (a:Nat) (x:ID) (hx:rdI w a 0 = some x):(Extern.Bytes.loadBytes ⟨a,0,none⟩ 32 .empty).run Tryz.prog w = .ok ⟨x.1.toArray⟩ w:=by
 have h:=Lib.run_loadBytesX (P:=Tryz.prog) w (x.1.map fun b=>(b.toNat:Int)) ⟨a,0,none⟩ .empty (fun j u hu=>by
  rw [Addr.add_mid]
  refine rdI_rd hx j _ ?_
  rw [List.getElem?_map] at hu
  simp only [bv,List.getElem?_map]
  cases hj:x.1[j]? with
  | none=>rw [hj] at hu;cases hu
  | some b=>rw [hj] at hu;simp only [Option.map_some,Option.some.injEq] at hu ⊢;rw [← hu];rfl)
 rw [List.length_map,x.2] at h
 rw [h]
 congr 1
 apply ByteArray.ext
 simp only [Lib.bytesOf,List.map_map]
 have e:(x.1.map ((fun n:Int=>n.toNat.toUInt8) ∘ fun b:UInt8=>(b.toNat:Int))) = x.1:=by
  conv=>rhs;rw [← List.map_id x.1]
  exact List.map_congr_left (fun b _=>by simp)
 simpa using e
theorem bg_compare (w:World) (a b:Nat) (x y:ID) (hx:rdI w a 0 = some x) (hy:rdI w b 0 = some y) :
  (callFunc 160 #[.slice (some ⟨a,0,none⟩) 32 32,.slice (some ⟨b,0,none⟩) 32 32]).run Tryz.prog w = .ok (.value (.int .i64 (Lib.compareBytes x.1 y.1))) w:=by
 rw [run_callFunc_extern Tryz.func160 (by kernel_rfl) (by kernel_rfl) (by kernel_rfl) (e:=Extern.BytealgCompare.compare) (by kernel_rfl)]
 show (((do pure (goInt (Extern.BytealgCompare.cmp (← Extern.Bytes.bytesOf (.slice (some ⟨a,0,none⟩) 32 32)) (← Extern.Bytes.bytesOf (.slice (some ⟨b,0,none⟩) 32 32)))):Sem Value)).run Tryz.prog w).andThen _ = _
 simp only [Extern.Bytes.bytesOf,Sem.run_bind,load_id w a x hx,load_id w b y hy,Result.andThen_ok,Sem.run_pure,Lib.cmp_eq]
 rfl
theorem bcompare_any (w:World) (a b:Nat) (x y:ID) (hx:rdI w a 0 = some x) (hy:rdI w b 0 = some y) :
  Calls Tryz.prog 120 #[.slice (some ⟨a,0,none⟩) 32 32,.slice (some ⟨b,0,none⟩) 32 32] w fun e w'=>e = .returned (.int .i64 (Lib.compareBytes x.1 y.1)) ∧ w = w':=by
 have hc:=bg_compare w a b x y hx hy
 go_enter Tryz.func120,Tryz.ntmps120
 go_wp2
 go_ret
 exact ⟨rfl,rfl⟩
def cmpI (x y:ID):Int:=Lib.compareBytes x.1 y.1
def CmpTo (w:World) (v:Int) (e:Ending) (w':World):Prop:=e = .returned (.int .i64 v) ∧ ∃ q os,w' = grow (w.drewN q) os
theorem cmp_any (w:World) (x y:ID):Calls Tryz.prog 88 #[encI x,encI y] w (CmpTo w (cmpI x y)):=by
 go_enter Tryz.func88,Tryz.ntmps88
 go_wp2
 have r1:rdI ((w.alloc (ido x)).alloc (ido y)) w.heap.size 0 = some x:=by rw [rdI_old _ _ _ _ (by simp),rdI_new]
 have r2:rdI ((w.alloc (ido x)).alloc (ido y)) (w.heap.size + 1) 0 = some y:=by
  have:=rdI_new (w.alloc (ido x)) y
  rwa [World.size_alloc] at this
 go_quiet ((go_at_call 120;exact Calls.quiet_of_same ((bcompare_any _ _ _ x y (by rw [rdI_drewN];exact r1) (by rw [rdI_drewN];exact r2)).mono (fun _ _ h=>⟨h.1,h.2.symm⟩))))
 go_wp2
 go_ret
 refine ⟨rfl,nq,#[ido x,ido y],?_⟩
 rw [alloc_eq_grow,alloc_eq_grow,grow_grow]
 rfl
theorem CmpTo.fr {w w':World} {v:Int} {e:Ending} (h:CmpTo w v e w'):Fr noB w w':=by
 obtain ⟨_,q,os,rfl⟩:=h
 refine ⟨rfl,rfl,rfl,by simp [grow,World.drewN],fun k hk _=>?_⟩
 simp [grow,World.drewN,Array.getElem?_append_left hk]
/-! rows of IDs -/
theorem ET.mkI' {P:Program} {t e:TypeId} {z:Value} {size bytes:Nat} (ht:P.underlying t = some (.slice e))
  (h:(P.info? e).map (fun i=>(i.zero,i.size,i.bytes)) = some (some z,size,bytes)) (hz:z.cells.size = size) (hs:0 < size) (hb:0 < bytes):ET P t e size bytes:=by
 obtain ⟨i,h1,h2,h3,h4⟩:=info_parts h
 exact ⟨ht,⟨i,z,h1,h2,h3,h4,hz⟩,hs,hb⟩
theorem etIDs:ET Tryz.prog 32 24 32 32:=ET.mkI' (z:=.agg (bv zID.1).toArray) Tryz.underlying32 (by kernel_rfl) (by simp [Value.cells,zID]) (by decide) (by decide)
@[go_sem] theorem ids_eq_nil (w:World) (a:Option Addr) (n c:Nat):(binOp .eql 32 (.slice a n c) (.slice none 0 0)).run Tryz.prog w = .ok (.bool a.isNone) w :=
 Lib.run_eql_slice_nil w _ _ a n c 0 0 Tryz.underlying32
abbrev OwnD (w0 w:World) (A:Option Addr) (c:Nat) (l:List ID):Prop:=w.ownsRow w0.heap.size 24 32 (.slice A l.length c) l.length (idc l)
def NewIDs (w:World) (l:List ID) (e:Ending) (w':World):Prop:=∃ A c,e = .returned (.slice A l.length c) ∧ OwnD w w' A c l ∧ Fr noB w w'
theorem idclone_any (w:World) (A:Option Addr) (c:Nat) (l:List ID) (n:Nat) (hn:l.length = n) (hs:Sl w A (idc l)) (hb:l.length ≤ 1000000000000) :
  Calls Tryz.prog 63 #[.slice A n c] w (NewIDs w l):=by
 subst hn
 rcases A with _ | ad
 ·have hl:l = []:=by
   cases l with
   | nil=>rfl
   | cons b t=>obtain ⟨g,off,h,_⟩:=hs (by intro h0;have:=idc_length (b :: t);rw [h0] at this;simp at this);cases h
  subst hl
  go_enter Tryz.func63,Tryz.ntmps63
  go_wp2
  go_ret
  exact ⟨none,0,rfl,World.ownsRow_nil _ _ _ _,Fr.refl _ _⟩
 ·have hown:=World.ownsRow_lit (base:=w.heap.size) (e:=24) (size:=32) w #[] 0 (Nat.le_refl _) (by simp [maxLen]) rfl
  have hs1:Sl (w.alloc (.cells #[] 24)) (some ad) (idc l):=hs.fr0 ((Fr.refl noB w).alloc _)
  go_enter Tryz.func63,Tryz.ntmps63
  go_wp2_with (at_builtin;refine wpList_app _ etIDs rfl _ _ rfl w.heap.size _ _ _ rfl hown (some ad) l.length c (idc l) rfl hs1 (idc_length l) (idc_one l) (by omega) (by simp) ?_;intro v' w1 h1 h2 h3)
  go_ret
  obtain ⟨A',c',rfl,_,_⟩:=own_form h1
  simp only [Nat.zero_add,List.nil_append] at h1
  exact ⟨A',c',by simp,h1,((Fr.refl noB w).alloc _).stepG (r:=some w.heap.size) h2 (by intro g hg;injection hg with hg;omega)⟩
end Go.Proofs.YtjpieiccpbcabaaGreat
namespace Go.Proofs.YtjpieiccpbcabaaGreat
abbrev Dg:=List (ID × List ID)
def parents:Dg → ID → Option (List ID)
 | [],_=>none
 | (y,ps) :: g,x=>if x = y then some ps else parents g x
def hasG (g:Dg) (x:ID):Bool:=(parents g x).isSome
def upD (g:ID → Nat) (ps:List ID):Nat:=ps.foldl (fun d p=>max d (g p + 1)) 1
def depthG:Dg → ID → Nat
 | [],_=>0
 | (y,ps) :: g,x=>if x = y then upD (depthG g) ps else depthG g x
def ancG:Dg → ID → ID → Bool
 | [],_,_=>false
 | (z,ps) :: g,x,y=>if x = z then decide (y = z) || ps.any (fun p=>ancG g p y) else ancG g x y
def asc:List ID → Bool
 | x :: y :: l=>decide (cmpI x y < 0) && asc (y :: l)
 | _=>true
def rightL (x:ID) (ps:List ID):Bool:=asc ps && decide (x ≠ zID) && decide (ps.length ≤ 2)
def okG:Dg → Prop
 | []=>True
 | (y,ps) :: g=>rightL y ps = true ∧ hasG g y = false ∧ (∀ p ∈ ps,hasG g p = true) ∧ okG g
def addG (g:Dg) (x:ID) (ps:List ID):Nat × Dg :=
 if rightL x ps then
  match parents g x with
  | some q=>if q = ps then (0,g) else (5,g)
  | none=>if ps.all (hasG g) then (0,(x,ps) :: g) else (110,g)
 else (1,g)
theorem hasG_mem (g:Dg) (x:ID):hasG g x = true ↔ x ∈ g.map (·.1):=by
 induction g with
 | nil=>simp [hasG,parents]
 | cons p g ih =>
  unfold hasG at ih ⊢
  by_cases h:x = p.1
  ·simp [parents,h]
  ·simp [parents,h,ih]
theorem okG_par {g:Dg} (h:okG g) {x:ID} {ps:List ID} (hp:parents g x = some ps):(∀ p ∈ ps,hasG g p = true) ∧ ps.length ≤ 2 ∧ asc ps = true:=by
 induction g with
 | nil=>cases hp
 | cons q g ih =>
  obtain ⟨h1,h2,h3,h4⟩:=h
  have up:∀ p,hasG g p = true → hasG (q :: g) p = true:=fun p hq=>by
   rw [hasG_mem] at hq ⊢;exact List.mem_cons_of_mem _ hq
  unfold parents at hp
  split at hp
  ·injection hp with hp
   subst hp
   simp only [rightL,Bool.and_eq_true,decide_eq_true_eq] at h1
   exact ⟨fun p hq=>up p (h3 p hq),h1.2,h1.1.1⟩
  ·obtain ⟨a,b⟩:=ih h4 hp
   exact ⟨fun p hq=>up p (a p hq),b⟩
theorem upD_le (f:ID → Nat) (n:Nat) (hf:∀ p,f p ≤ n) (ps:List ID):upD f ps ≤ n + 1:=by
 unfold upD
 have:∀ (l:List ID) (d:Nat),d ≤ n + 1 → l.foldl (fun d p=>max d (f p + 1)) d ≤ n + 1:=by
  intro l
  induction l with
  | nil=>intro d h;exact h
  | cons p l ih=>intro d h;exact ih (max d (f p + 1)) (Nat.max_le.2 ⟨h,by have:=hf p;omega⟩)
 exact this ps 1 (by omega)
theorem depthG_le (g:Dg) (x:ID):depthG g x ≤ g.length:=by
 induction g generalizing x with
 | nil=>simp [depthG]
 | cons q g ih =>
  unfold depthG
  split
  ·exact upD_le _ _ ih _
  ·exact Nat.le_trans (ih x) (by simp)
theorem depth_none {g:Dg} {x:ID} (h:parents g x = none):depthG g x = 0:=by
 induction g with
 | nil=>rfl
 | cons q g ih =>
  unfold parents at h
  unfold depthG
  split at h
  ·cases h
  ·rename_i hx;rw [if_neg hx];exact ih h
theorem okG_add {g:Dg} (h:okG g) (x:ID) (ps:List ID):okG (addG g x ps).2:=by
 unfold addG
 split
 ·rename_i hr
  split
  ·split <;> exact h
  ·rename_i hn
   split
   ·rename_i ha
    refine ⟨hr,by simp [hasG,hn],fun p hp=>?_,h⟩
    exact List.all_eq_true.1 ha p hp
   ·exact h
 ·exact h
theorem hasG_cons (z:ID) (ps:List ID) (g:Dg) (x:ID):hasG ((z,ps) :: g) x = (decide (x = z) || hasG g x):=by
 unfold hasG
 by_cases h:x = z <;> simp [parents,h]
theorem anc_refl {g:Dg} {x:ID} (h:hasG g x = true):ancG g x x = true:=by
 induction g with
 | nil=>cases h
 | cons q g ih =>
  obtain ⟨z,ps⟩:=q
  rw [hasG_cons] at h
  unfold ancG
  by_cases e:x = z
  ·simp [e]
  ·simp only [e,if_false]
   exact ih (by simpa [e] using h)
theorem anc_has {g:Dg} (hk:okG g) {x y:ID} (h:ancG g x y = true):hasG g x = true ∧ hasG g y = true:=by
 induction g generalizing x with
 | nil=>cases h
 | cons q g ih =>
  obtain ⟨z,ps⟩:=q
  obtain ⟨h1,h2,h3,h4⟩:=hk
  rw [hasG_cons,hasG_cons]
  unfold ancG at h
  by_cases e:x = z
  ·simp only [e,if_true,Bool.or_eq_true,decide_eq_true_eq,List.any_eq_true] at h
   rcases h with h | ⟨p,_,hp⟩
   ·simp [e,h]
   ·simp [e,(ih h4 hp).2]
  ·simp only [e,if_false] at h
   simp [(ih h4 h).1,(ih h4 h).2]
theorem anc_step {g:Dg} (hk:okG g) {x y p:ID} {ps:List ID} (h:ancG g x y = true) (hp:parents g y = some ps) (hm:p ∈ ps):ancG g x p = true:=by
 induction g generalizing x with
 | nil=>cases h
 | cons q g ih =>
  obtain ⟨z,qs⟩:=q
  obtain ⟨h1,h2,h3,h4⟩:=hk
  have old:∀ u,ancG g u y = true → parents g y = some ps:=by
   intro u hu
   have hy:=(anc_has h4 hu).2
   have hyz:y ≠ z:=by rintro rfl;rw [hy] at h2;cases h2
   unfold parents at hp
   rwa [if_neg hyz] at hp
  unfold ancG at h ⊢
  by_cases e:x = z
  ·simp only [e,if_true,Bool.or_eq_true,decide_eq_true_eq,List.any_eq_true] at h ⊢
   rcases h with h | ⟨u,hu,hup⟩
   ·unfold parents at hp
    rw [if_pos h] at hp
    injection hp with hp
    subst hp
    exact .inr ⟨p,hm,anc_refl (h3 p hm)⟩
   ·exact .inr ⟨u,hu,ih h4 hup (old u hup)⟩
  ·simp only [e,if_false] at h ⊢
   exact ih h4 h (old x h)
theorem anc_closed {g:Dg} (hk:okG g) (S:ID → Prop) (hS:∀ y ps,S y → parents g y = some ps → ∀ p ∈ ps,S p) {x y:ID} (hx:S x) (h:ancG g x y = true):S y:=by
 induction g generalizing x with
 | nil=>cases h
 | cons q g ih =>
  obtain ⟨z,qs⟩:=q
  obtain ⟨h1,h2,h3,h4⟩:=hk
  have hS':∀ y ps,S y → parents g y = some ps → ∀ p ∈ ps,S p:=by
   intro y ps hy hps
   refine hS y ps hy ?_
   unfold parents
   have hyz:y ≠ z:=by
    rintro rfl
    have:hasG g y = true:=by simp [hasG,hps]
    rw [this] at h2;cases h2
   rw [if_neg hyz];exact hps
  unfold ancG at h
  by_cases e:x = z
  ·simp only [e,if_true,Bool.or_eq_true,decide_eq_true_eq,List.any_eq_true] at h
   rcases h with h | ⟨u,hu,hup⟩
   ·rw [h,← e];exact hx
   ·refine ih h4 hS' ?_ hup
    refine hS x qs hx ?_ u hu
    unfold parents;rw [if_pos e]
  ·simp only [e,if_false] at h
   exact ih h4 hS' hx h
theorem anc_trans {g:Dg} (hk:okG g) {x y z:ID} (h:ancG g x y = true) (h2:ancG g y z = true):ancG g x z = true :=
 anc_closed hk (fun u=>ancG g x u = true) (fun _ _ hy hp _ hm=>anc_step hk hy hp hm) h h2
theorem upD_gt (f:ID → Nat) (ps:List ID) (p:ID) (h:p ∈ ps):f p < upD f ps:=by
 unfold upD
 have mono:∀ (l:List ID) (d:Nat),d ≤ l.foldl (fun d p=>max d (f p + 1)) d:=by
  intro l
  induction l with
  | nil=>intro d;exact Nat.le_refl _
  | cons q l ih=>intro d;exact Nat.le_trans (Nat.le_max_left _ _) (ih _)
 have:∀ (l:List ID) (d:Nat),p ∈ l → f p < l.foldl (fun d p=>max d (f p + 1)) d:=by
  intro l
  induction l with
  | nil=>intro d h;cases h
  | cons q l ih =>
   intro d h
   rcases List.mem_cons.1 h with rfl | h
   ·rw [List.foldl_cons];exact Nat.lt_of_lt_of_le (Nat.lt_succ_self _) (Nat.le_trans (Nat.le_max_right _ _) (mono _ _))
   ·exact ih _ h
 exact this ps 1 h
theorem upD_congr (f f':ID → Nat) (ps:List ID) (h:∀ p ∈ ps,f p = f' p):upD f ps = upD f' ps:=by
 unfold upD
 have:∀ (l:List ID) (d:Nat),(∀ p ∈ l,f p = f' p) → l.foldl (fun d p=>max d (f p + 1)) d = l.foldl (fun d p=>max d (f' p + 1)) d:=by
  intro l
  induction l with
  | nil=>intro d _;rfl
  | cons q l ih =>
   intro d h
   rw [List.foldl_cons,List.foldl_cons,h q (by simp)]
   exact ih _ (fun p hp=>h p (by simp [hp]))
 exact this ps 1 h
theorem depth_par {g:Dg} (hk:okG g) {y:ID} {ps:List ID} (hp:parents g y = some ps):depthG g y = upD (depthG g) ps:=by
 induction g with
 | nil=>cases hp
 | cons q g ih =>
  obtain ⟨z,qs⟩:=q
  obtain ⟨h1,h2,h3,h4⟩:=hk
  have out:∀ ps:List ID,(∀ p ∈ ps,hasG g p = true) → upD (depthG g) ps = upD (depthG ((z,qs) :: g)) ps:=by
   intro ps hps
   refine upD_congr _ _ ps (fun p hpm=>?_)
   have hpz:p ≠ z:=by rintro rfl;rw [hps p hpm] at h2;cases h2
   conv=>rhs;unfold depthG
   rw [if_neg hpz]
  unfold parents at hp
  split at hp
  ·rename_i e
   injection hp with hp
   subst hp
   rw [← out qs h3]
   conv=>lhs;unfold depthG
   rw [if_pos e]
  ·rename_i e
   rw [← out ps (okG_par h4 hp).1,← ih h4 hp]
   conv=>lhs;unfold depthG
   rw [if_neg e]
theorem depth_lt {g:Dg} (hk:okG g) {y p:ID} {ps:List ID} (hp:parents g y = some ps) (hm:p ∈ ps):depthG g p < depthG g y:=by
 rw [depth_par hk hp];exact upD_gt _ _ _ hm
/-! the search -/
def Reached (G:Dg) (ids:List ID) (y:ID):Prop:=∃ i ∈ ids,ancG G i y = true
structure Found (G:Dg) (ids met todo:List ID):Prop where
 nd:met.Nodup
 has:∀ y ∈ met,hasG G y = true
 clo:∀ y ∈ met,∀ ps,parents G y = some ps → ∀ p ∈ ps,p ∈ met ∨ p ∈ todo
 all:∀ y ∈ ids,hasG G y = true → y ∈ met ∨ y ∈ todo
 sub:∀ y,y ∈ met ∨ y ∈ todo → hasG G y = true → Reached G ids y
 len:todo.length ≤ ids.length + 2 * met.length
theorem nd_le:∀ (l m:List ID),l.Nodup → (∀ x ∈ l,x ∈ m) → l.length ≤ m.length
 | [],_,_,_=>by simp
 | x :: l,m,nd,hs=>by
  rw [List.nodup_cons] at nd
  have hx:x ∈ m:=hs x (by simp)
  have:=nd_le l (m.erase x) nd.2 (fun y hy=>(List.mem_erase_of_ne (by rintro rfl;exact nd.1 hy)).2 (hs y (by simp [hy])))
  rw [List.length_erase_of_mem hx] at this
  have:=List.length_pos_of_mem hx
  simp only [List.length_cons]
  omega
theorem nd_len {G:Dg} {met:List ID} (nd:met.Nodup) (has:∀ y ∈ met,hasG G y = true):met.length ≤ G.length:=by
 have:=nd_le met (G.map (·.1)) nd (fun y hy=>(hasG_mem G y).1 (has y hy))
 simpa using this
theorem Found.start (G:Dg) (ids:List ID):Found G ids [] ids :=
 ⟨by simp,by simp,by simp,fun y hy _=>.inr hy,fun y hy hG=>⟨y,by simpa using hy,anc_refl hG⟩,by simp⟩
theorem Found.skip {G:Dg} {ids met todo:List ID} {x:ID} (h:Found G ids met (todo ++ [x])) (hx:x ∈ met ∨ hasG G x = false) (hk:okG G):Found G ids met todo:=by
 refine ⟨h.nd,h.has,fun y hy ps hp p hm=>?_,fun y hy hG=>?_,fun y hy hG=>h.sub y (hy.imp_right (fun h=>by simp [h])) hG,by have:=h.len;simp at this;omega⟩
 ·rcases h.clo y hy ps hp p hm with h1 | h1
  ·exact .inl h1
  ·rcases List.mem_append.1 h1 with h1 | h1
   ·exact .inr h1
   ·have e:p = x:=by simpa using h1
    subst e
    rcases hx with hx | hx
    ·exact .inl hx
    ·have:=(okG_par hk hp).1 p hm
     rw [hx] at this;cases this
 ·rcases h.all y hy hG with h1 | h1
  ·exact .inl h1
  ·rcases List.mem_append.1 h1 with h1 | h1
   ·exact .inr h1
   ·have e:y = x:=by simpa using h1
    subst e
    rcases hx with hx | hx
    ·exact .inl hx
    ·rw [hx] at hG;cases hG
theorem Found.take {G:Dg} {ids met todo ps:List ID} {x:ID} (h:Found G ids met (todo ++ [x])) (hx:x ∉ met) (hp:parents G x = some ps) (hk:okG G):Found G ids (met ++ [x]) (todo ++ ps):=by
 have hG:hasG G x = true:=by simp [hasG,hp]
 have hr:Reached G ids x:=h.sub x (.inr (by simp)) hG
 refine ⟨?_,?_,?_,?_,?_,?_⟩
 ·rw [List.nodup_append]
  refine ⟨h.nd,by simp,?_⟩
  intro a ha b hb e
  have:b = x:=by simpa using hb
  subst this;subst e;exact hx ha
 ·intro y hy
  rcases List.mem_append.1 hy with hy | hy
  ·exact h.has y hy
  ·have:y = x:=by simpa using hy
   rw [this];exact hG
 ·intro y hy qs hq p hm
  rcases List.mem_append.1 hy with hy | hy
  ·rcases h.clo y hy qs hq p hm with h1 | h1
   ·exact .inl (by simp [h1])
   ·rcases List.mem_append.1 h1 with h1 | h1
    ·exact .inr (by simp [h1])
    ·exact .inl (by simp at h1;simp [h1])
  ·have e:y = x:=by simpa using hy
   subst e
   rw [hp] at hq
   injection hq with hq
   subst hq
   exact .inr (by simp [hm])
 ·intro y hy hyG
  rcases h.all y hy hyG with h1 | h1
  ·exact .inl (by simp [h1])
  ·rcases List.mem_append.1 h1 with h1 | h1
   ·exact .inr (by simp [h1])
   ·exact .inl (by simp at h1;simp [h1])
 ·intro y hy hyG
  rcases hy with hy | hy
  ·rcases List.mem_append.1 hy with hy | hy
   ·exact h.sub y (.inl hy) hyG
   ·have:y = x:=by simpa using hy
    rw [this];exact hr
  ·rcases List.mem_append.1 hy with hy | hy
   ·exact h.sub y (.inr (by simp [hy])) hyG
   ·obtain ⟨i,hi,ha⟩:=hr
    exact ⟨i,hi,anc_step hk ha hp hy⟩
 ·have:=h.len
  have:=(okG_par hk hp).2.1
  simp at *
  omega
theorem Found.done {G:Dg} {ids met:List ID} (h:Found G ids met []) (hk:okG G) (y:ID):y ∈ met ↔ Reached G ids y:=by
 constructor
 ·intro hy
  exact h.sub y (.inl hy) (h.has y hy)
 ·rintro ⟨i,hi,ha⟩
  refine anc_closed hk (· ∈ met) (fun y ps hy hp p hm=>?_) ?_ ha
  ·exact (h.clo y hy ps hp p hm).elim id (fun h=>by cases h)
  ·exact (h.all i hi (anc_has hk ha).1).elim id (fun h=>by cases h)
end Go.Proofs.YtjpieiccpbcabaaGreat
namespace Go.Proofs.YtjpieiccpbcabaaGreat
open Go.RowKit
def BaseOf (G:Dg) (x y z:ID):Prop:=(ancG G x z = true ∧ ancG G y z = true) ∧ ¬ ∃ d ps,(ancG G x d = true ∧ ancG G y d = true) ∧ parents G d = some ps ∧ z ∈ ps
theorem base_top {G:Dg} (hk:okG G) {x y:ID}:∀ (k:Nat) (c:ID),G.length - depthG G c = k → ancG G x c = true → ancG G y c = true → ∃ p,BaseOf G x y p ∧ ancG G p c = true:=by
 intro k
 induction k using Nat.strongRecOn with
 | ind k ih =>
  intro c hc h1 h2
  by_cases h:∃ d ps,(ancG G x d = true ∧ ancG G y d = true) ∧ parents G d = some ps ∧ c ∈ ps
  ·obtain ⟨d,ps,hd,hp,hm⟩:=h
   have hl:=depth_lt hk hp hm
   have hle:=depthG_le G d
   obtain ⟨p,hp1,hp2⟩:=ih (G.length - depthG G d) (by omega) d rfl hd.1 hd.2
   exact ⟨p,hp1,anc_step hk hp2 hp hm⟩
  ·exact ⟨c,⟨⟨h1,h2⟩,h⟩,anc_refl (anc_has hk h1).2⟩
end Go.Proofs.YtjpieiccpbcabaaGreat
