/- IDs: 32 bytes by value. The walk never looks into one: rules on loads, stores, boxes, sameness. Contracts: the order of IDs (sha.Cmp, bytes.Compare). Plain: stamps, operations, items, commits, tags; when they are right; their bytes; how they are read. Plain: rows of a tree; ways up from row to row; places; names from the root. -/
import Derived.Test.YtnkdnbjmhoegkaaGreatProg
import Derived.Test.YtnkdnbjmhoegkaaGreatMapRKq
import Derived.Deep.MidRow
import Derived.Deep.WholeRow
import Derived.Stop.BytesEq
import Derived.WalkSpells
import Derived.Outline
import Derived.Lib.Bytealg
import Derived.Lib.BytesEntry
import Derived.Sort.Grow
import Derived.Deep.QuietTactic
import Derived.BigQuiet
import Derived.Test.YtnkdnbjmhoegkaaGreatNumBKq
set_option linter.unusedVariables false
set_option linter.unusedSimpArgs false
namespace Go.Proofs.YtnkdnbjmhoegkaaGreat
open Go.RowKit
def ID:Type:={ l:List UInt8 // l.length = 32 }
instance:DecidableEq ID:=inferInstanceAs (DecidableEq { l:List UInt8 // l.length = 32 })
@[irreducible] def idA (x:ID):Array Value:=(bv x.1).toArray
theorem idA_eq (x:ID):idA x = (bv x.1).toArray:=by unfold idA;rfl
abbrev encI (x:ID):Value:=.agg (idA x)
abbrev ido (x:ID):Obj:=.cells (idA x) 34
def zID:ID:=⟨List.replicate 32 0,rfl⟩
instance:Inhabited ID:=⟨zID⟩
theorem u8v_inj {a b:UInt8} (h:u8v a = u8v b):a = b:=by
 unfold u8v at h
 injection h with _ h
 exact UInt8.toNat_inj.1 (by omega)
theorem bv_inj {l m:List UInt8} (h:bv l = bv m):l = m:=by
 induction l generalizing m with
 | nil=>cases m with
  | nil=>rfl
  | cons b m=>simp [bv] at h
 | cons a l ih=>cases m with
  | nil=>simp [bv] at h
  | cons b m =>
   rw [bv_cons,bv_cons] at h
   injection h with h1 h2
   rw [u8v_inj h1,ih h2]
theorem encI_inj {x y:ID} (h:encI x = encI y):x = y:=by
 injection h with h
 rw [idA_eq,idA_eq] at h
 exact Subtype.ext (bv_inj (by simpa using congrArg Array.toList h))
def Rd (w:World) (b o:Nat) (x:ID):Prop:=w.rangeAt b o (bv x.1)
theorem Rd.uniq {w:World} {b o:Nat} {x y:ID} (hx:Rd w b o x) (hy:Rd w b o y):x = y:=by
 refine Subtype.ext (bv_inj (List.ext_getElem? fun j=>?_))
 by_cases hj:j < 32
 ·have ex:(bv x.1)[j]? = some ((bv x.1)[j]'(by simp [x.2];exact hj)):=List.getElem?_eq_getElem _
  have ey:(bv y.1)[j]? = some ((bv y.1)[j]'(by simp [y.2];exact hj)):=List.getElem?_eq_getElem _
  have:=(hx j _ ex).symm.trans (hy j _ ey)
  rw [ex,ey,this]
 ·rw [List.getElem?_eq_none (by simp [x.2];omega),List.getElem?_eq_none (by simp [y.2];omega)]
open Classical in
noncomputable def rdI (w:World) (b o:Nat):Option ID:=if h:∃ x,Rd w b o x then some h.choose else none
theorem Rd.rdI {w:World} {b o:Nat} {x:ID} (h:Rd w b o x):rdI w b o = some x:=by
 unfold Go.Proofs.YtnkdnbjmhoegkaaGreat.rdI
 have hx:∃ x,Rd w b o x:=⟨x,h⟩
 rw [dif_pos hx]
 exact congrArg some (hx.choose_spec.uniq h)
theorem rdI_rd {w:World} {b o:Nat} {x:ID} (h:rdI w b o = some x):Rd w b o x:=by
 unfold rdI at h
 split at h
 ·rename_i hx
  injection h with h
  rw [← h];exact hx.choose_spec
 ·cases h
theorem rdI_congr {w w':World} {b o o':Nat} (h:∀ x,Rd w b o x ↔ Rd w' b o' x):rdI w b o = rdI w' b o':=by
 cases hx:rdI w b o with
 | some x=>exact ((h x).1 (rdI_rd hx)).rdI.symm
 | none =>
  cases hy:rdI w' b o' with
  | none=>rfl
  | some y=>rw [((h y).2 (rdI_rd hy)).rdI] at hx;cases hx
theorem Rd.keep {w w':World} {b o:Nat} {x:ID} (h:Rd w b o x) (hb:w'.heap[b]? = w.heap[b]?):Rd w' b o x:=fun j v hv=>(World.cell?_of_block (a:=⟨b,o + j,none⟩) hb).trans (h j v hv)
theorem rdI_keep {w w':World} {b o:Nat} (hb:w'.heap[b]? = w.heap[b]?):rdI w' b o = rdI w b o:=rdI_congr fun x=>⟨fun h=>h.keep hb.symm,fun h=>h.keep hb⟩
theorem rdI_fr {M:Nat → Prop} {w w':World} {b o:Nat} {x:ID} (h:rdI w b o = some x) (hl:b < w.heap.size) (f:Fr M w w') (hM:¬ M b):rdI w' b o = some x:=(rdI_keep (f.block b hl hM)).trans h
theorem Rd.lt {w:World} {b o:Nat} {x:ID} (h:Rd w b o x):b < w.heap.size:=by
 have hl:0 < (bv x.1).length:=by simp [x.2]
 exact World.block_lt_of_cell? _ _ (h 0 _ (List.getElem?_eq_getElem hl))
theorem rdI_lt {w:World} {b o:Nat} {x:ID} (h:rdI w b o = some x):b < w.heap.size:=(rdI_rd h).lt
@[simp] theorem rdI_drew (w:World) (b o:Nat):rdI w.drew b o = rdI w b o:=rdI_keep rfl
@[simp] theorem rdI_drewN (w:World) (n b o:Nat):rdI (w.drewN n) b o = rdI w b o:=rdI_keep rfl
@[simp] theorem rdI_new (w:World) (x:ID):rdI (w.alloc (ido x)) w.heap.size 0 = some x:=by
 refine Rd.rdI fun j v hv=>?_
 have hh:(w.alloc (ido x)).heap[w.heap.size]? = some (ido x):=heap_alloc_new w _
 simp only [ido,idA_eq] at hh ⊢
 rw [Nat.zero_add,cell_of_row _ _ j (bv x.1).toArray 34 (0,0) hh]
 simpa using hv
@[simp] theorem rdI_old (w:World) (ob:Obj) (b o:Nat) (h:b < w.heap.size):rdI (w.alloc ob) b o = rdI w b o:=rdI_keep (heap_alloc_old w ob h)
theorem infoID:(Tryz.prog.info? 34).map (·.size) = some 32:=by kernel_rfl
theorem infoArr:(Tryz.prog.info? 33).map (·.size) = some 32:=by kernel_rfl
noncomputable def ldElse (t:TypeId) (w:World) (b o:Nat):Result Value:=(Instr.loadAt t (.pointer (some ⟨b,o,none⟩))).run Tryz.prog w
@[simp] theorem ld_id (w:World) (b o:Nat):(Instr.loadAt 34 (.pointer (some ⟨b,o,none⟩))).run Tryz.prog w = match rdI w b o with | some x=>.ok (encI x) w | none=>ldElse 34 w b o:=by
 cases h:rdI w b o with
 | none=>rfl
 | some x =>
  simp only [encI,idA_eq]
  exact run_loadAt_mid w b o 34 (bv x.1) _ (rdI_rd h) Tryz.underlying34 rfl (by rw [bv_length,x.2];exact infoID)
@[simp] theorem ld_arr (w:World) (b o:Nat):(Instr.loadAt 33 (.pointer (some ⟨b,o,none⟩))).run Tryz.prog w = match rdI w b o with | some x=>.ok (encI x) w | none=>ldElse 33 w b o:=by
 cases h:rdI w b o with
 | none=>rfl
 | some x =>
  simp only [encI,idA_eq]
  exact run_loadAt_mid w b o 33 (bv x.1) _ (rdI_rd h) Tryz.underlying33 rfl (by rw [bv_length,x.2];exact infoArr)
theorem ex_ld_id {ρ:Operand → Value} {o:Oper} {a:Operand} {w:World} {b off:Nat} {x:ID} (ho:o.op = .load 34 a) (ha:ρ a = .pointer (some ⟨b,off,none⟩)) (hr:rdI w b off = some x) :
  (execOp ρ o).run Tryz.prog w = .ok (.value (encI x)) w:=by
 have h:=ld_id w b off
 rw [hr] at h
 unfold execOp
 simp only [ho,ha,Sem.run_bind,h,Result.andThen_ok,Sem.run_pure]
@[irreducible] noncomputable def exElse (ρ:Operand → Value) (o:Oper) (w:World):Result Next:=(execOp ρ o).run Tryz.prog w
noncomputable def ldI (w:World) (v:Value) (r:Result Next):Result Next:=match v with
 | .pointer (some ⟨b,off,none⟩)=>(match rdI w b off with | some x=>.ok (.value (encI x)) w | none=>r)
 | _=>r
@[simp] theorem ldI_at (w:World) (b off:Nat) (r:Result Next):ldI w (.pointer (some ⟨b,off,none⟩)) r = match rdI w b off with | some x=>.ok (.value (encI x)) w | none=>r:=rfl
theorem ex_ld_op (ρ:Operand → Value) (o:Oper) (a:Operand) (ho:o.op = .load 34 a) (w:World):(execOp ρ o).run Tryz.prog w = ldI w (ρ a) (exElse ρ o w):=by
 have he:exElse ρ o w = (execOp ρ o).run Tryz.prog w:=by unfold exElse;rfl
 rw [he]
 unfold ldI
 split
 ·rename_i b off hv
  cases h:rdI w b off with
  | none=>rfl
  | some x=>exact ex_ld_id ho hv h
 ·rfl
@[simp ↓] theorem ex_ld (ρ:Operand → Value) (d:Option Nat) (a:Operand) (t:TypeId) (p:String) (f:Array Edge) (g:Option (Nat × Bool)) (w:World) :
  (execOp ρ { dst:=d,op:=.load 34 a,type:=t,pos:=p,after:=f,guard:=g }).run Tryz.prog w = ldI w (ρ a) (exElse ρ { dst:=d,op:=.load 34 a,type:=t,pos:=p,after:=f,guard:=g } w):=ex_ld_op ρ _ a rfl w
@[simp] theorem bx_id (w:World) (x:ID):(Instr.box 34 (encI x)).run Tryz.prog w = .ok (.pointer (some ⟨w.heap.size,0,none⟩)) (w.alloc (ido x)):=by
 simp [Instr.box,newVar,newRow,newObj,Value.cells,Sem.run,Result.andThen]
theorem zeroID (w:World):(zeroValue 34).run Tryz.prog w = .ok (encI zID) w:=by
 simp only [encI,idA_eq]
 exact (zero_of_info (P:=Tryz.prog) (t:=34) (v:=.agg (bv zID.1).toArray) (n:=32) (by kernel_rfl)).1 w
@[simp] theorem al_id (w:World):(Instr.alloc 34 true (.tuple #[])).run Tryz.prog w = .ok (.pointer (some ⟨w.heap.size,0,none⟩)) (w.alloc (ido zID)):=by
 have:=bx_id w zID
 simp only [Instr.alloc,Sem.run_bind,zeroID,Result.andThen_ok]
 exact this
@[simp] theorem st_new (w:World) (x y:ID):(Instr.storeAt 34 (.pointer (some ⟨w.heap.size,0,none⟩)) (encI x)).run Tryz.prog (w.alloc (ido y)) = .ok () (w.alloc (ido x)):=by
 simp only [encI,ido,idA_eq]
 exact run_storeAt_new w 34 _ _ (by rw [List.size_toArray,bv_length,x.2];exact infoID) (by simp [x.2,y.2]) (all_oneCell_toArray (bv_one _))
@[simp] theorem eq_id (w:World) (x y:ID):(binOp .eql 34 (encI x) (encI y)).run Tryz.prog w = .ok (.bool (decide (x = y))) w:=by
 simp only [encI,idA_eq]
 have:=run_eql_bytes (P:=Tryz.prog) (w:=w) 34 5 32 Tryz.underlying34 Tryz.underlying5 (by intro w;kernel_rfl) x.1 y.1 x.2 y.2
 have e:(x.1 == y.1) = decide (x = y):=by
  rw [Bool.eq_iff_iff]
  simp only [beq_iff_eq,decide_eq_true_eq]
  exact ⟨fun h=>Subtype.ext h,fun h=>congrArg Subtype.val h⟩
 rw [e] at this
 exact this
set_option maxRecDepth 100000 in
@[simp] theorem neq_id (w:World) (x y:ID):(binOp .neq 34 (encI x) (encI y)).run Tryz.prog w = .ok (.bool (!decide (x = y))) w:=by
 have h:=eq_id w x y
 rw [run_eql_struct] at h
 rw [run_neq_struct]
 cases hr:(Op.equalIn 10000 34 (encI x) (encI y)).run Tryz.prog w with
 | ok b w' =>
  rw [hr] at h
  simp only [Result.andThen_ok] at h ⊢
  injection h with h1 h2
  injection h1 with h1
  rw [h1,h2]
 | _=>rw [hr] at h;cases h
/-! at the operations: rules that are met ahead of the kit's -/
@[simp ↓] theorem ex_al (ρ:Operand → Value) (d:Option Nat) (t:TypeId) (p:String) (f:Array Edge) (g:Option (Nat × Bool)) (w:World) :
  (execOp ρ { dst:=d,op:=.alloc 34,type:=t,pos:=p,after:=f,guard:=g }).run Tryz.prog w = .ok (.value (.pointer (some ⟨w.heap.size,0,none⟩))) (w.alloc (ido zID)):=by
 unfold execOp
 simp only [Sem.run_bind,al_id,Result.andThen_ok,Sem.run_pure]
@[irreducible] noncomputable def stI (w:World) (v u:Value):Result Next:=((Instr.storeAt 34 v u).run Tryz.prog w).andThen (fun _ w=>.ok .skip w)
@[simp ↓] theorem ex_st (ρ:Operand → Value) (a x:Operand) (d:Option Nat) (t:TypeId) (p:String) (f:Array Edge) (g:Option (Nat × Bool)) (w:World) :
  (execOp ρ { dst:=d,op:=.store 34 a x,type:=t,pos:=p,after:=f,guard:=g }).run Tryz.prog w = stI w (ρ a) (ρ x):=by
 unfold execOp stI
 simp only [Sem.run_bind,Sem.run_pure]
def idc (l:List ID):List Value:=l.flatMap fun x=>bv x.1
theorem idc_length (l:List ID):(idc l).length = l.length * 32:=by
 induction l with
 | nil=>rfl
 | cons x l ih=>simp only [idc,List.flatMap_cons,List.length_append,bv_length,x.2,List.length_cons] at ih ⊢;omega
theorem idc_one (l:List ID):∀ u ∈ idc l,u.oneCell' = true:=by
 intro u hu
 simp only [idc,List.mem_flatMap] at hu
 obtain ⟨x,_,hu⟩:=hu
 exact bv_one _ u hu
theorem idc_get (l:List ID) (i j:Nat) (hi:i < l.length) (v:Value) (hv:(bv (l[i]).1)[j]? = some v):(idc l)[i * 32 + j]? = some v:=by
 induction l generalizing i with
 | nil=>simp at hi
 | cons x l ih =>
  have hj:j < 32:=by
   have:=(List.getElem?_eq_some_iff.1 hv).1
   rw [bv_length] at this
   have h2:=((x :: l)[i]).2
   omega
  simp only [idc,List.flatMap_cons]
  cases i with
  | zero =>
   rw [List.getElem?_append_left (by simp [x.2];omega)]
   simpa using hv
  | succ i =>
   rw [List.getElem?_append_right (by simp [x.2];omega),bv_length,x.2]
   have:=ih i (by simpa using hi) (by simpa using hv)
   rw [show (i + 1) * 32 + j - 32 = i * 32 + j by omega]
   exact this
theorem Sl.id {w:World} {g off:Nat} {l:List ID} (h:Sl w (some ⟨g,off,none⟩) (idc l)) (i:Nat) (hi:i < l.length):rdI w g (off + i * 32) = some l[i]:=by
 refine Rd.rdI fun j v hv=>?_
 have hne:idc l ≠ []:=by intro h0;have:=idc_length l;rw [h0] at this;simp at this;omega
 obtain ⟨g',off',e,_,hc⟩:=h hne
 injection e with e
 injection e with e1 e2
 subst e1;subst e2
 have:=hc _ v (idc_get l i j hi v hv)
 rwa [← Nat.add_assoc] at this
end Go.Proofs.YtnkdnbjmhoegkaaGreat
namespace Go.Proofs.YtnkdnbjmhoegkaaGreat
open Go.RowKit Go.Sort
theorem load_id (w:World) (a:Nat) (x:ID) (hx:rdI w a 0 = some x):(Extern.Bytes.loadBytes ⟨a,0,none⟩ 32 .empty).run Tryz.prog w = .ok ⟨x.1.toArray⟩ w:=by
 have h:=Lib.run_loadBytesX (P:=Tryz.prog) w (x.1.map fun b=>(b.toNat:Int)) ⟨a,0,none⟩ .empty (fun j u hu=>by
  rw [Addr.add_mid]
  refine rdI_rd hx j _ ?_
  rw [List.getElem?_map] at hu
  simp only [bv,List.getElem?_map]
  cases hj:x.1[j]? with
  | none=>rw [hj] at hu;cases hu
  | some b=>rw [hj] at hu;simp only [Option.map_some,Option.some.injEq] at hu ⊢;rw [← hu];rfl)
 rw [List.length_map,x.2] at h
 rw [h]
 congr 1
 apply ByteArray.ext
 simp only [Lib.bytesOf,List.map_map]
 have e:(x.1.map ((fun n:Int=>n.toNat.toUInt8) ∘ fun b:UInt8=>(b.toNat:Int))) = x.1:=by
  conv=>rhs;rw [← List.map_id x.1]
  exact List.map_congr_left (fun b _=>by simp)
 simpa using e
theorem bg_compare (w:World) (a b:Nat) (x y:ID) (hx:rdI w a 0 = some x) (hy:rdI w b 0 = some y) :
  (callFunc 81 #[.slice (some ⟨a,0,none⟩) 32 32,.slice (some ⟨b,0,none⟩) 32 32]).run Tryz.prog w = .ok (.value (.int .i64 (Lib.compareBytes x.1 y.1))) w:=by
 rw [run_callFunc_extern Tryz.func81 (by kernel_rfl) (by kernel_rfl) (by kernel_rfl) (e:=Extern.BytealgCompare.compare) (by kernel_rfl)]
 show (((do pure (goInt (Extern.BytealgCompare.cmp (← Extern.Bytes.bytesOf (.slice (some ⟨a,0,none⟩) 32 32)) (← Extern.Bytes.bytesOf (.slice (some ⟨b,0,none⟩) 32 32)))):Sem Value)).run Tryz.prog w).andThen _ = _
 simp only [Extern.Bytes.bytesOf,Sem.run_bind,load_id w a x hx,load_id w b y hy,Result.andThen_ok,Sem.run_pure,Lib.cmp_eq]
 rfl
theorem bcompare_any (w:World) (a b:Nat) (x y:ID) (hx:rdI w a 0 = some x) (hy:rdI w b 0 = some y) :
  Calls Tryz.prog 47 #[.slice (some ⟨a,0,none⟩) 32 32,.slice (some ⟨b,0,none⟩) 32 32] w fun e w'=>e = .returned (.int .i64 (Lib.compareBytes x.1 y.1)) ∧ w = w':=by
 have hc:=bg_compare w a b x y hx hy
 go_enter Tryz.func47,Tryz.ntmps47
 go_wp2
 go_ret
 exact ⟨rfl,rfl⟩
def cmpI (x y:ID):Int:=Lib.compareBytes x.1 y.1
def CmpTo (w:World) (v:Int) (e:Ending) (w':World):Prop:=e = .returned (.int .i64 v) ∧ ∃ q os,w' = grow (w.drewN q) os
theorem cmp_any (w:World) (x y:ID):Calls Tryz.prog 34 #[encI x,encI y] w (CmpTo w (cmpI x y)):=by
 go_enter Tryz.func34,Tryz.ntmps34
 go_wp2
 have r1:rdI ((w.alloc (ido x)).alloc (ido y)) w.heap.size 0 = some x:=by rw [rdI_old _ _ _ _ (by simp),rdI_new]
 have r2:rdI ((w.alloc (ido x)).alloc (ido y)) (w.heap.size + 1) 0 = some y:=by
  have:=rdI_new (w.alloc (ido x)) y
  rwa [World.size_alloc] at this
 go_quiet ((go_at_call 47;exact Calls.quiet_of_same ((bcompare_any _ _ _ x y (by rw [rdI_drewN];exact r1) (by rw [rdI_drewN];exact r2)).mono (fun _ _ h=>⟨h.1,h.2.symm⟩))))
 go_wp2
 go_ret
 refine ⟨rfl,nq,#[ido x,ido y],?_⟩
 rw [alloc_eq_grow,alloc_eq_grow,grow_grow]
 rfl
/-! rows of IDs -/
theorem ET.mkI' {P:Program} {t e:TypeId} {z:Value} {size bytes:Nat} (ht:P.underlying t = some (.slice e))
  (h:(P.info? e).map (fun i=>(i.zero,i.size,i.bytes)) = some (some z,size,bytes)) (hz:z.cells.size = size) (hs:0 < size) (hb:0 < bytes):ET P t e size bytes:=by
 obtain ⟨i,h1,h2,h3,h4⟩:=info_parts h
 exact ⟨ht,⟨i,z,h1,h2,h3,h4,hz⟩,hs,hb⟩
theorem etIDs:ET Tryz.prog 50 34 32 32:=ET.mkI' (z:=.agg (bv zID.1).toArray) Tryz.underlying50 (by kernel_rfl) (by simp [Value.cells,zID]) (by decide) (by decide)
abbrev OwnD (w0 w:World) (A:Option Addr) (c:Nat) (l:List ID):Prop:=w.ownsRow w0.heap.size 34 32 (.slice A l.length c) l.length (idc l)
end Go.Proofs.YtnkdnbjmhoegkaaGreat
namespace Go.Proofs.YtnkdnbjmhoegkaaGreat
structure St where
 T:Int
 R:Int
deriving DecidableEq
structure Hd where
 At:St
 Data:ID
structure It where
 Node:St
 At:St
 Name:List UInt8
 Sub:ID
 Heads:List Hd
structure Opn where
 Kind:Int
 At:St
 Node:St
 Parent:St
 Name:List UInt8
 Data:ID
 Over:List St
def zSt:St:=⟨0,0⟩
def zOp:Opn:=⟨0,zSt,zSt,zSt,[],zID,[]⟩
def cmpS (a b:St):Int:=if a.T < b.T then -1 else if b.T < a.T then 1 else if a.R < b.R then -1 else if b.R < a.R then 1 else 0
def rightS (s:St):Bool:=decide (1 ≤ s.T) && decide (s.T ≤ 1099511627776) && decide (1 ≤ s.R) && decide (s.R ≤ 65536)
def nameOk (l:List UInt8):Bool:=decide (1 ≤ l.length) && decide (l.length ≤ 60) && decide (l ≠ [46]) && decide (l ≠ [46,46]) && l.all fun b=>decide (b ≠ 0) && decide (b ≠ 47) && decide (b ≠ 10)
def fixedS (s:St):Bool:=decide (s.T = 0) && (decide (s.R = 0) || decide (s.R = 1))
def riseB {α:Type} (cf:α → α → Int):List α → Bool
 | x :: y :: l=>decide (cf x y < 0) && riseB cf (y :: l)
 | _=>true
def moveOk (o:Opn):Bool:=decide (cmpS o.Node o.At ≤ 0) && (rightS o.Parent || fixedS o.Parent) && nameOk o.Name && decide (o.Data = zID) && decide (o.Over.length = 0)
def editOk (o:Opn):Bool:=decide (cmpS o.Node o.At < 0) && decide (o.Parent = zSt) && decide (o.Name = []) && decide (o.Data ≠ zID) && decide (o.Over.length ≤ 64) && (o.Over.all fun s=>rightS s && decide (cmpS s o.At < 0)) && riseB cmpS o.Over
def goodOp (o:Opn):Bool:=rightS o.At && rightS o.Node && (if o.Kind = 1 then moveOk o else if o.Kind = 2 then editOk o else false)
def rightIt (x:It):Bool:=rightS x.Node && rightS x.At && decide (0 ≤ cmpS x.At x.Node) && nameOk x.Name && decide (x.Heads.length ≤ 1000) && (x.Heads.all fun h=>rightS h.At && decide (0 < cmpS h.At x.Node) && decide (h.Data ≠ zID)) && riseB (fun a b:Hd=>cmpS a.At b.At) x.Heads
def rightDr (l:List It):Bool:=decide (l.length ≤ 1000) && l.all rightIt && riseB (fun a b:It=>cmpS a.Node b.Node) l
/-! bytes -/
def stB (s:St):List UInt8:=numB s.T.toNat ++ numB s.R.toNat
def txB (l:List UInt8):List UInt8:=numB l.length ++ l
def hdB (h:Hd):List UInt8:=stB h.At ++ h.Data.1
def itB (x:It):List UInt8:=stB x.Node ++ stB x.At ++ txB x.Name ++ x.Sub.1 ++ numB x.Heads.length ++ x.Heads.flatMap hdB
def drB (l:List It):List UInt8:=2 :: numB l.length ++ l.flatMap itB
def opB (o:Opn):List UInt8:=if goodOp o then numB o.Kind.toNat ++ stB o.At ++ stB o.Node ++ (if o.Kind = 1 then stB o.Parent ++ txB o.Name else o.Data.1 ++ numB o.Over.length ++ o.Over.flatMap stB) else []
/-! reading -/
def rdTake (n:Nat) (s:RS):List UInt8 × RS:=if s.2 = true ∨ s.1.length < n then ([],([],true)) else (s.1.take n,(s.1.drop n,false))
def rdText (most:Nat) (s:RS):List UInt8 × RS:=rdTake (rdNum most s).1 (rdNum most s).2
def idOf (l:List UInt8):ID:=if h:l.length = 32 then ⟨l,h⟩ else zID
def rdId (s:RS):ID × RS:=(idOf (rdTake 32 s).1,(rdTake 32 s).2)
def rdSt (s:RS):St × RS:=(⟨(rdNum 1099511627776 s).1,(rdNum 65536 (rdNum 1099511627776 s).2).1⟩,(rdNum 65536 (rdNum 1099511627776 s).2).2)
def rdMany {α:Type} (f:RS → α × RS):Nat → RS → List α × RS
 | 0,s=>([],s)
 | n + 1,s=>if (f s).2.2 = true then ([(f s).1],(f s).2) else ((f s).1 :: (rdMany f n (f s).2).1,(rdMany f n (f s).2).2)
def rdAll {α:Type} (f:RS → α × RS):Nat → RS → List α × RS
 | 0,s=>([],s)
 | n + 1,s=>((f s).1 :: (rdAll f n (f s).2).1,(rdAll f n (f s).2).2)
def rdHd (s:RS):Hd × RS:=(⟨(rdSt s).1,(rdId (rdSt s).2).1⟩,(rdId (rdSt s).2).2)
def rdIt (s:RS):It × RS :=
 let a:=rdSt s
 let b:=rdSt a.2
 let c:=rdText 60 b.2
 let d:=rdId c.2
 let n:=rdNum 1000 d.2
 let hs:=rdMany rdHd n.1 n.2
 (⟨a.1,b.1,c.1,d.1,hs.1⟩,hs.2)
def openR (b:List UInt8) (k:UInt8):RS:=match b with
 | []=>([],true)
 | c :: l=>if c = k then (l,false) else ([],true)
def rdDr (b:List UInt8):Option (List It) :=
 let n:=rdNum 1000 (openR b 2)
 let x:=rdMany rdIt n.1 n.2
 if x.2 = ([],false) ∧ rightDr x.1 = true then some x.1 else none
def rdOp0 (s:RS):Opn × RS :=
 let k:=rdNum 2 s
 let a:=rdSt k.2
 let b:=rdSt a.2
 if k.1 = 1 then
  let p:=rdSt b.2
  let t:=rdText 60 p.2
  (⟨k.1,a.1,b.1,p.1,t.1,zID,[]⟩,t.2)
 else
  let d:=rdId b.2
  let n:=rdNum 64 d.2
  let l:=rdAll rdSt n.1 n.2
  (⟨k.1,a.1,b.1,zSt,[],d.1,l.1⟩,l.2)
def rdOp (s:RS):Opn × RS:=if (rdOp0 s).2.2 = true ∨ goodOp (rdOp0 s).1 = false then (zOp,([],true)) else rdOp0 s
structure RwP where
 Node:St
 Parent:St
 At:St
 Name:List UInt8
 Heads:List Hd
def trS:St:=⟨0,1⟩
def lastS:St:=⟨1099511627776,65536⟩
def itR (r:RwP) (sub:ID):It:=⟨r.Node,r.At,r.Name,sub,r.Heads⟩
def rightR (r:RwP):Bool:=rightDr [itR r zID] && decide (r.Node ≠ lastS)
def findR (rs:List RwP) (s:St):Option RwP:=rs.find? fun r=>decide (r.Node = s)
def reach (rs:List RwP):Nat → St → Bool
 | 0,s=>fixedS s
 | k + 1,s=>fixedS s || match findR rs s with
  | none=>false
  | some r=>reach rs k r.Parent
def riseR (rs:List RwP):Bool:=riseB (fun a b:RwP=>cmpS a.Node b.Node) rs
structure TreeOk (rs:List RwP):Prop where
 len:rs.length ≤ 5000
 ok:∀ r ∈ rs,rightR r = true
 rise:riseR rs = true
 up:∀ r ∈ rs,∃ k,reach rs k r.Node = true
theorem findR_some {rs:List RwP} {s:St} {r:RwP} (h:findR rs s = some r):r ∈ rs ∧ r.Node = s:=by
 unfold findR at h
 exact ⟨List.mem_of_find?_eq_some h,by simpa using List.find?_some h⟩
theorem findR_mem {rs:List RwP} (hn:(rs.map (·.Node)).Nodup) {r:RwP} (h:r ∈ rs):findR rs r.Node = some r:=by
 induction rs with
 | nil=>cases h
 | cons x rs ih =>
  unfold findR at ih ⊢
  rw [List.find?_cons]
  simp only [List.map_cons,List.nodup_cons] at hn
  rcases List.mem_cons.1 h with rfl | h
  ·simp
  ·have:x.Node ≠ r.Node:=fun e=>hn.1 (by rw [e];exact List.mem_map.2 ⟨r,h,rfl⟩)
   simp only [this,decide_false]
   exact ih hn.2 h
theorem cmpS_trans {a b c:St} (h1:cmpS a b < 0) (h2:cmpS b c < 0):cmpS a c < 0:=by
 unfold cmpS at *
 repeat' split at h1
 all_goals repeat' split at h2
 all_goals (repeat' split) <;> omega
theorem cmpS_self (a:St):cmpS a a = 0:=by unfold cmpS;simp
theorem cmpS_zero {a b:St}:cmpS a b = 0 ↔ a = b:=by
 constructor
 ·intro h
  unfold cmpS at h
  cases a with | mk t r =>
  cases b with | mk t' r' =>
  simp only at h
  simp only [St.mk.injEq]
  repeat' split at h
  all_goals omega
 ·rintro rfl;exact cmpS_self a
theorem cmpS_flip (a b:St):cmpS b a = - cmpS a b:=by
 unfold cmpS
 repeat' split
 all_goals omega
theorem riseB_pw {α:Type} (cf:α → α → Int) (ht:∀ a b c,cf a b < 0 → cf b c < 0 → cf a c < 0):∀ l:List α,riseB cf l = true ↔ l.Pairwise (fun a b=>cf a b < 0)
 | []=>by simp [riseB]
 | [x]=>by simp [riseB]
 | x :: y :: l=>by
  have ih:=riseB_pw cf ht (y :: l)
  unfold riseB
  rw [Bool.and_eq_true,ih,decide_eq_true_eq,List.pairwise_cons (a:=x)]
  constructor
  ·rintro ⟨h1,h2⟩
   refine ⟨fun z hz=>?_,h2⟩
   rcases List.mem_cons.1 hz with rfl | hz
   ·exact h1
   ·exact ht _ _ _ h1 ((List.pairwise_cons.1 h2).1 z hz)
  ·rintro ⟨h1,h2⟩
   exact ⟨h1 y (by simp),h2⟩
theorem riseR_pw {rs:List RwP} (h:riseR rs = true):rs.Pairwise (fun a b=>cmpS a.Node b.Node < 0):=(riseB_pw (fun a b:RwP=>cmpS a.Node b.Node) (fun _ _ _=>cmpS_trans) rs).1 h
theorem riseR_nd {rs:List RwP} (h:riseR rs = true):(rs.map (·.Node)).Nodup:=by
 have:=riseR_pw h
 rw [List.Nodup,List.pairwise_map]
 refine this.imp fun {a b} hab e=>?_
 rw [e,cmpS_self] at hab
 omega
theorem TreeOk.nd {rs:List RwP} (h:TreeOk rs):(rs.map (·.Node)).Nodup:=riseR_nd h.rise
theorem reach_succ {rs:List RwP}:∀ (k:Nat) (s:St),reach rs k s = true → reach rs (k + 1) s = true
 | 0,s,h=>by unfold reach at h ⊢;simp [h]
 | k + 1,s,h=>by
  unfold reach at h ⊢
  rw [Bool.or_eq_true] at h ⊢
  rcases h with h | h
  ·exact .inl h
  ·refine .inr ?_
   cases hf:findR rs s with
   | none=>rw [hf] at h;cases h
   | some r=>rw [hf] at h;exact reach_succ k _ h
theorem reach_le {rs:List RwP} {k j:Nat} {s:St} (h:reach rs k s = true) (hj:k ≤ j):reach rs j s = true:=by
 induction hj with
 | refl=>exact h
 | step _ ih=>exact reach_succ _ _ ih
def wayR (rs:List RwP):Nat → St → List St
 | 0,_=>[]
 | k + 1,s=>if fixedS s then [] else match findR rs s with
  | none=>[]
  | some r=>s :: wayR rs k r.Parent
theorem wayR_min {rs:List RwP}:∀ (k:Nat) (s:St),reach rs k s = true → (∀ j,j < k → reach rs j s = false) →
  (wayR rs k s).length = k ∧ (wayR rs k s).Nodup ∧ (∀ t ∈ wayR rs k s,t ∈ rs.map (·.Node)) ∧ ∀ t ∈ wayR rs k s,∃ i,i ≤ k ∧ reach rs i t = true
 | 0,s,_,_=>⟨rfl,by simp [wayR],by simp [wayR],by simp [wayR]⟩
 | k + 1,s,h,hm=>by
  have h0:fixedS s = false:=hm 0 (by omega)
  have h':=h
  unfold reach at h
  rw [h0,Bool.false_or] at h
  cases hf:findR rs s with
  | none=>rw [hf] at h;cases h
  | some r =>
   rw [hf] at h
   simp only at h
   have hm':∀ j,j < k → reach rs j r.Parent = false:=fun j hj=>by
    cases hr:reach rs j r.Parent with
    | false=>rfl
    | true =>
     have:=hm (j + 1) (by omega)
     unfold reach at this
     rw [h0,hf,Bool.false_or] at this
     simp only at this
     rw [hr] at this;cases this
   obtain ⟨i1,i2,i3,i4⟩:=wayR_min k r.Parent h hm'
   have e:wayR rs (k + 1) s = s :: wayR rs k r.Parent:=by
    show (if fixedS s then [] else match findR rs s with | none=>[] | some r=>s :: wayR rs k r.Parent) = _
    rw [h0,hf];rfl
   rw [e]
   refine ⟨by simp [i1],?_,?_,?_⟩
   ·rw [List.nodup_cons]
    refine ⟨fun hx=>?_,i2⟩
    obtain ⟨i,hi,hr⟩:=i4 s hx
    have:=hm i (by omega)
    rw [hr] at this;cases this
   ·intro t ht
    rcases List.mem_cons.1 ht with rfl | ht
    ·obtain ⟨h1,h2⟩:=findR_some hf
     exact List.mem_map.2 ⟨r,h1,h2⟩
    ·exact i3 t ht
   ·intro t ht
    rcases List.mem_cons.1 ht with rfl | ht
    ·exact ⟨k + 1,Nat.le_refl _,h'⟩
    ·obtain ⟨i,hi,hr⟩:=i4 t ht
     exact ⟨i,by omega,hr⟩
theorem nd_leS {α:Type} [DecidableEq α]:∀ (l m:List α),l.Nodup → (∀ x ∈ l,x ∈ m) → l.length ≤ m.length
 | [],m,_,_=>by simp
 | x :: l,m,hn,hm=>by
  rw [List.nodup_cons] at hn
  have hx:=hm x (by simp)
  have:=nd_leS l (m.erase x) hn.2 (fun y hy=>(List.mem_erase_of_ne (fun e=>hn.1 (by rw [← e];exact hy))).2 (hm y (by simp [hy])))
  rw [List.length_erase_of_mem hx] at this
  have:=List.length_pos_of_mem hx
  simp only [List.length_cons]
  omega
theorem reach_len {rs:List RwP} {k:Nat} {s:St} (h:reach rs k s = true):reach rs rs.length s = true:=by
 induction k using Nat.strongRecOn with
 | ind k ih =>
  by_cases hm:∀ j,j < k → reach rs j s = false
  ·obtain ⟨h1,h2,h3,_⟩:=wayR_min k s h hm
   have:=nd_leS _ _ h2 h3
   rw [h1,List.length_map] at this
   exact reach_le h this
  ·simp only [Classical.not_forall] at hm
   obtain ⟨j,hj,hr⟩:=hm
   exact ih j hj (by cases e:reach rs j s with | true=>rfl | false=>exact absurd e hr)
theorem rightR_T {r:RwP} (h:rightR r = true):r.Node.T ≠ 0:=by
 unfold rightR rightDr at h
 simp only [Bool.and_eq_true,List.all_cons,List.all_nil] at h
 have:=h.1.1.2.1
 unfold rightIt at this
 simp only [Bool.and_eq_true] at this
 have:=this.1.1.1.1.1.1
 unfold rightS itR at this
 simp only [Bool.and_eq_true,decide_eq_true_eq] at this
 omega
theorem TreeOk.T {rs:List RwP} (h:TreeOk rs):∀ r ∈ rs,r.Node.T ≠ 0:=fun r hr=>rightR_T (h.ok r hr)
end Go.Proofs.YtnkdnbjmhoegkaaGreat
