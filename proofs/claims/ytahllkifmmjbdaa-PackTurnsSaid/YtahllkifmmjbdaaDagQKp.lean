/- IDs: 32 bytes by value. The walk never looks into one: rules on loads, stores, boxes, sameness. Contracts: the order of IDs (sha.Cmp, bytes.Compare). Plain: stamps, operations, items, commits, tags; when they are right; their bytes; how they are read. Plain: rows of a tree; ways up from row to row; places; names from the root. Plain: commits and their parents. Plain: ancestors. -/
import Derived.Test.YtahllkifmmjbdaaProg
import Derived.Test.YtahllkifmmjbdaaMemKp
import Derived.Deep.MidRow
import Derived.Deep.WholeRow
import Derived.Stop.BytesEq
import Derived.WalkSpells
import Derived.Outline
import Derived.Lib.Bytealg
import Derived.Lib.BytesEntry
import Derived.Sort.Grow
import Derived.Deep.QuietTactic
import Derived.BigQuiet
import Derived.Test.YtahllkifmmjbdaaDeltaPKp
set_option linter.unusedVariables false
set_option linter.unusedSimpArgs false
namespace Go.Proofs.Ytahllkifmmjbdaa
open Go.RowKit
def ID:Type:={ l:List UInt8 // l.length = 32 }
instance:DecidableEq ID:=inferInstanceAs (DecidableEq { l:List UInt8 // l.length = 32 })
@[irreducible] def idA (x:ID):Array Value:=(bv x.1).toArray
theorem idA_eq (x:ID):idA x = (bv x.1).toArray:=by unfold idA;rfl
abbrev encI (x:ID):Value:=.agg (idA x)
abbrev ido (x:ID):Obj:=.cells (idA x) 37
def zID:ID:=⟨List.replicate 32 0,rfl⟩
instance:Inhabited ID:=⟨zID⟩
theorem u8v_inj {a b:UInt8} (h:u8v a = u8v b):a = b:=by
 unfold u8v at h
 injection h with _ h
 exact UInt8.toNat_inj.1 (by omega)
theorem bv_inj {l m:List UInt8} (h:bv l = bv m):l = m:=by
 induction l generalizing m with
 | nil=>cases m with
  | nil=>rfl
  | cons b m=>simp [bv] at h
 | cons a l ih=>cases m with
  | nil=>simp [bv] at h
  | cons b m =>
   rw [bv_cons,bv_cons] at h
   injection h with h1 h2
   rw [u8v_inj h1,ih h2]
theorem encI_inj {x y:ID} (h:encI x = encI y):x = y:=by
 injection h with h
 rw [idA_eq,idA_eq] at h
 exact Subtype.ext (bv_inj (by simpa using congrArg Array.toList h))
def Rd (w:World) (b o:Nat) (x:ID):Prop:=w.rangeAt b o (bv x.1)
theorem Rd.uniq {w:World} {b o:Nat} {x y:ID} (hx:Rd w b o x) (hy:Rd w b o y):x = y:=by
 refine Subtype.ext (bv_inj (List.ext_getElem? fun j=>?_))
 by_cases hj:j < 32
 ·have ex:(bv x.1)[j]? = some ((bv x.1)[j]'(by simp [x.2];exact hj)):=List.getElem?_eq_getElem _
  have ey:(bv y.1)[j]? = some ((bv y.1)[j]'(by simp [y.2];exact hj)):=List.getElem?_eq_getElem _
  have:=(hx j _ ex).symm.trans (hy j _ ey)
  rw [ex,ey,this]
 ·rw [List.getElem?_eq_none (by simp [x.2];omega),List.getElem?_eq_none (by simp [y.2];omega)]
open Classical in
noncomputable def rdI (w:World) (b o:Nat):Option ID:=if h:∃ x,Rd w b o x then some h.choose else none
theorem Rd.rdI {w:World} {b o:Nat} {x:ID} (h:Rd w b o x):rdI w b o = some x:=by
 unfold Go.Proofs.Ytahllkifmmjbdaa.rdI
 have hx:∃ x,Rd w b o x:=⟨x,h⟩
 rw [dif_pos hx]
 exact congrArg some (hx.choose_spec.uniq h)
theorem rdI_rd {w:World} {b o:Nat} {x:ID} (h:rdI w b o = some x):Rd w b o x:=by
 unfold rdI at h
 split at h
 ·rename_i hx
  injection h with h
  rw [← h];exact hx.choose_spec
 ·cases h
theorem rdI_congr {w w':World} {b o o':Nat} (h:∀ x,Rd w b o x ↔ Rd w' b o' x):rdI w b o = rdI w' b o':=by
 cases hx:rdI w b o with
 | some x=>exact ((h x).1 (rdI_rd hx)).rdI.symm
 | none =>
  cases hy:rdI w' b o' with
  | none=>rfl
  | some y=>rw [((h y).2 (rdI_rd hy)).rdI] at hx;cases hx
theorem Rd.keep {w w':World} {b o:Nat} {x:ID} (h:Rd w b o x) (hb:w'.heap[b]? = w.heap[b]?):Rd w' b o x:=fun j v hv=>(World.cell?_of_block (a:=⟨b,o + j,none⟩) hb).trans (h j v hv)
theorem rdI_keep {w w':World} {b o:Nat} (hb:w'.heap[b]? = w.heap[b]?):rdI w' b o = rdI w b o:=rdI_congr fun x=>⟨fun h=>h.keep hb.symm,fun h=>h.keep hb⟩
theorem rdI_fr {M:Nat → Prop} {w w':World} {b o:Nat} {x:ID} (h:rdI w b o = some x) (hl:b < w.heap.size) (f:Fr M w w') (hM:¬ M b):rdI w' b o = some x:=(rdI_keep (f.block b hl hM)).trans h
theorem Rd.lt {w:World} {b o:Nat} {x:ID} (h:Rd w b o x):b < w.heap.size:=by
 have hl:0 < (bv x.1).length:=by simp [x.2]
 exact World.block_lt_of_cell? _ _ (h 0 _ (List.getElem?_eq_getElem hl))
theorem rdI_lt {w:World} {b o:Nat} {x:ID} (h:rdI w b o = some x):b < w.heap.size:=(rdI_rd h).lt
@[simp] theorem rdI_drewN (w:World) (n b o:Nat):rdI (w.drewN n) b o = rdI w b o:=rdI_keep rfl
@[simp] theorem rdI_new (w:World) (x:ID):rdI (w.alloc (ido x)) w.heap.size 0 = some x:=by
 refine Rd.rdI fun j v hv=>?_
 have hh:(w.alloc (ido x)).heap[w.heap.size]? = some (ido x):=heap_alloc_new w _
 simp only [ido,idA_eq] at hh ⊢
 rw [Nat.zero_add,cell_of_row _ _ j (bv x.1).toArray 37 (0,0) hh]
 simpa using hv
@[simp] theorem rdI_old (w:World) (ob:Obj) (b o:Nat) (h:b < w.heap.size):rdI (w.alloc ob) b o = rdI w b o:=rdI_keep (heap_alloc_old w ob h)
theorem infoID:(Try.prog.info? 37).map (·.size) = some 32:=by kernel_rfl
theorem infoArr:(Try.prog.info? 36).map (·.size) = some 32:=by kernel_rfl
noncomputable def ldElse (t:TypeId) (w:World) (b o:Nat):Result Value:=(Instr.loadAt t (.pointer (some ⟨b,o,none⟩))).run Try.prog w
@[simp] theorem ld_id (w:World) (b o:Nat):(Instr.loadAt 37 (.pointer (some ⟨b,o,none⟩))).run Try.prog w = match rdI w b o with | some x=>.ok (encI x) w | none=>ldElse 37 w b o:=by
 cases h:rdI w b o with
 | none=>rfl
 | some x =>
  simp only [encI,idA_eq]
  exact run_loadAt_mid w b o 37 (bv x.1) _ (rdI_rd h) Try.underlying37 rfl (by rw [bv_length,x.2];exact infoID)
@[simp] theorem ld_arr (w:World) (b o:Nat):(Instr.loadAt 36 (.pointer (some ⟨b,o,none⟩))).run Try.prog w = match rdI w b o with | some x=>.ok (encI x) w | none=>ldElse 36 w b o:=by
 cases h:rdI w b o with
 | none=>rfl
 | some x =>
  simp only [encI,idA_eq]
  exact run_loadAt_mid w b o 36 (bv x.1) _ (rdI_rd h) Try.underlying36 rfl (by rw [bv_length,x.2];exact infoArr)
theorem ex_ld_id {ρ:Operand → Value} {o:Oper} {a:Operand} {w:World} {b off:Nat} {x:ID} (ho:o.op = .load 37 a) (ha:ρ a = .pointer (some ⟨b,off,none⟩)) (hr:rdI w b off = some x) :
  (execOp ρ o).run Try.prog w = .ok (.value (encI x)) w:=by
 have h:=ld_id w b off
 rw [hr] at h
 unfold execOp
 simp only [ho,ha,Sem.run_bind,h,Result.andThen_ok,Sem.run_pure]
@[irreducible] noncomputable def exElse (ρ:Operand → Value) (o:Oper) (w:World):Result Next:=(execOp ρ o).run Try.prog w
noncomputable def ldI (w:World) (v:Value) (r:Result Next):Result Next:=match v with
 | .pointer (some ⟨b,off,none⟩)=>(match rdI w b off with | some x=>.ok (.value (encI x)) w | none=>r)
 | _=>r
@[simp] theorem ldI_at (w:World) (b off:Nat) (r:Result Next):ldI w (.pointer (some ⟨b,off,none⟩)) r = match rdI w b off with | some x=>.ok (.value (encI x)) w | none=>r:=rfl
theorem ex_ld_op (ρ:Operand → Value) (o:Oper) (a:Operand) (ho:o.op = .load 37 a) (w:World):(execOp ρ o).run Try.prog w = ldI w (ρ a) (exElse ρ o w):=by
 have he:exElse ρ o w = (execOp ρ o).run Try.prog w:=by unfold exElse;rfl
 rw [he]
 unfold ldI
 split
 ·rename_i b off hv
  cases h:rdI w b off with
  | none=>rfl
  | some x=>exact ex_ld_id ho hv h
 ·rfl
@[simp ↓] theorem ex_ld (ρ:Operand → Value) (d:Option Nat) (a:Operand) (t:TypeId) (p:String) (f:Array Edge) (g:Option (Nat × Bool)) (w:World) :
  (execOp ρ { dst:=d,op:=.load 37 a,type:=t,pos:=p,after:=f,guard:=g }).run Try.prog w = ldI w (ρ a) (exElse ρ { dst:=d,op:=.load 37 a,type:=t,pos:=p,after:=f,guard:=g } w):=ex_ld_op ρ _ a rfl w
@[simp] theorem bx_id (w:World) (x:ID):(Instr.box 37 (encI x)).run Try.prog w = .ok (.pointer (some ⟨w.heap.size,0,none⟩)) (w.alloc (ido x)):=by
 simp [Instr.box,newVar,newRow,newObj,Value.cells,Sem.run,Result.andThen]
theorem zeroID (w:World):(zeroValue 37).run Try.prog w = .ok (encI zID) w:=by
 simp only [encI,idA_eq]
 exact (zero_of_info (P:=Try.prog) (t:=37) (v:=.agg (bv zID.1).toArray) (n:=32) (by kernel_rfl)).1 w
@[simp] theorem al_id (w:World):(Instr.alloc 37 true (.tuple #[])).run Try.prog w = .ok (.pointer (some ⟨w.heap.size,0,none⟩)) (w.alloc (ido zID)):=by
 have:=bx_id w zID
 simp only [Instr.alloc,Sem.run_bind,zeroID,Result.andThen_ok]
 exact this
/-! at the operations: rules that are met ahead of the kit's -/
@[simp ↓] theorem ex_al (ρ:Operand → Value) (d:Option Nat) (t:TypeId) (p:String) (f:Array Edge) (g:Option (Nat × Bool)) (w:World) :
  (execOp ρ { dst:=d,op:=.alloc 37,type:=t,pos:=p,after:=f,guard:=g }).run Try.prog w = .ok (.value (.pointer (some ⟨w.heap.size,0,none⟩))) (w.alloc (ido zID)):=by
 unfold execOp
 simp only [Sem.run_bind,al_id,Result.andThen_ok,Sem.run_pure]
@[irreducible] noncomputable def stI (w:World) (v u:Value):Result Next:=((Instr.storeAt 37 v u).run Try.prog w).andThen (fun _ w=>.ok .skip w)
@[simp ↓] theorem ex_st (ρ:Operand → Value) (a x:Operand) (d:Option Nat) (t:TypeId) (p:String) (f:Array Edge) (g:Option (Nat × Bool)) (w:World) :
  (execOp ρ { dst:=d,op:=.store 37 a x,type:=t,pos:=p,after:=f,guard:=g }).run Try.prog w = stI w (ρ a) (ρ x):=by
 unfold execOp stI
 simp only [Sem.run_bind,Sem.run_pure]
def idc (l:List ID):List Value:=l.flatMap fun x=>bv x.1
theorem idc_length (l:List ID):(idc l).length = l.length * 32:=by
 induction l with
 | nil=>rfl
 | cons x l ih=>simp only [idc,List.flatMap_cons,List.length_append,bv_length,x.2,List.length_cons] at ih ⊢;omega
theorem idc_append (l m:List ID):idc (l ++ m) = idc l ++ idc m:=by simp [idc]
theorem idc_one (l:List ID):∀ u ∈ idc l,u.oneCell' = true:=by
 intro u hu
 simp only [idc,List.mem_flatMap] at hu
 obtain ⟨x,_,hu⟩:=hu
 exact bv_one _ u hu
theorem idc_get (l:List ID) (i j:Nat) (hi:i < l.length) (v:Value) (hv:(bv (l[i]).1)[j]? = some v):(idc l)[i * 32 + j]? = some v:=by
 induction l generalizing i with
 | nil=>simp at hi
 | cons x l ih =>
  have hj:j < 32:=by
   have:=(List.getElem?_eq_some_iff.1 hv).1
   rw [bv_length] at this
   have h2:=((x :: l)[i]).2
   omega
  simp only [idc,List.flatMap_cons]
  cases i with
  | zero =>
   rw [List.getElem?_append_left (by simp [x.2];omega)]
   simpa using hv
  | succ i =>
   rw [List.getElem?_append_right (by simp [x.2];omega),bv_length,x.2]
   have:=ih i (by simpa using hi) (by simpa using hv)
   rw [show (i + 1) * 32 + j - 32 = i * 32 + j by omega]
   exact this
theorem Sl.id {w:World} {g off:Nat} {l:List ID} (h:Sl w (some ⟨g,off,none⟩) (idc l)) (i:Nat) (hi:i < l.length):rdI w g (off + i * 32) = some l[i]:=by
 refine Rd.rdI fun j v hv=>?_
 have hne:idc l ≠ []:=by intro h0;have:=idc_length l;rw [h0] at this;simp at this;omega
 obtain ⟨g',off',e,_,hc⟩:=h hne
 injection e with e
 injection e with e1 e2
 subst e1;subst e2
 have:=hc _ v (idc_get l i j hi v hv)
 rwa [← Nat.add_assoc] at this
end Go.Proofs.Ytahllkifmmjbdaa
namespace Go.Proofs.Ytahllkifmmjbdaa
open Go.RowKit Go.Sort
theorem load_id (w:World) (a:Nat) (x:ID) (hx:rdI w a 0 = some x):(Extern.Bytes.loadBytes ⟨a,0,none⟩ 32 .empty).run Try.prog w = .ok ⟨x.1.toArray⟩ w:=by
 have h:=Lib.run_loadBytesX (P:=Try.prog) w (x.1.map fun b=>(b.toNat:Int)) ⟨a,0,none⟩ .empty (fun j u hu=>by
  rw [Addr.add_mid]
  refine rdI_rd hx j _ ?_
  rw [List.getElem?_map] at hu
  simp only [bv,List.getElem?_map]
  cases hj:x.1[j]? with
  | none=>rw [hj] at hu;cases hu
  | some b=>rw [hj] at hu;simp only [Option.map_some,Option.some.injEq] at hu ⊢;rw [← hu];rfl)
 rw [List.length_map,x.2] at h
 rw [h]
 congr 1
 apply ByteArray.ext
 simp only [Lib.bytesOf,List.map_map]
 have e:(x.1.map ((fun n:Int=>n.toNat.toUInt8) ∘ fun b:UInt8=>(b.toNat:Int))) = x.1:=by
  conv=>rhs;rw [← List.map_id x.1]
  exact List.map_congr_left (fun b _=>by simp)
 simpa using e
theorem bg_compare (w:World) (a b:Nat) (x y:ID) (hx:rdI w a 0 = some x) (hy:rdI w b 0 = some y) :
  (callFunc 77 #[.slice (some ⟨a,0,none⟩) 32 32,.slice (some ⟨b,0,none⟩) 32 32]).run Try.prog w = .ok (.value (.int .i64 (Lib.compareBytes x.1 y.1))) w:=by
 rw [run_callFunc_extern Try.func77 (by kernel_rfl) (by kernel_rfl) (by kernel_rfl) (e:=Extern.BytealgCompare.compare) (by kernel_rfl)]
 show (((do pure (goInt (Extern.BytealgCompare.cmp (← Extern.Bytes.bytesOf (.slice (some ⟨a,0,none⟩) 32 32)) (← Extern.Bytes.bytesOf (.slice (some ⟨b,0,none⟩) 32 32)))):Sem Value)).run Try.prog w).andThen _ = _
 simp only [Extern.Bytes.bytesOf,Sem.run_bind,load_id w a x hx,load_id w b y hy,Result.andThen_ok,Sem.run_pure,Lib.cmp_eq]
 rfl
theorem bcompare_any (w:World) (a b:Nat) (x y:ID) (hx:rdI w a 0 = some x) (hy:rdI w b 0 = some y) :
  Calls Try.prog 65 #[.slice (some ⟨a,0,none⟩) 32 32,.slice (some ⟨b,0,none⟩) 32 32] w fun e w'=>e = .returned (.int .i64 (Lib.compareBytes x.1 y.1)) ∧ w = w':=by
 have hc:=bg_compare w a b x y hx hy
 go_enter Try.func65,Try.ntmps65
 go_wp2
 go_ret
 exact ⟨rfl,rfl⟩
def cmpI (x y:ID):Int:=Lib.compareBytes x.1 y.1
def CmpTo (w:World) (v:Int) (e:Ending) (w':World):Prop:=e = .returned (.int .i64 v) ∧ ∃ q os,w' = grow (w.drewN q) os
theorem cmp_any (w:World) (x y:ID):Calls Try.prog 41 #[encI x,encI y] w (CmpTo w (cmpI x y)):=by
 go_enter Try.func41,Try.ntmps41
 go_wp2
 have r1:rdI ((w.alloc (ido x)).alloc (ido y)) w.heap.size 0 = some x:=by rw [rdI_old _ _ _ _ (by simp),rdI_new]
 have r2:rdI ((w.alloc (ido x)).alloc (ido y)) (w.heap.size + 1) 0 = some y:=by
  have:=rdI_new (w.alloc (ido x)) y
  rwa [World.size_alloc] at this
 go_quiet ((go_at_call 65;exact Calls.quiet_of_same ((bcompare_any _ _ _ x y (by rw [rdI_drewN];exact r1) (by rw [rdI_drewN];exact r2)).mono (fun _ _ h=>⟨h.1,h.2.symm⟩))))
 go_wp2
 go_ret
 refine ⟨rfl,nq,#[ido x,ido y],?_⟩
 rw [alloc_eq_grow,alloc_eq_grow,grow_grow]
 rfl
theorem CmpTo.fr {w w':World} {v:Int} {e:Ending} (h:CmpTo w v e w'):Fr noB w w':=by
 obtain ⟨_,q,os,rfl⟩:=h
 refine ⟨rfl,rfl,rfl,by simp [grow,World.drewN],fun k hk _=>?_⟩
 simp [grow,World.drewN,Array.getElem?_append_left hk]
/-! rows of IDs -/
theorem ET.mkI' {P:Program} {t e:TypeId} {z:Value} {size bytes:Nat} (ht:P.underlying t = some (.slice e))
  (h:(P.info? e).map (fun i=>(i.zero,i.size,i.bytes)) = some (some z,size,bytes)) (hz:z.cells.size = size) (hs:0 < size) (hb:0 < bytes):ET P t e size bytes:=by
 obtain ⟨i,h1,h2,h3,h4⟩:=info_parts h
 exact ⟨ht,⟨i,z,h1,h2,h3,h4,hz⟩,hs,hb⟩
theorem etIDs:ET Try.prog 40 37 32 32:=ET.mkI' (z:=.agg (bv zID.1).toArray) Try.underlying40 (by kernel_rfl) (by simp [Value.cells,zID]) (by decide) (by decide)
abbrev OwnD (w0 w:World) (A:Option Addr) (c:Nat) (l:List ID):Prop:=w.ownsRow w0.heap.size 37 32 (.slice A l.length c) l.length (idc l)
end Go.Proofs.Ytahllkifmmjbdaa
namespace Go.Proofs.Ytahllkifmmjbdaa
structure St where
 T:Int
 R:Int
deriving DecidableEq
structure Hd where
 At:St
 Data:ID
structure It where
 Node:St
 At:St
 Name:List UInt8
 Sub:ID
 Heads:List Hd
structure Opn where
 Kind:Int
 At:St
 Node:St
 Parent:St
 Name:List UInt8
 Data:ID
 Over:List St
def zSt:St:=⟨0,0⟩
def cmpS (a b:St):Int:=if a.T < b.T then -1 else if b.T < a.T then 1 else if a.R < b.R then -1 else if b.R < a.R then 1 else 0
def rightS (s:St):Bool:=decide (1 ≤ s.T) && decide (s.T ≤ 1099511627776) && decide (1 ≤ s.R) && decide (s.R ≤ 65536)
def nameOk (l:List UInt8):Bool:=decide (1 ≤ l.length) && decide (l.length ≤ 60) && decide (l ≠ [46]) && decide (l ≠ [46,46]) && l.all fun b=>decide (b ≠ 0) && decide (b ≠ 47) && decide (b ≠ 10)
def fixedS (s:St):Bool:=decide (s.T = 0) && (decide (s.R = 0) || decide (s.R = 1))
def riseB {α:Type} (cf:α → α → Int):List α → Bool
 | x :: y :: l=>decide (cf x y < 0) && riseB cf (y :: l)
 | _=>true
def rightIt (x:It):Bool:=rightS x.Node && rightS x.At && decide (0 ≤ cmpS x.At x.Node) && nameOk x.Name && decide (x.Heads.length ≤ 1000) && (x.Heads.all fun h=>rightS h.At && decide (0 < cmpS h.At x.Node) && decide (h.Data ≠ zID)) && riseB (fun a b:Hd=>cmpS a.At b.At) x.Heads
def rightDr (l:List It):Bool:=decide (l.length ≤ 1000) && l.all rightIt && riseB (fun a b:It=>cmpS a.Node b.Node) l
/-! bytes -/
def txB (l:List UInt8):List UInt8:=numB l.length ++ l
/-! reading -/
def rdTake (n:Nat) (s:RS):List UInt8 × RS:=if s.2 = true ∨ s.1.length < n then ([],([],true)) else (s.1.take n,(s.1.drop n,false))
def rdText (most:Nat) (s:RS):List UInt8 × RS:=rdTake (rdNum most s).1 (rdNum most s).2
def idOf (l:List UInt8):ID:=if h:l.length = 32 then ⟨l,h⟩ else zID
def rdId (s:RS):ID × RS:=(idOf (rdTake 32 s).1,(rdTake 32 s).2)
def rdAll {α:Type} (f:RS → α × RS):Nat → RS → List α × RS
 | 0,s=>([],s)
 | n + 1,s=>((f s).1 :: (rdAll f n (f s).2).1,(rdAll f n (f s).2).2)
def openR (b:List UInt8) (k:UInt8):RS:=match b with
 | []=>([],true)
 | c :: l=>if c = k then (l,false) else ([],true)
structure RwP where
 Node:St
 Parent:St
 At:St
 Name:List UInt8
 Heads:List Hd
def lastS:St:=⟨1099511627776,65536⟩
def itR (r:RwP) (sub:ID):It:=⟨r.Node,r.At,r.Name,sub,r.Heads⟩
def rightR (r:RwP):Bool:=rightDr [itR r zID] && decide (r.Node ≠ lastS)
def findR (rs:List RwP) (s:St):Option RwP:=rs.find? fun r=>decide (r.Node = s)
def reach (rs:List RwP):Nat → St → Bool
 | 0,s=>fixedS s
 | k + 1,s=>fixedS s || match findR rs s with
  | none=>false
  | some r=>reach rs k r.Parent
def riseR (rs:List RwP):Bool:=riseB (fun a b:RwP=>cmpS a.Node b.Node) rs
structure TreeOk (rs:List RwP):Prop where
 len:rs.length ≤ 5000
 ok:∀ r ∈ rs,rightR r = true
 rise:riseR rs = true
 up:∀ r ∈ rs,∃ k,reach rs k r.Node = true
theorem cmpS_trans {a b c:St} (h1:cmpS a b < 0) (h2:cmpS b c < 0):cmpS a c < 0:=by
 unfold cmpS at *
 repeat' split at h1
 all_goals repeat' split at h2
 all_goals (repeat' split) <;> omega
theorem cmpS_self (a:St):cmpS a a = 0:=by unfold cmpS;simp
theorem riseB_pw {α:Type} (cf:α → α → Int) (ht:∀ a b c,cf a b < 0 → cf b c < 0 → cf a c < 0):∀ l:List α,riseB cf l = true ↔ l.Pairwise (fun a b=>cf a b < 0)
 | []=>by simp [riseB]
 | [x]=>by simp [riseB]
 | x :: y :: l=>by
  have ih:=riseB_pw cf ht (y :: l)
  unfold riseB
  rw [Bool.and_eq_true,ih,decide_eq_true_eq,List.pairwise_cons (a:=x)]
  constructor
  ·rintro ⟨h1,h2⟩
   refine ⟨fun z hz=>?_,h2⟩
   rcases List.mem_cons.1 hz with rfl | hz
   ·exact h1
   ·exact ht _ _ _ h1 ((List.pairwise_cons.1 h2).1 z hz)
  ·rintro ⟨h1,h2⟩
   exact ⟨h1 y (by simp),h2⟩
theorem riseR_pw {rs:List RwP} (h:riseR rs = true):rs.Pairwise (fun a b=>cmpS a.Node b.Node < 0):=(riseB_pw (fun a b:RwP=>cmpS a.Node b.Node) (fun _ _ _=>cmpS_trans) rs).1 h
theorem riseR_nd {rs:List RwP} (h:riseR rs = true):(rs.map (·.Node)).Nodup:=by
 have:=riseR_pw h
 rw [List.Nodup,List.pairwise_map]
 refine this.imp fun {a b} hab e=>?_
 rw [e,cmpS_self] at hab
 omega
theorem TreeOk.nd {rs:List RwP} (h:TreeOk rs):(rs.map (·.Node)).Nodup:=riseR_nd h.rise
theorem rightR_T {r:RwP} (h:rightR r = true):r.Node.T ≠ 0:=by
 unfold rightR rightDr at h
 simp only [Bool.and_eq_true,List.all_cons,List.all_nil] at h
 have:=h.1.1.2.1
 unfold rightIt at this
 simp only [Bool.and_eq_true] at this
 have:=this.1.1.1.1.1.1
 unfold rightS itR at this
 simp only [Bool.and_eq_true,decide_eq_true_eq] at this
 omega
theorem TreeOk.T {rs:List RwP} (h:TreeOk rs):∀ r ∈ rs,r.Node.T ≠ 0:=fun r hr=>rightR_T (h.ok r hr)
abbrev Dg:=List (ID × List ID)
def parents:Dg → ID → Option (List ID)
 | [],_=>none
 | (y,ps) :: g,x=>if x = y then some ps else parents g x
def hasG (g:Dg) (x:ID):Bool:=(parents g x).isSome
def ancG:Dg → ID → ID → Bool
 | [],_,_=>false
 | (z,ps) :: g,x,y=>if x = z then decide (y = z) || ps.any (fun p=>ancG g p y) else ancG g x y
def asc:List ID → Bool
 | x :: y :: l=>decide (cmpI x y < 0) && asc (y :: l)
 | _=>true
def rightL (x:ID) (ps:List ID):Bool:=asc ps && decide (x ≠ zID) && decide (ps.length ≤ 2)
def okG:Dg → Prop
 | []=>True
 | (y,ps) :: g=>rightL y ps = true ∧ hasG g y = false ∧ (∀ p ∈ ps,hasG g p = true) ∧ okG g
theorem hasG_mem (g:Dg) (x:ID):hasG g x = true ↔ x ∈ g.map (·.1):=by
 induction g with
 | nil=>simp [hasG,parents]
 | cons p g ih =>
  unfold hasG at ih ⊢
  by_cases h:x = p.1
  ·simp [parents,h]
  ·simp [parents,h,ih]
theorem okG_par {g:Dg} (h:okG g) {x:ID} {ps:List ID} (hp:parents g x = some ps):(∀ p ∈ ps,hasG g p = true) ∧ ps.length ≤ 2 ∧ asc ps = true:=by
 induction g with
 | nil=>cases hp
 | cons q g ih =>
  obtain ⟨h1,h2,h3,h4⟩:=h
  have up:∀ p,hasG g p = true → hasG (q :: g) p = true:=fun p hq=>by
   rw [hasG_mem] at hq ⊢;exact List.mem_cons_of_mem _ hq
  unfold parents at hp
  split at hp
  ·injection hp with hp
   subst hp
   simp only [rightL,Bool.and_eq_true,decide_eq_true_eq] at h1
   exact ⟨fun p hq=>up p (h3 p hq),h1.2,h1.1.1⟩
  ·obtain ⟨a,b⟩:=ih h4 hp
   exact ⟨fun p hq=>up p (a p hq),b⟩
theorem hasG_cons (z:ID) (ps:List ID) (g:Dg) (x:ID):hasG ((z,ps) :: g) x = (decide (x = z) || hasG g x):=by
 unfold hasG
 by_cases h:x = z <;> simp [parents,h]
theorem anc_refl {g:Dg} {x:ID} (h:hasG g x = true):ancG g x x = true:=by
 induction g with
 | nil=>cases h
 | cons q g ih =>
  obtain ⟨z,ps⟩:=q
  rw [hasG_cons] at h
  unfold ancG
  by_cases e:x = z
  ·simp [e]
  ·simp only [e,if_false]
   exact ih (by simpa [e] using h)
theorem anc_has {g:Dg} (hk:okG g) {x y:ID} (h:ancG g x y = true):hasG g x = true ∧ hasG g y = true:=by
 induction g generalizing x with
 | nil=>cases h
 | cons q g ih =>
  obtain ⟨z,ps⟩:=q
  obtain ⟨h1,h2,h3,h4⟩:=hk
  rw [hasG_cons,hasG_cons]
  unfold ancG at h
  by_cases e:x = z
  ·simp only [e,if_true,Bool.or_eq_true,decide_eq_true_eq,List.any_eq_true] at h
   rcases h with h | ⟨p,_,hp⟩
   ·simp [e,h]
   ·simp [e,(ih h4 hp).2]
  ·simp only [e,if_false] at h
   simp [(ih h4 h).1,(ih h4 h).2]
theorem anc_step {g:Dg} (hk:okG g) {x y p:ID} {ps:List ID} (h:ancG g x y = true) (hp:parents g y = some ps) (hm:p ∈ ps):ancG g x p = true:=by
 induction g generalizing x with
 | nil=>cases h
 | cons q g ih =>
  obtain ⟨z,qs⟩:=q
  obtain ⟨h1,h2,h3,h4⟩:=hk
  have old:∀ u,ancG g u y = true → parents g y = some ps:=by
   intro u hu
   have hy:=(anc_has h4 hu).2
   have hyz:y ≠ z:=by rintro rfl;rw [hy] at h2;cases h2
   unfold parents at hp
   rwa [if_neg hyz] at hp
  unfold ancG at h ⊢
  by_cases e:x = z
  ·simp only [e,if_true,Bool.or_eq_true,decide_eq_true_eq,List.any_eq_true] at h ⊢
   rcases h with h | ⟨u,hu,hup⟩
   ·unfold parents at hp
    rw [if_pos h] at hp
    injection hp with hp
    subst hp
    exact .inr ⟨p,hm,anc_refl (h3 p hm)⟩
   ·exact .inr ⟨u,hu,ih h4 hup (old u hup)⟩
  ·simp only [e,if_false] at h ⊢
   exact ih h4 h (old x h)
/-! the search -/
def Reached (G:Dg) (ids:List ID) (y:ID):Prop:=∃ i ∈ ids,ancG G i y = true
structure Found (G:Dg) (ids met todo:List ID):Prop where
 nd:met.Nodup
 has:∀ y ∈ met,hasG G y = true
 clo:∀ y ∈ met,∀ ps,parents G y = some ps → ∀ p ∈ ps,p ∈ met ∨ p ∈ todo
 all:∀ y ∈ ids,hasG G y = true → y ∈ met ∨ y ∈ todo
 sub:∀ y,y ∈ met ∨ y ∈ todo → hasG G y = true → Reached G ids y
 len:todo.length ≤ ids.length + 2 * met.length
theorem Found.skip {G:Dg} {ids met todo:List ID} {x:ID} (h:Found G ids met (todo ++ [x])) (hx:x ∈ met ∨ hasG G x = false) (hk:okG G):Found G ids met todo:=by
 refine ⟨h.nd,h.has,fun y hy ps hp p hm=>?_,fun y hy hG=>?_,fun y hy hG=>h.sub y (hy.imp_right (fun h=>by simp [h])) hG,by have:=h.len;simp at this;omega⟩
 ·rcases h.clo y hy ps hp p hm with h1 | h1
  ·exact .inl h1
  ·rcases List.mem_append.1 h1 with h1 | h1
   ·exact .inr h1
   ·have e:p = x:=by simpa using h1
    subst e
    rcases hx with hx | hx
    ·exact .inl hx
    ·have:=(okG_par hk hp).1 p hm
     rw [hx] at this;cases this
 ·rcases h.all y hy hG with h1 | h1
  ·exact .inl h1
  ·rcases List.mem_append.1 h1 with h1 | h1
   ·exact .inr h1
   ·have e:y = x:=by simpa using h1
    subst e
    rcases hx with hx | hx
    ·exact .inl hx
    ·rw [hx] at hG;cases hG
theorem Found.take {G:Dg} {ids met todo ps:List ID} {x:ID} (h:Found G ids met (todo ++ [x])) (hx:x ∉ met) (hp:parents G x = some ps) (hk:okG G):Found G ids (met ++ [x]) (todo ++ ps):=by
 have hG:hasG G x = true:=by simp [hasG,hp]
 have hr:Reached G ids x:=h.sub x (.inr (by simp)) hG
 refine ⟨?_,?_,?_,?_,?_,?_⟩
 ·rw [List.nodup_append]
  refine ⟨h.nd,by simp,?_⟩
  intro a ha b hb e
  have:b = x:=by simpa using hb
  subst this;subst e;exact hx ha
 ·intro y hy
  rcases List.mem_append.1 hy with hy | hy
  ·exact h.has y hy
  ·have:y = x:=by simpa using hy
   rw [this];exact hG
 ·intro y hy qs hq p hm
  rcases List.mem_append.1 hy with hy | hy
  ·rcases h.clo y hy qs hq p hm with h1 | h1
   ·exact .inl (by simp [h1])
   ·rcases List.mem_append.1 h1 with h1 | h1
    ·exact .inr (by simp [h1])
    ·exact .inl (by simp at h1;simp [h1])
  ·have e:y = x:=by simpa using hy
   subst e
   rw [hp] at hq
   injection hq with hq
   subst hq
   exact .inr (by simp [hm])
 ·intro y hy hyG
  rcases h.all y hy hyG with h1 | h1
  ·exact .inl (by simp [h1])
  ·rcases List.mem_append.1 h1 with h1 | h1
   ·exact .inr (by simp [h1])
   ·exact .inl (by simp at h1;simp [h1])
 ·intro y hy hyG
  rcases hy with hy | hy
  ·rcases List.mem_append.1 hy with hy | hy
   ·exact h.sub y (.inl hy) hyG
   ·have:y = x:=by simpa using hy
    rw [this];exact hr
  ·rcases List.mem_append.1 hy with hy | hy
   ·exact h.sub y (.inr (by simp [hy])) hyG
   ·obtain ⟨i,hi,ha⟩:=hr
    exact ⟨i,hi,anc_step hk ha hp hy⟩
 ·have:=h.len
  have:=(okG_par hk hp).2.1
  simp at *
  omega
end Go.Proofs.Ytahllkifmmjbdaa
