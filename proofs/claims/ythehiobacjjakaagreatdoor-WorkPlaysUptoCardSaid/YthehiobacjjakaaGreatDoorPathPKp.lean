/- Contracts: numbers written (the reference's Num, enc.Num). IDs: 32 bytes by value. The walk never looks into one: rules on loads, stores, boxes, sameness. Contracts: the order of IDs (sha.Cmp, bytes.Compare). Plain: stamps, operations, items, commits, tags; when they are right; their bytes; how they are read. Plain: what is put is read again; a reader takes the same of longer bytes. Plain: rows of a tree; ways up from row to row; places; names from the root. Plain: paths as the program and as the document make them. -/
import Derived.Test.YthehiobacjjakaaGreatDoorMapRKp
import Derived.Deep.LoopGhost
import Derived.Test.YthehiobacjjakaaGreatDoorProg
import Derived.Deep.MidRow
import Derived.Deep.WholeRow
import Derived.Stop.BytesEq
import Derived.WalkSpells
import Derived.Outline
import Derived.Lib.Bytealg
import Derived.Lib.BytesEntry
import Derived.Sort.Grow
import Derived.Deep.QuietTactic
import Derived.BigQuiet
set_option linter.unusedVariables false
set_option linter.unusedSimpArgs false
namespace Go.Proofs.YthehiobacjjakaaGreatDoor
open Go.RowKit
theorem numB_small {n:Nat} (h:n < 128):numB n = [UInt8.ofNat n]:=by
 rw [numB,dif_pos h]
theorem numB_big {n:Nat} (h:¬ n < 128):numB n = UInt8.ofNat (n % 128 + 128) :: numB (n / 128):=by
 rw [numB,dif_neg h]
theorem numB_length (n:Nat) (hn:n ≤ 4611686018427387904):(numB n).length ≤ 9:=by
 have h:∀ (k n:Nat),n < 128 ^ (k + 1) → (numB n).length ≤ k + 1:=by
  intro k
  induction k with
  | zero=>intro n h;rw [numB_small (by simpa using h)];simp
  | succ k ih =>
   intro n h
   by_cases hs:n < 128
   ·rw [numB_small hs];simp
   ·rw [numB_big hs,List.length_cons]
    have:n / 128 < 128 ^ (k + 1):=Nat.div_lt_of_lt_mul (by rw [Nat.pow_succ] at h;omega)
    have:=ih _ this
    omega
 exact h 8 n (by have:(128:Nat) ^ (8 + 1) = 9223372036854775808:=by decide
                 omega)
theorem numB_pos (n:Nat):0 < (numB n).length:=by
 by_cases h:n < 128
 ·rw [numB_small h];simp
 ·rw [numB_big h];simp
theorem u8_low (n:Nat) (h:n < 256):(UInt8.ofNat n).toNat = n:=by rw [UInt8.toNat_ofNat'];omega
theorem or128 (m:Nat):bits .or .u8 (IntKind.u8.wrap (m:Int)) 128 = ((UInt8.ofNat (m % 128 + 128)).toNat:Int):=by
 rw [u8_low _ (by omega)]
 have h1:IntKind.u8.wrap (m:Int) = ((m % 256:Nat):Int):=by rw [IntKind.wrap_u8'];omega
 rw [h1]
 have:=u8_or_nat (m % 256) 128 (by omega) (by decide)
 have h2:(128:Int) = ((128:Nat):Int):=rfl
 rw [h2,this]
 have h3:m % 256 ||| 128 = m % 128 + 128:=by
  have h4:m % 256 = m % 128 + 128 * (m / 128 % 2):=by omega
  rcases (show m / 128 % 2 = 0 ∨ m / 128 % 2 = 1 by omega) with h | h
  ·rw [h4,h,Nat.mul_zero,Nat.add_zero,Nat.or_comm]
   rw [nat_join 7 128 (m % 128) (by decide) (by omega),Nat.add_comm]
  ·rw [h4,h,Nat.mul_one]
   have:m % 128 + 128 = 128 ||| m % 128:=by rw [nat_join 7 128 (m % 128) (by decide) (by omega),Nat.add_comm]
   rw [this,Nat.or_assoc,Nat.or_comm (m % 128) 128,← Nat.or_assoc,Nat.or_self]
 rw [h3]
def EnR (w:World) (l:List UInt8) (n0:Nat) (gk:Nat) (ov nv:Value) (wr:World):Prop :=
 ∃ (n:Nat) (out:List UInt8),nv = .int .u64 n ∧ n ≤ 4611686018427387904 ∧ wr.ownsRow w.heap.size 5 1 ov (l ++ out).length (bv (l ++ out)) ∧ Fr noB w wr ∧ n = gk ∧ numB n0 = out ++ numB n ∧ out.length ≤ 9
set_option maxRecDepth 100000 in
set_option maxHeartbeats 400000 in
theorem enum_any (w:World) (A:Option Addr) (c:Nat) (l:List UInt8) (hs:Sl w A (bv l)) (hl:l.length ≤ 140737488355000) (n:Nat) (hn:n ≤ 4611686018427387904) :
  Calls Tryz.prog 115 #[.slice A l.length c,.int .i64 n] w (NewBytes w (l ++ numB n)):=by
 go_enter Tryz.func115,Tryz.ntmps115
 go_wp2_with (go_at_call 139;refine (clone_n w A c l _ rfl hs (by omega)).mono ?_;rintro e w1 ⟨A1,c1,rfl,ho1,hf1⟩)
 go_loopg [5,6] n (fun gk ov nv wr=>EnR w l n gk ov nv wr)
 case atStart=>exact ⟨n,[],rfl,hn,by simpa using ho1,hf1,rfl,rfl,by simp⟩
 case round =>
  obtain ⟨m,out,rfl,hm,ho,hf,rfl,hh,hol⟩:=hrel
  have hle:=numB_length n hn
  have hlen:(numB n).length = out.length + (numB m).length:=by rw [hh];simp
  have hpos:=numB_pos m
  have hol2:out.length + 1 ≤ 9:=by omega
  have hhs:=hf.size
  clear hlen hpos hle
  by_cases hs':m < 128
  ·have HH:=Lib.hid hh
   clear hh
   have hw:IntKind.u8.wrap (m:Int) = ((UInt8.ofNat m).toNat:Int):=by rw [u8_low m (by omega),IntKind.wrap_u8'];omega
   have HB:=Lib.hid (numB_small hs')
   generalize UInt8.ofNat m = b at hw HB
   have HS:=Sl.new wr 5 (bv [b])
   go_wp2_with (at_builtin;refine wpList_appB _ etBytes rfl (.tmp 23) (.tmp 26) rfl w.heap.size _ _ (l ++ out) rfl (ho.alloc _) _ _ _ [b] rfl HS rfl (by simp only [List.length_append,List.length_cons,List.length_nil];omega) (by rw [World.size_alloc];omega) ?_;intro A2 c2 w2 hc1 hc2 h1 h2 h3)
   go_ret
   have hx:l ++ numB n = l ++ out ++ [b]:=by rw [HH.out,HB.out,List.append_assoc]
   rw [hx]
   exact NewBytes.mk (by simpa using h1) ((hf.alloc _).stepG h2 (fun g hg=>(ho.lt g hg).1))
  ·have HH:=Lib.hid hh
   clear hh
   have hw:bits .or .u8 ((m:Int) % 256) 128 = ((UInt8.ofNat (m % 128 + 128)).toNat:Int):=by rw [← or128 m,IntKind.wrap_u8']
   have HB:=Lib.hid (numB_big hs')
   generalize UInt8.ofNat (m % 128 + 128) = b at hw HB
   have HS:=Sl.new wr 5 (bv [b])
   go_wp2_with (at_builtin;refine wpList_appB _ etBytes rfl (.tmp 15) (.tmp 19) rfl w.heap.size _ _ (l ++ out) rfl (ho.alloc _) _ _ _ [b] rfl HS rfl (by simp only [List.length_append,List.length_cons,List.length_nil];omega) (by rw [World.size_alloc];omega) ?_;intro A2 c2 w2 hc1 hc2 h1 h2 h3)
   go_roundg (m / 128)
   case measure=>omega
   case rel=>exact ⟨m / 128,out ++ [b],by go_num,by omega,by simpa using h1,(hf.alloc _).stepG h2 (fun g hg=>(ho.lt g hg).1),rfl,HH.out.trans (by rw [HB.out];simp),by simp;omega⟩
theorem enum_n (w:World) (A:Option Addr) (c:Nat) (l:List UInt8) (k:Nat) (hk:l.length = k) (hs:Sl w A (bv l)) (hl:l.length ≤ 140737488355000) (n:Nat) (hn:n ≤ 4611686018427387904) :
  Calls Tryz.prog 115 #[.slice A k c,.int .i64 n] w (NewBytes w (l ++ numB n)):=by subst hk;exact enum_any w A c l hs hl n hn
end Go.Proofs.YthehiobacjjakaaGreatDoor
namespace Go.Proofs.YthehiobacjjakaaGreatDoor
open Go.RowKit
def ID:Type:={ l:List UInt8 // l.length = 32 }
instance:DecidableEq ID:=inferInstanceAs (DecidableEq { l:List UInt8 // l.length = 32 })
@[irreducible] def idA (x:ID):Array Value:=(bv x.1).toArray
theorem idA_eq (x:ID):idA x = (bv x.1).toArray:=by unfold idA;rfl
abbrev encI (x:ID):Value:=.agg (idA x)
abbrev ido (x:ID):Obj:=.cells (idA x) 33
def zID:ID:=⟨List.replicate 32 0,rfl⟩
instance:Inhabited ID:=⟨zID⟩
theorem u8v_inj {a b:UInt8} (h:u8v a = u8v b):a = b:=by
 unfold u8v at h
 injection h with _ h
 exact UInt8.toNat_inj.1 (by omega)
theorem bv_inj {l m:List UInt8} (h:bv l = bv m):l = m:=by
 induction l generalizing m with
 | nil=>cases m with
  | nil=>rfl
  | cons b m=>simp [bv] at h
 | cons a l ih=>cases m with
  | nil=>simp [bv] at h
  | cons b m =>
   rw [bv_cons,bv_cons] at h
   injection h with h1 h2
   rw [u8v_inj h1,ih h2]
theorem encI_inj {x y:ID} (h:encI x = encI y):x = y:=by
 injection h with h
 rw [idA_eq,idA_eq] at h
 exact Subtype.ext (bv_inj (by simpa using congrArg Array.toList h))
def Rd (w:World) (b o:Nat) (x:ID):Prop:=w.rangeAt b o (bv x.1)
theorem Rd.uniq {w:World} {b o:Nat} {x y:ID} (hx:Rd w b o x) (hy:Rd w b o y):x = y:=by
 refine Subtype.ext (bv_inj (List.ext_getElem? fun j=>?_))
 by_cases hj:j < 32
 ·have ex:(bv x.1)[j]? = some ((bv x.1)[j]'(by simp [x.2];exact hj)):=List.getElem?_eq_getElem _
  have ey:(bv y.1)[j]? = some ((bv y.1)[j]'(by simp [y.2];exact hj)):=List.getElem?_eq_getElem _
  have:=(hx j _ ex).symm.trans (hy j _ ey)
  rw [ex,ey,this]
 ·rw [List.getElem?_eq_none (by simp [x.2];omega),List.getElem?_eq_none (by simp [y.2];omega)]
open Classical in
noncomputable def rdI (w:World) (b o:Nat):Option ID:=if h:∃ x,Rd w b o x then some h.choose else none
theorem Rd.rdI {w:World} {b o:Nat} {x:ID} (h:Rd w b o x):rdI w b o = some x:=by
 unfold Go.Proofs.YthehiobacjjakaaGreatDoor.rdI
 have hx:∃ x,Rd w b o x:=⟨x,h⟩
 rw [dif_pos hx]
 exact congrArg some (hx.choose_spec.uniq h)
theorem rdI_rd {w:World} {b o:Nat} {x:ID} (h:rdI w b o = some x):Rd w b o x:=by
 unfold rdI at h
 split at h
 ·rename_i hx
  injection h with h
  rw [← h];exact hx.choose_spec
 ·cases h
theorem rdI_congr {w w':World} {b o o':Nat} (h:∀ x,Rd w b o x ↔ Rd w' b o' x):rdI w b o = rdI w' b o':=by
 cases hx:rdI w b o with
 | some x=>exact ((h x).1 (rdI_rd hx)).rdI.symm
 | none =>
  cases hy:rdI w' b o' with
  | none=>rfl
  | some y=>rw [((h y).2 (rdI_rd hy)).rdI] at hx;cases hx
theorem Rd.keep {w w':World} {b o:Nat} {x:ID} (h:Rd w b o x) (hb:w'.heap[b]? = w.heap[b]?):Rd w' b o x:=fun j v hv=>(World.cell?_of_block (a:=⟨b,o + j,none⟩) hb).trans (h j v hv)
theorem rdI_keep {w w':World} {b o:Nat} (hb:w'.heap[b]? = w.heap[b]?):rdI w' b o = rdI w b o:=rdI_congr fun x=>⟨fun h=>h.keep hb.symm,fun h=>h.keep hb⟩
theorem rdI_fr {M:Nat → Prop} {w w':World} {b o:Nat} {x:ID} (h:rdI w b o = some x) (hl:b < w.heap.size) (f:Fr M w w') (hM:¬ M b):rdI w' b o = some x:=(rdI_keep (f.block b hl hM)).trans h
theorem Rd.lt {w:World} {b o:Nat} {x:ID} (h:Rd w b o x):b < w.heap.size:=by
 have hl:0 < (bv x.1).length:=by simp [x.2]
 exact World.block_lt_of_cell? _ _ (h 0 _ (List.getElem?_eq_getElem hl))
theorem rdI_lt {w:World} {b o:Nat} {x:ID} (h:rdI w b o = some x):b < w.heap.size:=(rdI_rd h).lt
@[simp] theorem rdI_new (w:World) (x:ID):rdI (w.alloc (ido x)) w.heap.size 0 = some x:=by
 refine Rd.rdI fun j v hv=>?_
 have hh:(w.alloc (ido x)).heap[w.heap.size]? = some (ido x):=heap_alloc_new w _
 simp only [ido,idA_eq] at hh ⊢
 rw [Nat.zero_add,cell_of_row _ _ j (bv x.1).toArray 33 (0,0) hh]
 simpa using hv
theorem infoID:(Tryz.prog.info? 33).map (·.size) = some 32:=by kernel_rfl
theorem infoArr:(Tryz.prog.info? 32).map (·.size) = some 32:=by kernel_rfl
noncomputable def ldElse (t:TypeId) (w:World) (b o:Nat):Result Value:=(Instr.loadAt t (.pointer (some ⟨b,o,none⟩))).run Tryz.prog w
@[simp] theorem ld_id (w:World) (b o:Nat):(Instr.loadAt 33 (.pointer (some ⟨b,o,none⟩))).run Tryz.prog w = match rdI w b o with | some x=>.ok (encI x) w | none=>ldElse 33 w b o:=by
 cases h:rdI w b o with
 | none=>rfl
 | some x =>
  simp only [encI,idA_eq]
  exact run_loadAt_mid w b o 33 (bv x.1) _ (rdI_rd h) Tryz.underlying33 rfl (by rw [bv_length,x.2];exact infoID)
@[simp] theorem ld_arr (w:World) (b o:Nat):(Instr.loadAt 32 (.pointer (some ⟨b,o,none⟩))).run Tryz.prog w = match rdI w b o with | some x=>.ok (encI x) w | none=>ldElse 32 w b o:=by
 cases h:rdI w b o with
 | none=>rfl
 | some x =>
  simp only [encI,idA_eq]
  exact run_loadAt_mid w b o 32 (bv x.1) _ (rdI_rd h) Tryz.underlying32 rfl (by rw [bv_length,x.2];exact infoArr)
theorem ex_ld_id {ρ:Operand → Value} {o:Oper} {a:Operand} {w:World} {b off:Nat} {x:ID} (ho:o.op = .load 33 a) (ha:ρ a = .pointer (some ⟨b,off,none⟩)) (hr:rdI w b off = some x) :
  (execOp ρ o).run Tryz.prog w = .ok (.value (encI x)) w:=by
 have h:=ld_id w b off
 rw [hr] at h
 unfold execOp
 simp only [ho,ha,Sem.run_bind,h,Result.andThen_ok,Sem.run_pure]
@[irreducible] noncomputable def exElse (ρ:Operand → Value) (o:Oper) (w:World):Result Next:=(execOp ρ o).run Tryz.prog w
noncomputable def ldI (w:World) (v:Value) (r:Result Next):Result Next:=match v with
 | .pointer (some ⟨b,off,none⟩)=>(match rdI w b off with | some x=>.ok (.value (encI x)) w | none=>r)
 | _=>r
@[simp] theorem ldI_at (w:World) (b off:Nat) (r:Result Next):ldI w (.pointer (some ⟨b,off,none⟩)) r = match rdI w b off with | some x=>.ok (.value (encI x)) w | none=>r:=rfl
theorem ex_ld_op (ρ:Operand → Value) (o:Oper) (a:Operand) (ho:o.op = .load 33 a) (w:World):(execOp ρ o).run Tryz.prog w = ldI w (ρ a) (exElse ρ o w):=by
 have he:exElse ρ o w = (execOp ρ o).run Tryz.prog w:=by unfold exElse;rfl
 rw [he]
 unfold ldI
 split
 ·rename_i b off hv
  cases h:rdI w b off with
  | none=>rfl
  | some x=>exact ex_ld_id ho hv h
 ·rfl
@[simp ↓] theorem ex_ld (ρ:Operand → Value) (d:Option Nat) (a:Operand) (t:TypeId) (p:String) (f:Array Edge) (g:Option (Nat × Bool)) (w:World) :
  (execOp ρ { dst:=d,op:=.load 33 a,type:=t,pos:=p,after:=f,guard:=g }).run Tryz.prog w = ldI w (ρ a) (exElse ρ { dst:=d,op:=.load 33 a,type:=t,pos:=p,after:=f,guard:=g } w):=ex_ld_op ρ _ a rfl w
@[simp] theorem bx_id (w:World) (x:ID):(Instr.box 33 (encI x)).run Tryz.prog w = .ok (.pointer (some ⟨w.heap.size,0,none⟩)) (w.alloc (ido x)):=by
 simp [Instr.box,newVar,newRow,newObj,Value.cells,Sem.run,Result.andThen]
theorem zeroID (w:World):(zeroValue 33).run Tryz.prog w = .ok (encI zID) w:=by
 simp only [encI,idA_eq]
 exact (zero_of_info (P:=Tryz.prog) (t:=33) (v:=.agg (bv zID.1).toArray) (n:=32) (by kernel_rfl)).1 w
@[simp] theorem al_id (w:World):(Instr.alloc 33 true (.tuple #[])).run Tryz.prog w = .ok (.pointer (some ⟨w.heap.size,0,none⟩)) (w.alloc (ido zID)):=by
 have:=bx_id w zID
 simp only [Instr.alloc,Sem.run_bind,zeroID,Result.andThen_ok]
 exact this
@[simp] theorem st_new (w:World) (x y:ID):(Instr.storeAt 33 (.pointer (some ⟨w.heap.size,0,none⟩)) (encI x)).run Tryz.prog (w.alloc (ido y)) = .ok () (w.alloc (ido x)):=by
 simp only [encI,ido,idA_eq]
 exact run_storeAt_new w 33 _ _ (by rw [List.size_toArray,bv_length,x.2];exact infoID) (by simp [x.2,y.2]) (all_oneCell_toArray (bv_one _))
@[simp] theorem eq_id (w:World) (x y:ID):(binOp .eql 33 (encI x) (encI y)).run Tryz.prog w = .ok (.bool (decide (x = y))) w:=by
 simp only [encI,idA_eq]
 have:=run_eql_bytes (P:=Tryz.prog) (w:=w) 33 5 32 Tryz.underlying33 Tryz.underlying5 (by intro w;kernel_rfl) x.1 y.1 x.2 y.2
 have e:(x.1 == y.1) = decide (x = y):=by
  rw [Bool.eq_iff_iff]
  simp only [beq_iff_eq,decide_eq_true_eq]
  exact ⟨fun h=>Subtype.ext h,fun h=>congrArg Subtype.val h⟩
 rw [e] at this
 exact this
/-! at the operations: rules that are met ahead of the kit's -/
@[simp ↓] theorem ex_al (ρ:Operand → Value) (d:Option Nat) (t:TypeId) (p:String) (f:Array Edge) (g:Option (Nat × Bool)) (w:World) :
  (execOp ρ { dst:=d,op:=.alloc 33,type:=t,pos:=p,after:=f,guard:=g }).run Tryz.prog w = .ok (.value (.pointer (some ⟨w.heap.size,0,none⟩))) (w.alloc (ido zID)):=by
 unfold execOp
 simp only [Sem.run_bind,al_id,Result.andThen_ok,Sem.run_pure]
@[irreducible] noncomputable def stI (w:World) (v u:Value):Result Next:=((Instr.storeAt 33 v u).run Tryz.prog w).andThen (fun _ w=>.ok .skip w)
def idc (l:List ID):List Value:=l.flatMap fun x=>bv x.1
theorem idc_length (l:List ID):(idc l).length = l.length * 32:=by
 induction l with
 | nil=>rfl
 | cons x l ih=>simp only [idc,List.flatMap_cons,List.length_append,bv_length,x.2,List.length_cons] at ih ⊢;omega
end Go.Proofs.YthehiobacjjakaaGreatDoor
namespace Go.Proofs.YthehiobacjjakaaGreatDoor
open Go.RowKit Go.Sort
/-! rows of IDs -/
theorem ET.mkI' {P:Program} {t e:TypeId} {z:Value} {size bytes:Nat} (ht:P.underlying t = some (.slice e))
  (h:(P.info? e).map (fun i=>(i.zero,i.size,i.bytes)) = some (some z,size,bytes)) (hz:z.cells.size = size) (hs:0 < size) (hb:0 < bytes):ET P t e size bytes:=by
 obtain ⟨i,h1,h2,h3,h4⟩:=info_parts h
 exact ⟨ht,⟨i,z,h1,h2,h3,h4,hz⟩,hs,hb⟩
end Go.Proofs.YthehiobacjjakaaGreatDoor
namespace Go.Proofs.YthehiobacjjakaaGreatDoor
structure St where
 T:Int
 R:Int
deriving DecidableEq
structure Hd where
 At:St
 Data:ID
structure It where
 Node:St
 At:St
 Name:List UInt8
 Sub:ID
 Heads:List Hd
structure Opn where
 Kind:Int
 At:St
 Node:St
 Parent:St
 Name:List UInt8
 Data:ID
 Over:List St
def zSt:St:=⟨0,0⟩
def cmpS (a b:St):Int:=if a.T < b.T then -1 else if b.T < a.T then 1 else if a.R < b.R then -1 else if b.R < a.R then 1 else 0
def rightS (s:St):Bool:=decide (1 ≤ s.T) && decide (s.T ≤ 1099511627776) && decide (1 ≤ s.R) && decide (s.R ≤ 65536)
def nameOk (l:List UInt8):Bool:=decide (1 ≤ l.length) && decide (l.length ≤ 60) && decide (l ≠ [46]) && decide (l ≠ [46,46]) && l.all fun b=>decide (b ≠ 0) && decide (b ≠ 47) && decide (b ≠ 10)
def fixedS (s:St):Bool:=decide (s.T = 0) && (decide (s.R = 0) || decide (s.R = 1))
def riseB {α:Type} (cf:α → α → Int):List α → Bool
 | x :: y :: l=>decide (cf x y < 0) && riseB cf (y :: l)
 | _=>true
def moveOk (o:Opn):Bool:=decide (cmpS o.Node o.At ≤ 0) && (rightS o.Parent || fixedS o.Parent) && nameOk o.Name && decide (o.Data = zID) && decide (o.Over.length = 0)
def editOk (o:Opn):Bool:=decide (cmpS o.Node o.At < 0) && decide (o.Parent = zSt) && decide (o.Name = []) && decide (o.Data ≠ zID) && decide (o.Over.length ≤ 64) && (o.Over.all fun s=>rightS s && decide (cmpS s o.At < 0)) && riseB cmpS o.Over
def goodOp (o:Opn):Bool:=rightS o.At && rightS o.Node && (if o.Kind = 1 then moveOk o else if o.Kind = 2 then editOk o else false)
def rightIt (x:It):Bool:=rightS x.Node && rightS x.At && decide (0 ≤ cmpS x.At x.Node) && nameOk x.Name && decide (x.Heads.length ≤ 1000) && (x.Heads.all fun h=>rightS h.At && decide (0 < cmpS h.At x.Node) && decide (h.Data ≠ zID)) && riseB (fun a b:Hd=>cmpS a.At b.At) x.Heads
def rightDr (l:List It):Bool:=decide (l.length ≤ 1000) && l.all rightIt && riseB (fun a b:It=>cmpS a.Node b.Node) l
/-! bytes -/
def stB (s:St):List UInt8:=numB s.T.toNat ++ numB s.R.toNat
def txB (l:List UInt8):List UInt8:=numB l.length ++ l
def hdB (h:Hd):List UInt8:=stB h.At ++ h.Data.1
def itB (x:It):List UInt8:=stB x.Node ++ stB x.At ++ txB x.Name ++ x.Sub.1 ++ numB x.Heads.length ++ x.Heads.flatMap hdB
def drB (l:List It):List UInt8:=2 :: numB l.length ++ l.flatMap itB
def opB (o:Opn):List UInt8:=if goodOp o then numB o.Kind.toNat ++ stB o.At ++ stB o.Node ++ (if o.Kind = 1 then stB o.Parent ++ txB o.Name else o.Data.1 ++ numB o.Over.length ++ o.Over.flatMap stB) else []
/-! reading -/
def rdTake (n:Nat) (s:RS):List UInt8 × RS:=if s.2 = true ∨ s.1.length < n then ([],([],true)) else (s.1.take n,(s.1.drop n,false))
def rdAll {α:Type} (f:RS → α × RS):Nat → RS → List α × RS
 | 0,s=>([],s)
 | n + 1,s=>((f s).1 :: (rdAll f n (f s).2).1,(rdAll f n (f s).2).2)
def openR (b:List UInt8) (k:UInt8):RS:=match b with
 | []=>([],true)
 | c :: l=>if c = k then (l,false) else ([],true)
structure Ext {α:Type} (f:RS → α × RS):Prop where
 ext:∀ s t e,(f (s,false)).2 = (t,false) → f (s ++ e,false) = ((f (s,false)).1,(t ++ e,false))
 go:∀ s,s.2 = true → (f s).2.2 = true
theorem Ext.take (n:Nat):Ext (rdTake n):=by
 refine ⟨fun s t e h=>?_,fun s h=>?_⟩
 ·unfold rdTake at *
  simp only [Bool.false_eq_true,false_or] at *
  split at h
  ·simp at h
  ·rename_i h1
   have h2:¬ (s ++ e).length < n:=by rw [List.length_append];omega
   rw [if_neg h2,if_neg h1]
   simp only [Prod.mk.injEq,and_true] at h ⊢
   subst h
   rw [List.take_append_of_le_length (by omega),List.drop_append_of_le_length (by omega)]
   exact ⟨rfl,rfl⟩
 ·unfold rdTake
  rw [if_pos (.inl h)]
theorem Ext.bind {α β:Type} {f:RS → α × RS} {g:α → RS → β × RS} (hf:Ext f) (hg:∀ a,Ext (g a)):Ext (fun s=>g (f s).1 (f s).2):=by
 refine ⟨fun s t e h=>?_,fun s h=>(hg _).go _ (hf.go _ h)⟩
 try dsimp only at h ⊢
 cases hb:(f (s,false)).2.2 with
 | true =>
  have:=(hg (f (s,false)).1).go _ hb
  rw [h] at this;cases this
 | false =>
  obtain ⟨r,hr⟩:∃ r,(f (s,false)).2 = (r,false):=⟨(f (s,false)).2.1,Prod.ext rfl hb⟩
  rw [hf.ext s r e hr]
  rw [hr] at h
  rw [hr]
  exact (hg _).ext r t e h
theorem Ext.pure {α β:Type} {f:RS → α × RS} (hf:Ext f) (k:α → β):Ext (fun s=>(k (f s).1,(f s).2)):=by
 refine ⟨fun s t e h=>?_,fun s h=>hf.go _ h⟩
 simp only at h
 rw [hf.ext s t e h]
theorem Ext.congr {α:Type} {f g:RS → α × RS} (hf:Ext f) (h:∀ s,g s = f s):Ext g:=by
 have:f = g:=funext fun s=>(h s).symm
 rw [← this];exact hf
theorem Ext.ret {α:Type} (a:α):Ext (fun s:RS=>(a,s)):=by
 refine ⟨fun s t e h=>?_,fun s h=>h⟩
 simp only [Prod.mk.injEq,and_true] at h ⊢
 rw [h];exact ⟨trivial,rfl⟩
theorem Ext.all {α:Type} {f:RS → α × RS} (hf:Ext f) (n:Nat):Ext (rdAll f n):=by
 induction n with
 | zero=>exact (Ext.ret ([]:List α)).congr fun s=>rfl
 | succ n ih=>exact (hf.bind (g:=fun a s=>(a :: (rdAll f n s).1,(rdAll f n s).2)) fun a=>ih.pure fun l=>a :: l).congr fun s=>rfl
def whole {α:Type} (f:RS → α × RS) (k:UInt8) (p:α → Bool) (b:List UInt8):Option α :=
 if (f (openR b k)).2 = ([],false) ∧ p (f (openR b k)).1 = true then some (f (openR b k)).1 else none
/-! what is put is read -/
def Rt {α:Type} (f:RS → α × RS) (b:α → List UInt8) (x:α):Prop:=∀ e,f (b x ++ e,false) = (x,(e,false))
theorem Rt.all {α:Type} {f:RS → α × RS} {b:α → List UInt8}:∀ {l:List α},(∀ x ∈ l,Rt f b x) → ∀ e,rdAll f l.length (l.flatMap b ++ e,false) = (l,(e,false))
 | [],_,e=>rfl
 | x :: l,h,e=>by
  simp only [List.length_cons,rdAll,List.flatMap_cons,List.append_assoc]
  rw [h x (by simp)]
  dsimp only
  rw [Rt.all (fun y hy=>h y (by simp [hy])) e]
theorem nameOk_le {l:List UInt8} (h:nameOk l = true):l.length ≤ 60:=by
 simp only [nameOk,Bool.and_eq_true,decide_eq_true_eq] at h
 exact h.1.1.1.2
structure RwP where
 Node:St
 Parent:St
 At:St
 Name:List UInt8
 Heads:List Hd
def trS:St:=⟨0,1⟩
def lastS:St:=⟨1099511627776,65536⟩
def itR (r:RwP) (sub:ID):It:=⟨r.Node,r.At,r.Name,sub,r.Heads⟩
def rightR (r:RwP):Bool:=rightDr [itR r zID] && decide (r.Node ≠ lastS)
def findR (rs:List RwP) (s:St):Option RwP:=rs.find? fun r=>decide (r.Node = s)
def reach (rs:List RwP):Nat → St → Bool
 | 0,s=>fixedS s
 | k + 1,s=>fixedS s || match findR rs s with
  | none=>false
  | some r=>reach rs k r.Parent
def riseR (rs:List RwP):Bool:=riseB (fun a b:RwP=>cmpS a.Node b.Node) rs
structure TreeOk (rs:List RwP):Prop where
 len:rs.length ≤ 5000
 ok:∀ r ∈ rs,rightR r = true
 rise:riseR rs = true
 up:∀ r ∈ rs,∃ k,reach rs k r.Node = true
theorem findR_some {rs:List RwP} {s:St} {r:RwP} (h:findR rs s = some r):r ∈ rs ∧ r.Node = s:=by
 unfold findR at h
 exact ⟨List.mem_of_find?_eq_some h,by simpa using List.find?_some h⟩
theorem findR_none {rs:List RwP} {s:St}:findR rs s = none ↔ ∀ r ∈ rs,r.Node ≠ s:=by
 unfold findR
 rw [List.find?_eq_none]
 simp
theorem findR_mem {rs:List RwP} (hn:(rs.map (·.Node)).Nodup) {r:RwP} (h:r ∈ rs):findR rs r.Node = some r:=by
 induction rs with
 | nil=>cases h
 | cons x rs ih =>
  unfold findR at ih ⊢
  rw [List.find?_cons]
  simp only [List.map_cons,List.nodup_cons] at hn
  rcases List.mem_cons.1 h with rfl | h
  ·simp
  ·have:x.Node ≠ r.Node:=fun e=>hn.1 (by rw [e];exact List.mem_map.2 ⟨r,h,rfl⟩)
   simp only [this,decide_false]
   exact ih hn.2 h
theorem cmpS_trans {a b c:St} (h1:cmpS a b < 0) (h2:cmpS b c < 0):cmpS a c < 0:=by
 unfold cmpS at *
 repeat' split at h1
 all_goals repeat' split at h2
 all_goals (repeat' split) <;> omega
theorem cmpS_self (a:St):cmpS a a = 0:=by unfold cmpS;simp
theorem cmpS_zero {a b:St}:cmpS a b = 0 ↔ a = b:=by
 constructor
 ·intro h
  unfold cmpS at h
  cases a with | mk t r =>
  cases b with | mk t' r' =>
  simp only at h
  simp only [St.mk.injEq]
  repeat' split at h
  all_goals omega
 ·rintro rfl;exact cmpS_self a
theorem cmpS_flip (a b:St):cmpS b a = - cmpS a b:=by
 unfold cmpS
 repeat' split
 all_goals omega
theorem cmpS_vals (a b:St):cmpS a b = -1 ∨ cmpS a b = 0 ∨ cmpS a b = 1:=by
 unfold cmpS
 repeat' split
 all_goals omega
theorem riseB_pw {α:Type} (cf:α → α → Int) (ht:∀ a b c,cf a b < 0 → cf b c < 0 → cf a c < 0):∀ l:List α,riseB cf l = true ↔ l.Pairwise (fun a b=>cf a b < 0)
 | []=>by simp [riseB]
 | [x]=>by simp [riseB]
 | x :: y :: l=>by
  have ih:=riseB_pw cf ht (y :: l)
  unfold riseB
  rw [Bool.and_eq_true,ih,decide_eq_true_eq,List.pairwise_cons (a:=x)]
  constructor
  ·rintro ⟨h1,h2⟩
   refine ⟨fun z hz=>?_,h2⟩
   rcases List.mem_cons.1 hz with rfl | hz
   ·exact h1
   ·exact ht _ _ _ h1 ((List.pairwise_cons.1 h2).1 z hz)
  ·rintro ⟨h1,h2⟩
   exact ⟨h1 y (by simp),h2⟩
theorem riseR_pw {rs:List RwP} (h:riseR rs = true):rs.Pairwise (fun a b=>cmpS a.Node b.Node < 0):=(riseB_pw (fun a b:RwP=>cmpS a.Node b.Node) (fun _ _ _=>cmpS_trans) rs).1 h
theorem riseR_nd {rs:List RwP} (h:riseR rs = true):(rs.map (·.Node)).Nodup:=by
 have:=riseR_pw h
 rw [List.Nodup,List.pairwise_map]
 refine this.imp fun {a b} hab e=>?_
 rw [e,cmpS_self] at hab
 omega
theorem TreeOk.nd {rs:List RwP} (h:TreeOk rs):(rs.map (·.Node)).Nodup:=riseR_nd h.rise
theorem reach_succ {rs:List RwP}:∀ (k:Nat) (s:St),reach rs k s = true → reach rs (k + 1) s = true
 | 0,s,h=>by unfold reach at h ⊢;simp [h]
 | k + 1,s,h=>by
  unfold reach at h ⊢
  rw [Bool.or_eq_true] at h ⊢
  rcases h with h | h
  ·exact .inl h
  ·refine .inr ?_
   cases hf:findR rs s with
   | none=>rw [hf] at h;cases h
   | some r=>rw [hf] at h;exact reach_succ k _ h
theorem reach_le {rs:List RwP} {k j:Nat} {s:St} (h:reach rs k s = true) (hj:k ≤ j):reach rs j s = true:=by
 induction hj with
 | refl=>exact h
 | step _ ih=>exact reach_succ _ _ ih
def wayR (rs:List RwP):Nat → St → List St
 | 0,_=>[]
 | k + 1,s=>if fixedS s then [] else match findR rs s with
  | none=>[]
  | some r=>s :: wayR rs k r.Parent
theorem wayR_min {rs:List RwP}:∀ (k:Nat) (s:St),reach rs k s = true → (∀ j,j < k → reach rs j s = false) →
  (wayR rs k s).length = k ∧ (wayR rs k s).Nodup ∧ (∀ t ∈ wayR rs k s,t ∈ rs.map (·.Node)) ∧ ∀ t ∈ wayR rs k s,∃ i,i ≤ k ∧ reach rs i t = true
 | 0,s,_,_=>⟨rfl,by simp [wayR],by simp [wayR],by simp [wayR]⟩
 | k + 1,s,h,hm=>by
  have h0:fixedS s = false:=hm 0 (by omega)
  have h':=h
  unfold reach at h
  rw [h0,Bool.false_or] at h
  cases hf:findR rs s with
  | none=>rw [hf] at h;cases h
  | some r =>
   rw [hf] at h
   simp only at h
   have hm':∀ j,j < k → reach rs j r.Parent = false:=fun j hj=>by
    cases hr:reach rs j r.Parent with
    | false=>rfl
    | true =>
     have:=hm (j + 1) (by omega)
     unfold reach at this
     rw [h0,hf,Bool.false_or] at this
     simp only at this
     rw [hr] at this;cases this
   obtain ⟨i1,i2,i3,i4⟩:=wayR_min k r.Parent h hm'
   have e:wayR rs (k + 1) s = s :: wayR rs k r.Parent:=by
    show (if fixedS s then [] else match findR rs s with | none=>[] | some r=>s :: wayR rs k r.Parent) = _
    rw [h0,hf];rfl
   rw [e]
   refine ⟨by simp [i1],?_,?_,?_⟩
   ·rw [List.nodup_cons]
    refine ⟨fun hx=>?_,i2⟩
    obtain ⟨i,hi,hr⟩:=i4 s hx
    have:=hm i (by omega)
    rw [hr] at this;cases this
   ·intro t ht
    rcases List.mem_cons.1 ht with rfl | ht
    ·obtain ⟨h1,h2⟩:=findR_some hf
     exact List.mem_map.2 ⟨r,h1,h2⟩
    ·exact i3 t ht
   ·intro t ht
    rcases List.mem_cons.1 ht with rfl | ht
    ·exact ⟨k + 1,Nat.le_refl _,h'⟩
    ·obtain ⟨i,hi,hr⟩:=i4 t ht
     exact ⟨i,by omega,hr⟩
theorem nd_leS {α:Type} [DecidableEq α]:∀ (l m:List α),l.Nodup → (∀ x ∈ l,x ∈ m) → l.length ≤ m.length
 | [],m,_,_=>by simp
 | x :: l,m,hn,hm=>by
  rw [List.nodup_cons] at hn
  have hx:=hm x (by simp)
  have:=nd_leS l (m.erase x) hn.2 (fun y hy=>(List.mem_erase_of_ne (fun e=>hn.1 (by rw [← e];exact hy))).2 (hm y (by simp [hy])))
  rw [List.length_erase_of_mem hx] at this
  have:=List.length_pos_of_mem hx
  simp only [List.length_cons]
  omega
theorem reach_len {rs:List RwP} {k:Nat} {s:St} (h:reach rs k s = true):reach rs rs.length s = true:=by
 induction k using Nat.strongRecOn with
 | ind k ih =>
  by_cases hm:∀ j,j < k → reach rs j s = false
  ·obtain ⟨h1,h2,h3,_⟩:=wayR_min k s h hm
   have:=nd_leS _ _ h2 h3
   rw [h1,List.length_map] at this
   exact reach_le h this
  ·simp only [Classical.not_forall] at hm
   obtain ⟨j,hj,hr⟩:=hm
   exact ih j hj (by cases e:reach rs j s with | true=>rfl | false=>exact absurd e hr)
def liesN (rs:List RwP):Nat → St → St → Bool
 | 0,_,_=>false
 | k + 1,s,p=>match findR rs s with
  | none=>false
  | some r=>decide (r.Parent = p) || liesN rs k r.Parent p
def liesR (rs:List RwP) (s p:St):Bool:=liesN rs rs.length s p
theorem rightR_T {r:RwP} (h:rightR r = true):r.Node.T ≠ 0:=by
 unfold rightR rightDr at h
 simp only [Bool.and_eq_true,List.all_cons,List.all_nil] at h
 have:=h.1.1.2.1
 unfold rightIt at this
 simp only [Bool.and_eq_true] at this
 have:=this.1.1.1.1.1.1
 unfold rightS itR at this
 simp only [Bool.and_eq_true,decide_eq_true_eq] at this
 omega
theorem TreeOk.T {rs:List RwP} (h:TreeOk rs):∀ r ∈ rs,r.Node.T ≠ 0:=fun r hr=>rightR_T (h.ok r hr)
def namesN (rs:List RwP):Nat → St → List (List UInt8)
 | 0,_=>[]
 | k + 1,s=>if s.T = 0 then [] else match findR rs s with
  | none=>[]
  | some r=>r.Name :: namesN rs k r.Parent
theorem names_next {rs:List RwP} {k:Nat} {s:St} (h:reach rs k s = true) (h0:s.T ≠ 0):∃ j r,k = j + 1 ∧ findR rs s = some r ∧ reach rs j r.Parent = true ∧ namesN rs k s = r.Name :: namesN rs j r.Parent:=by
 have hx:fixedS s = false:=by unfold fixedS;simp [h0]
 cases k with
 | zero =>
  unfold reach at h
  rw [hx] at h;cases h
 | succ k =>
  unfold reach at h
  rw [hx,Bool.false_or] at h
  cases hf:findR rs s with
  | none=>rw [hf] at h;cases h
  | some r =>
   rw [hf] at h
   refine ⟨k,r,rfl,rfl,h,?_⟩
   show (if s.T = 0 then [] else match findR rs s with | none=>[] | some r=>r.Name :: namesN rs k r.Parent) = _
   rw [if_neg h0,hf]
theorem lies_reach {rs:List RwP} {p:St} (hp:fixedS p = true):∀ (k:Nat) (s:St),liesN rs k s p = true → reach rs k s = true
 | 0,s,h=>by cases h
 | k + 1,s,h=>by
  have e:liesN rs (k + 1) s p = (match findR rs s with | none=>false | some r=>decide (r.Parent = p) || liesN rs k r.Parent p):=rfl
  rw [e] at h
  unfold reach
  cases hf:findR rs s with
  | none=>rw [hf] at h;cases h
  | some r =>
   rw [hf] at h
   simp only [Bool.or_eq_true,decide_eq_true_eq] at h ⊢
   right
   rcases h with h | h
   ·rw [h]
    cases k with
    | zero=>exact hp
    | succ k=>unfold reach;rw [hp];rfl
   ·exact lies_reach hp k _ h
end Go.Proofs.YthehiobacjjakaaGreatDoor
