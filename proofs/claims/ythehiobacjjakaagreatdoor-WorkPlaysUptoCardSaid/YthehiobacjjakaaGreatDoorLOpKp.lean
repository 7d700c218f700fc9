/- The steps of a script of WorkPlays' laws in memory; start; does. (ex_ldS_at) -/
import Derived.Test.YthehiobacjjakaaGreatDoorWlEKp
import Derived.Test.YthehiobacjjakaaGreatDoorWlGKp
set_option linter.unusedVariables false
set_option linter.unusedSimpArgs false
namespace Go.Proofs.YthehiobacjjakaaGreatDoor
open Go.RowKit Go.Maps Go.Sort
structure OpL where
 Kind:Int
 A:List UInt8
 Z:List UInt8
 ID:ID
def csLp (r:OpL):List Value:=[.int .i64 r.Kind,.string (str r.A),.string (str r.Z)] ++ (bv r.ID.1 ++ [])
def zOpL:OpL:=⟨0,[],[],zID⟩
instance:Inhabited OpL:=⟨zOpL⟩
def codLp:Cod OpL:=⟨35,35,csLp,zOpL,fun x=>by simp [csLp,x.ID.2],by decide,fun x u hu=>by
  exact one_bv (l:=[.int .i64 x.Kind,.string (str x.A),.string (str x.Z)]) (m:=[]) (x:=x.ID) (by intro u hu;simp at hu;rcases hu with rfl | rfl | rfl <;> rfl) (by simp) u hu,fun x y h=>by
 obtain ⟨k,a,b,d⟩:=x;obtain ⟨k',a',b',d'⟩:=y
 unfold csLp at h
 obtain ⟨h1,h2⟩:=List.append_inj h rfl
 obtain ⟨rfl,_⟩:=bv_app_inj h2
 simp only [List.cons.injEq,Value.int.injEq,Value.string.injEq,true_and,and_true] at h1
 obtain ⟨rfl,h3,h4⟩:=h1
 have h3:=str_inj h3
 have h4:=str_inj h4
 subst h3 h4
 rfl⟩
theorem okLp:CodOk Tryz.prog codLp:=⟨⟨_,Tryz.underlying35,rfl⟩,by kernel_rfl,fun w=>(zero_of_info (P:=Tryz.prog) (t:=35) (v:=.agg (codLp.cs codLp.z).toArray) (n:=35) (by kernel_rfl)).1 w⟩
@[simp ↓] theorem ex_ldLp (ρ:Operand → Value) (d:Option Nat) (a:Operand) (t:TypeId) (p:String) (f:Array Edge) (g:Option (Nat × Bool)) (w:World) :
  (execOp ρ { dst:=d,op:=.load 35 a,type:=t,pos:=p,after:=f,guard:=g }).run Tryz.prog w = codLp.ldR w (ρ a) (exElse ρ { dst:=d,op:=.load 35 a,type:=t,pos:=p,after:=f,guard:=g } w):=okLp.ldOp ρ _ a rfl w
@[simp ↓] theorem ex_alLp (ρ:Operand → Value) (d:Option Nat) (t:TypeId) (p:String) (f:Array Edge) (g:Option (Nat × Bool)) (w:World) :
  (execOp ρ { dst:=d,op:=.alloc 35,type:=t,pos:=p,after:=f,guard:=g }).run Tryz.prog w = .ok (.value (.pointer (some ⟨w.heap.size,0,none⟩))) (w.alloc (codLp.o zOpL)):=okLp.alOp ρ _ rfl w
@[simp ↓] theorem ex_stLp (ρ:Operand → Value) (a x:Operand) (d:Option Nat) (t:TypeId) (p:String) (f:Array Edge) (g:Option (Nat × Bool)) (w:World) :
  (execOp ρ { dst:=d,op:=.store 35 a x,type:=t,pos:=p,after:=f,guard:=g }).run Tryz.prog w = codLp.stR w (ρ a) (ρ x):=Cod.stOp (C:=codLp) ρ _ a x rfl w
@[simp] theorem st_newLp (w:World) (x y:OpL):codLp.stR (w.alloc (codLp.o y)) (.pointer (some ⟨w.heap.size,0,none⟩)) (.agg (codLp.A x)) = .ok .skip (w.alloc (codLp.o x)):=okLp.stR_new w x y
structure LpAt (w:World) (b:Nat) (r:OpL):Prop where
 kind:w.cell? ⟨b,0,none⟩ = some (.int .i64 r.Kind)
 A:w.cell? ⟨b,1,none⟩ = some (.string (str r.A))
 Z:w.cell? ⟨b,2,none⟩ = some (.string (str r.Z))
 id:rdI w b 3 = some r.ID
theorem lpAt {w:World} {b:Nat} {r:OpL} (h:codLp.rd w b 0 = some r):LpAt w b r:=by
 have e (k:Nat) {v:Value} (hv:(codLp.cs r)[k]? = some v):=by simpa using Cod.rd_cell h k hv
 refine ⟨e 0 rfl,e 1 rfl,e 2 rfl,?_⟩
 have:=Cod.rdI_part (y:=r.ID) h 3 (fun j v hv=>by
  show (csLp r)[3 + j]? = some v
  unfold csLp
  rw [List.getElem?_append_right (by simp),List.append_nil]
  simpa using hv)
 simpa using this
set_option maxRecDepth 100000 in
theorem start_any (w:World):Calls Tryz.prog 24 #[] w (Gives w (.agg (codS.A ⟨10,1⟩))):=by
 go_enter Tryz.func24,Tryz.ntmps24
 go_upto_region 1 with fail
 have f0:Fr noB w (w.alloc (codS.o zSt)):=(Fr.refl noB w).alloc _
 have b0:=Cod.bxd_new (C:=codS) w zSt
 have hst:=okS.stR_box b0 ⟨10,1⟩
 obtain ⟨p1,_,n1⟩:=Cod.put_fr b0 ⟨10,1⟩
 have HB:=Lib.hid (And.intro (f0.step1 p1 (Nat.le_refl _)) n1)
 clear f0 b0 p1 n1
 go_wp2_with fail
 refine bodyPost_ret (ret_row okS rfl _ _ _ _ (by rfl) HB.out.2) rfl ?_
 exact ⟨rfl,HB.out.1⟩
def doesF (D:Dft) (o:OpL):Dft × Int:=if o.Kind = 1 then putF D o.A o.ID else if o.Kind = 2 then moveF D o.A o.Z else if o.Kind = 3 then removeF D o.A else (D,0)
set_option maxRecDepth 100000 in
set_option maxHeartbeats 4000000 in
theorem does_any {W w:World} {P:Nat} {D:Dft} {d:DfW} {rs:List RwW} (h:Dw W w P D d rs) (ht:TreeOk D.rows) (hw:wfS D.next = true) (F:Fr noB W w) (hT:HasT W) (hM:HasMW W) (o:OpL) (hA:o.A.length < 4294967281) (hZ:o.Z.length < 4294967281) :
  Calls Tryz.prog 11 #[.pointer (some ⟨P,0,none⟩),.agg (codLp.A o)] w (DoTo W w P d (doesF D o)):=by
 have f0:Fr noB w (w.alloc (.cells (codLp.A o) 35)):=(Fr.refl noB w).alloc _
 have q0:=lpAt (Cod.rd_new (C:=codLp) w 35 o)
 have HP:=Lib.hid (wput_any (h.fr0 f0) ht hw (F.step0 f0) hT hM o.A hA o.ID)
 have HM:=Lib.hid (wmove_any (h.fr0 f0) ht hw (F.step0 f0) hT hM o.A o.Z hA hZ)
 have HR:=Lib.hid (remove_any (h.fr0 f0) ht hw (F.step0 f0) hT hM o.A hA)
 have HD:=Lib.hid (show doesF D o = if o.Kind = 1 then putF D o.A o.ID else if o.Kind = 2 then moveF D o.A o.Z else if o.Kind = 3 then removeF D o.A else (D,0) from rfl)
 have H0:=Lib.hid h
 have qk:=q0.kind
 have qA:=q0.A
 have qZ:=q0.Z
 have qI:=q0.id
 have F0:=Lib.hid f0
 have HSZ:=Lib.hid (show ∀ (d':DfW) (w1:World),Fr noB w w1 → dN w1 d d' → dN w d d' from fun d' w1 f k=>dN.trans (dN.refl w d) k f.size)
 clear h ht hw F hT hM hA hZ q0 f0
 go_enter Tryz.func11,Tryz.ntmps11
 go_upto_region 1 with fail
 obtain ⟨Q,eQ⟩:∃ Q,Q = w.heap.size:=⟨_,rfl⟩
 rw [← eQ] at qk qA qZ qI ⊢
 clear eQ
 generalize w.alloc (.cells (codLp.A o) 35) = w0 at qk qA qZ qI HP HM HR F0 ⊢
 by_cases h1:o.Kind = 1
 ·have b1:(o.Kind == 1) = true:=by simp [h1]
  have HN:=Lib.hid (HD.out.trans (if_pos h1))
  clear h1
  go_wp2_with (go_at_call 25;refine HP.out.mono ?_;rintro e w1 ⟨rfl,htw⟩)
  go_ret
  obtain ⟨⟨d',rs',hd,hn⟩,hf⟩:=htw
  exact ⟨by rw [HN.out];rfl,by rw [HN.out];exact ⟨⟨d',rs',hd,HSZ.out _ _ F0.out hn⟩,(wk0 F0.out).trans hf (fun _ _ h=>h)⟩⟩
 ·have b1:(o.Kind == 1) = false:=by simp [h1]
  have HD2:=Lib.hid (HD.out.trans (if_neg h1))
  clear h1
  by_cases h2:o.Kind = 2
  ·have b2:(o.Kind == 2) = true:=by simp [h2]
   have HN:=Lib.hid (HD2.out.trans (if_pos h2))
   clear h2
   go_wp2_with (go_at_call 26;refine HM.out.mono ?_;rintro e w1 ⟨rfl,htw⟩)
   go_ret
   obtain ⟨⟨d',rs',hd,hn⟩,hf⟩:=htw
   exact ⟨by rw [HN.out];rfl,by rw [HN.out];exact ⟨⟨d',rs',hd,HSZ.out _ _ F0.out hn⟩,(wk0 F0.out).trans hf (fun _ _ h=>h)⟩⟩
  ·have b2:(o.Kind == 2) = false:=by simp [h2]
   have HD3:=Lib.hid (HD2.out.trans (if_neg h2))
   clear h2
   by_cases h3:o.Kind = 3
   ·have b3:(o.Kind == 3) = true:=by simp [h3]
    have HN:=Lib.hid (HD3.out.trans (if_pos h3))
    clear h3
    go_wp2_with (go_at_call 27;refine HR.out.mono ?_;rintro e w1 ⟨rfl,htw⟩)
    go_ret
    obtain ⟨⟨d',rs',hd,hn⟩,hf⟩:=htw
    exact ⟨by rw [HN.out];rfl,by rw [HN.out];exact ⟨⟨d',rs',hd,HSZ.out _ _ F0.out hn⟩,(wk0 F0.out).trans hf (fun _ _ h=>h)⟩⟩
   ·have b3:(o.Kind == 3) = false:=by simp [h3]
    have HN:=Lib.hid (HD3.out.trans (if_neg h3))
    clear h3
    go_wp2_with fail
    go_ret
    exact ⟨by rw [HN.out];rfl,by rw [HN.out];exact DwTo.of0 H0.out F0.out⟩
end Go.Proofs.YthehiobacjjakaaGreatDoor
