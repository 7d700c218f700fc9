/- The law WorkNames: its walk. (ex_ldS_at ex_ldEn_at ex_ldEn_at) -/
import Derived.Test.YthehiobacjjakaaGreatDoorFrameLKn
import Derived.Test.YthehiobacjjakaaGreatDoorR13RKn
import Derived.Deep.CutRange
set_option linter.unusedVariables false
set_option linter.unusedSimpArgs false
namespace Go.Proofs.YthehiobacjjakaaGreatDoor
open Go.RowKit Go.Maps Go.Sort
section
open Go.ChangeShapes Go.WideShapes Go.ChangeAt Go.RowKit
variable {H:Type} {enc:TypeId × Value → H} {W:World}
set_option maxRecDepth 100000 in
theorem open_strO {base:Nat} {v:Value} {d:DataW H} {p:List MemPlace}
  (hv:Value.okWide Tryz.prog W .any base 9 v) (h:DataW.Trod enc Tryz.prog W 0 (fun _=>true) true 9 v d p) (hw:∀ n ∈ d.weights Tryz.prog 9,n ≤ reachBytes) :
  ∃ l:List UInt8,v = .string (str l) ∧ l.length ≤ 140737488355328:=by
 obtain ⟨s,rfl⟩:=okWide_string Tryz.underlying9 hv
 obtain ⟨fuel,hf⟩:=h
 obtain ⟨l,e,hl⟩:=td_str (x:=(d,p)) Tryz.underlying9 ⟨hf,hw⟩
 refine ⟨l,?_,hl⟩
 simpa [Value.cells] using e
end
theorem and_maskN (x:Int) (m:Nat) (hm:m ≤ 1023):∃ r:Nat,bits BinOp.and IntKind.i64 x (m:Int) = (r:Int) ∧ r ≤ m:=by
 refine ⟨(BitVec.ofInt 64 x &&& BitVec.ofInt 64 (m:Int)).toNat,?_,?_⟩
 ·have hle:(BitVec.ofInt 64 x &&& BitVec.ofInt 64 (m:Int)).toNat ≤ 1023:=by
   rw [BitVec.toNat_and]
   refine Nat.le_trans Nat.and_le_right ?_
   rw [BitVec.toNat_ofInt]
   omega
  show IntKind.i64.wrap (((BitVec.ofInt 64 x &&& BitVec.ofInt 64 (m:Int)).toNat:Nat):Int) = _
  rw [IntKind.wrap_i64]
  omega
 ·rw [BitVec.toNat_and]
  refine Nat.le_trans Nat.and_le_right ?_
  rw [BitVec.toNat_ofInt]
  omega
theorem bldRn (w:World) (s u:St) (m:List UInt8):(Instr.build 60 #[(0,.agg (codS.A s)),(2,.agg (codS.A u)),(3,.string (str m))]).run Tryz.prog w = .ok (.agg (codR.A ⟨s,zSt,u,m,none,0,0⟩)) w:=by
 have e:∀ s:St,codS.A s = #[.int .i64 s.T,.int .i64 s.R]:=fun s=>by rw [Cod.A_eq];rfl
 rw [e,e,Cod.A_eq];go_simp;rfl
@[simp ↓] theorem ex_bldRn (ρ:Operand → Value) (x0 x2 x3:Operand) (d:Option Nat) (t:TypeId) (p:String) (f:Array Edge) (g:Option (Nat × Bool)) (w:World) :
  (execOp ρ { dst:=d,op:=.build 60 #[(0,x0),(2,x2),(3,x3)],type:=t,pos:=p,after:=f,guard:=g }).run Tryz.prog w = mkB 60 w [(0,ρ x0),(2,ρ x2),(3,ρ x3)]:=(exB ρ _ _ _ rfl w).trans (by simp only [List.map_toArray,List.map_cons,List.map_nil])
@[simp] theorem mkB_Rn (w:World) (s u:St) (m:List UInt8):mkB 60 w [(0,.agg (codS.A s)),(2,.agg (codS.A u)),(3,.string (str m))] = .ok (.value (.agg (codR.A ⟨s,zSt,u,m,none,0,0⟩))) w:=mkB_ok (bldRn w s u m)
def rwN (r:Int) (nm:List UInt8) (i:Nat):RwW:=⟨⟨(i:Int) + 1,r⟩,zSt,⟨(i:Int) + 1,r⟩,nm,none,0,0⟩
def rwsN (r:Int) (nm:List UInt8) (n:Nat):List RwW:=(List.range n).map (rwN r nm)
theorem rwsN_len (r:Int) (nm:List UInt8) (n:Nat):(rwsN r nm n).length = n:=by simp [rwsN]
theorem rwsN_succ (r:Int) (nm:List UInt8) (n:Nat):rwsN r nm n ++ [rwN r nm n] = rwsN r nm (n + 1):=by simp [rwsN,List.range_succ]
theorem rwsN_in (w:World) {r:Int} (hr:0 ≤ r ∧ r ≤ 1024) {nm:List UInt8} (hn:nm.length ≤ 140737488355328) {n:Nat} (h8:n ≤ 8):RwsIn w (rwsN r nm n) (rowsN r nm n) :=
 ⟨by rw [rwsN_len,rowsN_len],fun i h1 h2=>by
  rw [rwsN_len] at h1
  rw [rowsN_get r nm n i h1]
  rw [show (rwsN r nm n)[i] = rwN r nm i by simp [rwsN]]
  refine ⟨rfl,rfl,Sl.nil _ _,by simp [rowN],hn,?_,(by decide:wfS zSt = true)⟩
  show wfS ⟨(i:Int) + 1,r⟩ = true
  simp only [wfS,Bool.and_eq_true,decide_eq_true_eq]
  omega⟩
def NmR (W:World) (r:Int) (nm:List UInt8) (n gk:Nat) (iv lv:Value) (wr:World):Prop :=
 ∃ (i:Nat) (A:Option Addr) (c:Nat),iv = .int .i64 (i:Int) ∧ lv = .slice A i c ∧ gk = n - i ∧ i ≤ n ∧ OwnC codR W wr A c (rwsN r nm i) ∧ Fr noB W wr
def cntN (l:List UInt8) (ys:List EnP) (j:Nat):Nat:=((ys.take j).filter fun y=>decide (y.Path = l)).length
theorem cntN_succ (l:List UInt8) (ys:List EnP) (j:Nat) (h:j < ys.length):cntN l ys (j + 1) = cntN l ys j + (if ys[j].Path = l then 1 else 0):=by
 unfold cntN
 rw [List.take_succ_eq_append_getElem h,List.filter_append,List.length_append]
 by_cases e:ys[j].Path = l <;> simp [e]
theorem cntN_all (l:List UInt8) (ys:List EnP):cntN l ys ys.length = (ys.filter fun y=>decide (y.Path = l)).length:=by unfold cntN;rw [List.take_length]
theorem cntN_le (l:List UInt8) (ys:List EnP) (j:Nat):cntN l ys j ≤ ys.length:=by
 unfold cntN
 exact Nat.le_trans (List.length_filter_le _ _) (by simp;omega)
def PlN (W:World) (l:List UInt8) (ys:List EnP) (gk:Nat) (iv pv:Value) (wr:World):Prop :=
 ∃ j:Nat,iv = .int .i64 (j:Int) ∧ pv = .int .i64 ((cntN l ys j:Nat):Int) ∧ gk = ys.length - j ∧ j ≤ ys.length ∧ Fr noB W wr
theorem ex_geN_at {ρ:Operand → Value} {o:Oper} {x y:Operand} {w:World} {a b:List UInt8} (ho:o.op = .binOp .geq 9 x y 9) (hx:ρ x = .string (str a)) (hy:ρ y = .string (str b)) :
  (execOp ρ o).run Tryz.prog w = .ok (.value (.bool (!Op.bytesLess a b))) w:=by
 have ha:=str_toList a
 have hb:=str_toList b
 obtain ⟨d,op,t,p,f,g⟩:=o
 simp only at ho
 subst ho
 unfold execOp
 simp only [hx,hy]
 go_simp
theorem ext_str0 {a b:List UInt8} (hb:a.take b.length = b):(str a).extract 0 b.length = str b:=by
  apply ByteArray.ext
  rw [ByteArray.data_extract]
  show (a.toArray.extract 0 b.length) = b.toArray
  apply Array.toList_inj.1
  simp only [Array.toList_extract,List.extract_eq_take_drop,List.drop_zero]
  simpa using hb
theorem ex_slP_at {ρ:Operand → Value} {o:Oper} {x y:Operand} {w:World} {a b:List UInt8} {k:IntKind} {m:Int} (ho:o.op = .slice 9 x none (some y) none) (hx:ρ x = .string (str a)) (hy:ρ y = .int k m) (hm:m = (b.length:Int)) (hb:a.take b.length = b) (hl:b.length ≤ a.length) :
  (execOp ρ o).run Tryz.prog w = .ok (.value (.string (str b))) w:=by
 have e:=ext_str0 hb
 have hs:((str a).size:Int) = (a.length:Int):=by rw [sz_str]
 obtain ⟨d,op,t,p,f,g⟩:=o
 simp only at ho
 subst ho
 subst hm
 have c:(0:Int) ≤ (b.length:Int) ∧ (b.length:Int) ≤ ((str a).size:Int):=⟨by omega,by rw [hs];omega⟩
 unfold execOp
 simp only [hx,hy]
 go_simp
set_option maxRecDepth 100000 in
set_option maxHeartbeats 4000000 in
theorem names17_any (W0:World) (hT0:HasT W0) (hM0:HasMW W0) (a0:Int) (l:List UInt8) (hl:l.length ≤ 140737488355328) (a2:Int) :
  Calls Tryz.prog 6 #[.int .i64 a0,.string (str l),.int .i64 a2] W0 (Gives W0 (.bool true)):=by
 have HT0:=Lib.hid hT0
 have HM0:=Lib.hid hM0
 have HLL:=Lib.hid hl
 have AL:=Lib.hid (alive17_any W0 hT0 hM0)
 obtain ⟨x,ex,hx⟩:=and_maskN a0 7 (by omega)
 obtain ⟨y,ey,hy⟩:=and_maskN a2 1023 (by omega)
 have wx:IntKind.i64.wrap (1 + (x:Int)) = ((x + 1:Nat):Int):=by rw [IntKind.wrap_i64];omega
 have wy:IntKind.i64.wrap (1 + (y:Int)) = ((y + 1:Nat):Int):=by rw [IntKind.wrap_i64];omega
 have ex':bits BinOp.and IntKind.i64 a0 7 = (x:Int):=ex
 have ey':bits BinOp.and IntKind.i64 a2 1023 = (y:Int):=ey
 clear hT0 hM0 hl ex ey
 obtain ⟨n,hn⟩:∃ n,n = x + 1:=⟨_,rfl⟩
 obtain ⟨r,hr⟩:∃ r,r = y + 1:=⟨_,rfl⟩
 have HN:=Lib.hid (show 1 ≤ n ∧ n ≤ 8 by omega)
 have HR:=Lib.hid (show 1 ≤ r ∧ r ≤ 1024 by omega)
 rw [← hn] at wx
 rw [← hr] at wy
 clear hn hr hx hy
 go_enter Tryz.func6,Tryz.ntmps6
 go_upto_region 6 with (go_at_call 8;refine AL.out.mono ?_;rintro e w1 ⟨rfl,f1⟩)
 have FW:=Lib.hid f1
 have HT:=Lib.hid (HT0.out.fr FW.out)
 have HM:=Lib.hid (HM0.out.fr FW.out)
 have fa:Fr noB w1 (w1.alloc (.cells #[] 60)):=(Fr.refl noB w1).alloc _
 have own0:OwnC codR w1 (w1.alloc (.cells #[] 60)) (some ⟨w1.heap.size,0,none⟩) 0 []:=World.ownsRow_lit (base:=w1.heap.size) (e:=60) (size:=8) w1 #[] 0 (Nat.le_refl _) (by unfold maxLen;omega) (by simp)
 have H0:=Lib.hid (show NmR w1 (r:Int) l n n (.int .i64 ((0:Nat):Int)) (.slice (some ⟨w1.heap.size,0,none⟩) 0 0) (w1.alloc (.cells #[] 60)) from ⟨0,_,0,rfl,rfl,by omega,by omega,own0,fa⟩)
 clear fa own0 f1
 generalize w1.alloc (.cells #[] 60) = w2 at H0 ⊢
 generalize (some ⟨w1.heap.size,0,none⟩:Option Addr) = B0 at H0 ⊢
 go_wp2_with fail
 go_loopg [8,7] n (fun gk iv lv wr=>NmR w1 (r:Int) l n gk iv lv wr)
 case atStart=>exact H0.out
 case round =>
  clear H0
  obtain ⟨i,A,c,rfl,rfl,rfl,hi,ho,hf⟩:=hrel
  have HO:=Lib.hid ho
  have HF:=Lib.hid hf
  clear ho hf
  by_cases hlt:i < n
  ·have i1:(i:Int) < (n:Int):=by omega
   have wi:IntKind.i64.wrap ((i:Int) + 1) = (i:Int) + 1:=by rw [IntKind.wrap_i64];have:=HN.out;omega
   have HLT:=Lib.hid hlt
   clear hlt hi
   have f4:Fr noB wr (wr.alloc (codS.o ⟨(i:Int) + 1,(r:Int)⟩)):=(Fr.refl noB wr).alloc _
   have q4:=Cod.rd_new' (C:=codS) wr ⟨(i:Int) + 1,(r:Int)⟩
   have sl:=Cod.sl_new (C:=codR) (wr.alloc (codS.o ⟨(i:Int) + 1,(r:Int)⟩)) [rwN r l i]
   rw [show (wr.alloc (codS.o ⟨(i:Int) + 1,(r:Int)⟩)).heap.size = wr.heap.size + 1 by simp] at sl
   have f5:Fr noB wr ((wr.alloc (codS.o ⟨(i:Int) + 1,(r:Int)⟩)).alloc (codR.ro [rwN r l i])):=f4.alloc _
   have ho5:=Lib.hid (own_new0 HO.out f5)
   have F5:=Lib.hid (HF.out.step0 f5)
   have sz:=F5.out.size
   have hln:(rwsN (r:Int) l i).length = i:=rwsN_len _ _ _
   have HB:=Lib.hid (show ((rwsN (r:Int) l i).length + [rwN (r:Int) l i].length) * 128 ≤ 140737488355328 by rw [hln];have:=HN.out;have:=HLT.out;simp only [List.length_singleton];omega)
   clear f4 f5
   go_wp2_with (at_builtin;refine wpList_appC' etR w1 _ rfl _ _ rfl A i c (rwsN (r:Int) l i) rfl hln ho5.out (some ⟨wr.heap.size + 1,0,none⟩) 1 1 [rwN (r:Int) l i] rfl sl rfl (by have:=HB.out;omega) sz ?_;intro A8 c8 w8 hc8 hmx8 ho8 hg8 hA8)
   have f8:=Fr.own' F5.out ho5.out hg8
   go_roundg (n - (i + 1))
   case measure=>have:=HLT.out;omega
   case rel=>exact ⟨i + 1,A8,c8,by first | rfl | exact congrArg (Value.int .i64) wi,rfl,rfl,by have:=HLT.out;omega,by rw [← rwsN_succ];exact ho8,f8⟩
  ·have i1:¬ (i:Int) < (n:Int):=by omega
   have hin:i = n:=by omega
   subst hin
   clear hlt hi i1
   have HRI:=Lib.hid (fun w=>rwsN_in w (r:=(r:Int)) (by have:=HR.out;omega) HLL.out (n:=i) (by have:=HN.out;omega))
   have hbd:∀ x ∈ rowsN (r:Int) l i,x.Heads.length ≤ 2932031007402:=fun x hx=>by obtain ⟨j,_,rfl⟩:=rowsN_mem.1 hx;simp [rowN]
   have HBD:=Lib.hid hbd
   have hln:(rwsN (r:Int) l i).length = i:=rwsN_len _ _ _
   have hlx:(rowsN (r:Int) l i).length = i:=rowsN_len _ _ _
   have HLN:=Lib.hid hln
   have RT:=Lib.hid (r13right_any wr A c i (rwsN r l i) (rowsN r l i) hln (Sl.own HO.out) (by have:=HN.out;omega) (HRI.out wr))
   clear hbd hln
   have HNP:=Lib.hid (fun (ht:TreeOk (rowsN (r:Int) l i)) ys (h:LiP (rowsN (r:Int) l i) ys)=>nmP (show 0 < i by have:=HN.out;omega) ht h)
   have HLX:=Lib.hid hlx
   clear hlx
   generalize rwsN (r:Int) l i = rs at HRI HO HLN RT
   have LI:=Lib.hid (fun w6 (f6:Fr noB wr w6)=>li_any w6 A c i rs (rowsN (r:Int) l i) HLN.out ((Sl.own HO.out).fr0 f6) (by have:=HLN.out;have:=HN.out;omega) (HRI.out w6) HBD.out (HT.out.fr (HF.out.step0 f6)))
   by_cases hT:TreeOk (rowsN (r:Int) l i)
   case neg =>
    have HNT:=Lib.hid hT
    clear hT
    go_wp2_with (first
     | (go_at_call 23;refine RT.out.mono ?_;rintro e w6 ⟨b,rfl,f6,hbb⟩;rw [show b = false by (cases b with | false=>rfl | true=>exact absurd (hbb.1 rfl) HNT.out)])
     | (go_at_call 21;refine (LI.out _ f6).mono ?_;rintro e w7 ⟨A7,c7,os,ys,rfl,o7,a7,y7,f7⟩;rw [show os.length = 0 by (rw [a7.1,y7.none HNT.out];rfl)]))
    go_ret
    exact ⟨rfl,FW.out.step0 (HF.out.step0 (f6.step0 f7))⟩
   case pos =>
    have HTR:=Lib.hid hT
    clear hT
    have HXS:=Lib.hid (show newD (rowsN (r:Int) l i) = rowsN (r:Int) l i by unfold newD;rw [if_pos (rightB_iff.2 HTR.out)])
    go_upto_region 14 with (first
     | (go_at_call 23;refine RT.out.mono ?_;rintro e w6 ⟨b,rfl,f6,hbb⟩;rw [hbb.2 HTR.out])
     | (go_at_call 21;refine (LI.out _ f6).mono ?_;rintro e w7 ⟨A7,c7,os,ys,rfl,o7,a7,y7,f7⟩))
    have F7:=Lib.hid (HF.out.step0 (f6.step0 f7))
    have HO7:=Lib.hid (own_new0 (own_new0 HO.out f6) f7)
    have HSO:=Lib.hid (Sl.own o7)
    have HOY:=Lib.hid a7
    have HNM:=Lib.hid (HNP.out HTR.out ys y7)
    have hlo:os.length = i:=by rw [a7.1];exact HNM.out.len
    have HLO:=Lib.hid hlo
    have NC:=Lib.hid (fun w' (f:Fr noB w7 w')=>by have:=new_call w' A c i rs (rowsN (r:Int) l i) HLN.out ((Sl.own HO7.out).fr0 f) (by have:=HLN.out;have:=HN.out;omega) (HRI.out w') HBD.out ⟨10,1⟩;rw [HXS.out] at this;exact this)
    clear f6 hbb f7 o7 a7 y7 LI HNP RT
    rw [hlo]
    go_upto_region 17 with (first
     | (go_at_call 24;refine (start_any _).mono ?_;rintro e w8 ⟨rfl,f8⟩)
     | (go_at_call 9;refine (NC.out _ f8).mono ?_;rintro e w9 ⟨⟨P,d0,rs0,rfl,hd0⟩,f9⟩))
    have FW9:=Lib.hid (F7.out.step0 (f8.step0 f9))
    have HD:=Lib.hid hd0
    have HS9:=Lib.hid (HSO.out.fr0 (f8.step0 f9))
    have H1:=Lib.hid (show PlN w9 l ys ys.length (.int .i64 ((0:Nat):Int)) (.int .i64 ((0:Nat):Int)) w9 from ⟨0,rfl,rfl,rfl,Nat.zero_le _,Fr.refl _ _⟩)
    have HYL:=Lib.hid HNM.out.len
    clear f8 f9 hd0 NC HSO
    have HIY:=Lib.hid (show os.length = ys.length by rw [HLO.out,HYL.out])
    go_wp2_with fail
    go_loopg [61,12] ys.length (fun gk iv pv wr=>PlN w9 l ys gk iv pv wr)
    case atStart=>exact H1.out
    case round =>
     clear H1
     obtain ⟨j,rfl,rfl,rfl,hj,hf⟩:=hrel
     have HF2:=Lib.hid hf
     clear hf
     by_cases hjl:j < i
     ·have i2:(j:Int) < (i:Int):=by omega
      have i0:(0:Int) ≤ (j:Int):=by omega
      have hjo:j < os.length:=by rw [HLO.out];exact hjl
      have hjy:j < ys.length:=by rw [HYL.out];exact hjl
      have hsl:=HS9.out.fr0 HF2.out
      obtain ⟨g,off,rfl,hg⟩:=Sl.addr hsl (by omega)
      have ro:codEn.rd wr g (off + j * 4) = some os[j]:=Sl.rd hsl j hjo
      have hex:=HOY.out.2 j hjo hjy
      have hmem:=List.getElem_mem hjy
      have HPL:=Lib.hid (show (os[j]).Path.length ≤ 755000 by rw [← hex.path];exact HNM.out.plen _ hmem)
      have HPT:=Lib.hid (show (os[j]).Path.take l.length = l ∧ l.length ≤ (os[j]).Path.length by rw [← hex.path];exact HNM.out.pre _ hmem)
      have HFI:=Lib.hid (show (os[j]).Path.length ≤ 60 → findD (rowsN (r:Int) l i) (os[j]).Path = ((os[j]).Node,true) by rw [← hex.path,← hex.node];exact HNM.out.find _ hmem)
      have HCN:=Lib.hid (show cntN l ys (j + 1) = cntN l ys j + (if (os[j]).Path = l then 1 else 0) by rw [← hex.path];exact cntN_succ l ys j hjy)
      have HPR:=Lib.hid (show ∀ q,q + 1 = j → ∃ pp:List UInt8,wr.cell? ⟨g,off + q * 4,none⟩ = some (.string (str pp)) ∧ Op.bytesLess pp (os[j]).Path = true from fun q hq=>by
       have hq1:q < os.length:=by omega
       have hq2:q < ys.length:=by omega
       refine ⟨(os[q]).Path,(enAtO (Sl.rd hsl q hq1)).path,?_⟩
       rw [← hex.path,← (HOY.out.2 q hq1 hq2).path]
       exact List.pairwise_iff_getElem.1 HNM.out.rise q j hq2 hjy (by omega))
      generalize os[j] = x at ro HPL HFI HPR HPT HCN
      have HJL:=Lib.hid hjl
      clear hsl hg hjl hjy hjo hex hmem hj
      go_upto_region 21 with fail
      have f8:Fr noB wr (wr.alloc (codEn.o x)):=(Fr.refl noB wr).alloc _
      have q8:=Cod.rd_new' (C:=codEn) wr x
      have HPR8:=Lib.hid (fun q hq=>(show ∃ pp:List UInt8,(wr.alloc (codEn.o x)).cell? ⟨g,off + q * 4,none⟩ = some (.string (str pp)) ∧ Op.bytesLess pp x.Path = true from by obtain ⟨pp,h1,h2⟩:=HPR.out q hq;exact ⟨pp,cell_fr0 h1 f8,h2⟩))
      have F8:=Lib.hid (HF2.out.step0 f8)
      clear ro f8 HPR
      generalize wr.alloc (codEn.o x) = w8 at q8 HPR8 F8 ⊢
      generalize wr.heap.size = X at q8 ⊢
      have qp:=(enAt q8).path
      have qn:=(enAt q8).node
      have Q8:=Lib.hid q8
      have FC:=Lib.hid (fun w' (f:Fr noB w8 w')=>find_call (HD.out.fr0 (F8.out.step0 f)) (by have:=HLX.out;have:=HN.out;show (rowsN (r:Int) l i).length ≤ _;omega) (HT.out.fr (FW9.out.step0 (F8.out.step0 f))) (HM.out.fr (FW9.out.step0 (F8.out.step0 f))) x.Path (by have:=HPL.out;omega))
      have HWJ:=Lib.hid (IntWalk.wrap64_in ((j:Int) + 1) (by have:=HN.out;have:=HJL.out;omega))
      have HCL:=Lib.hid (cntN_le l ys j)
      obtain ⟨K,hK⟩:∃ K,K = cntN l ys (j + 1):=⟨_,rfl⟩
      have HK:=Lib.hid hK
      rw [← hK] at HCN
      clear hK q8
      by_cases hpl:x.Path = l
      ·have hb:((str x.Path).toList == (str l).toList) = true:=by rw [hpl];exact beq_self_eq_true _
       have hw:IntKind.i64.wrap (((cntN l ys j:Nat):Int) + 1) = ((K:Nat):Int):=by rw [IntKind.wrap_i64];have h1:=HCN.out;rw [if_pos hpl] at h1;have:=HCL.out;have:=HYL.out;have:=HN.out;omega
       clear hpl
       go_upto_region 23 with fail
       have FD:=Lib.hid (show Fr noB w8 w8.drew from (Fr.refl noB w8).drew)
       have hx1:=cell_fr0 (enAt Q8.out).path FD.out
       have hp1:=HPT.out.1
       have hp2:=HPT.out.2
       have hls:¬ (str x.Path).size < (str l).size:=by rw [sz_str,sz_str];omega
       have HSZ:=Lib.hid (show ((str l).size:Int) = (l.length:Int) by rw [sz_str])
       clear qp qn
       by_cases hj0:j = 0
       ·have n0:¬ (0:Int) < (j:Int):=by omega
        have n0':¬ 0 < j:=by omega
        clear hj0
        refine wp_region_M 29 30 [⟨4722366482869645213696,16384,0⟩,⟨9444732965739290427392,4722366482869645213696,1⟩,⟨18889465931478580854784,9444732965739290427392,2⟩,⟨37778931862957161709568,2,0⟩,⟨75557863725914323419136,37778931862957161709568,8⟩,⟨151115727451828646838272,94447329657392904273920,20⟩,⟨302231454903657293676544,151115727451828646838272,32⟩,⟨604462909807314587353088,302231454903657293692928,64⟩,⟨1208925819614629174706176,906694364710971881029632,192⟩,⟨2417851639229258349412352,302231454903657293676546,64⟩,⟨4835703278458516698824704,2720083094132915643088896,576⟩,⟨9671406556917033397649408,6346860552976803167207424,1344⟩,⟨19342813113834066795298816,302231454903657293676546,64⟩,⟨38685626227668133590597632,29316451125654757486624768,6208⟩,⟨77371252455336267181195264,38987857682571790884274176,8256⟩,⟨154742504910672534362390528,77371252455336267181195264,16448⟩,⟨309485009821345068724781056,154742504910672534362398720,32768⟩,⟨618970019642690137449562112,464227514732017603087171584,98304⟩,⟨1237940039285380274899124224,773712524553362671811952640,163840⟩,⟨2475880078570760549798248448,1237940039285380274899125248,262144⟩,⟨4951760157141521099596496896,1237940039285380274899132416,262144⟩,⟨9903520314283042199192993792,6189700196426901374495621120,1310720⟩,⟨19807040628566084398385987584,13617340432139183023890366464,2883584⟩,⟨39614081257132168796771975168,21044980667851464673285111808,4456448⟩,⟨79228162514264337593543950336,40852021296417549071671099392,8650752⟩,⟨158456325028528675187087900672,1237940039285380274899140608,262144⟩,⟨316912650057057350374175801344,159694265067814055461987024896,33816576⟩,⟨633825300114114700748351602688,397378752610607068242618875904,84148224⟩,⟨1267650600228229401496703205376,635217982658310753557613117440,134512640⟩,⟨2535301200456458802993406410752,1267805342733140074031065595904,268468224⟩] [(true,0),(true,1),(true,2),(true,3),(true,4),(true,5),(true,6),(true,7),(true,8),(true,9),(true,10),(true,11),(true,12),(true,13),(true,14),(true,15),(true,16),(true,17),(true,18),(true,19),(true,20),(true,21),(true,22),(true,23),(true,24),(true,25),(true,26),(true,27),(true,28)] (fun w'=>w'.cell? ⟨X,0,none⟩ = some (.string (str x.Path))) (by kernel_rfl) rfl (by kernel_rfl) (by kernel_rfl) (by kernel_rfl) hx1 (fun hA hF=>?_)
        iterate 11
         refine wpAnyS_take (v:=?_) hA rfl (fun _ _ _ h=>h) (Or.inl ⟨by rfl,?_⟩) hF (fun hA=>?_)
         rotate_left
         ·intro wS hSw;(try dsimp only at hSw);obtain s1:=hSw;first | (apply Eq.trans;apply ex_ldS_at;exact rfl;exact rfl;assumption;with_reducible rfl) | (go_simp;try with_reducible rfl)
         try simp only [sA1,sA2,sA3,Act.put,sA4,sA5,sA6]
        refine wpAnyS_take (v:=.string (str l)) hA rfl (fun _ _ _ h=>h) (Or.inl ⟨by rfl,fun wS hSw=>ex_slP_at rfl rfl rfl HSZ.out hp1 hp2⟩) hF (fun hA=>?_)
        try simp only [sA1,sA2,sA3,Act.put,sA4,sA5,sA6]
        iterate 7
         refine wpAnyS_take (v:=?_) hA rfl (fun _ _ _ h=>h) (Or.inl ⟨by rfl,?_⟩) hF (fun hA=>?_)
         rotate_left
         ·intro wS hSw;(try dsimp only at hSw);obtain s1:=hSw;first | (apply Eq.trans;apply ex_ldS_at;exact rfl;exact rfl;assumption;with_reducible rfl) | (go_simp;try with_reducible rfl)
         try simp only [sA1,sA2,sA3,Act.put,sA4,sA5,sA6]
        iterate 9
         refine wpAnyS_take (v:=undef) hA rfl (fun _ _ _ h=>h) (Or.inr ⟨by rfl,rfl⟩) hF (fun hA=>?_)
         try simp only [sA1,sA2,sA3,Act.put,sA4,sA5,sA6]
        refine wpAnyS_take (v:=?_) hA rfl (fun _ _ _ h=>h) (Or.inl ⟨by rfl,?_⟩) hF (fun hA=>?_)
        rotate_left
        ·intro wS hSw;(try dsimp only at hSw);obtain s1:=hSw;first | (apply Eq.trans;apply ex_ldS_at;exact rfl;exact rfl;assumption;with_reducible rfl) | (go_simp;try with_reducible rfl)
        try simp only [sA1,sA2,sA3,Act.put,sA4,sA5,sA6]
        refine wpAnyS_end hA rfl ?_
        simp only [List.drop_succ_cons,List.drop_zero]
        clear hF
        have FC1:=FC.out _ FD.out
        have hfe:∃ fo,findD (rowsN (r:Int) l i) x.Path = fo:=⟨_,rfl⟩
        obtain ⟨fo,hfo⟩:=hfe
        have HFO:=Lib.hid (show x.Path.length ≤ 60 → fo = (x.Node,true) from fun h=>by rw [← hfo];exact HFI.out h)
        have FC2:Calls Tryz.prog 18 #[.pointer (some ⟨P,0,none⟩),.string (str x.Path)] w8.drew (FdTo w8.drew fo):=by rw [← hfo];exact FC1
        have FC3:=Lib.hid FC2
        clear FC1 FC2 hfo
        go_upto_region 26 with (go_at_call 18;refine FC3.out.mono ?_;rintro e w9 ⟨rfl,f9⟩)
        have f10:=f9.step0 ((Fr.refl noB w9).alloc (codS.o fo.1))
        have q10:codS.rd (w9.alloc (codS.o fo.1)) w9.heap.size 0 = some fo.1:=Cod.rd_new' (C:=codS) w9 fo.1
        have F10:=Lib.hid ((F8.out.step0 FD.out).step0 f10)
        have Q10:=Cod.rd_fr0 (Cod.rd_fr0 Q8.out FD.out) f10
        have qa:=(enAt Q10).path
        have qb:=(enAt Q10).node
        clear f9 f10 FC3 Q10 hx1
        generalize w9.alloc (codS.o fo.1) = w10 at q10 F10 qa qb ⊢
        generalize w9.heap.size = N at q10 ⊢
        obtain ⟨fs,fb⟩:=fo
        by_cases h60:x.Path.length ≤ 60
        ·have i60:(str x.Path).size ≤ 60:=by rw [sz_str];exact h60
         have i60':((str x.Path).size:Int) ≤ 60:=by omega
         have he:=HFO.out h60
         injection he with he1 he2
         subst he1
         subst he2
         clear h60
         go_wp2_with fail
         go_roundg (ys.length - (j + 1))
         case measure=>have:=HJL.out;have:=HYL.out;omega
         case rel=>exact ⟨j + 1,by first | (simp;done) | (rw [HWJ.out];rfl) | exact congrArg (Value.int .i64) HWJ.out,by rw [← HK.out],rfl,by have:=HJL.out;have:=HYL.out;omega,F10.out⟩
        ·have i60:¬ (str x.Path).size ≤ 60:=by rw [sz_str];exact h60
         have i60':¬ ((str x.Path).size:Int) ≤ 60:=by omega
         clear h60
         go_wp2_with fail
         go_roundg (ys.length - (j + 1))
         case measure=>have:=HJL.out;have:=HYL.out;omega
         case rel=>exact ⟨j + 1,by first | (simp;done) | (rw [HWJ.out];rfl) | exact congrArg (Value.int .i64) HWJ.out,by rw [← HK.out],rfl,by have:=HJL.out;have:=HYL.out;omega,F10.out⟩
       ·obtain ⟨q,hq⟩:∃ q:Nat,q + 1 = j:=⟨j - 1,by omega⟩
        have n0:(0:Int) < (j:Int):=by omega
        have n0':0 < j:=by omega
        have wq:IntKind.i64.wrap ((j:Int) - 1) = (q:Int):=by rw [IntKind.wrap_i64];have:=HJL.out;have:=HN.out;omega
        have c0:(0:Int) ≤ (q:Int):=by omega
        have c1:(q:Int) < (i:Int):=by have:=HJL.out;omega
        obtain ⟨pp,hpp,hps⟩:=HPR8.out q hq
        have hx4:=cell_fr0 hpp FD.out
        clear hj0 hq hpp
        refine wp_region_M 29 30 [⟨4722366482869645213696,16384,0⟩,⟨9444732965739290427392,4722366482869645213696,1⟩,⟨18889465931478580854784,9444732965739290427392,2⟩,⟨37778931862957161709568,2,0⟩,⟨75557863725914323419136,37778931862957161709568,8⟩,⟨151115727451828646838272,94447329657392904273920,20⟩,⟨302231454903657293676544,151115727451828646838272,32⟩,⟨604462909807314587353088,302231454903657293692928,64⟩,⟨1208925819614629174706176,906694364710971881029632,192⟩,⟨2417851639229258349412352,302231454903657293676546,64⟩,⟨4835703278458516698824704,2720083094132915643088896,576⟩,⟨9671406556917033397649408,6346860552976803167207424,1344⟩,⟨19342813113834066795298816,302231454903657293676546,64⟩,⟨38685626227668133590597632,29316451125654757486624768,6208⟩,⟨77371252455336267181195264,38987857682571790884274176,8256⟩,⟨154742504910672534362390528,77371252455336267181195264,16448⟩,⟨309485009821345068724781056,154742504910672534362398720,32768⟩,⟨618970019642690137449562112,464227514732017603087171584,98304⟩,⟨1237940039285380274899124224,773712524553362671811952640,163840⟩,⟨2475880078570760549798248448,1237940039285380274899125248,262144⟩,⟨4951760157141521099596496896,1237940039285380274899132416,262144⟩,⟨9903520314283042199192993792,6189700196426901374495621120,1310720⟩,⟨19807040628566084398385987584,13617340432139183023890366464,2883584⟩,⟨39614081257132168796771975168,21044980667851464673285111808,4456448⟩,⟨79228162514264337593543950336,40852021296417549071671099392,8650752⟩,⟨158456325028528675187087900672,1237940039285380274899140608,262144⟩,⟨316912650057057350374175801344,159694265067814055461987024896,33816576⟩,⟨633825300114114700748351602688,397378752610607068242618875904,84148224⟩,⟨1267650600228229401496703205376,635217982658310753557613117440,134512640⟩,⟨2535301200456458802993406410752,1267805342733140074031065595904,268468224⟩] [(true,0),(true,1),(true,2),(true,3),(true,4),(true,5),(true,6),(true,7),(true,8),(true,9),(true,10),(true,11),(true,12),(true,13),(true,14),(true,15),(true,16),(true,17),(true,18),(true,19),(true,20),(true,21),(true,22),(true,23),(true,24),(true,25),(true,26),(true,27),(true,28)] (fun w'=>w'.cell? ⟨X,0,none⟩ = some (.string (str x.Path)) ∧ w'.cell? ⟨g,off + q * 4,none⟩ = some (.string (str pp))) (by kernel_rfl) rfl (by kernel_rfl) (by kernel_rfl) (by kernel_rfl) ⟨hx1,hx4⟩ (fun hA hF=>?_)
        iterate 11
         refine wpAnyS_take (v:=?_) hA rfl (fun _ _ _ h=>h) (Or.inl ⟨by rfl,?_⟩) hF (fun hA=>?_)
         rotate_left
         ·intro wS hSw;(try dsimp only at hSw);obtain ⟨s1,s2⟩:=hSw;first | (apply Eq.trans;apply ex_ldS_at;exact rfl;exact rfl;assumption;with_reducible rfl) | (go_simp;try with_reducible rfl)
         try simp only [sA1,sA2,sA3,Act.put,sA4,sA5,sA6]
        refine wpAnyS_take (v:=.string (str l)) hA rfl (fun _ _ _ h=>h) (Or.inl ⟨by rfl,fun wS hSw=>ex_slP_at rfl rfl rfl HSZ.out hp1 hp2⟩) hF (fun hA=>?_)
        try simp only [sA1,sA2,sA3,Act.put,sA4,sA5,sA6]
        iterate 15
         refine wpAnyS_take (v:=?_) hA rfl (fun _ _ _ h=>h) (Or.inl ⟨by rfl,?_⟩) hF (fun hA=>?_)
         rotate_left
         ·intro wS hSw;(try dsimp only at hSw);obtain ⟨s1,s2⟩:=hSw;first | (apply Eq.trans;apply ex_ldS_at;exact rfl;exact rfl;assumption;with_reducible rfl) | (go_simp;try with_reducible rfl)
         try simp only [sA1,sA2,sA3,Act.put,sA4,sA5,sA6]
        refine wpAnyS_take (v:=.bool false) hA rfl (fun _ _ _ h=>h) (Or.inl ⟨by rfl,fun wS hSw=>(ex_geN_at rfl rfl rfl).trans (by rw [hps];rfl)⟩) hF (fun hA=>?_)
        try simp only [sA1,sA2,sA3,Act.put,sA4,sA5,sA6]
        refine wpAnyS_take (v:=?_) hA rfl (fun _ _ _ h=>h) (Or.inl ⟨by rfl,?_⟩) hF (fun hA=>?_)
        rotate_left
        ·intro wS hSw;(try dsimp only at hSw);obtain ⟨s1,s2⟩:=hSw;first | (apply Eq.trans;apply ex_ldS_at;exact rfl;exact rfl;assumption;with_reducible rfl) | (go_simp;try with_reducible rfl)
        try simp only [sA1,sA2,sA3,Act.put,sA4,sA5,sA6]
        clear hx4
        refine wpAnyS_end hA rfl ?_
        simp only [List.drop_succ_cons,List.drop_zero]
        clear hF
        have FC1:=FC.out _ FD.out
        have hfe:∃ fo,findD (rowsN (r:Int) l i) x.Path = fo:=⟨_,rfl⟩
        obtain ⟨fo,hfo⟩:=hfe
        have HFO:=Lib.hid (show x.Path.length ≤ 60 → fo = (x.Node,true) from fun h=>by rw [← hfo];exact HFI.out h)
        have FC2:Calls Tryz.prog 18 #[.pointer (some ⟨P,0,none⟩),.string (str x.Path)] w8.drew (FdTo w8.drew fo):=by rw [← hfo];exact FC1
        have FC3:=Lib.hid FC2
        clear FC1 FC2 hfo
        go_upto_region 26 with (go_at_call 18;refine FC3.out.mono ?_;rintro e w9 ⟨rfl,f9⟩)
        have f10:=f9.step0 ((Fr.refl noB w9).alloc (codS.o fo.1))
        have q10:codS.rd (w9.alloc (codS.o fo.1)) w9.heap.size 0 = some fo.1:=Cod.rd_new' (C:=codS) w9 fo.1
        have F10:=Lib.hid ((F8.out.step0 FD.out).step0 f10)
        have Q10:=Cod.rd_fr0 (Cod.rd_fr0 Q8.out FD.out) f10
        have qa:=(enAt Q10).path
        have qb:=(enAt Q10).node
        clear f9 f10 FC3 Q10 hx1
        generalize w9.alloc (codS.o fo.1) = w10 at q10 F10 qa qb ⊢
        generalize w9.heap.size = N at q10 ⊢
        obtain ⟨fs,fb⟩:=fo
        by_cases h60:x.Path.length ≤ 60
        ·have i60:(str x.Path).size ≤ 60:=by rw [sz_str];exact h60
         have i60':((str x.Path).size:Int) ≤ 60:=by omega
         have he:=HFO.out h60
         injection he with he1 he2
         subst he1
         subst he2
         clear h60
         go_wp2_with fail
         go_roundg (ys.length - (j + 1))
         case measure=>have:=HJL.out;have:=HYL.out;omega
         case rel=>exact ⟨j + 1,by first | (simp;done) | (rw [HWJ.out];rfl) | exact congrArg (Value.int .i64) HWJ.out,by rw [← HK.out],rfl,by have:=HJL.out;have:=HYL.out;omega,F10.out⟩
        ·have i60:¬ (str x.Path).size ≤ 60:=by rw [sz_str];exact h60
         have i60':¬ ((str x.Path).size:Int) ≤ 60:=by omega
         clear h60
         go_wp2_with fail
         go_roundg (ys.length - (j + 1))
         case measure=>have:=HJL.out;have:=HYL.out;omega
         case rel=>exact ⟨j + 1,by first | (simp;done) | (rw [HWJ.out];rfl) | exact congrArg (Value.int .i64) HWJ.out,by rw [← HK.out],rfl,by have:=HJL.out;have:=HYL.out;omega,F10.out⟩
      ·have hb:((str x.Path).toList == (str l).toList) = false:=by rw [beq_eq_false_iff_ne];intro e;rw [str_toList,str_toList] at e;exact hpl e
       have hkc:cntN l ys j = K:=by have h1:=HCN.out;rw [if_neg hpl] at h1;omega
       rw [hkc]
       clear hpl hkc
       go_upto_region 23 with fail
       have FD:=Lib.hid (show Fr noB w8 w8.drew from (Fr.refl noB w8).drew)
       have hx1:=cell_fr0 (enAt Q8.out).path FD.out
       have hp1:=HPT.out.1
       have hp2:=HPT.out.2
       have hls:¬ (str x.Path).size < (str l).size:=by rw [sz_str,sz_str];omega
       have HSZ:=Lib.hid (show ((str l).size:Int) = (l.length:Int) by rw [sz_str])
       clear qp qn
       by_cases hj0:j = 0
       ·have n0:¬ (0:Int) < (j:Int):=by omega
        have n0':¬ 0 < j:=by omega
        clear hj0
        refine wp_region_M 29 30 [⟨4722366482869645213696,16384,0⟩,⟨9444732965739290427392,4722366482869645213696,1⟩,⟨18889465931478580854784,9444732965739290427392,2⟩,⟨37778931862957161709568,2,0⟩,⟨75557863725914323419136,37778931862957161709568,8⟩,⟨151115727451828646838272,94447329657392904273920,20⟩,⟨302231454903657293676544,151115727451828646838272,32⟩,⟨604462909807314587353088,302231454903657293692928,64⟩,⟨1208925819614629174706176,906694364710971881029632,192⟩,⟨2417851639229258349412352,302231454903657293676546,64⟩,⟨4835703278458516698824704,2720083094132915643088896,576⟩,⟨9671406556917033397649408,6346860552976803167207424,1344⟩,⟨19342813113834066795298816,302231454903657293676546,64⟩,⟨38685626227668133590597632,29316451125654757486624768,6208⟩,⟨77371252455336267181195264,38987857682571790884274176,8256⟩,⟨154742504910672534362390528,77371252455336267181195264,16448⟩,⟨309485009821345068724781056,154742504910672534362398720,32768⟩,⟨618970019642690137449562112,464227514732017603087171584,98304⟩,⟨1237940039285380274899124224,773712524553362671811952640,163840⟩,⟨2475880078570760549798248448,1237940039285380274899125248,262144⟩,⟨4951760157141521099596496896,1237940039285380274899132416,262144⟩,⟨9903520314283042199192993792,6189700196426901374495621120,1310720⟩,⟨19807040628566084398385987584,13617340432139183023890366464,2883584⟩,⟨39614081257132168796771975168,21044980667851464673285111808,4456448⟩,⟨79228162514264337593543950336,40852021296417549071671099392,8650752⟩,⟨158456325028528675187087900672,1237940039285380274899140608,262144⟩,⟨316912650057057350374175801344,159694265067814055461987024896,33816576⟩,⟨633825300114114700748351602688,397378752610607068242618875904,84148224⟩,⟨1267650600228229401496703205376,635217982658310753557613117440,134512640⟩,⟨2535301200456458802993406410752,1267805342733140074031065595904,268468224⟩] [(true,0),(true,1),(true,2),(true,3),(true,4),(true,5),(true,6),(true,7),(true,8),(true,9),(true,10),(true,11),(true,12),(true,13),(true,14),(true,15),(true,16),(true,17),(true,18),(true,19),(true,20),(true,21),(true,22),(true,23),(true,24),(true,25),(true,26),(true,27),(true,28)] (fun w'=>w'.cell? ⟨X,0,none⟩ = some (.string (str x.Path))) (by kernel_rfl) rfl (by kernel_rfl) (by kernel_rfl) (by kernel_rfl) hx1 (fun hA hF=>?_)
        iterate 11
         refine wpAnyS_take (v:=?_) hA rfl (fun _ _ _ h=>h) (Or.inl ⟨by rfl,?_⟩) hF (fun hA=>?_)
         rotate_left
         ·intro wS hSw;(try dsimp only at hSw);obtain s1:=hSw;first | (apply Eq.trans;apply ex_ldS_at;exact rfl;exact rfl;assumption;with_reducible rfl) | (go_simp;try with_reducible rfl)
         try simp only [sA1,sA2,sA3,Act.put,sA4,sA5,sA6]
        refine wpAnyS_take (v:=.string (str l)) hA rfl (fun _ _ _ h=>h) (Or.inl ⟨by rfl,fun wS hSw=>ex_slP_at rfl rfl rfl HSZ.out hp1 hp2⟩) hF (fun hA=>?_)
        try simp only [sA1,sA2,sA3,Act.put,sA4,sA5,sA6]
        iterate 7
         refine wpAnyS_take (v:=?_) hA rfl (fun _ _ _ h=>h) (Or.inl ⟨by rfl,?_⟩) hF (fun hA=>?_)
         rotate_left
         ·intro wS hSw;(try dsimp only at hSw);obtain s1:=hSw;first | (apply Eq.trans;apply ex_ldS_at;exact rfl;exact rfl;assumption;with_reducible rfl) | (go_simp;try with_reducible rfl)
         try simp only [sA1,sA2,sA3,Act.put,sA4,sA5,sA6]
        iterate 9
         refine wpAnyS_take (v:=undef) hA rfl (fun _ _ _ h=>h) (Or.inr ⟨by rfl,rfl⟩) hF (fun hA=>?_)
         try simp only [sA1,sA2,sA3,Act.put,sA4,sA5,sA6]
        refine wpAnyS_take (v:=?_) hA rfl (fun _ _ _ h=>h) (Or.inl ⟨by rfl,?_⟩) hF (fun hA=>?_)
        rotate_left
        ·intro wS hSw;(try dsimp only at hSw);obtain s1:=hSw;first | (apply Eq.trans;apply ex_ldS_at;exact rfl;exact rfl;assumption;with_reducible rfl) | (go_simp;try with_reducible rfl)
        try simp only [sA1,sA2,sA3,Act.put,sA4,sA5,sA6]
        refine wpAnyS_end hA rfl ?_
        simp only [List.drop_succ_cons,List.drop_zero]
        clear hF
        have FC1:=FC.out _ FD.out
        have hfe:∃ fo,findD (rowsN (r:Int) l i) x.Path = fo:=⟨_,rfl⟩
        obtain ⟨fo,hfo⟩:=hfe
        have HFO:=Lib.hid (show x.Path.length ≤ 60 → fo = (x.Node,true) from fun h=>by rw [← hfo];exact HFI.out h)
        have FC2:Calls Tryz.prog 18 #[.pointer (some ⟨P,0,none⟩),.string (str x.Path)] w8.drew (FdTo w8.drew fo):=by rw [← hfo];exact FC1
        have FC3:=Lib.hid FC2
        clear FC1 FC2 hfo
        go_upto_region 26 with (go_at_call 18;refine FC3.out.mono ?_;rintro e w9 ⟨rfl,f9⟩)
        have f10:=f9.step0 ((Fr.refl noB w9).alloc (codS.o fo.1))
        have q10:codS.rd (w9.alloc (codS.o fo.1)) w9.heap.size 0 = some fo.1:=Cod.rd_new' (C:=codS) w9 fo.1
        have F10:=Lib.hid ((F8.out.step0 FD.out).step0 f10)
        have Q10:=Cod.rd_fr0 (Cod.rd_fr0 Q8.out FD.out) f10
        have qa:=(enAt Q10).path
        have qb:=(enAt Q10).node
        clear f9 f10 FC3 Q10 hx1
        generalize w9.alloc (codS.o fo.1) = w10 at q10 F10 qa qb ⊢
        generalize w9.heap.size = N at q10 ⊢
        obtain ⟨fs,fb⟩:=fo
        by_cases h60:x.Path.length ≤ 60
        ·have i60:(str x.Path).size ≤ 60:=by rw [sz_str];exact h60
         have i60':((str x.Path).size:Int) ≤ 60:=by omega
         have he:=HFO.out h60
         injection he with he1 he2
         subst he1
         subst he2
         clear h60
         go_wp2_with fail
         go_roundg (ys.length - (j + 1))
         case measure=>have:=HJL.out;have:=HYL.out;omega
         case rel=>exact ⟨j + 1,by first | (simp;done) | (rw [HWJ.out];rfl) | exact congrArg (Value.int .i64) HWJ.out,by rw [← HK.out],rfl,by have:=HJL.out;have:=HYL.out;omega,F10.out⟩
        ·have i60:¬ (str x.Path).size ≤ 60:=by rw [sz_str];exact h60
         have i60':¬ ((str x.Path).size:Int) ≤ 60:=by omega
         clear h60
         go_wp2_with fail
         go_roundg (ys.length - (j + 1))
         case measure=>have:=HJL.out;have:=HYL.out;omega
         case rel=>exact ⟨j + 1,by first | (simp;done) | (rw [HWJ.out];rfl) | exact congrArg (Value.int .i64) HWJ.out,by rw [← HK.out],rfl,by have:=HJL.out;have:=HYL.out;omega,F10.out⟩
       ·obtain ⟨q,hq⟩:∃ q:Nat,q + 1 = j:=⟨j - 1,by omega⟩
        have n0:(0:Int) < (j:Int):=by omega
        have n0':0 < j:=by omega
        have wq:IntKind.i64.wrap ((j:Int) - 1) = (q:Int):=by rw [IntKind.wrap_i64];have:=HJL.out;have:=HN.out;omega
        have c0:(0:Int) ≤ (q:Int):=by omega
        have c1:(q:Int) < (i:Int):=by have:=HJL.out;omega
        obtain ⟨pp,hpp,hps⟩:=HPR8.out q hq
        have hx4:=cell_fr0 hpp FD.out
        clear hj0 hq hpp
        refine wp_region_M 29 30 [⟨4722366482869645213696,16384,0⟩,⟨9444732965739290427392,4722366482869645213696,1⟩,⟨18889465931478580854784,9444732965739290427392,2⟩,⟨37778931862957161709568,2,0⟩,⟨75557863725914323419136,37778931862957161709568,8⟩,⟨151115727451828646838272,94447329657392904273920,20⟩,⟨302231454903657293676544,151115727451828646838272,32⟩,⟨604462909807314587353088,302231454903657293692928,64⟩,⟨1208925819614629174706176,906694364710971881029632,192⟩,⟨2417851639229258349412352,302231454903657293676546,64⟩,⟨4835703278458516698824704,2720083094132915643088896,576⟩,⟨9671406556917033397649408,6346860552976803167207424,1344⟩,⟨19342813113834066795298816,302231454903657293676546,64⟩,⟨38685626227668133590597632,29316451125654757486624768,6208⟩,⟨77371252455336267181195264,38987857682571790884274176,8256⟩,⟨154742504910672534362390528,77371252455336267181195264,16448⟩,⟨309485009821345068724781056,154742504910672534362398720,32768⟩,⟨618970019642690137449562112,464227514732017603087171584,98304⟩,⟨1237940039285380274899124224,773712524553362671811952640,163840⟩,⟨2475880078570760549798248448,1237940039285380274899125248,262144⟩,⟨4951760157141521099596496896,1237940039285380274899132416,262144⟩,⟨9903520314283042199192993792,6189700196426901374495621120,1310720⟩,⟨19807040628566084398385987584,13617340432139183023890366464,2883584⟩,⟨39614081257132168796771975168,21044980667851464673285111808,4456448⟩,⟨79228162514264337593543950336,40852021296417549071671099392,8650752⟩,⟨158456325028528675187087900672,1237940039285380274899140608,262144⟩,⟨316912650057057350374175801344,159694265067814055461987024896,33816576⟩,⟨633825300114114700748351602688,397378752610607068242618875904,84148224⟩,⟨1267650600228229401496703205376,635217982658310753557613117440,134512640⟩,⟨2535301200456458802993406410752,1267805342733140074031065595904,268468224⟩] [(true,0),(true,1),(true,2),(true,3),(true,4),(true,5),(true,6),(true,7),(true,8),(true,9),(true,10),(true,11),(true,12),(true,13),(true,14),(true,15),(true,16),(true,17),(true,18),(true,19),(true,20),(true,21),(true,22),(true,23),(true,24),(true,25),(true,26),(true,27),(true,28)] (fun w'=>w'.cell? ⟨X,0,none⟩ = some (.string (str x.Path)) ∧ w'.cell? ⟨g,off + q * 4,none⟩ = some (.string (str pp))) (by kernel_rfl) rfl (by kernel_rfl) (by kernel_rfl) (by kernel_rfl) ⟨hx1,hx4⟩ (fun hA hF=>?_)
        iterate 11
         refine wpAnyS_take (v:=?_) hA rfl (fun _ _ _ h=>h) (Or.inl ⟨by rfl,?_⟩) hF (fun hA=>?_)
         rotate_left
         ·intro wS hSw;(try dsimp only at hSw);obtain ⟨s1,s2⟩:=hSw;first | (apply Eq.trans;apply ex_ldS_at;exact rfl;exact rfl;assumption;with_reducible rfl) | (go_simp;try with_reducible rfl)
         try simp only [sA1,sA2,sA3,Act.put,sA4,sA5,sA6]
        refine wpAnyS_take (v:=.string (str l)) hA rfl (fun _ _ _ h=>h) (Or.inl ⟨by rfl,fun wS hSw=>ex_slP_at rfl rfl rfl HSZ.out hp1 hp2⟩) hF (fun hA=>?_)
        try simp only [sA1,sA2,sA3,Act.put,sA4,sA5,sA6]
        iterate 15
         refine wpAnyS_take (v:=?_) hA rfl (fun _ _ _ h=>h) (Or.inl ⟨by rfl,?_⟩) hF (fun hA=>?_)
         rotate_left
         ·intro wS hSw;(try dsimp only at hSw);obtain ⟨s1,s2⟩:=hSw;first | (apply Eq.trans;apply ex_ldS_at;exact rfl;exact rfl;assumption;with_reducible rfl) | (go_simp;try with_reducible rfl)
         try simp only [sA1,sA2,sA3,Act.put,sA4,sA5,sA6]
        refine wpAnyS_take (v:=.bool false) hA rfl (fun _ _ _ h=>h) (Or.inl ⟨by rfl,fun wS hSw=>(ex_geN_at rfl rfl rfl).trans (by rw [hps];rfl)⟩) hF (fun hA=>?_)
        try simp only [sA1,sA2,sA3,Act.put,sA4,sA5,sA6]
        refine wpAnyS_take (v:=?_) hA rfl (fun _ _ _ h=>h) (Or.inl ⟨by rfl,?_⟩) hF (fun hA=>?_)
        rotate_left
        ·intro wS hSw;(try dsimp only at hSw);obtain ⟨s1,s2⟩:=hSw;first | (apply Eq.trans;apply ex_ldS_at;exact rfl;exact rfl;assumption;with_reducible rfl) | (go_simp;try with_reducible rfl)
        try simp only [sA1,sA2,sA3,Act.put,sA4,sA5,sA6]
        clear hx4
        refine wpAnyS_end hA rfl ?_
        simp only [List.drop_succ_cons,List.drop_zero]
        clear hF
        have FC1:=FC.out _ FD.out
        have hfe:∃ fo,findD (rowsN (r:Int) l i) x.Path = fo:=⟨_,rfl⟩
        obtain ⟨fo,hfo⟩:=hfe
        have HFO:=Lib.hid (show x.Path.length ≤ 60 → fo = (x.Node,true) from fun h=>by rw [← hfo];exact HFI.out h)
        have FC2:Calls Tryz.prog 18 #[.pointer (some ⟨P,0,none⟩),.string (str x.Path)] w8.drew (FdTo w8.drew fo):=by rw [← hfo];exact FC1
        have FC3:=Lib.hid FC2
        clear FC1 FC2 hfo
        go_upto_region 26 with (go_at_call 18;refine FC3.out.mono ?_;rintro e w9 ⟨rfl,f9⟩)
        have f10:=f9.step0 ((Fr.refl noB w9).alloc (codS.o fo.1))
        have q10:codS.rd (w9.alloc (codS.o fo.1)) w9.heap.size 0 = some fo.1:=Cod.rd_new' (C:=codS) w9 fo.1
        have F10:=Lib.hid ((F8.out.step0 FD.out).step0 f10)
        have Q10:=Cod.rd_fr0 (Cod.rd_fr0 Q8.out FD.out) f10
        have qa:=(enAt Q10).path
        have qb:=(enAt Q10).node
        clear f9 f10 FC3 Q10 hx1
        generalize w9.alloc (codS.o fo.1) = w10 at q10 F10 qa qb ⊢
        generalize w9.heap.size = N at q10 ⊢
        obtain ⟨fs,fb⟩:=fo
        by_cases h60:x.Path.length ≤ 60
        ·have i60:(str x.Path).size ≤ 60:=by rw [sz_str];exact h60
         have i60':((str x.Path).size:Int) ≤ 60:=by omega
         have he:=HFO.out h60
         injection he with he1 he2
         subst he1
         subst he2
         clear h60
         go_wp2_with fail
         go_roundg (ys.length - (j + 1))
         case measure=>have:=HJL.out;have:=HYL.out;omega
         case rel=>exact ⟨j + 1,by first | (simp;done) | (rw [HWJ.out];rfl) | exact congrArg (Value.int .i64) HWJ.out,by rw [← HK.out],rfl,by have:=HJL.out;have:=HYL.out;omega,F10.out⟩
        ·have i60:¬ (str x.Path).size ≤ 60:=by rw [sz_str];exact h60
         have i60':¬ ((str x.Path).size:Int) ≤ 60:=by omega
         clear h60
         go_wp2_with fail
         go_roundg (ys.length - (j + 1))
         case measure=>have:=HJL.out;have:=HYL.out;omega
         case rel=>exact ⟨j + 1,by first | (simp;done) | (rw [HWJ.out];rfl) | exact congrArg (Value.int .i64) HWJ.out,by rw [← HK.out],rfl,by have:=HJL.out;have:=HYL.out;omega,F10.out⟩
     ·have hji:¬ (j:Int) < (i:Int):=by omega
      have hjy:j = ys.length:=by have:=HYL.out;omega
      have hcnt:cntN l ys j = if l.contains 126 = true then 0 else 1:=by rw [hjy,cntN_all];exact HNM.out.plain
      have HFN:=Lib.hid (FW.out.step0 (FW9.out.step0 HF2.out))
      have HSZ:=Lib.hid (str_size l)
      obtain ⟨K,hK⟩:∃ K:Nat,K = if l.contains 126 = true then 0 else 1:=⟨_,rfl⟩
      have HK:=Lib.hid hK
      rw [hcnt,← hK]
      clear hcnt hjy hjl hj hK
      go_wp2_with fail
      go_loopg [17] l.length (fun gk iv wz=>∃ k:Nat,iv = .int .i64 (k:Int) ∧ gk = l.length - k ∧ k ≤ l.length ∧ (∀ b ∈ l.take k,b ≠ 126) ∧ wz = wr)
      case atStart=>exact ⟨0,rfl,rfl,Nat.zero_le _,by simp,rfl⟩
      case round =>
       obtain ⟨k,rfl,rfl,hk,hall,rfl⟩:=hrel
       have HA:=Lib.hid hall
       clear hall
       by_cases hlt:k < l.length
       ·have i1:(k:Int) < ((str l).size:Int):=by rw [HSZ.out];omega
        have i1':k < (str l).size:=by rw [HSZ.out];omega
        have i0:(0:Int) ≤ (k:Int):=by omega
        have wk:IntKind.i64.wrap ((k:Int) + 1) = (k:Int) + 1:=by rw [IntKind.wrap_i64];have:=HLL.out;omega
        have HLT:=Lib.hid hlt
        have hkb:=str_get l k i1' HLT.out
        have HKB:=Lib.hid hkb
        clear hlt hk hkb
        by_cases hb:l[k]'HLT.out = 126
        ·have hd:((((str l)[k]'i1').toNat:Int) == 126) = true:=by rw [HKB.out,hb];rfl
         have hc:l.contains 126 = true:=by
          rw [List.contains_iff_mem,← hb]
          exact List.getElem_mem _
         obtain rfl:K = 0:=by rw [HK.out,if_pos hc]
         clear hb hc
         go_wp2_with fail
         go_ret
         exact ⟨rfl,HFN.out⟩
        ·have hd:((((str l)[k]'i1').toNat:Int) == 126) = false:=by
          have:=u8_beq (l[k]'HLT.out) 126 (by omega)
          rw [HKB.out]
          exact this.trans (decide_eq_false hb)
         have HB:=Lib.hid hb
         clear hb
         go_wp2_with fail
         go_roundg (l.length - (k + 1))
         case measure=>have:=HLT.out;omega
         case rel=>exact ⟨k + 1,by first | rfl | exact congrArg (Value.int .i64) wk,rfl,by have:=HLT.out;omega,fun b hb=>by
          rw [List.take_succ_eq_append_getElem HLT.out] at hb
          rcases List.mem_append.1 hb with h | h
          ·exact HA.out b h
          ·rw [List.mem_singleton] at h;rw [h];exact HB.out,rfl⟩
       ·have i1:¬ (k:Int) < ((str l).size:Int):=by rw [HSZ.out];omega
        have i1':¬ k < (str l).size:=by rw [HSZ.out];omega
        have hc:¬ l.contains 126 = true:=fun h=>by
         rw [List.contains_iff_mem] at h
         have e:l.take k = l:=List.take_of_length_le (by omega)
         exact HA.out 126 (by rw [e];exact h) rfl
        obtain rfl:K = 1:=by rw [HK.out,if_neg hc]
        clear hc hlt hk
        go_wp2_with fail
        go_ret
        exact ⟨rfl,HFN.out⟩
theorem lawNames17 (W:World) (hT:HasT W) (hM:HasMW W) (a0:Int) (l:List UInt8) (hl:l.length ≤ 140737488355328) (a2:Int) :
  Calls Tryz.prog 6 #[.int .i64 a0,.string (str l),.int .i64 a2] W (Gives W (.bool true)):=names17_any W hT hM a0 l hl a2
end Go.Proofs.YthehiobacjjakaaGreatDoor
