/- Rows of arrays ([][32]byte); contract: pollardref01 Clash. (rdI) -/
import Derived.Test.YtahllkifmmjbdaaPkCKp
import Derived.Test.YtahllkifmmjbdaaFrameOKp
set_option linter.unusedVariables false
set_option linter.unusedSimpArgs false
namespace Go.Proofs.Ytahllkifmmjbdaa
open Go.RowKit Go.Maps Go.Sort
def codAr:Cod ID:=⟨36,32,fun x=>bv x.1,zID,fun x=>by rw [bv_length,x.2],by decide,fun x=>bv_one x.1,fun x y h=>Subtype.ext (bv_inj h)⟩
theorem etAr:ET Try.prog 57 codAr.t codAr.n 32:=ET.mk' (z:=.agg (bv zID.1).toArray) Try.underlying57 (by kernel_rfl) (by simp [Value.cells,zID];rfl) (by decide) (by decide)
abbrev rowrZ (l:List ID):Obj:=.cells (idR l) 36
theorem sl_newZ (w:World) (l:List ID):Sl (w.alloc (rowrZ l)) (some ⟨w.heap.size,0,none⟩) (idc l):=by
 simp only [rowrZ,idR_eq];exact Sl.new w 36 (idc l)
theorem bsZ_1 (w:World) (x:ID):(Instr.buildSlice 57 1 #[(0,encI x)]).run Try.prog w = .ok (.slice (some ⟨w.heap.size,0,none⟩) 1 1) (w.alloc (rowrZ [x])):=by
 have h1:Instr.fill (fun i=>some (i * 32,32)) ([] ++ z32 ++ []).toArray [(0,encI x)] = some (idc [x]).toArray :=
  (fill_one (fun i=>some (i * 32,32)) [] z32 [] (bv x.1) 0 (encI x) [] (cellsI x) (by simp [x.2]) (by simp [x.2,z32_len])).trans (by simp [Instr.fill,idc])
 simp only [Instr.buildSlice,Sem.run_bind,run_underlying Try.underlying57,Result.andThen_ok,sizeArr,zeroArr]
 simp only [show (1 * 32 > 2 ^ 24) = False from by simp,show (1 * 32 = 0) = False from by simp,if_false,Sem.run_bind,zeroArr,Result.andThen_ok,Sem.run_pure,zs1,h1]
 simp [newRow,newObj,rowrZ,idR_eq,Sem.run,Result.andThen]
@[irreducible] noncomputable def bsZ1 (w:World) (v:Value):Result Next:=((Instr.buildSlice 57 1 #[(0,v)]).run Try.prog w).andThen (fun v w=>.ok (.value v) w)
@[simp ↓] theorem ex_bsZ1 (ρ:Operand → Value) (a:Operand) (d:Option Nat) (t:TypeId) (p:String) (f:Array Edge) (g:Option (Nat × Bool)) (w:World) :
  (execOp ρ { dst:=d,op:=.buildSlice 57 1 #[(0,a)],type:=t,pos:=p,after:=f,guard:=g }).run Try.prog w = bsZ1 w (ρ a):=by
 unfold execOp bsZ1
 simp only [List.map_toArray,List.map_cons,List.map_nil,Sem.run_bind,Sem.run_pure]
@[simp] theorem bsZ1_at (w:World) (x:ID):bsZ1 w (encI x) = .ok (.value (.slice (some ⟨w.heap.size,0,none⟩) 1 1)) (w.alloc (rowrZ [x])):=by
 unfold bsZ1;rw [bsZ_1];rfl
theorem NoClash.nil {H:List UInt8 → ID}:NoClash H []:=⟨fun b h=>(by cases h),fun a h=>(by cases h)⟩
theorem NoClash.snoc {H:List UInt8 → ID} {xs:List (List UInt8)} (h:NoClash H xs) {b:List UInt8} (hz:H b ≠ zID) (hb:∀ a ∈ xs,H a = H b → a = b):NoClash H (xs ++ [b]):=by
 refine ⟨fun x hx=>?_,fun x hx y hy e=>?_⟩
 ·rcases List.mem_append.1 hx with hx | hx
  ·exact h.nz x hx
  ·rw [List.mem_singleton.1 hx];exact hz
 ·rcases List.mem_append.1 hx with hx | hx
  ·rcases List.mem_append.1 hy with hy | hy
   ·exact h.inj x hx y hy e
   ·have hyb:=List.mem_singleton.1 hy
    rw [hyb] at e ⊢
    exact hb x hx e
  ·have hxb:=List.mem_singleton.1 hx
   rw [hxb] at e ⊢
   rcases List.mem_append.1 hy with hy | hy
   ·exact (hb y hy e.symm).symm
   ·exact (List.mem_singleton.1 hy).symm
def ClTo (w:World) (xs:List (List UInt8)) (e:Ending) (w':World):Prop:=∃ b:Bool,e = .returned (.bool b) ∧ Fr noB w w' ∧ (b = false → NoClash nameH xs)
set_option maxRecDepth 100000 in
set_option maxHeartbeats 2000000 in
theorem clash_any (w:World) (A:Option Addr) (c n:Nat) (rs:List SlW) (xs:List (List UInt8)) (hn:rs.length = n) (hs:Sl w A (codB.row rs)) (hb:rs.length ≤ 1000000000000) (hX:BsIn w rs xs) :
  Calls Try.prog 7 #[.slice A n c] w (ClTo w xs):=by
 subst hn
 have HLX:=Lib.hid hX.len
 have HX:=Lib.hid hX
 have HLN:=Lib.hid hb
 have HSA:=Lib.hid hs
 clear hX hb hs
 go_enter Try.func7,Try.ntmps7
 have fa:Fr noB w (w.alloc (.cells #[] 36)):=(Fr.refl noB w).alloc _
 have own0:OwnC codAr w (w.alloc (.cells #[] 36)) (some ⟨w.heap.size,0,none⟩) 0 []:=World.ownsRow_lit (base:=w.heap.size) (e:=36) (size:=32) w #[] 0 (Nat.le_refl _) (by unfold maxLen;omega) (by simp)
 have H0:=Lib.hid (show ∃ (k:Nat) (A1:Option Addr) (c1:Nat) (l:List ID),(Value.slice (some ⟨w.heap.size,0,none⟩) 0 0) = .slice A1 l.length c1 ∧ (Value.int .i64 ((0:Nat):Int)) = .int .i64 (k:Int) ∧ l = (xs.take k).map nameH ∧ rs.length = rs.length - k ∧ k ≤ rs.length ∧ OwnC codAr w (w.alloc (.cells #[] 36)) A1 c1 l ∧ NoClash nameH (xs.take k) ∧ Fr noB w (w.alloc (.cells #[] 36)) from ⟨0,_,0,[],rfl,rfl,rfl,rfl,Nat.zero_le _,own0,NoClash.nil,fa⟩)
 clear fa own0
 go_wp2_with fail
 go_loopg [3,4] rs.length (fun gk ov kv wr=>∃ (k:Nat) (A1:Option Addr) (c1:Nat) (l:List ID),ov = .slice A1 l.length c1 ∧ kv = .int .i64 (k:Int) ∧ l = (xs.take k).map nameH ∧ gk = rs.length - k ∧ k ≤ rs.length ∧ OwnC codAr w wr A1 c1 l ∧ NoClash nameH (xs.take k) ∧ Fr noB w wr)
 case atStart=>exact H0.out
 case round =>
  clear H0
  obtain ⟨i,A1,c1,l,rfl,rfl,hl,rfl,hi,ho,hno,hf⟩:=hrel
  have HO:=Lib.hid ho
  have HF:=Lib.hid hf
  have HNO:=Lib.hid hno
  have HLE:=Lib.hid hl
  have HLL:=Lib.hid (show l.length = i by rw [hl,List.length_map,List.length_take,← HLX.out];omega)
  clear ho hf hl hno
  by_cases hlt:i < rs.length
  ·have i1:(i:Int) < (rs.length:Int):=by omega
   have i0:(0:Int) ≤ (i:Int):=by omega
   obtain ⟨g,off,rfl,hg,hc⟩:=cellB (HSA.out.fr0 HF.out) (by omega)
   have hlx:i < xs.length:=by rw [← HLX.out];exact hlt
   have hin:=(HX.out.fr0 HF.out).at_ i hlt hlx
   have e1:=hc i hlt
   have HTX:=Lib.hid (show xs.take (i + 1) = xs.take i ++ [xs[i]] from List.take_succ_eq_append_getElem hlx)
   have HKL:=Lib.hid hlt
   have hr:=List.getElem?_eq_getElem hlt
   have hx:=List.getElem?_eq_getElem hlx
   generalize rs[i] = r at e1 hin hr
   generalize xs[i] = x at hin HTX hx
   have HRX:=Lib.hid (And.intro hr hx)
   clear hr hx
   obtain ⟨rA,rn,rc⟩:=r
   obtain ⟨hlr,hcap,hsl,hbd2⟩:=hin
   simp only at hlr hcap hsl e1
   have HBY:=Lib.hid (show ByIn wr ⟨rA,rn,rc⟩ x from ⟨hlr,hcap,hsl,hbd2⟩)
   clear hlr hcap hsl hbd2 hc hg hlt hi hlx
   obtain ⟨y,hy⟩:∃ y,y = nameH x:=⟨_,rfl⟩
   have HY:=Lib.hid hy
   have CN:=Lib.hid (show Calls Try.prog 27 #[.slice rA rn rc] wr (Gives wr (encI y)) by rw [hy];exact r01name_any wr rA rc rn x HBY.out.len HBY.out.sl HBY.out.bd)
   clear hy
   go_upto_region 6 with (first
    | (go_at_call 27;refine CN.out.mono ?_;rintro e w2 ⟨rfl,f2⟩;have fn:Fr noB w2 (w2.alloc (rowrZ [y])):=(Fr.refl noB w2).alloc _;have sl:Sl (w2.alloc (rowrZ [y])) (some ⟨w2.heap.size,0,none⟩) (codAr.row [y]):=sl_newZ w2 [y];have ho2:=own_new0 (own_new0 HO.out f2) fn;have HF2:=Lib.hid ((HF.out.step0 f2).step0 fn);have sz:=HF2.out.size;clear f2 fn)
    | (at_builtin;refine wpList_appC' etAr w _ rfl _ _ rfl A1 l.length c1 l rfl rfl ho2 (some ⟨w2.heap.size,0,none⟩) 1 1 [y] rfl sl rfl (by have:=HLL.out;have:=HKL.out;have:=HLN.out;simp;omega) sz ?_;intro A8 c8 w8 hc8 hmx8 ho8 hg8 hA8;obtain ⟨l8,hl8⟩:∃ t,t = l ++ [y]:=⟨_,rfl⟩;rw [← hl8] at ho8 ⊢;have HL8:=Lib.hid hl8;have HF8:=Lib.hid (Fr.own' HF2.out ho2 hg8);have HO8:=Lib.hid ho8;clear hl8 hc8 hmx8 hg8 hA8 ho2 ho8 sl))
   have HLL8:=Lib.hid (show l8.length = i + 1 by rw [HL8.out,List.length_append,HLL.out];rfl)
   obtain ⟨g8,off8,rfl,hg8⟩:=Sl.addr (Sl.own HO8.out) (by rw [HLL8.out];omega)
   have hid8:∀ j (hj:j < l8.length),rdI w8 g8 (off8 + j * 32) = some l8[j]:=fun j hj=>Sl.id (Sl.own HO8.out) j hj
   have hyi:rdI w8 g8 (off8 + i * 32) = some y:=by
    have h:=hid8 i (by rw [HLL8.out];omega)
    have e:l8[i]'(by rw [HLL8.out];omega) = y:=by
     have h2:l8[i]? = some y:=by rw [HL8.out,List.getElem?_append_right (by rw [HLL.out];exact Nat.le_refl _),HLL.out,Nat.sub_self];rfl
     rw [List.getElem?_eq_getElem (by rw [HLL8.out];omega)] at h2
     injection h2
    rw [e] at h;exact h
   have j1:(i:Int) < (l8.length:Int):=by rw [HLL8.out];omega
   have HI8:=Lib.hid hid8
   have HYI:=Lib.hid hyi
   clear hid8 hg8 sz
   by_cases hz:y = zID
   ·have e0:decide (y = zID) = true:=by simp [hz]
    go_wp2_with fail
    go_ret
    exact ⟨true,rfl,HF8.out,fun h=>by cases h⟩
   ·have HZ:=Lib.hid hz
    go_upto_region 8 with fail
    have HGG:=Lib.hid (show g < w8.heap.size ∧ g8 < w8.heap.size from ⟨Nat.lt_of_lt_of_le (by
      obtain ⟨g',o',e,h,_⟩:=cellB HSA.out (by have:=HKL.out;omega)
      injection e with e;injection e with e;rw [e];exact h) HF8.out.size,rdI_lt hyi⟩)
    clear hz hyi j1 e1
    go_wp2_with fail
    go_loopg [5] i (fun gk kv wr=>∃ k:Nat,kv = .int .i64 (k:Int) ∧ gk = i - k ∧ k ≤ i ∧ (∀ j (h:j < xs.length),j < k → nameH xs[j] = y → xs[j] = x) ∧ Fr noB w8 wr)
    case atStart=>exact ⟨0,rfl,rfl,Nat.zero_le _,fun j _ h=>absurd h (Nat.not_lt_zero j),Fr.refl _ _⟩
    case round =>
     obtain ⟨k,rfl,rfl,hk,hcl,hf⟩:=hrel
     have HCL:=Lib.hid hcl
     have HF9:=Lib.hid hf
     clear hcl hf
     by_cases hlt:k < i
     ·have i2:(k:Int) < (i:Int):=by omega
      have k0:(0:Int) ≤ (k:Int):=by omega
      have HKI:=Lib.hid hlt
      have hkr:k < rs.length:=by have:=HKL.out;omega
      have hkx:k < xs.length:=by rw [← HLX.out];exact hkr
      have hir:i < rs.length:=HKL.out
      have hsw:=HSA.out.fr0 (HF8.out.step0 HF9.out)
      have c1:=Sl.cell1 (C:=codB) rfl hsw k hkr rfl
      have c2:wr.cell? ⟨g,off + i,none⟩ = some (.slice rA rn rc):=by
       have h:=Sl.cell1 (C:=codB) rfl hsw i hir rfl
       have e:rs[i] = ⟨rA,rn,rc⟩:=by have h2:=HRX.out.1;rw [List.getElem?_eq_getElem hir] at h2;injection h2
       rw [e] at h;exact h
      have hin:=(HX.out.fr0 (HF8.out.step0 HF9.out)).at_ k hkr hkx
      have hBYi:ByIn wr ⟨rA,rn,rc⟩ x:=by
       have hix:i < xs.length:=by rw [← HLX.out];exact hir
       have h:=(HX.out.fr0 (HF8.out.step0 HF9.out)).at_ i hir hix
       have e:rs[i] = ⟨rA,rn,rc⟩:=by have h2:=HRX.out.1;rw [List.getElem?_eq_getElem hir] at h2;injection h2
       have e2:xs[i] = x:=by have h2:=HRX.out.2;rw [List.getElem?_eq_getElem hix] at h2;injection h2
       rw [e,e2] at h;exact h
      have d1:rdI wr g8 (off8 + k * 32) = some (nameH xs[k]):=by
       have h:=rdI_fr (HI8.out k (by rw [HLL8.out];omega)) HGG.out.2 HF9.out (by simp [noB])
       have e:l8[k]'(by rw [HLL8.out];omega) = nameH xs[k]:=by
        have h2:l8[k]? = some (nameH xs[k]):=by
         rw [HL8.out,List.getElem?_append_left (by rw [HLL.out];exact hlt),HLE.out,List.getElem?_map,List.getElem?_take,if_pos hlt,List.getElem?_eq_getElem hkx];rfl
        rw [List.getElem?_eq_getElem (by rw [HLL8.out];omega)] at h2
        injection h2
       rw [e] at h;exact h
      have d2:rdI wr g8 (off8 + i * 32) = some y:=rdI_fr HYI.out HGG.out.2 HF9.out (by simp [noB])
      have hg1:g < wr.heap.size:=Nat.lt_of_lt_of_le HGG.out.1 HF9.out.size
      have hg2:g8 < wr.heap.size:=Nat.lt_of_lt_of_le HGG.out.2 HF9.out.size
      have jk:(k:Int) < (l8.length:Int):=by rw [HLL8.out];omega
      have ji:(i:Int) < (l8.length:Int):=by rw [HLL8.out];omega
      have jr:(k:Int) < (rs.length:Int):=by omega
      have HNX:=Lib.hid (fun (P:List UInt8 → Prop) (h:P xs[k]) (j:Nat) (hj:j < xs.length) (hj2:j < k + 1) (hp:∀ (j':Nat) (h':j' < xs.length),j' < k → P xs[j'])=>show P xs[j] from by
       rcases Nat.lt_succ_iff_lt_or_eq.1 hj2 with h3 | rfl
       ·exact hp j hj h3
       ·exact h)
      generalize rs[k] = rk at c1 hin
      generalize xs[k] = xk at d1 hin HNX
      obtain ⟨kA,kn,kc⟩:=rk
      obtain ⟨hl1,hc1,hs1,hb1⟩:=hin
      simp only at hl1 hc1 hs1 c1
      have D1:∀ wS,Fr noB wr wS → Calls Try.prog 12 #[.slice kA kn kc,.slice rA rn rc] wS (Gives wS (.bool (decide (xk = x)))):=fun wS f=>by
       have h:=same_any wS kA rA kc rc xk x (hs1.fr0 f) ((hBYi.sl.fr0 f)) (by omega) (by have:=hBYi.bd;omega)
       rw [hl1,hBYi.len] at h
       exact h
      have HDD:=Lib.hid (And.intro hl1 hb1)
      generalize hnk:nameH xk = nk at d1
      have HNK:=Lib.hid hnk
      clear hl1 hc1 hs1 hb1 hsw hBYi hnk hlt hk hkr hkx hir
      go_upto_region 11 with fail
      by_cases he:nk = y
      ·subst he
       refine wp_region_fr (by kernel_rfl) (by kernel_rfl) ?_
       iterate 18
        refine wpQ_take (v:=?_) (by rfl) (fun wS hS=>?_) ?_
        rotate_left
        ·obtain ⟨L1,L2,L3,L4,L5,L6⟩:=Fr.same hS;go_simp;try with_reducible rfl
        try simp only [sA1,sA2,sA3,Act.put,sA4,sA5,sA6]
       refine wpQ_call (by rfl) (fun wS hS=>⟨_,_,?qh193,Calls.fr hS (D1 _ hS)⟩) ?qk193
       case qh193=>obtain ⟨L1,L2,L3,L4,L5,L6⟩:=Fr.same hS;go_simp;try with_reducible rfl
       try simp only [sA1,sA2,sA3,Act.put,sA4,sA5,sA6]
       iterate 2
        refine wpQ_take (v:=?_) (by rfl) (fun wS hS=>?_) ?_
        rotate_left
        ·obtain ⟨L1,L2,L3,L4,L5,L6⟩:=Fr.same hS;go_simp;try with_reducible rfl
        try simp only [sA1,sA2,sA3,Act.put,sA4,sA5,sA6]
       refine wpQ_nil ?_
       intro w1 f1
       have HFA:=Lib.hid (HF9.out.step0 f1)
       by_cases hs:xk = x
       ·have e1:(!decide (xk = x)) = false:=by simp [hs]
        rw [e1]
        have HSX:=Lib.hid hs
        clear hs c1 c2 d1 d2 D1 f1 e1 jk ji jr hg1 hg2
        go_wp2_with fail
        have wk2:wrap64 ((k:Int) + 1) = (k:Int) + 1:=IntWalk.wrap64_in _ (by have:=HKI.out;have:=HKL.out;have:=HLN.out;omega)
        go_roundg (i - (k + 1))
        case measure=>have:=HKI.out;omega
        case rel=>exact ⟨k + 1,by first | exact congrArg (Value.int .i64) wk2 | simp,rfl,by have:=HKI.out;omega,fun j h1 h2 h3=>HNX.out (fun b=>nameH b = nk → b = x) (fun _=>HSX.out) j h1 h2 (fun j' h' hj=>HCL.out j' h' hj) h3,HFA.out⟩
       ·have e1:(!decide (xk = x)) = true:=by simp [hs]
        rw [e1]
        clear hs c1 c2 d1 d2 D1 f1 e1 jk ji jr hg1 hg2
        go_wp2_with fail
        go_ret
        exact ⟨true,rfl,HF8.out.step0 HFA.out,fun h=>by cases h⟩
      ·have e0:decide (nk = y) = false:=by simp [he]
       refine wp_region_fr (by kernel_rfl) (by kernel_rfl) ?_
       iterate 10
        refine wpQ_take (v:=?_) (by rfl) (fun wS hS=>?_) ?_
        rotate_left
        ·obtain ⟨L1,L2,L3,L4,L5,L6⟩:=Fr.same hS;go_simp;try with_reducible rfl
        try simp only [sA1,sA2,sA3,Act.put,sA4,sA5,sA6]
       iterate 10
        refine wpQ_off (by rfl) ?_
        try simp only [sA1,sA2,sA3,Act.put,sA4,sA5,sA6]
       refine wpQ_take (v:=?_) (by rfl) (fun wS hS=>?_) ?_
       rotate_left
       ·obtain ⟨L1,L2,L3,L4,L5,L6⟩:=Fr.same hS;go_simp;try with_reducible rfl
       try simp only [sA1,sA2,sA3,Act.put,sA4,sA5,sA6]
       refine wpQ_nil ?_
       intro w1 f1
       have HFA:=Lib.hid (HF9.out.step0 f1)
       have HNE:=Lib.hid he
       clear c1 c2 d1 d2 D1 f1 e0 jk ji jr hg1 hg2 he
       go_wp2_with fail
       have wk2:wrap64 ((k:Int) + 1) = (k:Int) + 1:=IntWalk.wrap64_in _ (by have:=HKI.out;have:=HKL.out;have:=HLN.out;omega)
       go_roundg (i - (k + 1))
       case measure=>have:=HKI.out;omega
       case rel=>exact ⟨k + 1,by first | exact congrArg (Value.int .i64) wk2 | simp,rfl,by have:=HKI.out;omega,fun j h1 h2 h3=>HNX.out (fun b=>nameH b = y → b = x) (fun h=>absurd (HNK.out.symm.trans h) HNE.out) j h1 h2 (fun j' h' hj=>HCL.out j' h' hj) h3,HFA.out⟩
     ·have i2:¬ (k:Int) < (i:Int):=by omega
      have HKE:=Lib.hid (show k = i by omega)
      clear hlt hk
      have wk:wrap64 ((i:Int) + 1) = (i:Int) + 1:=IntWalk.wrap64_in _ (by have:=HKL.out;have:=HLN.out;omega)
      go_wp2_with fail
      go_roundg (rs.length - (i + 1))
      case measure=>have:=HKL.out;omega
      case rel=>exact ⟨i + 1,_,c8,l8,rfl,by first | exact congrArg (Value.int .i64) wk | simp,by rw [HL8.out,HLE.out,HTX.out,List.map_append,HY.out];rfl,rfl,by have:=HKL.out;omega,own_new0 HO8.out HF9.out,by
       rw [HTX.out]
       refine HNO.out.snoc (by rw [← HY.out];exact HZ.out) fun a ha e=>?_
       obtain ⟨j,hj,rfl⟩:=List.getElem_of_mem ha
       rw [List.length_take] at hj
       rw [List.getElem_take]
       rw [List.getElem_take,← HY.out] at e
       exact HCL.out j (by omega) (by rw [HKE.out];omega) e,HF8.out.step0 HF9.out⟩
  ·have i1:¬ (i:Int) < (rs.length:Int):=by omega
   have HNX:=Lib.hid (show xs.take i = xs from List.take_of_length_le (by rw [← HLX.out];omega))
   clear hlt hi
   go_wp2_with fail
   go_ret
   exact ⟨false,rfl,HF.out,fun _=>by rw [← HNX.out];exact HNO.out⟩
end Go.Proofs.Ytahllkifmmjbdaa
