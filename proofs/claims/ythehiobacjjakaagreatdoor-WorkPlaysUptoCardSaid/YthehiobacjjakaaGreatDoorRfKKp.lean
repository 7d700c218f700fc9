/- Contract: pollardref17.names. Plain: the reference's walk along names is work's. Contract: pollardref17.walk. (ex_ldS_at ex_ldR_at) -/
import Derived.Test.YthehiobacjjakaaGreatDoorRfHKp
import Derived.Test.YthehiobacjjakaaGreatDoorWkIKp
import Derived.Test.YthehiobacjjakaaGreatDoorRegTKp
set_option linter.unusedVariables false
set_option linter.unusedSimpArgs false
namespace Go.Proofs.YthehiobacjjakaaGreatDoor
open Go.RowKit Go.Maps Go.Sort
def codX:Cod (List UInt8):=⟨9,1,fun l=>[.string (str l)],[],fun _=>rfl,by decide,fun x u hu=>by
  rw [List.mem_singleton] at hu
  subst hu;rfl,fun x y h=>by
 have h2:(Value.string (str x)) = .string (str y):=by injection h
 injection h2 with h2
 exact str_inj h2⟩
theorem row_X (l:List (List UInt8)):codX.row l = nmsV l:=by
 unfold Cod.row nmsV
 induction l with
 | nil=>rfl
 | cons x l ih=>rw [List.flatMap_cons,ih];rfl
theorem etX1:ET Tryz.prog 69 codX.t codX.n 16:=ET.mk' (z:=.string ⟨#[]⟩) Tryz.underlying69 (by kernel_rfl) (by simp only [Value.cells];rfl) (by decide) (by decide)
structure SpS (p:List UInt8) (out:List (List UInt8)) (f i:Nat):Prop where
 le:f ≤ i
 eq:splitD p = out ++ splitD (p.drop f)
 no:(47:UInt8) ∉ (p.drop f).take (i - f)
 len:out.length ≤ f
theorem SpS.zero (p:List UInt8):SpS p [] 0 0:=⟨Nat.le_refl _,by simp,by simp,by simp⟩
theorem SpS.on {p:List UInt8} {out:List (List UInt8)} {f i:Nat} (h:SpS p out f i) (hi:i < p.length) (hb:p[i] ≠ 47):SpS p out f (i + 1):=by
 refine ⟨by have:=h.le;omega,h.eq,?_,h.len⟩
 rw [show i + 1 - f = (i - f) + 1 by have:=h.le;omega,List.take_succ_eq_append_getElem (by simp;have:=h.le;omega)]
 intro hm
 rcases List.mem_append.1 hm with hm | hm
 ·exact h.no hm
 ·rw [List.mem_singleton,List.getElem_drop] at hm
  have e:f + (i - f) = i:=by have:=h.le;omega
  simp only [e] at hm
  exact hb hm.symm
theorem SpS.cut {p:List UInt8} {out:List (List UInt8)} {f i:Nat} (h:SpS p out f i) (hi:i < p.length) (hb:p[i] = 47):SpS p (out ++ [(p.drop f).take (i - f)]) (i + 1) (i + 1):=by
 refine ⟨Nat.le_refl _,?_,by simp,by have:=h.len;have:=h.le;simp;omega⟩
 have e:p.drop f = (p.drop f).take (i - f) ++ 47 :: p.drop (i + 1):=by
  have h1:=(List.take_append_drop (i - f) (p.drop f)).symm
  rw [List.drop_drop,show f + (i - f) = i by have:=h.le;omega,List.drop_eq_getElem_cons hi,hb] at h1
  exact h1
 have h2:=split_more (m:=p.drop (i + 1)) h.no
 rw [← e] at h2
 rw [h.eq,h2]
 simp
theorem SpS.fin {p:List UInt8} {out:List (List UInt8)} {f i:Nat} (h:SpS p out f i) (hi:i = p.length):splitD p = out ++ [(p.drop f).take (i - f)]:=by
 have e:(p.drop f).take (i - f) = p.drop f:=List.take_of_length_le (by simp;omega)
 have h2:=h.no
 rw [e] at h2 ⊢
 rw [h.eq,split_one h2]
def RnmTo (w:World) (p:List UInt8) (e:Ending) (w':World):Prop:=∃ A c,e = .returned (.tuple #[.slice A (splitD p).length c,.bool (namesOk p)]) ∧ (splitD p).length ≤ c ∧ Sl w' A (codX.row (splitD p)) ∧ Fr noB w w'
theorem ext_cut (p:List UInt8) (f i:Nat):(str p).extract f i = str ((p.drop f).take (i - f)):=by
 apply ByteArray.ext
 rw [ByteArray.data_extract]
 show (p.toArray.extract f i) = ((p.drop f).take (i - f)).toArray
 apply Array.toList_inj.1
 simp only [Array.toList_extract,List.extract_eq_take_drop]
theorem split_pc:∀ (p:List UInt8),∀ s ∈ splitD p,s.length ≤ p.length
 | [],s,h=>by
  simp only [splitD,List.mem_singleton] at h
  subst h;simp
 | b :: l,s,h=>by
  have ih:=split_pc l
  unfold splitD at h
  split at h
  ·rcases List.mem_cons.1 h with rfl | h
   ·simp
   ·have:=ih s h;simp only [List.length_cons];omega
  ·cases he:splitD l with
   | nil=>exact absurd he (split_ne l)
   | cons x t =>
    rw [he] at h ih
    rcases List.mem_cons.1 h with rfl | h
    ·have:=ih x (by simp);simp only [List.length_cons];omega
    ·have:=ih s (by simp [h]);simp only [List.length_cons];omega
def RnI (w:World) (p:List UInt8) (gk:Nat) (ov fv iv:Value) (wr:World):Prop :=
 ∃ (i f:Nat) (A:Option Addr) (c:Nat) (out:List (List UInt8)),iv = .int .i64 (i:Int) ∧ fv = .int .i64 (f:Int) ∧ ov = .slice A out.length c ∧ gk = p.length + 1 - i ∧ OwnC codX w wr A c out ∧ Fr noB w wr ∧ ((i ≤ p.length ∧ SpS p out f i) ∨ (i = p.length + 1 ∧ out = splitD p)) ∧ out.length ≤ p.length + 1
set_option maxRecDepth 100000 in
set_option maxHeartbeats 4000000 in
theorem rnames_any (w:World) (p:List UInt8) (hp:p.length ≤ 1000000000):Calls Tryz.prog 30 #[.string (str p)] w (RnmTo w p):=by
 have HP:=Lib.hid hp
 have HSZ:=Lib.hid (str_size p)
 clear hp
 go_enter Tryz.func30,Tryz.ntmps30
 have fa:Fr noB w (w.alloc (.cells #[] 9)):=(Fr.refl noB w).alloc _
 have own0:OwnC codX w (w.alloc (.cells #[] 9)) (some ⟨w.heap.size,0,none⟩) 0 []:=World.ownsRow_lit (base:=w.heap.size) (e:=9) (size:=1) w #[] 0 (Nat.le_refl _) (by unfold maxLen;omega) (by simp)
 have H0:=Lib.hid (show RnI w p (p.length + 1) (.slice (some ⟨w.heap.size,0,none⟩) 0 0) (.int .i64 ((0:Nat):Int)) (.int .i64 ((0:Nat):Int)) (w.alloc (.cells #[] 9)) from ⟨0,0,_,0,[],rfl,rfl,rfl,rfl,own0,fa,.inl ⟨Nat.zero_le _,SpS.zero p⟩,by simp⟩)
 clear fa own0
 go_wp2_with fail
 go_loopg [4,5,6] (p.length + 1) (fun gk ov fv iv wr=>RnI w p gk ov fv iv wr)
 case atStart=>exact H0.out
 case round =>
  clear H0
  obtain ⟨i,f,A,c,out,rfl,rfl,rfl,rfl,ho,hf,hcase,hlen⟩:=hrel
  have HO:=Lib.hid ho
  have HF:=Lib.hid hf
  have HLE:=Lib.hid hlen
  clear ho hf hlen
  rcases hcase with ⟨hle,hsp⟩ | ⟨hend,hout⟩
  ·have HS:=Lib.hid hsp
   have HI:=Lib.hid hle
   have i1:(i:Int) ≤ ((str p).size:Int):=by rw [HSZ.out];omega
   have i1':i ≤ (str p).size:=by rw [HSZ.out];omega
   have i0:(0:Int) ≤ (i:Int):=by omega
   have f0:(0:Int) ≤ (f:Int):=by omega
   have fi:(f:Int) ≤ (i:Int):=by have:=hsp.le;omega
   have wi:wrap64 ((i:Int) + 1) = (i:Int) + 1:=IntWalk.wrap64_in _ (by have:=HP.out;omega)
   have hx:=ext_cut p f i
   obtain ⟨seg,hseg⟩:∃ g,g = (p.drop f).take (i - f):=⟨_,rfl⟩
   rw [← hseg] at hx
   have HSEG:=Lib.hid hseg
   have hsl:Sl (wr.alloc (.cells #[.string (str seg)] 9)) (some ⟨wr.heap.size,0,none⟩) (codX.row [seg]):=Sl.new wr 9 [.string (str seg)]
   have fn:Fr noB wr (wr.alloc (.cells #[.string (str seg)] 9)):=(Fr.refl noB wr).alloc _
   have hox:=Lib.hid (own_new0 HO.out fn)
   have sz:=(HF.out.step0 fn).size
   have FX:=Lib.hid (HF.out.step0 fn)
   clear hle hsp hseg fn
   by_cases hlt:i < p.length
   ·have e1:((i:Int) == ((str p).size:Int)) = false:=by rw [HSZ.out];simp;omega
    have k1:(i:Int) < ((str p).size:Int):=by rw [HSZ.out];omega
    have k2:i < (str p).size:=by rw [HSZ.out];exact hlt
    have HLT:=Lib.hid hlt
    have hkb:=Lib.hid (str_get p i k2 HLT.out)
    clear hlt
    by_cases hb:p[i]'HLT.out = 47
    ·have hd:((((str p)[i]'k2).toNat:Int) == 47) = true:=by rw [hkb.out,hb];rfl
     have HB:=Lib.hid hb
     clear hb
     go_wp2_with (at_builtin;refine wpList_appC' etX1 w _ rfl _ _ rfl A out.length c out rfl rfl hox.out (some ⟨wr.heap.size,0,none⟩) 1 1 [seg] rfl hsl rfl (by have:=HLE.out;have:=HP.out;simp;omega) sz ?_;intro A8 c8 w8 hc8 hmx8 ho8 hg8 hA8)
     have F8:=Fr.own' FX.out hox.out hg8
     go_roundg (p.length + 1 - (i + 1))
     case measure=>have:=HI.out;omega
     case rel=>exact ⟨i + 1,i + 1,A8,c8,out ++ [seg],by first | exact congrArg (Value.int .i64) wi | simp,by first | exact congrArg (Value.int .i64) wi | simp,by first | rfl | simp,rfl,ho8,F8,.inl ⟨by have:=HLT.out;omega,by rw [HSEG.out];exact HS.out.cut HLT.out HB.out⟩,by have h1:=HS.out.len;have h2:=HS.out.le;have:=HI.out;simp;omega⟩
    ·have hd:((((str p)[i]'k2).toNat:Int) == 47) = false:=by
      have:=u8_beq (p[i]'HLT.out) 47 (by omega)
      rw [hkb.out]
      exact this.trans (decide_eq_false hb)
     have HB:=Lib.hid hb
     clear hb hsl sz
     go_wp2_with fail
     go_roundg (p.length + 1 - (i + 1))
     case measure=>have:=HI.out;omega
     case rel=>exact ⟨i + 1,f,A,c,out,by first | exact congrArg (Value.int .i64) wi | simp,rfl,rfl,rfl,HO.out,HF.out,.inl ⟨by have:=HLT.out;omega,HS.out.on HLT.out HB.out⟩,HLE.out⟩
   ·have hie:i = p.length:=by have:=HI.out;omega
    have e1:((i:Int) == ((str p).size:Int)) = true:=by rw [HSZ.out,hie];simp
    have HIE:=Lib.hid hie
    clear hlt hie
    go_wp2_with (at_builtin;refine wpList_appC' etX1 w _ rfl _ _ rfl A out.length c out rfl rfl hox.out (some ⟨wr.heap.size,0,none⟩) 1 1 [seg] rfl hsl rfl (by have:=HLE.out;have:=HP.out;simp;omega) sz ?_;intro A8 c8 w8 hc8 hmx8 ho8 hg8 hA8)
    have F8:=Fr.own' FX.out hox.out hg8
    go_roundg (p.length + 1 - (i + 1))
    case measure=>have:=HI.out;omega
    case rel=>exact ⟨i + 1,i + 1,A8,c8,out ++ [seg],by first | exact congrArg (Value.int .i64) wi | simp,by first | exact congrArg (Value.int .i64) wi | simp,by first | rfl | simp,rfl,ho8,F8,.inr ⟨by rw [HIE.out],by rw [HSEG.out];exact (HS.out.fin HIE.out).symm⟩,by have h1:=HS.out.len;have h2:=HS.out.le;have:=HI.out;simp;omega⟩
  ·have i1:¬ (i:Int) ≤ ((str p).size:Int):=by rw [HSZ.out];omega
   have i1':¬ i ≤ (str p).size:=by rw [HSZ.out];omega
   have HOUT:=Lib.hid hout
   obtain ⟨b0,hb0⟩:∃ b,b = (decide (out.length ≤ 20) && decide (p.length ≤ 1000)):=⟨_,rfl⟩
   have HB0:=Lib.hid hb0
   have HSO:=Lib.hid (Sl.own HO.out)
   have HCP:=Lib.hid (own_cap HO.out)
   have H2:=Lib.hid (show ∃ k:Nat,(Value.int .i64 ((0:Nat):Int)) = .int .i64 (k:Int) ∧ Value.bool b0 = .bool (b0 && (out.take k).all nameOk) ∧ out.length = out.length - k ∧ k ≤ out.length ∧ Fr noB wr wr from ⟨0,rfl,by simp,rfl,Nat.zero_le _,Fr.refl _ _⟩)
   clear hend hout hb0
   by_cases h20:out.length ≤ 20
   ·have l20:(out.length:Int) ≤ 20:=by omega
    by_cases h1k:p.length ≤ 1000
    ·have l1k:(str p).size ≤ 1000:=by rw [HSZ.out];exact h1k
     have l1k':((str p).size:Int) ≤ 1000:=by omega
     have hbt:b0 = true:=by rw [HB0.out];simp [h20,h1k]
     have HBT:=Lib.hid hbt
     clear h20 h1k hbt
     go_wp2_with fail
     go_loopg [7,8] out.length (fun gk bv kv wz=>∃ k:Nat,kv = .int .i64 (k:Int) ∧ bv = .bool (b0 && (out.take k).all nameOk) ∧ gk = out.length - k ∧ k ≤ out.length ∧ Fr noB wr wz)
     case atStart=>exact ⟨0,rfl,by rw [HBT.out];simp,rfl,Nat.zero_le _,Fr.refl _ _⟩
     case round =>
      obtain ⟨k,rfl,rfl,rfl,hk,hf⟩:=hrel
      have HFZ:=Lib.hid hf
      clear hf
      have FW:=Lib.hid (HF.out.step0 HFZ.out)
      by_cases hkl:k < out.length
      ·have k1:(k:Int) < (out.length:Int):=by omega
       have k0:(0:Int) ≤ (k:Int):=by omega
       have hsl:=HSO.out.fr0 HFZ.out
       obtain ⟨g,off,rfl,hg⟩:=Sl.addr hsl (by omega)
       have e3:wr.cell? ⟨g,off + k,none⟩ = some (.string (str out[k])):=by
        have:=Cod.rd_cell (C:=codX) (Sl.rd hsl k hkl) 0 (v:=.string (str out[k])) rfl
        rw [show off + k * codX.n + 0 = off + k by show off + k * 1 + 0 = _;omega] at this
        exact this
       have HTK:=Lib.hid (show (b0 && (out.take (k + 1)).all nameOk) = ((b0 && (out.take k).all nameOk) && nameOk out[k]) by rw [List.take_succ_eq_append_getElem hkl,List.all_append];simp [Bool.and_assoc])
       have HLN:=Lib.hid (show (out[k]).length ≤ p.length from split_pc p _ (by rw [← HOUT.out];exact List.getElem_mem hkl))
       generalize out[k] = nm at e3 HTK HLN
       have HKL:=Lib.hid hkl
       have wk:wrap64 ((k:Int) + 1) = (k:Int) + 1:=IntWalk.wrap64_in _ (by have:=HLE.out;have:=HP.out;omega)
       have NM:=Lib.hid (fun w'=>r3name_any w' nm (by have:=HLN.out;have:=HP.out;omega))
       clear hsl hg hkl hk
       generalize (b0 && (out.take k).all nameOk) = tb at HTK ⊢
       cases tb with
       | true =>
        go_wp2_with (go_at_call 64;refine (NM.out _).mono ?_;rintro e w5 ⟨rfl,f5⟩)
        go_roundg (out.length - (k + 1))
        case measure=>have:=HKL.out;omega
        case rel=>exact ⟨k + 1,by first | exact congrArg (Value.int .i64) wk | simp,by rw [HTK.out];rfl,rfl,by have:=HKL.out;omega,HFZ.out.step0 f5⟩
       | false =>
        go_wp2_with fail
        go_roundg (out.length - (k + 1))
        case measure=>have:=HKL.out;omega
        case rel=>exact ⟨k + 1,by first | exact congrArg (Value.int .i64) wk | simp,by rw [HTK.out];rfl,rfl,by have:=HKL.out;omega,HFZ.out⟩
      ·have k1:¬ (k:Int) < (out.length:Int):=by omega
       have htk:out.take k = out:=List.take_of_length_le (by omega)
       rw [htk]
       have HNO:=Lib.hid (show (b0 && out.all nameOk) = namesOk p by rw [HB0.out,HOUT.out];unfold namesOk;rw [Bool.and_comm,Bool.and_assoc])
       generalize (b0 && out.all nameOk) = fin at HNO ⊢
       clear htk hkl hk
       go_wp2_with fail
       go_ret2
       exact ⟨A,c,by rw [← HNO.out,← HOUT.out];rfl,by rw [← HOUT.out];exact HCP.out,by rw [← HOUT.out];exact HSO.out.fr0 HFZ.out,FW.out⟩
    ·have l1k:¬ (str p).size ≤ 1000:=by rw [HSZ.out];exact h1k
     have l1k':¬ ((str p).size:Int) ≤ 1000:=by omega
     have hbt:b0 = false:=by rw [HB0.out];simp [h1k]
     have HBT:=Lib.hid hbt
     clear h20 h1k hbt
     go_wp2_with fail
     go_loopg [7,8] out.length (fun gk bv kv wz=>∃ k:Nat,kv = .int .i64 (k:Int) ∧ bv = .bool (b0 && (out.take k).all nameOk) ∧ gk = out.length - k ∧ k ≤ out.length ∧ Fr noB wr wz)
     case atStart=>exact ⟨0,rfl,by rw [HBT.out];simp,rfl,Nat.zero_le _,Fr.refl _ _⟩
     case round =>
      obtain ⟨k,rfl,rfl,rfl,hk,hf⟩:=hrel
      have HFZ:=Lib.hid hf
      clear hf
      have FW:=Lib.hid (HF.out.step0 HFZ.out)
      by_cases hkl:k < out.length
      ·have k1:(k:Int) < (out.length:Int):=by omega
       have k0:(0:Int) ≤ (k:Int):=by omega
       have hsl:=HSO.out.fr0 HFZ.out
       obtain ⟨g,off,rfl,hg⟩:=Sl.addr hsl (by omega)
       have e3:wr.cell? ⟨g,off + k,none⟩ = some (.string (str out[k])):=by
        have:=Cod.rd_cell (C:=codX) (Sl.rd hsl k hkl) 0 (v:=.string (str out[k])) rfl
        rw [show off + k * codX.n + 0 = off + k by show off + k * 1 + 0 = _;omega] at this
        exact this
       have HTK:=Lib.hid (show (b0 && (out.take (k + 1)).all nameOk) = ((b0 && (out.take k).all nameOk) && nameOk out[k]) by rw [List.take_succ_eq_append_getElem hkl,List.all_append];simp [Bool.and_assoc])
       have HLN:=Lib.hid (show (out[k]).length ≤ p.length from split_pc p _ (by rw [← HOUT.out];exact List.getElem_mem hkl))
       generalize out[k] = nm at e3 HTK HLN
       have HKL:=Lib.hid hkl
       have wk:wrap64 ((k:Int) + 1) = (k:Int) + 1:=IntWalk.wrap64_in _ (by have:=HLE.out;have:=HP.out;omega)
       have NM:=Lib.hid (fun w'=>r3name_any w' nm (by have:=HLN.out;have:=HP.out;omega))
       clear hsl hg hkl hk
       generalize (b0 && (out.take k).all nameOk) = tb at HTK ⊢
       cases tb with
       | true =>
        go_wp2_with (go_at_call 64;refine (NM.out _).mono ?_;rintro e w5 ⟨rfl,f5⟩)
        go_roundg (out.length - (k + 1))
        case measure=>have:=HKL.out;omega
        case rel=>exact ⟨k + 1,by first | exact congrArg (Value.int .i64) wk | simp,by rw [HTK.out];rfl,rfl,by have:=HKL.out;omega,HFZ.out.step0 f5⟩
       | false =>
        go_wp2_with fail
        go_roundg (out.length - (k + 1))
        case measure=>have:=HKL.out;omega
        case rel=>exact ⟨k + 1,by first | exact congrArg (Value.int .i64) wk | simp,by rw [HTK.out];rfl,rfl,by have:=HKL.out;omega,HFZ.out⟩
      ·have k1:¬ (k:Int) < (out.length:Int):=by omega
       have htk:out.take k = out:=List.take_of_length_le (by omega)
       rw [htk]
       have HNO:=Lib.hid (show (b0 && out.all nameOk) = namesOk p by rw [HB0.out,HOUT.out];unfold namesOk;rw [Bool.and_comm,Bool.and_assoc])
       generalize (b0 && out.all nameOk) = fin at HNO ⊢
       clear htk hkl hk
       go_wp2_with fail
       go_ret2
       exact ⟨A,c,by rw [← HNO.out,← HOUT.out];rfl,by rw [← HOUT.out];exact HCP.out,by rw [← HOUT.out];exact HSO.out.fr0 HFZ.out,FW.out⟩
   ·have l20:¬ (out.length:Int) ≤ 20:=by omega
    have hbt:b0 = false:=by rw [HB0.out];simp [h20]
    have HBT:=Lib.hid hbt
    clear h20 hbt
    go_wp2_with fail
    go_loopg [7,8] out.length (fun gk bv kv wz=>∃ k:Nat,kv = .int .i64 (k:Int) ∧ bv = .bool (b0 && (out.take k).all nameOk) ∧ gk = out.length - k ∧ k ≤ out.length ∧ Fr noB wr wz)
    case atStart=>exact ⟨0,rfl,by rw [HBT.out];simp,rfl,Nat.zero_le _,Fr.refl _ _⟩
    case round =>
     obtain ⟨k,rfl,rfl,rfl,hk,hf⟩:=hrel
     have HFZ:=Lib.hid hf
     clear hf
     have FW:=Lib.hid (HF.out.step0 HFZ.out)
     by_cases hkl:k < out.length
     ·have k1:(k:Int) < (out.length:Int):=by omega
      have k0:(0:Int) ≤ (k:Int):=by omega
      have hsl:=HSO.out.fr0 HFZ.out
      obtain ⟨g,off,rfl,hg⟩:=Sl.addr hsl (by omega)
      have e3:wr.cell? ⟨g,off + k,none⟩ = some (.string (str out[k])):=by
       have:=Cod.rd_cell (C:=codX) (Sl.rd hsl k hkl) 0 (v:=.string (str out[k])) rfl
       rw [show off + k * codX.n + 0 = off + k by show off + k * 1 + 0 = _;omega] at this
       exact this
      have HTK:=Lib.hid (show (b0 && (out.take (k + 1)).all nameOk) = ((b0 && (out.take k).all nameOk) && nameOk out[k]) by rw [List.take_succ_eq_append_getElem hkl,List.all_append];simp [Bool.and_assoc])
      have HLN:=Lib.hid (show (out[k]).length ≤ p.length from split_pc p _ (by rw [← HOUT.out];exact List.getElem_mem hkl))
      generalize out[k] = nm at e3 HTK HLN
      have HKL:=Lib.hid hkl
      have wk:wrap64 ((k:Int) + 1) = (k:Int) + 1:=IntWalk.wrap64_in _ (by have:=HLE.out;have:=HP.out;omega)
      have NM:=Lib.hid (fun w'=>r3name_any w' nm (by have:=HLN.out;have:=HP.out;omega))
      clear hsl hg hkl hk
      generalize (b0 && (out.take k).all nameOk) = tb at HTK ⊢
      cases tb with
      | true =>
       go_wp2_with (go_at_call 64;refine (NM.out _).mono ?_;rintro e w5 ⟨rfl,f5⟩)
       go_roundg (out.length - (k + 1))
       case measure=>have:=HKL.out;omega
       case rel=>exact ⟨k + 1,by first | exact congrArg (Value.int .i64) wk | simp,by rw [HTK.out];rfl,rfl,by have:=HKL.out;omega,HFZ.out.step0 f5⟩
      | false =>
       go_wp2_with fail
       go_roundg (out.length - (k + 1))
       case measure=>have:=HKL.out;omega
       case rel=>exact ⟨k + 1,by first | exact congrArg (Value.int .i64) wk | simp,by rw [HTK.out];rfl,rfl,by have:=HKL.out;omega,HFZ.out⟩
     ·have k1:¬ (k:Int) < (out.length:Int):=by omega
      have htk:out.take k = out:=List.take_of_length_le (by omega)
      rw [htk]
      have HNO:=Lib.hid (show (b0 && out.all nameOk) = namesOk p by rw [HB0.out,HOUT.out];unfold namesOk;rw [Bool.and_comm,Bool.and_assoc])
      generalize (b0 && out.all nameOk) = fin at HNO ⊢
      clear htk hkl hk
      go_wp2_with fail
      go_ret2
      exact ⟨A,c,by rw [← HNO.out,← HOUT.out];rfl,by rw [← HOUT.out];exact HCP.out,by rw [← HOUT.out];exact HSO.out.fr0 HFZ.out,FW.out⟩
end Go.Proofs.YthehiobacjjakaaGreatDoor
namespace Go.Proofs.YthehiobacjjakaaGreatDoor
def walkF (xs:List RwP):RwP → Bool → List (List UInt8) → RwP × Nat × Bool
 | a,fl,[]=>(a,0,fl)
 | a,fl,nm :: l=>match stepR xs a.Node nm with
  | none=>(a,0,fl)
  | some r=>((walkF xs r (fl || (decide (l ≠ []) && decide (0 < r.Heads.length))) l).1,(walkF xs r (fl || (decide (l ≠ []) && decide (0 < r.Heads.length))) l).2.1 + 1,(walkF xs r (fl || (decide (l ≠ []) && decide (0 < r.Heads.length))) l).2.2)
def fileG (xs:List RwP) (a:RwP) (l:List (List UInt8)) (n:Nat):Bool:=(List.range (min n (l.length - 1))).any fun i=>decide (0 < (walkD xs a (l.take (i + 1))).1.Heads.length)
theorem fileG_cons {xs:List RwP} {a r:RwP} {nm:List UInt8} (hk:kidD xs a.Node nm = some r) (l:List (List UInt8)) (n:Nat):fileG xs a (nm :: l) (n + 1) = ((decide (l ≠ []) && decide (0 < r.Heads.length)) || fileG xs r l n):=by
 have e1:∀ m,walkD xs a (nm :: m) = ((walkD xs r m).1,(walkD xs r m).2 + 1):=fun m=>by
  show (match kidD xs a.Node nm with | none=>(a,0) | some r=>((walkD xs r m).1,(walkD xs r m).2 + 1)) = _
  rw [hk]
 unfold fileG
 cases l with
 | nil=>simp
 | cons b t =>
  rw [show min (n + 1) ((nm :: b :: t).length - 1) = min n ((b :: t).length - 1) + 1 by simp only [List.length_cons];omega,List.range_succ_eq_map,List.any_cons,List.any_map]
  have e2:(walkD xs a ((nm :: b :: t).take (0 + 1))).1 = r:=by
   show (walkD xs a (nm :: [])).1 = r
   rw [e1]
   rfl
  rw [e2]
  have e3:((fun i=>decide (0 < (walkD xs a ((nm :: b :: t).take (i + 1))).1.Heads.length)) ∘ Nat.succ) = fun i=>decide (0 < (walkD xs r ((b :: t).take (i + 1))).1.Heads.length):=by
   funext i
   show decide (0 < (walkD xs a (nm :: (b :: t).take (i + 1))).1.Heads.length) = _
   rw [e1]
  rw [e3]
  simp
theorem walkF_eq {xs:List RwP} (h:TreeOk xs):∀ (l:List (List UInt8)) (a:RwP) (fl:Bool),walkF xs a fl l = ((walkD xs a l).1,(walkD xs a l).2,fl || fileG xs a l (walkD xs a l).2)
 | [],a,fl=>by simp [walkF,walkD,fileG]
 | nm :: l,a,fl=>by
  have hs:=stepR_eq h a.Node nm
  show (match stepR xs a.Node nm with | none=>_ | some r=>_) = _
  cases hk:kidD xs a.Node nm with
  | none =>
   rw [hs,hk]
   have e:walkD xs a (nm :: l) = (a,0):=by
    show (match kidD xs a.Node nm with | none=>(a,0) | some r=>((walkD xs r l).1,(walkD xs r l).2 + 1)) = _
    rw [hk]
   rw [e]
   simp [fileG]
  | some r =>
   rw [hs,hk]
   have e:walkD xs a (nm :: l) = ((walkD xs r l).1,(walkD xs r l).2 + 1):=by
    show (match kidD xs a.Node nm with | none=>(a,0) | some r=>((walkD xs r l).1,(walkD xs r l).2 + 1)) = _
    rw [hk]
   rw [e]
   simp only [walkF_eq h l r]
   rw [fileG_cons hk,Bool.or_assoc]
theorem walkF_D {xs:List RwP} (h:TreeOk xs) (l:List (List UInt8)):walkF xs zRwP false l = ((walkD xs zRwP l).1,(walkD xs zRwP l).2,fileD xs l (walkD xs zRwP l).2):=by
 rw [walkF_eq h,Bool.false_or]
 rfl
end Go.Proofs.YthehiobacjjakaaGreatDoor
namespace Go.Proofs.YthehiobacjjakaaGreatDoor
open Go.RowKit Go.Maps Go.Sort
theorem ret_row_tmp2 {α:Type} {C:Cod α} (H:CodOk Tryz.prog C) {fn:Func} {p u v:Tmp} (h:fn.results = #[.cell p C.t,.tmp u,.tmp v]) (tmps:Array Value) (w:World) (R:Nat) (x:α) (hp:tmps.getD p undef = .pointer (some ⟨R,0,none⟩)) (hb:C.bxd w R = some x):(results fn tmps).run Tryz.prog w = .ok (.tuple #[.agg (C.A x),tmps.getD u undef,tmps.getD v undef]) w:=by
 obtain ⟨d,h1,h2⟩:=H.und
 have hl:=run_loadVar_mid (P:=Tryz.prog) w R 0 C.t (C.cs x) d (Cod.rd_rd (Cod.bxd_rd hb)) h1 h2 (by rw [C.len];exact H.info)
 unfold results
 rw [h]
 simp only [List.mapM_toArray,List.mapM_cons,List.mapM_nil,Sem.run_bind,Sem.run_pure,Result.andThen_ok,hp,asAddr,hl,C.A_eq,bind_pure_comp,map_pure,Sem.run_map]
 rfl
structure WkTo3 (V w:World) (rs:List RwW) (o:RwP × Nat × Bool) (e:Ending) (w':World):Prop where
 ex:∃ r,e = .returned (.tuple #[.agg (codR.A r),.int .i64 (o.2.1:Int),.bool o.2.2]) ∧ RwIn V r o.1 ∧ (r ∈ rs ∨ r = zRwW)
 fr:Fr noB w w'
structure WkS3 (V W:World) (rs:List RwW) (xs:List RwP) (l:List (List UInt8)) (R B:Nat) (i:Nat) (fl:Bool) (wr:World):Prop where
 ex:∃ (ra:RwW) (a:RwP),codR.bxd wr B = some ra ∧ RwIn V ra a ∧ (ra ∈ rs ∨ ra = zRwW) ∧ walkF xs zRwP false l = ((walkF xs a fl (l.drop i)).1,(walkF xs a fl (l.drop i)).2.1 + i,(walkF xs a fl (l.drop i)).2.2)
 res:codR.bxd wr R = some zRwW
 le:i ≤ l.length
 fr:Fr noB W wr
theorem zRw_in (w:World):RwIn w zRwW zRwP:=⟨rfl,rfl,Sl.nil _ _,by decide,by decide,by decide,by decide⟩
theorem ex_stR_at {ρ:Operand → Value} {o:Oper} {x y:Operand} {w:World} {b:Nat} {r0 r:RwW} (ho:o.op = .store 60 x y) (hx:ρ x = .pointer (some ⟨b,0,none⟩)) (hy:ρ y = .agg (codR.A r)) (hb:codR.bxd w b = some r0):(execOp ρ o).run Tryz.prog w = .ok .skip (codR.put w b r):=by
 rw [Cod.stOp (C:=codR) ρ o x y ho w,hx,hy]
 exact okR.stR_box hb r
theorem ex_alR_at {ρ:Operand → Value} {o:Oper} (ho:o.op = .alloc 60) (w:World):(execOp ρ o).run Tryz.prog w = .ok (.value (.pointer (some ⟨w.heap.size,0,none⟩))) (w.alloc (codR.o zRwW)):=okR.alOp ρ o ho w
set_option maxRecDepth 100000 in
set_option maxHeartbeats 4000000 in
theorem rwalk_any (w:World) (A:Option Addr) (c n:Nat) (rs:List RwW) (xs:List RwP) (hn:rs.length = n) (hs:Sl w A (codR.row rs)) (hb:rs.length ≤ 1000000) {V:World} (fV:Fr noB V w) (hX:RwsIn V rs xs) (hok:NodesOk xs)
  (L:Option Addr) (cl m:Nat) (l:List (List UInt8)) (hm:l.length = m) (hl:Sl w L (codX.row l)) (hlb:l.length ≤ 4000000) :
  Calls Tryz.prog 31 #[.slice A n c,.slice L m cl] w (WkTo3 V w rs (walkF xs zRwP false l)):=by
 subst hn
 subst hm
 have ST:=Lib.hid (fun w' (f:Fr noB w w') s nm=>rstep_any w' A c rs.length rs xs rfl (hs.fr0 f) hb ((hX.fr fV).fr f) hok s nm)
 have HL:=Lib.hid hl
 have HLB:=Lib.hid hlb
 have HX:=Lib.hid hX
 clear hs hb hX hok hl hlb fV
 have f0:Fr noB w (w.alloc (codR.o zRwW)):=(Fr.refl noB w).alloc _
 have b0:codR.bxd (w.alloc (codR.o zRwW)) w.heap.size = some zRwW:=Cod.bxd_new w zRwW
 go_enter Tryz.func31,Tryz.ntmps31
 go_upto_region 1 with fail
 have HR:=Lib.hid (show w.heap.size ≤ w.heap.size from Nat.le_refl _)
 generalize hw0:w.alloc (codR.o zRwW) = w0 at f0 b0 ⊢
 generalize hr:w.heap.size = R at b0 HR ⊢
 have HRW:=Lib.hid (show w.heap.size ≤ R by omega)
 have HRR:=Lib.hid hr
 have HRL:=Lib.hid (show R < w0.heap.size by rw [← hw0,← hr];simp)
 clear hr hw0
 have f1:Fr noB w0 (w0.alloc (codR.o zRwW)):=(Fr.refl noB w0).alloc _
 have b1:codR.bxd (w0.alloc (codR.o zRwW)) w0.heap.size = some zRwW:=Cod.bxd_new w0 zRwW
 have H0:=Lib.hid (show WkS3 V w rs xs l R w0.heap.size 0 false (w0.alloc (codR.o zRwW)) from ⟨⟨zRwW,zRwP,b1,zRw_in _,.inr rfl,by simp⟩,Cod.bxd_fr0 b0 f1,Nat.zero_le _,f0.step0 f1⟩)
 have HQ:=Lib.hid (show w.heap.size ≤ w0.heap.size from f0.size)
 go_upto_region 2 with fail
 generalize w0.alloc (codR.o zRwW) = w1 at H0 ⊢
 generalize w0.heap.size = B at H0 HQ HRL ⊢
 clear f0 b0 f1 b1
 go_wp2_with fail
 go_loopg [8,9] l.length (fun gk fv iv wr=>∃ (i:Nat) (fl:Bool),iv = .int .i64 (i:Int) ∧ fv = .bool fl ∧ gk = l.length - i ∧ WkS3 V w rs xs l R B i fl wr)
 case atStart=>exact ⟨0,false,rfl,rfl,rfl,H0.out⟩
 case round =>
  clear H0
  obtain ⟨i,fl,rfl,rfl,rfl,hk⟩:=hrel
  have HK:=Lib.hid hk
  clear hk
  obtain ⟨ra,a,hra,hia,hmem,hwf⟩:=HK.out.ex
  have HME:=Lib.hid hmem
  clear hmem
  have HRA:=Lib.hid hra
  have HIA:=Lib.hid hia
  have HWF:=Lib.hid hwf
  clear hra hia hwf
  by_cases hlt:i < l.length
  ·have i1:(i:Int) < (l.length:Int):=by omega
   have i0:(0:Int) ≤ (i:Int):=by omega
   have hsl:=HL.out.fr0 HK.out.fr
   obtain ⟨g,off,rfl,hg⟩:=Sl.addr hsl (by omega)
   have e3:wr.cell? ⟨g,off + i,none⟩ = some (.string (str l[i])):=by
    have:=Cod.rd_cell (C:=codX) (Sl.rd hsl i hlt) 0 (v:=.string (str l[i])) rfl
    rw [show off + i * codX.n + 0 = off + i by show off + i * 1 + 0 = _;omega] at this
    exact this
   have HDR:=Lib.hid (List.drop_eq_getElem_cons hlt)
   have HLT:=Lib.hid hlt
   generalize l[i] = nm at e3 HDR
   have wi:wrap64 ((i:Int) + 1) = (i:Int) + 1:=IntWalk.wrap64_in _ (by have:=HLB.out;omega)
   have an:=(rwAt (Cod.bxd_rd HRA.out)).node
   rw [← HIA.out.node] at an
   have SC:=Lib.hid (fun w' (f:Fr noB w w')=>ST.out w' f a.Node nm)
   clear hsl hg hlt
   go_upto_region 6 with fail
   have fd:Fr noB wr wr.drew:=(Fr.refl noB _).drew
   have hF0:(fun w':World=>codS.rd w' B 0 = some a.Node ∧ w'.cell? ⟨g,off + i,none⟩ = some (.string (str nm))) wr.drew:=⟨Cod.rd_fr0 an fd,cell_fr0 e3 fd⟩
   have FD:=Lib.hid fd
   have HLB2:=Lib.hid (And.intro (Cod.bxd_lt HRA.out) (World.block_lt_of_cell? _ _ e3))
   have HLR:=Lib.hid (Cod.bxd_lt HK.out.res)
   clear an e3 fd
   refine wp_region_T 13 14 [⟨1048576,1,0⟩,⟨2097152,128,0⟩,⟨4194304,2097152,2⟩,⟨8388608,2,0⟩,⟨16777216,512,0⟩,⟨33554432,25165824,24⟩,⟨67108864,33554432,32⟩,⟨134217728,72351744,69⟩,⟨524288,134217728,128⟩,⟨268435456,524288,256⟩,⟨536870912,524288,256⟩,⟨1024,0,0⟩,⟨0,268436480,3071⟩,⟨2048,536870912,8191⟩] (.take 0 (.take 1 (.take 2 (.take 3 (.take 4 (.take 5 (.take 6 (.two 7 11 (.take 8 (.take 9 (.take 10 (.one 11 (.one 12 .done))))) (.one 7 (.take 8 (.take 9 (.take 10 (.one 12 .done))))))))))))) (fun w'=>codS.rd w' B 0 = some a.Node ∧ w'.cell? ⟨g,off + i,none⟩ = some (.string (str nm))) (by kernel_rfl) rfl (by kernel_rfl) (by kernel_rfl) (by kernel_rfl) hF0 (fun hA hF=>?_)
   clear hF0
   iterate 7
    refine wpAnyT_take (v:=?_) hA rfl (fun _ _ _ h=>h) (Or.inl ⟨by rfl,?_⟩) hF (fun hA=>?_)
    rotate_left
    ·intro wS hSw;(try dsimp only at hSw);obtain ⟨s1,s2⟩:=hSw;first | (apply Eq.trans;apply ex_ldR_at;exact rfl;exact rfl;assumption;with_reducible rfl) | (apply Eq.trans;apply ex_ldS_at;exact rfl;exact rfl;assumption;with_reducible rfl) | (go_simp;try with_reducible rfl)
    try simp only [sA1,sA2,sA3,Act.put,sA4,sA5,sA6]
   have keep:∀ w' w'':World,Fr noB w' w'' → (codS.rd w' B 0 = some a.Node ∧ w'.cell? ⟨g,off + i,none⟩ = some (.string (str nm))) → (codS.rd w'' B 0 = some a.Node ∧ w''.cell? ⟨g,off + i,none⟩ = some (.string (str nm))):=fun w' w'' f h=>⟨Cod.rd_fr0 h.1 f,cell_fr0 h.2 f⟩
   have FWV:=Lib.hid (HK.out.fr.step0 FD.out)
   refine wpAnyT_two (i:=7) (j:=11) hA rfl rfl (fun K' hK=>?_) (fun K' hK=>?_)
   ·rw [if_pos (by rfl)]
    go_simp
    go_at_call 36
    refine (SC.out wr.drew FWV.out).mono ?_
    rintro e u1 ⟨⟨rr,bb,rfl,hcase⟩,f5⟩
    replace hF:=keep _ _ f5 hF
    refine hK.out _ _ hF (fun hA=>?_)
    clear hK K'
    try simp only [sA1,sA2,sA3,Act.put,sA4,sA5,sA6]
    iterate 3
     refine wpAnyT_take (v:=?_) hA rfl (fun _ _ _ h=>h) (Or.inl ⟨by rfl,?_⟩) hF (fun hA=>?_)
     rotate_left
     ·intro wS hSw;(try dsimp only at hSw);obtain ⟨s1,s2⟩:=hSw;first | (apply Eq.trans;apply ex_ldR_at;exact rfl;exact rfl;assumption;with_reducible rfl) | (apply Eq.trans;apply ex_ldS_at;exact rfl;exact rfl;assumption;with_reducible rfl) | (go_simp;try with_reducible rfl)
     try simp only [sA1,sA2,sA3,Act.put,sA4,sA5,sA6]
    refine wpAnyT_one hA rfl (fun K' hK=>?_)
    refine wk_runV _ _ (ex_alR_at rfl u1) ?_
    have f6:Fr noB u1 (u1.alloc (codR.o zRwW)):=(Fr.refl noB u1).alloc _
    have hbx:codR.bxd (u1.alloc (codR.o zRwW)) u1.heap.size = some zRwW:=Cod.bxd_new u1 zRwW
    replace hF:=keep _ _ f6 hF
    refine hK.out _ _ hF (fun hA=>?_)
    clear hK K'
    try simp only [sA1,sA2,sA3,Act.put,sA4,sA5,sA6]
    have FU0:=FD.out.step0 (f5.step0 f6)
    have hQ:wr.heap.size ≤ u1.heap.size:=(FD.out.step0 f5).size
    refine wpAnyT_one hA rfl (fun K' hK=>?_)
    refine wk_skipV _ (ex_stR_at rfl rfl rfl hbx) ?_
    generalize u1.alloc (codR.o zRwW) = u at hbx FU0 hF hK ⊢
    generalize u1.heap.size = U at hbx hQ hK ⊢
    obtain ⟨p1,_,p3⟩:=Cod.put_fr hbx rr
    have n1:¬ B = U:=by have:=HLB2.out.1;omega
    have n2:¬ g = U:=by have h:g < wr.heap.size:=HLB2.out.2;omega
    refine hK.out _ _ ⟨Cod.rd_fr hF.1 p1 (by show ¬ B = U;exact n1),cell_frM hF.2 p1 (by show ¬ g = U;exact n2)⟩ (fun hA=>?_)
    clear hK K'
    try simp only [sA1,sA2,sA3,Act.put,sA4,sA5,sA6]
    refine wpAnyT_end hA rfl ?_
    simp only [List.drop_succ_cons,List.drop_zero]
    clear hF
    have FP:=Lib.hid (FU0.step1 p1 hQ)
    have HBX:=Lib.hid p3
    have bB:=Cod.bxd_fr0 HRA.out FP.out
    have bR:=Cod.bxd_fr0 HK.out.res FP.out
    rcases hcase with ⟨rfl,q,hq1,hq2,hx,hrr⟩ | ⟨rfl,hx,hrr⟩
    ·have hin2:=HX.out.at_ q hq1 hq2
     have HMR:=Lib.hid (show rr ∈ rs ∨ rr = zRwW from .inl (by rw [hrr];exact List.getElem_mem _))
     rw [← hrr] at hin2
     generalize xs[q] = a2 at hin2 hx
     have HIN:=Lib.hid hin2
     have HX2:=Lib.hid hx
     have hst:=okR.stR_box bB rr
     obtain ⟨p4,_,p6⟩:=Cod.put_fr bB rr
     have bU:=Cod.bxd_fr p3 p4 (fun e=>n1 e.symm)
     have qU:=Cod.bxd_rd p3
     have F6:=Lib.hid ((HK.out.fr.step0 FP.out).step1 p4 HQ.out)
     have b6:=Cod.bxd_fr bR p4 (fun e=>by have h1:=HRL.out;have h2:R = B:=e;omega)
     have B6:=Lib.hid p6
     have HLN:=Lib.hid (show a2.Heads.length = rr.n from hin2.len)
     have R6:=Lib.hid b6
     obtain ⟨fl2,hfl2⟩:∃ f,f = (fl || (decide (l.drop (i + 1) ≠ []) && decide (0 < rr.n))):=⟨_,rfl⟩
     have HFL:=Lib.hid hfl2
     have HNEW:=Lib.hid (show walkF xs zRwP false l = ((walkF xs a2 fl2 (l.drop (i + 1))).1,(walkF xs a2 fl2 (l.drop (i + 1))).2.1 + (i + 1),(walkF xs a2 fl2 (l.drop (i + 1))).2.2) by
      have e:walkF xs a fl (nm :: l.drop (i + 1)) = ((walkF xs a2 fl2 (l.drop (i + 1))).1,(walkF xs a2 fl2 (l.drop (i + 1))).2.1 + 1,(walkF xs a2 fl2 (l.drop (i + 1))).2.2):=by
       show (match stepR xs a.Node nm with | none=>_ | some r=>_) = _
       rw [HX2.out]
       simp only [HFL.out,← HLN.out]
      rw [HWF.out,HDR.out,e]
      simp only [Prod.mk.injEq,true_and,and_true]
      omega)
     clear hrr hx hq1 hq2 hin2 p1 p3 bR hbx p6 b6 hfl2
     go_upto_region 10 with fail
     generalize codR.put _ _ _ = wz at bU F6 B6 R6 ⊢
     have hu:=(rwAt (Cod.bxd_rd bU)).heads
     have wl:wrap64 ((l.length:Int) - 1) = (l.length:Int) - 1:=IntWalk.wrap64_in _ (by have:=HLB.out;omega)
     clear bU p4 qU
     by_cases h1:i + 1 < l.length
     ·have k1:(i:Int) < (l.length:Int) - 1:=by omega
      have HD1:=Lib.hid (show l.drop (i + 1) ≠ [] by rw [Ne,List.drop_eq_nil_iff];omega)
      by_cases h2:0 < rr.n
      ·have k2:(0:Int) < (rr.n:Int):=by omega
       have HFE:=Lib.hid (show fl2 = true by rw [HFL.out,decide_eq_true HD1.out,decide_eq_true h2];simp)
       clear h1 h2
       go_wp2_with fail
       go_roundg (l.length - (i + 1))
       case measure=>have:=HLT.out;omega
       case rel=>exact ⟨i + 1,fl2,by first | exact congrArg (Value.int .i64) wi | simp,by rw [HFE.out],rfl,⟨⟨rr,a2,B6.out,HIN.out,HMR.out,HNEW.out⟩,R6.out,by have:=HLT.out;omega,F6.out⟩⟩
      ·have k2:¬ (0:Int) < (rr.n:Int):=by omega
       have HFE:=Lib.hid (show fl2 = fl by rw [HFL.out,decide_eq_false h2];simp)
       clear h1 h2
       go_wp2_with fail
       go_roundg (l.length - (i + 1))
       case measure=>have:=HLT.out;omega
       case rel=>exact ⟨i + 1,fl2,by first | exact congrArg (Value.int .i64) wi | simp,by rw [HFE.out],rfl,⟨⟨rr,a2,B6.out,HIN.out,HMR.out,HNEW.out⟩,R6.out,by have:=HLT.out;omega,F6.out⟩⟩
     ·have k1:¬ (i:Int) < (l.length:Int) - 1:=by omega
      have HFE:=Lib.hid (show fl2 = fl by rw [HFL.out,List.drop_eq_nil_of_le (by omega)];simp)
      clear h1
      go_wp2_with fail
      go_roundg (l.length - (i + 1))
      case measure=>have:=HLT.out;omega
      case rel=>exact ⟨i + 1,fl2,by first | exact congrArg (Value.int .i64) wi | simp,by rw [HFE.out],rfl,⟨⟨rr,a2,B6.out,HIN.out,HMR.out,HNEW.out⟩,R6.out,by have:=HLT.out;omega,F6.out⟩⟩
    ·have HX:=Lib.hid hx
     have qB:=Cod.bxd_rd bB
     have hst:=okR.stR_box bR ra
     obtain ⟨p4,_,p6⟩:=Cod.put_fr bR ra
     have HRB:=Lib.hid p6
     have HFE:=Lib.hid ((HK.out.fr.step0 FP.out).step1 p4 (by have:=HRW.out;omega))
     clear p1 p3 p4 p6 bB bR hbx hrr
     go_wp2_with fail
     refine bodyPost_ret (ret_row_tmp2 okR rfl _ _ _ _ (by rfl) HRB.out) rfl ?_
     have ho:walkF xs zRwP false l = (a,i,fl):=by
      have e:walkF xs a fl (nm :: l.drop (i + 1)) = (a,0,fl):=by
       show (match stepR xs a.Node nm with | none=>_ | some r=>_) = _
       rw [HX.out]
      rw [HWF.out,HDR.out,e]
      simp
     rw [ho]
     exact ⟨⟨ra,rfl,HIA.out,HME.out⟩,HFE.out⟩
   ·refine wk_runV _ _ (ex_alR_at rfl wr.drew) ?_
    have f6:Fr noB wr.drew (wr.drew.alloc (codR.o zRwW)):=(Fr.refl noB wr.drew).alloc _
    have hbx1:codR.bxd (wr.drew.alloc (codR.o zRwW)) wr.drew.heap.size = some zRwW:=Cod.bxd_new wr.drew zRwW
    replace hF:=keep _ _ f6 hF
    refine hK.out _ _ hF (fun hA=>?_)
    clear hK K'
    try simp only [sA1,sA2,sA3,Act.put,sA4,sA5,sA6]
    have FU1:=FD.out.step0 f6
    have hQ:wr.heap.size ≤ wr.drew.heap.size:=FD.out.size
    have FW1:=Lib.hid (HK.out.fr.step0 FU1)
    generalize wr.drew.alloc (codR.o zRwW) = u1 at hbx1 FU1 FW1 hF ⊢
    generalize wr.drew.heap.size = U at hbx1 hQ ⊢
    refine wpAnyT_one hA rfl (fun K' hK=>?_)
    go_simp
    go_at_call 36
    refine (SC.out u1 FW1.out).mono ?_
    rintro e u ⟨⟨rr,bb,rfl,hcase⟩,f5⟩
    replace hF:=keep _ _ f5 hF
    refine hK.out _ _ hF (fun hA=>?_)
    clear hK K'
    try simp only [sA1,sA2,sA3,Act.put,sA4,sA5,sA6]
    have FU0:=FU1.step0 f5
    have hbx:=Cod.bxd_fr0 hbx1 f5
    iterate 3
     refine wpAnyT_take (v:=?_) hA rfl (fun _ _ _ h=>h) (Or.inl ⟨by rfl,?_⟩) hF (fun hA=>?_)
     rotate_left
     ·intro wS hSw;(try dsimp only at hSw);obtain ⟨s1,s2⟩:=hSw;first | (apply Eq.trans;apply ex_ldR_at;exact rfl;exact rfl;assumption;with_reducible rfl) | (apply Eq.trans;apply ex_ldS_at;exact rfl;exact rfl;assumption;with_reducible rfl) | (go_simp;try with_reducible rfl)
     try simp only [sA1,sA2,sA3,Act.put,sA4,sA5,sA6]
    refine wpAnyT_one hA rfl (fun K' hK=>?_)
    refine wk_skipV _ (ex_stR_at rfl rfl rfl hbx) ?_
    obtain ⟨p1,_,p3⟩:=Cod.put_fr hbx rr
    have n1:¬ B = U:=by have:=HLB2.out.1;omega
    have n2:¬ g = U:=by have h:g < wr.heap.size:=HLB2.out.2;omega
    refine hK.out _ _ ⟨Cod.rd_fr hF.1 p1 (by show ¬ B = U;exact n1),cell_frM hF.2 p1 (by show ¬ g = U;exact n2)⟩ (fun hA=>?_)
    clear hK K'
    try simp only [sA1,sA2,sA3,Act.put,sA4,sA5,sA6]
    refine wpAnyT_end hA rfl ?_
    simp only [List.drop_succ_cons,List.drop_zero]
    clear hF
    have FP:=Lib.hid (FU0.step1 p1 hQ)
    have HBX:=Lib.hid p3
    have bB:=Cod.bxd_fr0 HRA.out FP.out
    have bR:=Cod.bxd_fr0 HK.out.res FP.out
    rcases hcase with ⟨rfl,q,hq1,hq2,hx,hrr⟩ | ⟨rfl,hx,hrr⟩
    ·have hin2:=HX.out.at_ q hq1 hq2
     have HMR:=Lib.hid (show rr ∈ rs ∨ rr = zRwW from .inl (by rw [hrr];exact List.getElem_mem _))
     rw [← hrr] at hin2
     generalize xs[q] = a2 at hin2 hx
     have HIN:=Lib.hid hin2
     have HX2:=Lib.hid hx
     have hst:=okR.stR_box bB rr
     obtain ⟨p4,_,p6⟩:=Cod.put_fr bB rr
     have bU:=Cod.bxd_fr p3 p4 (fun e=>n1 e.symm)
     have qU:=Cod.bxd_rd p3
     have F6:=Lib.hid ((HK.out.fr.step0 FP.out).step1 p4 HQ.out)
     have b6:=Cod.bxd_fr bR p4 (fun e=>by have h1:=HRL.out;have h2:R = B:=e;omega)
     have B6:=Lib.hid p6
     have HLN:=Lib.hid (show a2.Heads.length = rr.n from hin2.len)
     have R6:=Lib.hid b6
     obtain ⟨fl2,hfl2⟩:∃ f,f = (fl || (decide (l.drop (i + 1) ≠ []) && decide (0 < rr.n))):=⟨_,rfl⟩
     have HFL:=Lib.hid hfl2
     have HNEW:=Lib.hid (show walkF xs zRwP false l = ((walkF xs a2 fl2 (l.drop (i + 1))).1,(walkF xs a2 fl2 (l.drop (i + 1))).2.1 + (i + 1),(walkF xs a2 fl2 (l.drop (i + 1))).2.2) by
      have e:walkF xs a fl (nm :: l.drop (i + 1)) = ((walkF xs a2 fl2 (l.drop (i + 1))).1,(walkF xs a2 fl2 (l.drop (i + 1))).2.1 + 1,(walkF xs a2 fl2 (l.drop (i + 1))).2.2):=by
       show (match stepR xs a.Node nm with | none=>_ | some r=>_) = _
       rw [HX2.out]
       simp only [HFL.out,← HLN.out]
      rw [HWF.out,HDR.out,e]
      simp only [Prod.mk.injEq,true_and,and_true]
      omega)
     clear hrr hx hq1 hq2 hin2 p1 p3 bR hbx p6 b6 hfl2
     go_upto_region 10 with fail
     generalize codR.put _ _ _ = wz at bU F6 B6 R6 ⊢
     have hu:=(rwAt (Cod.bxd_rd bU)).heads
     have wl:wrap64 ((l.length:Int) - 1) = (l.length:Int) - 1:=IntWalk.wrap64_in _ (by have:=HLB.out;omega)
     clear bU p4 qU
     by_cases h1:i + 1 < l.length
     ·have k1:(i:Int) < (l.length:Int) - 1:=by omega
      have HD1:=Lib.hid (show l.drop (i + 1) ≠ [] by rw [Ne,List.drop_eq_nil_iff];omega)
      by_cases h2:0 < rr.n
      ·have k2:(0:Int) < (rr.n:Int):=by omega
       have HFE:=Lib.hid (show fl2 = true by rw [HFL.out,decide_eq_true HD1.out,decide_eq_true h2];simp)
       clear h1 h2
       go_wp2_with fail
       go_roundg (l.length - (i + 1))
       case measure=>have:=HLT.out;omega
       case rel=>exact ⟨i + 1,fl2,by first | exact congrArg (Value.int .i64) wi | simp,by rw [HFE.out],rfl,⟨⟨rr,a2,B6.out,HIN.out,HMR.out,HNEW.out⟩,R6.out,by have:=HLT.out;omega,F6.out⟩⟩
      ·have k2:¬ (0:Int) < (rr.n:Int):=by omega
       have HFE:=Lib.hid (show fl2 = fl by rw [HFL.out,decide_eq_false h2];simp)
       clear h1 h2
       go_wp2_with fail
       go_roundg (l.length - (i + 1))
       case measure=>have:=HLT.out;omega
       case rel=>exact ⟨i + 1,fl2,by first | exact congrArg (Value.int .i64) wi | simp,by rw [HFE.out],rfl,⟨⟨rr,a2,B6.out,HIN.out,HMR.out,HNEW.out⟩,R6.out,by have:=HLT.out;omega,F6.out⟩⟩
     ·have k1:¬ (i:Int) < (l.length:Int) - 1:=by omega
      have HFE:=Lib.hid (show fl2 = fl by rw [HFL.out,List.drop_eq_nil_of_le (by omega)];simp)
      clear h1
      go_wp2_with fail
      go_roundg (l.length - (i + 1))
      case measure=>have:=HLT.out;omega
      case rel=>exact ⟨i + 1,fl2,by first | exact congrArg (Value.int .i64) wi | simp,by rw [HFE.out],rfl,⟨⟨rr,a2,B6.out,HIN.out,HMR.out,HNEW.out⟩,R6.out,by have:=HLT.out;omega,F6.out⟩⟩
    ·have HX:=Lib.hid hx
     have qB:=Cod.bxd_rd bB
     have hst:=okR.stR_box bR ra
     obtain ⟨p4,_,p6⟩:=Cod.put_fr bR ra
     have HRB:=Lib.hid p6
     have HFE:=Lib.hid ((HK.out.fr.step0 FP.out).step1 p4 (by have:=HRW.out;omega))
     clear p1 p3 p4 p6 bB bR hbx hrr
     go_wp2_with fail
     refine bodyPost_ret (ret_row_tmp2 okR rfl _ _ _ _ (by rfl) HRB.out) rfl ?_
     have ho:walkF xs zRwP false l = (a,i,fl):=by
      have e:walkF xs a fl (nm :: l.drop (i + 1)) = (a,0,fl):=by
       show (match stepR xs a.Node nm with | none=>_ | some r=>_) = _
       rw [HX.out]
      rw [HWF.out,HDR.out,e]
      simp
     rw [ho]
     exact ⟨⟨ra,rfl,HIA.out,HME.out⟩,HFE.out⟩
  ·have i1:¬ (i:Int) < (l.length:Int):=by omega
   have hie:i = l.length:=by have:=HK.out.le;omega
   have hst:=okR.stR_box HK.out.res ra
   have qB:=Cod.bxd_rd HRA.out
   obtain ⟨p4,_,p6⟩:=Cod.put_fr HK.out.res ra
   have HRB:=Lib.hid p6
   have HFE:=Lib.hid (HK.out.fr.step1 p4 (by have:=HRW.out;omega))
   have HO:=Lib.hid (show walkF xs zRwP false l = (a,l.length,fl) by
    rw [HWF.out,List.drop_eq_nil_of_le (by omega)]
    simp only [walkF,hie,Nat.zero_add])
   clear p4 p6 hlt hie
   go_wp2_with fail
   refine bodyPost_ret (ret_row_tmp2 okR rfl _ _ _ _ (by rfl) HRB.out) rfl ?_
   rw [HO.out]
   exact ⟨⟨ra,rfl,HIA.out,HME.out⟩,HFE.out⟩
end Go.Proofs.YthehiobacjjakaaGreatDoor
