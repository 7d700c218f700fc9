/- Contracts: pollardref17 tilde, decimal. -/
import Derived.Test.YthehiobacjjakaaGreatDoorR3bKp
import Derived.Test.YthehiobacjjakaaGreatDoorWkCKp
import Derived.Deep.CutRange
set_option linter.unusedVariables false
set_option linter.unusedSimpArgs false
namespace Go.Proofs.YthehiobacjjakaaGreatDoor
open Go.RowKit
set_option maxRecDepth 100000 in
theorem r17tilde_any (w:World) (l:List UInt8) (hl:l.length ≤ 140737488355328):Calls Tryz.prog 32 #[.string (str l)] w (Gives w (.bool (l.contains 126))):=by
 have HSZ:=Lib.hid (str_size l)
 have HLL:=Lib.hid hl
 clear hl
 have hc:∃ c,l.contains 126 = c:=⟨_,rfl⟩
 obtain ⟨c,hc⟩:=hc
 rw [hc]
 have HC:=Lib.hid hc
 clear hc
 go_enter Tryz.func32,Tryz.ntmps32
 go_wp2_with fail
 go_loopg [3] l.length (fun gk iv wz=>∃ k:Nat,iv = .int .i64 (k:Int) ∧ gk = l.length - k ∧ k ≤ l.length ∧ (∀ b ∈ l.take k,b ≠ 126) ∧ wz = w)
 case atStart=>exact ⟨0,rfl,rfl,Nat.zero_le _,by simp,rfl⟩
 case round =>
  obtain ⟨k,rfl,rfl,hk,hall,rfl⟩:=hrel
  have HA:=Lib.hid hall
  clear hall
  by_cases hlt:k < l.length
  ·have i1:(k:Int) < ((str l).size:Int):=by rw [HSZ.out];omega
   have i1':k < (str l).size:=by rw [HSZ.out];omega
   have i0:(0:Int) ≤ (k:Int):=by omega
   have wk:IntKind.i64.wrap ((k:Int) + 1) = (k:Int) + 1:=by rw [IntKind.wrap_i64];have:=HLL.out;omega
   have HLT:=Lib.hid hlt
   have hkb:=str_get l k i1' HLT.out
   have HKB:=Lib.hid hkb
   clear hlt hk hkb
   by_cases hb:l[k]'HLT.out = 126
   ·have hd:((((str l)[k]'i1').toNat:Int) == 126) = true:=by rw [HKB.out,hb];rfl
    obtain rfl:c = true:=by
     rw [← HC.out,List.contains_iff_mem,← hb]
     exact List.getElem_mem _
    clear hb
    go_wp2_with fail
    go_ret
    exact ⟨rfl,Fr.refl _ _⟩
   ·have hd:((((str l)[k]'i1').toNat:Int) == 126) = false:=by
     have:=u8_beq (l[k]'HLT.out) 126 (by omega)
     rw [HKB.out]
     exact this.trans (decide_eq_false hb)
    have HB:=Lib.hid hb
    clear hb
    go_wp2_with fail
    go_roundg (l.length - (k + 1))
    case measure=>have:=HLT.out;omega
    case rel=>exact ⟨k + 1,by first | rfl | exact congrArg (Value.int .i64) wk,rfl,by have:=HLT.out;omega,fun b hb=>by
     rw [List.take_succ_eq_append_getElem HLT.out] at hb
     rcases List.mem_append.1 hb with h | h
     ·exact HA.out b h
     ·rw [List.mem_singleton] at h;rw [h];exact HB.out,rfl⟩
  ·have i1:¬ (k:Int) < ((str l).size:Int):=by rw [HSZ.out];omega
   have i1':¬ k < (str l).size:=by rw [HSZ.out];omega
   obtain rfl:c = false:=by
    rw [← HC.out]
    cases h:l.contains 126 with
    | false=>rfl
    | true =>
     rw [List.contains_iff_mem] at h
     have e:l.take k = l:=List.take_of_length_le (by omega)
     exact absurd rfl (HA.out 126 (by rw [e];exact h))
   clear hlt hk
   go_wp2_with fail
   go_ret
   exact ⟨rfl,Fr.refl _ _⟩
def dgR (k:Nat) (s:List UInt8):List UInt8:=if s = [] ∨ 0 < k then Lib.decDigits k ++ s else s
def msR (k:Nat) (s:List UInt8):Nat:=if s = [] then k + 1 else k
theorem dgR_step (k:Nat) (s:List UInt8) (h:s = [] ∨ 0 < k):dgR k s = dgR (k / 10) (UInt8.ofNat (48 + k % 10) :: s):=by
 unfold dgR
 rw [if_pos h,Lib.decDigits]
 by_cases hk:k < 10
 ·rw [dif_pos hk,if_neg (by simp;omega),Nat.mod_eq_of_lt hk];rfl
 ·rw [dif_neg hk,if_pos (.inr (by omega))];simp
set_option maxRecDepth 100000 in
theorem r17decimal_any (w:World) (m:Nat) (hm:m ≤ 9223372036854775807):Calls Tryz.prog 92 #[.int .i64 (m:Int)] w (Gives w (.string (str (Lib.decDigits m)))):=by
 have HM:=Lib.hid hm
 clear hm
 go_enter Tryz.func92,Tryz.ntmps92
 go_wp2_with fail
 go_loopg [0,3] (m + 1) (fun gk iv sv wr=>∃ (k:Nat) (s:List UInt8),iv = .int .i64 (k:Int) ∧ sv = .string (str s) ∧ gk = msR k s ∧ k ≤ m ∧ dgR k s = Lib.decDigits m ∧ Fr noB w wr)
 case atStart=>exact ⟨m,[],rfl,rfl,by simp [msR],Nat.le_refl _,by simp [dgR],Fr.refl _ _⟩
 case round =>
  obtain ⟨k,s,rfl,rfl,rfl,hk,hd,hf⟩:=hrel
  have HK:=Lib.hid hk
  have HD:=Lib.hid hd
  have HF:=Lib.hid hf
  clear hk hd hf
  obtain ⟨X,hX⟩:∃ X,X = str s:=⟨_,rfl⟩
  have hxe:X.toList.isEmpty = s.isEmpty:=by rw [hX,str_toList]
  rw [← hX]
  have HX:=Lib.hid hX
  obtain ⟨b,hb⟩:∃ b,b = UInt8.ofNat (48 + k % 10):=⟨_,rfl⟩
  have HB:=Lib.hid hb
  have hw:IntKind.i64.wrap (48 + (k:Int) % 10) = 48 + (k:Int) % 10:=by rw [IntKind.wrap_i64];omega
  have hq:wrap64 ((k:Int) / 10) = ((k / 10:Nat):Int):=by rw [IntWalk.wrap64_in _ (by have:=HK.out;have:=HM.out;omega)];rfl
  have hu:u8v b = .int .u8 (48 + (k:Int) % 10):=by
   unfold u8v
   congr 1
   rw [hb,UInt8.toNat_ofNat']
   omega
  have hsl:=Sl.new wr 5 [u8v b]
  have hcv:=conv_str (wr.alloc (.cells [u8v b].toArray 5)) (some ⟨wr.heap.size,0,none⟩) 1 1 [b] rfl hsl
  rw [hu] at hcv
  have hf5:Fr noB wr (wr.alloc (.cells #[.int .u8 (48 + (k:Int) % 10)] 5)):=(Fr.refl noB wr).alloc _
  have HF5:=Lib.hid (HF.out.step0 hf5)
  have hcat:str [b] ++ X = str (b :: s):=by rw [hX,str_appW];rfl
  have HCAT:=Lib.hid hcat
  have hz:(str [b]).size + X.size ≤ 9223372036854775807:=by
   rw [hX,str_size,str_size]
   have h1:s.length ≤ (Lib.decDigits m).length:=by
    rw [← HD.out]
    unfold dgR
    split <;> simp
   have h2:=Lib.itoa_length_le (m:Int) (by omega) (by have:=HM.out;omega)
   rw [itoa_pos (by omega)] at h2
   simp only [Int.toNat_natCast,List.length_singleton] at h2 ⊢
   omega
  clear hu hsl hf5 hcat hb hX
  by_cases hs:s = []
  ·have e1:X.toList.isEmpty = true:=by rw [hxe,hs];rfl
   have HC:=Lib.hid (show s = [] ∨ 0 < k from .inl hs)
   have HS:=Lib.hid hs
   clear hxe hs
   go_wp2_with fail
   go_roundg (msR (k / 10) (b :: s))
   case measure=>unfold msR;rw [if_pos HS.out,if_neg (by simp)];omega
   case rel=>exact ⟨k / 10,b :: s,congrArg (Value.int .i64) hq,by rw [HCAT.out],rfl,by have:=HK.out;omega,by rw [HB.out,← dgR_step k s HC.out];exact HD.out,HF5.out⟩
  ·have e1:X.toList.isEmpty = false:=by rw [hxe];cases s with | nil=>exact absurd rfl hs | cons _ _=>rfl
   have HS:=Lib.hid hs
   clear hxe hs
   by_cases hk0:0 < k
   ·have hk1:(0:Int) < (k:Int):=by omega
    have HC:=Lib.hid (show s = [] ∨ 0 < k from .inr hk0)
    go_wp2_with fail
    go_roundg (msR (k / 10) (b :: s))
    case measure=>unfold msR;rw [if_neg HS.out,if_neg (by simp)];omega
    case rel=>exact ⟨k / 10,b :: s,congrArg (Value.int .i64) hq,by rw [HCAT.out],rfl,by have:=HK.out;omega,by rw [HB.out,← dgR_step k s HC.out];exact HD.out,HF5.out⟩
   ·have hk1:¬ (0:Int) < (k:Int):=by omega
    have HR:=Lib.hid (show s = Lib.decDigits m by have:=HD.out;unfold dgR at this;rwa [if_neg (fun h=>h.elim (HS.out) hk0)] at this)
    clear hcv hw HCAT HF5 hz
    go_wp2_with fail
    go_ret
    exact ⟨by rw [← HR.out,← HX.out];rfl,HF.out⟩
end Go.Proofs.YthehiobacjjakaaGreatDoor
