/- Contracts: enc.Sum, enc.Four; pollardref02 Sum, Four; pollardref08 Seal; the law's sealed. -/
import Derived.Test.YtahllkifmmjbdaaCrcPKp
import Derived.Test.YtahllkifmmjbdaaShaWKp
import Derived.Test.YtahllkifmmjbdaaNumWKp
set_option linter.unusedVariables false
set_option linter.unusedSimpArgs false
namespace Go.Proofs.Ytahllkifmmjbdaa
open Go.RowKit Go.Maps Go.Sort
set_option maxRecDepth 100000
def NumTo (w:World) (n:Nat) (e:Ending) (w':World):Prop:=e = .returned (.int .u32 (n:Int)) ∧ w' = w
set_option maxHeartbeats 4000000 in
theorem esum_any (w:World) (A:Option Addr) (n c:Nat) (l:List UInt8) (hn:l.length = n) (hs:Sl w A (bv l)) (hb:l.length ≤ 140737488355328):Calls Try.prog 26 #[.slice A n c] w (NumTo w (crcC l)):=by
 subst hn
 have HS:=Lib.hid (show Sl w A (codY.row l) by rw [row_Y];exact hs)
 have HB:=Lib.hid hb
 clear hs hb
 have H0:=Lib.hid (show ∃ i s:Nat,Value.int .u32 4294967295 = .int .u32 (s:Int) ∧ Value.int .i64 0 = .int .i64 (i:Int) ∧ s < 4294967296 ∧ i ≤ l.length ∧ l.length - 0 = l.length - i ∧ runC s (l.drop i) = runC 4294967295 l from ⟨0,4294967295,rfl,rfl,by omega,by omega,rfl,rfl⟩)
 go_enter Try.func26,Try.ntmps26
 go_wp2_with fail
 go_loopg [3,8] (l.length - 0) (fun gk sv iv wr=>∃ i s:Nat,sv = .int .u32 (s:Int) ∧ iv = .int .i64 (i:Int) ∧ s < 4294967296 ∧ i ≤ l.length ∧ gk = l.length - i ∧ runC s (l.drop i) = runC 4294967295 l ∧ wr = w)
 case atStart=>obtain ⟨a1,a2,h1,h2,h3,h4,h5,h6⟩:=H0.out;exact ⟨a1,a2,h1,h2,h3,h4,h5,h6,rfl⟩
 case round =>
  clear H0
  obtain ⟨i,s,rfl,rfl,hs,hi,rfl,hr,rfl⟩:=hrel
  have HR:=Lib.hid hr
  have HSL:=Lib.hid hs
  clear hr
  by_cases hlt:i < l.length
  ·have i1:(i:Int) < (l.length:Int):=by omega
   obtain ⟨g,off,rfl,hg⟩:=Sl.addr HS.out (by omega)
   have hc:wr.cell? ⟨g,off + i,none⟩ = some (.int .u8 ((l[i]).toNat:Int)):=Sl.cell1 (C:=codY) rfl HS.out i hlt rfl
   obtain ⟨x,hx⟩:∃ x,x = l[i]:=⟨_,rfl⟩
   have HD:=Lib.hid (show runC s (l.drop i) = runC (byteC s x) (l.drop (i + 1)) by rw [hx,List.drop_eq_getElem_cons hlt];rfl)
   have HIL:=Lib.hid hlt
   rw [← hx] at hc
   have hx8:=UInt8.toNat_lt x
   have b1:=bits_xor_u32 s x.toNat hs (by omega)
   have k0:(x.toNat:Int) % 4294967296 = (x.toNat:Int):=by omega
   have H0:=Lib.hid (show ∃ k t:Nat,Value.int .u32 ((s ^^^ x.toNat:Nat):Int) = .int .u32 (t:Int) ∧ Value.int .i64 0 = .int .i64 (k:Int) ∧ t < 4294967296 ∧ k ≤ 8 ∧ 8 = 8 - k ∧ bitsC (8 - k) t = byteC s x from ⟨0,_,rfl,rfl,xor_lt32 hs (by omega),by omega,rfl,rfl⟩)
   clear hlt hi hs hg hx hx8
   go_wp2_with fail
   go_loopg [3,16] 8 (fun gk sv kv wx=>∃ k t:Nat,sv = .int .u32 (t:Int) ∧ kv = .int .i64 (k:Int) ∧ t < 4294967296 ∧ k ≤ 8 ∧ gk = 8 - k ∧ bitsC (8 - k) t = byteC s x ∧ wx = wr)
   case atStart=>obtain ⟨a1,a2,h1,h2,h3,h4,h5,h6⟩:=H0.out;exact ⟨a1,a2,h1,h2,h3,h4,h5,h6,rfl⟩
   case round =>
    clear H0 b1 k0 hc
    obtain ⟨k,t,rfl,rfl,ht,hk,rfl,hr,rfl⟩:=hrel
    have HR2:=Lib.hid hr
    have HT:=Lib.hid ht
    clear hr
    by_cases hk8:k < 8
    ·have j1:(k:Int) < 8:=by omega
     have HKL:=Lib.hid hk8
     have b1:bits .and .u32 (t:Int) 1 = ((t % 2:Nat):Int):=by
      rw [show (1:Int) = ((1:Nat):Int) from rfl,bits_and_u32 t 1 ht (by decide),Nat.and_one_is_mod]
     have HD2:=Lib.hid (show bitsC (8 - k) t = bitsC (8 - (k + 1)) (bitC t) by rw [show 8 - k = 8 - (k + 1) + 1 by omega];rfl)
     clear hk8 hk
     have wk:wrap64 ((k:Int) + 1) = (k:Int) + 1:=IntWalk.wrap64_in _ (by have:=HKL.out;omega)
     have e2:(t:Int) / 2 = ((t / 2:Nat):Int):=by omega
     rcases Nat.mod_two_eq_zero_or_one t with h2 | h2
     ·rw [h2] at b1
      have HB2:=Lib.hid (show bitC t = t / 2 by unfold bitC;rw [if_neg (by omega)])
      have b2:bits .and .u32 3988292384 0 = 0:=by decide
      have b3:bits .xor .u32 ((t / 2:Nat):Int) 0 = ((t / 2:Nat):Int):=by
       have:=bits_xor_u32 (t / 2) 0 (by omega) (by decide)
       simpa using this
      have HLT2:=Lib.hid (show t / 2 < 4294967296 by omega)
      clear h2 ht
      generalize t / 2 = t2 at e2 b3 HB2 HLT2
      go_wp2_with fail
      go_roundg (8 - (k + 1))
      case measure=>have:=HKL.out;omega
      case rel=>exact ⟨k + 1,t2,rfl,by first | exact congrArg (Value.int .i64) wk | simp,HLT2.out,by have:=HKL.out;omega,rfl,by rw [← HR2.out,HD2.out,HB2.out],rfl⟩
     ·rw [h2] at b1
      have HB2:=Lib.hid (show bitC t = t / 2 ^^^ 3988292384 by unfold bitC;rw [if_pos h2])
      have b2:bits .and .u32 3988292384 4294967295 = 3988292384:=by decide
      have b3:bits .xor .u32 ((t / 2:Nat):Int) 3988292384 = ((t / 2 ^^^ 3988292384:Nat):Int):=bits_xor_u32 (t / 2) 3988292384 (by omega) (by decide)
      have HLT2:=Lib.hid (show t / 2 ^^^ 3988292384 < 4294967296 from xor_lt32 (by omega) (by decide))
      clear h2 ht
      generalize t / 2 ^^^ 3988292384 = t3 at b3 HB2 HLT2
      generalize t / 2 = t2 at e2 b3
      go_wp2_with fail
      go_roundg (8 - (k + 1))
      case measure=>have:=HKL.out;omega
      case rel=>exact ⟨k + 1,t3,rfl,by first | exact congrArg (Value.int .i64) wk | simp,HLT2.out,by have:=HKL.out;omega,rfl,by rw [← HR2.out,HD2.out,HB2.out],rfl⟩
    ·have j1:¬ (k:Int) < 8:=by omega
     obtain rfl:k = 8:=by omega
     have HT2:=Lib.hid (show t = byteC s x from HR2.out)
     clear hk8 hk ht
     go_wp2_with fail
     have wk:wrap64 ((i:Int) + 1) = (i:Int) + 1:=IntWalk.wrap64_in _ (by have:=HIL.out;have:=HB.out;omega)
     go_roundg (l.length - (i + 1))
     case measure=>have:=HIL.out;omega
     case rel=>exact ⟨i + 1,t,rfl,by first | exact congrArg (Value.int .i64) wk | simp,HT.out,by have:=HIL.out;omega,rfl,by rw [HT2.out,← HD.out,HR.out],rfl⟩
  ·have i1:¬ (i:Int) < (l.length:Int):=by omega
   have HE:=Lib.hid (show s = runC 4294967295 l by
    have:=HR.out
    rwa [List.drop_eq_nil_of_le (by omega)] at this)
   have b1:=bits_xor_u32 4294967295 s (by decide) hs
   have b1:bits .xor .u32 (if IntKind.u32.signed = true then -1 else IntKind.u32.max) (s:Int) = ((4294967295 ^^^ s:Nat):Int):=b1
   clear hlt hi hs
   go_wp2_with fail
   go_ret
   exact ⟨by unfold crcC;rw [← HE.out,Nat.xor_comm];rfl,rfl⟩
theorem u8_ofn (n:Nat):((UInt8.ofNat n).toNat:Int) = ((n % 256:Nat):Int):=by rw [UInt8.toNat_ofNat']
set_option maxHeartbeats 4000000 in
theorem r02four_any (w:World) (u:Nat) (hu:u < 4294967296):Calls Try.prog 58 #[.int .u32 (u:Int)] w (NewBytes w (fourC u)):=by
 obtain ⟨y0,h0⟩:∃ y,y = UInt8.ofNat u:=⟨_,rfl⟩
 obtain ⟨y1,h1⟩:∃ y,y = UInt8.ofNat (u / 256):=⟨_,rfl⟩
 obtain ⟨y2,h2⟩:∃ y,y = UInt8.ofNat (u / 65536):=⟨_,rfl⟩
 obtain ⟨y3,h3⟩:∃ y,y = UInt8.ofNat (u / 16777216):=⟨_,rfl⟩
 have e0:(u:Int) % 256 = (y0.toNat:Int):=by rw [h0,u8_ofn];omega
 have e1:(u:Int) / 256 % 256 = (y1.toNat:Int):=by rw [h1,u8_ofn];omega
 have e2:(u:Int) / 65536 % 256 = (y2.toNat:Int):=by rw [h2,u8_ofn];omega
 have e3:(u:Int) / 16777216 % 256 = (y3.toNat:Int):=by rw [h3,u8_ofn];omega
 have HY:=Lib.hid (show fourC u = [y0,y1,y2,y3] by unfold fourC;rw [← h0,← h1,← h2,← h3])
 clear h0 h1 h2 h3 hu
 go_enter Try.func58,Try.ntmps58
 go_wp2_with fail
 go_ret
 rw [HY.out]
 exact ⟨some ⟨w.heap.size,0,none⟩,4,rfl,World.ownsRow_lit (base:=w.heap.size) (e:=5) (size:=1) w #[.int .u8 (y0.toNat:Int),.int .u8 (y1.toNat:Int),.int .u8 (y2.toNat:Int),.int .u8 (y3.toNat:Int)] 4 (Nat.le_refl _) (by unfold maxLen;omega) (by rfl),(Fr.refl noB w).alloc _⟩
set_option maxHeartbeats 4000000 in
theorem efour_any (w:World) (A:Option Addr) (n c:Nat) (l:List UInt8) (hn:l.length = n) (hs:Sl w A (bv l)) (hb:l.length ≤ 100000000000) (u:Nat) (hu:u < 4294967296):Calls Try.prog 25 #[.slice A n c,.int .u32 (u:Int)] w (NewBytes w (l ++ fourC u)):=by
 subst hn
 obtain ⟨y0,h0⟩:∃ y,y = UInt8.ofNat u:=⟨_,rfl⟩
 obtain ⟨y1,h1⟩:∃ y,y = UInt8.ofNat (u / 256):=⟨_,rfl⟩
 obtain ⟨y2,h2⟩:∃ y,y = UInt8.ofNat (u / 65536):=⟨_,rfl⟩
 obtain ⟨y3,h3⟩:∃ y,y = UInt8.ofNat (u / 16777216):=⟨_,rfl⟩
 have e0:(u:Int) % 256 = (y0.toNat:Int):=by rw [h0,u8_ofn];omega
 have e1:(u:Int) / 256 % 256 = (y1.toNat:Int):=by rw [h1,u8_ofn];omega
 have e2:(u:Int) / 65536 % 256 = (y2.toNat:Int):=by rw [h2,u8_ofn];omega
 have e3:(u:Int) / 16777216 % 256 = (y3.toNat:Int):=by rw [h3,u8_ofn];omega
 have HY:=Lib.hid (show fourC u = [y0,y1,y2,y3] by unfold fourC;rw [← h0,← h1,← h2,← h3])
 have HS:=Lib.hid hs
 have HB:=Lib.hid hb
 clear h0 h1 h2 h3 hu hs hb
 go_enter Try.func25,Try.ntmps25
 go_wp2_with first
  | (go_at_call 35;refine (clone_any _ A c l HS.out (by have:=HB.out;omega)).mono ?_
     rintro e w8 ⟨A1,c1,rfl,ho8,hf8⟩
     have fn:Fr noB w8 (w8.alloc (.cells #[.int .u8 (y0.toNat:Int),.int .u8 (y1.toNat:Int),.int .u8 (y2.toNat:Int),.int .u8 (y3.toNat:Int)] 5)):=(Fr.refl noB w8).alloc _
     have hst:Sl (w8.alloc (.cells #[.int .u8 (y0.toNat:Int),.int .u8 (y1.toNat:Int),.int .u8 (y2.toNat:Int),.int .u8 (y3.toNat:Int)] 5)) (some ⟨w8.heap.size,0,none⟩) (codY.row [y0,y1,y2,y3]):=Sl.new w8 5 [.int .u8 (y0.toNat:Int),.int .u8 (y1.toNat:Int),.int .u8 (y2.toNat:Int),.int .u8 (y3.toNat:Int)]
     have hox:=Lib.hid (show OwnC codY w (w8.alloc (.cells #[.int .u8 (y0.toNat:Int),.int .u8 (y1.toNat:Int),.int .u8 (y2.toNat:Int),.int .u8 (y3.toNat:Int)] 5)) A1 c1 l from own_new0 (by rw [row_Y];exact ho8) fn)
     have sz:=(hf8.step0 fn).size
     have FX:=Lib.hid (hf8.step0 fn)
     clear fn ho8 hf8)
  | (at_builtin;refine wpList_appC' etY w _ rfl _ _ rfl A1 l.length c1 l rfl rfl hox.out (some ⟨w8.heap.size,0,none⟩) 4 4 [y0,y1,y2,y3] rfl hst rfl (by have:=HB.out;simp;omega) sz ?_;intro A8 c8 w9 hc8 hmx8 ho8 hg8 hA8)
 have F8:=Fr.own' FX.out hox.out hg8
 go_ret
 rw [HY.out]
 exact ⟨A8,c8,by simp,by have h:=ho8;unfold OwnC at h;rw [row_Y] at h;exact h,F8⟩
theorem bits_and_u8 (a b:Nat) (ha:a < 256) (hb:b < 256):bits .and .u8 (a:Int) (b:Int) = ((a &&& b:Nat):Int):=by
 have hx:a &&& b < 2 ^ 8:=Nat.lt_of_le_of_lt Nat.and_le_left (by omega)
 have h1:(BitVec.ofInt 8 (a:Int)).toNat = a:=by
  rw [BitVec.ofInt_natCast,BitVec.toNat_ofNat];exact Nat.mod_eq_of_lt (by omega)
 have h2:(BitVec.ofInt 8 (b:Int)).toNat = b:=by
  rw [BitVec.ofInt_natCast,BitVec.toNat_ofNat];exact Nat.mod_eq_of_lt (by omega)
 show IntKind.u8.wrap ((BitVec.ofInt 8 (a:Int) &&& BitVec.ofInt 8 (b:Int)).toNat:Int) = _
 rw [BitVec.toNat_and,h1,h2,show ∀ n:Int,IntKind.u8.wrap n = n % 256 from fun n=>by simp [IntKind.wrap,IntKind.bits,IntKind.signed]]
 omega
set_option maxHeartbeats 8000000 in
theorem r02sum_any (w:World) (A:Option Addr) (n c:Nat) (l:List UInt8) (hn:l.length = n) (hs:Sl w A (bv l)) (hb:l.length ≤ 140737488355328):Calls Try.prog 59 #[.slice A n c] w (NumTo w (crcC l)):=by
 subst hn
 have HS:=Lib.hid (show Sl w A (codY.row l) by rw [row_Y];exact hs)
 have HB:=Lib.hid hb
 clear hs hb
 have H0:=Lib.hid (show ∃ i s:Nat,Value.int .u32 4294967295 = .int .u32 (s:Int) ∧ Value.int .i64 0 = .int .i64 (i:Int) ∧ s < 4294967296 ∧ i ≤ l.length ∧ l.length - 0 = l.length - i ∧ runC s (l.drop i) = runC 4294967295 l from ⟨0,4294967295,rfl,rfl,by omega,by omega,rfl,rfl⟩)
 go_enter Try.func59,Try.ntmps59
 go_wp2_with fail
 go_loopg [3,4] (l.length - 0) (fun gk sv iv wr=>∃ i s:Nat,sv = .int .u32 (s:Int) ∧ iv = .int .i64 (i:Int) ∧ s < 4294967296 ∧ i ≤ l.length ∧ gk = l.length - i ∧ runC s (l.drop i) = runC 4294967295 l ∧ wr = w)
 case atStart=>obtain ⟨a1,a2,h1,h2,h3,h4,h5,h6⟩:=H0.out;exact ⟨a1,a2,h1,h2,h3,h4,h5,h6,rfl⟩
 case round =>
  clear H0
  obtain ⟨i,s,rfl,rfl,hs,hi,rfl,hr,rfl⟩:=hrel
  have HR:=Lib.hid hr
  have HSL:=Lib.hid hs
  clear hr
  by_cases hlt:i < l.length
  ·have i1:(i:Int) < (l.length:Int):=by omega
   have i0:(0:Int) ≤ (i:Int):=by omega
   obtain ⟨g,off,rfl,hg⟩:=Sl.addr HS.out (by omega)
   have hc:wr.cell? ⟨g,off + i,none⟩ = some (.int .u8 ((l[i]).toNat:Int)):=Sl.cell1 (C:=codY) rfl HS.out i hlt rfl
   obtain ⟨x,hx⟩:∃ x,x = l[i]:=⟨_,rfl⟩
   have HD:=Lib.hid (show runC s (l.drop i) = runC (byteC s x) (l.drop (i + 1)) by rw [hx,List.drop_eq_getElem_cons hlt];rfl)
   have HIL:=Lib.hid hlt
   rw [← hx] at hc
   have H0:=Lib.hid (show ∃ k t:Nat,Value.int .u32 (s:Int) = .int .u32 (t:Int) ∧ Value.int .i64 0 = .int .i64 (k:Int) ∧ t < 4294967296 ∧ k ≤ 8 ∧ 8 = 8 - k ∧ t = rbitsC x.toNat k s from ⟨0,s,rfl,rfl,hs,by omega,rfl,rfl⟩)
   clear hlt hi hs hg hx
   go_wp2_with fail
   go_loopg [3,5] 8 (fun gk sv kv wx=>∃ k t:Nat,sv = .int .u32 (t:Int) ∧ kv = .int .i64 (k:Int) ∧ t < 4294967296 ∧ k ≤ 8 ∧ gk = 8 - k ∧ t = rbitsC x.toNat k s ∧ wx = wr)
   case atStart=>obtain ⟨a1,a2,h1,h2,h3,h4,h5,h6⟩:=H0.out;exact ⟨a1,a2,h1,h2,h3,h4,h5,h6,rfl⟩
   case round =>
    clear H0
    obtain ⟨k,t,rfl,rfl,ht,hk,rfl,hr,rfl⟩:=hrel
    have HR2:=Lib.hid hr
    have HT:=Lib.hid ht
    clear hr
    by_cases hk8:k < 8
    ·rcases (by omega:k = 0 ∨ k = 1 ∨ k = 2 ∨ k = 3 ∨ k = 4 ∨ k = 5 ∨ k = 6 ∨ k = 7) with rfl | rfl | rfl | rfl | rfl | rfl | rfl | rfl
     ·clear hk8 hk
      have b1:bits .and .u32 (t:Int) 1 = ((t % 2:Nat):Int):=by
       rw [show (1:Int) = ((1:Nat):Int) from rfl,bits_and_u32 t 1 ht (by decide),Nat.and_one_is_mod]
      have xx:=UInt8.toNat_lt x
      have b2:bits .and .u8 (x.toNat:Int) 1 = ((x.toNat / 1 % 2:Nat):Int):=by
       rw [show (x.toNat:Int) = ((x.toNat / 1:Nat):Int) by omega,show (1:Int) = ((1:Nat):Int) from rfl,bits_and_u8 _ 1 (by omega) (by decide),Nat.and_one_is_mod]
      have e2:(t:Int) / 2 = ((t / 2:Nat):Int):=by omega
      have HN:=Lib.hid (show rbitsC x.toNat (0 + 1) s = rbitC t x.toNat 0 by rw [HR2.out];rfl)
      rcases Nat.mod_two_eq_zero_or_one t with h2 | h2 <;> rcases Nat.mod_two_eq_zero_or_one (x.toNat / 1) with h3 | h3 <;> rw [h2] at b1 <;> rw [h3] at b2
      ·have HB2:=Lib.hid (show rbitC t x.toNat 0 = t / 2 by unfold rbitC;rw [if_pos (by rw [show x.toNat / 2 ^ 0 = x.toNat / 1 from rfl,h2,h3])])
       have HLT2:=Lib.hid (show t / 2 < 4294967296 by omega)
       clear h2 h3 ht xx
       generalize t / 2 = t2 at e2 HB2 HLT2
       go_wp2_with fail
       go_roundg (8 - (0 + 1))
       case measure=>omega
       case rel=>exact ⟨0 + 1,t2,rfl,rfl,HLT2.out,by omega,rfl,by rw [HN.out,HB2.out],rfl⟩
      ·have HB2:=Lib.hid (show rbitC t x.toNat 0 = t / 2 ^^^ 3988292384 by unfold rbitC;rw [if_neg (by rw [show x.toNat / 2 ^ 0 = x.toNat / 1 from rfl,h2,h3];decide)])
       have b3:bits .xor .u32 ((t / 2:Nat):Int) 3988292384 = ((t / 2 ^^^ 3988292384:Nat):Int):=bits_xor_u32 (t / 2) 3988292384 (by omega) (by decide)
       have HLT2:=Lib.hid (show t / 2 ^^^ 3988292384 < 4294967296 from xor_lt32 (by omega) (by decide))
       clear h2 h3 ht xx
       generalize t / 2 ^^^ 3988292384 = t3 at b3 HB2 HLT2
       generalize t / 2 = t2 at e2 b3
       go_wp2_with fail
       go_roundg (8 - (0 + 1))
       case measure=>omega
       case rel=>exact ⟨0 + 1,t3,rfl,rfl,HLT2.out,by omega,rfl,by rw [HN.out,HB2.out],rfl⟩
      ·have HB2:=Lib.hid (show rbitC t x.toNat 0 = t / 2 ^^^ 3988292384 by unfold rbitC;rw [if_neg (by rw [show x.toNat / 2 ^ 0 = x.toNat / 1 from rfl,h2,h3];decide)])
       have b3:bits .xor .u32 ((t / 2:Nat):Int) 3988292384 = ((t / 2 ^^^ 3988292384:Nat):Int):=bits_xor_u32 (t / 2) 3988292384 (by omega) (by decide)
       have HLT2:=Lib.hid (show t / 2 ^^^ 3988292384 < 4294967296 from xor_lt32 (by omega) (by decide))
       clear h2 h3 ht xx
       generalize t / 2 ^^^ 3988292384 = t3 at b3 HB2 HLT2
       generalize t / 2 = t2 at e2 b3
       go_wp2_with fail
       go_roundg (8 - (0 + 1))
       case measure=>omega
       case rel=>exact ⟨0 + 1,t3,rfl,rfl,HLT2.out,by omega,rfl,by rw [HN.out,HB2.out],rfl⟩
      ·have HB2:=Lib.hid (show rbitC t x.toNat 0 = t / 2 by unfold rbitC;rw [if_pos (by rw [show x.toNat / 2 ^ 0 = x.toNat / 1 from rfl,h2,h3])])
       have HLT2:=Lib.hid (show t / 2 < 4294967296 by omega)
       clear h2 h3 ht xx
       generalize t / 2 = t2 at e2 HB2 HLT2
       go_wp2_with fail
       go_roundg (8 - (0 + 1))
       case measure=>omega
       case rel=>exact ⟨0 + 1,t2,rfl,rfl,HLT2.out,by omega,rfl,by rw [HN.out,HB2.out],rfl⟩
     ·clear hk8 hk
      have b1:bits .and .u32 (t:Int) 1 = ((t % 2:Nat):Int):=by
       rw [show (1:Int) = ((1:Nat):Int) from rfl,bits_and_u32 t 1 ht (by decide),Nat.and_one_is_mod]
      have xx:=UInt8.toNat_lt x
      have b2:bits .and .u8 ((x.toNat:Int) / 2) 1 = ((x.toNat / 2 % 2:Nat):Int):=by
       rw [show ((x.toNat:Int) / 2) = ((x.toNat / 2:Nat):Int) by omega,show (1:Int) = ((1:Nat):Int) from rfl,bits_and_u8 _ 1 (by omega) (by decide),Nat.and_one_is_mod]
      have e2:(t:Int) / 2 = ((t / 2:Nat):Int):=by omega
      have HN:=Lib.hid (show rbitsC x.toNat (1 + 1) s = rbitC t x.toNat 1 by rw [HR2.out];rfl)
      rcases Nat.mod_two_eq_zero_or_one t with h2 | h2 <;> rcases Nat.mod_two_eq_zero_or_one (x.toNat / 2) with h3 | h3 <;> rw [h2] at b1 <;> rw [h3] at b2
      ·have HB2:=Lib.hid (show rbitC t x.toNat 1 = t / 2 by unfold rbitC;rw [if_pos (by rw [show x.toNat / 2 ^ 1 = x.toNat / 2 from rfl,h2,h3])])
       have HLT2:=Lib.hid (show t / 2 < 4294967296 by omega)
       clear h2 h3 ht xx
       generalize t / 2 = t2 at e2 HB2 HLT2
       go_wp2_with fail
       go_roundg (8 - (1 + 1))
       case measure=>omega
       case rel=>exact ⟨1 + 1,t2,rfl,rfl,HLT2.out,by omega,rfl,by rw [HN.out,HB2.out],rfl⟩
      ·have HB2:=Lib.hid (show rbitC t x.toNat 1 = t / 2 ^^^ 3988292384 by unfold rbitC;rw [if_neg (by rw [show x.toNat / 2 ^ 1 = x.toNat / 2 from rfl,h2,h3];decide)])
       have b3:bits .xor .u32 ((t / 2:Nat):Int) 3988292384 = ((t / 2 ^^^ 3988292384:Nat):Int):=bits_xor_u32 (t / 2) 3988292384 (by omega) (by decide)
       have HLT2:=Lib.hid (show t / 2 ^^^ 3988292384 < 4294967296 from xor_lt32 (by omega) (by decide))
       clear h2 h3 ht xx
       generalize t / 2 ^^^ 3988292384 = t3 at b3 HB2 HLT2
       generalize t / 2 = t2 at e2 b3
       go_wp2_with fail
       go_roundg (8 - (1 + 1))
       case measure=>omega
       case rel=>exact ⟨1 + 1,t3,rfl,rfl,HLT2.out,by omega,rfl,by rw [HN.out,HB2.out],rfl⟩
      ·have HB2:=Lib.hid (show rbitC t x.toNat 1 = t / 2 ^^^ 3988292384 by unfold rbitC;rw [if_neg (by rw [show x.toNat / 2 ^ 1 = x.toNat / 2 from rfl,h2,h3];decide)])
       have b3:bits .xor .u32 ((t / 2:Nat):Int) 3988292384 = ((t / 2 ^^^ 3988292384:Nat):Int):=bits_xor_u32 (t / 2) 3988292384 (by omega) (by decide)
       have HLT2:=Lib.hid (show t / 2 ^^^ 3988292384 < 4294967296 from xor_lt32 (by omega) (by decide))
       clear h2 h3 ht xx
       generalize t / 2 ^^^ 3988292384 = t3 at b3 HB2 HLT2
       generalize t / 2 = t2 at e2 b3
       go_wp2_with fail
       go_roundg (8 - (1 + 1))
       case measure=>omega
       case rel=>exact ⟨1 + 1,t3,rfl,rfl,HLT2.out,by omega,rfl,by rw [HN.out,HB2.out],rfl⟩
      ·have HB2:=Lib.hid (show rbitC t x.toNat 1 = t / 2 by unfold rbitC;rw [if_pos (by rw [show x.toNat / 2 ^ 1 = x.toNat / 2 from rfl,h2,h3])])
       have HLT2:=Lib.hid (show t / 2 < 4294967296 by omega)
       clear h2 h3 ht xx
       generalize t / 2 = t2 at e2 HB2 HLT2
       go_wp2_with fail
       go_roundg (8 - (1 + 1))
       case measure=>omega
       case rel=>exact ⟨1 + 1,t2,rfl,rfl,HLT2.out,by omega,rfl,by rw [HN.out,HB2.out],rfl⟩
     ·clear hk8 hk
      have b1:bits .and .u32 (t:Int) 1 = ((t % 2:Nat):Int):=by
       rw [show (1:Int) = ((1:Nat):Int) from rfl,bits_and_u32 t 1 ht (by decide),Nat.and_one_is_mod]
      have xx:=UInt8.toNat_lt x
      have b2:bits .and .u8 ((x.toNat:Int) / 4) 1 = ((x.toNat / 4 % 2:Nat):Int):=by
       rw [show ((x.toNat:Int) / 4) = ((x.toNat / 4:Nat):Int) by omega,show (1:Int) = ((1:Nat):Int) from rfl,bits_and_u8 _ 1 (by omega) (by decide),Nat.and_one_is_mod]
      have e2:(t:Int) / 2 = ((t / 2:Nat):Int):=by omega
      have HN:=Lib.hid (show rbitsC x.toNat (2 + 1) s = rbitC t x.toNat 2 by rw [HR2.out];rfl)
      rcases Nat.mod_two_eq_zero_or_one t with h2 | h2 <;> rcases Nat.mod_two_eq_zero_or_one (x.toNat / 4) with h3 | h3 <;> rw [h2] at b1 <;> rw [h3] at b2
      ·have HB2:=Lib.hid (show rbitC t x.toNat 2 = t / 2 by unfold rbitC;rw [if_pos (by rw [show x.toNat / 2 ^ 2 = x.toNat / 4 from rfl,h2,h3])])
       have HLT2:=Lib.hid (show t / 2 < 4294967296 by omega)
       clear h2 h3 ht xx
       generalize t / 2 = t2 at e2 HB2 HLT2
       go_wp2_with fail
       go_roundg (8 - (2 + 1))
       case measure=>omega
       case rel=>exact ⟨2 + 1,t2,rfl,rfl,HLT2.out,by omega,rfl,by rw [HN.out,HB2.out],rfl⟩
      ·have HB2:=Lib.hid (show rbitC t x.toNat 2 = t / 2 ^^^ 3988292384 by unfold rbitC;rw [if_neg (by rw [show x.toNat / 2 ^ 2 = x.toNat / 4 from rfl,h2,h3];decide)])
       have b3:bits .xor .u32 ((t / 2:Nat):Int) 3988292384 = ((t / 2 ^^^ 3988292384:Nat):Int):=bits_xor_u32 (t / 2) 3988292384 (by omega) (by decide)
       have HLT2:=Lib.hid (show t / 2 ^^^ 3988292384 < 4294967296 from xor_lt32 (by omega) (by decide))
       clear h2 h3 ht xx
       generalize t / 2 ^^^ 3988292384 = t3 at b3 HB2 HLT2
       generalize t / 2 = t2 at e2 b3
       go_wp2_with fail
       go_roundg (8 - (2 + 1))
       case measure=>omega
       case rel=>exact ⟨2 + 1,t3,rfl,rfl,HLT2.out,by omega,rfl,by rw [HN.out,HB2.out],rfl⟩
      ·have HB2:=Lib.hid (show rbitC t x.toNat 2 = t / 2 ^^^ 3988292384 by unfold rbitC;rw [if_neg (by rw [show x.toNat / 2 ^ 2 = x.toNat / 4 from rfl,h2,h3];decide)])
       have b3:bits .xor .u32 ((t / 2:Nat):Int) 3988292384 = ((t / 2 ^^^ 3988292384:Nat):Int):=bits_xor_u32 (t / 2) 3988292384 (by omega) (by decide)
       have HLT2:=Lib.hid (show t / 2 ^^^ 3988292384 < 4294967296 from xor_lt32 (by omega) (by decide))
       clear h2 h3 ht xx
       generalize t / 2 ^^^ 3988292384 = t3 at b3 HB2 HLT2
       generalize t / 2 = t2 at e2 b3
       go_wp2_with fail
       go_roundg (8 - (2 + 1))
       case measure=>omega
       case rel=>exact ⟨2 + 1,t3,rfl,rfl,HLT2.out,by omega,rfl,by rw [HN.out,HB2.out],rfl⟩
      ·have HB2:=Lib.hid (show rbitC t x.toNat 2 = t / 2 by unfold rbitC;rw [if_pos (by rw [show x.toNat / 2 ^ 2 = x.toNat / 4 from rfl,h2,h3])])
       have HLT2:=Lib.hid (show t / 2 < 4294967296 by omega)
       clear h2 h3 ht xx
       generalize t / 2 = t2 at e2 HB2 HLT2
       go_wp2_with fail
       go_roundg (8 - (2 + 1))
       case measure=>omega
       case rel=>exact ⟨2 + 1,t2,rfl,rfl,HLT2.out,by omega,rfl,by rw [HN.out,HB2.out],rfl⟩
     ·clear hk8 hk
      have b1:bits .and .u32 (t:Int) 1 = ((t % 2:Nat):Int):=by
       rw [show (1:Int) = ((1:Nat):Int) from rfl,bits_and_u32 t 1 ht (by decide),Nat.and_one_is_mod]
      have xx:=UInt8.toNat_lt x
      have b2:bits .and .u8 ((x.toNat:Int) / 8) 1 = ((x.toNat / 8 % 2:Nat):Int):=by
       rw [show ((x.toNat:Int) / 8) = ((x.toNat / 8:Nat):Int) by omega,show (1:Int) = ((1:Nat):Int) from rfl,bits_and_u8 _ 1 (by omega) (by decide),Nat.and_one_is_mod]
      have e2:(t:Int) / 2 = ((t / 2:Nat):Int):=by omega
      have HN:=Lib.hid (show rbitsC x.toNat (3 + 1) s = rbitC t x.toNat 3 by rw [HR2.out];rfl)
      rcases Nat.mod_two_eq_zero_or_one t with h2 | h2 <;> rcases Nat.mod_two_eq_zero_or_one (x.toNat / 8) with h3 | h3 <;> rw [h2] at b1 <;> rw [h3] at b2
      ·have HB2:=Lib.hid (show rbitC t x.toNat 3 = t / 2 by unfold rbitC;rw [if_pos (by rw [show x.toNat / 2 ^ 3 = x.toNat / 8 from rfl,h2,h3])])
       have HLT2:=Lib.hid (show t / 2 < 4294967296 by omega)
       clear h2 h3 ht xx
       generalize t / 2 = t2 at e2 HB2 HLT2
       go_wp2_with fail
       go_roundg (8 - (3 + 1))
       case measure=>omega
       case rel=>exact ⟨3 + 1,t2,rfl,rfl,HLT2.out,by omega,rfl,by rw [HN.out,HB2.out],rfl⟩
      ·have HB2:=Lib.hid (show rbitC t x.toNat 3 = t / 2 ^^^ 3988292384 by unfold rbitC;rw [if_neg (by rw [show x.toNat / 2 ^ 3 = x.toNat / 8 from rfl,h2,h3];decide)])
       have b3:bits .xor .u32 ((t / 2:Nat):Int) 3988292384 = ((t / 2 ^^^ 3988292384:Nat):Int):=bits_xor_u32 (t / 2) 3988292384 (by omega) (by decide)
       have HLT2:=Lib.hid (show t / 2 ^^^ 3988292384 < 4294967296 from xor_lt32 (by omega) (by decide))
       clear h2 h3 ht xx
       generalize t / 2 ^^^ 3988292384 = t3 at b3 HB2 HLT2
       generalize t / 2 = t2 at e2 b3
       go_wp2_with fail
       go_roundg (8 - (3 + 1))
       case measure=>omega
       case rel=>exact ⟨3 + 1,t3,rfl,rfl,HLT2.out,by omega,rfl,by rw [HN.out,HB2.out],rfl⟩
      ·have HB2:=Lib.hid (show rbitC t x.toNat 3 = t / 2 ^^^ 3988292384 by unfold rbitC;rw [if_neg (by rw [show x.toNat / 2 ^ 3 = x.toNat / 8 from rfl,h2,h3];decide)])
       have b3:bits .xor .u32 ((t / 2:Nat):Int) 3988292384 = ((t / 2 ^^^ 3988292384:Nat):Int):=bits_xor_u32 (t / 2) 3988292384 (by omega) (by decide)
       have HLT2:=Lib.hid (show t / 2 ^^^ 3988292384 < 4294967296 from xor_lt32 (by omega) (by decide))
       clear h2 h3 ht xx
       generalize t / 2 ^^^ 3988292384 = t3 at b3 HB2 HLT2
       generalize t / 2 = t2 at e2 b3
       go_wp2_with fail
       go_roundg (8 - (3 + 1))
       case measure=>omega
       case rel=>exact ⟨3 + 1,t3,rfl,rfl,HLT2.out,by omega,rfl,by rw [HN.out,HB2.out],rfl⟩
      ·have HB2:=Lib.hid (show rbitC t x.toNat 3 = t / 2 by unfold rbitC;rw [if_pos (by rw [show x.toNat / 2 ^ 3 = x.toNat / 8 from rfl,h2,h3])])
       have HLT2:=Lib.hid (show t / 2 < 4294967296 by omega)
       clear h2 h3 ht xx
       generalize t / 2 = t2 at e2 HB2 HLT2
       go_wp2_with fail
       go_roundg (8 - (3 + 1))
       case measure=>omega
       case rel=>exact ⟨3 + 1,t2,rfl,rfl,HLT2.out,by omega,rfl,by rw [HN.out,HB2.out],rfl⟩
     ·clear hk8 hk
      have b1:bits .and .u32 (t:Int) 1 = ((t % 2:Nat):Int):=by
       rw [show (1:Int) = ((1:Nat):Int) from rfl,bits_and_u32 t 1 ht (by decide),Nat.and_one_is_mod]
      have xx:=UInt8.toNat_lt x
      have b2:bits .and .u8 ((x.toNat:Int) / 16) 1 = ((x.toNat / 16 % 2:Nat):Int):=by
       rw [show ((x.toNat:Int) / 16) = ((x.toNat / 16:Nat):Int) by omega,show (1:Int) = ((1:Nat):Int) from rfl,bits_and_u8 _ 1 (by omega) (by decide),Nat.and_one_is_mod]
      have e2:(t:Int) / 2 = ((t / 2:Nat):Int):=by omega
      have HN:=Lib.hid (show rbitsC x.toNat (4 + 1) s = rbitC t x.toNat 4 by rw [HR2.out];rfl)
      rcases Nat.mod_two_eq_zero_or_one t with h2 | h2 <;> rcases Nat.mod_two_eq_zero_or_one (x.toNat / 16) with h3 | h3 <;> rw [h2] at b1 <;> rw [h3] at b2
      ·have HB2:=Lib.hid (show rbitC t x.toNat 4 = t / 2 by unfold rbitC;rw [if_pos (by rw [show x.toNat / 2 ^ 4 = x.toNat / 16 from rfl,h2,h3])])
       have HLT2:=Lib.hid (show t / 2 < 4294967296 by omega)
       clear h2 h3 ht xx
       generalize t / 2 = t2 at e2 HB2 HLT2
       go_wp2_with fail
       go_roundg (8 - (4 + 1))
       case measure=>omega
       case rel=>exact ⟨4 + 1,t2,rfl,rfl,HLT2.out,by omega,rfl,by rw [HN.out,HB2.out],rfl⟩
      ·have HB2:=Lib.hid (show rbitC t x.toNat 4 = t / 2 ^^^ 3988292384 by unfold rbitC;rw [if_neg (by rw [show x.toNat / 2 ^ 4 = x.toNat / 16 from rfl,h2,h3];decide)])
       have b3:bits .xor .u32 ((t / 2:Nat):Int) 3988292384 = ((t / 2 ^^^ 3988292384:Nat):Int):=bits_xor_u32 (t / 2) 3988292384 (by omega) (by decide)
       have HLT2:=Lib.hid (show t / 2 ^^^ 3988292384 < 4294967296 from xor_lt32 (by omega) (by decide))
       clear h2 h3 ht xx
       generalize t / 2 ^^^ 3988292384 = t3 at b3 HB2 HLT2
       generalize t / 2 = t2 at e2 b3
       go_wp2_with fail
       go_roundg (8 - (4 + 1))
       case measure=>omega
       case rel=>exact ⟨4 + 1,t3,rfl,rfl,HLT2.out,by omega,rfl,by rw [HN.out,HB2.out],rfl⟩
      ·have HB2:=Lib.hid (show rbitC t x.toNat 4 = t / 2 ^^^ 3988292384 by unfold rbitC;rw [if_neg (by rw [show x.toNat / 2 ^ 4 = x.toNat / 16 from rfl,h2,h3];decide)])
       have b3:bits .xor .u32 ((t / 2:Nat):Int) 3988292384 = ((t / 2 ^^^ 3988292384:Nat):Int):=bits_xor_u32 (t / 2) 3988292384 (by omega) (by decide)
       have HLT2:=Lib.hid (show t / 2 ^^^ 3988292384 < 4294967296 from xor_lt32 (by omega) (by decide))
       clear h2 h3 ht xx
       generalize t / 2 ^^^ 3988292384 = t3 at b3 HB2 HLT2
       generalize t / 2 = t2 at e2 b3
       go_wp2_with fail
       go_roundg (8 - (4 + 1))
       case measure=>omega
       case rel=>exact ⟨4 + 1,t3,rfl,rfl,HLT2.out,by omega,rfl,by rw [HN.out,HB2.out],rfl⟩
      ·have HB2:=Lib.hid (show rbitC t x.toNat 4 = t / 2 by unfold rbitC;rw [if_pos (by rw [show x.toNat / 2 ^ 4 = x.toNat / 16 from rfl,h2,h3])])
       have HLT2:=Lib.hid (show t / 2 < 4294967296 by omega)
       clear h2 h3 ht xx
       generalize t / 2 = t2 at e2 HB2 HLT2
       go_wp2_with fail
       go_roundg (8 - (4 + 1))
       case measure=>omega
       case rel=>exact ⟨4 + 1,t2,rfl,rfl,HLT2.out,by omega,rfl,by rw [HN.out,HB2.out],rfl⟩
     ·clear hk8 hk
      have b1:bits .and .u32 (t:Int) 1 = ((t % 2:Nat):Int):=by
       rw [show (1:Int) = ((1:Nat):Int) from rfl,bits_and_u32 t 1 ht (by decide),Nat.and_one_is_mod]
      have xx:=UInt8.toNat_lt x
      have b2:bits .and .u8 ((x.toNat:Int) / 32) 1 = ((x.toNat / 32 % 2:Nat):Int):=by
       rw [show ((x.toNat:Int) / 32) = ((x.toNat / 32:Nat):Int) by omega,show (1:Int) = ((1:Nat):Int) from rfl,bits_and_u8 _ 1 (by omega) (by decide),Nat.and_one_is_mod]
      have e2:(t:Int) / 2 = ((t / 2:Nat):Int):=by omega
      have HN:=Lib.hid (show rbitsC x.toNat (5 + 1) s = rbitC t x.toNat 5 by rw [HR2.out];rfl)
      rcases Nat.mod_two_eq_zero_or_one t with h2 | h2 <;> rcases Nat.mod_two_eq_zero_or_one (x.toNat / 32) with h3 | h3 <;> rw [h2] at b1 <;> rw [h3] at b2
      ·have HB2:=Lib.hid (show rbitC t x.toNat 5 = t / 2 by unfold rbitC;rw [if_pos (by rw [show x.toNat / 2 ^ 5 = x.toNat / 32 from rfl,h2,h3])])
       have HLT2:=Lib.hid (show t / 2 < 4294967296 by omega)
       clear h2 h3 ht xx
       generalize t / 2 = t2 at e2 HB2 HLT2
       go_wp2_with fail
       go_roundg (8 - (5 + 1))
       case measure=>omega
       case rel=>exact ⟨5 + 1,t2,rfl,rfl,HLT2.out,by omega,rfl,by rw [HN.out,HB2.out],rfl⟩
      ·have HB2:=Lib.hid (show rbitC t x.toNat 5 = t / 2 ^^^ 3988292384 by unfold rbitC;rw [if_neg (by rw [show x.toNat / 2 ^ 5 = x.toNat / 32 from rfl,h2,h3];decide)])
       have b3:bits .xor .u32 ((t / 2:Nat):Int) 3988292384 = ((t / 2 ^^^ 3988292384:Nat):Int):=bits_xor_u32 (t / 2) 3988292384 (by omega) (by decide)
       have HLT2:=Lib.hid (show t / 2 ^^^ 3988292384 < 4294967296 from xor_lt32 (by omega) (by decide))
       clear h2 h3 ht xx
       generalize t / 2 ^^^ 3988292384 = t3 at b3 HB2 HLT2
       generalize t / 2 = t2 at e2 b3
       go_wp2_with fail
       go_roundg (8 - (5 + 1))
       case measure=>omega
       case rel=>exact ⟨5 + 1,t3,rfl,rfl,HLT2.out,by omega,rfl,by rw [HN.out,HB2.out],rfl⟩
      ·have HB2:=Lib.hid (show rbitC t x.toNat 5 = t / 2 ^^^ 3988292384 by unfold rbitC;rw [if_neg (by rw [show x.toNat / 2 ^ 5 = x.toNat / 32 from rfl,h2,h3];decide)])
       have b3:bits .xor .u32 ((t / 2:Nat):Int) 3988292384 = ((t / 2 ^^^ 3988292384:Nat):Int):=bits_xor_u32 (t / 2) 3988292384 (by omega) (by decide)
       have HLT2:=Lib.hid (show t / 2 ^^^ 3988292384 < 4294967296 from xor_lt32 (by omega) (by decide))
       clear h2 h3 ht xx
       generalize t / 2 ^^^ 3988292384 = t3 at b3 HB2 HLT2
       generalize t / 2 = t2 at e2 b3
       go_wp2_with fail
       go_roundg (8 - (5 + 1))
       case measure=>omega
       case rel=>exact ⟨5 + 1,t3,rfl,rfl,HLT2.out,by omega,rfl,by rw [HN.out,HB2.out],rfl⟩
      ·have HB2:=Lib.hid (show rbitC t x.toNat 5 = t / 2 by unfold rbitC;rw [if_pos (by rw [show x.toNat / 2 ^ 5 = x.toNat / 32 from rfl,h2,h3])])
       have HLT2:=Lib.hid (show t / 2 < 4294967296 by omega)
       clear h2 h3 ht xx
       generalize t / 2 = t2 at e2 HB2 HLT2
       go_wp2_with fail
       go_roundg (8 - (5 + 1))
       case measure=>omega
       case rel=>exact ⟨5 + 1,t2,rfl,rfl,HLT2.out,by omega,rfl,by rw [HN.out,HB2.out],rfl⟩
     ·clear hk8 hk
      have b1:bits .and .u32 (t:Int) 1 = ((t % 2:Nat):Int):=by
       rw [show (1:Int) = ((1:Nat):Int) from rfl,bits_and_u32 t 1 ht (by decide),Nat.and_one_is_mod]
      have xx:=UInt8.toNat_lt x
      have b2:bits .and .u8 ((x.toNat:Int) / 64) 1 = ((x.toNat / 64 % 2:Nat):Int):=by
       rw [show ((x.toNat:Int) / 64) = ((x.toNat / 64:Nat):Int) by omega,show (1:Int) = ((1:Nat):Int) from rfl,bits_and_u8 _ 1 (by omega) (by decide),Nat.and_one_is_mod]
      have e2:(t:Int) / 2 = ((t / 2:Nat):Int):=by omega
      have HN:=Lib.hid (show rbitsC x.toNat (6 + 1) s = rbitC t x.toNat 6 by rw [HR2.out];rfl)
      rcases Nat.mod_two_eq_zero_or_one t with h2 | h2 <;> rcases Nat.mod_two_eq_zero_or_one (x.toNat / 64) with h3 | h3 <;> rw [h2] at b1 <;> rw [h3] at b2
      ·have HB2:=Lib.hid (show rbitC t x.toNat 6 = t / 2 by unfold rbitC;rw [if_pos (by rw [show x.toNat / 2 ^ 6 = x.toNat / 64 from rfl,h2,h3])])
       have HLT2:=Lib.hid (show t / 2 < 4294967296 by omega)
       clear h2 h3 ht xx
       generalize t / 2 = t2 at e2 HB2 HLT2
       go_wp2_with fail
       go_roundg (8 - (6 + 1))
       case measure=>omega
       case rel=>exact ⟨6 + 1,t2,rfl,rfl,HLT2.out,by omega,rfl,by rw [HN.out,HB2.out],rfl⟩
      ·have HB2:=Lib.hid (show rbitC t x.toNat 6 = t / 2 ^^^ 3988292384 by unfold rbitC;rw [if_neg (by rw [show x.toNat / 2 ^ 6 = x.toNat / 64 from rfl,h2,h3];decide)])
       have b3:bits .xor .u32 ((t / 2:Nat):Int) 3988292384 = ((t / 2 ^^^ 3988292384:Nat):Int):=bits_xor_u32 (t / 2) 3988292384 (by omega) (by decide)
       have HLT2:=Lib.hid (show t / 2 ^^^ 3988292384 < 4294967296 from xor_lt32 (by omega) (by decide))
       clear h2 h3 ht xx
       generalize t / 2 ^^^ 3988292384 = t3 at b3 HB2 HLT2
       generalize t / 2 = t2 at e2 b3
       go_wp2_with fail
       go_roundg (8 - (6 + 1))
       case measure=>omega
       case rel=>exact ⟨6 + 1,t3,rfl,rfl,HLT2.out,by omega,rfl,by rw [HN.out,HB2.out],rfl⟩
      ·have HB2:=Lib.hid (show rbitC t x.toNat 6 = t / 2 ^^^ 3988292384 by unfold rbitC;rw [if_neg (by rw [show x.toNat / 2 ^ 6 = x.toNat / 64 from rfl,h2,h3];decide)])
       have b3:bits .xor .u32 ((t / 2:Nat):Int) 3988292384 = ((t / 2 ^^^ 3988292384:Nat):Int):=bits_xor_u32 (t / 2) 3988292384 (by omega) (by decide)
       have HLT2:=Lib.hid (show t / 2 ^^^ 3988292384 < 4294967296 from xor_lt32 (by omega) (by decide))
       clear h2 h3 ht xx
       generalize t / 2 ^^^ 3988292384 = t3 at b3 HB2 HLT2
       generalize t / 2 = t2 at e2 b3
       go_wp2_with fail
       go_roundg (8 - (6 + 1))
       case measure=>omega
       case rel=>exact ⟨6 + 1,t3,rfl,rfl,HLT2.out,by omega,rfl,by rw [HN.out,HB2.out],rfl⟩
      ·have HB2:=Lib.hid (show rbitC t x.toNat 6 = t / 2 by unfold rbitC;rw [if_pos (by rw [show x.toNat / 2 ^ 6 = x.toNat / 64 from rfl,h2,h3])])
       have HLT2:=Lib.hid (show t / 2 < 4294967296 by omega)
       clear h2 h3 ht xx
       generalize t / 2 = t2 at e2 HB2 HLT2
       go_wp2_with fail
       go_roundg (8 - (6 + 1))
       case measure=>omega
       case rel=>exact ⟨6 + 1,t2,rfl,rfl,HLT2.out,by omega,rfl,by rw [HN.out,HB2.out],rfl⟩
     ·clear hk8 hk
      have b1:bits .and .u32 (t:Int) 1 = ((t % 2:Nat):Int):=by
       rw [show (1:Int) = ((1:Nat):Int) from rfl,bits_and_u32 t 1 ht (by decide),Nat.and_one_is_mod]
      have xx:=UInt8.toNat_lt x
      have b2:bits .and .u8 ((x.toNat:Int) / 128) 1 = ((x.toNat / 128 % 2:Nat):Int):=by
       rw [show ((x.toNat:Int) / 128) = ((x.toNat / 128:Nat):Int) by omega,show (1:Int) = ((1:Nat):Int) from rfl,bits_and_u8 _ 1 (by omega) (by decide),Nat.and_one_is_mod]
      have e2:(t:Int) / 2 = ((t / 2:Nat):Int):=by omega
      have HN:=Lib.hid (show rbitsC x.toNat (7 + 1) s = rbitC t x.toNat 7 by rw [HR2.out];rfl)
      rcases Nat.mod_two_eq_zero_or_one t with h2 | h2 <;> rcases Nat.mod_two_eq_zero_or_one (x.toNat / 128) with h3 | h3 <;> rw [h2] at b1 <;> rw [h3] at b2
      ·have HB2:=Lib.hid (show rbitC t x.toNat 7 = t / 2 by unfold rbitC;rw [if_pos (by rw [show x.toNat / 2 ^ 7 = x.toNat / 128 from rfl,h2,h3])])
       have HLT2:=Lib.hid (show t / 2 < 4294967296 by omega)
       clear h2 h3 ht xx
       generalize t / 2 = t2 at e2 HB2 HLT2
       go_wp2_with fail
       go_roundg (8 - (7 + 1))
       case measure=>omega
       case rel=>exact ⟨7 + 1,t2,rfl,rfl,HLT2.out,by omega,rfl,by rw [HN.out,HB2.out],rfl⟩
      ·have HB2:=Lib.hid (show rbitC t x.toNat 7 = t / 2 ^^^ 3988292384 by unfold rbitC;rw [if_neg (by rw [show x.toNat / 2 ^ 7 = x.toNat / 128 from rfl,h2,h3];decide)])
       have b3:bits .xor .u32 ((t / 2:Nat):Int) 3988292384 = ((t / 2 ^^^ 3988292384:Nat):Int):=bits_xor_u32 (t / 2) 3988292384 (by omega) (by decide)
       have HLT2:=Lib.hid (show t / 2 ^^^ 3988292384 < 4294967296 from xor_lt32 (by omega) (by decide))
       clear h2 h3 ht xx
       generalize t / 2 ^^^ 3988292384 = t3 at b3 HB2 HLT2
       generalize t / 2 = t2 at e2 b3
       go_wp2_with fail
       go_roundg (8 - (7 + 1))
       case measure=>omega
       case rel=>exact ⟨7 + 1,t3,rfl,rfl,HLT2.out,by omega,rfl,by rw [HN.out,HB2.out],rfl⟩
      ·have HB2:=Lib.hid (show rbitC t x.toNat 7 = t / 2 ^^^ 3988292384 by unfold rbitC;rw [if_neg (by rw [show x.toNat / 2 ^ 7 = x.toNat / 128 from rfl,h2,h3];decide)])
       have b3:bits .xor .u32 ((t / 2:Nat):Int) 3988292384 = ((t / 2 ^^^ 3988292384:Nat):Int):=bits_xor_u32 (t / 2) 3988292384 (by omega) (by decide)
       have HLT2:=Lib.hid (show t / 2 ^^^ 3988292384 < 4294967296 from xor_lt32 (by omega) (by decide))
       clear h2 h3 ht xx
       generalize t / 2 ^^^ 3988292384 = t3 at b3 HB2 HLT2
       generalize t / 2 = t2 at e2 b3
       go_wp2_with fail
       go_roundg (8 - (7 + 1))
       case measure=>omega
       case rel=>exact ⟨7 + 1,t3,rfl,rfl,HLT2.out,by omega,rfl,by rw [HN.out,HB2.out],rfl⟩
      ·have HB2:=Lib.hid (show rbitC t x.toNat 7 = t / 2 by unfold rbitC;rw [if_pos (by rw [show x.toNat / 2 ^ 7 = x.toNat / 128 from rfl,h2,h3])])
       have HLT2:=Lib.hid (show t / 2 < 4294967296 by omega)
       clear h2 h3 ht xx
       generalize t / 2 = t2 at e2 HB2 HLT2
       go_wp2_with fail
       go_roundg (8 - (7 + 1))
       case measure=>omega
       case rel=>exact ⟨7 + 1,t2,rfl,rfl,HLT2.out,by omega,rfl,by rw [HN.out,HB2.out],rfl⟩
    ·have j1:¬ (k:Int) < 8:=by omega
     obtain rfl:k = 8:=by omega
     have HT2:=Lib.hid (show t = byteC s x by rw [HR2.out,rbyte_eq])
     clear hk8 hk ht hc
     go_wp2_with fail
     have wk:wrap64 ((i:Int) + 1) = (i:Int) + 1:=IntWalk.wrap64_in _ (by have:=HIL.out;have:=HB.out;omega)
     go_roundg (l.length - (i + 1))
     case measure=>have:=HIL.out;omega
     case rel=>exact ⟨i + 1,t,rfl,by first | exact congrArg (Value.int .i64) wk | simp,HT.out,by have:=HIL.out;omega,rfl,by rw [HT2.out,← HD.out,HR.out],rfl⟩
  ·have i1:¬ (i:Int) < (l.length:Int):=by omega
   have HE:=Lib.hid (show s = runC 4294967295 l by
    have:=HR.out
    rwa [List.drop_eq_nil_of_le (by omega)] at this)
   have b1:bits .xor .u32 (s:Int) 4294967295 = ((s ^^^ 4294967295:Nat):Int):=bits_xor_u32 s 4294967295 hs (by decide)
   clear hlt hi hs
   go_wp2_with fail
   go_ret
   exact ⟨by unfold crcC;rw [← HE.out];rfl,rfl⟩
end Go.Proofs.Ytahllkifmmjbdaa
