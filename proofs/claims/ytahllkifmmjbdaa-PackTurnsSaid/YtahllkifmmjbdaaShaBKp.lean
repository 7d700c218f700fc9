/- Contract: pollardref01 blocked. -/
import Derived.Test.YtahllkifmmjbdaaShaRKp
import Derived.Test.YtahllkifmmjbdaaRdrWKp
import Derived.Test.YtahllkifmmjbdaaDifDKp
import Derived.Deep.LoopGhost
set_option linter.unusedVariables false
set_option linter.unusedSimpArgs false
namespace Go.Proofs.Ytahllkifmmjbdaa
open Go.RowKit Go.Maps Go.Sort
def codY:Cod UInt8:=⟨5,1,fun b=>[.int .u8 (b.toNat:Int)],0,fun _=>rfl,by decide,fun x u hu=>by
 rw [List.mem_singleton] at hu
 subst hu;rfl,fun x y h=>by
 have h2:Value.int .u8 (x.toNat:Int) = Value.int .u8 (y.toNat:Int):=by injection h
 injection h2 with _ h2
 exact UInt8.toNat_inj.1 (by omega)⟩
theorem row_Y (l:List UInt8):codY.row l = bv l:=by
 unfold Cod.row bv
 induction l with
 | nil=>rfl
 | cons x l ih=>rw [List.flatMap_cons,ih];rfl
theorem etY:ET Try.prog 25 codY.t codY.n 1:=ET.mk' (z:=.int .u8 0) Try.underlying25 (by kernel_rfl) rfl (by decide) (by decide)
theorem Sl.cell1 {α:Type} {C:Cod α} (hn:C.n = 1) {w:World} {g off:Nat} {l:List α} (h:Sl w (some ⟨g,off,none⟩) (C.row l)) (i:Nat) (hi:i < l.length) {v:Value} (hv:C.cs l[i] = [v]):w.cell? ⟨g,off + i,none⟩ = some v:=by
 have h2:=Cod.row_get l i 0 hi v (by rw [hv];rfl)
 rw [hn,Nat.mul_one,Nat.add_zero] at h2
 have hne:C.row l ≠ []:=by
  intro e
  rw [e] at h2
  simp at h2
 obtain ⟨g',off',e,_,hc⟩:=h hne
 injection e with e
 injection e with e1 e2
 subst e1 e2
 exact hc i v h2
def NbTo (w:World) (l:List UInt8) (e:Ending) (w':World):Prop:=∃ A c,e = .returned (.slice A l.length c) ∧ OwnC codY w w' A c l ∧ Fr noB w w'
theorem pad_z (n j:Nat) (hj:j ≤ (119 - n % 64) % 64):(n + 1 + j) % 64 = 56 ↔ j = (119 - n % 64) % 64:=by omega
set_option maxRecDepth 100000 in
set_option maxHeartbeats 2000000 in
theorem blocked_any (w:World) (A:Option Addr) (c n:Nat) (b:List UInt8) (hn:b.length = n) (hs:Sl w A (bv b)) (hb:b.length ≤ 1000000000000):Calls Try.prog 70 #[.slice A n c] w (NbTo w (padH b)):=by
 subst hn
 have HS:=Lib.hid hs
 have HB:=Lib.hid hb
 clear hs hb
 go_enter Try.func70,Try.ntmps70
 have fa:Fr noB w (w.alloc (.cells #[] 5)):=(Fr.refl noB w).alloc _
 have own0:OwnC codY w (w.alloc (.cells #[] 5)) (some ⟨w.heap.size,0,none⟩) 0 []:=World.ownsRow_lit (base:=w.heap.size) (e:=5) (size:=1) w #[] 0 (Nat.le_refl _) (by unfold maxLen;omega) (by simp)
 have H0:=Lib.hid (show ∃ (k:Nat) (A1:Option Addr) (c1:Nat) (l:List UInt8),(Value.slice (some ⟨w.heap.size,0,none⟩) 0 0) = .slice A1 l.length c1 ∧ (Value.int .i64 ((0:Nat):Int)) = .int .i64 (k:Int) ∧ l = b.take k ∧ b.length = b.length - k ∧ k ≤ b.length ∧ OwnC codY w (w.alloc (.cells #[] 5)) A1 c1 l ∧ Fr noB w (w.alloc (.cells #[] 5)) from ⟨0,_,0,[],rfl,rfl,rfl,rfl,Nat.zero_le _,own0,fa⟩)
 clear fa own0
 go_wp2_with fail
 go_loopg [3,4] b.length (fun gk ov kv wr=>∃ (k:Nat) (A1:Option Addr) (c1:Nat) (l:List UInt8),ov = .slice A1 l.length c1 ∧ kv = .int .i64 (k:Int) ∧ l = b.take k ∧ gk = b.length - k ∧ k ≤ b.length ∧ OwnC codY w wr A1 c1 l ∧ Fr noB w wr)
 case atStart=>exact H0.out
 case round =>
  clear H0
  obtain ⟨k,A1,c1,l,rfl,rfl,hl,rfl,hk,ho,hf⟩:=hrel
  have HO:=Lib.hid ho
  have HF:=Lib.hid hf
  have HLL:=Lib.hid (show l.length ≤ b.length by rw [hl,List.length_take];omega)
  have HLE:=Lib.hid hl
  clear ho hf hl
  by_cases hlt:k < b.length
  ·have i1:(k:Int) < (b.length:Int):=by omega
   have i0:(0:Int) ≤ (k:Int):=by omega
   have hsl:Sl wr A (codY.row b):=by rw [row_Y];exact HS.out.fr0 HF.out
   obtain ⟨g,off,rfl,hg⟩:=Sl.addr hsl (by omega)
   have e3:wr.cell? ⟨g,off + k,none⟩ = some (.int .u8 ((b[k]).toNat:Int)):=Sl.cell1 (C:=codY) rfl hsl k hlt rfl
   have hst:Sl (wr.alloc (.cells #[.int .u8 ((b[k]).toNat:Int)] 5)) (some ⟨wr.heap.size,0,none⟩) (codY.row [b[k]]):=Sl.new wr 5 [.int .u8 ((b[k]).toNat:Int)]
   have fn:Fr noB wr (wr.alloc (.cells #[.int .u8 ((b[k]).toNat:Int)] 5)):=(Fr.refl noB wr).alloc _
   have hox:=Lib.hid (own_new0 HO.out fn)
   have sz:=(HF.out.step0 fn).size
   have FX:=Lib.hid (HF.out.step0 fn)
   have HTK:=Lib.hid (show b.take (k + 1) = b.take k ++ [b[k]] from List.take_succ_eq_append_getElem hlt)
   have HKL:=Lib.hid hlt
   generalize b[k] = x at e3 hst hox FX HTK sz
   clear fn hsl hg hlt hk
   go_wp2_with (at_builtin;refine wpList_appC' etY w _ rfl _ _ rfl A1 l.length c1 l rfl rfl hox.out (some ⟨wr.heap.size,0,none⟩) 1 1 [x] rfl hst rfl (by have:=HLL.out;have:=HB.out;simp;omega) sz ?_;intro A8 c8 w8 hc8 hmx8 ho8 hg8 hA8;obtain ⟨l8,hl8⟩:∃ t,t = l ++ [x]:=⟨_,rfl⟩;rw [← hl8] at ho8 ⊢;have HL8:=Lib.hid hl8;clear hl8 hc8 hmx8 hA8)
   have F8:=Fr.own' FX.out hox.out hg8
   have wk:wrap64 ((k:Int) + 1) = (k:Int) + 1:=IntWalk.wrap64_in _ (by have:=HB.out;have:=HKL.out;omega)
   go_roundg (b.length - (k + 1))
   case measure=>have:=HKL.out;omega
   case rel=>exact ⟨k + 1,A8,c8,l8,rfl,by first | exact congrArg (Value.int .i64) wk | simp,by rw [HL8.out,HLE.out,HTK.out],rfl,by have:=HKL.out;omega,ho8,F8⟩
  ·have i1:¬ (k:Int) < (b.length:Int):=by omega
   have HLB:=Lib.hid (show l = b by rw [HLE.out,List.take_of_length_le (by omega)])
   have hst:Sl (wr.alloc (.cells #[.int .u8 128] 5)) (some ⟨wr.heap.size,0,none⟩) (codY.row [128]):=Sl.new wr 5 [.int .u8 128]
   have fn:Fr noB wr (wr.alloc (.cells #[.int .u8 128] 5)):=(Fr.refl noB wr).alloc _
   have hox:=Lib.hid (own_new0 HO.out fn)
   have sz:=(HF.out.step0 fn).size
   have FX:=Lib.hid (HF.out.step0 fn)
   clear fn hlt hk
   go_upto_region 7 with (at_builtin;refine wpList_appC' etY w _ rfl _ _ rfl A1 l.length c1 l rfl rfl hox.out (some ⟨wr.heap.size,0,none⟩) 1 1 [128] rfl hst rfl (by have:=HLL.out;have:=HB.out;simp;omega) sz ?_;intro A8 c8 w8 hc8 hmx8 ho8 hg8 hA8;obtain ⟨l8,hl8⟩:∃ t,t = l ++ [128]:=⟨_,rfl⟩;rw [← hl8] at ho8 ⊢;have HL8:=Lib.hid hl8;clear hl8 hc8 hmx8 hA8)
   have F8:=Fr.own' FX.out hox.out hg8
   have H0:=Lib.hid (show ∃ (j:Nat) (A2:Option Addr) (c2:Nat) (l:List UInt8),(Value.slice A8 l8.length c8) = .slice A2 l.length c2 ∧ l = b ++ 128 :: List.replicate j 0 ∧ (119 - b.length % 64) % 64 = (119 - b.length % 64) % 64 - j ∧ j ≤ (119 - b.length % 64) % 64 ∧ OwnC codY w w8 A2 c2 l ∧ Fr noB w w8 from ⟨0,A8,c8,l8,rfl,by rw [HL8.out,HLB.out];rfl,rfl,Nat.zero_le _,ho8,F8⟩)
   clear hst hox sz FX ho8 hg8 F8
   go_wp2_with fail
   go_loopg [3] ((119 - b.length % 64) % 64) (fun gk ov wr=>∃ (j:Nat) (A2:Option Addr) (c2:Nat) (l:List UInt8),ov = .slice A2 l.length c2 ∧ l = b ++ 128 :: List.replicate j 0 ∧ gk = (119 - b.length % 64) % 64 - j ∧ j ≤ (119 - b.length % 64) % 64 ∧ OwnC codY w wr A2 c2 l ∧ Fr noB w wr)
   case atStart=>exact H0.out
   case round =>
    clear H0
    obtain ⟨j,A1,c1,l,rfl,hl,rfl,hj,ho,hf⟩:=hrel
    have HO:=Lib.hid ho
    have HF:=Lib.hid hf
    have HLE:=Lib.hid hl
    have hlen:l.length = b.length + 1 + j:=by rw [hl];simp;omega
    have HLL:=Lib.hid (show l.length ≤ b.length + 65 by omega)
    clear ho hf hl
    by_cases hlt:j < (119 - b.length % 64) % 64
    ·have e0:((l.length:Int) % 64 != 56) = true:=by
      have:=(not_congr (pad_z b.length j hj)).2 (by omega)
      rw [← hlen] at this
      simp
      omega
     have hst:Sl (wr.alloc (.cells #[.int .u8 0] 5)) (some ⟨wr.heap.size,0,none⟩) (codY.row [0]):=Sl.new wr 5 [.int .u8 0]
     have fn:Fr noB wr (wr.alloc (.cells #[.int .u8 0] 5)):=(Fr.refl noB wr).alloc _
     have hox:=Lib.hid (own_new0 HO.out fn)
     have sz:=(HF.out.step0 fn).size
     have FX:=Lib.hid (HF.out.step0 fn)
     have HLT:=Lib.hid hlt
     clear fn hlt hj hlen
     go_wp2_with (at_builtin;refine wpList_appC' etY w _ rfl _ _ rfl A1 l.length c1 l rfl rfl hox.out (some ⟨wr.heap.size,0,none⟩) 1 1 [0] rfl hst rfl (by have:=HLL.out;have:=HB.out;simp;omega) sz ?_;intro A8 c8 w8 hc8 hmx8 ho8 hg8 hA8;obtain ⟨l8,hl8⟩:∃ t,t = l ++ [0]:=⟨_,rfl⟩;rw [← hl8] at ho8 ⊢;have HL8:=Lib.hid hl8;clear hl8 hc8 hmx8 hA8)
     have F8:=Fr.own' FX.out hox.out hg8
     go_roundg ((119 - b.length % 64) % 64 - (j + 1))
     case measure=>have:=HLT.out;omega
     case rel=>exact ⟨j + 1,A8,c8,l8,rfl,by rw [HL8.out,HLE.out,List.append_assoc,List.cons_append,← List.replicate_succ'],rfl,by have:=HLT.out;omega,ho8,F8⟩
    ·have e0:((l.length:Int) % 64 != 56) = false:=by
      have:=(pad_z b.length j hj).2 (by omega)
      rw [← hlen] at this
      simp
      omega
     have HJZ:=Lib.hid (show j = (119 - b.length % 64) % 64 by omega)
     have x1:(b.length:Int) % 18446744073709551616 = (b.length:Int):=by have:=HB.out;omega
     have x2:(b.length:Int) * 8 % 18446744073709551616 = (b.length:Int) * 8:=by have:=HB.out;omega
     obtain ⟨N,hN⟩:∃ N,N = b.length * 8:=⟨_,rfl⟩
     have x3:(b.length:Int) * 8 = (N:Int):=by omega
     have HNN:=Lib.hid hN
     have HNB:=Lib.hid (show N ≤ 8000000000000 by have:=HB.out;omega)
     have HLP:=Lib.hid (show l = b ++ 128 :: List.replicate ((119 - b.length % 64) % 64) 0 by rw [HLE.out,HJZ.out])
     have HL0:=Lib.hid (show l = l ++ be8H N 0 by simp [be8H])
     obtain ⟨l0,hl0⟩:∃ t,t = l:=⟨_,rfl⟩
     have HL00:=Lib.hid hl0
     clear hlt hj hlen hN hl0
     go_upto_region 10 with fail
     clear e0 x1 x2 x3
     have H0:=Lib.hid (show ∃ (i:Nat) (A2:Option Addr) (c2:Nat) (m:List UInt8),(Value.slice A1 l.length c1) = .slice A2 m.length c2 ∧ (Value.int .i64 ((0:Nat):Int)) = .int .i64 (i:Int) ∧ m = l0 ++ be8H N i ∧ 8 = 8 - i ∧ i ≤ 8 ∧ OwnC codY w wr A2 c2 m ∧ Fr noB w wr from ⟨0,A1,c1,l,rfl,rfl,by rw [HL00.out];exact HL0.out,rfl,Nat.zero_le _,HO.out,HF.out⟩)
     go_wp2_with fail
     go_loopg [3,6] 8 (fun gk ov iv wr=>∃ (i:Nat) (A2:Option Addr) (c2:Nat) (m:List UInt8),ov = .slice A2 m.length c2 ∧ iv = .int .i64 (i:Int) ∧ m = l0 ++ be8H N i ∧ gk = 8 - i ∧ i ≤ 8 ∧ OwnC codY w wr A2 c2 m ∧ Fr noB w wr)
     case atStart=>exact H0.out
     case round =>
      clear H0
      obtain ⟨i,A1,c1,l,rfl,rfl,hl,rfl,hi,ho,hf⟩:=hrel
      have HO:=Lib.hid ho
      have HF:=Lib.hid hf
      have HLE:=Lib.hid hl
      have HLL:=Lib.hid (show l.length ≤ b.length + 80 by rw [hl,HL00.out,HLP.out,List.length_append,be8H_len];simp;omega)
      clear ho hf hl
      by_cases hlt:i < 8
      ·rcases (by omega:i = 0 ∨ i = 1 ∨ i = 2 ∨ i = 3 ∨ i = 4 ∨ i = 5 ∨ i = 6 ∨ i = 7) with rfl | rfl | rfl | rfl | rfl | rfl | rfl | rfl
       ·clear hlt hi
        obtain ⟨y,hy⟩:∃ y,y = UInt8.ofNat (N / 72057594037927936):=⟨_,rfl⟩
        have hyv:(N:Int) / 72057594037927936 % 256 = (y.toNat:Int):=by rw [hy,UInt8.toNat_ofNat'];omega
        have HY:=Lib.hid hy
        have hst:Sl (wr.alloc (.cells #[.int .u8 (y.toNat:Int)] 5)) (some ⟨wr.heap.size,0,none⟩) (codY.row [y]):=Sl.new wr 5 [.int .u8 (y.toNat:Int)]
        have fn:Fr noB wr (wr.alloc (.cells #[.int .u8 (y.toNat:Int)] 5)):=(Fr.refl noB wr).alloc _
        have hox:=Lib.hid (own_new0 HO.out fn)
        have sz:=(HF.out.step0 fn).size
        have FX:=Lib.hid (HF.out.step0 fn)
        clear fn hy
        go_wp2_with (at_builtin;refine wpList_appC' etY w _ rfl _ _ rfl A1 l.length c1 l rfl rfl hox.out (some ⟨wr.heap.size,0,none⟩) 1 1 [y] rfl hst rfl (by have:=HLL.out;have:=HB.out;simp;omega) sz ?_;intro A8 c8 w8 hc8 hmx8 ho8 hg8 hA8;obtain ⟨l8,hl8⟩:∃ t,t = l ++ [y]:=⟨_,rfl⟩;rw [← hl8] at ho8 ⊢;have HL8:=Lib.hid hl8;clear hl8 hc8 hmx8 hA8)
        have F8:=Fr.own' FX.out hox.out hg8
        go_roundg (8 - (0 + 1))
        case measure=>omega
        case rel=>exact ⟨0 + 1,A8,c8,l8,rfl,rfl,by rw [HL8.out,HLE.out,HY.out,List.append_assoc];rfl,rfl,by omega,ho8,F8⟩
       ·clear hlt hi
        obtain ⟨y,hy⟩:∃ y,y = UInt8.ofNat (N / 281474976710656):=⟨_,rfl⟩
        have hyv:(N:Int) / 281474976710656 % 256 = (y.toNat:Int):=by rw [hy,UInt8.toNat_ofNat'];omega
        have HY:=Lib.hid hy
        have hst:Sl (wr.alloc (.cells #[.int .u8 (y.toNat:Int)] 5)) (some ⟨wr.heap.size,0,none⟩) (codY.row [y]):=Sl.new wr 5 [.int .u8 (y.toNat:Int)]
        have fn:Fr noB wr (wr.alloc (.cells #[.int .u8 (y.toNat:Int)] 5)):=(Fr.refl noB wr).alloc _
        have hox:=Lib.hid (own_new0 HO.out fn)
        have sz:=(HF.out.step0 fn).size
        have FX:=Lib.hid (HF.out.step0 fn)
        clear fn hy
        go_wp2_with (at_builtin;refine wpList_appC' etY w _ rfl _ _ rfl A1 l.length c1 l rfl rfl hox.out (some ⟨wr.heap.size,0,none⟩) 1 1 [y] rfl hst rfl (by have:=HLL.out;have:=HB.out;simp;omega) sz ?_;intro A8 c8 w8 hc8 hmx8 ho8 hg8 hA8;obtain ⟨l8,hl8⟩:∃ t,t = l ++ [y]:=⟨_,rfl⟩;rw [← hl8] at ho8 ⊢;have HL8:=Lib.hid hl8;clear hl8 hc8 hmx8 hA8)
        have F8:=Fr.own' FX.out hox.out hg8
        go_roundg (8 - (1 + 1))
        case measure=>omega
        case rel=>exact ⟨1 + 1,A8,c8,l8,rfl,rfl,by rw [HL8.out,HLE.out,HY.out,List.append_assoc];rfl,rfl,by omega,ho8,F8⟩
       ·clear hlt hi
        obtain ⟨y,hy⟩:∃ y,y = UInt8.ofNat (N / 1099511627776):=⟨_,rfl⟩
        have hyv:(N:Int) / 1099511627776 % 256 = (y.toNat:Int):=by rw [hy,UInt8.toNat_ofNat'];omega
        have HY:=Lib.hid hy
        have hst:Sl (wr.alloc (.cells #[.int .u8 (y.toNat:Int)] 5)) (some ⟨wr.heap.size,0,none⟩) (codY.row [y]):=Sl.new wr 5 [.int .u8 (y.toNat:Int)]
        have fn:Fr noB wr (wr.alloc (.cells #[.int .u8 (y.toNat:Int)] 5)):=(Fr.refl noB wr).alloc _
        have hox:=Lib.hid (own_new0 HO.out fn)
        have sz:=(HF.out.step0 fn).size
        have FX:=Lib.hid (HF.out.step0 fn)
        clear fn hy
        go_wp2_with (at_builtin;refine wpList_appC' etY w _ rfl _ _ rfl A1 l.length c1 l rfl rfl hox.out (some ⟨wr.heap.size,0,none⟩) 1 1 [y] rfl hst rfl (by have:=HLL.out;have:=HB.out;simp;omega) sz ?_;intro A8 c8 w8 hc8 hmx8 ho8 hg8 hA8;obtain ⟨l8,hl8⟩:∃ t,t = l ++ [y]:=⟨_,rfl⟩;rw [← hl8] at ho8 ⊢;have HL8:=Lib.hid hl8;clear hl8 hc8 hmx8 hA8)
        have F8:=Fr.own' FX.out hox.out hg8
        go_roundg (8 - (2 + 1))
        case measure=>omega
        case rel=>exact ⟨2 + 1,A8,c8,l8,rfl,rfl,by rw [HL8.out,HLE.out,HY.out,List.append_assoc];rfl,rfl,by omega,ho8,F8⟩
       ·clear hlt hi
        obtain ⟨y,hy⟩:∃ y,y = UInt8.ofNat (N / 4294967296):=⟨_,rfl⟩
        have hyv:(N:Int) / 4294967296 % 256 = (y.toNat:Int):=by rw [hy,UInt8.toNat_ofNat'];omega
        have HY:=Lib.hid hy
        have hst:Sl (wr.alloc (.cells #[.int .u8 (y.toNat:Int)] 5)) (some ⟨wr.heap.size,0,none⟩) (codY.row [y]):=Sl.new wr 5 [.int .u8 (y.toNat:Int)]
        have fn:Fr noB wr (wr.alloc (.cells #[.int .u8 (y.toNat:Int)] 5)):=(Fr.refl noB wr).alloc _
        have hox:=Lib.hid (own_new0 HO.out fn)
        have sz:=(HF.out.step0 fn).size
        have FX:=Lib.hid (HF.out.step0 fn)
        clear fn hy
        go_wp2_with (at_builtin;refine wpList_appC' etY w _ rfl _ _ rfl A1 l.length c1 l rfl rfl hox.out (some ⟨wr.heap.size,0,none⟩) 1 1 [y] rfl hst rfl (by have:=HLL.out;have:=HB.out;simp;omega) sz ?_;intro A8 c8 w8 hc8 hmx8 ho8 hg8 hA8;obtain ⟨l8,hl8⟩:∃ t,t = l ++ [y]:=⟨_,rfl⟩;rw [← hl8] at ho8 ⊢;have HL8:=Lib.hid hl8;clear hl8 hc8 hmx8 hA8)
        have F8:=Fr.own' FX.out hox.out hg8
        go_roundg (8 - (3 + 1))
        case measure=>omega
        case rel=>exact ⟨3 + 1,A8,c8,l8,rfl,rfl,by rw [HL8.out,HLE.out,HY.out,List.append_assoc];rfl,rfl,by omega,ho8,F8⟩
       ·clear hlt hi
        obtain ⟨y,hy⟩:∃ y,y = UInt8.ofNat (N / 16777216):=⟨_,rfl⟩
        have hyv:(N:Int) / 16777216 % 256 = (y.toNat:Int):=by rw [hy,UInt8.toNat_ofNat'];omega
        have HY:=Lib.hid hy
        have hst:Sl (wr.alloc (.cells #[.int .u8 (y.toNat:Int)] 5)) (some ⟨wr.heap.size,0,none⟩) (codY.row [y]):=Sl.new wr 5 [.int .u8 (y.toNat:Int)]
        have fn:Fr noB wr (wr.alloc (.cells #[.int .u8 (y.toNat:Int)] 5)):=(Fr.refl noB wr).alloc _
        have hox:=Lib.hid (own_new0 HO.out fn)
        have sz:=(HF.out.step0 fn).size
        have FX:=Lib.hid (HF.out.step0 fn)
        clear fn hy
        go_wp2_with (at_builtin;refine wpList_appC' etY w _ rfl _ _ rfl A1 l.length c1 l rfl rfl hox.out (some ⟨wr.heap.size,0,none⟩) 1 1 [y] rfl hst rfl (by have:=HLL.out;have:=HB.out;simp;omega) sz ?_;intro A8 c8 w8 hc8 hmx8 ho8 hg8 hA8;obtain ⟨l8,hl8⟩:∃ t,t = l ++ [y]:=⟨_,rfl⟩;rw [← hl8] at ho8 ⊢;have HL8:=Lib.hid hl8;clear hl8 hc8 hmx8 hA8)
        have F8:=Fr.own' FX.out hox.out hg8
        go_roundg (8 - (4 + 1))
        case measure=>omega
        case rel=>exact ⟨4 + 1,A8,c8,l8,rfl,rfl,by rw [HL8.out,HLE.out,HY.out,List.append_assoc];rfl,rfl,by omega,ho8,F8⟩
       ·clear hlt hi
        obtain ⟨y,hy⟩:∃ y,y = UInt8.ofNat (N / 65536):=⟨_,rfl⟩
        have hyv:(N:Int) / 65536 % 256 = (y.toNat:Int):=by rw [hy,UInt8.toNat_ofNat'];omega
        have HY:=Lib.hid hy
        have hst:Sl (wr.alloc (.cells #[.int .u8 (y.toNat:Int)] 5)) (some ⟨wr.heap.size,0,none⟩) (codY.row [y]):=Sl.new wr 5 [.int .u8 (y.toNat:Int)]
        have fn:Fr noB wr (wr.alloc (.cells #[.int .u8 (y.toNat:Int)] 5)):=(Fr.refl noB wr).alloc _
        have hox:=Lib.hid (own_new0 HO.out fn)
        have sz:=(HF.out.step0 fn).size
        have FX:=Lib.hid (HF.out.step0 fn)
        clear fn hy
        go_wp2_with (at_builtin;refine wpList_appC' etY w _ rfl _ _ rfl A1 l.length c1 l rfl rfl hox.out (some ⟨wr.heap.size,0,none⟩) 1 1 [y] rfl hst rfl (by have:=HLL.out;have:=HB.out;simp;omega) sz ?_;intro A8 c8 w8 hc8 hmx8 ho8 hg8 hA8;obtain ⟨l8,hl8⟩:∃ t,t = l ++ [y]:=⟨_,rfl⟩;rw [← hl8] at ho8 ⊢;have HL8:=Lib.hid hl8;clear hl8 hc8 hmx8 hA8)
        have F8:=Fr.own' FX.out hox.out hg8
        go_roundg (8 - (5 + 1))
        case measure=>omega
        case rel=>exact ⟨5 + 1,A8,c8,l8,rfl,rfl,by rw [HL8.out,HLE.out,HY.out,List.append_assoc];rfl,rfl,by omega,ho8,F8⟩
       ·clear hlt hi
        obtain ⟨y,hy⟩:∃ y,y = UInt8.ofNat (N / 256):=⟨_,rfl⟩
        have hyv:(N:Int) / 256 % 256 = (y.toNat:Int):=by rw [hy,UInt8.toNat_ofNat'];omega
        have HY:=Lib.hid hy
        have hst:Sl (wr.alloc (.cells #[.int .u8 (y.toNat:Int)] 5)) (some ⟨wr.heap.size,0,none⟩) (codY.row [y]):=Sl.new wr 5 [.int .u8 (y.toNat:Int)]
        have fn:Fr noB wr (wr.alloc (.cells #[.int .u8 (y.toNat:Int)] 5)):=(Fr.refl noB wr).alloc _
        have hox:=Lib.hid (own_new0 HO.out fn)
        have sz:=(HF.out.step0 fn).size
        have FX:=Lib.hid (HF.out.step0 fn)
        clear fn hy
        go_wp2_with (at_builtin;refine wpList_appC' etY w _ rfl _ _ rfl A1 l.length c1 l rfl rfl hox.out (some ⟨wr.heap.size,0,none⟩) 1 1 [y] rfl hst rfl (by have:=HLL.out;have:=HB.out;simp;omega) sz ?_;intro A8 c8 w8 hc8 hmx8 ho8 hg8 hA8;obtain ⟨l8,hl8⟩:∃ t,t = l ++ [y]:=⟨_,rfl⟩;rw [← hl8] at ho8 ⊢;have HL8:=Lib.hid hl8;clear hl8 hc8 hmx8 hA8)
        have F8:=Fr.own' FX.out hox.out hg8
        go_roundg (8 - (6 + 1))
        case measure=>omega
        case rel=>exact ⟨6 + 1,A8,c8,l8,rfl,rfl,by rw [HL8.out,HLE.out,HY.out,List.append_assoc];rfl,rfl,by omega,ho8,F8⟩
       ·clear hlt hi
        obtain ⟨y,hy⟩:∃ y,y = UInt8.ofNat (N / 1):=⟨_,rfl⟩
        have hyv:(N:Int) % 256 = (y.toNat:Int):=by rw [hy,UInt8.toNat_ofNat'];omega
        have HY:=Lib.hid hy
        have hst:Sl (wr.alloc (.cells #[.int .u8 (y.toNat:Int)] 5)) (some ⟨wr.heap.size,0,none⟩) (codY.row [y]):=Sl.new wr 5 [.int .u8 (y.toNat:Int)]
        have fn:Fr noB wr (wr.alloc (.cells #[.int .u8 (y.toNat:Int)] 5)):=(Fr.refl noB wr).alloc _
        have hox:=Lib.hid (own_new0 HO.out fn)
        have sz:=(HF.out.step0 fn).size
        have FX:=Lib.hid (HF.out.step0 fn)
        clear fn hy
        go_wp2_with (at_builtin;refine wpList_appC' etY w _ rfl _ _ rfl A1 l.length c1 l rfl rfl hox.out (some ⟨wr.heap.size,0,none⟩) 1 1 [y] rfl hst rfl (by have:=HLL.out;have:=HB.out;simp;omega) sz ?_;intro A8 c8 w8 hc8 hmx8 ho8 hg8 hA8;obtain ⟨l8,hl8⟩:∃ t,t = l ++ [y]:=⟨_,rfl⟩;rw [← hl8] at ho8 ⊢;have HL8:=Lib.hid hl8;clear hl8 hc8 hmx8 hA8)
        have F8:=Fr.own' FX.out hox.out hg8
        go_roundg (8 - (7 + 1))
        case measure=>omega
        case rel=>exact ⟨7 + 1,A8,c8,l8,rfl,rfl,by rw [HL8.out,HLE.out,HY.out,List.append_assoc];rfl,rfl,by omega,ho8,F8⟩
      ·obtain rfl:i = 8:=by omega
       have HRES:=Lib.hid (show padH b = l by rw [HLE.out,HL00.out,HLP.out,HNN.out];rfl)
       clear hlt hi
       go_wp2_with fail
       go_ret
       exact ⟨A1,c1,by rw [HRES.out];rfl,by rw [HRES.out];exact HO.out,HF.out⟩
end Go.Proofs.Ytahllkifmmjbdaa
