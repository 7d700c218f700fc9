/- Contract: sha.Sum. -/
import Derived.Test.YtahllkifmmjbdaaShxDKp
import Derived.Test.YtahllkifmmjbdaaShaRKp
set_option linter.unusedVariables false
set_option linter.unusedSimpArgs false
namespace Go.Proofs.Ytahllkifmmjbdaa
open Go.RowKit Go.Maps Go.Sort
theorem hsJ_lt (b:List UInt8):∀ j,Lt32 (hsJ b j)
 | 0=>lt_fst
 | j + 1=>by unfold hsJ;rw [bksH_snoc];exact adH_lt _ _
theorem begin_x (w:World):Calls Try.prog 36 #[] w (Gives w (.agg #[.int .u32 1779033703,.int .u32 3144134277,.int .u32 1013904242,.int .u32 2773480762,.int .u32 1359893119,.int .u32 2600822924,.int .u32 528734635,.int .u32 1541459225])):=begin_any w
def rowB (l:List UInt8) (n:Nat):List UInt8:=l ++ List.replicate n 0
theorem rowB_set (l:List UInt8) (n:Nat) (x:UInt8) (i:Nat) (hi:i = l.length):(rowB l (n + 1)).set i x = rowB (l ++ [x]) n:=by
 subst hi
 unfold rowB
 rw [List.set_append_right _ _ (Nat.le_refl _),Nat.sub_self,List.replicate_succ,List.set_cons_zero,List.append_assoc]
 rfl
theorem bv_set (l:List UInt8) (i:Nat) (x:UInt8):(bv l).set i (.int .u8 (x.toNat:Int)) = bv (l.set i x):=by
 unfold bv
 rw [List.map_set]
 rfl
theorem rowB_four (l:List UInt8) (n p q r s:Nat) {y0 y1 y2 y3:UInt8} (hp:p = l.length) (hq:q = p + 1) (hr:r = p + 2) (hs:s = p + 3):((((rowB l (n + 4)).set p y0).set q y1).set r y2).set s y3 = rowB (l ++ [y0] ++ [y1] ++ [y2] ++ [y3]) n:=by
 rw [rowB_set l (n + 3) y0 p hp,rowB_set (l ++ [y0]) (n + 2) y1 q (by simp;omega),rowB_set (l ++ [y0] ++ [y1]) (n + 1) y2 r (by simp;omega),rowB_set (l ++ [y0] ++ [y1] ++ [y2]) n y3 s (by simp;omega)]
theorem rowB_get {w:World} {b:Nat} {t:TypeId} {l:List UInt8} {n:Nat} (h:Blk w b t (bv (rowB l n))) (i:Nat) (h1:l.length ≤ i) (h2:i < l.length + n):w.cell? ⟨b,i,none⟩ = some (.int .u8 0):=by
 rw [h.cell]
 have h3:(rowB l n)[i]? = some 0:=by
  unfold rowB
  rw [List.getElem?_append_right h1,List.getElem?_replicate,if_pos (by omega)]
 show ((rowB l n).map u8v)[i]? = _
 rw [List.getElem?_map,h3]
 rfl
theorem Off.ownS {base:Nat} {w:World} {e:TypeId} {size n c:Nat} {A:Option Addr} {xs:List Value} (h:w.ownsRow base e size (.slice A n c) n xs) {S:Nat} (hS:S < base):Off A (fun b=>¬ oneB S b):=by
 intro a ha
 subst ha
 have:=(own_lt h a.block rfl).1
 intro e
 have e:a.block = S:=e
 omega
@[simp] theorem ix8_0 (w:World) (a0 a1 a2 a3 a4 a5 a6 a7:Value):(Instr.index 69 (.agg #[a0,a1,a2,a3,a4,a5,a6,a7]) (.int .i64 0)).run Try.prog w = .ok a0 w:=by kernel_rfl
@[simp] theorem ix8_1 (w:World) (a0 a1 a2 a3 a4 a5 a6 a7:Value):(Instr.index 69 (.agg #[a0,a1,a2,a3,a4,a5,a6,a7]) (.int .i64 1)).run Try.prog w = .ok a1 w:=by kernel_rfl
@[simp] theorem ix8_2 (w:World) (a0 a1 a2 a3 a4 a5 a6 a7:Value):(Instr.index 69 (.agg #[a0,a1,a2,a3,a4,a5,a6,a7]) (.int .i64 2)).run Try.prog w = .ok a2 w:=by kernel_rfl
@[simp] theorem ix8_3 (w:World) (a0 a1 a2 a3 a4 a5 a6 a7:Value):(Instr.index 69 (.agg #[a0,a1,a2,a3,a4,a5,a6,a7]) (.int .i64 3)).run Try.prog w = .ok a3 w:=by kernel_rfl
@[simp] theorem ix8_4 (w:World) (a0 a1 a2 a3 a4 a5 a6 a7:Value):(Instr.index 69 (.agg #[a0,a1,a2,a3,a4,a5,a6,a7]) (.int .i64 4)).run Try.prog w = .ok a4 w:=by kernel_rfl
@[simp] theorem ix8_5 (w:World) (a0 a1 a2 a3 a4 a5 a6 a7:Value):(Instr.index 69 (.agg #[a0,a1,a2,a3,a4,a5,a6,a7]) (.int .i64 5)).run Try.prog w = .ok a5 w:=by kernel_rfl
@[simp] theorem ix8_6 (w:World) (a0 a1 a2 a3 a4 a5 a6 a7:Value):(Instr.index 69 (.agg #[a0,a1,a2,a3,a4,a5,a6,a7]) (.int .i64 6)).run Try.prog w = .ok a6 w:=by kernel_rfl
@[simp] theorem ix8_7 (w:World) (a0 a1 a2 a3 a4 a5 a6 a7:Value):(Instr.index 69 (.agg #[a0,a1,a2,a3,a4,a5,a6,a7]) (.int .i64 7)).run Try.prog w = .ok a7 w:=by kernel_rfl
set_option maxRecDepth 100000 in
set_option maxHeartbeats 40000000 in
theorem sum_sh (w:World) (A:Option Addr) (n c:Nat) (b:List UInt8) (hn:b.length = n) (hc:b.length ≤ c) (hb:b.length ≤ 1000000000000) (hs:Sl w A (bv b)) :
  Calls Try.prog 11 #[.slice A n c] w (SmTo w b):=by
 subst hn
 have HS:=Lib.hid hs
 have HB:=Lib.hid hb
 have HC:=Lib.hid hc
 clear hs hb hc
 obtain ⟨R,hR⟩:∃ R,R = w.heap.size:=⟨_,rfl⟩
 have HR:=Lib.hid hR
 have hr0:bxI (w.alloc (ido zID)) R = some zID:=by rw [hR];exact bxI_new _ _
 have HR0:=Lib.hid hr0
 have HF0:=Lib.hid (show Fr noB w (w.alloc (ido zID)) from (Fr.refl noB w).alloc _)
 go_enter Try.func11,Try.ntmps11
 go_upto_region 1 with fail
 rw [← hR]
 clear hR hr0
 generalize w.alloc (ido zID) = w1 at HR0 HF0 ⊢
 go_upto_region 2 with first
  | (go_at_call 36;refine (begin_x _).mono ?_;rintro e w2 ⟨rfl,hf2⟩;have HF2:=Lib.hid hf2;clear hf2)
  | (go_at_call 37;refine (rounds_any _).mono ?_;rintro e w3 ⟨rfl,rfl⟩)
 obtain ⟨K,hK⟩:∃ K,K = w2.heap.size:=⟨_,rfl⟩
 obtain ⟨S,hS⟩:∃ S,S = w2.heap.size + 1:=⟨_,rfl⟩
 have HKS:=Lib.hid (show R < K ∧ w.heap.size ≤ R ∧ S = K + 1 by have:=bxI_lt HR0.out;have:=HF2.out.size;have:=HR.out;omega)
 have H0:=Lib.hid (show ∀ w4:World,w4 = (w2.alloc (.cells (codU.row rdsH).toArray 103)).alloc (.cells (codU.row fstH).toArray 69) → ∃ (j:Nat) (A':Option Addr) (c':Nat) (r:List UInt8),Value.slice A b.length c = .slice A' r.length c' ∧ r = b.drop (64 * j) ∧ 64 * j ≤ b.length ∧ r.length ≤ c' ∧ Sl w A' (bv r) ∧ b.length - 0 = b.length - 64 * j ∧ Blk w4 S 69 (codU.row (hsJ b j)) ∧ Blk w4 K 103 (codU.row rdsH) ∧ bxI w4 R = some zID ∧ Fr noB w w4 from fun w4 e=>by
  subst e
  have k1:((w2.alloc (.cells (codU.row rdsH).toArray 103)).heap.size = S):=by rw [hS];simp
  have f1:Fr noB w2 (w2.alloc (.cells (codU.row rdsH).toArray 103)):=(Fr.refl noB w2).alloc _
  have f2:Fr noB (w2.alloc (.cells (codU.row rdsH).toArray 103)) ((w2.alloc (.cells (codU.row rdsH).toArray 103)).alloc (.cells (codU.row fstH).toArray 69)):=(Fr.refl noB _).alloc _
  refine ⟨0,A,c,b,rfl,rfl,by omega,HC.out,HS.out,rfl,?_,?_,?_,((HF0.out.step0 HF2.out).step0 f1).step0 f2⟩
  ·have:=Blk.new (w2.alloc (.cells (codU.row rdsH).toArray 103)) 69 (codU.row fstH)
   rw [k1] at this
   exact this
  ·have:=Blk.new w2 103 (codU.row rdsH)
   rw [← hK] at this
   exact this.fr f2 (by simp [noB])
  ·exact bxI_fr (bxI_fr (bxI_fr HR0.out HF2.out (by simp [noB])) f1 (by simp [noB])) f2 (by simp [noB]))
 rw [← hS,← hK]
 clear hK hS HF2 HF0 HR0
 go_wp2_with fail
 go_loopg [5] (b.length - 0) (fun gk rv wr=>∃ (j:Nat) (A':Option Addr) (c':Nat) (r:List UInt8),rv = .slice A' r.length c' ∧ r = b.drop (64 * j) ∧ 64 * j ≤ b.length ∧ r.length ≤ c' ∧ Sl w A' (bv r) ∧ gk = b.length - 64 * j ∧ Blk wr S 69 (codU.row (hsJ b j)) ∧ Blk wr K 103 (codU.row rdsH) ∧ bxI wr R = some zID ∧ Fr noB w wr)
 case atStart=>exact H0.out _ rfl
 case round =>
  clear H0
  obtain ⟨j,A',c',r,rfl,hr,hj,hrc,hsr,rfl,hbs,hbk,hbr,hf⟩:=hrel
  have HRR:=Lib.hid hr
  have HRC:=Lib.hid hrc
  have HSR:=Lib.hid hsr
  have HBS:=Lib.hid hbs
  have HBK:=Lib.hid hbk
  have HBR:=Lib.hid hbr
  have HF:=Lib.hid hf
  have hrl:r.length = b.length - 64 * j:=by rw [hr,List.length_drop]
  have HRL:=Lib.hid hrl
  have HRB:=Lib.hid (show r.length ≤ 1000000000100 by have:=HB.out;omega)
  clear hr hrc hsr hbs hbk hbr hf
  by_cases hlt:64 ≤ r.length
  ·have i1:(64:Int) ≤ (r.length:Int):=by omega
   have HLT:=Lib.hid hlt
   clear hlt hrl hj
   go_upto_region 4 with (go_at_call 38;refine (take_sh _ S K A' r.length c' r (hsJ b j) rfl HLT.out HRB.out (HSR.out.fr0 HF.out) HBS.out (hsJ_len b j) (hsJ_lt b j) HBK.out (by have:=HKS.out;omega)).mono ?_;rintro e w8 ⟨rfl,hbs8,hf8⟩;have HBS8:=Lib.hid hbs8;have HF8:=Lib.hid hf8;clear hbs8 hf8)
   go_wp2_with fail
   obtain ⟨r2,hr2⟩:∃ r2,r2 = r.drop 64:=⟨_,rfl⟩
   have hl2:r.length - 64 = r2.length:=by rw [hr2,List.length_drop]
   simp only [hl2]
   go_roundg (b.length - 64 * (j + 1))
   case measure=>have:=HLT.out;have:=HRL.out;omega
   case rel=>exact ⟨j + 1,_,_,r2,rfl,by rw [hr2,HRR.out,List.drop_drop];congr 1,by have:=HLT.out;have:=HRL.out;omega,by have:=HRC.out;omega,by rw [hr2];exact HSR.out.cutB HRC.out,rfl,by rw [hsJ_head b j (by have:=HLT.out;have:=HRL.out;omega),← HRR.out];exact HBS8.out,HBK.out.fr HF8.out (fun e=>by have e:K = S:=e;have:=HKS.out;omega),bxI_fr HBR.out HF8.out (fun e=>by have e:R = S:=e;have:=HKS.out;omega),HF.out.trans HF8.out (fun x hx e=>by have e:x = S:=e;have:=HKS.out;omega)⟩
  ·have i1:¬ (64:Int) ≤ (r.length:Int):=by omega
   have HQ:=Lib.hid (show j = b.length / 64 by omega)
   have HLT:=Lib.hid (show r.length < 64 by omega)
   clear hlt hrl hj
   obtain ⟨wl,e⟩:∃ wl,wl = wr:=⟨_,rfl⟩
   subst e
   go_upto_region 6 with fail
   have HSl:=Lib.hid (And.intro HBS.out.lt (And.intro HBK.out.lt (bxI_lt HBR.out)))
   go_upto_region 7 with first
    | (go_at_call 35;refine (clone_any _ A' c' r (HSR.out.fr0 HF.out) (by have:=HRB.out;omega)).mono ?_
       rintro e w8 ⟨A1,c1,rfl,ho8,hf8⟩
       have fn:Fr noB w8 (w8.alloc (.cells #[.int .u8 128] 5)):=(Fr.refl noB w8).alloc _
       have hst:Sl (w8.alloc (.cells #[.int .u8 128] 5)) (some ⟨w8.heap.size,0,none⟩) (codY.row [128]):=Sl.new w8 5 [.int .u8 128]
       have hox:=Lib.hid (show OwnC codY wl (w8.alloc (.cells #[.int .u8 128] 5)) A1 c1 r from own_new0 (by rw [row_Y];exact ho8) fn)
       have sz:=(hf8.step0 fn).size
       have FX:=Lib.hid (hf8.step0 fn)
       clear fn ho8 hf8)
    | (at_builtin;refine wpList_appC' etY wl _ rfl _ _ rfl A1 r.length c1 r rfl rfl hox.out (some ⟨w8.heap.size,0,none⟩) 1 1 [128] rfl hst rfl (by have:=HLT.out;simp;omega) sz ?_;intro A8 c8 w9 hc8 hmx8 ho8 hg8 hA8;obtain ⟨l8,hl8⟩:∃ t,t = r ++ [128]:=⟨_,rfl⟩;rw [← hl8] at ho8 ⊢;have HL8:=Lib.hid hl8;clear hl8 hc8 hmx8 hA8)
   have F8:=Fr.own' FX.out hox.out hg8
   have H0:=Lib.hid (show ∃ (j:Nat) (A2:Option Addr) (c2:Nat) (l:List UInt8),(Value.slice A8 l8.length c8) = .slice A2 l.length c2 ∧ l = r ++ 128 :: List.replicate j 0 ∧ (119 - r.length % 64) % 64 = (119 - r.length % 64) % 64 - j ∧ j ≤ (119 - r.length % 64) % 64 ∧ OwnC codY wl w9 A2 c2 l ∧ Fr noB wl w9 from ⟨0,A8,c8,l8,rfl,by rw [HL8.out];rfl,rfl,Nat.zero_le _,ho8,F8⟩)
   clear hst hox sz FX ho8 hg8 F8
   go_wp2_with fail
   go_loopg [6] ((119 - r.length % 64) % 64) (fun gk ov wx=>∃ (j:Nat) (A2:Option Addr) (c2:Nat) (l:List UInt8),ov = .slice A2 l.length c2 ∧ l = r ++ 128 :: List.replicate j 0 ∧ gk = (119 - r.length % 64) % 64 - j ∧ j ≤ (119 - r.length % 64) % 64 ∧ OwnC codY wl wx A2 c2 l ∧ Fr noB wl wx)
   case atStart=>exact H0.out
   case round =>
    clear H0 i1
    obtain ⟨j2,A1,c1,l,rfl,hl,rfl,hj,ho,hf⟩:=hrel
    have HO:=Lib.hid ho
    have HF2:=Lib.hid hf
    have HLE:=Lib.hid hl
    have hlen:l.length = r.length + 1 + j2:=by rw [hl];simp;omega
    have HLL:=Lib.hid (show l.length ≤ 128 by have:=HLT.out;omega)
    clear ho hf hl
    by_cases hlt:j2 < (119 - r.length % 64) % 64
    ·have e0:((l.length:Int) % 64 != 56) = true:=by
      have:=(not_congr (pad_z r.length j2 hj)).2 (by omega)
      rw [← hlen] at this
      simp
      omega
     have hst:Sl (wr.alloc (.cells #[.int .u8 0] 5)) (some ⟨wr.heap.size,0,none⟩) (codY.row [0]):=Sl.new wr 5 [.int .u8 0]
     have fn:Fr noB wr (wr.alloc (.cells #[.int .u8 0] 5)):=(Fr.refl noB wr).alloc _
     have hox:=Lib.hid (own_new0 HO.out fn)
     have sz:=(HF2.out.step0 fn).size
     have FX:=Lib.hid (HF2.out.step0 fn)
     have HLT2:=Lib.hid hlt
     clear fn hlt hj hlen
     go_wp2_with (at_builtin;refine wpList_appC' etY wl _ rfl _ _ rfl A1 l.length c1 l rfl rfl hox.out (some ⟨wr.heap.size,0,none⟩) 1 1 [0] rfl hst rfl (by have:=HLL.out;simp;omega) sz ?_;intro A8 c8 w8 hc8 hmx8 ho8 hg8 hA8;obtain ⟨l8,hl8⟩:∃ t,t = l ++ [0]:=⟨_,rfl⟩;rw [← hl8] at ho8 ⊢;have HL8:=Lib.hid hl8;clear hl8 hc8 hmx8 hA8)
     have F8:=Fr.own' FX.out hox.out hg8
     go_roundg ((119 - r.length % 64) % 64 - (j2 + 1))
     case measure=>have:=HLT2.out;omega
     case rel=>exact ⟨j2 + 1,A8,c8,l8,rfl,by rw [HL8.out,HLE.out,List.append_assoc,List.cons_append,← List.replicate_succ'],rfl,by have:=HLT2.out;omega,ho8,F8⟩
    ·have e0:((l.length:Int) % 64 != 56) = false:=by
      have:=(pad_z r.length j2 hj).2 (by omega)
      rw [← hlen] at this
      simp
      omega
     have x1:(b.length:Int) % 18446744073709551616 = (b.length:Int):=by have:=HB.out;omega
     have x2:(b.length:Int) * 8 % 18446744073709551616 = (b.length:Int) * 8:=by have:=HB.out;omega
     obtain ⟨N,hN⟩:∃ N,N = b.length * 8:=⟨_,rfl⟩
     have x3:(b.length:Int) * 8 = (N:Int):=by omega
     have HNN:=Lib.hid hN
     have HNB:=Lib.hid (show N ≤ 8000000000000 by have:=HB.out;omega)
     have HLP:=Lib.hid (show l = r ++ 128 :: List.replicate ((119 - r.length % 64) % 64) 0 by rw [HLE.out,show j2 = (119 - r.length % 64) % 64 by omega])
     obtain ⟨l0,hl0⟩:∃ t,t = l:=⟨_,rfl⟩
     have HL00:=Lib.hid hl0
     have H0:=Lib.hid (show ∃ (k:Nat) (v:Int) (A2:Option Addr) (c2:Nat) (m:List UInt8),(Value.slice A1 l.length c1) = .slice A2 m.length c2 ∧ (Value.int .i64 7) = .int .i64 v ∧ v = 7 - (k:Int) ∧ m = l0 ++ be8H N k ∧ 8 = 8 - k ∧ k ≤ 8 ∧ OwnC codY wl wr A2 c2 m ∧ Fr noB wl wr from ⟨0,7,A1,c1,l,rfl,rfl,rfl,by rw [HL00.out];simp [be8H],rfl,Nat.zero_le _,HO.out,HF2.out⟩)
     clear hlt hj hlen hN hl0 HLE HO HF2
     go_upto_region 9 with fail
     clear e0
     go_wp2_with fail
     go_loopg [6,7] 8 (fun gk ov iv wx=>∃ (k:Nat) (v:Int) (A2:Option Addr) (c2:Nat) (m:List UInt8),ov = .slice A2 m.length c2 ∧ iv = .int .i64 v ∧ v = 7 - (k:Int) ∧ m = l0 ++ be8H N k ∧ gk = 8 - k ∧ k ≤ 8 ∧ OwnC codY wl wx A2 c2 m ∧ Fr noB wl wx)
     case atStart=>exact H0.out
     case round =>
      clear H0
      obtain ⟨k,v,A1,c1,l,rfl,rfl,hv,hl,rfl,hk,ho,hf⟩:=hrel
      have HO:=Lib.hid ho
      have HF2:=Lib.hid hf
      have HLE:=Lib.hid hl
      have HLL:=Lib.hid (show l.length ≤ 140 by rw [hl,HL00.out,HLP.out,List.length_append,be8H_len];have:=HLT.out;simp;omega)
      clear ho hf hl
      by_cases hlt:k < 8
      ·rcases (by omega:k = 0 ∨ k = 1 ∨ k = 2 ∨ k = 3 ∨ k = 4 ∨ k = 5 ∨ k = 6 ∨ k = 7) with rfl | rfl | rfl | rfl | rfl | rfl | rfl | rfl
       ·clear hlt hk
        obtain rfl:v = 7:=by omega
        obtain ⟨y,hy⟩:∃ y,y = UInt8.ofNat (N / 72057594037927936):=⟨_,rfl⟩
        have hyv:(N:Int) / 72057594037927936 = (y.toNat:Int):=by have:=HNB.out;rw [hy,UInt8.toNat_ofNat'];omega
        have HY:=Lib.hid hy
        have hst:Sl (wr.alloc (.cells #[.int .u8 (y.toNat:Int)] 5)) (some ⟨wr.heap.size,0,none⟩) (codY.row [y]):=Sl.new wr 5 [.int .u8 (y.toNat:Int)]
        have fn:Fr noB wr (wr.alloc (.cells #[.int .u8 (y.toNat:Int)] 5)):=(Fr.refl noB wr).alloc _
        have hox:=Lib.hid (own_new0 HO.out fn)
        have sz:=(HF2.out.step0 fn).size
        have FX:=Lib.hid (HF2.out.step0 fn)
        clear fn hy hv
        go_wp2_with (at_builtin;refine wpList_appC' etY wl _ rfl _ _ rfl A1 l.length c1 l rfl rfl hox.out (some ⟨wr.heap.size,0,none⟩) 1 1 [y] rfl hst rfl (by have:=HLL.out;simp;omega) sz ?_;intro A8 c8 w8 hc8 hmx8 ho8 hg8 hA8;obtain ⟨l8,hl8⟩:∃ t,t = l ++ [y]:=⟨_,rfl⟩;rw [← hl8] at ho8 ⊢;have HL8:=Lib.hid hl8;clear hl8 hc8 hmx8 hA8)
        have F8:=Fr.own' FX.out hox.out hg8
        go_roundg (8 - (0 + 1))
        case measure=>omega
        case rel=>exact ⟨0 + 1,7 - 1,A8,c8,l8,rfl,rfl,rfl,by rw [HL8.out,HLE.out,HY.out,List.append_assoc];rfl,rfl,by omega,ho8,F8⟩
       ·clear hlt hk
        obtain rfl:v = 6:=by omega
        obtain ⟨y,hy⟩:∃ y,y = UInt8.ofNat (N / 281474976710656):=⟨_,rfl⟩
        have hyv:(N:Int) / 281474976710656 % 256 = (y.toNat:Int):=by have:=HNB.out;rw [hy,UInt8.toNat_ofNat'];omega
        have HY:=Lib.hid hy
        have hst:Sl (wr.alloc (.cells #[.int .u8 (y.toNat:Int)] 5)) (some ⟨wr.heap.size,0,none⟩) (codY.row [y]):=Sl.new wr 5 [.int .u8 (y.toNat:Int)]
        have fn:Fr noB wr (wr.alloc (.cells #[.int .u8 (y.toNat:Int)] 5)):=(Fr.refl noB wr).alloc _
        have hox:=Lib.hid (own_new0 HO.out fn)
        have sz:=(HF2.out.step0 fn).size
        have FX:=Lib.hid (HF2.out.step0 fn)
        clear fn hy hv
        go_wp2_with (at_builtin;refine wpList_appC' etY wl _ rfl _ _ rfl A1 l.length c1 l rfl rfl hox.out (some ⟨wr.heap.size,0,none⟩) 1 1 [y] rfl hst rfl (by have:=HLL.out;simp;omega) sz ?_;intro A8 c8 w8 hc8 hmx8 ho8 hg8 hA8;obtain ⟨l8,hl8⟩:∃ t,t = l ++ [y]:=⟨_,rfl⟩;rw [← hl8] at ho8 ⊢;have HL8:=Lib.hid hl8;clear hl8 hc8 hmx8 hA8)
        have F8:=Fr.own' FX.out hox.out hg8
        go_roundg (8 - (1 + 1))
        case measure=>omega
        case rel=>exact ⟨1 + 1,6 - 1,A8,c8,l8,rfl,rfl,rfl,by rw [HL8.out,HLE.out,HY.out,List.append_assoc];rfl,rfl,by omega,ho8,F8⟩
       ·clear hlt hk
        obtain rfl:v = 5:=by omega
        obtain ⟨y,hy⟩:∃ y,y = UInt8.ofNat (N / 1099511627776):=⟨_,rfl⟩
        have hyv:(N:Int) / 1099511627776 % 256 = (y.toNat:Int):=by have:=HNB.out;rw [hy,UInt8.toNat_ofNat'];omega
        have HY:=Lib.hid hy
        have hst:Sl (wr.alloc (.cells #[.int .u8 (y.toNat:Int)] 5)) (some ⟨wr.heap.size,0,none⟩) (codY.row [y]):=Sl.new wr 5 [.int .u8 (y.toNat:Int)]
        have fn:Fr noB wr (wr.alloc (.cells #[.int .u8 (y.toNat:Int)] 5)):=(Fr.refl noB wr).alloc _
        have hox:=Lib.hid (own_new0 HO.out fn)
        have sz:=(HF2.out.step0 fn).size
        have FX:=Lib.hid (HF2.out.step0 fn)
        clear fn hy hv
        go_wp2_with (at_builtin;refine wpList_appC' etY wl _ rfl _ _ rfl A1 l.length c1 l rfl rfl hox.out (some ⟨wr.heap.size,0,none⟩) 1 1 [y] rfl hst rfl (by have:=HLL.out;simp;omega) sz ?_;intro A8 c8 w8 hc8 hmx8 ho8 hg8 hA8;obtain ⟨l8,hl8⟩:∃ t,t = l ++ [y]:=⟨_,rfl⟩;rw [← hl8] at ho8 ⊢;have HL8:=Lib.hid hl8;clear hl8 hc8 hmx8 hA8)
        have F8:=Fr.own' FX.out hox.out hg8
        go_roundg (8 - (2 + 1))
        case measure=>omega
        case rel=>exact ⟨2 + 1,5 - 1,A8,c8,l8,rfl,rfl,rfl,by rw [HL8.out,HLE.out,HY.out,List.append_assoc];rfl,rfl,by omega,ho8,F8⟩
       ·clear hlt hk
        obtain rfl:v = 4:=by omega
        obtain ⟨y,hy⟩:∃ y,y = UInt8.ofNat (N / 4294967296):=⟨_,rfl⟩
        have hyv:(N:Int) / 4294967296 % 256 = (y.toNat:Int):=by have:=HNB.out;rw [hy,UInt8.toNat_ofNat'];omega
        have HY:=Lib.hid hy
        have hst:Sl (wr.alloc (.cells #[.int .u8 (y.toNat:Int)] 5)) (some ⟨wr.heap.size,0,none⟩) (codY.row [y]):=Sl.new wr 5 [.int .u8 (y.toNat:Int)]
        have fn:Fr noB wr (wr.alloc (.cells #[.int .u8 (y.toNat:Int)] 5)):=(Fr.refl noB wr).alloc _
        have hox:=Lib.hid (own_new0 HO.out fn)
        have sz:=(HF2.out.step0 fn).size
        have FX:=Lib.hid (HF2.out.step0 fn)
        clear fn hy hv
        go_wp2_with (at_builtin;refine wpList_appC' etY wl _ rfl _ _ rfl A1 l.length c1 l rfl rfl hox.out (some ⟨wr.heap.size,0,none⟩) 1 1 [y] rfl hst rfl (by have:=HLL.out;simp;omega) sz ?_;intro A8 c8 w8 hc8 hmx8 ho8 hg8 hA8;obtain ⟨l8,hl8⟩:∃ t,t = l ++ [y]:=⟨_,rfl⟩;rw [← hl8] at ho8 ⊢;have HL8:=Lib.hid hl8;clear hl8 hc8 hmx8 hA8)
        have F8:=Fr.own' FX.out hox.out hg8
        go_roundg (8 - (3 + 1))
        case measure=>omega
        case rel=>exact ⟨3 + 1,4 - 1,A8,c8,l8,rfl,rfl,rfl,by rw [HL8.out,HLE.out,HY.out,List.append_assoc];rfl,rfl,by omega,ho8,F8⟩
       ·clear hlt hk
        obtain rfl:v = 3:=by omega
        obtain ⟨y,hy⟩:∃ y,y = UInt8.ofNat (N / 16777216):=⟨_,rfl⟩
        have hyv:(N:Int) / 16777216 % 256 = (y.toNat:Int):=by have:=HNB.out;rw [hy,UInt8.toNat_ofNat'];omega
        have HY:=Lib.hid hy
        have hst:Sl (wr.alloc (.cells #[.int .u8 (y.toNat:Int)] 5)) (some ⟨wr.heap.size,0,none⟩) (codY.row [y]):=Sl.new wr 5 [.int .u8 (y.toNat:Int)]
        have fn:Fr noB wr (wr.alloc (.cells #[.int .u8 (y.toNat:Int)] 5)):=(Fr.refl noB wr).alloc _
        have hox:=Lib.hid (own_new0 HO.out fn)
        have sz:=(HF2.out.step0 fn).size
        have FX:=Lib.hid (HF2.out.step0 fn)
        clear fn hy hv
        go_wp2_with (at_builtin;refine wpList_appC' etY wl _ rfl _ _ rfl A1 l.length c1 l rfl rfl hox.out (some ⟨wr.heap.size,0,none⟩) 1 1 [y] rfl hst rfl (by have:=HLL.out;simp;omega) sz ?_;intro A8 c8 w8 hc8 hmx8 ho8 hg8 hA8;obtain ⟨l8,hl8⟩:∃ t,t = l ++ [y]:=⟨_,rfl⟩;rw [← hl8] at ho8 ⊢;have HL8:=Lib.hid hl8;clear hl8 hc8 hmx8 hA8)
        have F8:=Fr.own' FX.out hox.out hg8
        go_roundg (8 - (4 + 1))
        case measure=>omega
        case rel=>exact ⟨4 + 1,3 - 1,A8,c8,l8,rfl,rfl,rfl,by rw [HL8.out,HLE.out,HY.out,List.append_assoc];rfl,rfl,by omega,ho8,F8⟩
       ·clear hlt hk
        obtain rfl:v = 2:=by omega
        obtain ⟨y,hy⟩:∃ y,y = UInt8.ofNat (N / 65536):=⟨_,rfl⟩
        have hyv:(N:Int) / 65536 % 256 = (y.toNat:Int):=by have:=HNB.out;rw [hy,UInt8.toNat_ofNat'];omega
        have HY:=Lib.hid hy
        have hst:Sl (wr.alloc (.cells #[.int .u8 (y.toNat:Int)] 5)) (some ⟨wr.heap.size,0,none⟩) (codY.row [y]):=Sl.new wr 5 [.int .u8 (y.toNat:Int)]
        have fn:Fr noB wr (wr.alloc (.cells #[.int .u8 (y.toNat:Int)] 5)):=(Fr.refl noB wr).alloc _
        have hox:=Lib.hid (own_new0 HO.out fn)
        have sz:=(HF2.out.step0 fn).size
        have FX:=Lib.hid (HF2.out.step0 fn)
        clear fn hy hv
        go_wp2_with (at_builtin;refine wpList_appC' etY wl _ rfl _ _ rfl A1 l.length c1 l rfl rfl hox.out (some ⟨wr.heap.size,0,none⟩) 1 1 [y] rfl hst rfl (by have:=HLL.out;simp;omega) sz ?_;intro A8 c8 w8 hc8 hmx8 ho8 hg8 hA8;obtain ⟨l8,hl8⟩:∃ t,t = l ++ [y]:=⟨_,rfl⟩;rw [← hl8] at ho8 ⊢;have HL8:=Lib.hid hl8;clear hl8 hc8 hmx8 hA8)
        have F8:=Fr.own' FX.out hox.out hg8
        go_roundg (8 - (5 + 1))
        case measure=>omega
        case rel=>exact ⟨5 + 1,2 - 1,A8,c8,l8,rfl,rfl,rfl,by rw [HL8.out,HLE.out,HY.out,List.append_assoc];rfl,rfl,by omega,ho8,F8⟩
       ·clear hlt hk
        obtain rfl:v = 1:=by omega
        obtain ⟨y,hy⟩:∃ y,y = UInt8.ofNat (N / 256):=⟨_,rfl⟩
        have hyv:(N:Int) / 256 % 256 = (y.toNat:Int):=by have:=HNB.out;rw [hy,UInt8.toNat_ofNat'];omega
        have HY:=Lib.hid hy
        have hst:Sl (wr.alloc (.cells #[.int .u8 (y.toNat:Int)] 5)) (some ⟨wr.heap.size,0,none⟩) (codY.row [y]):=Sl.new wr 5 [.int .u8 (y.toNat:Int)]
        have fn:Fr noB wr (wr.alloc (.cells #[.int .u8 (y.toNat:Int)] 5)):=(Fr.refl noB wr).alloc _
        have hox:=Lib.hid (own_new0 HO.out fn)
        have sz:=(HF2.out.step0 fn).size
        have FX:=Lib.hid (HF2.out.step0 fn)
        clear fn hy hv
        go_wp2_with (at_builtin;refine wpList_appC' etY wl _ rfl _ _ rfl A1 l.length c1 l rfl rfl hox.out (some ⟨wr.heap.size,0,none⟩) 1 1 [y] rfl hst rfl (by have:=HLL.out;simp;omega) sz ?_;intro A8 c8 w8 hc8 hmx8 ho8 hg8 hA8;obtain ⟨l8,hl8⟩:∃ t,t = l ++ [y]:=⟨_,rfl⟩;rw [← hl8] at ho8 ⊢;have HL8:=Lib.hid hl8;clear hl8 hc8 hmx8 hA8)
        have F8:=Fr.own' FX.out hox.out hg8
        go_roundg (8 - (6 + 1))
        case measure=>omega
        case rel=>exact ⟨6 + 1,1 - 1,A8,c8,l8,rfl,rfl,rfl,by rw [HL8.out,HLE.out,HY.out,List.append_assoc];rfl,rfl,by omega,ho8,F8⟩
       ·clear hlt hk
        obtain rfl:v = 0:=by omega
        obtain ⟨y,hy⟩:∃ y,y = UInt8.ofNat (N / 1):=⟨_,rfl⟩
        have hyv:(N:Int) % 256 = (y.toNat:Int):=by have:=HNB.out;rw [hy,UInt8.toNat_ofNat'];omega
        have HY:=Lib.hid hy
        have hst:Sl (wr.alloc (.cells #[.int .u8 (y.toNat:Int)] 5)) (some ⟨wr.heap.size,0,none⟩) (codY.row [y]):=Sl.new wr 5 [.int .u8 (y.toNat:Int)]
        have fn:Fr noB wr (wr.alloc (.cells #[.int .u8 (y.toNat:Int)] 5)):=(Fr.refl noB wr).alloc _
        have hox:=Lib.hid (own_new0 HO.out fn)
        have sz:=(HF2.out.step0 fn).size
        have FX:=Lib.hid (HF2.out.step0 fn)
        clear fn hy hv
        go_wp2_with (at_builtin;refine wpList_appC' etY wl _ rfl _ _ rfl A1 l.length c1 l rfl rfl hox.out (some ⟨wr.heap.size,0,none⟩) 1 1 [y] rfl hst rfl (by have:=HLL.out;simp;omega) sz ?_;intro A8 c8 w8 hc8 hmx8 ho8 hg8 hA8;obtain ⟨l8,hl8⟩:∃ t,t = l ++ [y]:=⟨_,rfl⟩;rw [← hl8] at ho8 ⊢;have HL8:=Lib.hid hl8;clear hl8 hc8 hmx8 hA8)
        have F8:=Fr.own' FX.out hox.out hg8
        go_roundg (8 - (7 + 1))
        case measure=>omega
        case rel=>exact ⟨7 + 1,0 - 1,A8,c8,l8,rfl,rfl,rfl,by rw [HL8.out,HLE.out,HY.out,List.append_assoc];rfl,rfl,by omega,ho8,F8⟩
      ·obtain rfl:k = 8:=by omega
       have i1:¬ (0:Int) ≤ v:=by omega
       have HT:=Lib.hid (show l = padT (b.drop (64 * j)) (b.length * 8) by rw [HLE.out,HL00.out,HLP.out,HNN.out,HRR.out];rfl)
       clear hlt hk x1 x2 x3 hv
       go_upto_region 13 with fail
       clear i1
       obtain ⟨wt,e⟩:∃ wt,wt = wr:=⟨_,rfl⟩
       subst e
       have HOT:=Lib.hid (Off.ownS HO.out HSl.out.1)
       have HTL:=Lib.hid (show Sl wt A1 (bv l) by rw [← row_Y];exact Sl.own HO.out)
       have HT0:=Lib.hid (padT_len (b.drop (64 * j)) (b.length * 8))
       rw [← HT.out] at HT0
       have H0:=Lib.hid (show ∃ (k:Nat) (A':Option Addr) (c':Nat) (t:List UInt8),Value.slice A1 l.length c1 = .slice A' t.length c' ∧ t = l.drop (64 * k) ∧ 64 * k ≤ l.length ∧ t.length ≤ c' ∧ Sl wt A' (bv t) ∧ Off A' (fun b=>¬ oneB S b) ∧ l.length - 0 = l.length - 64 * k ∧ Blk wt S 69 (codU.row (hsJ b (j + k))) ∧ Blk wt K 103 (codU.row rdsH) ∧ bxI wt R = some zID ∧ Fr (oneB S) wt wt from ⟨0,A1,c1,l,rfl,rfl,by omega,own_cap HO.out,HTL.out,HOT.out,rfl,HBS.out.fr HF2.out (by simp [noB]),HBK.out.fr HF2.out (by simp [noB]),bxI_fr HBR.out HF2.out (by simp [noB]),Fr.refl _ _⟩)
       clear HTL HOT HO
       go_wp2_with fail
       go_loopg [6] (l.length - 0) (fun gk tv wx=>∃ (k:Nat) (A':Option Addr) (c':Nat) (t:List UInt8),tv = .slice A' t.length c' ∧ t = l.drop (64 * k) ∧ 64 * k ≤ l.length ∧ t.length ≤ c' ∧ Sl wt A' (bv t) ∧ Off A' (fun b=>¬ oneB S b) ∧ gk = l.length - 64 * k ∧ Blk wx S 69 (codU.row (hsJ b (j + k))) ∧ Blk wx K 103 (codU.row rdsH) ∧ bxI wx R = some zID ∧ Fr (oneB S) wt wx)
       case atStart=>exact H0.out
       case round =>
        clear H0
        obtain ⟨k,A',c',t,rfl,ht,hk,htc,hst,hof,rfl,hbs,hbk,hbr,hf⟩:=hrel
        have HTT:=Lib.hid ht
        have HTC:=Lib.hid htc
        have HST:=Lib.hid hst
        have HOF:=Lib.hid hof
        have HBS3:=Lib.hid hbs
        have HBK3:=Lib.hid hbk
        have HBR3:=Lib.hid hbr
        have HF3:=Lib.hid hf
        have htl:t.length = l.length - 64 * k:=by rw [ht,List.length_drop]
        have HTLN:=Lib.hid htl
        have HTB:=Lib.hid (show t.length ≤ 1000000000100 by have:=HLL.out;omega)
        clear ht htc hst hof hbs hbk hbr hf
        by_cases hlt:0 < t.length
        ·have i1:(0:Int) < (t.length:Int):=by omega
         have HLT3:=Lib.hid (show 64 ≤ t.length by have:=HT0.out;omega)
         have i2:(64:Int) ≤ (t.length:Int):=by have:=HLT3.out;omega
         clear hlt htl hk
         go_upto_region 14 with (go_at_call 38;refine (take_sh _ S K A' t.length c' t (hsJ b (j + k)) rfl HLT3.out HTB.out (HST.out.fr HF3.out HOF.out) HBS3.out (hsJ_len b _) (hsJ_lt b _) HBK3.out (by have:=HKS.out;omega)).mono ?_;rintro e w8 ⟨rfl,hbs8,hf8⟩;have HBS8:=Lib.hid hbs8;have HF8:=Lib.hid hf8;clear hbs8 hf8)
         go_wp2_with fail
         obtain ⟨t2,ht2⟩:∃ t2,t2 = t.drop 64:=⟨_,rfl⟩
         have hl2:t.length - 64 = t2.length:=by rw [ht2,List.length_drop]
         simp only [hl2]
         go_roundg (l.length - 64 * (k + 1))
         case measure=>have:=HLT3.out;have:=HTLN.out;omega
         case rel=>exact ⟨k + 1,_,_,t2,rfl,by rw [ht2,HTT.out,List.drop_drop];congr 1,by have:=HLT3.out;have:=HTLN.out;omega,by have:=HTC.out;omega,by rw [ht2];exact HST.out.cutB HTC.out,HOF.out.cut,rfl,by
          rw [← Nat.add_assoc,hsJ_tail b HQ.out k,← HT.out,← HTT.out]
          exact HBS8.out,HBK3.out.fr HF8.out (fun e=>by have e:K = S:=e;have:=HKS.out;omega),bxI_fr HBR3.out HF8.out (fun e=>by have e:R = S:=e;have:=HKS.out;omega),HF3.out.trans HF8.out (fun x hx e=>e)⟩
        ·have i1:¬ (0:Int) < (t.length:Int):=by omega
         have HE:=Lib.hid (show hsJ b (j + k) = sumH b from hsJ_end b HQ.out (by rw [← HT.out];omega))
         rw [HE.out] at HBS3
         clear hlt htl hk
         obtain ⟨hh,hhh⟩:∃ hh,hh = sumH b:=⟨_,rfl⟩
         have HH:=Lib.hid hhh
         rw [← hhh] at HBS3
         have hh8:hh.length = 8:=by rw [hhh,← HE.out];exact hsJ_len b _
         have hh32:Lt32 hh:=by rw [hhh,← HE.out];exact hsJ_lt b _
         clear hhh
         obtain ⟨h0,h1,h2,h3,h4,h5,h6,h7,rfl⟩:=len8 hh8
         have HL:=Lib.hid (s8H_lt hh8 hh32)
         have f1:Fr noB wr (wr.alloc (ido zID)):=(Fr.refl noB wr).alloc _
         have hsb:=HBS3.out.fr f1 (by simp [noB])
         have hbr:=bxI_fr HBR3.out f1 (by simp [noB])
         have hbp:Blk (wr.alloc (ido zID)) wr.heap.size 37 (bv zID.1):=by
          have:=Blk.new wr 37 (bv zID.1)
          simp only [ido,idA_eq]
          exact this
         obtain ⟨P,hP⟩:∃ P,P = wr.heap.size:=⟨_,rfl⟩
         rw [← hP] at hbp
         have HP:=Lib.hid (show R < P ∧ w.heap.size ≤ P by have:=bxI_lt HBR3.out;have:=HF3.out.size;have:=HF2.out.size;have:=HF.out.size;omega)
         have HF4:=Lib.hid (show Fr noB w (wr.alloc (ido zID)) from (((HF.out.step0 HF2.out).trans HF3.out (fun x hx e=>by have e:x = S:=e;have:=HKS.out;omega)).step0 f1))
         have H0:=Lib.hid (show ∃ i:Nat,Value.int .i64 0 = .int .i64 (i:Int) ∧ 8 = 8 - i ∧ i ≤ 8 ∧ Blk (wr.alloc (ido zID)) P 37 (bv (rowB (outH [h0,h1,h2,h3,h4,h5,h6,h7] (4 * i)) (32 - 4 * i))) ∧ bxI (wr.alloc (ido zID)) R = some zID ∧ Fr noB w (wr.alloc (ido zID)) from ⟨0,rfl,rfl,by omega,hbp,hbr,HF4.out⟩)
         clear hbr hbp f1 HF4
         go_upto_region 17 with fail
         rw [← hP]
         clear hP
         generalize wr.alloc (ido zID) = wz at hsb H0 ⊢
         have c0:wz.cell? ⟨S,0,none⟩ = some (.int .u32 (h0:Int)):=hsb.cell 0
         have c1:wz.cell? ⟨S,1,none⟩ = some (.int .u32 (h1:Int)):=hsb.cell 1
         have c2:wz.cell? ⟨S,2,none⟩ = some (.int .u32 (h2:Int)):=hsb.cell 2
         have c3:wz.cell? ⟨S,3,none⟩ = some (.int .u32 (h3:Int)):=hsb.cell 3
         have c4:wz.cell? ⟨S,4,none⟩ = some (.int .u32 (h4:Int)):=hsb.cell 4
         have c5:wz.cell? ⟨S,5,none⟩ = some (.int .u32 (h5:Int)):=hsb.cell 5
         have c6:wz.cell? ⟨S,6,none⟩ = some (.int .u32 (h6:Int)):=hsb.cell 6
         have c7:wz.cell? ⟨S,7,none⟩ = some (.int .u32 (h7:Int)):=hsb.cell 7
         clear hsb hh8 hh32 i1
         go_wp2_with fail
         go_loopg [57] 8 (fun gk iv wx=>∃ i:Nat,iv = .int .i64 (i:Int) ∧ gk = 8 - i ∧ i ≤ 8 ∧ Blk wx P 37 (bv (rowB (outH [h0,h1,h2,h3,h4,h5,h6,h7] (4 * i)) (32 - 4 * i))) ∧ bxI wx R = some zID ∧ Fr noB w wx)
         case atStart=>exact H0.out
         case round =>
          clear H0 c0 c1 c2 c3 c4 c5 c6 c7
          obtain ⟨i,rfl,rfl,hi,hbp,hbr,hf⟩:=hrel
          have HBR4:=Lib.hid hbr
          have HF4:=Lib.hid hf
          clear hbr hf
          by_cases hlt:i < 8
          ·rcases (by omega:i = 0 ∨ i = 1 ∨ i = 2 ∨ i = 3 ∨ i = 4 ∨ i = 5 ∨ i = 6 ∨ i = 7) with rfl | rfl | rfl | rfl | rfl | rfl | rfl | rfl
           ·clear hlt hi
            have hx:h0 < 4294967296:=HL.out.a
            obtain ⟨y0,hy0⟩:∃ y,y = btH [h0,h1,h2,h3,h4,h5,h6,h7] 0:=⟨_,rfl⟩
            obtain ⟨y1,hy1⟩:∃ y,y = btH [h0,h1,h2,h3,h4,h5,h6,h7] 1:=⟨_,rfl⟩
            obtain ⟨y2,hy2⟩:∃ y,y = btH [h0,h1,h2,h3,h4,h5,h6,h7] 2:=⟨_,rfl⟩
            obtain ⟨y3,hy3⟩:∃ y,y = btH [h0,h1,h2,h3,h4,h5,h6,h7] 3:=⟨_,rfl⟩
            have HY:=Lib.hid (And.intro hy0 (And.intro hy1 (And.intro hy2 hy3)))
            have e0:(h0:Int) / 16777216 % 256 = (y0.toNat:Int):=by
             have:y0 = UInt8.ofNat (h0 / 16777216):=hy0
             rw [this,UInt8.toNat_ofNat'];omega
            have e1:(h0:Int) / 65536 % 256 = (y1.toNat:Int):=by
             have:y1 = UInt8.ofNat (h0 / 65536):=hy1
             rw [this,UInt8.toNat_ofNat'];omega
            have e2:(h0:Int) / 256 % 256 = (y2.toNat:Int):=by
             have:y2 = UInt8.ofNat (h0 / 256):=hy2
             rw [this,UInt8.toNat_ofNat'];omega
            have e3:(h0:Int) % 256 = (y3.toNat:Int):=by
             have:y3 = UInt8.ofNat (h0 / 1):=hy3
             rw [this,UInt8.toNat_ofNat'];omega
            clear hy0 hy1 hy2 hy3 hx
            have c0:wr.cell? ⟨P,0,none⟩ = some (.int .u8 0):=rowB_get hbp 0 (by rw [outH_len];omega) (by rw [outH_len];omega)
            have c1:wr.cell? ⟨P,1,none⟩ = some (.int .u8 0):=rowB_get hbp 1 (by rw [outH_len];omega) (by rw [outH_len];omega)
            have c2:wr.cell? ⟨P,2,none⟩ = some (.int .u8 0):=rowB_get hbp 2 (by rw [outH_len];omega) (by rw [outH_len];omega)
            have c3:wr.cell? ⟨P,3,none⟩ = some (.int .u8 0):=rowB_get hbp 3 (by rw [outH_len];omega) (by rw [outH_len];omega)
            have f0:=hbp.frozen 0
            have f1:=hbp.frozen 1
            have f2:=hbp.frozen 2
            have f3:=hbp.frozen 3
            have HBP5:=Lib.hid ((((hbp.set 0 (.int .u8 (y0.toNat:Int))).set 1 (.int .u8 (y1.toNat:Int))).set 2 (.int .u8 (y2.toNat:Int))).set 3 (.int .u8 (y3.toNat:Int)))
            have HF5:=Lib.hid ((((HF4.out.setCell (p:=⟨P,0,none⟩) (fun hh=>by have:=HP.out;simp only at hh;omega) (.int .u8 (y0.toNat:Int))).setCell (p:=⟨P,1,none⟩) (fun hh=>by have:=HP.out;simp only at hh;omega) (.int .u8 (y1.toNat:Int))).setCell (p:=⟨P,2,none⟩) (fun hh=>by have:=HP.out;simp only at hh;omega) (.int .u8 (y2.toNat:Int))).setCell (p:=⟨P,3,none⟩) (fun hh=>by have:=HP.out;simp only at hh;omega) (.int .u8 (y3.toNat:Int)))
            have fp:Fr (oneB P) wr ((((wr.setCell ⟨P,0,none⟩ (.int .u8 (y0.toNat:Int))).setCell ⟨P,1,none⟩ (.int .u8 (y1.toNat:Int))).setCell ⟨P,2,none⟩ (.int .u8 (y2.toNat:Int))).setCell ⟨P,3,none⟩ (.int .u8 (y3.toNat:Int))):=((((Fr.refl (oneB P) wr).setCell (p:=⟨P,0,none⟩) (fun _=>rfl) _).setCell (p:=⟨P,1,none⟩) (fun _=>rfl) _).setCell (p:=⟨P,2,none⟩) (fun _=>rfl) _).setCell (p:=⟨P,3,none⟩) (fun _=>rfl) _
            have HBR5:=Lib.hid (bxI_fr HBR4.out fp (fun e=>by have e:R = P:=e;have:=HP.out;omega))
            clear fp hbp
            go_wp2_with fail
            go_roundg (8 - (0 + 1))
            case measure=>omega
            case rel=>exact ⟨0 + 1,rfl,rfl,by omega,by
             have hz:=HBP5.out
             rw [bv_set,bv_set,bv_set,bv_set] at hz
             rw [rowB_four (outH [h0,h1,h2,h3,h4,h5,h6,h7] (4 * 0)) 28 0 1 2 3 (by rw [outH_len]) rfl rfl rfl] at hz
             rw [HY.out.1,HY.out.2.1,HY.out.2.2.1,HY.out.2.2.2] at hz
             rw [HY.out.1,HY.out.2.1,HY.out.2.2.1,HY.out.2.2.2]
             exact hz,HBR5.out,HF5.out⟩
           ·clear hlt hi
            have hx:h1 < 4294967296:=HL.out.b
            obtain ⟨y0,hy0⟩:∃ y,y = btH [h0,h1,h2,h3,h4,h5,h6,h7] 4:=⟨_,rfl⟩
            obtain ⟨y1,hy1⟩:∃ y,y = btH [h0,h1,h2,h3,h4,h5,h6,h7] 5:=⟨_,rfl⟩
            obtain ⟨y2,hy2⟩:∃ y,y = btH [h0,h1,h2,h3,h4,h5,h6,h7] 6:=⟨_,rfl⟩
            obtain ⟨y3,hy3⟩:∃ y,y = btH [h0,h1,h2,h3,h4,h5,h6,h7] 7:=⟨_,rfl⟩
            have HY:=Lib.hid (And.intro hy0 (And.intro hy1 (And.intro hy2 hy3)))
            have e0:(h1:Int) / 16777216 % 256 = (y0.toNat:Int):=by
             have:y0 = UInt8.ofNat (h1 / 16777216):=hy0
             rw [this,UInt8.toNat_ofNat'];omega
            have e1:(h1:Int) / 65536 % 256 = (y1.toNat:Int):=by
             have:y1 = UInt8.ofNat (h1 / 65536):=hy1
             rw [this,UInt8.toNat_ofNat'];omega
            have e2:(h1:Int) / 256 % 256 = (y2.toNat:Int):=by
             have:y2 = UInt8.ofNat (h1 / 256):=hy2
             rw [this,UInt8.toNat_ofNat'];omega
            have e3:(h1:Int) % 256 = (y3.toNat:Int):=by
             have:y3 = UInt8.ofNat (h1 / 1):=hy3
             rw [this,UInt8.toNat_ofNat'];omega
            clear hy0 hy1 hy2 hy3 hx
            have c0:wr.cell? ⟨P,4,none⟩ = some (.int .u8 0):=rowB_get hbp 4 (by rw [outH_len];omega) (by rw [outH_len];omega)
            have c1:wr.cell? ⟨P,5,none⟩ = some (.int .u8 0):=rowB_get hbp 5 (by rw [outH_len];omega) (by rw [outH_len];omega)
            have c2:wr.cell? ⟨P,6,none⟩ = some (.int .u8 0):=rowB_get hbp 6 (by rw [outH_len];omega) (by rw [outH_len];omega)
            have c3:wr.cell? ⟨P,7,none⟩ = some (.int .u8 0):=rowB_get hbp 7 (by rw [outH_len];omega) (by rw [outH_len];omega)
            have f0:=hbp.frozen 4
            have f1:=hbp.frozen 5
            have f2:=hbp.frozen 6
            have f3:=hbp.frozen 7
            have HBP5:=Lib.hid ((((hbp.set 4 (.int .u8 (y0.toNat:Int))).set 5 (.int .u8 (y1.toNat:Int))).set 6 (.int .u8 (y2.toNat:Int))).set 7 (.int .u8 (y3.toNat:Int)))
            have HF5:=Lib.hid ((((HF4.out.setCell (p:=⟨P,4,none⟩) (fun hh=>by have:=HP.out;simp only at hh;omega) (.int .u8 (y0.toNat:Int))).setCell (p:=⟨P,5,none⟩) (fun hh=>by have:=HP.out;simp only at hh;omega) (.int .u8 (y1.toNat:Int))).setCell (p:=⟨P,6,none⟩) (fun hh=>by have:=HP.out;simp only at hh;omega) (.int .u8 (y2.toNat:Int))).setCell (p:=⟨P,7,none⟩) (fun hh=>by have:=HP.out;simp only at hh;omega) (.int .u8 (y3.toNat:Int)))
            have fp:Fr (oneB P) wr ((((wr.setCell ⟨P,4,none⟩ (.int .u8 (y0.toNat:Int))).setCell ⟨P,5,none⟩ (.int .u8 (y1.toNat:Int))).setCell ⟨P,6,none⟩ (.int .u8 (y2.toNat:Int))).setCell ⟨P,7,none⟩ (.int .u8 (y3.toNat:Int))):=((((Fr.refl (oneB P) wr).setCell (p:=⟨P,4,none⟩) (fun _=>rfl) _).setCell (p:=⟨P,5,none⟩) (fun _=>rfl) _).setCell (p:=⟨P,6,none⟩) (fun _=>rfl) _).setCell (p:=⟨P,7,none⟩) (fun _=>rfl) _
            have HBR5:=Lib.hid (bxI_fr HBR4.out fp (fun e=>by have e:R = P:=e;have:=HP.out;omega))
            clear fp hbp
            go_wp2_with fail
            go_roundg (8 - (1 + 1))
            case measure=>omega
            case rel=>exact ⟨1 + 1,rfl,rfl,by omega,by
             have hz:=HBP5.out
             rw [bv_set,bv_set,bv_set,bv_set] at hz
             rw [rowB_four (outH [h0,h1,h2,h3,h4,h5,h6,h7] (4 * 1)) 24 4 5 6 7 (by rw [outH_len]) rfl rfl rfl] at hz
             rw [HY.out.1,HY.out.2.1,HY.out.2.2.1,HY.out.2.2.2] at hz
             rw [HY.out.1,HY.out.2.1,HY.out.2.2.1,HY.out.2.2.2]
             exact hz,HBR5.out,HF5.out⟩
           ·clear hlt hi
            have hx:h2 < 4294967296:=HL.out.c
            obtain ⟨y0,hy0⟩:∃ y,y = btH [h0,h1,h2,h3,h4,h5,h6,h7] 8:=⟨_,rfl⟩
            obtain ⟨y1,hy1⟩:∃ y,y = btH [h0,h1,h2,h3,h4,h5,h6,h7] 9:=⟨_,rfl⟩
            obtain ⟨y2,hy2⟩:∃ y,y = btH [h0,h1,h2,h3,h4,h5,h6,h7] 10:=⟨_,rfl⟩
            obtain ⟨y3,hy3⟩:∃ y,y = btH [h0,h1,h2,h3,h4,h5,h6,h7] 11:=⟨_,rfl⟩
            have HY:=Lib.hid (And.intro hy0 (And.intro hy1 (And.intro hy2 hy3)))
            have e0:(h2:Int) / 16777216 % 256 = (y0.toNat:Int):=by
             have:y0 = UInt8.ofNat (h2 / 16777216):=hy0
             rw [this,UInt8.toNat_ofNat'];omega
            have e1:(h2:Int) / 65536 % 256 = (y1.toNat:Int):=by
             have:y1 = UInt8.ofNat (h2 / 65536):=hy1
             rw [this,UInt8.toNat_ofNat'];omega
            have e2:(h2:Int) / 256 % 256 = (y2.toNat:Int):=by
             have:y2 = UInt8.ofNat (h2 / 256):=hy2
             rw [this,UInt8.toNat_ofNat'];omega
            have e3:(h2:Int) % 256 = (y3.toNat:Int):=by
             have:y3 = UInt8.ofNat (h2 / 1):=hy3
             rw [this,UInt8.toNat_ofNat'];omega
            clear hy0 hy1 hy2 hy3 hx
            have c0:wr.cell? ⟨P,8,none⟩ = some (.int .u8 0):=rowB_get hbp 8 (by rw [outH_len];omega) (by rw [outH_len];omega)
            have c1:wr.cell? ⟨P,9,none⟩ = some (.int .u8 0):=rowB_get hbp 9 (by rw [outH_len];omega) (by rw [outH_len];omega)
            have c2:wr.cell? ⟨P,10,none⟩ = some (.int .u8 0):=rowB_get hbp 10 (by rw [outH_len];omega) (by rw [outH_len];omega)
            have c3:wr.cell? ⟨P,11,none⟩ = some (.int .u8 0):=rowB_get hbp 11 (by rw [outH_len];omega) (by rw [outH_len];omega)
            have f0:=hbp.frozen 8
            have f1:=hbp.frozen 9
            have f2:=hbp.frozen 10
            have f3:=hbp.frozen 11
            have HBP5:=Lib.hid ((((hbp.set 8 (.int .u8 (y0.toNat:Int))).set 9 (.int .u8 (y1.toNat:Int))).set 10 (.int .u8 (y2.toNat:Int))).set 11 (.int .u8 (y3.toNat:Int)))
            have HF5:=Lib.hid ((((HF4.out.setCell (p:=⟨P,8,none⟩) (fun hh=>by have:=HP.out;simp only at hh;omega) (.int .u8 (y0.toNat:Int))).setCell (p:=⟨P,9,none⟩) (fun hh=>by have:=HP.out;simp only at hh;omega) (.int .u8 (y1.toNat:Int))).setCell (p:=⟨P,10,none⟩) (fun hh=>by have:=HP.out;simp only at hh;omega) (.int .u8 (y2.toNat:Int))).setCell (p:=⟨P,11,none⟩) (fun hh=>by have:=HP.out;simp only at hh;omega) (.int .u8 (y3.toNat:Int)))
            have fp:Fr (oneB P) wr ((((wr.setCell ⟨P,8,none⟩ (.int .u8 (y0.toNat:Int))).setCell ⟨P,9,none⟩ (.int .u8 (y1.toNat:Int))).setCell ⟨P,10,none⟩ (.int .u8 (y2.toNat:Int))).setCell ⟨P,11,none⟩ (.int .u8 (y3.toNat:Int))):=((((Fr.refl (oneB P) wr).setCell (p:=⟨P,8,none⟩) (fun _=>rfl) _).setCell (p:=⟨P,9,none⟩) (fun _=>rfl) _).setCell (p:=⟨P,10,none⟩) (fun _=>rfl) _).setCell (p:=⟨P,11,none⟩) (fun _=>rfl) _
            have HBR5:=Lib.hid (bxI_fr HBR4.out fp (fun e=>by have e:R = P:=e;have:=HP.out;omega))
            clear fp hbp
            go_wp2_with fail
            go_roundg (8 - (2 + 1))
            case measure=>omega
            case rel=>exact ⟨2 + 1,rfl,rfl,by omega,by
             have hz:=HBP5.out
             rw [bv_set,bv_set,bv_set,bv_set] at hz
             rw [rowB_four (outH [h0,h1,h2,h3,h4,h5,h6,h7] (4 * 2)) 20 8 9 10 11 (by rw [outH_len]) rfl rfl rfl] at hz
             rw [HY.out.1,HY.out.2.1,HY.out.2.2.1,HY.out.2.2.2] at hz
             rw [HY.out.1,HY.out.2.1,HY.out.2.2.1,HY.out.2.2.2]
             exact hz,HBR5.out,HF5.out⟩
           ·clear hlt hi
            have hx:h3 < 4294967296:=HL.out.d
            obtain ⟨y0,hy0⟩:∃ y,y = btH [h0,h1,h2,h3,h4,h5,h6,h7] 12:=⟨_,rfl⟩
            obtain ⟨y1,hy1⟩:∃ y,y = btH [h0,h1,h2,h3,h4,h5,h6,h7] 13:=⟨_,rfl⟩
            obtain ⟨y2,hy2⟩:∃ y,y = btH [h0,h1,h2,h3,h4,h5,h6,h7] 14:=⟨_,rfl⟩
            obtain ⟨y3,hy3⟩:∃ y,y = btH [h0,h1,h2,h3,h4,h5,h6,h7] 15:=⟨_,rfl⟩
            have HY:=Lib.hid (And.intro hy0 (And.intro hy1 (And.intro hy2 hy3)))
            have e0:(h3:Int) / 16777216 % 256 = (y0.toNat:Int):=by
             have:y0 = UInt8.ofNat (h3 / 16777216):=hy0
             rw [this,UInt8.toNat_ofNat'];omega
            have e1:(h3:Int) / 65536 % 256 = (y1.toNat:Int):=by
             have:y1 = UInt8.ofNat (h3 / 65536):=hy1
             rw [this,UInt8.toNat_ofNat'];omega
            have e2:(h3:Int) / 256 % 256 = (y2.toNat:Int):=by
             have:y2 = UInt8.ofNat (h3 / 256):=hy2
             rw [this,UInt8.toNat_ofNat'];omega
            have e3:(h3:Int) % 256 = (y3.toNat:Int):=by
             have:y3 = UInt8.ofNat (h3 / 1):=hy3
             rw [this,UInt8.toNat_ofNat'];omega
            clear hy0 hy1 hy2 hy3 hx
            have c0:wr.cell? ⟨P,12,none⟩ = some (.int .u8 0):=rowB_get hbp 12 (by rw [outH_len];omega) (by rw [outH_len];omega)
            have c1:wr.cell? ⟨P,13,none⟩ = some (.int .u8 0):=rowB_get hbp 13 (by rw [outH_len];omega) (by rw [outH_len];omega)
            have c2:wr.cell? ⟨P,14,none⟩ = some (.int .u8 0):=rowB_get hbp 14 (by rw [outH_len];omega) (by rw [outH_len];omega)
            have c3:wr.cell? ⟨P,15,none⟩ = some (.int .u8 0):=rowB_get hbp 15 (by rw [outH_len];omega) (by rw [outH_len];omega)
            have f0:=hbp.frozen 12
            have f1:=hbp.frozen 13
            have f2:=hbp.frozen 14
            have f3:=hbp.frozen 15
            have HBP5:=Lib.hid ((((hbp.set 12 (.int .u8 (y0.toNat:Int))).set 13 (.int .u8 (y1.toNat:Int))).set 14 (.int .u8 (y2.toNat:Int))).set 15 (.int .u8 (y3.toNat:Int)))
            have HF5:=Lib.hid ((((HF4.out.setCell (p:=⟨P,12,none⟩) (fun hh=>by have:=HP.out;simp only at hh;omega) (.int .u8 (y0.toNat:Int))).setCell (p:=⟨P,13,none⟩) (fun hh=>by have:=HP.out;simp only at hh;omega) (.int .u8 (y1.toNat:Int))).setCell (p:=⟨P,14,none⟩) (fun hh=>by have:=HP.out;simp only at hh;omega) (.int .u8 (y2.toNat:Int))).setCell (p:=⟨P,15,none⟩) (fun hh=>by have:=HP.out;simp only at hh;omega) (.int .u8 (y3.toNat:Int)))
            have fp:Fr (oneB P) wr ((((wr.setCell ⟨P,12,none⟩ (.int .u8 (y0.toNat:Int))).setCell ⟨P,13,none⟩ (.int .u8 (y1.toNat:Int))).setCell ⟨P,14,none⟩ (.int .u8 (y2.toNat:Int))).setCell ⟨P,15,none⟩ (.int .u8 (y3.toNat:Int))):=((((Fr.refl (oneB P) wr).setCell (p:=⟨P,12,none⟩) (fun _=>rfl) _).setCell (p:=⟨P,13,none⟩) (fun _=>rfl) _).setCell (p:=⟨P,14,none⟩) (fun _=>rfl) _).setCell (p:=⟨P,15,none⟩) (fun _=>rfl) _
            have HBR5:=Lib.hid (bxI_fr HBR4.out fp (fun e=>by have e:R = P:=e;have:=HP.out;omega))
            clear fp hbp
            go_wp2_with fail
            go_roundg (8 - (3 + 1))
            case measure=>omega
            case rel=>exact ⟨3 + 1,rfl,rfl,by omega,by
             have hz:=HBP5.out
             rw [bv_set,bv_set,bv_set,bv_set] at hz
             rw [rowB_four (outH [h0,h1,h2,h3,h4,h5,h6,h7] (4 * 3)) 16 12 13 14 15 (by rw [outH_len]) rfl rfl rfl] at hz
             rw [HY.out.1,HY.out.2.1,HY.out.2.2.1,HY.out.2.2.2] at hz
             rw [HY.out.1,HY.out.2.1,HY.out.2.2.1,HY.out.2.2.2]
             exact hz,HBR5.out,HF5.out⟩
           ·clear hlt hi
            have hx:h4 < 4294967296:=HL.out.e
            obtain ⟨y0,hy0⟩:∃ y,y = btH [h0,h1,h2,h3,h4,h5,h6,h7] 16:=⟨_,rfl⟩
            obtain ⟨y1,hy1⟩:∃ y,y = btH [h0,h1,h2,h3,h4,h5,h6,h7] 17:=⟨_,rfl⟩
            obtain ⟨y2,hy2⟩:∃ y,y = btH [h0,h1,h2,h3,h4,h5,h6,h7] 18:=⟨_,rfl⟩
            obtain ⟨y3,hy3⟩:∃ y,y = btH [h0,h1,h2,h3,h4,h5,h6,h7] 19:=⟨_,rfl⟩
            have HY:=Lib.hid (And.intro hy0 (And.intro hy1 (And.intro hy2 hy3)))
            have e0:(h4:Int) / 16777216 % 256 = (y0.toNat:Int):=by
             have:y0 = UInt8.ofNat (h4 / 16777216):=hy0
             rw [this,UInt8.toNat_ofNat'];omega
            have e1:(h4:Int) / 65536 % 256 = (y1.toNat:Int):=by
             have:y1 = UInt8.ofNat (h4 / 65536):=hy1
             rw [this,UInt8.toNat_ofNat'];omega
            have e2:(h4:Int) / 256 % 256 = (y2.toNat:Int):=by
             have:y2 = UInt8.ofNat (h4 / 256):=hy2
             rw [this,UInt8.toNat_ofNat'];omega
            have e3:(h4:Int) % 256 = (y3.toNat:Int):=by
             have:y3 = UInt8.ofNat (h4 / 1):=hy3
             rw [this,UInt8.toNat_ofNat'];omega
            clear hy0 hy1 hy2 hy3 hx
            have c0:wr.cell? ⟨P,16,none⟩ = some (.int .u8 0):=rowB_get hbp 16 (by rw [outH_len];omega) (by rw [outH_len];omega)
            have c1:wr.cell? ⟨P,17,none⟩ = some (.int .u8 0):=rowB_get hbp 17 (by rw [outH_len];omega) (by rw [outH_len];omega)
            have c2:wr.cell? ⟨P,18,none⟩ = some (.int .u8 0):=rowB_get hbp 18 (by rw [outH_len];omega) (by rw [outH_len];omega)
            have c3:wr.cell? ⟨P,19,none⟩ = some (.int .u8 0):=rowB_get hbp 19 (by rw [outH_len];omega) (by rw [outH_len];omega)
            have f0:=hbp.frozen 16
            have f1:=hbp.frozen 17
            have f2:=hbp.frozen 18
            have f3:=hbp.frozen 19
            have HBP5:=Lib.hid ((((hbp.set 16 (.int .u8 (y0.toNat:Int))).set 17 (.int .u8 (y1.toNat:Int))).set 18 (.int .u8 (y2.toNat:Int))).set 19 (.int .u8 (y3.toNat:Int)))
            have HF5:=Lib.hid ((((HF4.out.setCell (p:=⟨P,16,none⟩) (fun hh=>by have:=HP.out;simp only at hh;omega) (.int .u8 (y0.toNat:Int))).setCell (p:=⟨P,17,none⟩) (fun hh=>by have:=HP.out;simp only at hh;omega) (.int .u8 (y1.toNat:Int))).setCell (p:=⟨P,18,none⟩) (fun hh=>by have:=HP.out;simp only at hh;omega) (.int .u8 (y2.toNat:Int))).setCell (p:=⟨P,19,none⟩) (fun hh=>by have:=HP.out;simp only at hh;omega) (.int .u8 (y3.toNat:Int)))
            have fp:Fr (oneB P) wr ((((wr.setCell ⟨P,16,none⟩ (.int .u8 (y0.toNat:Int))).setCell ⟨P,17,none⟩ (.int .u8 (y1.toNat:Int))).setCell ⟨P,18,none⟩ (.int .u8 (y2.toNat:Int))).setCell ⟨P,19,none⟩ (.int .u8 (y3.toNat:Int))):=((((Fr.refl (oneB P) wr).setCell (p:=⟨P,16,none⟩) (fun _=>rfl) _).setCell (p:=⟨P,17,none⟩) (fun _=>rfl) _).setCell (p:=⟨P,18,none⟩) (fun _=>rfl) _).setCell (p:=⟨P,19,none⟩) (fun _=>rfl) _
            have HBR5:=Lib.hid (bxI_fr HBR4.out fp (fun e=>by have e:R = P:=e;have:=HP.out;omega))
            clear fp hbp
            go_wp2_with fail
            go_roundg (8 - (4 + 1))
            case measure=>omega
            case rel=>exact ⟨4 + 1,rfl,rfl,by omega,by
             have hz:=HBP5.out
             rw [bv_set,bv_set,bv_set,bv_set] at hz
             rw [rowB_four (outH [h0,h1,h2,h3,h4,h5,h6,h7] (4 * 4)) 12 16 17 18 19 (by rw [outH_len]) rfl rfl rfl] at hz
             rw [HY.out.1,HY.out.2.1,HY.out.2.2.1,HY.out.2.2.2] at hz
             rw [HY.out.1,HY.out.2.1,HY.out.2.2.1,HY.out.2.2.2]
             exact hz,HBR5.out,HF5.out⟩
           ·clear hlt hi
            have hx:h5 < 4294967296:=HL.out.f
            obtain ⟨y0,hy0⟩:∃ y,y = btH [h0,h1,h2,h3,h4,h5,h6,h7] 20:=⟨_,rfl⟩
            obtain ⟨y1,hy1⟩:∃ y,y = btH [h0,h1,h2,h3,h4,h5,h6,h7] 21:=⟨_,rfl⟩
            obtain ⟨y2,hy2⟩:∃ y,y = btH [h0,h1,h2,h3,h4,h5,h6,h7] 22:=⟨_,rfl⟩
            obtain ⟨y3,hy3⟩:∃ y,y = btH [h0,h1,h2,h3,h4,h5,h6,h7] 23:=⟨_,rfl⟩
            have HY:=Lib.hid (And.intro hy0 (And.intro hy1 (And.intro hy2 hy3)))
            have e0:(h5:Int) / 16777216 % 256 = (y0.toNat:Int):=by
             have:y0 = UInt8.ofNat (h5 / 16777216):=hy0
             rw [this,UInt8.toNat_ofNat'];omega
            have e1:(h5:Int) / 65536 % 256 = (y1.toNat:Int):=by
             have:y1 = UInt8.ofNat (h5 / 65536):=hy1
             rw [this,UInt8.toNat_ofNat'];omega
            have e2:(h5:Int) / 256 % 256 = (y2.toNat:Int):=by
             have:y2 = UInt8.ofNat (h5 / 256):=hy2
             rw [this,UInt8.toNat_ofNat'];omega
            have e3:(h5:Int) % 256 = (y3.toNat:Int):=by
             have:y3 = UInt8.ofNat (h5 / 1):=hy3
             rw [this,UInt8.toNat_ofNat'];omega
            clear hy0 hy1 hy2 hy3 hx
            have c0:wr.cell? ⟨P,20,none⟩ = some (.int .u8 0):=rowB_get hbp 20 (by rw [outH_len];omega) (by rw [outH_len];omega)
            have c1:wr.cell? ⟨P,21,none⟩ = some (.int .u8 0):=rowB_get hbp 21 (by rw [outH_len];omega) (by rw [outH_len];omega)
            have c2:wr.cell? ⟨P,22,none⟩ = some (.int .u8 0):=rowB_get hbp 22 (by rw [outH_len];omega) (by rw [outH_len];omega)
            have c3:wr.cell? ⟨P,23,none⟩ = some (.int .u8 0):=rowB_get hbp 23 (by rw [outH_len];omega) (by rw [outH_len];omega)
            have f0:=hbp.frozen 20
            have f1:=hbp.frozen 21
            have f2:=hbp.frozen 22
            have f3:=hbp.frozen 23
            have HBP5:=Lib.hid ((((hbp.set 20 (.int .u8 (y0.toNat:Int))).set 21 (.int .u8 (y1.toNat:Int))).set 22 (.int .u8 (y2.toNat:Int))).set 23 (.int .u8 (y3.toNat:Int)))
            have HF5:=Lib.hid ((((HF4.out.setCell (p:=⟨P,20,none⟩) (fun hh=>by have:=HP.out;simp only at hh;omega) (.int .u8 (y0.toNat:Int))).setCell (p:=⟨P,21,none⟩) (fun hh=>by have:=HP.out;simp only at hh;omega) (.int .u8 (y1.toNat:Int))).setCell (p:=⟨P,22,none⟩) (fun hh=>by have:=HP.out;simp only at hh;omega) (.int .u8 (y2.toNat:Int))).setCell (p:=⟨P,23,none⟩) (fun hh=>by have:=HP.out;simp only at hh;omega) (.int .u8 (y3.toNat:Int)))
            have fp:Fr (oneB P) wr ((((wr.setCell ⟨P,20,none⟩ (.int .u8 (y0.toNat:Int))).setCell ⟨P,21,none⟩ (.int .u8 (y1.toNat:Int))).setCell ⟨P,22,none⟩ (.int .u8 (y2.toNat:Int))).setCell ⟨P,23,none⟩ (.int .u8 (y3.toNat:Int))):=((((Fr.refl (oneB P) wr).setCell (p:=⟨P,20,none⟩) (fun _=>rfl) _).setCell (p:=⟨P,21,none⟩) (fun _=>rfl) _).setCell (p:=⟨P,22,none⟩) (fun _=>rfl) _).setCell (p:=⟨P,23,none⟩) (fun _=>rfl) _
            have HBR5:=Lib.hid (bxI_fr HBR4.out fp (fun e=>by have e:R = P:=e;have:=HP.out;omega))
            clear fp hbp
            go_wp2_with fail
            go_roundg (8 - (5 + 1))
            case measure=>omega
            case rel=>exact ⟨5 + 1,rfl,rfl,by omega,by
             have hz:=HBP5.out
             rw [bv_set,bv_set,bv_set,bv_set] at hz
             rw [rowB_four (outH [h0,h1,h2,h3,h4,h5,h6,h7] (4 * 5)) 8 20 21 22 23 (by rw [outH_len]) rfl rfl rfl] at hz
             rw [HY.out.1,HY.out.2.1,HY.out.2.2.1,HY.out.2.2.2] at hz
             rw [HY.out.1,HY.out.2.1,HY.out.2.2.1,HY.out.2.2.2]
             exact hz,HBR5.out,HF5.out⟩
           ·clear hlt hi
            have hx:h6 < 4294967296:=HL.out.g
            obtain ⟨y0,hy0⟩:∃ y,y = btH [h0,h1,h2,h3,h4,h5,h6,h7] 24:=⟨_,rfl⟩
            obtain ⟨y1,hy1⟩:∃ y,y = btH [h0,h1,h2,h3,h4,h5,h6,h7] 25:=⟨_,rfl⟩
            obtain ⟨y2,hy2⟩:∃ y,y = btH [h0,h1,h2,h3,h4,h5,h6,h7] 26:=⟨_,rfl⟩
            obtain ⟨y3,hy3⟩:∃ y,y = btH [h0,h1,h2,h3,h4,h5,h6,h7] 27:=⟨_,rfl⟩
            have HY:=Lib.hid (And.intro hy0 (And.intro hy1 (And.intro hy2 hy3)))
            have e0:(h6:Int) / 16777216 % 256 = (y0.toNat:Int):=by
             have:y0 = UInt8.ofNat (h6 / 16777216):=hy0
             rw [this,UInt8.toNat_ofNat'];omega
            have e1:(h6:Int) / 65536 % 256 = (y1.toNat:Int):=by
             have:y1 = UInt8.ofNat (h6 / 65536):=hy1
             rw [this,UInt8.toNat_ofNat'];omega
            have e2:(h6:Int) / 256 % 256 = (y2.toNat:Int):=by
             have:y2 = UInt8.ofNat (h6 / 256):=hy2
             rw [this,UInt8.toNat_ofNat'];omega
            have e3:(h6:Int) % 256 = (y3.toNat:Int):=by
             have:y3 = UInt8.ofNat (h6 / 1):=hy3
             rw [this,UInt8.toNat_ofNat'];omega
            clear hy0 hy1 hy2 hy3 hx
            have c0:wr.cell? ⟨P,24,none⟩ = some (.int .u8 0):=rowB_get hbp 24 (by rw [outH_len];omega) (by rw [outH_len];omega)
            have c1:wr.cell? ⟨P,25,none⟩ = some (.int .u8 0):=rowB_get hbp 25 (by rw [outH_len];omega) (by rw [outH_len];omega)
            have c2:wr.cell? ⟨P,26,none⟩ = some (.int .u8 0):=rowB_get hbp 26 (by rw [outH_len];omega) (by rw [outH_len];omega)
            have c3:wr.cell? ⟨P,27,none⟩ = some (.int .u8 0):=rowB_get hbp 27 (by rw [outH_len];omega) (by rw [outH_len];omega)
            have f0:=hbp.frozen 24
            have f1:=hbp.frozen 25
            have f2:=hbp.frozen 26
            have f3:=hbp.frozen 27
            have HBP5:=Lib.hid ((((hbp.set 24 (.int .u8 (y0.toNat:Int))).set 25 (.int .u8 (y1.toNat:Int))).set 26 (.int .u8 (y2.toNat:Int))).set 27 (.int .u8 (y3.toNat:Int)))
            have HF5:=Lib.hid ((((HF4.out.setCell (p:=⟨P,24,none⟩) (fun hh=>by have:=HP.out;simp only at hh;omega) (.int .u8 (y0.toNat:Int))).setCell (p:=⟨P,25,none⟩) (fun hh=>by have:=HP.out;simp only at hh;omega) (.int .u8 (y1.toNat:Int))).setCell (p:=⟨P,26,none⟩) (fun hh=>by have:=HP.out;simp only at hh;omega) (.int .u8 (y2.toNat:Int))).setCell (p:=⟨P,27,none⟩) (fun hh=>by have:=HP.out;simp only at hh;omega) (.int .u8 (y3.toNat:Int)))
            have fp:Fr (oneB P) wr ((((wr.setCell ⟨P,24,none⟩ (.int .u8 (y0.toNat:Int))).setCell ⟨P,25,none⟩ (.int .u8 (y1.toNat:Int))).setCell ⟨P,26,none⟩ (.int .u8 (y2.toNat:Int))).setCell ⟨P,27,none⟩ (.int .u8 (y3.toNat:Int))):=((((Fr.refl (oneB P) wr).setCell (p:=⟨P,24,none⟩) (fun _=>rfl) _).setCell (p:=⟨P,25,none⟩) (fun _=>rfl) _).setCell (p:=⟨P,26,none⟩) (fun _=>rfl) _).setCell (p:=⟨P,27,none⟩) (fun _=>rfl) _
            have HBR5:=Lib.hid (bxI_fr HBR4.out fp (fun e=>by have e:R = P:=e;have:=HP.out;omega))
            clear fp hbp
            go_wp2_with fail
            go_roundg (8 - (6 + 1))
            case measure=>omega
            case rel=>exact ⟨6 + 1,rfl,rfl,by omega,by
             have hz:=HBP5.out
             rw [bv_set,bv_set,bv_set,bv_set] at hz
             rw [rowB_four (outH [h0,h1,h2,h3,h4,h5,h6,h7] (4 * 6)) 4 24 25 26 27 (by rw [outH_len]) rfl rfl rfl] at hz
             rw [HY.out.1,HY.out.2.1,HY.out.2.2.1,HY.out.2.2.2] at hz
             rw [HY.out.1,HY.out.2.1,HY.out.2.2.1,HY.out.2.2.2]
             exact hz,HBR5.out,HF5.out⟩
           ·clear hlt hi
            have hx:h7 < 4294967296:=HL.out.x
            obtain ⟨y0,hy0⟩:∃ y,y = btH [h0,h1,h2,h3,h4,h5,h6,h7] 28:=⟨_,rfl⟩
            obtain ⟨y1,hy1⟩:∃ y,y = btH [h0,h1,h2,h3,h4,h5,h6,h7] 29:=⟨_,rfl⟩
            obtain ⟨y2,hy2⟩:∃ y,y = btH [h0,h1,h2,h3,h4,h5,h6,h7] 30:=⟨_,rfl⟩
            obtain ⟨y3,hy3⟩:∃ y,y = btH [h0,h1,h2,h3,h4,h5,h6,h7] 31:=⟨_,rfl⟩
            have HY:=Lib.hid (And.intro hy0 (And.intro hy1 (And.intro hy2 hy3)))
            have e0:(h7:Int) / 16777216 % 256 = (y0.toNat:Int):=by
             have:y0 = UInt8.ofNat (h7 / 16777216):=hy0
             rw [this,UInt8.toNat_ofNat'];omega
            have e1:(h7:Int) / 65536 % 256 = (y1.toNat:Int):=by
             have:y1 = UInt8.ofNat (h7 / 65536):=hy1
             rw [this,UInt8.toNat_ofNat'];omega
            have e2:(h7:Int) / 256 % 256 = (y2.toNat:Int):=by
             have:y2 = UInt8.ofNat (h7 / 256):=hy2
             rw [this,UInt8.toNat_ofNat'];omega
            have e3:(h7:Int) % 256 = (y3.toNat:Int):=by
             have:y3 = UInt8.ofNat (h7 / 1):=hy3
             rw [this,UInt8.toNat_ofNat'];omega
            clear hy0 hy1 hy2 hy3 hx
            have c0:wr.cell? ⟨P,28,none⟩ = some (.int .u8 0):=rowB_get hbp 28 (by rw [outH_len];omega) (by rw [outH_len];omega)
            have c1:wr.cell? ⟨P,29,none⟩ = some (.int .u8 0):=rowB_get hbp 29 (by rw [outH_len];omega) (by rw [outH_len];omega)
            have c2:wr.cell? ⟨P,30,none⟩ = some (.int .u8 0):=rowB_get hbp 30 (by rw [outH_len];omega) (by rw [outH_len];omega)
            have c3:wr.cell? ⟨P,31,none⟩ = some (.int .u8 0):=rowB_get hbp 31 (by rw [outH_len];omega) (by rw [outH_len];omega)
            have f0:=hbp.frozen 28
            have f1:=hbp.frozen 29
            have f2:=hbp.frozen 30
            have f3:=hbp.frozen 31
            have HBP5:=Lib.hid ((((hbp.set 28 (.int .u8 (y0.toNat:Int))).set 29 (.int .u8 (y1.toNat:Int))).set 30 (.int .u8 (y2.toNat:Int))).set 31 (.int .u8 (y3.toNat:Int)))
            have HF5:=Lib.hid ((((HF4.out.setCell (p:=⟨P,28,none⟩) (fun hh=>by have:=HP.out;simp only at hh;omega) (.int .u8 (y0.toNat:Int))).setCell (p:=⟨P,29,none⟩) (fun hh=>by have:=HP.out;simp only at hh;omega) (.int .u8 (y1.toNat:Int))).setCell (p:=⟨P,30,none⟩) (fun hh=>by have:=HP.out;simp only at hh;omega) (.int .u8 (y2.toNat:Int))).setCell (p:=⟨P,31,none⟩) (fun hh=>by have:=HP.out;simp only at hh;omega) (.int .u8 (y3.toNat:Int)))
            have fp:Fr (oneB P) wr ((((wr.setCell ⟨P,28,none⟩ (.int .u8 (y0.toNat:Int))).setCell ⟨P,29,none⟩ (.int .u8 (y1.toNat:Int))).setCell ⟨P,30,none⟩ (.int .u8 (y2.toNat:Int))).setCell ⟨P,31,none⟩ (.int .u8 (y3.toNat:Int))):=((((Fr.refl (oneB P) wr).setCell (p:=⟨P,28,none⟩) (fun _=>rfl) _).setCell (p:=⟨P,29,none⟩) (fun _=>rfl) _).setCell (p:=⟨P,30,none⟩) (fun _=>rfl) _).setCell (p:=⟨P,31,none⟩) (fun _=>rfl) _
            have HBR5:=Lib.hid (bxI_fr HBR4.out fp (fun e=>by have e:R = P:=e;have:=HP.out;omega))
            clear fp hbp
            go_wp2_with fail
            go_roundg (8 - (7 + 1))
            case measure=>omega
            case rel=>exact ⟨7 + 1,rfl,rfl,by omega,by
             have hz:=HBP5.out
             rw [bv_set,bv_set,bv_set,bv_set] at hz
             rw [rowB_four (outH [h0,h1,h2,h3,h4,h5,h6,h7] (4 * 7)) 0 28 29 30 31 (by rw [outH_len]) rfl rfl rfl] at hz
             rw [HY.out.1,HY.out.2.1,HY.out.2.2.1,HY.out.2.2.2] at hz
             rw [HY.out.1,HY.out.2.1,HY.out.2.2.1,HY.out.2.2.2]
             exact hz,HBR5.out,HF5.out⟩
          ·obtain rfl:i = 8:=by omega
           have i1:¬ ((8:Nat):Int) < 8:=by omega
           obtain ⟨x,hx⟩:∃ x,x = nameH b:=⟨_,rfl⟩
           have HX:=Lib.hid hx
           have hbq:bxI wr P = some x:=bxI_of (by
            have h1:Blk wr P 37 (bv (rowB (outH [h0,h1,h2,h3,h4,h5,h6,h7] 32) 0)):=hbp
            rw [HH.out,rowB,show List.replicate 0 (0:UInt8) = [] from rfl,List.append_nil] at h1
            unfold Blk at h1
            simp only [ido,idA_eq]
            rw [hx]
            exact h1)
           have q4:=bxI_rd hbq
           have q5:=HBR4.out
           obtain ⟨g1,g2,g3⟩:=putB_fr HBR4.out x
           have HG1:=Lib.hid g1
           have HG3:=Lib.hid g3
           clear hlt hi hbp hbq g1 g2 g3 hx
           go_wp2_with fail
           have hbx3:=bxI_at HG3.out
           simp only [ido,idA_eq] at hbx3
           refine bodyPost_ret (results_cell_row rfl _ _ R 37 _ _ _ (by rfl) hbx3 Try.underlying37 ?_ ?_) rfl ?_
           ·rfl
           ·rw [List.size_toArray,bv_length,x.2];exact infoID
           ·exact ⟨by rw [← HX.out];simp only [encI,idA_eq],HF4.out.trans HG1.out (fun x hx e=>by have e:x = R:=e;have:=HKS.out;omega)⟩
end Go.Proofs.Ytahllkifmmjbdaa
