/- Contracts: pollardref08.Seal, the law's sealed, the reader's Four. Contracts: pack.body, the law's sealed. -/
import Derived.Test.YtahllkifmmjbdaaEncSKp
import Derived.Test.YtahllkifmmjbdaaRdrIdKp
import Derived.Test.YtahllkifmmjbdaaShelfKp
import Derived.Test.YtahllkifmmjbdaaRegQKp
set_option linter.unusedVariables false
set_option linter.unusedSimpArgs false
namespace Go.Proofs.Ytahllkifmmjbdaa
open Go.RowKit Go.Maps Go.Sort
set_option maxRecDepth 100000
theorem orAddE (a b i:Nat) (hb:b < 2 ^ i):a * 2 ^ i ||| b = a * 2 ^ i + b:=by rw [Nat.mul_comm];exact (Nat.two_pow_add_eq_or_of_lt hb a).symm
set_option maxHeartbeats 4000000 in
theorem seal_any (w:World) (A:Option Addr) (n c:Nat) (l:List UInt8) (hn:l.length = n) (hs:Sl w A (bv l)) (hb:l.length ≤ 100000000000):Calls Try.prog 34 #[.slice A n c] w (NewBytes w (sealC l)):=by
 subst hn
 have HS:=Lib.hid hs
 have HB:=Lib.hid hb
 clear hs hb
 go_enter Try.func34,Try.ntmps34
 go_wp2_with first
  | (go_at_call 59;refine (r02sum_any _ A l.length c l rfl HS.out (by have:=HB.out;omega)).mono ?_;rintro e w8 ⟨rfl,h8⟩;replace h8:=h8.symm;subst h8)
  | (go_at_call 58;refine (r02four_any _ (crcC l) (crcC_lt l)).mono ?_;rintro e w9 ⟨A1,c1,rfl,ho9,hf9⟩;have HO9:=Lib.hid ho9;have HF9:=Lib.hid hf9;clear ho9 hf9)
  | (go_at_call 57;refine (join_any _ A A1 c c1 l (fourC (crcC l)) (HS.out.fr0 HF9.out) (Sl.own HO9.out) (by have:=HB.out;show l.length + 4 ≤ _;omega)).mono ?_;rintro e w10 ⟨A2,c2,rfl,ho10,hf10⟩;have HO10:=Lib.hid ho10;have HF10:=Lib.hid hf10;clear ho10 hf10)
 go_ret
 have hz:=HF9.out.size
 exact ⟨A2,c2,by simp [sealC],own_base HO10.out hz,HF9.out.step0 HF10.out⟩
structure R4F (x0 x1 x2 x3:UInt8) (y0 y1 y2 y3 z1 z2 z3 t1 t2 t3:Nat):Prop where
 e0:x0.toNat = y0
 e1:x1.toNat = y1
 e2:x2.toNat = y2
 e3:x3.toNat = y3
 k0:IntKind.u32.wrap (y0:Int) = (y0:Int)
 k1:IntKind.u32.wrap (y1:Int) = (y1:Int)
 k2:IntKind.u32.wrap (y2:Int) = (y2:Int)
 k3:IntKind.u32.wrap (y3:Int) = (y3:Int)
 v1:IntKind.u32.wrap ((y1:Int) * 256) = (z1:Int)
 v2:IntKind.u32.wrap ((y2:Int) * 65536) = (z2:Int)
 v3:IntKind.u32.wrap ((y3:Int) * 16777216) = (z3:Int)
 o1:bits .or .u32 (y0:Int) (z1:Int) = (t1:Int)
 o2:bits .or .u32 (t1:Int) (z2:Int) = (t2:Int)
 o3:bits .or .u32 (t2:Int) (z3:Int) = (t3:Int)
 hu:unfour [x0,x1,x2,x3] = t3
theorem r4F (x0 x1 x2 x3:UInt8):∃ y0 y1 y2 y3 z1 z2 z3 t1 t2 t3,R4F x0 x1 x2 x3 y0 y1 y2 y3 z1 z2 z3 t1 t2 t3:=by
 have l0:=UInt8.toNat_lt x0
 have l1:=UInt8.toNat_lt x1
 have l2:=UInt8.toNat_lt x2
 have l3:=UInt8.toNat_lt x3
 refine ⟨_,_,_,_,x1.toNat * 256,x2.toNat * 65536,x3.toNat * 16777216,x1.toNat * 256 + x0.toNat,x2.toNat * 65536 + (x1.toNat * 256 + x0.toNat),x3.toNat * 16777216 + (x2.toNat * 65536 + (x1.toNat * 256 + x0.toNat)),⟨rfl,rfl,rfl,rfl,by rw [wrU];omega,by rw [wrU];omega,by rw [wrU];omega,by rw [wrU];omega,by rw [wrU];omega,by rw [wrU];omega,by rw [wrU];omega,?_,?_,?_,?_⟩⟩
 ·rw [bits_or_u32 _ _ (by omega) (by omega),Nat.or_comm]
  exact congrArg _ (orAddE x1.toNat x0.toNat 8 (by omega))
 ·rw [bits_or_u32 _ _ (by omega) (by omega),Nat.or_comm]
  exact congrArg _ (orAddE x2.toNat (x1.toNat * 256 + x0.toNat) 16 (by omega))
 ·rw [bits_or_u32 _ _ (by omega) (by omega),Nat.or_comm]
  exact congrArg _ (orAddE x3.toNat (x2.toNat * 65536 + (x1.toNat * 256 + x0.toNat)) 24 (by omega))
 ·unfold unfour
  simp only [List.getD_cons_zero,List.getD_cons_succ]
  omega
def FourTo (w:World) (p:Nat) (l:List UInt8) (e:Ending) (w':World):Prop:=e = .returned (.int .u32 ((unfour l:Nat):Int)) ∧ Fr (oneB p) w w'
set_option maxHeartbeats 4000000 in
theorem rfour_any (w:World) (p:Nat) (l:List UInt8) (Q:Nat → Prop) (h:Rdr w p (l,false) Q) (hQp:¬ Q p) (hl:l.length = 4):Calls Try.prog 51 #[.pointer (some ⟨p,0,none⟩)] w (FourTo w p l):=by
 have HR:=Lib.hid h
 have HL:=Lib.hid hl
 have e1:rdTake 4 (l,false) = (l,([],false)):=by simp [rdTake,hl,List.take_of_length_le (by omega:l.length ≤ 4),List.drop_eq_nil_of_le (by omega:l.length ≤ 4)]
 have HE:=Lib.hid e1
 clear h hl e1
 go_enter Try.func51,Try.ntmps51
 go_upto_region 2 with (go_at_call 52;refine (take_any _ p 4 (l,false) Q HR.out hQp (by have:=HL.out;simp only;omega) (by omega)).mono ?_;rintro e w2 ⟨hf2,hr2,A,c,rfl,hs2,ho2⟩;rw [HE.out] at hs2 ⊢;have HS2:=Lib.hid hs2;have HF2:=Lib.hid hf2;clear hf2 hr2 hs2 ho2)
 obtain ⟨g,off,rfl,hg,hc⟩:=Sl.bytes HS2.out (by have:=HL.out;omega)
 have HL4:=HL.out
 match l,HL4 with
 | [x0,x1,x2,x3],_ =>
  have c0:w2.cell? ⟨g,off,none⟩ = some (.int .u8 (x0.toNat:Int)):=hc 0 (by simp)
  have c1:w2.cell? ⟨g,off + 1,none⟩ = some (.int .u8 (x1.toNat:Int)):=hc 1 (by simp)
  have c2:w2.cell? ⟨g,off + 2,none⟩ = some (.int .u8 (x2.toNat:Int)):=hc 2 (by simp)
  have c3:w2.cell? ⟨g,off + 3,none⟩ = some (.int .u8 (x3.toNat:Int)):=hc 3 (by simp)
  obtain ⟨y0,y1,y2,y3,z1,z2,z3,t1,t2,t3,hf⟩:=r4F x0 x1 x2 x3
  rw [hf.e0] at c0
  rw [hf.e1] at c1
  rw [hf.e2] at c2
  rw [hf.e3] at c3
  obtain ⟨k0,k1,k2,k3⟩:_ ∧ _ ∧ _ ∧ _:=⟨hf.k0,hf.k1,hf.k2,hf.k3⟩
  obtain ⟨v1,v2,v3⟩:_ ∧ _ ∧ _:=⟨hf.v1,hf.v2,hf.v3⟩
  obtain ⟨o1,o2,o3⟩:_ ∧ _ ∧ _:=⟨hf.o1,hf.o2,hf.o3⟩
  have HU:=Lib.hid hf.hu
  clear hf hc hg
  go_upto_region 4 with fail
  go_quiet (fail)
  have HF3:=Lib.hid (HF2.out.step0 ((Fr.refl noB w2).drewN nq))
  go_wp2_with fail
  go_ret
  exact ⟨by rw [HU.out];rfl,HF3.out⟩
end Go.Proofs.Ytahllkifmmjbdaa
namespace Go.Proofs.Ytahllkifmmjbdaa
open Go.RowKit Go.Maps Go.Sort
set_option maxRecDepth 100000
def numsI (l:List UInt8):List Int:=l.map (fun b=>(b.toNat:Int))
def preC (l:List UInt8):Bool:=Lib.hasPrefix (Lib.bytesOf (numsI l)) (Lib.bytesOf [80,76,82,68])
theorem numsI_get (l:List UInt8) (i:Nat) (hi:i < l.length):(numsI l).getD i 0 = ((l[i]).toNat:Int):=by
 unfold numsI
 rw [List.getD_eq_getElem?_getD,List.getElem?_map,List.getElem?_eq_getElem hi]
 rfl
theorem pre_any (w:World) (A:Option Addr) (n c:Nat) (l:List UInt8) (b2 d:Nat) (hn:l.length = n) (h8:8 ≤ l.length) (hc:l.length ≤ c) (hs:Sl w A (bv l)) (hm:∀ i,i < 4 → w.cell? ⟨b2,0 + i,none⟩ = some (.int .u8 (([80,76,82,68]:List Int).getD i 0))) :
  Calls Try.prog 50 #[.slice A n c,.slice (some ⟨b2,0,none⟩) 4 d] w (fun e w'=>e = .returned (.bool (preC l)) ∧ w' = w):=by
 subst hn
 obtain ⟨g,off,rfl,hg,hcell⟩:=Sl.bytes hs (by omega)
 exact Try.bytes_HasPrefix g off l.length c b2 0 4 d (numsI l) [80,76,82,68] w (by unfold numsI;simp) rfl hc (fun i hi=>by rw [hcell i hi,numsI_get l i hi]) hm
def BodyTo (w:World) (l:List UInt8) (e:Ending) (w':World):Prop:=Fr noB w w' ∧
 (¬ (8 ≤ l.length ∧ preC l = true) ∧ e = .returned (.tuple #[.slice none 0 0,.bool false]) ∨
  (8 ≤ l.length ∧ preC l = true) ∧ ∃ A c,e = .returned (.tuple #[.slice A (l.length - 8) c,.bool (decide (unfour (l.drop (l.length - 4)) = crcC (l.take (l.length - 4))))]) ∧ Sl w' A (bv ((l.take (l.length - 4)).drop 4)) ∧ l.length - 8 ≤ c)
set_option maxHeartbeats 4000000 in
theorem body_any (w:World) (A:Option Addr) (n c:Nat) (l:List UInt8) (hn:l.length = n) (hc:l.length ≤ c) (hs:Sl w A (bv l)) (hb:l.length ≤ 100000000000):Calls Try.prog 28 #[.slice A n c] w (BodyTo w l):=by
 subst hn
 have HS:=Lib.hid hs
 have HB:=Lib.hid hb
 have HC:=Lib.hid hc
 by_cases h8:8 ≤ l.length
 ·have i1:¬ (l.length:Int) < 8:=by omega
  have H8:=Lib.hid h8
  clear hs hb hc h8
  have FA:=Lib.hid (show Fr noB w (w.alloc (.cells #[.int .u8 80,.int .u8 76,.int .u8 82,.int .u8 68] 5 (4,5))) from (Fr.refl noB w).alloc _)
  have HM:=Lib.hid (show ∀ i,i < 4 → (w.alloc (.cells #[.int .u8 80,.int .u8 76,.int .u8 82,.int .u8 68] 5 (4,5))).cell? ⟨w.heap.size,0 + i,none⟩ = some (.int .u8 (([80,76,82,68]:List Int).getD i 0)) from fun i hi=>by
   have:=heap_alloc_new w (.cells #[.int .u8 80,.int .u8 76,.int .u8 82,.int .u8 68] 5 (4,5))
   rw [Nat.zero_add]
   unfold World.cell?
   simp only [this]
   rcases (by omega:i = 0 ∨ i = 1 ∨ i = 2 ∨ i = 3) with rfl | rfl | rfl | rfl <;> rfl)
  go_enter Try.func28,Try.ntmps28
  obtain ⟨q,hq⟩:∃ q,q = preC l:=⟨_,rfl⟩
  have HQ:=Lib.hid hq
  clear hq
  cases q with
  | false =>
   go_wp2_with (go_at_call 50;refine (pre_any _ A _ c l w.heap.size _ rfl H8.out HC.out (HS.out.fr0 FA.out) HM.out).mono ?_;rintro e w8 ⟨rfl,h8⟩;replace h8:=h8.symm;subst h8;rw [← HQ.out])
   go_ret2
   exact ⟨FA.out,.inl ⟨fun h=>by rw [← HQ.out] at h;exact Bool.noConfusion h.2,rfl⟩⟩
  | true =>
   go_upto_region 3 with (go_at_call 50;refine (pre_any _ A _ c l w.heap.size _ rfl H8.out HC.out (HS.out.fr0 FA.out) HM.out).mono ?_;rintro e w8 ⟨rfl,h8⟩;replace h8:=h8.symm;subst h8;rw [← HQ.out])
   have HS1:=Lib.hid (HS.out.fr0 FA.out)
   generalize w.alloc (.cells #[.int .u8 80,.int .u8 76,.int .u8 82,.int .u8 68] 5 (4,5)) = w1 at FA HS1 ⊢
   obtain ⟨m,hm⟩:∃ m,m = l.length - 4:=⟨_,rfl⟩
   have HMM:=Lib.hid (show l.length = m + 4 ∧ 4 ≤ m by have:=H8.out;omega)
   have n1:IntKind.i64.wrap ((l.length:Int) - 4) = (m:Int):=by rw [IntWalk.i64_in _ (by have:=HB.out;have:=H8.out;omega)];omega
   have i2:(m:Int) ≤ (c:Int):=by have:=HC.out;omega
   have i3:(m:Int) ≤ (l.length:Int):=by omega
   have d4:l.length - m = 4:=by have:=H8.out;omega
   clear hm HM
   obtain ⟨F,hFd⟩:∃ F:World → Prop,F = fun w'=>Fr noB w1 w':=⟨_,rfl⟩
   have fd:Fr noB w1 w1.drew:=(Fr.refl noB w1).drew
   have hF0:F w1.drew:=by rw [hFd];exact fd
   have HFD:=Lib.hid hFd
   have FA2:=Lib.hid (FA.out.step0 fd)
   have HS2:=Lib.hid (HS1.out.fr0 fd)
   have HFZ0:=Lib.hid fd.size
   clear hFd
   refine wp_region_M 11 13 [⟨65536,1,0⟩,⟨131072,1,0⟩,⟨262144,131072,2⟩,⟨524288,262144,4⟩,⟨1048576,589824,9⟩,⟨2097152,1,0⟩,⟨4194304,1,0⟩,⟨8388608,4194304,64⟩,⟨16777216,8388608,128⟩,⟨33554432,18874368,288⟩,⟨67108864,33554432,512⟩,⟨16,1048576,1055⟩,⟨32,67108864,4095⟩] [(true,0),(true,1),(true,2),(true,3),(true,4),(true,5),(true,6),(true,7),(true,8),(true,9),(false,10)] F (by kernel_rfl) rfl (by kernel_rfl) (by kernel_rfl) (by kernel_rfl) hF0 (fun hA hF=>?_)
   clear hF0
   generalize w1.drew = wd at hF FA2 HS2 fd HFZ0 ⊢
   have HFZ:=Lib.hid (show w1.heap.size ≤ wd.heap.size from HFZ0.out)
   have NE:=Wd.ne hF
   refine wpAnyS_takes (s2:=[(false,10)]) (fuel:=3) (fun d v c a w h=>by cases d <;> exact h) hF [0,1,2,3,4,5,6,7,8,9] hA ?_
   repeat (refine wpTakes_at (by rfl) (by rfl) ?_;go_big_quiet_step (fail);refine wpQuiet_nil ?_)
   refine wpTakes_nil ?_
   clear NE
   intro hA
   refine wpAnyS_one hA rfl (fun K' hK=>?_)
   go_simp
   go_at_call 29
   refine (read_n wd _ _ (l.drop m) 4 (by rw [List.length_drop];exact d4) (HS2.out.cutB HC.out) (by rw [List.length_drop,d4];decide)).mono ?_
   rintro e w2 ⟨p,rfl,hp,hr,hf⟩
   have HR:=Lib.hid hr
   have HPW:=Lib.hid hp
   have keep:∀ w' w'':World,Fr noB w' w'' → F w' → F w'':=fun w' w'' f h=>by
    rw [HFD.out] at h ⊢
    exact h.step0 f
   have FA3:=Lib.hid (FA2.out.step0 hf)
   have HS3:=Lib.hid (HS2.out.fr0 hf)
   clear hr hp
   replace hF:=keep _ _ hf hF
   refine hK.out _ _ hF (fun hA=>?_)
   clear hK K'
   refine wpAnyS_end hA rfl ?_
   simp only [List.drop_succ_cons,List.drop_zero]
   clear hF keep fd hf
   go_upto_region 4 with fail
   obtain ⟨G,hGd⟩:∃ G:World → Prop,G = fun w'=>True:=⟨_,rfl⟩
   have hG0:G w2.drew:=by rw [hGd];trivial
   have keep:∀ w' w'':World,Fr noB w' w'' → G w' → G w'':=fun w' w'' f h=>by rw [hGd];trivial
   have HGD:=Lib.hid hGd
   have fd:=(Fr.refl noB w2).drew
   have FA4:=Lib.hid (FA3.out.step0 fd)
   have HS4:=Lib.hid (HS3.out.fr0 fd)
   have HR4:=Lib.hid (HR.out.fr fd (by simp [noB]) (fun _ _=>by simp [noB]))
   have HPS:=Lib.hid (show w1.heap.size ≤ p from by have:=HPW.out;have:=HFZ.out;omega)
   clear hGd fd n1
   have i4:(4:Int) ≤ (m:Int):=by have:=HMM.out;omega
   have d8:m - 4 = l.length - 8:=by have:=HMM.out;omega
   refine wp_region_M 8 9 [⟨134217728,16,0⟩,⟨268435456,134217728,1⟩,⟨536870912,32,0⟩,⟨1073741824,536870912,4⟩,⟨2147483648,16,0⟩,⟨4294967296,2147483648,24⟩,⟨8589934592,5368709120,40⟩,⟨4,268435456,35⟩,⟨8,8589934592,255⟩] [(true,0),(true,1),(true,2),(true,4),(false,3),(false,5),(true,6),(true,7)] G (by kernel_rfl) rfl (by kernel_rfl) (by kernel_rfl) (by kernel_rfl) hG0 (fun hA hF=>?_)
   clear hG0
   generalize w2.drew = we at hF FA4 HS4 HR4 ⊢
   have NE:=Wd.ne hF
   refine wpAnyS_takes (s2:=[(false,3),(false,5),(true,6),(true,7)]) (fuel:=5) (fun d v c a w h=>by cases d <;> exact h) hF [0,1,2,4] hA ?_
   repeat (refine wpTakes_at (by rfl) (by rfl) ?_;go_big_quiet_step (fail);refine wpQuiet_nil ?_)
   refine wpTakes_nil ?_
   clear NE
   intro hA
   refine wpAnyS_one hA rfl (fun K' hK=>?_)
   go_simp
   go_at_call 51
   refine (rfour_any we p (l.drop m) _ HR4.out (by omega) (by rw [List.length_drop];exact d4)).mono ?_
   rintro e w3 ⟨rfl,hf3⟩
   have FA5:=Lib.hid (FA4.out.trans hf3 (fun x hx e=>by have e:x = p:=e;have:=HPS.out;have:=FA.out.size;omega))
   have HS5:=Lib.hid (show Sl w3 A (bv l) from HS.out.fr0 FA5.out)
   replace hF:G w3:=by rw [HGD.out];trivial
   refine hK.out _ _ hF (fun hA=>?_)
   clear hK K' hf3
   refine wpAnyS_one hA rfl (fun K' hK=>?_)
   go_simp
   go_at_call 26
   refine (esum_any w3 A m c (l.take m) (by rw [List.length_take];have:=HMM.out;omega) HS5.out.takeB (by rw [List.length_take];have:=HB.out;omega)).mono ?_
   rintro e w4 ⟨rfl,h8⟩
   replace h8:=h8.symm
   subst h8
   refine hK.out _ _ hF (fun hA=>?_)
   clear hK K'
   obtain ⟨u,hu⟩:∃ u,u = unfour (l.drop m):=⟨_,rfl⟩
   obtain ⟨v,hv⟩:∃ v,v = crcC (l.take m):=⟨_,rfl⟩
   have HUV:=Lib.hid (show decide (unfour (l.drop (l.length - 4)) = crcC (l.take (l.length - 4))) = ((u:Int) == (v:Int)) by
    rw [show l.length - 4 = m by have:=HMM.out;omega,← hu,← hv]
    rw [Bool.eq_iff_iff,decide_eq_true_eq,beq_iff_eq]
    exact ⟨fun h=>by rw [h],fun h=>by omega⟩)
   rw [← hu,← hv]
   clear hu hv
   have NE:=Wd.ne hF
   refine wpAnyS_takes (s2:=[]) (fuel:=1) (fun d v c a w h=>by cases d <;> exact h) hF [6,7] hA ?_
   repeat (refine wpTakes_at (by rfl) (by rfl) ?_;go_big_quiet_step (fail);refine wpQuiet_nil ?_)
   refine wpTakes_nil ?_
   clear NE
   intro hA
   refine wpAnyS_end hA rfl ?_
   simp only [List.drop_succ_cons,List.drop_zero]
   go_wp2_with fail
   go_ret2
   refine ⟨FA5.out,.inr ⟨⟨H8.out,HQ.out.symm⟩,_,_,by rw [HUV.out];rfl,?_,?_⟩⟩
   ·have h1:l.length - 4 = m:=by have:=HMM.out;omega
    rw [h1]
    exact (HS5.out.takeB (k:=m)).cutB (k:=4) (c:=c) (by rw [List.length_take];have:=HC.out;omega)
   ·have:=HMM.out;have:=HC.out;omega
 ·have i1:(l.length:Int) < 8:=by omega
  have H8:=Lib.hid h8
  clear hs hb hc h8
  go_enter Try.func28,Try.ntmps28
  go_wp2_with fail
  go_ret2
  exact ⟨Fr.refl _ _,.inl ⟨fun h=>H8.out h.1,rfl⟩⟩
def SealedTo (w:World) (l:List UInt8) (e:Ending) (w':World):Prop:=∃ b:Bool,e = .returned (.bool b) ∧ (8 ≤ l.length → fitC l → b = true) ∧ Fr noB w w'
set_option maxHeartbeats 4000000 in
theorem sealed_any (w:World) (A:Option Addr) (n c:Nat) (l:List UInt8) (hn:l.length = n) (hc:l.length ≤ c) (hs:Sl w A (bv l)) (hb:l.length ≤ 100000000000):Calls Try.prog 9 #[.slice A n c] w (SealedTo w l):=by
 subst hn
 have HS:=Lib.hid hs
 have HB:=Lib.hid hb
 by_cases h8:8 ≤ l.length
 ·have i1:(8:Int) ≤ (l.length:Int):=by omega
  have H8:=Lib.hid h8
  obtain ⟨m,hm⟩:∃ m,m = l.length - 4:=⟨_,rfl⟩
  have HMM:=Lib.hid (show l.length = m + 4 by omega)
  have n1:wrap64 ((l.length:Int) - 4) = (m:Int):=by rw [IntWalk.wrap64_in _ (by omega)];omega
  have i2:(m:Int) ≤ (c:Int):=by omega
  have HL:=Lib.hid (show (l.take m).length = m by rw [List.length_take];omega)
  clear hs hb hc h8 hm
  go_enter Try.func9,Try.ntmps9
  go_wp2_with first
   | (go_at_call 34;refine (seal_any _ A m c (l.take m) HL.out HS.out.takeB (by rw [HL.out];have:=HMM.out;have:=HB.out;omega)).mono ?_;rintro e w8 ⟨A1,c1,rfl,ho8,hf8⟩;have HO8:=Lib.hid ho8;have HF8:=Lib.hid hf8;clear ho8 hf8)
   | (go_at_call 12;refine (same_any _ A A1 c c1 l (sealC (l.take m)) (HS.out.fr0 HF8.out) (Sl.own HO8.out) (by have:=HB.out;omega) (by show (l.take m ++ _).length ≤ _;rw [List.length_append,HL.out];show m + 4 ≤ _;have:=HMM.out;have:=HB.out;omega)).mono ?_;rintro e w9 ⟨rfl,hf9⟩;have HF9:=Lib.hid hf9;clear hf9)
  go_ret
  refine ⟨_,rfl,fun _ hf=>?_,HF8.out.step0 HF9.out⟩
  have:=fit_seal hf
  rw [show l.length - 4 = m by have:=HMM.out;omega] at this
  rw [this]
  simp
 ·have i1:¬ (8:Int) ≤ (l.length:Int):=by omega
  have H8:=Lib.hid h8
  clear hs hb hc h8
  go_enter Try.func9,Try.ntmps9
  go_wp2_with fail
  go_ret
  exact ⟨_,rfl,fun h=>absurd h H8.out,Fr.refl _ _⟩
end Go.Proofs.Ytahllkifmmjbdaa
