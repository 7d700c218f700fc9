/- The law SnapDeep: its walk. (ex_ldS_at, ex_ldR_at) -/
import Derived.Test.YtnkdnbjmhoegkaaGreatLwSKq
set_option linter.unusedVariables false
set_option linter.unusedSimpArgs false
namespace Go.Proofs.YtnkdnbjmhoegkaaGreat
open Go.RowKit Go.Maps Go.Sort
theorem deepF_wf {p:St} (hp:wfS p = true) (i:Nat) (hi:i ≤ 5000):wfS (deepF p i) = true:=by
 unfold deepF
 split
 ·exact hp
 ·unfold wfS nodeW;simp only [Bool.and_eq_true,decide_eq_true_eq];omega
set_option maxRecDepth 100000 in
set_option maxHeartbeats 4000000 in
theorem deep13_any (w:World) (a:Int) (b:Bool):Calls Tryz.prog 5 #[.int .i64 a,.bool b] w (Gives w (.bool true)):=by
 obtain ⟨n,em,hm⟩:=and_maskZ a 63 (by omega)
 have HNB:=Lib.hid (show n ≤ 63 from hm)
 have em:bits .and .i64 a 63 = (n:Int):=em
 clear hm
 go_enter Tryz.func5,Tryz.ntmps5
 go_upto_region 4 with (go_at_call 6;refine (alive13_any w).mono ?_;rintro e w1 ⟨rfl,f1⟩;have HF1:=Lib.hid f1;clear f1)
 try rw [em]
 clear em
 go_upto_region 5 with fail
 have fr:Fr noB w1 (w1.alloc (.cells #[] 28)):=(Fr.refl noB w1).alloc _
 have HO0:=Lib.hid (show OwnC codR w1 (w1.alloc (.cells #[] 28)) (some ⟨w1.heap.size,0,none⟩) 0 [] from World.ownsRow_lit (base:=w1.heap.size) (e:=28) (size:=8) w1 #[] 0 (Nat.le_refl _) (by unfold maxLen;omega) (by simp))
 have HG0:=Lib.hid fr
 have HZ0:=Lib.hid (show w1.heap.size < (w1.alloc (.cells #[] 28)).heap.size by simp)
 clear fr
 generalize w1.alloc (.cells #[] 28) = w1' at HO0 HG0 HZ0 ⊢
 obtain ⟨A0,hA0⟩:∃ A:Option Addr,A = some ⟨w1.heap.size,0,none⟩:=⟨_,rfl⟩
 rw [← hA0] at HO0 ⊢
 clear hA0
 go_upto_region 6 with fail
 have fa:Fr noB w1' (w1'.alloc (codS.o zSt)):=(Fr.refl noB w1').alloc _
 have b0:=Cod.bxd_new (C:=codS) w1' zSt
 have HF2:=Lib.hid (HG0.out.step0 fa)
 have HO2:=Lib.hid (own_new0 HO0.out fa)
 have HNP:=Lib.hid (show w1.heap.size < w1'.heap.size from HZ0.out)
 clear fa
 generalize w1'.alloc (codS.o zSt) = w2 at b0 HF2 HO2 ⊢
 generalize w1'.heap.size = P at b0 HNP ⊢
 cases b with
 | true =>
  have hb:=Cod.bxd_blk b0
  have k1:w2.cell? ⟨P,1,none⟩ = some (.int .i64 0):=by rw [hb.cell];rfl
  have k2:=hb.frozen 1
  have hs:Blk (w2.setCell ⟨P,1,none⟩ (.int .i64 1)) P 24 (codS.cs trS):=hb.set 1 _
  have fs:Fr (oneB P) w2 (w2.setCell ⟨P,1,none⟩ (.int .i64 1)):=Fr.setCell (M:=oneB P) (Fr.refl _ w2) (p:=⟨P,1,none⟩) (fun _=>rfl) _
  have HF3:=Lib.hid (HF2.out.step1 fs (by have:=HNP.out;omega))
  have HB3:=Lib.hid (show codS.bxd (w2.setCell ⟨P,1,none⟩ (.int .i64 1)) P = some trS from Cod.bxd_of (by rw [Cod.o_eq];exact hs))
  have HO3:=Lib.hid (own_box hb HO2.out (by decide) fs)
  clear hb hs fs b0
  go_upto_region 8 with fail
  clear k1 k2
  generalize w2.setCell ⟨P,1,none⟩ (.int .i64 1) = w3 at HF3 HB3 HO3 ⊢
  obtain ⟨par,hpar⟩:∃ p,p = trS:=⟨_,rfl⟩
  rw [← hpar] at HB3
  have HPX:=Lib.hid (show (par = zSt ∨ par = trS) ∧ fixedS par = true ∧ wfS par = true by rw [hpar];exact ⟨by first | exact .inl rfl | exact .inr rfl,by decide,by decide⟩)
  have HPB:=Lib.hid (show (par = trS ↔ true = true) by rw [hpar];decide)
  clear hpar
  have H0:=Lib.hid (show ∃ (k:Nat) (A:Option Addr) (c:Nat) (l:List RwW),(Value.slice A0 0 0) = .slice A l.length c ∧ (Value.int .i64 ((0:Nat):Int)) = .int .i64 (k:Int) ∧ n = n - k ∧ k ≤ n ∧ l = wsF (deepF par) k ∧ OwnC codR w1 w3 A c l ∧ Fr noB w1 w3 ∧ codS.bxd w3 P = some (deepF par k) from ⟨0,A0,0,[],rfl,rfl,rfl,Nat.zero_le _,rfl,HO3.out,HF3.out,by rw [HB3.out];rfl⟩)
  clear HO3 HB3 HF3
  go_wp2_with fail
  go_loopg [5,7] n (fun gk ov iv wr=>∃ (k:Nat) (A:Option Addr) (c:Nat) (l:List RwW),ov = .slice A l.length c ∧ iv = .int .i64 (k:Int) ∧ gk = n - k ∧ k ≤ n ∧ l = wsF (deepF par) k ∧ OwnC codR w1 wr A c l ∧ Fr noB w1 wr ∧ codS.bxd wr P = some (deepF par k))
  case atStart=>exact H0.out
  case round =>
   clear H0
   obtain ⟨k,A,c,l,rfl,rfl,rfl,hk,hl,ho,hf,hb⟩:=hrel
   have HL:=Lib.hid hl
   have HO:=Lib.hid ho
   have HF:=Lib.hid hf
   have HB:=Lib.hid hb
   have HLL:=Lib.hid (show l.length = k by rw [hl,wsF_len])
   clear hl ho hf hb
   by_cases hlt:k < n
   ·have i1:(k:Int) < (n:Int):=by omega
    have wk:wrap64 ((k:Int) + 1) = (k:Int) + 1:=IntWalk.wrap64_in _ (by have:=HNB.out;omega)
    have HKL:=Lib.hid hlt
    clear hlt hk
    go_upto_region 12 with fail
    have fs:Fr noB wr (wr.alloc (codS.o ⟨(k:Int) + 1,1⟩)):=(Fr.refl noB wr).alloc _
    have HBS:=Lib.hid (Cod.bxd_new (C:=codS) wr ⟨(k:Int) + 1,1⟩)
    have qs:=Cod.bxd_rd HBS.out
    have HB2:=Lib.hid (Cod.bxd_fr0 HB.out fs)
    have qp:=Cod.bxd_rd HB2.out
    have HF2:=Lib.hid (HF.out.step0 fs)
    have HO2:=Lib.hid (own_new0 HO.out fs)
    clear fs
    generalize wr.alloc (codS.o ⟨(k:Int) + 1,1⟩) = w4 at HBS qs qp HF2 HO2 HB2 ⊢
    generalize wr.heap.size = S at HBS qs ⊢
    obtain ⟨pk,hpk⟩:∃ p,p = deepF par k:=⟨_,rfl⟩
    rw [← hpk] at qp
    have HPK:=Lib.hid hpk
    clear hpk
    obtain ⟨rw',hrw⟩:∃ q:RwW,q = ⟨⟨(k:Int) + 1,1⟩,pk,⟨(k:Int) + 1,1⟩,[110],none,0,0⟩:=⟨_,rfl⟩
    have HRW:=Lib.hid (show rw' = rowM (deepF par k) k by rw [hrw,HPK.out];rfl)
    have fn:Fr noB w4 (w4.alloc (codR.ro [⟨⟨(k:Int) + 1,1⟩,pk,⟨(k:Int) + 1,1⟩,[110],none,0,0⟩])):=(Fr.refl noB w4).alloc _
    have sl:=Cod.sl_new (C:=codR) w4 [⟨⟨(k:Int) + 1,1⟩,pk,⟨(k:Int) + 1,1⟩,[110],none,0,0⟩]
    have ho5:=own_new0 HO2.out fn
    have hf5:=HF2.out.step0 fn
    have HBS5:=Lib.hid (Cod.bxd_fr0 HBS.out fn)
    have HB5:=Lib.hid (Cod.bxd_fr0 HB2.out fn)
    clear fn
    go_upto_region 13 with (at_builtin;refine wpList_appC' etR w1 _ rfl _ _ rfl A l.length c l rfl rfl ho5 (some ⟨w4.heap.size,0,none⟩) 1 1 [⟨⟨(k:Int) + 1,1⟩,pk,⟨(k:Int) + 1,1⟩,[110],none,0,0⟩] rfl sl rfl (by have:=HLL.out;have:=HKL.out;have:=HNB.out;simp;omega) hf5.size ?_;intro A8 c8 w8 hc8 hmx8 ho8 hg8 hA8;rw [← hrw] at ho8 ⊢;obtain ⟨l8,hl8⟩:∃ t,t = l ++ [rw']:=⟨_,rfl⟩;rw [← hl8] at ho8 ⊢;have HL8:=Lib.hid hl8;clear hl8 hc8 hmx8)
    have fg:Fr (fun b=>A.map (·.block) = some b) _ w8:=Fr.ofGrown hg8 fun g hg=>hg
    have F8:=Lib.hid (Fr.own' hf5 ho5 hg8)
    have HO8:=Lib.hid ho8
    have HBS8:=Lib.hid (Cod.bxd_fr HBS5.out fg (blk_own (Cod.bxd_blk HBS5.out) ho5 (by decide)))
    have HB8:=Lib.hid (Cod.bxd_fr HB5.out fg (blk_own (Cod.bxd_blk HB5.out) ho5 (by decide)))
    clear hf5 ho5 hg8 hA8 ho8 sl qs qp hrw fg
    have q1:=Cod.bxd_rd HBS8.out
    have b1:=HB8.out
    obtain ⟨p1,p2,p3⟩:=Cod.put_fr b1 ⟨(k:Int) + 1,1⟩
    have hst:=okS.stR_box b1 ⟨(k:Int) + 1,1⟩
    have HP1:=Lib.hid p1
    have HP3:=Lib.hid p3
    have HO9:=Lib.hid (own_box (Cod.bxd_blk b1) HO8.out (by decide) p1)
    clear p1 p2 p3
    go_upto_region 10 with fail
    generalize codS.put w8 P ⟨(k:Int) + 1,1⟩ = w9 at HP1 HP3 HO9 ⊢
    clear hst q1 b1
    go_wp2_with fail
    go_roundg (n - (k + 1))
    case measure=>have:=HKL.out;omega
    case rel=>exact ⟨k + 1,A8,c8,l8,rfl,by first | exact congrArg (Value.int .i64) wk | simp,rfl,by have:=HKL.out;omega,by rw [HL8.out,HL.out,HRW.out,wsF_snoc],HO9.out,F8.out.step1 HP1.out (by have:=HNP.out;omega),HP3.out⟩
   ·have i1:¬ (k:Int) < (n:Int):=by omega
    obtain rfl:k = n:=by omega
    have HW:=Lib.hid (show l = wsF (deepF par) k from HL.out)
    clear hlt hk
    have HT:=Lib.hid (tree_deep HPX.out.2.1 (n:=k) (by have:=HNB.out;omega))
    have HNW:=Lib.hid (show NarrowZ (rowsF (deepF par) k) from fun q=>Nat.le_trans (kids_le _ _) (by rw [rowsF_len];have:=HNB.out;omega))
    go_upto_region 15 with fail
    have fx:Fr noB wr (wr.alloc (.cells #[.slice none 0 0] 32)):=(Fr.refl noB wr).alloc _
    have HX:=Lib.hid (BoxIn.new wr (fun _=>False))
    have HF2:=Lib.hid (HF.out.step0 fx)
    have HKD:=Lib.hid (show KdX (wr.alloc (.cells #[.slice none 0 0] 32)) wr.heap.size A l (rowsF (deepF par) k) from by
     have h1:=(Sl.own HO.out).fr0 fx
     rw [HW.out] at h1 ⊢
     refine wsF_kd (by have:=HNB.out;omega) (fun i hi=>deepF_wf HPX.out.2.2 i (by have:=HNB.out;omega)) h1 fun _=>(Off.own HO.out).mono fun b hb e=>?_
     have:=hb.2
     omega)
    have CS:=Lib.hid (svsave_any _ _ _ (fun g h=>h.elim) [] HX.out A c l.length l _ rfl HKD.out HT.out (by have:=all_len (H:=nameH) HT.out;rw [rowsF_len] at this;have:=HNB.out;simp;omega))
    clear fx
    have HWX:=Lib.hid (show w.heap.size ≤ wr.heap.size from (HF1.out.step0 HF.out).size)
    have HF4:=Lib.hid (HF1.out.step0 HF2.out)
    clear HO HF HF2 HB
    generalize wr.alloc (.cells #[.slice none 0 0] 32) = wx at HX HKD CS HF4 ⊢
    generalize wr.heap.size = X at HX HKD CS HWX ⊢
    go_upto_region 16 with (go_at_call 7;refine CS.out.mono ?_;rintro e w4 h4;obtain ⟨_,rfl,hx4,f4⟩:=h4.resolve_right (fun h=>h.1 HNW.out);obtain ⟨sv,hsv⟩:∃ s,s = saveZ nameH (rowsF (deepF par) k):=⟨_,rfl⟩;rw [← hsv];have HSV:=Lib.hid hsv;have HX4:=Lib.hid hx4;have HF5:=Lib.hid f4;clear hsv hx4 f4 h4)
    obtain ⟨pf1,pf2,pf3⟩:=putB_fr (bxI_new w4 zID) sv
    have fs:Fr noB w4 (putB (w4.alloc (ido zID)) w4.heap.size sv):=((Fr.refl noB w4).alloc (ido zID)).step1 pf1 (Nat.le_refl _)
    have q4:=bxI_rd pf3
    have HX5:=Lib.hid (HX4.out.fr0 fs)
    have HK5:=Lib.hid ((HKD.out.fr HF5.out).fr fs.any)
    have HF6:=Lib.hid ((HF4.out.step1 HF5.out HWX.out).step0 fs)
    clear pf1 pf2 pf3 fs
    generalize putB (w4.alloc (ido zID)) w4.heap.size sv = w5 at q4 HX5 HK5 HF6 ⊢
    generalize w4.heap.size = D at q4 ⊢
    have HCT:=Lib.hid (deep_count (H:=nameH) HPX.out.1 (n:=k) (by have:=HNB.out;omega))
    have HLB:=Lib.hid (show (putAll [] (allZ nameH (rowsF (deepF par) k))).length ≤ 1000000000 by
     rw [HCT.out]
     have:=HNB.out
     split <;> omega)
    have CL:=Lib.hid (svload_any w5 X _ _ HX5.out HLB.out sv)
    clear HX4 CS HKD HX HF5
    go_upto_region 17 with (go_at_call 9;refine CL.out.mono ?_;rintro e w6 h6;rw [HSV.out] at h6;obtain ⟨f6,h6a⟩:=h6.two HT.out HNW.out (fun b hb=>mem_putAll.2 (.inr hb));obtain ⟨A6,c6,ws6,E6,rfl,h6b⟩:=LdEnd.of h6a;have HF7:=Lib.hid f6;have H6:=Lib.hid h6b;clear f6 h6a h6b h6)
    have HX6:=Lib.hid (HX5.out.fr0 HF7.out)
    have HK6:=Lib.hid (HK5.out.fr HF7.out.any)
    obtain ⟨A0',c0,rs0,hk0,hr0⟩:=HX6.out
    have HRB:=Lib.hid (show rs0.length = (putAll [] (allZ nameH (rowsF (deepF par) k))).length from hr0.bs.len)
    have HK0:=Lib.hid hk0
    have HR0:=Lib.hid hr0
    clear hk0 hr0 q4
    have CC:=Lib.hid (fun w7 (f:Fr noB w6 w7)=>clash_any w7 A0' c0 rs0.length rs0 _ rfl (HR0.out.sl.fr0 f) (by rw [HRB.out];have:=HLB.out;omega) (HR0.out.bs.fr0 f))
    have HKX:=Lib.hid (fun w7 (f:Fr noB w6 w7)=>(show w7.cell? ⟨X,0,none⟩ = some (.slice A0' rs0.length c0) by rw [(HK0.out.fr f (by simp [noB])).cell];rfl))
    clear i1 CL
    have hq:(rs0.length:Int) = if (true = true ∧ 0 < k) then (k:Int) + 1 else max (k:Int) 1:=by
     rw [HRB.out,HCT.out]
     have hb:=HPB.out
     by_cases hc:par = trS ∧ 0 < k
     ·rw [if_pos hc,if_pos (by have h:=hb.1 hc.1;first | exact ⟨rfl,hc.2⟩ | exact absurd h (by decide) | exact h.elim)];omega
     ·rw [if_neg hc,if_neg (fun h=>hc (by first | exact ⟨hb.2 trivial,h.2⟩ | exact ⟨hb.2 rfl,h.2⟩ | exact absurd h.1 (by decide)))];omega
    have wk:wrap64 ((k:Int) + 1) = (k:Int) + 1:=IntWalk.wrap64_in _ (by have:=HNB.out;omega)
    by_cases h0:0 < k
    ·have j0:(0:Int) < (k:Int):=by omega
     simp [h0] at hq
     clear h0
     have HQL:=Lib.hid hq
     clear hq
     rcases H6.out with ⟨rfl,xs,hs6,hi6,hb6,hx6⟩ | ⟨hE,hNC⟩
     ·have CE:=Lib.hid (r12sameY_any w6 A6 A c6 c ws6.length l.length ws6 l xs _ rfl rfl hs6 HK6.out.sl hi6 HK6.out.inn (by omega) (by rw [HLL.out];have:=HNB.out;omega))
      clear hs6 hi6 hb6
      by_cases hx:xs = rowsF (deepF par) k
      ·rw [decide_eq_true hx] at CE
       clear hx hx6 H6
       go_wp2_with (go_at_call 11;refine CE.out.mono ?_;rintro e w7 ⟨rfl,f7⟩;have HF8:=Lib.hid f7;have k7:=HKX.out w7 f7;have hq:=HQL.out;clear f7)
       go_ret
       exact ⟨rfl,(HF6.out.step0 HF7.out).step0 HF8.out⟩
      ·rw [decide_eq_false hx] at CE
       have HNC:=Lib.hid (show ¬ NoClash nameH (putAll [] (allZ nameH (rowsF (deepF par) k))) from fun C=>hx (hx6 C))
       clear hx hx6 H6
       go_wp2_with (first
        | (go_at_call 11;refine CE.out.mono ?_;rintro e w7 ⟨rfl,f7⟩;have HF8:=Lib.hid f7;have k7:=HKX.out w7 f7;clear f7)
        | (go_at_call 12;refine (CC.out w7 HF8.out).mono ?_;rintro e w8 ⟨bb,rfl,f8,hcl⟩;obtain rfl:bb = true:=(by cases bb;exact absurd (hcl rfl) HNC.out;rfl);have HF9:=Lib.hid f8;clear f8 hcl))
       go_ret
       exact ⟨rfl,((HF6.out.step0 HF7.out).step0 HF8.out).step0 HF9.out⟩
     ·have HNC:=Lib.hid hNC
      have k6:=HKX.out w6 (Fr.refl _ _)
      clear hNC H6
      go_wp2_with (go_at_call 12;refine (CC.out w6 (Fr.refl _ _)).mono ?_;rintro e w8 ⟨bb,rfl,f8,hcl⟩;obtain rfl:bb = true:=(by cases bb;exact absurd (hcl rfl) HNC.out;rfl);have HF9:=Lib.hid f8;clear f8 hcl)
      go_ret
      exact ⟨rfl,(HF6.out.step0 HF7.out).step0 HF9.out⟩
    ·have j0:¬ (0:Int) < (k:Int):=by omega
     simp [h0] at hq
     clear h0
     have HQL:=Lib.hid hq
     clear hq
     rcases H6.out with ⟨rfl,xs,hs6,hi6,hb6,hx6⟩ | ⟨hE,hNC⟩
     ·have CE:=Lib.hid (r12sameY_any w6 A6 A c6 c ws6.length l.length ws6 l xs _ rfl rfl hs6 HK6.out.sl hi6 HK6.out.inn (by omega) (by rw [HLL.out];have:=HNB.out;omega))
      clear hs6 hi6 hb6
      by_cases hx:xs = rowsF (deepF par) k
      ·rw [decide_eq_true hx] at CE
       clear hx hx6 H6
       go_wp2_with (go_at_call 11;refine CE.out.mono ?_;rintro e w7 ⟨rfl,f7⟩;have HF8:=Lib.hid f7;have k7:=HKX.out w7 f7;have hq:=HQL.out;clear f7)
       go_ret
       exact ⟨rfl,(HF6.out.step0 HF7.out).step0 HF8.out⟩
      ·rw [decide_eq_false hx] at CE
       have HNC:=Lib.hid (show ¬ NoClash nameH (putAll [] (allZ nameH (rowsF (deepF par) k))) from fun C=>hx (hx6 C))
       clear hx hx6 H6
       go_wp2_with (first
        | (go_at_call 11;refine CE.out.mono ?_;rintro e w7 ⟨rfl,f7⟩;have HF8:=Lib.hid f7;have k7:=HKX.out w7 f7;clear f7)
        | (go_at_call 12;refine (CC.out w7 HF8.out).mono ?_;rintro e w8 ⟨bb,rfl,f8,hcl⟩;obtain rfl:bb = true:=(by cases bb;exact absurd (hcl rfl) HNC.out;rfl);have HF9:=Lib.hid f8;clear f8 hcl))
       go_ret
       exact ⟨rfl,((HF6.out.step0 HF7.out).step0 HF8.out).step0 HF9.out⟩
     ·have HNC:=Lib.hid hNC
      have k6:=HKX.out w6 (Fr.refl _ _)
      clear hNC H6
      go_wp2_with (go_at_call 12;refine (CC.out w6 (Fr.refl _ _)).mono ?_;rintro e w8 ⟨bb,rfl,f8,hcl⟩;obtain rfl:bb = true:=(by cases bb;exact absurd (hcl rfl) HNC.out;rfl);have HF9:=Lib.hid f8;clear f8 hcl)
      go_ret
      exact ⟨rfl,(HF6.out.step0 HF7.out).step0 HF9.out⟩
 | false =>
  go_upto_region 8 with fail
  have HF3:=Lib.hid HF2.out
  have HB3:=Lib.hid b0
  have HO3:=Lib.hid HO2.out
  clear b0
  generalize w2 = w3 at HF3 HB3 HO3 ⊢
  obtain ⟨par,hpar⟩:∃ p,p = zSt:=⟨_,rfl⟩
  rw [← hpar] at HB3
  have HPX:=Lib.hid (show (par = zSt ∨ par = trS) ∧ fixedS par = true ∧ wfS par = true by rw [hpar];exact ⟨by first | exact .inl rfl | exact .inr rfl,by decide,by decide⟩)
  have HPB:=Lib.hid (show (par = trS ↔ false = true) by rw [hpar];decide)
  clear hpar
  have H0:=Lib.hid (show ∃ (k:Nat) (A:Option Addr) (c:Nat) (l:List RwW),(Value.slice A0 0 0) = .slice A l.length c ∧ (Value.int .i64 ((0:Nat):Int)) = .int .i64 (k:Int) ∧ n = n - k ∧ k ≤ n ∧ l = wsF (deepF par) k ∧ OwnC codR w1 w3 A c l ∧ Fr noB w1 w3 ∧ codS.bxd w3 P = some (deepF par k) from ⟨0,A0,0,[],rfl,rfl,rfl,Nat.zero_le _,rfl,HO3.out,HF3.out,by rw [HB3.out];rfl⟩)
  clear HO3 HB3 HF3
  go_wp2_with fail
  go_loopg [5,7] n (fun gk ov iv wr=>∃ (k:Nat) (A:Option Addr) (c:Nat) (l:List RwW),ov = .slice A l.length c ∧ iv = .int .i64 (k:Int) ∧ gk = n - k ∧ k ≤ n ∧ l = wsF (deepF par) k ∧ OwnC codR w1 wr A c l ∧ Fr noB w1 wr ∧ codS.bxd wr P = some (deepF par k))
  case atStart=>exact H0.out
  case round =>
   clear H0
   obtain ⟨k,A,c,l,rfl,rfl,rfl,hk,hl,ho,hf,hb⟩:=hrel
   have HL:=Lib.hid hl
   have HO:=Lib.hid ho
   have HF:=Lib.hid hf
   have HB:=Lib.hid hb
   have HLL:=Lib.hid (show l.length = k by rw [hl,wsF_len])
   clear hl ho hf hb
   by_cases hlt:k < n
   ·have i1:(k:Int) < (n:Int):=by omega
    have wk:wrap64 ((k:Int) + 1) = (k:Int) + 1:=IntWalk.wrap64_in _ (by have:=HNB.out;omega)
    have HKL:=Lib.hid hlt
    clear hlt hk
    go_upto_region 12 with fail
    have fs:Fr noB wr (wr.alloc (codS.o ⟨(k:Int) + 1,1⟩)):=(Fr.refl noB wr).alloc _
    have HBS:=Lib.hid (Cod.bxd_new (C:=codS) wr ⟨(k:Int) + 1,1⟩)
    have qs:=Cod.bxd_rd HBS.out
    have HB2:=Lib.hid (Cod.bxd_fr0 HB.out fs)
    have qp:=Cod.bxd_rd HB2.out
    have HF2:=Lib.hid (HF.out.step0 fs)
    have HO2:=Lib.hid (own_new0 HO.out fs)
    clear fs
    generalize wr.alloc (codS.o ⟨(k:Int) + 1,1⟩) = w4 at HBS qs qp HF2 HO2 HB2 ⊢
    generalize wr.heap.size = S at HBS qs ⊢
    obtain ⟨pk,hpk⟩:∃ p,p = deepF par k:=⟨_,rfl⟩
    rw [← hpk] at qp
    have HPK:=Lib.hid hpk
    clear hpk
    obtain ⟨rw',hrw⟩:∃ q:RwW,q = ⟨⟨(k:Int) + 1,1⟩,pk,⟨(k:Int) + 1,1⟩,[110],none,0,0⟩:=⟨_,rfl⟩
    have HRW:=Lib.hid (show rw' = rowM (deepF par k) k by rw [hrw,HPK.out];rfl)
    have fn:Fr noB w4 (w4.alloc (codR.ro [⟨⟨(k:Int) + 1,1⟩,pk,⟨(k:Int) + 1,1⟩,[110],none,0,0⟩])):=(Fr.refl noB w4).alloc _
    have sl:=Cod.sl_new (C:=codR) w4 [⟨⟨(k:Int) + 1,1⟩,pk,⟨(k:Int) + 1,1⟩,[110],none,0,0⟩]
    have ho5:=own_new0 HO2.out fn
    have hf5:=HF2.out.step0 fn
    have HBS5:=Lib.hid (Cod.bxd_fr0 HBS.out fn)
    have HB5:=Lib.hid (Cod.bxd_fr0 HB2.out fn)
    clear fn
    go_upto_region 13 with (at_builtin;refine wpList_appC' etR w1 _ rfl _ _ rfl A l.length c l rfl rfl ho5 (some ⟨w4.heap.size,0,none⟩) 1 1 [⟨⟨(k:Int) + 1,1⟩,pk,⟨(k:Int) + 1,1⟩,[110],none,0,0⟩] rfl sl rfl (by have:=HLL.out;have:=HKL.out;have:=HNB.out;simp;omega) hf5.size ?_;intro A8 c8 w8 hc8 hmx8 ho8 hg8 hA8;rw [← hrw] at ho8 ⊢;obtain ⟨l8,hl8⟩:∃ t,t = l ++ [rw']:=⟨_,rfl⟩;rw [← hl8] at ho8 ⊢;have HL8:=Lib.hid hl8;clear hl8 hc8 hmx8)
    have fg:Fr (fun b=>A.map (·.block) = some b) _ w8:=Fr.ofGrown hg8 fun g hg=>hg
    have F8:=Lib.hid (Fr.own' hf5 ho5 hg8)
    have HO8:=Lib.hid ho8
    have HBS8:=Lib.hid (Cod.bxd_fr HBS5.out fg (blk_own (Cod.bxd_blk HBS5.out) ho5 (by decide)))
    have HB8:=Lib.hid (Cod.bxd_fr HB5.out fg (blk_own (Cod.bxd_blk HB5.out) ho5 (by decide)))
    clear hf5 ho5 hg8 hA8 ho8 sl qs qp hrw fg
    have q1:=Cod.bxd_rd HBS8.out
    have b1:=HB8.out
    obtain ⟨p1,p2,p3⟩:=Cod.put_fr b1 ⟨(k:Int) + 1,1⟩
    have hst:=okS.stR_box b1 ⟨(k:Int) + 1,1⟩
    have HP1:=Lib.hid p1
    have HP3:=Lib.hid p3
    have HO9:=Lib.hid (own_box (Cod.bxd_blk b1) HO8.out (by decide) p1)
    clear p1 p2 p3
    go_upto_region 10 with fail
    generalize codS.put w8 P ⟨(k:Int) + 1,1⟩ = w9 at HP1 HP3 HO9 ⊢
    clear hst q1 b1
    go_wp2_with fail
    go_roundg (n - (k + 1))
    case measure=>have:=HKL.out;omega
    case rel=>exact ⟨k + 1,A8,c8,l8,rfl,by first | exact congrArg (Value.int .i64) wk | simp,rfl,by have:=HKL.out;omega,by rw [HL8.out,HL.out,HRW.out,wsF_snoc],HO9.out,F8.out.step1 HP1.out (by have:=HNP.out;omega),HP3.out⟩
   ·have i1:¬ (k:Int) < (n:Int):=by omega
    obtain rfl:k = n:=by omega
    have HW:=Lib.hid (show l = wsF (deepF par) k from HL.out)
    clear hlt hk
    have HT:=Lib.hid (tree_deep HPX.out.2.1 (n:=k) (by have:=HNB.out;omega))
    have HNW:=Lib.hid (show NarrowZ (rowsF (deepF par) k) from fun q=>Nat.le_trans (kids_le _ _) (by rw [rowsF_len];have:=HNB.out;omega))
    go_upto_region 15 with fail
    have fx:Fr noB wr (wr.alloc (.cells #[.slice none 0 0] 32)):=(Fr.refl noB wr).alloc _
    have HX:=Lib.hid (BoxIn.new wr (fun _=>False))
    have HF2:=Lib.hid (HF.out.step0 fx)
    have HKD:=Lib.hid (show KdX (wr.alloc (.cells #[.slice none 0 0] 32)) wr.heap.size A l (rowsF (deepF par) k) from by
     have h1:=(Sl.own HO.out).fr0 fx
     rw [HW.out] at h1 ⊢
     refine wsF_kd (by have:=HNB.out;omega) (fun i hi=>deepF_wf HPX.out.2.2 i (by have:=HNB.out;omega)) h1 fun _=>(Off.own HO.out).mono fun b hb e=>?_
     have:=hb.2
     omega)
    have CS:=Lib.hid (svsave_any _ _ _ (fun g h=>h.elim) [] HX.out A c l.length l _ rfl HKD.out HT.out (by have:=all_len (H:=nameH) HT.out;rw [rowsF_len] at this;have:=HNB.out;simp;omega))
    clear fx
    have HWX:=Lib.hid (show w.heap.size ≤ wr.heap.size from (HF1.out.step0 HF.out).size)
    have HF4:=Lib.hid (HF1.out.step0 HF2.out)
    clear HO HF HF2 HB
    generalize wr.alloc (.cells #[.slice none 0 0] 32) = wx at HX HKD CS HF4 ⊢
    generalize wr.heap.size = X at HX HKD CS HWX ⊢
    go_upto_region 16 with (go_at_call 7;refine CS.out.mono ?_;rintro e w4 h4;obtain ⟨_,rfl,hx4,f4⟩:=h4.resolve_right (fun h=>h.1 HNW.out);obtain ⟨sv,hsv⟩:∃ s,s = saveZ nameH (rowsF (deepF par) k):=⟨_,rfl⟩;rw [← hsv];have HSV:=Lib.hid hsv;have HX4:=Lib.hid hx4;have HF5:=Lib.hid f4;clear hsv hx4 f4 h4)
    obtain ⟨pf1,pf2,pf3⟩:=putB_fr (bxI_new w4 zID) sv
    have fs:Fr noB w4 (putB (w4.alloc (ido zID)) w4.heap.size sv):=((Fr.refl noB w4).alloc (ido zID)).step1 pf1 (Nat.le_refl _)
    have q4:=bxI_rd pf3
    have HX5:=Lib.hid (HX4.out.fr0 fs)
    have HK5:=Lib.hid ((HKD.out.fr HF5.out).fr fs.any)
    have HF6:=Lib.hid ((HF4.out.step1 HF5.out HWX.out).step0 fs)
    clear pf1 pf2 pf3 fs
    generalize putB (w4.alloc (ido zID)) w4.heap.size sv = w5 at q4 HX5 HK5 HF6 ⊢
    generalize w4.heap.size = D at q4 ⊢
    have HCT:=Lib.hid (deep_count (H:=nameH) HPX.out.1 (n:=k) (by have:=HNB.out;omega))
    have HLB:=Lib.hid (show (putAll [] (allZ nameH (rowsF (deepF par) k))).length ≤ 1000000000 by
     rw [HCT.out]
     have:=HNB.out
     split <;> omega)
    have CL:=Lib.hid (svload_any w5 X _ _ HX5.out HLB.out sv)
    clear HX4 CS HKD HX HF5
    go_upto_region 17 with (go_at_call 9;refine CL.out.mono ?_;rintro e w6 h6;rw [HSV.out] at h6;obtain ⟨f6,h6a⟩:=h6.two HT.out HNW.out (fun b hb=>mem_putAll.2 (.inr hb));obtain ⟨A6,c6,ws6,E6,rfl,h6b⟩:=LdEnd.of h6a;have HF7:=Lib.hid f6;have H6:=Lib.hid h6b;clear f6 h6a h6b h6)
    have HX6:=Lib.hid (HX5.out.fr0 HF7.out)
    have HK6:=Lib.hid (HK5.out.fr HF7.out.any)
    obtain ⟨A0',c0,rs0,hk0,hr0⟩:=HX6.out
    have HRB:=Lib.hid (show rs0.length = (putAll [] (allZ nameH (rowsF (deepF par) k))).length from hr0.bs.len)
    have HK0:=Lib.hid hk0
    have HR0:=Lib.hid hr0
    clear hk0 hr0 q4
    have CC:=Lib.hid (fun w7 (f:Fr noB w6 w7)=>clash_any w7 A0' c0 rs0.length rs0 _ rfl (HR0.out.sl.fr0 f) (by rw [HRB.out];have:=HLB.out;omega) (HR0.out.bs.fr0 f))
    have HKX:=Lib.hid (fun w7 (f:Fr noB w6 w7)=>(show w7.cell? ⟨X,0,none⟩ = some (.slice A0' rs0.length c0) by rw [(HK0.out.fr f (by simp [noB])).cell];rfl))
    clear i1 CL
    have hq:(rs0.length:Int) = if (false = true ∧ 0 < k) then (k:Int) + 1 else max (k:Int) 1:=by
     rw [HRB.out,HCT.out]
     have hb:=HPB.out
     by_cases hc:par = trS ∧ 0 < k
     ·rw [if_pos hc,if_pos (by have h:=hb.1 hc.1;first | exact ⟨rfl,hc.2⟩ | exact absurd h (by decide) | exact h.elim)];omega
     ·rw [if_neg hc,if_neg (fun h=>hc (by first | exact ⟨hb.2 trivial,h.2⟩ | exact ⟨hb.2 rfl,h.2⟩ | exact absurd h.1 (by decide)))];omega
    have wk:wrap64 ((k:Int) + 1) = (k:Int) + 1:=IntWalk.wrap64_in _ (by have:=HNB.out;omega)
    by_cases h0:0 < k
    ·have j0:(0:Int) < (k:Int):=by omega
     simp [h0] at hq
     clear h0
     have HQL:=Lib.hid hq
     clear hq
     rcases H6.out with ⟨rfl,xs,hs6,hi6,hb6,hx6⟩ | ⟨hE,hNC⟩
     ·have CE:=Lib.hid (r12sameY_any w6 A6 A c6 c ws6.length l.length ws6 l xs _ rfl rfl hs6 HK6.out.sl hi6 HK6.out.inn (by omega) (by rw [HLL.out];have:=HNB.out;omega))
      clear hs6 hi6 hb6
      by_cases hx:xs = rowsF (deepF par) k
      ·rw [decide_eq_true hx] at CE
       clear hx hx6 H6
       go_wp2_with (go_at_call 11;refine CE.out.mono ?_;rintro e w7 ⟨rfl,f7⟩;have HF8:=Lib.hid f7;have k7:=HKX.out w7 f7;have hq:=HQL.out;clear f7)
       go_ret
       exact ⟨rfl,(HF6.out.step0 HF7.out).step0 HF8.out⟩
      ·rw [decide_eq_false hx] at CE
       have HNC:=Lib.hid (show ¬ NoClash nameH (putAll [] (allZ nameH (rowsF (deepF par) k))) from fun C=>hx (hx6 C))
       clear hx hx6 H6
       go_wp2_with (first
        | (go_at_call 11;refine CE.out.mono ?_;rintro e w7 ⟨rfl,f7⟩;have HF8:=Lib.hid f7;have k7:=HKX.out w7 f7;clear f7)
        | (go_at_call 12;refine (CC.out w7 HF8.out).mono ?_;rintro e w8 ⟨bb,rfl,f8,hcl⟩;obtain rfl:bb = true:=(by cases bb;exact absurd (hcl rfl) HNC.out;rfl);have HF9:=Lib.hid f8;clear f8 hcl))
       go_ret
       exact ⟨rfl,((HF6.out.step0 HF7.out).step0 HF8.out).step0 HF9.out⟩
     ·have HNC:=Lib.hid hNC
      have k6:=HKX.out w6 (Fr.refl _ _)
      clear hNC H6
      go_wp2_with (go_at_call 12;refine (CC.out w6 (Fr.refl _ _)).mono ?_;rintro e w8 ⟨bb,rfl,f8,hcl⟩;obtain rfl:bb = true:=(by cases bb;exact absurd (hcl rfl) HNC.out;rfl);have HF9:=Lib.hid f8;clear f8 hcl)
      go_ret
      exact ⟨rfl,(HF6.out.step0 HF7.out).step0 HF9.out⟩
    ·have j0:¬ (0:Int) < (k:Int):=by omega
     simp [h0] at hq
     clear h0
     have HQL:=Lib.hid hq
     clear hq
     rcases H6.out with ⟨rfl,xs,hs6,hi6,hb6,hx6⟩ | ⟨hE,hNC⟩
     ·have CE:=Lib.hid (r12sameY_any w6 A6 A c6 c ws6.length l.length ws6 l xs _ rfl rfl hs6 HK6.out.sl hi6 HK6.out.inn (by omega) (by rw [HLL.out];have:=HNB.out;omega))
      clear hs6 hi6 hb6
      by_cases hx:xs = rowsF (deepF par) k
      ·rw [decide_eq_true hx] at CE
       clear hx hx6 H6
       go_wp2_with (go_at_call 11;refine CE.out.mono ?_;rintro e w7 ⟨rfl,f7⟩;have HF8:=Lib.hid f7;have k7:=HKX.out w7 f7;have hq:=HQL.out;clear f7)
       go_ret
       exact ⟨rfl,(HF6.out.step0 HF7.out).step0 HF8.out⟩
      ·rw [decide_eq_false hx] at CE
       have HNC:=Lib.hid (show ¬ NoClash nameH (putAll [] (allZ nameH (rowsF (deepF par) k))) from fun C=>hx (hx6 C))
       clear hx hx6 H6
       go_wp2_with (first
        | (go_at_call 11;refine CE.out.mono ?_;rintro e w7 ⟨rfl,f7⟩;have HF8:=Lib.hid f7;have k7:=HKX.out w7 f7;clear f7)
        | (go_at_call 12;refine (CC.out w7 HF8.out).mono ?_;rintro e w8 ⟨bb,rfl,f8,hcl⟩;obtain rfl:bb = true:=(by cases bb;exact absurd (hcl rfl) HNC.out;rfl);have HF9:=Lib.hid f8;clear f8 hcl))
       go_ret
       exact ⟨rfl,((HF6.out.step0 HF7.out).step0 HF8.out).step0 HF9.out⟩
     ·have HNC:=Lib.hid hNC
      have k6:=HKX.out w6 (Fr.refl _ _)
      clear hNC H6
      go_wp2_with (go_at_call 12;refine (CC.out w6 (Fr.refl _ _)).mono ?_;rintro e w8 ⟨bb,rfl,f8,hcl⟩;obtain rfl:bb = true:=(by cases bb;exact absurd (hcl rfl) HNC.out;rfl);have HF9:=Lib.hid f8;clear f8 hcl)
      go_ret
      exact ⟨rfl,(HF6.out.step0 HF7.out).step0 HF9.out⟩
end Go.Proofs.YtnkdnbjmhoegkaaGreat
