/- Walks: the stable sort of a row of structs: symMerge in general; stable, SortStableFunc. (ex_ldO_at, Fr.sameO) Walks: the stable sort of a row of structs: stable, SortStableFunc. -/
import Derived.Test.YtjpieiccpbcabaaGreatStabXoKu
set_option linter.unusedVariables false
set_option linter.unusedSimpArgs false
namespace Go.Proofs.YtjpieiccpbcabaaGreat
open Go.RowKit Go.Sort
set_option maxRecDepth 100000 in
set_option maxHeartbeats 4000000 in
theorem sym3Op_any (p:OpW → Prop) (cf:OpW → OpW → Int) (hL:SWO (ltC cf)) (w0:World) (g c N:Nat) (cv:Value) (hC:CmpFOp p w0 g cv cf N) (d:Array OpW) (a m b:Nat) (w:World) (hN:d.size = N) (S:SWF codO p w0 g d w) (g1:m ≠ a + 1) (g2:b ≠ m + 1) (h1:a < m) (h2:m < b) (h3:b ≤ N) (hb:N ≤ 140737488355328)
  (sl:SortedIn (ltC cf) a m d) (sr:SortedIn (ltC cf) m b d)
  (hI:∀ (a' m' b':Nat) (d':Array OpW) (W:World),b' - a' < b - a → d'.size = N → SWF codO p w0 g d' W → a' < m' → m' < b' → b' ≤ N → SortedIn (ltC cf) a' m' d' → SortedIn (ltC cf) m' b' d' →
   Calls Tryz.prog 132 #[.slice (some ⟨g,0,none⟩) N c,.int .i64 a',.int .i64 m',.int .i64 b',.func (.func 75) #[] #[]] W (SortTo codO p w0 g cf d' a' b')) :
  Calls Tryz.prog 132 #[.slice (some ⟨g,0,none⟩) N c,.int .i64 a,.int .i64 m,.int .i64 b,.func (.func 75) #[] #[]] w (SortTo codO p w0 g cf d a b):=by
 have HS:=Lib.hid S
 have HN:=Lib.hid hN
 have HC:=Lib.hid hC
 have HL:=Lib.hid hL
 have HA:=Lib.hid sl
 have HB:=Lib.hid sr
 have HI:=Lib.hid hI
 have m0:=m0M h1 h2
 have k1:((m:Int) - (a:Int) == 1) = false:=by rw [beq_eq_false_iff_ne];omega
 have k2:IntKind.i64.wrap ((m:Int) - (a:Int)) = (m:Int) - (a:Int):=by rw [IntKind.wrap_i64];omega
 have k3:((b:Int) - (m:Int) == 1) = false:=by rw [beq_eq_false_iff_ne];omega
 have k4:IntKind.i64.wrap ((b:Int) - (m:Int)) = (b:Int) - (m:Int):=by rw [IntKind.wrap_i64];omega
 obtain ⟨md,hmd⟩:∃ x:Nat,x = (a + b) / 2:=⟨_,rfl⟩
 have wm:((a:Int) + (b:Int)) / 2 = (md:Int):=by omega
 obtain ⟨nn,hnn⟩:∃ x:Nat,x = md + m:=⟨_,rfl⟩
 have wn:IntKind.i64.wrap ((md:Int) + (m:Int)) = (nn:Int):=by rw [IntKind.wrap_i64];omega
 obtain ⟨pp,hpp⟩:∃ x:Nat,x + 1 = nn:=⟨nn - 1,by omega⟩
 have wp:IntKind.i64.wrap ((nn:Int) - 1) = (pp:Int):=by rw [IntKind.wrap_i64];omega
 clear S hN hC hL sl sr hI
 have EQ0:=Lib.hid (And.intro hmd (And.intro hnn hpp))
 have HM0:=Lib.hid m0
 go_enter Tryz.func132,Tryz.ntmps132
 clear m0
 have hmdb:md + m ≤ 281474976710656:=by omega
 clear hmd hnn hpp
 go_upto_if 140 with fail
 clear k1 k2 k3 k4 wm
 go_cut [20,21] from 25 (fun vs vr wx=>vs = .int .i64 ((s0M a m b ((a + b) / 2):Nat):Int) ∧ vr = .int .i64 ((r0M m ((a + b) / 2):Nat):Int) ∧ wx = w)
 case first =>
  as_aux_lemma =>
  by_cases hmm:md < m
  ·have n0:(md:Int) < (m:Int):=by omega
   obtain ⟨s0,hs⟩:∃ x:Nat,x = s0M a m b ((a + b) / 2):=⟨_,rfl⟩
   have ws:IntKind.i64.wrap ((nn:Int) - (b:Int)) = (s0:Int):=by
    obtain ⟨hmd,hnn,hpp⟩:=EQ0.out
    unfold s0M at hs
    rw [if_pos (by omega)] at hs
    rw [IntKind.wrap_i64];omega
   have HE:=Lib.hid (And.intro hs (show md = r0M m ((a + b) / 2) by
    obtain ⟨hmd,hnn,hpp⟩:=EQ0.out
    unfold r0M
    rw [if_pos (by omega)]
    omega))
   clear hs
   go_wp2_with fail
   go_meet
   case rel=>exact ⟨by rw [← HE.out.1],by rw [← HE.out.2],rfl⟩
  ·have n0:¬ (md:Int) < (m:Int):=by omega
   have HE:=Lib.hid (show s0M a m b ((a + b) / 2) = a ∧ r0M m ((a + b) / 2) = m by
    obtain ⟨hmd,hnn,hpp⟩:=EQ0.out
    unfold s0M r0M
    rw [if_neg (by omega),if_neg (by omega)]
    exact ⟨rfl,rfl⟩)
   go_wp2_with fail
   go_meet
   case rel=>exact ⟨by rw [HE.out.1],by rw [HE.out.2],rfl⟩
 case rest =>
  obtain ⟨rfl,rfl,hwc⟩:=hcut
  subst hwc
  obtain ⟨s0,hs0⟩:∃ x:Nat,x = s0M a m b ((a + b) / 2):=⟨_,rfl⟩
  obtain ⟨r0,hr0⟩:∃ x:Nat,x = r0M m ((a + b) / 2):=⟨_,rfl⟩
  rw [← hs0,← hr0]
  have HE:=Lib.hid (And.intro hs0 hr0)
  clear hs0 hr0
  go_wp2_with fail
  go_loopg [20,21] (r0 - s0) (fun gk iv jv wr=>BsR codO p w0 g d (fun i j=>CutM (ltC cf) d ((a + b) / 2 + m) (s0M a m b ((a + b) / 2)) (r0M m ((a + b) / 2)) i j) gk iv jv wr)
  case atStart =>
   obtain ⟨hs0,hr0⟩:=HE.out
   have hsr:=HM0.out.2.1
   refine ⟨s0,r0,rfl,rfl,rfl,by rw [hs0,hr0];exact hsr,?_,HS.out⟩
   have:=CutM.start (lt:=ltC cf) (d:=d) (n:=(a + b) / 2 + m) hsr
   rw [← hs0,← hr0] at this ⊢
   exact this
  case round =>
   obtain ⟨i,j,rfl,rfl,rfl,hij,hK,S1⟩:=hrel
   have HS1:=Lib.hid S1
   have HK:=Lib.hid hK
   clear S1 hK
   as_aux_lemma =>
   by_cases hlt:i < j
   ·skip
    as_aux_lemma =>
    obtain ⟨q,hq⟩:∃ x:Nat,x = (a + b) / 2 + m - 1 - (i + j) / 2:=⟨_,rfl⟩
    have hqf:q < b ∧ IntKind.i64.wrap ((pp:Int) - (((i + j) / 2:Nat):Int)) = (q:Int):=by
     obtain ⟨hmd,hnn,hpp⟩:=EQ0.out
     have kb:=HK.out.h1
     have kt:=HK.out.h3
     have hbd:=HM0.out.2.2.2.2.1 ((i + j) / 2) (by omega) (by omega)
     rw [IntKind.wrap_i64]
     omega
    obtain ⟨hqb,wq⟩:=hqf
    have hmh:(i + j) / 2 < m:=by
     have kb:=HK.out.h1
     have kt:=HK.out.h3
     exact (HM0.out.2.2.2.2.1 ((i + j) / 2) (by omega) (by omega)).2.1
    obtain ⟨h,hh⟩:∃ x:Nat,x = (i + j) / 2:=⟨_,rfl⟩
    have wh:((i:Int) + (j:Int)) / 2 = (h:Int):=by omega
    have hih:i ≤ h:=by omega
    have hhj:h < j:=by omega
    have i1:(i:Int) < (j:Int):=by omega
    have wr1:IntKind.i64.wrap ((i:Int) + (j:Int)) = (i:Int) + (j:Int):=by rw [IntKind.wrap_i64];omega
    have HH:=Lib.hid hh
    clear hh
    have hHH:=HH.out
    rw [← hHH] at hq wq hmh
    clear hHH
    have ci:(q:Int) < (N:Int):=by omega
    have cj:(h:Int) < (N:Int):=by omega
    have i0:(0:Int) ≤ (q:Int):=by omega
    have j0:(0:Int) ≤ (h:Int):=by omega
    have hg:=HS1.out.lt
    have px:=HS1.out.ok q (by rw [HN.out];omega)
    have py:=HS1.out.ok h (by rw [HN.out];omega)
    have e1:codO.rd wr g (q * 41) = some d[q]!:=HS1.out.rd q (by rw [HN.out];omega)
    have e2:codO.rd wr g (h * 41) = some d[h]!:=HS1.out.rd h (by rw [HN.out];omega)
    have D1:∀ w',Fr noB wr w' → Calls Tryz.prog 75 #[.agg (codO.A d[q]!),.agg (codO.A d[h]!)] w' (Gives w' (.int .i64 (cf d[q]! d[h]!))):=fun w' f=>HC.out w' d HN.out (HS1.out.step f) _ _ px py
    obtain ⟨z,hz⟩:∃ z,cf d[q]! d[h]! = z:=⟨_,rfl⟩
    rw [hz] at D1
    have HZ:=Lib.hid (show ltC cf d[q]! d[h]! = decide (z < 0) by show decide _ = _;rw [hz])
    generalize d[q]! = xa at e1 D1
    generalize d[h]! = xb at e2 D1
    clear hz px py
    rw [hq] at HZ
    have HQ:=Lib.hid hq
    clear hq
    by_cases hneg:z < 0
    ·have HZ2:=Lib.hid (HZ.out.trans (decide_eq_true hneg))
     go_wp2_with fail
     refine wp_region_fr (by kernel_rfl) (by kernel_rfl) ?_
     iterate 11
      refine wpQ_take (v:=?_) (by rfl) (fun wS hS=>?_) ?_
      rotate_left
      ·obtain ⟨L1,L2,L3,L4,L5,L6⟩:=Fr.same hS;have L8:=Fr.sameO hS;go_simp;try with_reducible rfl
      try simp only [sA1,sA2,sA3,Act.put,sA4,sA5,sA6]
     refine wpQ_call (by rfl) (fun wS hS=>⟨_,_,?qh148,Calls.fr hS (D1 _ hS)⟩) ?qk148
     case qh148=>obtain ⟨L1,L2,L3,L4,L5,L6⟩:=Fr.same hS;go_simp;try with_reducible rfl
     try simp only [sA1,sA2,sA3,Act.put,sA4,sA5,sA6]
     iterate 2
      refine wpQ_take (v:=?_) (by rfl) (fun wS hS=>?_) ?_
      rotate_left
      ·obtain ⟨L1,L2,L3,L4,L5,L6⟩:=Fr.same hS;have L8:=Fr.sameO hS;go_simp;try with_reducible rfl
      try simp only [sA1,sA2,sA3,Act.put,sA4,sA5,sA6]
     refine wpQ_nil ?_
     intro w1 f1
     clear D1 e1 e2
     go_wp2_with fail
     go_roundg (h - i)
     case measure=>omega
     case rel=>exact ⟨i,h,rfl,rfl,rfl,by omega,HK.out.down hih hhj HZ2.out,HS1.out.step f1⟩
    ·have HZ2:=Lib.hid (HZ.out.trans (decide_eq_false hneg))
     go_wp2_with fail
     refine wp_region_fr (by kernel_rfl) (by kernel_rfl) ?_
     iterate 11
      refine wpQ_take (v:=?_) (by rfl) (fun wS hS=>?_) ?_
      rotate_left
      ·obtain ⟨L1,L2,L3,L4,L5,L6⟩:=Fr.same hS;have L8:=Fr.sameO hS;go_simp;try with_reducible rfl
      try simp only [sA1,sA2,sA3,Act.put,sA4,sA5,sA6]
     refine wpQ_call (by rfl) (fun wS hS=>⟨_,_,?qh171,Calls.fr hS (D1 _ hS)⟩) ?qk171
     case qh171=>obtain ⟨L1,L2,L3,L4,L5,L6⟩:=Fr.same hS;go_simp;try with_reducible rfl
     try simp only [sA1,sA2,sA3,Act.put,sA4,sA5,sA6]
     iterate 2
      refine wpQ_take (v:=?_) (by rfl) (fun wS hS=>?_) ?_
      rotate_left
      ·obtain ⟨L1,L2,L3,L4,L5,L6⟩:=Fr.same hS;have L8:=Fr.sameO hS;go_simp;try with_reducible rfl
      try simp only [sA1,sA2,sA3,Act.put,sA4,sA5,sA6]
     refine wpQ_nil ?_
     intro w1 f1
     clear D1 e1 e2
     have hz1:(!decide (z < 0)) = true:=by simp;omega
     go_wp2_with fail
     go_roundg (j - (h + 1))
     case measure=>omega
     case rel=>exact ⟨h + 1,j,by simp,rfl,rfl,by omega,HK.out.up hih hhj HZ2.out,HS1.out.step f1⟩
     exact Bool.noConfusion (hz1.symm.trans (show (!decide (z < 0)) = false by assumption))
   ·obtain rfl:i = j:=by omega
    obtain ⟨b1,b2,b3,b4,b5,b6⟩:=HK.out.bounds h1 h2
    have i1:¬ (i:Int) < (i:Int):=by omega
    obtain ⟨e,he⟩:∃ x:Nat,x = (a + b) / 2 + m - i:=⟨_,rfl⟩
    have we:IntKind.i64.wrap ((nn:Int) - (i:Int)) = (e:Int):=by
     obtain ⟨hmd,hnn,hpp⟩:=EQ0.out
     rw [IntKind.wrap_i64];omega
    obtain ⟨m5,m6⟩:=HM0.out.2.2.2.2.2
    have hmd:=EQ0.out.1
    rw [← he] at b4 b5 b6
    rw [← hmd] at b3 b6 m5 m6
    have HQ5:=Lib.hid (And.intro he hmd)
    clear he hmd
    -- a region that reckons 'x && y' into slot 185, at world wr
    go_upto_region 39 with fail
    go_cut [185] from 25 (fun v wx=>∃ B:Bool,v = .bool B ∧ B = decide (i < m ∧ m < e) ∧ wx = wr)
    case first =>
     as_aux_lemma =>
     by_cases c1:i < m
     ·have o1:(i:Int) < (m:Int):=by omega
      by_cases c2:m < e
      ·have o2:(m:Int) < (e:Int):=by omega
       go_wp2_with fail
       go_meet
       case rel=>exact ⟨true,rfl,by simp [c1,c2],rfl⟩
      ·have o2:¬ (m:Int) < (e:Int):=by omega
       go_wp2_with fail
       go_meet
       case rel=>exact ⟨false,rfl,by simp [c2],rfl⟩
     ·have o1:¬ (i:Int) < (m:Int):=by omega
      go_wp2_with fail
      go_meet
      case rel=>exact ⟨false,rfl,by simp [c1],rfl⟩
    case rest =>
     obtain ⟨B,rfl,hB,hwc⟩:=hcut
     have HBx:=Lib.hid hB
     subst hwc
     clear hB
     as_aux_lemma =>
     go_upto_if 185 with fail
     go_cut [] from 25 (fun wx=>∃ d1,SWF codO p w0 g d1 wx ∧ RotIn i m e d d1)
     case first =>
      as_aux_lemma =>
      cases B with
      | true =>
       have hc:=of_decide_eq_true HBx.out.symm
       go_wp2_with (go_at_call 162;refine (rotOp_any p w0 g c N d i m e _ HN.out HS1.out hc.1 hc.2 (by omega) hb _).mono ?_;rintro ew w1 ⟨rfl,d1,S1',R1⟩)
       go_meet
       case rel=>exact ⟨d1,S1',R1⟩
      | false =>
       have hc:=of_decide_eq_false HBx.out.symm
       go_wp2_with fail
       go_meet
       case rel =>
        refine ⟨d,HS1.out,?_⟩
        by_cases hc1:i < m
        ·rw [show e = m by omega]
         exact RotIn.right (by omega) d
        ·rw [show i = m by omega]
         exact RotIn.left (by omega) d
     case rest =>
      clear HBx
      obtain ⟨d1,S1',R1⟩:=hcut
      as_aux_lemma =>
      have HV:=Lib.hid (show Halves (ltC cf) a i md e b d1 by
       have hv:=HK.out.halves HL.out h1 h2 HA.out HB.out (show RotIn i m ((a + b) / 2 + m - i) d d1 by rw [← HQ5.out.1];exact R1)
       rw [← HQ5.out.1,← HQ5.out.2] at hv
       exact hv)
      have HP1:=Lib.hid (permIn_mono d d1 i e a b b1 b5 (by rw [HN.out];exact h3) (R1.perm b2 b4 (by rw [HN.out];omega)))
      have hz1:=Lib.hid (show d1.size = N from R1.size.trans HN.out)
      have HS1':=Lib.hid S1'
      clear R1 S1'
      -- a region that reckons 'x && y' into slot 199, at world wc
      go_upto_region 41 with fail
      go_cut [199] from 25 (fun v wx=>∃ B:Bool,v = .bool B ∧ B = decide (a < i ∧ i < md) ∧ wx = wc)
      case first =>
       as_aux_lemma =>
       by_cases c1:a < i
       ·have o1:(a:Int) < (i:Int):=by omega
        by_cases c2:i < md
        ·have o2:(i:Int) < (md:Int):=by omega
         go_wp2_with fail
         go_meet
         case rel=>exact ⟨true,rfl,by simp [c1,c2],rfl⟩
        ·have o2:¬ (i:Int) < (md:Int):=by omega
         go_wp2_with fail
         go_meet
         case rel=>exact ⟨false,rfl,by simp [c2],rfl⟩
       ·have o1:¬ (a:Int) < (i:Int):=by omega
        go_wp2_with fail
        go_meet
        case rel=>exact ⟨false,rfl,by simp [c1],rfl⟩
      case rest =>
       obtain ⟨B,rfl,hB,hwc⟩:=hcut
       have HBx:=Lib.hid hB
       subst hwc
       clear hB
       as_aux_lemma =>
       go_upto_if 199 with fail
       go_cut [] from 25 (fun wx=>∃ d2,SWF codO p w0 g d2 wx ∧ PermIn a md d1 d2 ∧ SortedIn (ltC cf) a md d2)
       case first =>
        as_aux_lemma =>
        cases B with
        | true =>
         have hc:=of_decide_eq_true HBx.out.symm
         go_wp2_with (go_at_call 132;refine (HI.out a i md d1 _ (by omega) hz1.out HS1'.out hc.1 hc.2 (by omega) HV.out.p1 HV.out.p2).mono ?_;rintro ew w2 ⟨rfl,d2,S2,P2,T2⟩)
         go_meet
         case rel=>exact ⟨d2,S2,P2,T2⟩
        | false =>
         have hc:=of_decide_eq_false HBx.out.symm
         go_wp2_with fail
         go_meet
         case rel=>exact ⟨d1,HS1'.out,permIn_refl _ _ _,sorted_empty hc (by omega) (by omega) HV.out.p1 HV.out.p2⟩
       case rest =>
        clear HBx
        obtain ⟨d2,S2,P2,T2⟩:=hcut
        as_aux_lemma =>
        have HS2:=Lib.hid S2
        have HP2:=Lib.hid P2
        have HT2:=Lib.hid T2
        have hz2:=Lib.hid (show d2.size = N from P2.1.trans hz1.out)
        have q3:=Lib.hid (perm_keepS P2 (.inl (Nat.le_refl _)) HV.out.p3)
        have q4:=Lib.hid (perm_keepS P2 (.inl b6) HV.out.p4)
        clear S2 P2 T2
        -- a region that reckons 'x && y' into slot 213, at world wc
        go_upto_region 43 with fail
        go_cut [213] from 25 (fun v wx=>∃ B:Bool,v = .bool B ∧ B = decide (md < e ∧ e < b) ∧ wx = wc)
        case first =>
         as_aux_lemma =>
         by_cases c1:md < e
         ·have o1:(md:Int) < (e:Int):=by omega
          by_cases c2:e < b
          ·have o2:(e:Int) < (b:Int):=by omega
           go_wp2_with fail
           go_meet
           case rel=>exact ⟨true,rfl,by simp [c1,c2],rfl⟩
          ·have o2:¬ (e:Int) < (b:Int):=by omega
           go_wp2_with fail
           go_meet
           case rel=>exact ⟨false,rfl,by simp [c2],rfl⟩
         ·have o1:¬ (md:Int) < (e:Int):=by omega
          go_wp2_with fail
          go_meet
          case rel=>exact ⟨false,rfl,by simp [c1],rfl⟩
        case rest =>
         obtain ⟨B,rfl,hB,hwc⟩:=hcut
         have HBx:=Lib.hid hB
         subst hwc
         clear hB
         as_aux_lemma =>
         cases B with
         | true =>
          have hc:=of_decide_eq_true HBx.out.symm
          go_wp2_with (go_at_call 132;refine (HI.out md e b d2 _ (by omega) hz2.out HS2.out hc.1 hc.2 h3 q3.out q4.out).mono ?_;rintro ew w3 ⟨rfl,d3,S3,P3,T3⟩)
          go_end0
          exact ⟨rfl,d3,S3,merge_done (m:=m) (s:=i) (e:=e) (mid:=md) (by rw [HN.out];exact h3) (by omega) (by omega) HP1.out HV.out.x HP2.out HT2.out P3 T3⟩
         | false =>
          have hc:=of_decide_eq_false HBx.out.symm
          go_wp2_with fail
          go_end0
          exact ⟨rfl,d2,HS2.out,merge_done (m:=m) (s:=i) (e:=e) (mid:=md) (by rw [HN.out];exact h3) (by omega) (by omega) HP1.out HV.out.x HP2.out HT2.out (permIn_refl _ _ _) (sorted_empty hc (by omega) (by omega) q3.out q4.out)⟩
theorem symOp_any (p:OpW → Prop) (cf:OpW → OpW → Int) (hL:SWO (ltC cf)) (w0:World) (g c N:Nat) (cv:Value) (hC:CmpFOp p w0 g cv cf N) (hb:N ≤ 140737488355328) (n:Nat):∀ (a m b:Nat) (d:Array OpW) (w:World),b - a ≤ n → d.size = N → SWF codO p w0 g d w → a < m → m < b → b ≤ N → SortedIn (ltC cf) a m d → SortedIn (ltC cf) m b d →
  Calls Tryz.prog 132 #[.slice (some ⟨g,0,none⟩) N c,.int .i64 a,.int .i64 m,.int .i64 b,.func (.func 75) #[] #[]] w (SortTo codO p w0 g cf d a b):=by
 induction n with
 | zero=>intro a m b d w h;omega
 | succ n ih =>
  intro a m b d w hn hN S h1 h2 h3 sl sr
  by_cases g1:m = a + 1
  ·exact sym1Op_any p cf hL w0 g c N cv hC d a m b w hN S g1 h2 h3 hb sr
  ·by_cases g2:b = m + 1
   ·exact sym2Op_any p cf hL w0 g c N cv hC d a m b w hN S g1 h1 g2 h3 hb sl
   ·exact sym3Op_any p cf hL w0 g c N cv hC d a m b w hN S g1 g2 h1 h2 h3 hb sl sr (fun a' m' b' d' W hd=>ih a' m' b' d' W (by omega))
set_option maxRecDepth 100000 in
set_option maxHeartbeats 4000000 in
theorem stabOp_any (p:OpW → Prop) (cf:OpW → OpW → Int) (hL:SWO (ltC cf)) (w0:World) (g c N:Nat) (cv:Value) (hC:CmpFOp p w0 g cv cf N) (d:Array OpW) (w:World) (hN:d.size = N) (S:SWF codO p w0 g d w) (hb:N ≤ 70368744177664) :
  Calls Tryz.prog 103 #[.slice (some ⟨g,0,none⟩) N c,.int .i64 N,.func (.func 75) #[] #[]] w (SortTo codO p w0 g cf d 0 N):=by
 have HS:=Lib.hid S
 have HN:=Lib.hid hN
 have HC:=Lib.hid hC
 have HL:=Lib.hid hL
 clear S hN hC hL
 go_enter Tryz.func103,Tryz.ntmps103
 go_wp2_with fail
 go_loopg [7,8] N (fun gk av bv wr=>StA codO p w0 g (ltC cf) d N gk av bv wr)
 case atStart=>exact ⟨0,0,20,d,rfl,rfl,rfl,rfl,rfl,by omega,HN.out,permIn_refl _ _ _,by rw [Nat.zero_mul];exact BlocksTo.zero (by decide),HS.out⟩
 case round =>
  obtain ⟨q,a,b,dk,rfl,rfl,ha,hbq,rfl,haN,hdk,hp,hbl,S1⟩:=hrel
  have HS1:=Lib.hid S1
  have HP1:=Lib.hid hp
  have HB1:=Lib.hid hbl
  have HD:=Lib.hid hdk
  clear S1 hp hbl hdk
  have hab:b = a + 20:=by rw [ha,hbq];omega
  by_cases hlt:b ≤ N
  ·have i1:(b:Int) ≤ (N:Int):=by omega
   obtain ⟨b',hb'⟩:∃ x:Nat,x = b + 20:=⟨_,rfl⟩
   have wb:IntKind.i64.wrap ((b:Int) + 20) = (b':Int):=by rw [IntKind.wrap_i64];omega
   have HE:=Lib.hid (And.intro ha (And.intro hbq (And.intro hab hb')))
   clear ha hbq hab hb'
   go_wp2_with (go_at_call 131;refine (insOp_any p cf HL.out w0 g c N cv HC.out dk a b _ HD.out HS1.out (by have:=HE.out.2.2.1;omega) hlt (by omega)).mono ?_;rintro e w2 ⟨rfl,d2,S2,P2,T2⟩)
   go_roundg (N - b)
   case measure=>have:=HE.out.2.2.1;omega
   case rel =>
    obtain ⟨ha,hbq,hab,hb'⟩:=HE.out
    rw [ha,hbq] at P2 T2
    exact ⟨q + 1,b,b',d2,rfl,rfl,hbq,by omega,rfl,hlt,P2.1.trans HD.out,perm_up HP1.out P2 (by omega) HD.out,HB1.out.step (by decide) P2 T2,S2⟩
  ·have i1:¬ (b:Int) ≤ (N:Int):=by omega
   have HE:=Lib.hid (And.intro ha (And.intro hbq hab))
   clear ha hbq hab
   go_wp2_with (go_at_call 131;refine (insOp_any p cf HL.out w0 g c N cv HC.out dk a N _ HD.out HS1.out haN (Nat.le_refl _) (by omega)).mono ?_;rintro e w2 ⟨rfl,d2,S2,P2,T2⟩)
   have hfin:Blocks (ltC cf) 20 N d2:=by
    obtain ⟨ha,hbq,hab⟩:=HE.out
    rw [ha] at P2 T2
    exact HB1.out.done (by decide) (by omega) (by omega) P2 T2
   have HB2:=Lib.hid hfin
   have HP2:=Lib.hid (perm_up HP1.out P2 (Nat.le_refl _) HD.out)
   have HD2:=Lib.hid (P2.1.trans HD.out)
   have HS2:=Lib.hid S2
   clear hfin P2 T2 S2
   go_loopg [6] (N - 20) (fun gk kv wr=>StB codO p w0 g (ltC cf) d N gk kv wr)
   case atStart=>exact ⟨20,d2,rfl,by decide,by omega,by omega,HD2.out,HP2.out,HB2.out,HS2.out⟩
   case round =>
    obtain ⟨k,dk,rfl,hk0,hk20,hgk,hdk,hp,hbl,S1⟩:=hrel
    have HS1:=Lib.hid S1
    have HP1:=Lib.hid hp
    have HB1:=Lib.hid hbl
    have HD:=Lib.hid hdk
    have HG:=Lib.hid hgk
    clear S1 hp hbl hdk hgk HB2 HP2 HD2 HS2
    by_cases hkN:k < N
    ·have i2:(k:Int) < (N:Int):=by omega
     obtain ⟨k2,hk2⟩:∃ x:Nat,x = 2 * k:=⟨_,rfl⟩
     have w2a:IntKind.i64.wrap (2 * (k:Int)) = (k2:Int):=by rw [IntKind.wrap_i64];omega
     have w2b:IntKind.i64.wrap ((k:Int) * 2) = (k2:Int):=by rw [IntKind.wrap_i64];omega
     have hk2p:0 < k2:=by omega
     have HK2:=Lib.hid hk2
     clear hk2
     go_wp2_with fail
     go_loopg [7,8] N (fun gk av bv wr=>StC codO p w0 g (ltC cf) d N k gk av bv wr)
     case atStart=>exact ⟨0,0,k2,dk,rfl,rfl,by omega,by have:=HK2.out;omega,by omega,by omega,HD.out,HP1.out,Pairs.start hk0 HB1.out,HS1.out⟩
     case round =>
      obtain ⟨q,a,b,dj,rfl,rfl,ha,hbq,rfl,haN,hdj,hp,hpr,S3⟩:=hrel
      have HS3:=Lib.hid S3
      have HP3:=Lib.hid hp
      have HB3:=Lib.hid hpr
      have HD3:=Lib.hid hdj
      clear S3 hp hpr hdj
      have hab:b = a + k2:=by rw [ha,hbq,HK2.out,Nat.add_mul];omega
      obtain ⟨m,hm⟩:∃ x:Nat,x = a + k:=⟨_,rfl⟩
      have wm:IntKind.i64.wrap ((a:Int) + (k:Int)) = (m:Int):=by rw [IntKind.wrap_i64];omega
      by_cases hlt:b ≤ N
      ·have i3:(b:Int) ≤ (N:Int):=by omega
       obtain ⟨b',hb'⟩:∃ x:Nat,x = b + k2:=⟨_,rfl⟩
       have wb:IntKind.i64.wrap ((b:Int) + (k2:Int)) = (b':Int):=by
        have:=HK2.out
        rw [IntKind.wrap_i64];omega
       have HSL:=Lib.hid (show SortedIn (ltC cf) a m dj by
        have:=HB3.out.left (by have:=HK2.out;omega)
        rwa [← ha,← hm] at this)
       have HSR:=Lib.hid (show SortedIn (ltC cf) m b dj by
        have:=HB3.out.right
        rwa [← ha,← hm,← HK2.out,← hab,Nat.min_eq_left hlt] at this)
       have HE:=Lib.hid (And.intro ha (And.intro hbq (And.intro hab (And.intro hb' hm))))
       clear ha hbq hab hb' hm
       go_wp2_with (go_at_call 132;refine (symOp_any p cf HL.out w0 g c N cv HC.out (by omega) (b - a) a m b dj _ (Nat.le_refl _) HD3.out HS3.out (by obtain ⟨z1,z2,z3,z4,z5⟩:=HE.out;omega) (by obtain ⟨z1,z2,z3,z4,z5⟩:=HE.out;have:=HK2.out;omega) hlt HSL.out HSR.out).mono ?_;rintro e w2 ⟨rfl,d2,S2,P2,T2⟩)
       go_roundg (N - b)
       case measure=>have:=HE.out.2.2.1;omega
       case rel =>
        obtain ⟨ha,hbq,hab,hb',hm⟩:=HE.out
        have hk2:=HK2.out
        have P3:=perm_up HP3.out P2 (by omega) HD3.out
        have z2:=P2.1.trans HD3.out
        rw [ha,hbq] at P2 T2
        exact ⟨q + 1,b,b',d2,rfl,rfl,hbq,by rw [hb',hbq,hk2,Nat.add_mul (q + 1)];omega,rfl,hlt,z2,P3,HB3.out.step hk0 P2 T2,S2⟩
      ·have i3:¬ (b:Int) ≤ (N:Int):=by omega
       have HSL:=Lib.hid (fun hmN:m ≤ N=>(show SortedIn (ltC cf) a m dj by
        have:=HB3.out.left (by omega)
        rwa [← ha,← hm] at this))
       have HSR:=Lib.hid (show SortedIn (ltC cf) m N dj by
        have:=HB3.out.right
        rwa [← ha,← hm,← HK2.out,← hab,Nat.min_eq_right (by omega)] at this)
       have HTL:=Lib.hid (fun hmN:N ≤ m=>(show SortedIn (ltC cf) a N dj by
        have:=HB3.out.tail (by omega)
        rwa [← ha] at this))
       have HDN:=Lib.hid (fun (d2:Array OpW) (P2:PermIn a N dj d2) (T2:SortedIn (ltC cf) a N d2)=>(show Blocks (ltC cf) k2 N d2 by
        rw [HK2.out]
        rw [ha] at P2 T2
        exact HB3.out.done hk0 (by omega) (by omega) P2 T2))
       have HE:=Lib.hid (And.intro ha (And.intro hbq (And.intro hab hm)))
       clear ha hbq hab hm
       by_cases hmN:m < N
       ·have i4:(m:Int) < (N:Int):=by omega
        go_wp2_with (go_at_call 132;refine (symOp_any p cf HL.out w0 g c N cv HC.out (by omega) (N - a) a m N dj _ (Nat.le_refl _) HD3.out HS3.out (by obtain ⟨z1,z2,z3,z4⟩:=HE.out;omega) hmN (Nat.le_refl _) (HSL.out (by omega)) HSR.out).mono ?_;rintro e w2 ⟨rfl,d2,S2,P2,T2⟩)
        go_roundg (N - k2)
        case measure=>have:=HG.out;have:=HK2.out;omega
        case rel=>exact ⟨k2,d2,rfl,hk2p,by have:=HK2.out;omega,rfl,P2.1.trans HD3.out,perm_up HP3.out P2 (Nat.le_refl _) HD3.out,HDN.out d2 P2 T2,S2⟩
       ·have i4:¬ (m:Int) < (N:Int):=by omega
        go_wp2_with fail
        go_roundg (N - k2)
        case measure=>have:=HG.out;have:=HK2.out;omega
        case rel=>exact ⟨k2,dj,rfl,hk2p,by have:=HK2.out;omega,rfl,HD3.out,HP3.out,HDN.out dj (permIn_refl _ _ _) (HTL.out (by omega)),HS3.out⟩
    ·have i2:¬ (k:Int) < (N:Int):=by omega
     go_wp2_with fail
     go_end0
     exact ⟨rfl,dk,HS1.out,HP1.out,HB1.out.all (by omega)⟩
set_option maxRecDepth 100000 in
theorem insOp_none (w:World) (A:Option Addr) (c:Nat) (fv:Value):Calls Tryz.prog 131 #[.slice A 0 c,.int .i64 0,.int .i64 0,fv] w fun e w'=>e = .returned (.tuple #[]) ∧ Fr noB w w':=by
 go_enter Tryz.func131,Tryz.ntmps131
 go_wp2_with fail
 go_loopg [8] 0 (fun gk iv wr=>iv = .int .i64 1 ∧ Fr noB w wr)
 case atStart=>exact ⟨rfl,Fr.refl _ _⟩
 case round =>
  obtain ⟨rfl,hf⟩:=hrel
  go_wp2_with fail
  go_end0
  exact ⟨rfl,hf⟩
set_option maxRecDepth 100000 in
theorem stabOp_none (w:World) (A:Option Addr) (c:Nat) (fv:Value):Calls Tryz.prog 103 #[.slice A 0 c,.int .i64 0,fv] w fun e w'=>e = .returned (.tuple #[]) ∧ Fr noB w w':=by
 go_enter Tryz.func103,Tryz.ntmps103
 go_wp2_with fail
 go_loopg [7,8] 0 (fun gk av bv wr=>av = .int .i64 0 ∧ bv = .int .i64 20 ∧ Fr noB w wr)
 case atStart=>exact ⟨rfl,rfl,Fr.refl _ _⟩
 case round =>
  obtain ⟨rfl,rfl,hf⟩:=hrel
  go_wp2_with (go_at_call 131;refine (insOp_none _ A c _).mono ?_;rintro e w2 ⟨rfl,f2⟩)
  have hf2:=hf.step0 f2
  go_loopg [6] 0 (fun gk kv wr=>kv = .int .i64 20 ∧ Fr noB w wr)
  case atStart=>exact ⟨rfl,hf2⟩
  case round =>
   obtain ⟨rfl,hf3⟩:=hrel
   go_wp2_with fail
   go_end0
   exact ⟨rfl,hf3⟩
set_option maxRecDepth 100000 in
theorem ssOp_any (p:OpW → Prop) (cf:OpW → OpW → Int) (hL:SWO (ltC cf)) (w:World) (base:Nat) (A:Option Addr) (c n:Nat) (l:List OpW) (cv:Value) (hn:l.length = n) (ho:w.ownsRow base codO.t codO.n (.slice A n c) n (codO.row l)) (hp:∀ x ∈ l,p x) (hb:n ≤ 70368744177664)
  (hC:∀ g,A = some ⟨g,0,none⟩ → CmpFOp p w g cv cf n) :
  Calls Tryz.prog 74 #[.slice A n c,.func (.func 75) #[] #[]] w fun e w'=>e = .returned (.tuple #[]) ∧ ∃ l':List OpW,l'.Perm l ∧ l'.Pairwise (fun x y=>ltC cf y x = false) ∧ Sl w' A (codO.row l') ∧ Fr (fun b=>A.map (·.block) = some b) w w' ∧ (∀ g,A = some ⟨g,0,none⟩ → l' ≠ [] → RwA codO w' g l'.toArray):=by
 by_cases h0:l = []
 ·subst h0
  simp only [List.length_nil] at hn
  subst hn
  go_enter Tryz.func74,Tryz.ntmps74
  go_wp2_with (go_at_call 103;refine (stabOp_none w A c _).mono ?_;rintro e w2 ⟨rfl,f2⟩)
  go_end0
  exact ⟨rfl,[],.refl _,.nil,Sl.nil _ _,f2.any,fun g hg h=>absurd rfl h⟩
 ·obtain ⟨g,rfl,hg,hn',hnc,hr⟩:=RwA.own ho h0
  have S:SWF codO p w g l.toArray w:=⟨Fr.refl _ _,hr,fun i hi=>by
   rw [getElem!_pos _ i hi]
   exact hp _ (by simp)⟩
  have HC:=Lib.hid (stabOp_any p cf hL w g c n cv (hC g rfl) l.toArray w (by simp [hn']) S hb)
  have HN':=Lib.hid hn'
  clear ho hr hC S hn hn'
  go_enter Tryz.func74,Tryz.ntmps74
  go_wp2_with (go_at_call 103;refine HC.out.mono ?_;rintro e w2 ⟨rfl,d2,S2,P2,T2⟩)
  go_end0
  have hn':=HN'.out
  refine ⟨rfl,d2.toList,?_,?_,S2.row.sl,S2.fr.mono (fun b hb=>by have e:b = g:=hb;simp [e]),fun g' hg' _=>by
   injection hg' with hg'
   injection hg' with hg'
   subst hg'
   simpa using S2.row⟩
  ·have:=P2.2.2
   have e1:d2.size = n:=P2.1.trans (by simp [hn'])
   rw [show d2.extract 0 n = d2 by rw [← e1];simp,show l.toArray.extract 0 n = l.toArray by rw [hn'];simp] at this
   simpa using this
  ·have e1:d2.size = n:=P2.1.trans (by simp [hn'])
   rw [List.pairwise_iff_getElem]
   intro i j hi hj hij
   have:=T2 i j (Nat.zero_le _) hij (by simpa [e1] using hj)
   rw [getElem!_pos d2 i (by simpa using hi),getElem!_pos d2 j (by simpa using hj)] at this
   simpa using this
end Go.Proofs.YtjpieiccpbcabaaGreat
