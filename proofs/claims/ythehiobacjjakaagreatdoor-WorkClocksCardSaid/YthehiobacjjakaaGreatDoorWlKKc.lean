/- The law WorkClocks: its walk. (ex_ldS_at) -/
import Derived.Test.YthehiobacjjakaaGreatDoorFrameLKc
import Derived.Test.YthehiobacjjakaaGreatDoorClkPKc
import Derived.Deep.CutRange
set_option linter.unusedVariables false
set_option linter.unusedSimpArgs false
namespace Go.Proofs.YthehiobacjjakaaGreatDoor
open Go.RowKit Go.Maps Go.Sort
def ClkR (W:World) (P:Nat) (l:List OpL) (gk:Nat) (iv:Value) (wr:World):Prop :=
 ∃ (k:Nat) (D:Dft) (d:DfW) (rs:List RwW),iv = .int .i64 (k:Int) ∧ gk = l.length - k ∧ k ≤ l.length ∧ Dw W wr P D d rs ∧ TreeOk D.rows ∧ wfS D.next = true ∧ Fr noB W wr
structure ClkF (D:Dft) (o:OpL) (r:Dft × Int) (m a:Int):Prop where
 no:(r.2 ≠ 0 ∨ o.Kind < 1 ∨ 3 < o.Kind) → m = 0 ∧ a = 0
 put:r.2 = 0 → o.Kind = 1 → m = a + 1
 one:r.2 = 0 → 1 < o.Kind → o.Kind ≤ 3 → m = 1 ∧ a = 0
 m0:0 ≤ m ∧ m ≤ 6000
 a0:0 ≤ a ∧ a ≤ 6000
 R:r.1.next.R = D.next.R
theorem clk_all {D:Dft} {o:OpL} (ht:TreeOk D.rows) (h:DoesOk D o):ClkF D o (doesF D o) ((doesF D o).1.next.T - D.next.T) (((doesF D o).1.rows.length:Int) - (D.rows.length:Int)):=by
 have hl:=h.tree.len
 have h1:=h.no
 have h2:=h.put
 have h3:=h.one
 generalize doesF D o = r at hl h1 h2 h3
 have hc:(r.2 ≠ 0 ∨ o.Kind < 1 ∨ 3 < o.Kind) ∨ (r.2 = 0 ∧ o.Kind = 1) ∨ (r.2 = 0 ∧ 1 < o.Kind ∧ o.Kind ≤ 3):=by omega
 rcases hc with hc | hc | hc
 ·have e:=h1 hc
  exact ⟨fun _=>by rw [e];omega,fun a b=>by omega,fun a b c=>by omega,by rw [e];omega,by rw [e];omega,by rw [e]⟩
 ·obtain ⟨k,e1,e2⟩:=h2 hc.1 hc.2
  have e3:r.1.next.T = D.next.T + ((k + 1:Nat):Int):=by rw [e2];rfl
  have e4:r.1.next.R = D.next.R:=by rw [e2];rfl
  exact ⟨fun h=>by omega,fun _ _=>by omega,fun a b c=>by omega,by omega,by omega,e4⟩
 ·obtain ⟨e1,e2⟩:=h3 hc.1 hc.2.1 hc.2.2
  have e3:r.1.next.T = D.next.T + ((1:Nat):Int):=by rw [e2];rfl
  have e4:r.1.next.R = D.next.R:=by rw [e2];rfl
  exact ⟨fun h=>by omega,fun a b=>by omega,fun _ _ _=>by omega,by omega,by omega,e4⟩
set_option maxRecDepth 100000 in
set_option maxHeartbeats 4000000 in
theorem clocks_any (W0:World) (hT0:HasT W0) (hM0:HasMW W0) (A:Option Addr) (c n:Nat) (l:List OpL) (hn:l.length = n) (hs:Sl W0 A (codLp.row l)) (hb:l.length ≤ 140737488355328) :
  Calls Tryz.prog 7 #[.slice A n c] W0 (Gives W0 (.bool true)):=by
 subst hn
 have HT0:=Lib.hid hT0
 have HM0:=Lib.hid hM0
 have HS:=Lib.hid hs
 have AL:=Lib.hid (alive17_any W0 hT0 hM0)
 clear hT0 hM0 hs
 go_enter Tryz.func7,Tryz.ntmps7
 by_cases h20:20 < l.length
 ·have i20:(20:Int) < (l.length:Int):=by omega
  go_wp2_with (go_at_call 8;refine AL.out.mono ?_;rintro e w1 ⟨rfl,f1⟩)
  go_ret
  exact ⟨rfl,f1⟩
 ·have i20:¬ (20:Int) < (l.length:Int):=by omega
  have HL:=Lib.hid (show l.length ≤ 20 by omega)
  clear h20
  go_upto_region 6 with (first
   | (go_at_call 8;refine AL.out.mono ?_;rintro e w1 ⟨rfl,f1⟩)
   | (go_at_call 24;refine (start_any w1).mono ?_;rintro e W ⟨rfl,f2⟩)
   | (go_at_call 9;refine (new_nil W ⟨10,1⟩).mono ?_;rintro e w3 ⟨⟨P,d0,rs0,rfl,hd0⟩,f3⟩))
  have FW:=Lib.hid (f1.step0 f2)
  have HT:=Lib.hid (HT0.out.fr FW.out)
  have HM:=Lib.hid (HM0.out.fr FW.out)
  have H0:=Lib.hid (show ClkR W P l l.length (.int .i64 ((0:Nat):Int)) w3 from ⟨0,⟨[],⟨10,1⟩⟩,d0,rs0,rfl,rfl,by omega,hd0,tree_nil,by decide,f3⟩)
  clear f1 f2 f3 hd0 i20
  go_wp2_with fail
  go_loopg [20] l.length (fun gk iv wr=>ClkR W P l gk iv wr)
  case atStart=>exact H0.out
  case round =>
   clear H0
   obtain ⟨k,D,d,rs,rfl,rfl,hk,hd,ht,hw,hf⟩:=hrel
   have HD:=Lib.hid hd
   have HTR:=Lib.hid ht
   have HW:=Lib.hid hw
   have HF:=Lib.hid hf
   clear hd ht hw hf
   by_cases hlt:k < l.length
   ·have i1:(k:Int) < (l.length:Int):=by omega
    have i0:(0:Int) ≤ (k:Int):=by omega
    have hsl:=(HS.out.fr0 (FW.out.step0 HF.out))
    obtain ⟨g,off,rfl,hg⟩:=Sl.addr hsl (by omega)
    have ro:codLp.rd wr g (off + k * 35) = some l[k]:=Sl.rd hsl k hlt
    generalize l[k] = o at ro
    have HLT:=Lib.hid hlt
    clear hsl hg hlt hk
    go_upto_region 9 with fail
    have f4:Fr noB wr (wr.alloc (codLp.o o)):=(Fr.refl noB wr).alloc _
    have q4:=Cod.rd_new' (C:=codLp) wr o
    have D4:=Lib.hid (HD.out.fr0 f4)
    have F4:=Lib.hid (HF.out.step0 f4)
    clear ro f4
    generalize wr.alloc (codLp.o o) = w4 at q4 D4 F4 ⊢
    obtain ⟨Q,eQ⟩:∃ Q,Q = wr.heap.size:=⟨_,rfl⟩
    rw [← eQ] at q4 ⊢
    have HQE:=Lib.hid eQ
    clear eQ
    have qa:=(lpAt q4).A
    have qz:=(lpAt q4).Z
    have Q4:=Lib.hid q4
    clear q4
    by_cases hA:2000 < o.A.length
    ·have iA:(2000:Int) < ((str o.A).size:Int):=by rw [sz_str];omega
     clear hA
     go_wp2_with fail
     go_ret
     exact ⟨rfl,FW.out.step0 F4.out⟩
    ·have iA:¬ (2000:Int) < ((str o.A).size:Int):=by rw [sz_str];omega
     by_cases hZ:2000 < o.Z.length
     ·have iZ:(2000:Int) < ((str o.Z).size:Int):=by rw [sz_str];omega
      clear hA hZ
      go_wp2_with fail
      go_ret
      exact ⟨rfl,FW.out.step0 F4.out⟩
     ·have iZ:¬ (2000:Int) < ((str o.Z).size:Int):=by rw [sz_str];omega
      have HAZ:=Lib.hid (And.intro hA hZ)
      clear hA hZ
      go_upto_region 11 with fail
      clear qa qz iA iZ
      have HPQ:=Lib.hid (show P < Q ∧ ∀ b,d.A.map (·.block) = some b → b < Q from ⟨by have:=Cod.bxd_lt HD.out.bx;have:=HQE.out;omega,fun b hb=>by have:=(own_lt HD.out.own b hb).2;have:=HQE.out;omega⟩)
      go_upto_region 12 with (first
       | (go_at_call 15;refine (next_call D4.out).mono ?_;rintro e w5 ⟨rfl,f5⟩)
       | (go_at_call 17;refine (rows_call (D4.out.fr0 f5) HTR.out).mono ?_;rintro e w6 ⟨A6,c6,rs6,rfl,l6,o6,a6,f6⟩))
      have f7:Fr noB w6 (w6.alloc (codS.o D.next)):=(Fr.refl noB w6).alloc _
      have q7:codS.rd (w6.alloc (codS.o D.next)) w6.heap.size 0 = some D.next:=Cod.rd_new' (C:=codS) w6 D.next
      have fx:=f5.step0 (f6.step0 f7)
      have D7:=Lib.hid (D4.out.fr0 fx)
      have F7:=Lib.hid (F4.out.step0 fx)
      have Q7:=Cod.rd_fr0 Q4.out fx
      have hN:Q < w6.heap.size:=by have h1:=Cod.rd_lt Q4.out;have h2:=(f5.step0 f6).size;omega
      clear fx f5 f6 f7 l6 o6 a6
      generalize w6.alloc (codS.o D.next) = w7 at q7 D7 F7 Q7 ⊢
      generalize w6.heap.size = N at q7 hN ⊢
      have HN:=Lib.hid hN
      have HQ7:=Lib.hid q7
      have HO7:=Lib.hid Q7
      clear q7 hN
      have DO:=does_ok HTR.out HW.out o
      have HTN:=Lib.hid (And.intro DO.tree DO.nx)
      have CF:=clk_all HTR.out DO
      have DC:=does_any D7.out HTR.out HW.out F7.out HT.out HM.out o (by have:=HAZ.out;omega) (by have:=HAZ.out;omega)
      generalize doesF D o = r at HTN CF DC
      have DC:=Lib.hid DC
      clear DO
      go_upto_region 13 with (go_at_call 11;refine DC.out.mono ?_;rintro e w8 ⟨rfl,k8⟩)
      have F8:=Lib.hid (k8.old D7.out F7.out)
      have hnN:¬ dM P d N:=by
       have h1:=HPQ.out
       have h2:=HN.out
       rintro (e | e)
       ·omega
       ·have:=h1.2 _ e;omega
      have hnQ:¬ dM P d Q:=by
       have h1:=HPQ.out
       rintro (e | e)
       ·omega
       ·have:=h1.2 _ e;omega
      have N8:=Lib.hid (Cod.rd_fr HQ7.out k8.fr hnN)
      have O8:=Lib.hid (Cod.rd_fr HO7.out k8.fr hnQ)
      obtain ⟨⟨d8,rs8,hd8,_⟩,_⟩:=k8
      have D8:=Lib.hid hd8
      clear hnN hnQ hd8 Q7 DC
      obtain ⟨m,hm⟩:∃ m,m = r.1.next.T - D.next.T:=⟨_,rfl⟩
      obtain ⟨a,ha⟩:∃ a,a = (r.1.rows.length:Int) - (D.rows.length:Int):=⟨_,rfl⟩
      rw [← hm,← ha] at CF
      have CF:=Lib.hid CF
      have hwm:wrap64 (r.1.next.T - D.next.T) = m:=by rw [← hm];exact IntWalk.wrap64_in _ (by have:=CF.out.m0;omega)
      have hwa:wrap64 ((r.1.rows.length:Int) - (D.rows.length:Int)) = a:=by rw [← ha];exact IntWalk.wrap64_in _ (by have:=CF.out.a0;omega)
      have hwm2:IntKind.i64.wrap (r.1.next.T - D.next.T) = m:=by rw [← hm];exact IntWalk.i64_in _ (by have:=CF.out.m0;omega)
      have HWM:=Lib.hid (And.intro hwm2 hwa)
      clear hm ha hwm hwm2 hwa
      have keep:∀ w' w'':World,Fr noB w' w'' → (w'.cell? ⟨N,0,none⟩ = some (.int .i64 D.next.T) ∧ w'.cell? ⟨N,1,none⟩ = some (.int .i64 D.next.R)) → (w''.cell? ⟨N,0,none⟩ = some (.int .i64 D.next.T) ∧ w''.cell? ⟨N,1,none⟩ = some (.int .i64 D.next.R)):=fun w' w'' f h=>⟨cell_fr0 h.1 f,cell_fr0 h.2 f⟩
      have FD:=Lib.hid (show Fr noB w8 w8.drew from (Fr.refl noB w8).drew)
      have hF0:=keep _ _ FD.out ⟨by simpa using Cod.rd_cell N8.out 0 (v:=.int .i64 D.next.T) rfl,by simpa using Cod.rd_cell N8.out 1 (v:=.int .i64 D.next.R) rfl⟩
      have NC:=Lib.hid (next_call (D8.out.fr0 FD.out))
      refine wp_region_M 6 7 [⟨4398046511104,8,0⟩,⟨8796093022208,4398046511104,1⟩,⟨17592186044416,8796093022208,2⟩,⟨35184372088832,64,0⟩,⟨70368744177664,35184372088832,8⟩,⟨140737488355328,87960930222080,20⟩,⟨512,140737488355328,63⟩] [(true,0),(true,3),(true,4),(false,1),(true,2),(true,5)] (fun w'=>w'.cell? ⟨N,0,none⟩ = some (.int .i64 D.next.T) ∧ w'.cell? ⟨N,1,none⟩ = some (.int .i64 D.next.R)) (by kernel_rfl) rfl (by kernel_rfl) (by kernel_rfl) (by kernel_rfl) hF0 (fun hA hF=>?_)
      clear hF0
      have D9:=Lib.hid (D8.out.fr0 FD.out)
      have F9:=Lib.hid (F8.out.step0 FD.out)
      have O9:=Lib.hid (Cod.rd_fr0 O8.out FD.out)
      generalize w8.drew = V at D9 F9 O9 NC hF ⊢
      iterate 3
       refine wpAnyS_take (v:=?_) hA rfl (fun _ _ _ h=>h) (Or.inl ⟨by rfl,?_⟩) hF (fun hA=>?_)
       rotate_left
       ·intro wS hSw;(try dsimp only at hSw);obtain ⟨s1,s2⟩:=hSw;first | (apply Eq.trans;apply ex_ldS_at;exact rfl;exact rfl;assumption;with_reducible rfl) | (go_simp;try with_reducible rfl)
       try simp only [sA1,sA2,sA3,Act.put,sA4,sA5,sA6]
      refine wpAnyS_one hA rfl (fun K' hK=>?_)
      go_simp
      go_at_call 15
      refine NC.out.mono ?_
      rintro e u1 ⟨rfl,fu⟩
      replace hF:=keep _ _ fu hF
      refine hK.out _ _ hF (fun hA=>?_)
      clear hK K'
      try simp only [sA1,sA2,sA3,Act.put,sA4,sA5,sA6]
      iterate 2
       refine wpAnyS_take (v:=?_) hA rfl (fun _ _ _ h=>h) (Or.inl ⟨by rfl,?_⟩) hF (fun hA=>?_)
       rotate_left
       ·intro wS hSw;(try dsimp only at hSw);obtain ⟨s1,s2⟩:=hSw;first | (apply Eq.trans;apply ex_ldS_at;exact rfl;exact rfl;assumption;with_reducible rfl) | (go_simp;try with_reducible rfl)
       try simp only [sA1,sA2,sA3,Act.put,sA4,sA5,sA6]
      refine wpAnyS_end hA rfl ?_
      simp only [List.drop_succ_cons,List.drop_zero]
      have D10:=Lib.hid (D9.out.fr0 fu)
      have F10:=Lib.hid (F9.out.step0 fu)
      have O10:=Lib.hid (Cod.rd_fr0 O9.out fu)
      have HF10:=Lib.hid hF
      clear fu hF NC FD
      go_upto_region 14 with fail
      go_upto_region 17 with (go_at_call 17;refine (rows_call D10.out HTN.out.1).mono ?_;rintro e w11 ⟨A11,c11,rs11,rfl,l11,o11,a11,f11⟩)
      have D11:=Lib.hid (D10.out.fr0 f11)
      have F11:=Lib.hid (F10.out.step0 f11)
      have O11:=Cod.rd_fr0 O10.out f11
      have HF11:=Lib.hid (keep _ _ f11 HF10.out)
      have qk:=(lpAt O11).kind
      clear l11 o11 a11 f11 HF10 O10 D10 F10
      rw [HWM.out.1,HWM.out.2]
      go_cut [8,41,59] from 59 to 71 (fun v8 v41 v wx=>∃ b:Bool,v8 = .int .i64 r.2 ∧ v41 = .int .i64 r.2 ∧ v = .bool b ∧ (b = true ↔ (r.2 ≠ 0 ∨ o.Kind < 1 ∨ 3 < o.Kind)) ∧ w11 = wx)
      case first =>
       by_cases h1:r.2 = 0
       ·have b1:(r.2 == 0) = true:=by simp [h1]
        have H1:=Lib.hid h1
        clear h1
        by_cases h2:o.Kind < 1
        ·go_wp2_with fail
         go_meet
         case rel=>exact ⟨true,by rw [H1.out],by rw [H1.out],rfl,⟨fun _=>.inr (.inl h2),fun _=>rfl⟩,rfl⟩
        ·by_cases h3:3 < o.Kind
         ·go_wp2_with fail
          go_meet
          case rel=>exact ⟨true,by rw [H1.out],by rw [H1.out],rfl,⟨fun _=>.inr (.inr h3),fun _=>rfl⟩,rfl⟩
         ·go_wp2_with fail
          go_meet
          case rel=>exact ⟨false,by rw [H1.out],by rw [H1.out],rfl,⟨fun h=>(by cases h),fun h=>by have:=H1.out;omega⟩,rfl⟩
       ·have b1:(r.2 == 0) = false:=by simp [h1]
        have H1:=Lib.hid h1
        clear h1
        go_wp2_with fail
        go_meet
        case rel=>exact ⟨true,rfl,rfl,rfl,⟨fun _=>.inl H1.out,fun _=>rfl⟩,rfl⟩
      case rest =>
       obtain ⟨b,rfl,rfl,rfl,hb,rfl⟩:=hcut
       cases b with
       | true =>
        obtain ⟨m0,a0⟩:=CF.out.no (hb.1 rfl)
        rw [m0,a0] at CF ⊢
        clear hb
        go_upto_region 23 with fail
        have FD:=Lib.hid (show Fr noB w11 w11.drew from (Fr.refl noB w11).drew)
        have hF0:=keep _ _ FD.out HF11.out
        have NC:=next_call (D11.out.fr0 FD.out)
        have hR:=CF.out.R
        refine wp_region_M 5 6 [⟨77371252455336267181195264,8,0⟩,⟨154742504910672534362390528,77371252455336267181195264,1⟩,⟨309485009821345068724781056,154742504910672534362390528,2⟩,⟨618970019642690137449562112,64,0⟩,⟨1237940039285380274899124224,618970019642690137449562112,8⟩,⟨2475880078570760549798248448,1547425049106725343623905280,20⟩] [(true,0),(true,3),(true,4),(false,1),(true,2)] (fun w'=>w'.cell? ⟨N,0,none⟩ = some (.int .i64 D.next.T) ∧ w'.cell? ⟨N,1,none⟩ = some (.int .i64 D.next.R)) (by kernel_rfl) rfl (by kernel_rfl) (by kernel_rfl) (by kernel_rfl) hF0 (fun hA hF=>?_)
        clear hF0
        iterate 3
         refine wpAnyS_take (v:=?_) hA rfl (fun _ _ _ h=>h) (Or.inl ⟨by rfl,?_⟩) hF (fun hA=>?_)
         rotate_left
         ·intro wS hSw;(try dsimp only at hSw);obtain ⟨s1,s2⟩:=hSw;first | (apply Eq.trans;apply ex_ldS_at;exact rfl;exact rfl;assumption;with_reducible rfl) | (go_simp;try with_reducible rfl)
         try simp only [sA1,sA2,sA3,Act.put,sA4,sA5,sA6]
        refine wpAnyS_one hA rfl (fun K' hK=>?_)
        go_simp
        go_at_call 15
        refine NC.mono ?_
        rintro e u1 ⟨rfl,fu⟩
        replace hF:=keep _ _ fu hF
        refine hK.out _ _ hF (fun hA=>?_)
        clear hK K'
        try simp only [sA1,sA2,sA3,Act.put,sA4,sA5,sA6]
        refine wpAnyS_take (v:=?_) hA rfl (fun _ _ _ h=>h) (Or.inl ⟨by rfl,?_⟩) hF (fun hA=>?_)
        rotate_left
        ·intro wS hSw;(try dsimp only at hSw);obtain ⟨s1,s2⟩:=hSw;first | (apply Eq.trans;apply ex_ldS_at;exact rfl;exact rfl;assumption;with_reducible rfl) | (go_simp;try with_reducible rfl)
        try simp only [sA1,sA2,sA3,Act.put,sA4,sA5,sA6]
        refine wpAnyS_end hA rfl ?_
        simp only [List.drop_succ_cons,List.drop_zero]
        try rw [hR]
        have D12:=Lib.hid (D11.out.fr0 (FD.out.step0 fu))
        have F12:=Lib.hid (F11.out.step0 (FD.out.step0 fu))
        have HWK:=Lib.hid (IntWalk.wrap64_in ((k:Int) + 1) (by have:=HL.out;have:=HLT.out;omega))
        clear fu hF NC FD hR keep
        go_wp2_with fail
        go_roundg (l.length - (k + 1))
        case measure=>have:=HLT.out;omega
        case rel=>exact ⟨k + 1,r.1,d8,rs8,by first | (simp;done) | (rw [HWK.out];rfl) | exact congrArg (Value.int .i64) HWK.out,rfl,by have:=HLT.out;omega,D12.out,HTN.out.1,HTN.out.2,F12.out⟩
       | false =>
        have hr0:r.2 = 0 ∧ 1 ≤ o.Kind ∧ o.Kind ≤ 3:=by
         have h:¬ (r.2 ≠ 0 ∨ o.Kind < 1 ∨ 3 < o.Kind):=fun h=>by have:=hb.2 h;cases this
         omega
        clear hb
        by_cases h1:o.Kind = 1
        ·have b1:(o.Kind == 1) = true:=by simp [h1]
         have hma:=CF.out.put hr0.1 h1
         have hwa1:wrap64 (a + 1) = a + 1:=IntWalk.wrap64_in _ (by have:=CF.out.a0;omega)
         rw [hma] at CF ⊢
         clear h1 hr0
         go_upto_region 23 with fail
         have FD:=Lib.hid (show Fr noB w11 w11.drew from (Fr.refl noB w11).drew)
         have hF0:=keep _ _ FD.out HF11.out
         have NC:=next_call (D11.out.fr0 FD.out)
         have hR:=CF.out.R
         refine wp_region_M 5 6 [⟨77371252455336267181195264,8,0⟩,⟨154742504910672534362390528,77371252455336267181195264,1⟩,⟨309485009821345068724781056,154742504910672534362390528,2⟩,⟨618970019642690137449562112,64,0⟩,⟨1237940039285380274899124224,618970019642690137449562112,8⟩,⟨2475880078570760549798248448,1547425049106725343623905280,20⟩] [(true,0),(true,3),(true,4),(false,1),(true,2)] (fun w'=>w'.cell? ⟨N,0,none⟩ = some (.int .i64 D.next.T) ∧ w'.cell? ⟨N,1,none⟩ = some (.int .i64 D.next.R)) (by kernel_rfl) rfl (by kernel_rfl) (by kernel_rfl) (by kernel_rfl) hF0 (fun hA hF=>?_)
         clear hF0
         iterate 3
          refine wpAnyS_take (v:=?_) hA rfl (fun _ _ _ h=>h) (Or.inl ⟨by rfl,?_⟩) hF (fun hA=>?_)
          rotate_left
          ·intro wS hSw;(try dsimp only at hSw);obtain ⟨s1,s2⟩:=hSw;first | (apply Eq.trans;apply ex_ldS_at;exact rfl;exact rfl;assumption;with_reducible rfl) | (go_simp;try with_reducible rfl)
          try simp only [sA1,sA2,sA3,Act.put,sA4,sA5,sA6]
         refine wpAnyS_one hA rfl (fun K' hK=>?_)
         go_simp
         go_at_call 15
         refine NC.mono ?_
         rintro e u1 ⟨rfl,fu⟩
         replace hF:=keep _ _ fu hF
         refine hK.out _ _ hF (fun hA=>?_)
         clear hK K'
         try simp only [sA1,sA2,sA3,Act.put,sA4,sA5,sA6]
         refine wpAnyS_take (v:=?_) hA rfl (fun _ _ _ h=>h) (Or.inl ⟨by rfl,?_⟩) hF (fun hA=>?_)
         rotate_left
         ·intro wS hSw;(try dsimp only at hSw);obtain ⟨s1,s2⟩:=hSw;first | (apply Eq.trans;apply ex_ldS_at;exact rfl;exact rfl;assumption;with_reducible rfl) | (go_simp;try with_reducible rfl)
         try simp only [sA1,sA2,sA3,Act.put,sA4,sA5,sA6]
         refine wpAnyS_end hA rfl ?_
         simp only [List.drop_succ_cons,List.drop_zero]
         try rw [hR]
         have D12:=Lib.hid (D11.out.fr0 (FD.out.step0 fu))
         have F12:=Lib.hid (F11.out.step0 (FD.out.step0 fu))
         have HWK:=Lib.hid (IntWalk.wrap64_in ((k:Int) + 1) (by have:=HL.out;have:=HLT.out;omega))
         clear fu hF NC FD hR keep
         go_wp2_with fail
         go_roundg (l.length - (k + 1))
         case measure=>have:=HLT.out;omega
         case rel=>exact ⟨k + 1,r.1,d8,rs8,by first | (simp;done) | (rw [HWK.out];rfl) | exact congrArg (Value.int .i64) HWK.out,rfl,by have:=HLT.out;omega,D12.out,HTN.out.1,HTN.out.2,F12.out⟩
        ·have b1:(o.Kind == 1) = false:=by simp [h1]
         obtain ⟨m0,a0⟩:=CF.out.one hr0.1 (by omega) hr0.2.2
         rw [m0,a0] at CF ⊢
         clear h1 hr0
         go_upto_region 23 with fail
         have FD:=Lib.hid (show Fr noB w11 w11.drew from (Fr.refl noB w11).drew)
         have hF0:=keep _ _ FD.out HF11.out
         have NC:=next_call (D11.out.fr0 FD.out)
         have hR:=CF.out.R
         refine wp_region_M 5 6 [⟨77371252455336267181195264,8,0⟩,⟨154742504910672534362390528,77371252455336267181195264,1⟩,⟨309485009821345068724781056,154742504910672534362390528,2⟩,⟨618970019642690137449562112,64,0⟩,⟨1237940039285380274899124224,618970019642690137449562112,8⟩,⟨2475880078570760549798248448,1547425049106725343623905280,20⟩] [(true,0),(true,3),(true,4),(false,1),(true,2)] (fun w'=>w'.cell? ⟨N,0,none⟩ = some (.int .i64 D.next.T) ∧ w'.cell? ⟨N,1,none⟩ = some (.int .i64 D.next.R)) (by kernel_rfl) rfl (by kernel_rfl) (by kernel_rfl) (by kernel_rfl) hF0 (fun hA hF=>?_)
         clear hF0
         iterate 3
          refine wpAnyS_take (v:=?_) hA rfl (fun _ _ _ h=>h) (Or.inl ⟨by rfl,?_⟩) hF (fun hA=>?_)
          rotate_left
          ·intro wS hSw;(try dsimp only at hSw);obtain ⟨s1,s2⟩:=hSw;first | (apply Eq.trans;apply ex_ldS_at;exact rfl;exact rfl;assumption;with_reducible rfl) | (go_simp;try with_reducible rfl)
          try simp only [sA1,sA2,sA3,Act.put,sA4,sA5,sA6]
         refine wpAnyS_one hA rfl (fun K' hK=>?_)
         go_simp
         go_at_call 15
         refine NC.mono ?_
         rintro e u1 ⟨rfl,fu⟩
         replace hF:=keep _ _ fu hF
         refine hK.out _ _ hF (fun hA=>?_)
         clear hK K'
         try simp only [sA1,sA2,sA3,Act.put,sA4,sA5,sA6]
         refine wpAnyS_take (v:=?_) hA rfl (fun _ _ _ h=>h) (Or.inl ⟨by rfl,?_⟩) hF (fun hA=>?_)
         rotate_left
         ·intro wS hSw;(try dsimp only at hSw);obtain ⟨s1,s2⟩:=hSw;first | (apply Eq.trans;apply ex_ldS_at;exact rfl;exact rfl;assumption;with_reducible rfl) | (go_simp;try with_reducible rfl)
         try simp only [sA1,sA2,sA3,Act.put,sA4,sA5,sA6]
         refine wpAnyS_end hA rfl ?_
         simp only [List.drop_succ_cons,List.drop_zero]
         try rw [hR]
         have D12:=Lib.hid (D11.out.fr0 (FD.out.step0 fu))
         have F12:=Lib.hid (F11.out.step0 (FD.out.step0 fu))
         have HWK:=Lib.hid (IntWalk.wrap64_in ((k:Int) + 1) (by have:=HL.out;have:=HLT.out;omega))
         clear fu hF NC FD hR keep
         go_wp2_with fail
         go_roundg (l.length - (k + 1))
         case measure=>have:=HLT.out;omega
         case rel=>exact ⟨k + 1,r.1,d8,rs8,by first | (simp;done) | (rw [HWK.out];rfl) | exact congrArg (Value.int .i64) HWK.out,rfl,by have:=HLT.out;omega,D12.out,HTN.out.1,HTN.out.2,F12.out⟩
   ·have hke:k = l.length:=by omega
    have i1:¬ (k:Int) < (l.length:Int):=by omega
    go_wp2_with fail
    go_ret
    exact ⟨rfl,FW.out.step0 HF.out⟩
theorem lawClocks17 (W:World) (hT:HasT W) (hM:HasMW W) (A:Option Addr) (c:Nat) (l:List OpL) (hs:Sl W A (codLp.row l)) (hb:l.length ≤ 140737488355328) :
  Calls Tryz.prog 7 #[.slice A l.length c] W (Gives W (.bool true)):=clocks_any W hT hM A c _ l rfl hs hb
end Go.Proofs.YthehiobacjjakaaGreatDoor
